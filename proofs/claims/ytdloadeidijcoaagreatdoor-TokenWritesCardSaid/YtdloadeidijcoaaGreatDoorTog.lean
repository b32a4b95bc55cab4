/- DERIVED. The reference's question whether two tokens may stand together is the program's, turned. -/
import Derived.Test.YtdloadeidijcoaaGreatDoorJoin0
set_option linter.unusedSimpArgs false
set_option linter.unusedVariables false
namespace Go.Proofs.YtdloadeidijcoaaGreatDoor

def alikeT (x y : Tok) : Bool := x.kind == y.kind && x.text == y.text && x.value == y.value
/-- what together tells -/
def togB (a b : Tok) (s t : List UInt8) : Bool := match scanL (s ++ t).length (s ++ t) with
  | .ok [p, q] => alikeT p a && alikeT q b
  | _ => false
theorem slash_slash : scanL 2 [47, 47] = .ok [] := by decide +kernel
theorem slash_star : ∀ w ∈ signL, w.head? = some 42 → ∃ i e, scanL ([47] ++ w).length ([47] ++ w) = .bad i e := by
  intro w hw h
  have h2 : ∀ w ∈ signL, w.head? = some 42 → w = [42] ∨ w = [42, 61] := by decide +kernel
  rcases h2 w hw h with rfl | rfl
  · exact ⟨0, 112, by decide +kernel⟩
  · exact ⟨0, 112, by decide +kernel⟩
theorem slash_sign : ∀ w ∈ signL, w.head? = some 47 → w = [47] := by decide +kernel
theorem head_sign {b : Tok} (hb : rightB b = true) {c : UInt8} {q : List UInt8} (e : writeL b = c :: q) (hc : c = 47 ∨ c = 42) : b.kind = 5 := by
  rcases right_kind hb with h | h | h | h | h
  · have hw : writeL b = b.text := by unfold writeL; rw [if_neg (by omega)]
    obtain ⟨c1, q1, e1, h1, _, _⟩ := name_parts (right1 hb h)
    rw [hw, e1] at e; cases e
    rcases hc with rfl | rfl <;> exact absurd h1 (by decide)
  · have hw : writeL b = b.text := by unfold writeL; rw [if_neg (by omega)]
    obtain ⟨_, _, g3, g4⟩ := key_word _ (right2 hb h)
    rw [← hw, e, List.headD_cons] at g4
    rcases hc with rfl | rfl <;> exact absurd g4 (by decide)
  · have hw : writeL b = b.text := by unfold writeL; rw [if_neg (by omega)]
    obtain ⟨g1, g2⟩ := num_word (right3 hb h)
    rw [← hw, e, List.all_cons, Bool.and_eq_true] at g2
    rcases hc with rfl | rfl <;> exact absurd g2.1 (by decide)
  · unfold writeL at e; rw [if_pos h] at e
    cases e
    rcases hc with h | h <;> exact absurd h (by decide)
  · exact h
theorem two_first {a b : Tok} (ha : rightB a = true) (hb : rightB b = true) {p : Tok} {ts : List Tok} (h : scanL (writeL a ++ writeL b).length (writeL a ++ writeL b) = .ok (p :: ts)) (hp : p.text = a.text) : scanL (writeL a ++ writeL b).length (writeL a ++ writeL b) = .ok [a.put 0, b.put ((writeL a).length : Int)] := by
  have hp0 : p.at_ = 0 := by
    obtain ⟨c, q, e, h1, h2⟩ := write_head ha
    obtain ⟨d, q2, e2, _, _⟩ := write_head hb
    have hh := h
    rw [show writeL a ++ writeL b = c :: (q ++ writeL b) by rw [e]; rfl] at hh
    have hno : ¬ (c = 47 ∧ ((q ++ writeL b).head? = some 47 ∨ (q ++ writeL b).head? = some 42)) := by
      rintro ⟨rfl, h3⟩
      have ka := head_sign ha e (.inl rfl)
      have hwa : writeL a = a.text := by unfold writeL; rw [if_neg (by omega)]
      have hta := slash_sign _ (right5 ha ka) (by rw [← hwa, e]; rfl)
      rw [hwa, hta] at e
      cases e
      rw [List.nil_append, e2] at h3
      simp only [List.head?_cons, Option.some.injEq] at h3
      have kb := head_sign hb e2 h3
      have hwb : writeL b = b.text := by unfold writeL; rw [if_neg (by omega)]
      rcases h3 with rfl | rfl
      · have htb := slash_sign _ (right5 hb kb) (by rw [← hwb, e2]; rfl)
        rw [hwa, hta, hwb, htb] at h
        have := slash_slash
        rw [show ([47] ++ [47] : List UInt8) = [47, 47] from rfl] at h
        rw [show ([47, 47] : List UInt8).length = 2 from rfl, this] at h
        cases h
      · obtain ⟨i, er, h4⟩ := slash_star _ (right5 hb kb) (by rw [← hwb, e2]; rfl)
        rw [hwa, hta, hwb, h4] at h
        cases h
    have hsc : ∃ t r', oneL (((c :: (q ++ writeL b)).length - (c :: (q ++ writeL b)).length : Nat) : Int) (c :: (q ++ writeL b)) = .tok t r' ∧ p = t := by
      rcases ho : oneL (((c :: (q ++ writeL b)).length - (c :: (q ++ writeL b)).length : Nat) : Int) (c :: (q ++ writeL b)) with ⟨t, r'⟩ | e'
      · rw [scan_tok h1 hno ho] at hh
        obtain ⟨l', _, h5⟩ := cons_ok hh
        cases h5
        exact ⟨_, _, rfl, rfl⟩
      · rcases scan_cases (c :: (q ++ writeL b)).length c (q ++ writeL b) with ⟨l', h3, h4, h5⟩ | ⟨h3, h4, _⟩ | ⟨_, _, ⟨e3, h4, h5⟩ | ⟨t, r', h4, _⟩⟩
        · generalize q ++ writeL b = Q at *
          cases h4 with
          | refl => omega
          | white hw _ => rw [h1] at hw; cases hw
          | line _ => exact absurd ⟨rfl, .inl rfl⟩ hno
          | block _ _ => exact absurd ⟨rfl, .inr rfl⟩ hno
        · exact absurd ⟨h3, .inr h4⟩ hno
        · rw [h5] at hh; cases hh
        · rw [ho] at h4; cases h4
    obtain ⟨t, r', ho, rfl⟩ := hsc
    have := (one_right ho (by omega)).2.1
    rw [this, Nat.sub_self]; rfl
  have hbd := bd_of_scan ha hb hp0 hp h []
  rw [List.append_nil] at hbd
  have h1 := scan_write ha (writeL a ++ writeL b).length hbd
  have h2 := scan_write hb (writeL a ++ writeL b).length (r := []) (bd_space hb (.inl rfl))
  rw [List.append_nil, scanL] at h2
  rw [h1, h2]
  simp only [Sc.cons, Nat.sub_self, List.length_append, Nat.add_sub_cancel]
  rfl
theorem tog_apart {a b : Tok} (ha : rightB a = true) (hb : rightB b = true) : togB a b (writeL a) (writeL b) = !apartB a b := by
  unfold togB apartB
  by_cases h : scanL (writeL a ++ writeL b).length (writeL a ++ writeL b) = .ok [a.put 0, b.put ((writeL a).length : Int)]
  · rw [h]; simp [alikeT, Tok.put]
  · rw [decide_eq_true (show _ ≠ _ from h)]
    split
    · rename_i p q hs
      cases hq : alikeT p a && alikeT q b with
      | false => rfl
      | true =>
        exfalso
        simp only [Bool.and_eq_true] at hq
        have hp : p.text = a.text := by have := hq.1; simp only [alikeT, Bool.and_eq_true, beq_iff_eq] at this; exact this.1.2
        exact h (two_first ha hb hs hp)
    · rfl
end Go.Proofs.YtdloadeidijcoaaGreatDoor
