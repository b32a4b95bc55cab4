/- DERIVED. How the tokens of a text stand: one step; pure. -/
import Derived.Test.YtdloadeidijcoaaDoorSpecAll
import Derived.Test.YtdloadeidijcoaaDoorRScan
set_option linter.unusedSimpArgs false
set_option linter.unusedVariables false
namespace Go.Proofs.YtdloadeidijcoaaDoor

theorem scan_bad_le (n : Nat) : ∀ (k : Nat) (l : List UInt8) (i : Nat) (e : Int), l.length ≤ k → scanL n l = .bad i e → i ≤ n ∧ e ≠ 0
  | _, [], i, e, _, h => by rw [scanL] at h; cases h
  | 0, _ :: _, _, _, hk, _ => by simp at hk
  | k + 1, c :: r, i, e, hk, h => by
    rcases scan_cases n c r with ⟨l', h1, _, h3⟩ | ⟨_, _, _, h3⟩ | ⟨_, _, ⟨e', ho, h3⟩ | ⟨t, r', ho, h2, h3⟩⟩
    · rw [h3] at h
      exact scan_bad_le n k l' i e (by simp only [List.length_cons] at h1 hk; omega) h
    · rw [h3] at h; cases h; exact ⟨by omega, by decide⟩
    · rw [h3] at h; cases h; exact ⟨by omega, one_err ho⟩
    · rw [h3] at h
      cases hs : scanL n r' with
      | ok l => rw [hs] at h; simp [Sc.cons] at h
      | bad j e'' =>
        rw [hs] at h
        simp only [Sc.cons, Sc.bad.injEq] at h
        obtain ⟨rfl, rfl⟩ := h
        exact scan_bad_le n k r' j e'' (by simp only [List.length_cons] at h2 hk; omega) hs
theorem scan_none {n : Nat} {l : List UInt8} (h : scanL n l = .ok []) (m : Nat) : scanL m l = .ok [] := by
  rcases scan_split n l.length l [] (Nat.le_refl _) h with ⟨_, hg⟩ | ⟨t, ts', x, r, e, _⟩
  · rw [scan_gap hg, scanL]
  · cases e
/-- what is known of the next token -/
structure PlAt (t : List UInt8) (k p : Nat) (x : Tok) (rest : List Tok) : Prop where
  le : k ≤ p
  lt : p < t.length
  at_ : x.at_ = p
  right : rightB x = true
  len : x.text.length ≤ t.length
  gap : ∀ m, scanL m ((t.drop k).take (p - k)) = .ok []
  next : (x.kind ≠ 4 ∧ x.text ≠ [] ∧ p + x.text.length ≤ t.length ∧ (t.drop p).take x.text.length = x.text ∧ scanL t.length (t.drop (p + x.text.length)) = .ok rest) ∨
    (x.kind = 4 ∧ ∃ E, E = p + 1 + endQ (t.drop (p + 1)) ∧ E < t.length ∧ scanL t.length (t.drop (E + 1)) = .ok rest)
theorem places_step {t : List UInt8} {k : Nat} {x : Tok} {rest : List Tok} (hk : k ≤ t.length) (h : scanL t.length (t.drop k) = .ok (x :: rest)) : ∃ p, PlAt t k p x rest := by
  rcases scan_split t.length _ _ _ (Nat.le_refl _) h with ⟨e, _⟩ | ⟨x', ts', y, r, e, hg, hy, h10, ho, hrl, hs⟩
  · cases e
  · cases e
    obtain ⟨g, hgy⟩ := gap_suffix hg
    have hga := gap_alone hg (.inr h10) g hgy
    have hyl : y.length ≤ (t.drop k).length := by rw [hgy]; simp
    rw [List.length_drop] at hyl
    have hyp : 0 < y.length := List.length_pos_iff.2 hy
    have hye : y = t.drop (t.length - y.length) := suf_drop (k := k) ⟨g, hgy.symm⟩
    obtain ⟨p, hp⟩ : ∃ p, t.length - y.length = p := ⟨_, rfl⟩
    rw [hp] at hye ho
    have hgl : g.length = p - k := by
      have := congrArg List.length hgy
      rw [List.length_drop, List.length_append] at this; omega
    have hgt : (t.drop k).take (p - k) = g := by rw [hgy, ← hgl, List.take_left]
    obtain ⟨hr, hat, htx⟩ := one_right ho (by omega)
    have hln := (one_len ho (by omega)).2
    refine ⟨p, by omega, by omega, hat, hr, by omega, fun m => by rw [hgt, scan_gap hga, scanL], ?_⟩
    by_cases h4 : x.kind = 4
    · refine .inr ⟨h4, ?_⟩
      obtain ⟨c, q, hcq⟩ := List.exists_cons_of_ne_nil hy
      have hq1 : t.drop (p + 1) = q := by rw [← List.drop_drop, ← hye, hcq]; rfl
      rw [hcq] at ho
      unfold oneL at ho
      simp only [] at ho
      split at ho
      · split at ho
        · cases ho
        · split at ho <;> (cases ho; simp at h4)
      · split at ho
        · split at ho
          · cases ho
          · cases ho; simp at h4
        · split at ho
          · split at ho
            · cases ho
            · rename_i s r' hquo
              cases ho
              obtain ⟨e1, e2⟩ := end_quo _ _ _ _ (Nat.le_refl _) hquo
              have hql : q.length = t.length - (p + 1) := by rw [← hq1, List.length_drop]
              refine ⟨p + 1 + endQ q, by rw [hq1], by omega, ?_⟩
              rw [show p + 1 + endQ q + 1 = (p + 1) + (endQ q + 1) by omega, ← List.drop_drop, hq1, e2]
              exact hs
          · split at ho
            · cases ho; simp at h4
            · cases ho
    · have htx2 := htx h4
      have hdr : t.drop (p + x.text.length) = r := by rw [← List.drop_drop, ← hye, htx2, List.drop_left]
      refine .inl ⟨h4, ?_, ?_, ?_, by rw [hdr]; exact hs⟩
      · intro e
        rw [e] at htx2
        have := congrArg List.length htx2
        simp at this; omega
      · have := congrArg List.length htx2
        rw [List.length_append] at this; omega
      · rw [← hye, htx2, List.take_left]
end Go.Proofs.YtdloadeidijcoaaDoor
