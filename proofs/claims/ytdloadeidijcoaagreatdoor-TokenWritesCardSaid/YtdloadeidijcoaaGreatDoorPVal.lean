/- DERIVED. The program's value. -/
import Derived.Test.YtdloadeidijcoaaGreatDoorPVars
import Derived.Test.YtdloadeidijcoaaGreatDoorPSpan
import Derived.Test.YtdloadeidijcoaaGreatDoorRTxt
import Derived.Lib.AtoiErrMem
set_option linter.unusedSimpArgs false
set_option linter.unusedVariables false
namespace Go.Proofs.YtdloadeidijcoaaGreatDoor
open Go.RowKit Go.Shelf

def foldD (r : List UInt8) (n : Nat) : Nat := r.foldl (fun n c => 10 * n + (c.toNat - 48)) n
theorem parse_digits : ∀ (r : List UInt8) (n : Nat), n < 18446744073709551616 → r.all digB = true → Lib.parseUint10 n r = if foldD r n < 18446744073709551616 then .ok (foldD r n) else .range
  | [], n, hn, _ => by simp [Lib.parseUint10, foldD, hn]
  | c :: r, n, hn, h => by
    rw [List.all_cons, Bool.and_eq_true] at h
    have hv := dig_val h.1
    have hge : 10 * n + (c.toNat - 48) ≤ foldD (c :: r) n := by
      have := fold_ge r (10 * n + (c.toNat - 48))
      have h1 : 1 ≤ 10 ^ r.length := Nat.one_le_pow _ _ (by omega)
      have h2 : (10 * n + (c.toNat - 48)) * 1 ≤ (10 * n + (c.toNat - 48)) * 10 ^ r.length := Nat.mul_le_mul_left _ h1
      show _ ≤ List.foldl _ _ _
      simp only [List.foldl_cons]
      omega
    rw [Lib.parseUint10, if_pos (by omega)]
    split
    · rw [if_neg (by omega)]
    · split
      · rw [if_neg (by omega)]
      · rw [show n * 10 + (c.toNat - 48) = 10 * n + (c.toNat - 48) by omega, parse_digits r _ (by omega) h.2]
        rfl
theorem atoi_num {s : List UInt8} (h0 : s ≠ []) (hd : s.all digB = true) : Lib.atoiAll s = if digitsV s ≤ 9223372036854775807 then .ok (digitsV s : Int) else .range := by
  cases s with
  | nil => exact absurd rfl h0
  | cons c r =>
    have hv := dig_val (by rw [List.all_cons, Bool.and_eq_true] at hd; exact hd.1)
    unfold Lib.atoiAll
    simp only []
    rw [if_neg (by omega), Lib.parseMag, if_neg (by simp), parse_digits _ 0 (by omega) hd]
    rw [show foldD (c :: r) 0 = digitsV (c :: r) from rfl]
    generalize digitsV (c :: r) = V
    by_cases h1 : V < 18446744073709551616
    · rw [if_pos h1]
      simp only []
      by_cases h2 : V ≤ 9223372036854775807
      · rw [if_pos h2, if_neg (by omega), if_neg (by omega), if_neg (by omega)]
      · rw [if_neg h2, if_pos (by omega)]
    · rw [if_neg h1, if_neg (by omega)]
theorem tw_len {p : UInt8 → Bool} : ∀ (s : List UInt8), (s.takeWhile p).length ≤ s.length ∧ ((s.takeWhile p).length = s.length ↔ s.all p = true)
  | [] => by simp
  | c :: s => by
    have ih := tw_len (p := p) s
    cases h : p c with
    | true => rw [List.takeWhile_cons_of_pos h, List.all_cons, h]; exact ⟨by simpa using ih.1, by simpa using ih.2⟩
    | false => rw [List.takeWhile_cons_of_neg (by simp [h]), List.all_cons, h]; simp
theorem ok_below {w w' : World} {T : TypeId} (h : w' = w ∨ ∃ t, w' = Lib.bytesWorld w T t) : Below w.heap.size w w' := by
  rcases h with rfl | ⟨t, rfl⟩
  · exact Below.refl _ _
  · exact Lib.bytesWorld_below _ _ _
set_option maxRecDepth 100000 in
set_option maxHeartbeats 2000000 in
theorem value_any (s : List UInt8) (w : World) (hs : s.length ≤ 1000000) (hV : Vars w) :
    Calls Tryz.prog 21 #[strV s] w fun e w' => NumRes s e ∧ Below w.heap.size w w' := by
  have HB0 := Lib.hid (Below.refl w.heap.size w)
  have hsp := span_digit s w hs
  unfold strV at *
  by_cases h0 : s = []
  · subst h0
    have HN : Hid (NumRes [] (.returned (.tuple #[.int .i64 0, .bool false]))) := Lib.hid (NumRes.none (by simp [numL]))
    clear hsp
    go_enter Tryz.func21, Tryz.ntmps21
    go_wp2
    go_ret2
    exact ⟨HN.out, HB0.out⟩
  have hl : 0 < s.length := List.length_pos_iff.2 h0
  obtain ⟨c, hc⟩ : ∃ c, s[0]? = some c := get_some hl
  have hidx := idx_str s 0 c hc
  have f0 : (s == []) = false := beq_eq_false_iff_ne.2 h0
  have H0 := Lib.hid h0
  clear h0
  by_cases hall : s.all digB = true
  · have f1 : (((s.takeWhile digB).length : Int) != (s.length : Int)) = false := by
      rw [((tw_len s).2).2 hall]; simp
    generalize ((s.takeWhile digB).length : Int) = L at *
    by_cases hz : c = 48 ∧ 1 < s.length
    · obtain ⟨rfl, h1⟩ := hz
      have f2 : decide ((1 : Int) < (s.length : Int)) = true := decide_eq_true (by omega)
      have HN : Hid (NumRes s (.returned (.tuple #[.int .i64 0, .bool false]))) := Lib.hid (NumRes.none (s := s) (by
        unfold numL
        rw [if_pos (.inr (.inr ⟨by rw [List.head?_eq_getElem?]; exact hc, h1⟩))]))
      clear hc hall
      go_enter Tryz.func21, Tryz.ntmps21
      go_wp2_with (go_at_call 37; refine hsp.mono ?_; rintro e w' ⟨rfl, rfl⟩; clear hsp)
      go_ret2
      exact ⟨HN.out, HB0.out⟩
    have HNL : Hid (numL s = if digitsV s ≤ 9223372036854775807 then some (digitsV s : Int) else none) := Lib.hid (by
      unfold numL
      rw [if_neg]
      simp only [not_or]
      exact ⟨H0.out, by simp [hall], fun h => hz ⟨by have := h.1; rw [List.head?_eq_getElem?, hc] at this; exact Option.some.inj this, h.2⟩⟩)
    have hat := atoi_num H0.out hall
    by_cases hmx : digitsV s ≤ 9223372036854775807
    · rw [if_pos hmx] at hat HNL
      have ha := Tryz.strconv_Atoi_ok ⟨s.toArray⟩ (by show s.length ≤ _; omega) (digitsV s) hat w
      have HN : Hid (NumRes s (.returned (.tuple #[.int .i64 (digitsV s), .bool true]))) := Lib.hid ⟨_, by rw [HNL.out]; rfl, fun n hn => by rw [HNL.out] at hn; exact Option.some.inj hn⟩
      clear hat hall hmx
      generalize ((digitsV s : Nat) : Int) = D at *
      have HZ : Hid (∀ h : c = 48, decide ((1 : Int) < (s.length : Int)) = false) := Lib.hid (fun h => decide_eq_false (fun h1 => hz ⟨h, by omega⟩))
      by_cases h48 : c = 48
      · have f3 : ((c.toNat : Int) == 48) = true := by rw [h48]; rfl
        have f4 := HZ.out h48
        clear hc hz h48
        go_enter Tryz.func21, Tryz.ntmps21
        go_wp2_with (first
          | (go_at_call 37; refine hsp.mono ?_; rintro e w' ⟨rfl, rfl⟩; clear hsp)
          | (go_at_call 39; refine (ha).mono ?_; rintro e w2 ⟨rfl, hw⟩; have HB1 : Hid (Below w.heap.size w w2) := Lib.hid (ok_below hw); clear hw ha))
        go_region
        go_wp2
        go_ret2
        exact ⟨by first | exact HN.out | exact HN.out _, below_draw HB1.out _⟩
      · have f3 : ((c.toNat : Int) == 48) = false := u8_ne h48
        clear hc hz h48
        go_enter Tryz.func21, Tryz.ntmps21
        go_wp2_with (first
          | (go_at_call 37; refine hsp.mono ?_; rintro e w' ⟨rfl, rfl⟩; clear hsp)
          | (go_at_call 39; refine (ha).mono ?_; rintro e w2 ⟨rfl, hw⟩; have HB1 : Hid (Below w.heap.size w w2) := Lib.hid (ok_below hw); clear hw ha))
        go_region
        go_wp2
        go_ret2
        exact ⟨by first | exact HN.out | exact HN.out _, below_draw HB1.out _⟩
    · rw [if_neg hmx] at hat HNL
      obtain ⟨tp, p, hr⟩ := hV.rng
      have ha := Tryz.strconv_Atoi_range_var ⟨s.toArray⟩ (by show s.length ≤ _; omega) hat tp p w hr
      have HN : Hid (∀ v, NumRes s (.returned (.tuple #[.int .i64 v, .bool false]))) := Lib.hid (fun v => ⟨v, by rw [HNL.out]; rfl, fun n hn => by rw [HNL.out] at hn; cases hn⟩)
      clear hat hall hmx hr hV
      generalize Lib.atoiSat _ = D at *
      have HZ : Hid (∀ h : c = 48, decide ((1 : Int) < (s.length : Int)) = false) := Lib.hid (fun h => decide_eq_false (fun h1 => hz ⟨h, by omega⟩))
      by_cases h48 : c = 48
      · have f3 : ((c.toNat : Int) == 48) = true := by rw [h48]; rfl
        have f4 := HZ.out h48
        clear hc hz h48
        go_enter Tryz.func21, Tryz.ntmps21
        go_wp2_with (first
          | (go_at_call 37; refine hsp.mono ?_; rintro e w' ⟨rfl, rfl⟩; clear hsp)
          | (go_at_call 39; refine (ha).mono ?_; rintro e w2 ⟨N, rfl, _, _, hw⟩; have HB1 : Hid (Below w.heap.size w w2) := Lib.hid hw; clear hw ha))
        go_region
        go_wp2
        go_ret2
        exact ⟨by first | exact HN.out | exact HN.out _, below_draw HB1.out _⟩
      · have f3 : ((c.toNat : Int) == 48) = false := u8_ne h48
        clear hc hz h48
        go_enter Tryz.func21, Tryz.ntmps21
        go_wp2_with (first
          | (go_at_call 37; refine hsp.mono ?_; rintro e w' ⟨rfl, rfl⟩; clear hsp)
          | (go_at_call 39; refine (ha).mono ?_; rintro e w2 ⟨N, rfl, _, _, hw⟩; have HB1 : Hid (Below w.heap.size w w2) := Lib.hid hw; clear hw ha))
        go_region
        go_wp2
        go_ret2
        exact ⟨by first | exact HN.out | exact HN.out _, below_draw HB1.out _⟩
  · have f1 : (((s.takeWhile digB).length : Int) != (s.length : Int)) = true := by
      rw [bne_iff_ne]; intro e; exact hall ((tw_len s).2.1 (by omega))
    generalize ((s.takeWhile digB).length : Int) = L at *
    have HN : Hid (NumRes s (.returned (.tuple #[.int .i64 0, .bool false]))) := Lib.hid (NumRes.none (s := s) (by
      unfold numL
      rw [if_pos (.inr (.inl (by simpa using hall)))]))
    clear hc hall
    go_enter Tryz.func21, Tryz.ntmps21
    go_wp2_with (go_at_call 37; refine hsp.mono ?_; rintro e w' ⟨rfl, rfl⟩; clear hsp)
    go_ret2
    exact ⟨HN.out, HB0.out⟩
end Go.Proofs.YtdloadeidijcoaaGreatDoor
