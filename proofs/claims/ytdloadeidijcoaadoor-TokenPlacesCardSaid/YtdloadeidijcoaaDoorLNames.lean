/- DERIVED. The law TokenNames, walked. -/
import Derived.Test.YtdloadeidijcoaaDoorName
set_option linter.unusedSimpArgs false
set_option linter.unusedVariables false
namespace Go.Proofs.YtdloadeidijcoaaDoor
open Go.RowKit Go.Shelf

set_option maxRecDepth 100000 in
set_option maxHeartbeats 2000000 in
theorem place_any (t : List UInt8) (i : Int) (w : World) (ht : t.length ≤ 1000000) : Calls Tryd.prog 19 #[strV t, .int .i64 i] w fun e w' => e = .returned (PlaceR t i) ∧ w = w' := by
  by_cases hi : 0 ≤ i ∧ i ≤ t.length
  · obtain ⟨n, rfl⟩ := Int.eq_ofNat_of_zero_le hi.1
    have hn : n ≤ t.length := by omega
    have hpl := pl_count t n hn
    have hext : (⟨t.toArray⟩ : ByteArray).extract 0 n = ⟨(t.take n).toArray⟩ := by
      rw [ext_str]; simp
    have hcnt := Tryd.strings_Count_one ⟨(t.take n).toArray⟩ 10 w
    have hlst := Tryd.strings_LastIndexByte ⟨(t.take n).toArray⟩ 10 (by show (t.take n).length < _; rw [List.length_take]; omega) w
    have hlx : Lib.lastIndexByte ⟨(t.take n).toArray⟩ 10 = Lib.lastIdx ⟨t.toArray⟩ 10 n := by
      have hp2 := pl_count (t.take n) n (by rw [List.length_take]; omega)
      rw [List.take_take, Nat.min_self] at hp2
      unfold Lib.lastIndexByte
      rw [show (⟨(t.take n).toArray⟩ : ByteArray).size = n by show (t.take n).length = n; rw [List.length_take]; omega]
      have := hp2.2
      have := hpl.2
      omega
    rw [hlx] at hlst
    have hb := pl_le (t.take n)
    have hlen : (t.take n).length = n := by rw [List.length_take]; omega
    rw [hlen] at hb
    have HR : Hid (PlaceR t n = .tuple #[.int .i64 (1 + ((t.take n).count 10 : Int)), .int .i64 ((n : Int) - Lib.lastIdx ⟨t.toArray⟩ 10 n), .int .i64 0]) := Lib.hid (by
      unfold PlaceR
      rw [if_pos ⟨by omega, by omega⟩]
      simp only [Int.toNat_natCast]
      rw [hpl.1, ← hpl.2]; simp)
    have hc1 : (t.take n).count 10 ≤ 1000000 := by have := hpl.1; omega
    have hcb : Lib.countByte (t.take n) 10 = (t.take n).count 10 := rfl
    have hx1 : (n : Int) - Lib.lastIdx ⟨t.toArray⟩ 10 n ≤ 1000001 := by have := hpl.2; omega
    have hx0 : 0 ≤ (n : Int) - Lib.lastIdx ⟨t.toArray⟩ 10 n := by have := hpl.2; omega
    rw [hcb] at hcnt
    generalize (t.take n).count 10 = C at *
    generalize Lib.lastIdx ⟨t.toArray⟩ 10 n = X at *
    generalize t.take n = q at *
    clear hpl hb hi hlx hlen hcb
    unfold strV
    go_enter Tryd.func19, Tryd.ntmps19
    go_wp2_with (first
      | (go_at_call 45; refine hcnt.mono ?_; rintro e w' ⟨rfl, rfl⟩; clear hcnt)
      | (go_at_call 46; refine hlst.mono ?_; rintro e w' ⟨rfl, rfl⟩; clear hlst))
    go_ret3
    exact ⟨by rw [HR.out]; rfl, rfl⟩
  · have HR : Hid (PlaceR t i = .tuple #[.int .i64 0, .int .i64 0, .int .i64 4]) := Lib.hid (by unfold PlaceR; rw [if_neg hi])
    by_cases h0 : i < 0
    · have f0 : decide (i < 0) = true := decide_eq_true h0
      clear hi h0
      unfold strV
      go_enter Tryd.func19, Tryd.ntmps19
      go_wp2
      go_ret3
      exact ⟨by rw [HR.out]; rfl, rfl⟩
    · have f0 : decide (i < 0) = false := decide_eq_false h0
      have f1 : decide ((t.length : Int) < i) = true := decide_eq_true (by omega)
      clear hi h0
      unfold strV
      go_enter Tryd.func19, Tryd.ntmps19
      go_wp2
      go_ret3
      exact ⟨by rw [HR.out]; rfl, rfl⟩
set_option maxRecDepth 100000 in
set_option maxHeartbeats 2000000 in
theorem rplace_any (t : List UInt8) (i : Int) (w : World) (ht : t.length ≤ 1000000) : Calls Tryd.prog 20 #[strV t, .int .i64 i] w fun e w' => e = .returned (PlaceR t i) ∧ w = w' := by
  by_cases hi : 0 ≤ i ∧ i ≤ t.length
  · obtain ⟨n, rfl⟩ := Int.eq_ofNat_of_zero_le hi.1
    have hn : n ≤ t.length := by omega
    have HR : Hid (PlaceR t n = .tuple #[.int .i64 ((plL (t.take n)).1 : Int), .int .i64 ((plL (t.take n)).2 : Int), .int .i64 0]) := Lib.hid (by
      unfold PlaceR
      rw [if_pos ⟨by omega, by omega⟩]
      simp only [Int.toNat_natCast])
    clear hi
    unfold strV
    go_enter Tryd.func20, Tryd.ntmps20
    go_wp2
    go_loop [7, 8, 9] (fun a b v => ∃ (k l c : Nat), k ≤ n ∧ l ≤ 1000001 ∧ c ≤ 1000001 ∧ a = .int .i64 l ∧ b = .int .i64 c ∧ v = .int .i64 k ∧ Hid (plL (t.take k) = (l, c))) (fun _ _ v => n - (intOf v).toNat)
    case atStart => exact ⟨0, 1, 1, by omega, by omega, by omega, rfl, rfl, rfl, Lib.hid (by simp [plL])⟩
    case round =>
      obtain ⟨k, l, c, hk, hl, hc, rfl, rfl, rfl, HK⟩ := hrel
      by_cases hlt : k < n
      · obtain ⟨d, hd⟩ := get_some (xs := t) (k := k) (by omega)
        have hidx := idx_str t k d hd
        have hkt : k < t.length := by omega
        have HS : Hid (plL (t.take (k + 1)) = plStep (l, c) d) := Lib.hid (by rw [List.take_add_one, hd]; show plL (t.take k ++ [d]) = _; rw [pl_snoc, HK.out])
        have hb := pl_le (t.take (k + 1))
        rw [HS.out] at hb
        have hlk : (t.take (k + 1)).length = k + 1 := by rw [List.length_take]; omega
        rw [hlk] at hb
        clear hd hlk
        by_cases h10 : d = 10
        · have f10 : ((d.toNat : Int) == 10) = true := by rw [h10]; rfl
          have HS2 : Hid (plL (t.take (k + 1)) = (l + 1, 1)) := Lib.hid (by rw [HS.out, plStep, if_pos h10])
          rw [plStep, if_pos h10] at hb
          simp only at hb
          clear h10
          go_wp2
          go_round
          case rel => exact ⟨k + 1, l + 1, 1, by omega, by omega, by omega, by go_num, rfl, by go_num, HS2⟩
          case measure => simp [intOf]; omega
        · have f10 : ((d.toNat : Int) == 10) = false := u8_ne h10
          have HS2 : Hid (plL (t.take (k + 1)) = (l, c + 1)) := Lib.hid (by rw [HS.out, plStep, if_neg h10])
          rw [plStep, if_neg h10] at hb
          simp only at hb
          clear h10
          go_wp2
          go_round
          case rel => exact ⟨k + 1, l, c + 1, by omega, by omega, by omega, rfl, by go_num, by go_num, HS2⟩
          case measure => simp [intOf]; omega
      · obtain rfl : k = n := by omega
        go_wp2
        go_ret3
        exact ⟨by rw [HR.out, HK.out]; rfl, rfl⟩
  · have HR : Hid (PlaceR t i = .tuple #[.int .i64 0, .int .i64 0, .int .i64 4]) := Lib.hid (by unfold PlaceR; rw [if_neg hi])
    by_cases h0 : i < 0
    · have f0 : decide (i < 0) = true := decide_eq_true h0
      clear hi h0
      unfold strV
      go_enter Tryd.func20, Tryd.ntmps20
      go_wp2
      go_ret3
      exact ⟨by rw [HR.out]; rfl, rfl⟩
    · have f0 : decide (i < 0) = false := decide_eq_false h0
      have f1 : decide ((t.length : Int) < i) = true := decide_eq_true (by omega)
      clear hi h0
      unfold strV
      go_enter Tryd.func20, Tryd.ntmps20
      go_wp2
      go_ret3
      exact ⟨by rw [HR.out]; rfl, rfl⟩
theorem strs_get {w : World} {b o n : Nat} {ws : List (List UInt8)} (h : Strs w (some ⟨b, o, none⟩) n ws) : ∀ j, j < (ws.map (fun l => (⟨l.toArray⟩ : ByteArray))).length → w.cell? ⟨b, o + j, none⟩ = some (.string ((ws.map (fun l => (⟨l.toArray⟩ : ByteArray))).getD j ByteArray.empty)) := by
  intro j hj
  rw [List.length_map] at hj
  obtain ⟨x, hx⟩ := get_some hj
  obtain ⟨b', o', e, _, hc⟩ := h.at_ j x hx
  cases e
  rw [hc, List.getD_eq_getElem?_getD, List.getElem?_map, hx]
  rfl
theorem eqs_any (b o n c b' o' c' : Nat) (ws : List (List UInt8)) (w : World) (h : Strs w (some ⟨b, o, none⟩) n ws) (h' : Strs w (some ⟨b', o', none⟩) n ws) (hn : n ≤ 1000) :
    Calls Tryd.prog 23 #[.slice (some ⟨b, o, none⟩) n c, .slice (some ⟨b', o', none⟩) n c'] w fun e w' => e = .returned (.bool true) ∧ Below w.heap.size w w' := by
  have hl := h.len
  refine (Tryd.slices_Equal_string b o n c b' o' n c' (ws.map (fun l => ⟨l.toArray⟩)) (ws.map (fun l => ⟨l.toArray⟩)) w (by rw [List.length_map]; omega) (by rw [List.length_map]; omega) (by omega) (by omega) (strs_get h) (strs_get h')).mono ?_
  rintro e w' ⟨rfl, q, rfl⟩
  exact ⟨ret_bool (by simp), below_draw (Below.refl _ _) q⟩
theorem rkeys_at (w : World) : Calls Tryd.prog 25 #[] w fun e w' => ∃ b o c, e = .returned (.slice (some ⟨b, o, none⟩) 52 c) ∧ Strs w' (some ⟨b, o, none⟩) 52 keyL ∧ Below w.heap.size w w' := by
  refine (rkeys_any w).mono ?_
  rintro e w' ⟨A, c, rfl, hs, hb⟩
  obtain ⟨b, o, rfl, _, _⟩ := hs.at_ 0 _ rfl
  exact ⟨b, o, c, rfl, hs, hb⟩
theorem rsigns_at (w : World) : Calls Tryd.prog 27 #[] w fun e w' => ∃ b c, e = .returned (.slice (some ⟨b, 0, none⟩) 31 c) ∧ Strs w' (some ⟨b, 0, none⟩) 31 signL ∧ Below w.heap.size w w' :=
  (rsigns_any w).mono fun e w' h => ⟨_, _, h⟩
theorem place_tuple (t : List UInt8) (i : Int) : ∃ a b c, PlaceR t i = .tuple #[.int .i64 a, .int .i64 b, .int .i64 c] := by
  unfold PlaceR
  split <;> exact ⟨_, _, _, rfl⟩
set_option maxRecDepth 100000 in
set_option maxHeartbeats 4000000 in
theorem tokenNames_any (s t : List UInt8) (i : Int) (w : World) (hV : Vars w) : Calls Tryd.prog 6 #[strV s, strV t, .int .i64 i] w fun e w' => e = .returned (.bool true) ∧ Below w.heap.size w w' := by
  have HV := Lib.hid hV
  have HAW : Hid (∀ W, Vars W → Calls Tryd.prog 8 #[] W fun e w' => e = .returned (.bool true) ∧ Below W.heap.size W w') := Lib.hid awake_any
  clear hV
  by_cases h1 : 3000 < s.length
  · have f1 : decide ((3000 : Int) < (s.length : Int)) = true := decide_eq_true (by omega)
    clear h1
    unfold strV
    go_enter Tryd.func6, Tryd.ntmps6
    go_wp2_with (go_at_call 8; refine (HAW.out w HV.out).mono ?_; rintro e w2 ⟨rfl, hb2⟩; have HB2 := Lib.hid hb2; clear hb2)
    go_ret
    exact ⟨rfl, HB2.out⟩
  · have f1 : decide ((3000 : Int) < (s.length : Int)) = false := decide_eq_false (by omega)
    by_cases h2 : 3000 < t.length
    · have f2 : decide ((3000 : Int) < (t.length : Int)) = true := decide_eq_true (by omega)
      clear h1 h2
      unfold strV
      go_enter Tryd.func6, Tryd.ntmps6
      go_wp2_with (go_at_call 8; refine (HAW.out w HV.out).mono ?_; rintro e w2 ⟨rfl, hb2⟩; have HB2 := Lib.hid hb2; clear hb2)
      go_ret
      exact ⟨rfl, HB2.out⟩
    · have f2 : decide ((3000 : Int) < (t.length : Int)) = false := decide_eq_false (by omega)
      have hp := place_any t i w (by omega)
      have hr := rplace_any t i w (by omega)
      obtain ⟨a, b, c, hP⟩ := place_tuple t i
      rw [hP] at hp hr
      have hn := isName_any s w (by omega) HV.out
      have HRN := Lib.hid (fun W => risName_any s W (by omega))
      clear h1 h2 hP
      generalize nameB s = NB at *
      unfold strV at *
      go_enter Tryd.func6, Tryd.ntmps6
      go_wp2_with (first
        | (go_at_call 19; refine hp.mono ?_; rintro e w' ⟨rfl, rfl⟩; clear hp)
        | (go_at_call 20; refine hr.mono ?_; rintro e w' ⟨rfl, rfl⟩; clear hr)
        | (go_at_call 21; refine hn.mono ?_; rintro e w2 ⟨rfl, hb2⟩; have HB2 := Lib.hid hb2; clear hn hb2)
        | (go_at_call 22; refine (HRN.out w2).mono ?_; rintro e w3 ⟨rfl, hb3⟩; have HB3 := Lib.hid (HB2.out.trans (hb3.mono HB2.out.size)); clear hb3)
        | (go_at_call 24
           refine (keys_at w3 (HV.out.below HB3.out)).mono ?_
           rintro e w4 ⟨g4, rfl, hs4, hb4⟩
           have HS4 := Lib.hid hs4
           have HB4 := Lib.hid (HB3.out.trans (hb4.mono HB3.out.size))
           clear hs4 hb4)
        | (go_at_call 25
           refine (rkeys_at w4).mono ?_
           rintro e w5 ⟨g5, o5, c5, rfl, hs5, hb5⟩
           have heq := eqs_any g4 0 52 52 g5 o5 c5 keyL w5 (HS4.out.below hb5) hs5 (by omega)
           have HB5 := Lib.hid (HB4.out.trans (hb5.mono HB4.out.size))
           clear hs5 hb5)
        | (go_at_call 23
           first
             | (refine heq.mono ?_; rintro e w6 ⟨rfl, hb6⟩; have HB6 := Lib.hid (HB5.out.trans (hb6.mono HB5.out.size)); clear hb6 heq)
             | (refine heq2.mono ?_; rintro e w9 ⟨rfl, hb9⟩; have HB9 := Lib.hid (HB8.out.trans (hb9.mono HB8.out.size)); clear hb9 heq2))
        | (go_at_call 26
           refine (signs_at w6 (HV.out.below HB6.out)).mono ?_
           rintro e w7 ⟨g7, rfl, hs7, hb7⟩
           have HS7 := Lib.hid hs7
           have HB7 := Lib.hid (HB6.out.trans (hb7.mono HB6.out.size))
           clear hs7 hb7)
        | (go_at_call 27
           refine (rsigns_at w7).mono ?_
           rintro e w8 ⟨g8, c8, rfl, hs8, hb8⟩
           have heq2 := eqs_any g7 0 31 31 g8 0 c8 signL w8 (HS7.out.below hb8) hs8 (by omega)
           have HB8 := Lib.hid (HB7.out.trans (hb8.mono HB7.out.size))
           clear hs8 hb8)
        | (go_at_call 8; refine (HAW.out w9 (HV.out.below HB9.out)).mono ?_; rintro e w10 ⟨rfl, hb10⟩; have HB10 := Lib.hid (HB9.out.trans (hb10.mono HB9.out.size)); clear hb10))
      go_ret
      exact ⟨rfl, HB10.out⟩
end Go.Proofs.YtdloadeidijcoaaDoor
