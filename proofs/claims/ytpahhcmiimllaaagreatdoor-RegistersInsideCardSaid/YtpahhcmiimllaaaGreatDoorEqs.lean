/- DERIVED. slices.Equal, Contains at ints; slices.Equal at intervals; Spills. -/
import Derived.Test.YtpahhcmiimllaaaGreatDoorAlo5
import Derived.Test.YtpahhcmiimllaaaGreatDoorSpecAll
set_option linter.unusedSimpArgs false
set_option linter.unusedVariables false
namespace Go.Proofs.YtpahhcmiimllaaaGreatDoor
open Go.RowKit Go.Shelf

theorem take_ne {α : Type} {xs ys : List α} {k : Nat} {x y : α} (hx : xs[k]? = some x) (hy : ys[k]? = some y) (h : x ≠ y) : xs ≠ ys := by
  rintro rfl
  rw [hx] at hy
  exact h (Option.some.inj hy)
theorem getD_some {xs : List Int} {j : Nat} (hj : j < xs.length) : xs[j]? = some (xs.getD j 0) := by
  rw [List.getD_eq_getElem?_getD, List.getElem?_eq_getElem hj]; rfl
theorem rd_cells {w : World} {b o n : Nat} {xs : List Int} (h : Rd encI 1 w (some ⟨b, o, none⟩) n xs) : ∀ j, j < xs.length → w.cell? ⟨b, o + j, none⟩ = some (.int .i64 (xs.getD j 0)) := fun j hj => by
  obtain ⟨b', o', e, _, hc⟩ := h.at_ j _ (getD_some hj)
  cases e
  have := hc 0 _ rfl
  rwa [Nat.mul_one, Nat.add_zero] at this
theorem rd_form {w : World} {A : Option Addr} {n : Nat} {xs : List Int} (h : Rd encI 1 w A n xs) (h0 : n ≠ 0) : ∃ b o, A = some ⟨b, o, none⟩ := by
  obtain ⟨x, hx⟩ := get_some (xs := xs) (k := 0) (by have := h.len; omega)
  obtain ⟨b, o, e, _⟩ := h.at_ 0 x hx
  exact ⟨b, o, e⟩
theorem containsI_any (A : Option Addr) (n c : Nat) (xs : List Int) (x : Int) (w : World) (h : Rd encI 1 w A n xs) (hn : n ≤ 1000000) :
    Calls Tryz.prog 20 #[.slice A n c, .int .i64 x] w fun e w' => e = .returned (.bool (xs.contains x)) ∧ w' = w := by
  by_cases h0 : n = 0
  · subst h0
    have hx : xs = [] := List.length_eq_zero_iff.1 h.len.symm
    subst hx
    exact Tryz.slices_Contains_int_empty A c x w
  · obtain ⟨b, o, rfl⟩ := rd_form h h0
    have := Tryz.slices_Contains_int b o n c xs x w (by rw [h.len]; exact Nat.le_refl _) (by omega) (rd_cells h)
    rwa [List.take_of_length_le (by rw [h.len]; exact Nat.le_refl _)] at this
theorem equalI_any (A B : Option Addr) (n m c d : Nat) (xs ys : List Int) (w : World) (hA : Rd encI 1 w A n xs) (hB : Rd encI 1 w B m ys) (hn : n ≤ 1000000) (hm : m ≤ 1000000) :
    Calls Tryz.prog 35 #[.slice A n c, .slice B m d] w fun e w' => e = .returned (.bool (decide (xs = ys))) ∧ Below w.heap.size w w' := by
  have la := hA.len
  have lb := hB.len
  by_cases h0 : n = 0
  · subst h0
    have hx : xs = [] := List.length_eq_zero_iff.1 la.symm
    subst hx
    refine (Tryz.slices_Equal_int_empty A B c m d w (by omega)).mono ?_
    rintro e w' ⟨rfl, rfl⟩
    refine ⟨ret_bool ?_, Below.refl _ _⟩
    by_cases hm0 : m = 0
    · rw [decide_eq_true hm0]
      exact (decide_eq_true (List.length_eq_zero_iff.1 (by omega : ys.length = 0)).symm).symm
    · rw [decide_eq_false hm0]
      exact (decide_eq_false (by rintro rfl; exact hm0 lb)).symm
  · by_cases hnm : n = m
    · subst hnm
      obtain ⟨b1, o1, rfl⟩ := rd_form hA h0
      obtain ⟨b2, o2, rfl⟩ := rd_form hB h0
      refine (Tryz.slices_Equal_int b1 o1 n c b2 o2 n d xs ys w (by omega) (by omega) (by omega) (by omega) (rd_cells hA) (rd_cells hB)).mono ?_
      rintro e w' ⟨rfl, q, rfl⟩
      refine ⟨ret_bool ?_, below_draw (Below.refl _ _) q⟩
      rw [List.take_of_length_le (by omega), List.take_of_length_le (by omega)]
      by_cases h : xs = ys
      · rw [decide_eq_true h, h]; simp
      · rw [decide_eq_false h]; simpa using h
    · refine (Tryz.slices_Equal_int_lens A B n c m d w hnm).mono ?_
      rintro e w' ⟨rfl, rfl⟩
      exact ⟨ret_bool (decide_eq_false (by rintro rfl; exact hnm (la.trans lb.symm))).symm, Below.refl _ _⟩
set_option maxHeartbeats 4000000 in
theorem eqItvs_any (A B : Option Addr) (n m c d : Nat) (xs ys : List Itv) (w : World) (hA : Rd encItv 3 w A n xs) (hB : Rd encItv 3 w B m ys) (hn : n ≤ 1000000) (hm : m ≤ 1000000) :
    Calls Tryz.prog 39 #[.slice A n c, .slice B m d] w fun e w' => e = .returned (.bool (decide (xs = ys))) ∧ Below w.heap.size w w' := by
  have HA := Lib.hid hA
  have HB := Lib.hid hB
  have HAL := Lib.hid hA.len
  have HBL := Lib.hid hB.len
  clear hA hB
  by_cases hnm : n = m
  · subst hnm
    have fnm : ((n : Int) != (n : Int)) = false := bne_self_eq_false _
    go_enter Tryz.func39, Tryz.ntmps39
    go_wp2
    go_loopw [13] (fun v wr => ∃ k : Nat, k ≤ n ∧ v = .int .i64 k ∧ Hid (xs.take k = ys.take k) ∧ Hid (Below w.heap.size w wr)) (fun v _ => n - (intOf v).toNat)
    case atStart => exact ⟨0, by omega, rfl, Lib.hid (by simp), Lib.hid (Below.refl _ _)⟩
    case round =>
      obtain ⟨k, hk, rfl, HK, HW⟩ := hrel
      by_cases hlt : k < n
      · obtain ⟨x, hx⟩ := get_some (xs := xs) (k := k) (by rw [← HAL.out]; omega)
        obtain ⟨y, hy⟩ := get_some (xs := ys) (k := k) (by rw [← HBL.out]; omega)
        obtain ⟨b1, o1, rfl, _, hc⟩ := (HA.out.below HW.out).at_ k x hx
        obtain ⟨b2, o2, rfl, _, hd⟩ := (HB.out.below HW.out).at_ k y hy
        have c0 := hc 0 _ rfl
        have c1 := hc 1 _ rfl
        have c2 := hc 2 _ rfl
        have d0 := hd 0 _ rfl
        have d1 := hd 1 _ rfl
        have d2 := hd 2 _ rfl
        rw [Nat.add_zero] at c0 d0
        have hk0 : (0 : Int) ≤ (k : Int) := by omega
        have hk1 : (k : Int) < (n : Int) := by omega
        have HXY : Hid (xs[k]? = some x ∧ ys[k]? = some y) := Lib.hid ⟨hx, hy⟩
        have hne := fun W => neqI_struct x y W
        clear hx hy hc hd
        cases he : eqItv x y with
        | true =>
          rw [he] at hne
          have HE := Lib.hid he
          clear he
          go_wp2_with fail
          go_region
          go_wp2_with fail
          go_roundw
          case rel => exact ⟨k + 1, by omega, by go_num, Lib.hid (by rw [List.take_add_one, List.take_add_one, HK.out, HXY.out.1, HXY.out.2]; have := HE.out; unfold eqItv at this; rw [of_decide_eq_true this]), Lib.hid (Below.drew HW.out)⟩
          case measure => simp [intOf]; omega
        | false =>
          rw [he] at hne
          have HE := Lib.hid he
          clear he
          have HNE : Hid (decide (xs = ys) = false) := Lib.hid (decide_eq_false (take_ne HXY.out.1 HXY.out.2 (by have := HE.out; unfold eqItv at this; exact of_decide_eq_false this)))
          go_wp2_with fail
          go_region
          go_wp2_with fail
          go_ret
          exact ⟨ret_bool HNE.out.symm, Below.drew HW.out⟩
      · obtain rfl : k = n := by omega
        have HE : Hid (decide (xs = ys) = true) := Lib.hid (decide_eq_true (by have := HK.out; rwa [HAL.out, List.take_length, ← HAL.out, HBL.out, List.take_length] at this))
        go_wp2
        go_ret
        exact ⟨ret_bool HE.out.symm, HW.out⟩
  · have fnm : ((n : Int) != (m : Int)) = true := bne_iff_ne.2 (by omega)
    have HNE : Hid (decide (xs = ys) = false) := Lib.hid (decide_eq_false (by rintro rfl; exact hnm (HAL.out.trans HBL.out.symm)))
    have HB0 := Lib.hid (Below.refl w.heap.size w)
    clear hnm
    go_enter Tryz.func39, Tryz.ntmps39
    go_wp2
    go_ret
    exact ⟨ret_bool HNE.out.symm, HB0.out⟩
/-- how many are in slots alone, of the first k -/
def spillK (p : Pln) (k : Nat) : Nat := ((List.range k).filter (spillR p)).length
theorem spillK_succ (p : Pln) (k : Nat) : spillK p (k + 1) = spillK p k + (if spillR p k then 1 else 0) := by
  unfold spillK
  rw [List.range_succ, List.filter_append, List.length_append]
  cases h : spillR p k <;> simp [h]
theorem spillK_le (p : Pln) (k : Nat) : spillK p k ≤ k := by
  have := List.length_filter_le (spillR p) (List.range k)
  simpa [spillK] using this
set_option maxHeartbeats 4000000 in
theorem Spills_any (A B : Option Addr) (c d : Nat) (p : Pln) (w : World) (hA : Rd encI 1 w A p.mach.length p.mach) (hB : Rd encI 1 w B p.slot.length p.slot) (hm : p.mach.length ≤ 1000000) (hs : p.slot.length ≤ 1000000) :
    Calls Tryz.prog 14 #[.agg #[.slice A p.mach.length c, .slice B p.slot.length d, .int .i64 p.slots]] w fun e w' => e = .returned (.int .i64 (spillsN p)) ∧ Below w.heap.size w w' := by
  have HBW := Lib.hid ((Below.refl w.heap.size w).alloc (Nat.le_refl _) (.cells #[.slice A p.mach.length c, .slice B p.slot.length d, .int .i64 p.slots] 29))
  have HX := Lib.hid (BlkAt.new w 29 #[.slice A p.mach.length c, .slice B p.slot.length d, .int .i64 p.slots])
  have HA := Lib.hid (hA.below HBW.out)
  have HB := Lib.hid (hB.below HBW.out)
  have x0 := HX.out.cell 0
  have x1 := HX.out.cell 1
  simp only [List.getElem?_toArray, List.getElem?_cons_succ, List.getElem?_cons_zero] at x0 x1
  have HN : Hid (spillK p p.slot.length = spillsN p) := Lib.hid rfl
  clear hA hB
  obtain ⟨n, hn⟩ : ∃ n, p.mach.length = n := ⟨_, rfl⟩
  obtain ⟨m, hmm⟩ : ∃ m, p.slot.length = m := ⟨_, rfl⟩
  rw [hn] at hm HBW HX HA HB x0 x1 ⊢
  rw [hmm] at hs HBW HX HA HB x0 x1 HN ⊢
  have HL := Lib.hid (And.intro hn hmm)
  clear hn hmm
  go_enter Tryz.func14, Tryz.ntmps14
  go_wp2_with fail
  obtain ⟨W0, hW0⟩ : ∃ W0, w.alloc (.cells #[.slice A n c, .slice B m d, .int .i64 p.slots] 29) = W0 := ⟨_, rfl⟩
  rw [hW0] at HBW HX HA HB x0 x1 ⊢
  clear hW0
  go_loopw [3, 9] (fun s v wr => ∃ k : Nat, k ≤ m ∧ v = .int .i64 k ∧ s = .int .i64 (spillK p k) ∧ wr = W0) (fun _ v _ => m - (intOf v).toNat)
  case atStart => exact ⟨0, by omega, rfl, rfl, rfl⟩
  case round =>
    obtain ⟨k, hk, rfl, rfl, rfl⟩ := hrel
    by_cases hlt : k < m
    · obtain ⟨y, hy⟩ := get_some (xs := p.slot) (k := k) (by rw [HL.out.2]; exact hlt)
      obtain ⟨b2, o2, rfl, _, hd⟩ := HB.out.at_ k y hy
      have d0 := hd 0 _ rfl
      rw [Nat.add_zero, Nat.mul_one] at d0
      have hk0 : (0 : Int) ≤ (k : Int) := by omega
      have hk1 : (k : Int) < (m : Int) := by omega
      have wr1 : IntKind.i64.wrap ((k : Int) + 1) = (k : Int) + 1 := IntWalk.i64_in _ (by omega)
      have hsp := spillK_le p k
      have wr2 : IntKind.i64.wrap ((spillK p k : Int) + 1) = (spillK p k : Int) + 1 := IntWalk.i64_in _ (by omega)
      have HY : Hid (p.slot.getD k (-1) = y) := Lib.hid (by rw [List.getD_eq_getElem?_getD, hy]; rfl)
      have HK := Lib.hid (spillK_succ p k)
      clear hy hd hsp
      generalize spillK p k = q at *
      by_cases hy1 : y = -1
      · have f1 : (y != -1) = false := by simp [hy1]
        have HS : Hid (spillR p k = false) := Lib.hid (by unfold spillR; rw [HY.out, decide_eq_true hy1]; rfl)
        clear hy1
        go_wp2_with fail
        go_roundw
        case rel => exact ⟨k + 1, by omega, by go_num, by rw [HK.out, HS.out]; rfl, trivial⟩
        case measure => simp [intOf]; omega
      · have f1 : (y != -1) = true := by simp [hy1]
        by_cases hkn : k < n
        · obtain ⟨z, hz⟩ := get_some (xs := p.mach) (k := k) (by rw [HL.out.1]; exact hkn)
          obtain ⟨b1, o1, rfl, _, hc⟩ := HA.out.at_ k z hz
          have c0 := hc 0 _ rfl
          rw [Nat.add_zero, Nat.mul_one] at c0
          have hk2 : (k : Int) < (n : Int) := by omega
          have f2 : ¬ n ≤ k := by omega
          have HZ : Hid (p.mach.getD k (-1) = z) := Lib.hid (by rw [List.getD_eq_getElem?_getD, hz]; rfl)
          have HS : Hid (spillR p k = decide (z = -1)) := Lib.hid (by unfold spillR; rw [HY.out, HZ.out, HL.out.1, decide_eq_false hy1, decide_eq_false f2]; rfl)
          clear hz hc hy1
          by_cases hz1 : z = -1
          · have f3 : (z == -1) = true := by simp [hz1]
            have HS2 : Hid (spillR p k = true) := Lib.hid (by rw [HS.out]; exact decide_eq_true hz1)
            clear hz1
            go_wp2_with fail
            go_roundw
            case rel => exact ⟨k + 1, by omega, by go_num, by rw [HK.out, HS2.out]; simp, trivial⟩
            case measure => simp [intOf]; omega
          · have f3 : (z == -1) = false := by simp [hz1]
            have HS2 : Hid (spillR p k = false) := Lib.hid (by rw [HS.out]; exact decide_eq_false hz1)
            clear hz1
            go_wp2_with fail
            go_roundw
            case rel => exact ⟨k + 1, by omega, by go_num, by rw [HK.out, HS2.out]; simp, trivial⟩
            case measure => simp [intOf]; omega
        · have f2 : n ≤ k := by omega
          have HS2 : Hid (spillR p k = true) := Lib.hid (by unfold spillR; rw [HY.out, HL.out.1, decide_eq_false hy1, decide_eq_true f2]; rfl)
          clear hy1
          go_wp2_with fail
          go_roundw
          case rel => exact ⟨k + 1, by omega, by go_num, by rw [HK.out, HS2.out]; simp, trivial⟩
          case measure => simp [intOf]; omega
    · obtain rfl : k = m := by omega
      rw [HN.out]
      go_wp2_with fail
      go_ret
      exact ⟨rfl, HBW.out⟩
end Go.Proofs.YtpahhcmiimllaaaGreatDoor
