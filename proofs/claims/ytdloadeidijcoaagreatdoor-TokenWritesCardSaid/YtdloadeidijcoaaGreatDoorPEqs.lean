/- DERIVED. slices.Equal of two slices of tokens. -/
import Derived.Test.YtdloadeidijcoaaGreatDoorRdS
set_option linter.unusedSimpArgs false
set_option linter.unusedVariables false
namespace Go.Proofs.YtdloadeidijcoaaGreatDoor
open Go.RowKit Go.Shelf

set_option maxRecDepth 100000 in
theorem neq_ptok (x y : Tok) (w : World) : (binOp .neq 30 (encT x) (encT y)).run Tryz.prog w = .ok (.bool (!eqT x y)) w := by
  have u3 := Tryz.underlying3
  have a3 := Tryz.isAgg3
  have z3 := Tryz.sizeOf3
  have u9 := Tryz.underlying9
  have a9 := Tryz.isAgg9
  have z9 := Tryz.sizeOf9
  unfold encT strV
  rw [run_neq_struct, show (10000 : Nat) = 9999 + 1 from rfl, run_equalIn_agg _ _ _ _ _ (by kernel_rfl) (by kernel_rfl)]
  unfold Program.fieldsOf
  rw [Tryz.underlying30]
  simp only [Op.eqFields]
  go_simp
  unfold eqT
  obtain ⟨a, b, c, d⟩ := x
  obtain ⟨a', b', c', d'⟩ := y
  by_cases h1 : a = a' <;> by_cases h2 : b = b' <;> by_cases h3 : c = c' <;> by_cases h4 : d = d' <;> simp [h1, h2, h3, h4]
set_option maxRecDepth 100000 in
set_option maxHeartbeats 4000000 in
theorem eqs2_any (A B : Option Addr) (n m c d : Nat) (xs ys : List Tok) (w : World) (hA : Rd encTL 4 w A n xs) (hB : Rd encTL 4 w B m ys) (hn : n ≤ 1000000) (hm : m ≤ 1000000) :
    Calls Tryz.prog 42 #[.slice A n c, .slice B m d] w fun e w' => e = .returned (.bool (decide (xs = ys))) ∧ Below w.heap.size w w' := by
  have HA := Lib.hid hA
  have HB := Lib.hid hB
  have HAL := Lib.hid hA.len
  have HBL := Lib.hid hB.len
  clear hA hB
  by_cases hnm : n = m
  · subst hnm
    have fnm : ((n : Int) != (n : Int)) = false := bne_self_eq_false _
    go_enter Tryz.func42, Tryz.ntmps42
    go_wp2
    go_loopw [13] (fun v wr => ∃ k : Nat, k ≤ n ∧ v = .int .i64 k ∧ Hid (xs.take k = ys.take k) ∧ Hid (Below w.heap.size w wr)) (fun v _ => n - (intOf v).toNat)
    case atStart => exact ⟨0, by omega, rfl, Lib.hid (by simp), Lib.hid (Below.refl _ _)⟩
    case round =>
      obtain ⟨k, hk, rfl, HK, HW⟩ := hrel
      by_cases hlt : k < n
      · obtain ⟨x, hx⟩ := get_some (xs := xs) (k := k) (by rw [← HAL.out]; omega)
        obtain ⟨y, hy⟩ := get_some (xs := ys) (k := k) (by rw [← HBL.out]; omega)
        obtain ⟨b1, o1, rfl, _, hc⟩ := (HA.out.below HW.out).at_ k x hx
        obtain ⟨b2, o2, rfl, _, hd⟩ := (HB.out.below HW.out).at_ k y hy
        have c0 := hc 0 _ rfl
        have c1 := hc 1 _ rfl
        have c2 := hc 2 _ rfl
        have c3 := hc 3 _ rfl
        have d0 := hd 0 _ rfl
        have d1 := hd 1 _ rfl
        have d2 := hd 2 _ rfl
        have d3 := hd 3 _ rfl
        rw [Nat.add_zero] at c0 d0
        have hk0 : (0 : Int) ≤ (k : Int) := by omega
        have hk1 : (k : Int) < (n : Int) := by omega
        have HXY : Hid (xs[k]? = some x ∧ ys[k]? = some y) := Lib.hid ⟨hx, hy⟩
        have hne := fun W => neq_ptok x y W
        clear hx hy hc hd
        unfold encT at hne
        unfold strV at c1 d1 hne
        cases he : eqT x y with
        | true =>
          rw [he] at hne
          have HE := Lib.hid he
          clear he
          go_wp2_with fail
          go_region
          go_wp2_with fail
          go_roundw
          case rel => exact ⟨k + 1, by omega, by go_num, Lib.hid (by rw [List.take_add_one, List.take_add_one, HK.out, HXY.out.1, HXY.out.2]; rw [eqT_iff] at HE; rw [of_decide_eq_true HE.out]), Lib.hid (Below.drew HW.out)⟩
          case measure => simp [intOf]; omega
        | false =>
          rw [he] at hne
          have HE := Lib.hid he
          clear he
          have HNE : Hid (decide (xs = ys) = false) := Lib.hid (decide_eq_false (take_succ_ne HXY.out.1 HXY.out.2 (by rw [eqT_iff] at HE; exact of_decide_eq_false HE.out)))
          go_wp2_with fail
          go_region
          go_wp2_with fail
          go_ret
          exact ⟨ret_bool HNE.out.symm, Below.drew HW.out⟩
      · obtain rfl : k = n := by omega
        have HE : Hid (decide (xs = ys) = true) := Lib.hid (decide_eq_true (by have := HK.out; rwa [HAL.out, List.take_length, ← HAL.out, HBL.out, List.take_length] at this))
        go_wp2
        go_ret
        exact ⟨ret_bool HE.out.symm, HW.out⟩
  · have fnm : ((n : Int) != (m : Int)) = true := bne_iff_ne.2 (by omega)
    have HNE : Hid (decide (xs = ys) = false) := Lib.hid (decide_eq_false (by rintro rfl; exact hnm (HAL.out.trans HBL.out.symm)))
    have HB0 := Lib.hid (Below.refl w.heap.size w)
    clear hnm
    go_enter Tryz.func42, Tryz.ntmps42
    go_wp2
    go_ret
    exact ⟨ret_bool HNE.out.symm, HB0.out⟩
end Go.Proofs.YtdloadeidijcoaaGreatDoor
