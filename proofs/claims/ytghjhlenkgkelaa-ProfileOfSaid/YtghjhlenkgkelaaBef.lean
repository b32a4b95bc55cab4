/- DERIVED. The reference's 'before'. -/
import Derived.Test.YtghjhlenkgkelaaHPure
set_option linter.unusedSimpArgs false
set_option linter.unusedVariables false
namespace Go.Proofs.Ytghjhlenkgkelaa
open Go.RowKit Go.Shelf Go.Sort

instance (x y : K3) : Decidable (lt3 x y) := by unfold lt3; exact inferInstance
set_option maxRecDepth 100000 in
theorem before_any (x y : K3) (w : World) : Calls Try.prog 49 #[enc3 x, enc3 y] w fun e w' => e = .returned (.bool (decide (lt3 x y))) ∧ Below w.heap.size w w' := by
  have B0 := (BlkAt.new w 39 #[.int .i64 x.a, .int .i64 x.b, .int .i64 x.c]).alloc (.cells #[.int .i64 y.a, .int .i64 y.b, .int .i64 y.c] 39)
  have B1 := BlkAt.new (w.alloc (.cells #[.int .i64 x.a, .int .i64 x.b, .int .i64 x.c] 39)) 39 #[.int .i64 y.a, .int .i64 y.b, .int .i64 y.c]
  have hb := ((Below.refl w.heap.size w).alloc (Nat.le_refl _) (.cells #[.int .i64 x.a, .int .i64 x.b, .int .i64 x.c] 39)).alloc (by simp) (.cells #[.int .i64 y.a, .int .i64 y.b, .int .i64 y.c] 39)
  rw [World.size_alloc] at B1
  have HB0 := Lib.hid B0
  have HB1 := Lib.hid B1
  have HB := Lib.hid hb
  clear B0 B1 hb
  unfold enc3
  go_enter Try.func49, Try.ntmps49
  go_wp2
  generalize ((w.alloc (.cells #[.int .i64 x.a, .int .i64 x.b, .int .i64 x.c] 39)).alloc (.cells #[.int .i64 y.a, .int .i64 y.b, .int .i64 y.c] 39)) = W0 at *
  go_loopw [5] (fun i wr => ∃ k : Nat, k ≤ 3 ∧ i = .int .i64 k ∧ ((0 < k → x.a = y.a) ∧ (1 < k → x.b = y.b) ∧ (2 < k → x.c = y.c)) ∧ Below W0.heap.size W0 wr) (fun i _ => 3 - (intOf i).toNat)
  case atStart => exact ⟨0, by omega, rfl, by omega, Below.refl _ _⟩
  case round =>
    obtain ⟨k, hk, rfl, hq, hb⟩ := hrel
    have hlt : k < 3 ∨ k = 3 := by omega
    rcases hlt with hlt | rfl
    · have hv : ∃ p q : Int, wr.cell? ⟨w.heap.size, k, none⟩ = some (.int .i64 p) ∧ wr.cell? ⟨w.heap.size + 1, k, none⟩ = some (.int .i64 q) ∧ (p ≠ q → decide (p < q) = decide (lt3 x y)) ∧ (p = q → (0 < k + 1 → x.a = y.a) ∧ (1 < k + 1 → x.b = y.b) ∧ (2 < k + 1 → x.c = y.c)) := by
        have c0 := HB0.out.below hb HB0.out.lt
        have c1 := HB1.out.below hb HB1.out.lt
        obtain ⟨q1, q2, q3⟩ := hq
        rcases (show k = 0 ∨ k = 1 ∨ k = 2 by omega) with rfl | rfl | rfl
        · refine ⟨x.a, y.a, c0.cell 0, c1.cell 0, fun h => ?_, fun h => ⟨fun _ => h, by omega, by omega⟩⟩
          rw [decide_eq_decide]; unfold lt3; constructor <;> intro h' <;> omega
        · have e1 := q1 (by omega)
          refine ⟨x.b, y.b, c0.cell 1, c1.cell 1, fun h => ?_, fun h => ⟨fun _ => e1, fun _ => h, by omega⟩⟩
          rw [decide_eq_decide]; unfold lt3; constructor <;> intro h' <;> omega
        · have e1 := q1 (by omega)
          have e2 := q2 (by omega)
          refine ⟨x.c, y.c, c0.cell 2, c1.cell 2, fun h => ?_, fun h => ⟨fun _ => e1, fun _ => e2, fun _ => h⟩⟩
          rw [decide_eq_decide]; unfold lt3; constructor <;> intro h' <;> omega
      obtain ⟨p, q, cp, cq, hv1, hv2⟩ := hv
      have hk0 : (0 : Int) ≤ (k : Int) := by omega
      have hk3 : (k : Int) < 3 := by omega
      have HBW := Lib.hid hb
      clear hq hb
      by_cases h : p = q
      · have HZ := Lib.hid (hv2 h)
        have hzb : (p != q) = false := by simpa using h
        clear hv1 hv2 h
        go_wp2
        go_quiet (fail)
        go_wp2
        go_roundw
        case rel => exact ⟨k + 1, by omega, by go_num, HZ.out, below_draw HBW.out _⟩
        case measure => simp [intOf]; omega
      · have HZ := Lib.hid (hv1 h)
        have hzb : (p != q) = true := by simpa using h
        clear hv1 hv2 h
        go_wp2
        go_quiet (fail)
        go_wp2
        go_quiet (fail)
        go_wp2
        go_ret
        exact ⟨ret_bool HZ.out, HB.out.trans ((below_draw (below_draw HBW.out _) _).mono HB.out.size)⟩
    · have hz : ¬ lt3 x y := by obtain ⟨q1, q2, q3⟩ := hq; have := q1 (by omega); have := q2 (by omega); have := q3 (by omega); unfold lt3; omega
      have HZ := Lib.hid hz
      have HBW := Lib.hid hb
      clear hz hq hb
      go_wp2
      go_ret
      exact ⟨ret_bool (decide_eq_false HZ.out).symm, HB.out.trans (HBW.out.mono HB.out.size)⟩
end Go.Proofs.Ytghjhlenkgkelaa
