/- DERIVED. Edges in order; whether edges ascend. -/
import Derived.Test.YtghjhlenkgkelaaGreatDoorOf2
import Derived.StillTailTactics
import Derived.Lib.QuietBelow
set_option linter.unusedSimpArgs false
set_option linter.unusedVariables false
namespace Go.Proofs.YtghjhlenkgkelaaGreatDoor
open Go.RowKit Go.Shelf Go.Sort

def Edg.key (x : Edg) : K2 := ⟨x.frm, x.at'⟩
def orI (a b : Int) : Int := if a ≠ 0 then a else b
theorem or_any (g c : Nat) (a b : Int) (w : World) (h0 : w.cell? ⟨g, 0, none⟩ = some (.int .i64 a)) (h1 : w.cell? ⟨g, 1, none⟩ = some (.int .i64 b)) :
    Calls Tryz.prog 43 #[.slice (some ⟨g, 0, none⟩) 2 c] w fun e w' => e = .returned (.int .i64 (orI a b)) ∧ w' = w := by
  go_enter Tryz.func43, Tryz.ntmps43
  go_wp2
  go_loop [8] (fun i => ∃ k : Nat, k ≤ 2 ∧ i = .int .i64 k ∧ (0 < k → a = 0) ∧ (1 < k → b = 0)) (fun i => 2 - (intOf i).toNat)
  case atStart => exact ⟨0, by omega, rfl, by omega, by omega⟩
  case round =>
    obtain ⟨k, hk, rfl, ha, hb⟩ := hrel
    have hlt : k < 2 ∨ k = 2 := by omega
    rcases hlt with hlt | rfl
    · have hv : ∃ z : Int, w.cell? ⟨g, k, none⟩ = some (.int .i64 z) ∧ (z ≠ 0 → orI a b = z) ∧ (z = 0 → (0 < k + 1 → a = 0) ∧ (1 < k + 1 → b = 0)) := by
        rcases (show k = 0 ∨ k = 1 by omega) with rfl | rfl
        · exact ⟨a, h0, fun h => if_pos h, fun h => ⟨fun _ => h, by omega⟩⟩
        · have := ha (by omega)
          exact ⟨b, h1, fun h => by simp [orI, this], fun h => ⟨fun _ => this, fun _ => h⟩⟩
      obtain ⟨z, hz, hz1, hz2⟩ := hv
      clear h0 h1 ha hb
      by_cases h : z = 0
      · have HZ := Lib.hid (hz2 h)
        have hzb : (z != 0) = false := by simpa using h
        clear hz1 hz2 h
        go_wp2
        go_round
        case rel => exact ⟨k + 1, by omega, by go_num, HZ.out.1, HZ.out.2⟩
        case measure => simp [intOf]; omega
      · have HZ := Lib.hid (hz1 h)
        have hzb : (z != 0) = true := by simpa using h
        clear hz1 hz2 h
        go_wp2
        go_ret
        exact ⟨ret_int HZ.out.symm, rfl⟩
    · have HA := Lib.hid (ha (by omega))
      have HB := Lib.hid (hb (by omega))
      clear ha hb
      go_wp2
      go_ret
      exact ⟨ret_int (by simp [orI, HA.out, HB.out]), rfl⟩

theorem orI_cmp2 (x y : Edg) : orI (cmpI x.frm y.frm) (cmpI x.at' y.at') = cmp2 x.key y.key := by
  show (if cmpI x.frm y.frm ≠ 0 then cmpI x.frm y.frm else cmpI x.at' y.at') = (if cmpI x.frm y.frm ≠ 0 then cmpI x.frm y.frm else if cmpI x.at' y.at' ≠ 0 then cmpI x.at' y.at' else 0)
  split
  · rfl
  · split
    · rfl
    · simp_all

set_option maxRecDepth 100000 in
theorem order_any (x y : Edg) (w : World) :
    Calls Tryz.prog 30 #[encE x, encE y] w fun e w' => e = .returned (.int .i64 (cmp2 x.key y.key)) ∧ Below w.heap.size w w' := by
  rw [← orI_cmp2]
  unfold encE
  have B0 := (BlkAt.new w 52 (encEL x).toArray).alloc (.cells (encEL y).toArray 52)
  have B1 := BlkAt.new (w.alloc (.cells (encEL x).toArray 52)) 52 (encEL y).toArray
  have HB := Lib.hid (((Below.refl w.heap.size w).alloc (Nat.le_refl _) (.cells (encEL x).toArray 52)).alloc (by simp) (.cells (encEL y).toArray 52))
  rw [World.size_alloc] at B1
  have x0 := B0.cell 0
  have x1 := B0.cell 1
  have y0 := B1.cell 0
  have y1 := B1.cell 1
  simp only [encEL, List.getElem?_toArray, List.getElem?_cons_succ, List.getElem?_cons_zero] at x0 x1 y0 y1
  clear B0 B1
  go_enter Tryz.func30, Tryz.ntmps30
  go_wp2
  unfold encEL at *
  generalize ((w.alloc (.cells #[.int .i64 x.frm, .int .i64 x.at', .int .i64 x.acc, .int .i64 x.msg] 52)).alloc (.cells #[.int .i64 y.frm, .int .i64 y.at', .int .i64 y.acc, .int .i64 y.msg] 52)) = W0 at *
  refine wp_region_still_tail 10 (by kernel_rfl) (by kernel_rfl) ?_
  simp only [List.take_succ_cons, List.take_zero, List.drop_succ_cons, List.drop_zero]
  repeat still_step
  still_call ((cmp_any _ _ _).mono (fun e w' h => h))
  repeat still_step
  still_call ((cmp_any _ _ _).mono (fun e w' h => h))
  refine wpStill_nil ?_
  have hn := BlkAt.new W0.drew 3 #[.int .i64 (cmpI x.frm y.frm), .int .i64 (cmpI x.at' y.at')]
  have hor := or_any W0.heap.size 2 (cmpI x.frm y.frm) (cmpI x.at' y.at') (W0.drew.alloc (.cells #[.int .i64 (cmpI x.frm y.frm), .int .i64 (cmpI x.at' y.at')] 3)) (hn.cell 0) (hn.cell 1)
  have HB2 := Lib.hid ((below_draw HB.out 1).alloc (by have := HB.out.size; exact this) (.cells #[.int .i64 (cmpI x.frm y.frm), .int .i64 (cmpI x.at' y.at')] 3))
  clear hn
  change wpList _ _ _ _ _ W0.drew
  go_wp2_with (go_at_call 43; refine hor.mono ?_; rintro e w' ⟨rfl, rfl⟩)
  go_ret
  exact ⟨rfl, HB2.out⟩
end Go.Proofs.YtghjhlenkgkelaaGreatDoor
