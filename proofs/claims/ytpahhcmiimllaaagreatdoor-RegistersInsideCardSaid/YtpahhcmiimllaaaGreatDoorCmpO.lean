/- DERIVED. cmp.Compare and cmp.Or at ints; the order of the intervals. -/
import Derived.Test.YtpahhcmiimllaaaGreatDoorHeldL
import Derived.Shelf.SlSortCmp.NoneTotal
import Derived.Ground.SlsfProg
set_option linter.unusedSimpArgs false
set_option linter.unusedVariables false
namespace Go.Proofs.YtpahhcmiimllaaaGreatDoor
open Go.RowKit Go.Shelf Go.Sort

def cmpI (x y : Int) : Int := if x < y then -1 else if y < x then 1 else 0
set_option maxHeartbeats 2000000 in
theorem cmpI_any (x y : Int) (w : World) : Calls Tryz.prog 46 #[.int .i64 x, .int .i64 y] w fun e w' => e = .returned (.int .i64 (cmpI x y)) ∧ w' = w := by
  have hx : ((x : Int) != x) = false := by simp
  have hy : ((y : Int) != y) = false := by simp
  have HE : Hid (cmpI x y = if x < y then -1 else if y < x then 1 else 0) := Lib.hid rfl
  by_cases h1 : x < y
  · have f1 : decide (x < y) = true := decide_eq_true h1
    rw [if_pos h1] at HE
    go_enter Tryz.func46, Tryz.ntmps46
    go_wp2
    go_ret
    exact ⟨ret_int HE.out.symm, rfl⟩
  · have f1 : decide (x < y) = false := decide_eq_false h1
    rw [if_neg h1] at HE
    by_cases h2 : y < x
    · have f2 : decide (y < x) = true := decide_eq_true h2
      rw [if_pos h2] at HE
      clear h1
      go_enter Tryz.func46, Tryz.ntmps46
      go_wp2
      go_ret
      exact ⟨ret_int HE.out.symm, rfl⟩
    · have f2 : decide (y < x) = false := decide_eq_false h2
      rw [if_neg h2] at HE
      clear h1 h2
      go_enter Tryz.func46, Tryz.ntmps46
      go_wp2
      go_ret
      exact ⟨ret_int HE.out.symm, rfl⟩
def orI (a b : Int) : Int := if a ≠ 0 then a else b
set_option maxRecDepth 100000 in
set_option maxHeartbeats 4000000 in
theorem orI_any (a b : Int) (g : Nat) (w : World) (h0 : w.cell? ⟨g, 0, none⟩ = some (.int .i64 a)) (h1 : w.cell? ⟨g, 1, none⟩ = some (.int .i64 b)) : Calls Tryz.prog 45 #[.slice (some ⟨g, 0, none⟩) 2 2] w fun e w' => e = .returned (.int .i64 (orI a b)) ∧ w' = w := by
  have HE : Hid (orI a b = if a ≠ 0 then a else b) := Lib.hid rfl
  go_enter Tryz.func45, Tryz.ntmps45
  go_wp2
  go_loopw [8] (fun k wr => ∃ i : Nat, i ≤ 2 ∧ k = .int .i64 i ∧ Hid (1 ≤ i → a = 0) ∧ Hid (2 ≤ i → b = 0) ∧ wr = w) (fun k _ => 2 - (intOf k).toNat)
  case atStart => exact ⟨0, by omega, rfl, Lib.hid (by omega), Lib.hid (by omega), rfl⟩
  case round =>
    obtain ⟨i, hi, rfl, HA, HB, rfl⟩ := hrel
    have hc : i = 0 ∨ i = 1 ∨ i = 2 := by omega
    rcases hc with rfl | rfl | rfl
    · by_cases ha : a = 0
      · have f1 : (a != 0) = false := by simp [ha]
        have HZ := Lib.hid ha
        clear ha
        go_wp2
        go_roundw
        case rel => exact ⟨1, by omega, by go_num, Lib.hid (fun _ => HZ.out), Lib.hid (by omega), trivial⟩
        case measure => simp [intOf]
      · have f1 : (a != 0) = true := by simp [ha]
        rw [if_pos ha] at HE
        clear ha
        go_wp2
        go_ret
        exact ⟨ret_int HE.out.symm, rfl⟩
    · have HZ := Lib.hid (HA.out (by omega))
      by_cases hb : b = 0
      · have f1 : (b != 0) = false := by simp [hb]
        have HY := Lib.hid hb
        clear hb
        go_wp2
        go_roundw
        case rel => exact ⟨2, by omega, by go_num, Lib.hid (fun _ => HZ.out), Lib.hid (fun _ => HY.out), trivial⟩
        case measure => simp [intOf]
      · have f1 : (b != 0) = true := by simp [hb]
        have HE2 : Hid (orI a b = b) := Lib.hid (by rw [HE.out, if_neg (by simp [HZ.out])])
        clear hb HE
        go_wp2
        go_ret
        exact ⟨ret_int HE2.out.symm, rfl⟩
    · have HE2 : Hid (orI a b = 0) := Lib.hid (by rw [HE.out, if_neg (by simp [HA.out (by omega)]), HB.out (by omega)])
      clear HE
      go_wp2
      go_ret
      exact ⟨ret_int HE2.out.symm, rfl⟩
/-- an interval's cells -/
structure ItvI where
  reg : Int
  frm : Int
  to : Int
  deriving DecidableEq, Inhabited
def encIt (x : ItvI) : List Value := [.int .i64 x.reg, .int .i64 x.frm, .int .i64 x.to]
theorem encIt_len (x : ItvI) : (encIt x).length = 3 := rfl
def cfIt (x y : ItvI) : Int := orI (cmpI x.frm y.frm) (cmpI x.reg y.reg)
set_option maxRecDepth 100000 in
set_option maxHeartbeats 8000000 in
theorem cmpIt_any (x y : ItvI) (W : World) : Calls Tryz.prog 84 #[.agg (encIt x).toArray, .agg (encIt y).toArray] W fun e w' => e = .returned (.int .i64 (cfIt x y)) ∧ ∃ q os', w' = grow (W.drewN q) os' := by
  have HB1 := Lib.hid (BlkAt.new W 44 #[.int .i64 x.reg, .int .i64 x.frm, .int .i64 x.to])
  have HB2 := Lib.hid (BlkAt.new (W.alloc (.cells #[.int .i64 x.reg, .int .i64 x.frm, .int .i64 x.to] 44)) 44 #[.int .i64 y.reg, .int .i64 y.frm, .int .i64 y.to])
  have h1 := fun W => cmpI_any x.frm y.frm W
  have h2 := fun W => cmpI_any x.reg y.reg W
  have HOR : Hid (cfIt x y = orI (cmpI x.frm y.frm) (cmpI x.reg y.reg)) := Lib.hid rfl
  rw [HOR.out]
  generalize cmpI x.frm y.frm = a at *
  generalize cmpI x.reg y.reg = b at *
  unfold encIt
  go_enter Tryz.func84, Tryz.ntmps84
  go_wp2_with fail
  refine wp_region_held_drew (S := fun w' => w'.cell? ⟨W.heap.size, 1, none⟩ = some (.int .i64 x.frm) ∧ w'.cell? ⟨W.heap.size + 1, 1, none⟩ = some (.int .i64 y.frm) ∧ w'.cell? ⟨W.heap.size, 0, none⟩ = some (.int .i64 x.reg) ∧ w'.cell? ⟨W.heap.size + 1, 0, none⟩ = some (.int .i64 y.reg)) (by kernel_rfl) ⟨by rw [show ∀ w : World, w.drew.cell? ⟨W.heap.size, 1, none⟩ = w.cell? ⟨W.heap.size, 1, none⟩ from fun _ => rfl]; exact cell_alloc _ (HB1.out.cell 1), by have := HB2.out.cell 1; rw [World.size_alloc] at this; exact this, cell_alloc _ (HB1.out.cell 0), by have := HB2.out.cell 0; rw [World.size_alloc] at this; exact this⟩ ?_
  intro hHeld
  have HG0 : Hid (∃ q os', (((W.alloc (.cells #[.int .i64 x.reg, .int .i64 x.frm, .int .i64 x.to] 44)).alloc (.cells #[.int .i64 y.reg, .int .i64 y.frm, .int .i64 y.to] 44)).drew) = grow (W.drewN q) os') := Lib.hid ⟨1, _, by rw [alloc_eq_grow, alloc_eq_grow, grow_grow]; rfl⟩
  obtain ⟨W3, hW3⟩ : ∃ W3, (((W.alloc (.cells #[.int .i64 x.reg, .int .i64 x.frm, .int .i64 x.to] 44)).alloc (.cells #[.int .i64 y.reg, .int .i64 y.frm, .int .i64 y.to] 44)).drew) = W3 := ⟨_, rfl⟩
  rw [hW3] at HG0 hHeld ⊢
  have HFIN : Hid (∃ q os', W3.alloc (.cells #[.int .i64 a, .int .i64 b] 3) = grow (W.drewN q) os') := Lib.hid (by
    obtain ⟨q, os, e⟩ := HG0.out
    exact ⟨q, _, by rw [e, alloc_eq_grow, grow_grow]⟩)
  clear hW3 HB1 HB2 HG0 HOR
  refine take_drop 0 (v := ?_) rfl (by kernel_rfl) (by kernel_rfl) (by kernel_rfl) (fun _ _ _ h => h) (by rfl) ?_ (by assumption) ?_
  rotate_left 1
  · (intro w hSw; obtain ⟨hSw1, hSw2, hSw3, hSw4⟩ := hSw; go_simp; try with_reducible rfl)
  try simp only [Act.put, List.setIfInBounds_toArray, List.set_cons_zero, List.set_cons_succ]
  refine take_drop 1 (v := ?_) rfl (by kernel_rfl) (by kernel_rfl) (by kernel_rfl) (fun _ _ _ h => h) (by rfl) ?_ (by assumption) ?_
  rotate_left 1
  · (intro w hSw; obtain ⟨hSw1, hSw2, hSw3, hSw4⟩ := hSw; go_simp; try with_reducible rfl)
  try simp only [Act.put, List.setIfInBounds_toArray, List.set_cons_zero, List.set_cons_succ]
  refine take_drop 2 (v := ?_) rfl (by kernel_rfl) (by kernel_rfl) (by kernel_rfl) (fun _ _ _ h => h) (by rfl) ?_ (by assumption) ?_
  rotate_left 1
  · (intro w hSw; obtain ⟨hSw1, hSw2, hSw3, hSw4⟩ := hSw; go_simp; try with_reducible rfl)
  try simp only [Act.put, List.setIfInBounds_toArray, List.set_cons_zero, List.set_cons_succ]
  refine take_drop 3 (v := ?_) rfl (by kernel_rfl) (by kernel_rfl) (by kernel_rfl) (fun _ _ _ h => h) (by rfl) ?_ (by assumption) ?_
  rotate_left 1
  · (intro w hSw; obtain ⟨hSw1, hSw2, hSw3, hSw4⟩ := hSw; go_simp; try with_reducible rfl)
  try simp only [Act.put, List.setIfInBounds_toArray, List.set_cons_zero, List.set_cons_succ]
  refine take_drop 5 (v := ?_) rfl (by kernel_rfl) (by kernel_rfl) (by kernel_rfl) (fun _ _ _ h => h) (by rfl) ?_ (by assumption) ?_
  rotate_left 1
  · (intro w hSw; obtain ⟨hSw1, hSw2, hSw3, hSw4⟩ := hSw; go_simp; try with_reducible rfl)
  try simp only [Act.put, List.setIfInBounds_toArray, List.set_cons_zero, List.set_cons_succ]
  refine take_drop 6 (v := ?_) rfl (by kernel_rfl) (by kernel_rfl) (by kernel_rfl) (fun _ _ _ h => h) (by rfl) ?_ (by assumption) ?_
  rotate_left 1
  · (intro w hSw; obtain ⟨hSw1, hSw2, hSw3, hSw4⟩ := hSw; go_simp; try with_reducible rfl)
  try simp only [Act.put, List.setIfInBounds_toArray, List.set_cons_zero, List.set_cons_succ]
  refine take_drop 7 (v := ?_) rfl (by kernel_rfl) (by kernel_rfl) (by kernel_rfl) (fun _ _ _ h => h) (by rfl) ?_ (by assumption) ?_
  rotate_left 1
  · (intro w hSw; obtain ⟨hSw1, hSw2, hSw3, hSw4⟩ := hSw; go_simp; try with_reducible rfl)
  try simp only [Act.put, List.setIfInBounds_toArray, List.set_cons_zero, List.set_cons_succ]
  refine take_drop 8 (v := ?_) rfl (by kernel_rfl) (by kernel_rfl) (by kernel_rfl) (fun _ _ _ h => h) (by rfl) ?_ (by assumption) ?_
  rotate_left 1
  · (intro w hSw; obtain ⟨hSw1, hSw2, hSw3, hSw4⟩ := hSw; go_simp; try with_reducible rfl)
  try simp only [Act.put, List.setIfInBounds_toArray, List.set_cons_zero, List.set_cons_succ]
  refine wpAnyH_ready (rs := [4]) (by kernel_rfl) (by simp) ?_
  refine ready_call rfl rfl 46 (enters_of Tryz.func46 (by kernel_rfl) rfl) [.tmp 6, .tmp 8] _ rfl [.int .i64 x.frm, .int .i64 y.frm] rfl (h1 _) ?_ AllReadyH.nil
  rintro e W3 ⟨rfl, rfl⟩
  refine ⟨_, rfl, hHeld, fun _ => ?_⟩
  try simp only [Act.put, List.setIfInBounds_toArray, List.set_cons_zero, List.set_cons_succ]
  refine wpAnyH_ready (rs := [9]) (by kernel_rfl) (by simp) ?_
  refine ready_call rfl rfl 46 (enters_of Tryz.func46 (by kernel_rfl) rfl) [.tmp 11, .tmp 13] _ rfl [.int .i64 x.reg, .int .i64 y.reg] rfl (h2 _) ?_ AllReadyH.nil
  rintro e W3 ⟨rfl, rfl⟩
  refine ⟨_, rfl, hHeld, fun _ => ?_⟩
  try simp only [Act.put, List.setIfInBounds_toArray, List.set_cons_zero, List.set_cons_succ]
  refine wpAnyH_ready (rs := [10]) (by kernel_rfl) (by simp) ?_
  refine ready_drop rfl (fun K hK => ?_) AllReadyH.nil
  go_simp
  refine hK.out _ _ ⟨cell_alloc _ hHeld.1, cell_alloc _ hHeld.2.1, cell_alloc _ hHeld.2.2.1, cell_alloc _ hHeld.2.2.2⟩ (fun hHeld2 => ?_)
  clear hK
  try simp only [Act.put, List.setIfInBounds_toArray, List.set_cons_zero, List.set_cons_succ]
  refine wpAnyH_ready (rs := [11]) (by kernel_rfl) (by simp) ?_
  refine ready_call rfl rfl 45 (enters_of Tryz.func45 (by kernel_rfl) rfl) [.tmp 15] _ rfl [.slice (some ⟨W3.heap.size, 0, none⟩) 2 2] rfl (orI_any a b W3.heap.size _ (by rw [BlkAt.cell (BlkAt.new W3 _ _)]; rfl) (by rw [BlkAt.cell (BlkAt.new W3 _ _)]; rfl)) ?_ AllReadyH.nil
  rintro e w' ⟨rfl, rfl⟩
  refine ⟨_, rfl, hHeld2, fun _ => ?_⟩
  try simp only [Act.put, List.setIfInBounds_toArray, List.set_cons_zero, List.set_cons_succ]
  refine wpAnyH_ready (rs := [12]) (by kernel_rfl) (by simp) ?_
  refine ready_drop rfl (fun K hK => ?_) AllReadyH.nil
  go_simp
  refine hK.out _ _ hHeld2 (fun _ => ?_)
  clear hK
  try simp only [Act.put, List.setIfInBounds_toArray, List.set_cons_zero, List.set_cons_succ]
  refine wpAnyH_done (by kernel_rfl) ?_ _
  go_step
  go_wp2_with fail
  go_ret
  exact ⟨rfl, HFIN.out⟩
end Go.Proofs.YtpahhcmiimllaaaGreatDoor
