/- DERIVED. awake. -/
import Derived.Test.YtghjhlenkgkelaaGreatDoorOf2
set_option linter.unusedSimpArgs false
set_option linter.unusedVariables false
namespace Go.Proofs.YtghjhlenkgkelaaGreatDoor
open Go.RowKit Go.Shelf Go.Sort
attribute [local go_sem] run_store_float

def awk : List Acc := [⟨0, 1, 0, 0, 1, 0, 1⟩, ⟨0, 2, 0, 0, 1, 0, 1⟩]
theorem awk_given : givenL awk = 0 := by decide
theorem awk_edges : edgesR awk = [(⟨0, 1⟩, ⟨0, 1, 2, 1⟩)] := by decide
theorem awk_es {es : List Edg} (h : IsEdges awk es) : es = [⟨0, 1, 2, 1⟩] := by
  obtain ⟨ss, h1, _, rfl⟩ := h
  rw [awk_edges] at h1 ⊢
  have : ss = [⟨0, 1⟩] := List.perm_singleton.1 h1
  subst this; decide
theorem awk_cost : costF 1073741824 1065353216 [⟨0, 1, 2, 1⟩] 0 = some 1082130432 := by decide +kernel

set_option maxRecDepth 100000 in
set_option maxHeartbeats 1000000 in
theorem awake_any (w : World) : Calls Tryz.prog 4 #[] w fun e w' => e = .returned (.bool true) ∧ Below w.heap.size w w' := by
  have hT : Trace (w.alloc (.cells #[.int .i64 0, .int .i64 1, .int .i64 0, .int .i64 0, .int .i64 1, .int .i64 0, .int .i64 1, .int .i64 0, .int .i64 2, .int .i64 0, .int .i64 0, .int .i64 1, .int .i64 0, .int .i64 1] 45)) (w.heap.size + 1) (some ⟨w.heap.size, 0, none⟩) 2 awk := by
    have B := BlkAt.new w 45 #[.int .i64 0, .int .i64 1, .int .i64 0, .int .i64 0, .int .i64 1, .int .i64 0, .int .i64 1, .int .i64 0, .int .i64 2, .int .i64 0, .int .i64 0, .int .i64 1, .int .i64 0, .int .i64 1]
    refine ⟨rfl, fun i x hx => ⟨w.heap.size, 0, rfl, by omega, ?_⟩⟩
    match i, hx with
    | 0, hx =>
      simp only [awk, List.getElem?_cons_zero, Option.some.injEq] at hx; subst hx
      exact ⟨B.cell 0, B.cell 1, B.cell 2, B.cell 3, B.cell 4, B.cell 5, B.cell 6⟩
    | 1, hx =>
      simp only [awk, List.getElem?_cons_succ, List.getElem?_cons_zero, Option.some.injEq] at hx; subst hx
      exact ⟨B.cell 7, B.cell 8, B.cell 9, B.cell 10, B.cell 11, B.cell 12, B.cell 13⟩
    | i + 2, hx => simp [awk] at hx
  have hof := Of_any (some ⟨w.heap.size, 0, none⟩) 2 2 1073741824 1065353216 awk _ (by omega) (hT.mono (by simp)) awk_given (by decide +kernel) (by decide +kernel) (fun es h => by rw [awk_es h, awk_cost]; rfl)
  clear hT
  go_enter Tryz.func4, Tryz.ntmps4
  go_wp2_with
    (go_at_call 11
     refine hof.mono ?_
     rintro e w1 ⟨es, sl, ve, vs, cst, h1, h2, h3, rfl, h4, h5, h6⟩
     clear hof
     have h1' := awk_es h1
     subst h1'
     rw [awk_cost] at h3
     injection h3 with h3
     subst h3
     obtain ⟨Ae, ce, rfl, _, _, _⟩ := own_slice h4
     obtain ⟨As, cs, rfl, _, _, _⟩ := own_slice h5
     obtain ⟨ge, rfl, hge, hce⟩ := row_cells h4 (by decide)
     have hc2 := hce 2 _ rfl
     have hc3 := hce 3 _ rfl
     have HB6 := Lib.hid h6
     clear h1 h2 h4 h5 hce h6)
  go_ret
  refine ⟨rfl, ?_⟩
  have h0 : Below w.heap.size w (w.alloc (.cells #[.int .i64 0, .int .i64 1, .int .i64 0, .int .i64 0, .int .i64 1, .int .i64 0, .int .i64 1, .int .i64 0, .int .i64 2, .int .i64 0, .int .i64 0, .int .i64 1, .int .i64 0, .int .i64 1] 45)) := (Below.refl _ w).alloc (Nat.le_refl _) _
  exact (h0.trans (HB6.out.mono h0.size)).alloc (by have := HB6.out.size; simp at this; omega) _
end Go.Proofs.YtghjhlenkgkelaaGreatDoor
