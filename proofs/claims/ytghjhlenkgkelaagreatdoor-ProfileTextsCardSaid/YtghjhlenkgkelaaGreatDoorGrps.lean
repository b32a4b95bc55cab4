/- DERIVED. Groups. -/
import Derived.Test.YtghjhlenkgkelaaGreatDoorPut6
import Derived.Test.YtghjhlenkgkelaaGreatDoorGiven
set_option linter.unusedSimpArgs false
set_option linter.unusedVariables false
namespace Go.Proofs.YtghjhlenkgkelaaGreatDoor
open Go.RowKit Go.Shelf Go.Sort

theorem sl_info : (Tryz.prog.info? 85).map (fun i => (i.zero, i.size, i.bytes)) = some (some (.slice none 0 0), 1, 24) := by kernel_rfl

/-- the rows that the slices ms hold are the members of the groups R -/
def RowsAt (w : World) (ms : List Value) (R : List GO) : Prop :=
  ms.length = R.length ∧ ∀ (k : Nat) (p : GO), R[k]? = some p → ∃ A c, ms[k]? = some (.slice A p.1.mem.length c) ∧ Sl w intV A p.1.mem.length p.1.mem
def GrpsOk (w w' : World) (v : Value) (xs : List Acc) : Prop :=
  ∃ ms, w'.ownsRow w.heap.size 85 1 v ms.length ms ∧ RowsAt w' ms (runR xs xs.length)
def GrpsRes (w w' : World) (v : Value) (xs : List Acc) : Prop := (givenL xs ≠ 0 → v = .slice none 0 0) ∧ (givenL xs = 0 → GrpsOk w w' v xs)

theorem Coll.rows {w w' : World} {B C : Nat} {T va vo : Value} {gs : List (Nat × Grp)} {op : List Nat} {mv : Nat → Value} {R : List GO} (h : Coll w B C T gs op va vo mv) (hS : Sim gs op R) (hb : Below w.heap.size w w') : RowsAt w' (gs.map (fun p => mv p.1)) R := by
  refine ⟨by rw [hS.eq]; simp, fun k p hp => ?_⟩
  rw [hS.eq, List.getElem?_map] at hp
  obtain ⟨q, hq, rfl⟩ := Option.map_eq_some_iff.1 hp
  have hm := h.mem q (List.mem_of_getElem? hq)
  obtain ⟨A, c, hv, _, _, _⟩ := own_slice hm
  refine ⟨A, c, by rw [List.getElem?_map, hq]; simp [hv], ?_⟩
  rw [hv] at hm
  exact (sl_own hm).below hb

end Go.Proofs.YtghjhlenkgkelaaGreatDoor
