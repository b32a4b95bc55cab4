/- DERIVED. A region whose order is drawn: one step. -/
import Derived.Test.YtdloadeidijcoaaGreatDoorBlk
import Derived.Deep.RegionHeldLaw
set_option linter.unusedSimpArgs false
set_option linter.unusedVariables false
namespace Go.Proofs.YtdloadeidijcoaaGreatDoor
open Go.RowKit

theorem at_of_drop {ops : Array Oper} {i : Nat} {o : Oper} {tl : List Oper} (ho : ops.toList.drop i = o :: tl) : ops[i]? = some o := by
  have : ops.toList[i]? = some o := by rw [← List.head?_drop, ho]; rfl
  simpa using this
theorem take_drop {P : Program} {md : Region.Mode} {ops : Array Oper} {Q : Exit → Act → World → Prop} {S : World → Prop} (i : Nat) {oi : Oper} {tl : List Oper} {v : Value} {fuel : Nat} {listed : Array Bool} {a : Act} {w : World} (ho : ops.toList.drop i = oi :: tl)
    (hs : Region.noSelect ops = true) (hf : Region.free md ops listed i = true) (hr : (Region.ready md ops listed).contains i = true)
    (hQ : ∀ c a w, Q (.panic c) (a.put oi.dst v) w → Q (.panic c) a w) (hw : Region.wanted oi (yielded ops a.tmps) = true) (hy : ∀ w, S w → (execOp a.eval oi).run P w = .ok (.value v) w) (hS : S w)
    (h : wpAnyH P md ops Q S fuel (listed.setIfInBounds i true) (a.put oi.dst v) w) : wpAnyH P md ops Q S (fuel + 1) listed a w :=
  wpAnyH_take (at_of_drop ho) hs hf hr hQ (Or.inl ⟨hw, hy⟩) hS h
theorem ready_drop {P : Program} {md : Region.Mode} {ops : Array Oper} {Q : Exit → Act → World → Prop} {S : World → Prop} {fuel : Nat} {listed : Array Bool} {a : Act} {w : World} {i : Nat} {o : Oper} {tl : List Oper} {rs : List Nat} (ho : ops.toList.drop i = o :: tl)
    (h : ∀ K' : Act → World → Prop, Shut (∀ a w, S w → (S w → wpAnyH P md ops Q S fuel (listed.setIfInBounds i true) a w) → K' a w) → if Region.wanted o (yielded ops a.tmps) = true then Oper.wp P o a w K' Q else K' (a.put o.dst undef) w)
    (hs : AllReadyH P md ops Q S fuel listed a w rs) : AllReadyH P md ops Q S fuel listed a w (i :: rs) := AllReadyH.cons (at_of_drop ho) h hs
end Go.Proofs.YtdloadeidijcoaaGreatDoor
