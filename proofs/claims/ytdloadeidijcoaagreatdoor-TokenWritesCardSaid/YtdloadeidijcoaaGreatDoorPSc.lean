/- DERIVED. The scanner: its cells; fail, rest, span. -/
import Derived.Test.YtdloadeidijcoaaGreatDoorHeld
import Derived.Test.YtdloadeidijcoaaGreatDoorRTxt
set_option linter.unusedSimpArgs false
set_option linter.unusedVariables false
namespace Go.Proofs.YtdloadeidijcoaaGreatDoor
open Go.RowKit

abbrev SC : TypeId := 62
/-- the scanner's cells: text, place, error -/
def scC (t : List UInt8) (k e : Int) : Array Value := #[strV t, .int .i64 k, .int .i64 e]
def pX (X : Nat) : Value := .pointer (some ⟨X, 0, none⟩)
/-- block X is a scanner of t, at k, with error e -/
def ScAt (w : World) (X : Nat) (t : List UInt8) (k e : Int) : Prop := BlkAt w X SC (scC t k e)
section
variable {w w' : World} {X : Nat} {t : List UInt8} {k e : Int}
theorem ScAt.c0 (h : ScAt w X t k e) : w.cell? ⟨X, 0, none⟩ = some (.string ⟨t.toArray⟩) := BlkAt.cell h 0
theorem ScAt.c1 (h : ScAt w X t k e) : w.cell? ⟨X, 1, none⟩ = some (.int .i64 k) := BlkAt.cell h 1
theorem ScAt.c2 (h : ScAt w X t k e) : w.cell? ⟨X, 2, none⟩ = some (.int .i64 e) := BlkAt.cell h 2
theorem ScAt.fr (h : ScAt w X t k e) (i : Nat) : w.frozen? ⟨X, i, none⟩ = false := BlkAt.frozen h i
theorem ScAt.lt (h : ScAt w X t k e) : X < w.heap.size := BlkAt.lt h
theorem ScAt.below (h : ScAt w X t k e) (hb : Below w.heap.size w w') : ScAt w' X t k e := BlkAt.below h hb (BlkAt.lt h)
theorem ScAt.set1 (h : ScAt w X t k e) (j : Int) : ScAt (w.setCell ⟨X, 1, none⟩ (.int .i64 j)) X t j e := by
  have := BlkAt.set h 1 (.int .i64 j); simpa [scC, ScAt] using this
theorem ScAt.set2 (h : ScAt w X t k e) (j : Int) : ScAt (w.setCell ⟨X, 2, none⟩ (.int .i64 j)) X t k j := by
  have := BlkAt.set h 2 (.int .i64 j); simpa [scC, ScAt] using this
theorem ScAt.drew (h : ScAt w X t k e) (n : Nat) : ScAt (w.drewN n) X t k e := h
end
theorem grown_refl (w : World) (row : Option Nat) : w.grownBy w row := World.grownBy.refl w _
theorem grown_draw {a w : World} {row : Option Nat} (h : a.grownBy w row) (n : Nat) : a.grownBy (w.drewN n) row := grown_trans h (grown_of_below (below_draw (Below.refl _ _) n))
theorem grown_set {a w : World} {X : Nat} (h : a.grownBy w (some X)) (i : Nat) (v : Value) : a.grownBy (w.setCell ⟨X, i, none⟩ v) (some X) := grown_trans h (setCell_grown w X i v)
theorem grown_below {a w w' : World} {row : Option Nat} (h : a.grownBy w row) (hb : Below w.heap.size w w') : a.grownBy w' row := grown_trans h (grown_of_below hb)
set_option maxHeartbeats 1000000 in
theorem fail_any (X : Nat) (t : List UInt8) (k e j er : Int) (w : World) (h : ScAt w X t k e) :
    Calls Tryz.prog 66 #[pX X, .int .i64 j, .int .i64 er] w fun e w' => e = .returned (.tuple #[]) ∧ ScAt w' X t j er ∧ w.grownBy w' (some X) := by
  have HS := Lib.hid h
  have HG := Lib.hid (grown_refl w (some X))
  have hc0 := h.c0
  have hc1 := h.c1
  have hc2 := h.c2
  have hf1 := h.fr 1
  have hf2 := h.fr 2
  clear h
  unfold pX
  go_enter Tryz.func66, Tryz.ntmps66
  go_wp2
  go_end0
  exact ⟨rfl, (HS.out.set1 _).set2 _, grown_set (grown_set HG.out _ _) _ _⟩
set_option maxHeartbeats 1000000 in
theorem rest_any (X : Nat) (t : List UInt8) (k : Nat) (e : Int) (w : World) (ht : t.length ≤ 1000000) (hk : k ≤ t.length) (h : ScAt w X t k e) :
    Calls Tryz.prog 61 #[pX X] w fun e' w' => e' = .returned (strV (t.drop k)) ∧ Below w.heap.size w w' := by
  have hc0 := h.c0
  have hc1 := h.c1
  have HB := Lib.hid (Below.refl w.heap.size w)
  have hext : (⟨t.toArray⟩ : ByteArray).extract k t.length = ⟨(t.drop k).toArray⟩ := by
    have := ext_list t k t.length
    rw [show t.length - k = (t.drop k).length by simp, List.take_length] at this
    rw [← this, Lib.toList_data]
  clear h
  unfold pX strV
  go_enter Tryz.func61, Tryz.ntmps61
  go_wp2
  go_region
  go_wp2
  go_ret
  exact ⟨rfl, below_draw HB.out _⟩
end Go.Proofs.YtdloadeidijcoaaGreatDoor
