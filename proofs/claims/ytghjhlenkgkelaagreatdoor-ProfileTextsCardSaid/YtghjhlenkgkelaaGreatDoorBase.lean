/- DERIVED. General words for the walks of this seat: endings, cells, accesses. -/
import Derived.Test.YtghjhlenkgkelaaGreatDoorProg
import Derived.WalkKit
import Derived.KernelRfl
import Derived.Outline
import Derived.Lib.Hide
import Derived.Below
import Derived.Laws.OwnMore
import Derived.Deep.AppendLies
import Derived.Deep.Draws
import Derived.Laws.Rows
import Derived.Maps.AppendAt
import Derived.RegionTactic
import Derived.OwnWalk
import Derived.Deep.QuietTactic
import Derived.BigQuiet
import Derived.Deep.LoopGhost
set_option linter.unusedSimpArgs false
set_option linter.unusedVariables false
namespace Go.Proofs.YtghjhlenkgkelaaGreatDoor
open Go.RowKit

theorem ret_int {k : IntKind} {a b : Int} (h : a = b) : Ending.returned (.int k a) = .returned (.int k b) := by rw [h]
theorem ret_bool {a b : Bool} (h : a = b) : Ending.returned (.bool a) = .returned (.bool b) := by rw [h]

theorem cell_lt {w : World} {a : Addr} {v : Value} (h : w.cell? a = some v) : a.block < w.heap.size := by
  rcases Nat.lt_or_ge a.block w.heap.size with h1 | h1
  · exact h1
  · unfold World.cell? at h; rw [Array.getElem?_eq_none h1] at h; cases h
theorem cell_alloc {w : World} {a : Addr} {v : Value} (o : Obj) (h : w.cell? a = some v) : (w.alloc o).cell? a = some v := by
  rw [← h]; unfold World.cell?; rw [show (w.alloc o).heap[a.block]? = w.heap[a.block]? from Below.heap_alloc w o _ (cell_lt h)]
theorem cell_below {w w' : World} {B : Nat} {a : Addr} {v : Value} (hb : Below B w w') (hB : w.heap.size ≤ B) (h : w.cell? a = some v) : w'.cell? a = some v :=
  (hb.cell (by have := cell_lt h; omega)).trans h
theorem bcell {w w1 : World} {B : Nat} (hb : Below B w w1) : (∀ b o, b < B → w1.cell? ⟨b, o, none⟩ = w.cell? ⟨b, o, none⟩) ∧ (∀ b o, b < B → w1.frozen? ⟨b, o, none⟩ = w.frozen? ⟨b, o, none⟩) :=
  ⟨fun b o h => hb.cell (p := ⟨b, o, none⟩) h, fun b o h => hb.frozen (p := ⟨b, o, none⟩) h⟩
theorem below_draw {B : Nat} {a w : World} (h : Below B a w) (n : Nat) : Below B a (w.drewN n) := ⟨h.os, h.tape, h.output, h.size, h.block⟩

/-- An access: task, place, kind, from, at. -/
structure Acc where
  task : Int
  p0 : Int
  p1 : Int
  p2 : Int
  kind : Int
  frm : Int
  at' : Int

def Acc.cells (a : Acc) : Array Value := #[.int .i64 a.task, .int .i64 a.p0, .int .i64 a.p1, .int .i64 a.p2, .int .i64 a.kind, .int .i64 a.frm, .int .i64 a.at']

/-- the cells of block b from o on are the access x -/
def AccAt (w : World) (b o : Nat) (x : Acc) : Prop :=
    w.cell? ⟨b, o, none⟩ = some (.int .i64 x.task) ∧
    w.cell? ⟨b, o + 1, none⟩ = some (.int .i64 x.p0) ∧
    w.cell? ⟨b, o + 2, none⟩ = some (.int .i64 x.p1) ∧
    w.cell? ⟨b, o + 3, none⟩ = some (.int .i64 x.p2) ∧
    w.cell? ⟨b, o + 4, none⟩ = some (.int .i64 x.kind) ∧
    w.cell? ⟨b, o + 5, none⟩ = some (.int .i64 x.frm) ∧
    w.cell? ⟨b, o + 6, none⟩ = some (.int .i64 x.at')

theorem AccAt.below {w w' : World} {B b o : Nat} {x : Acc} (h : AccAt w b o x) (hb : Below B w w') (hB : b < B) : AccAt w' b o x := by
  obtain ⟨h0, h1, h2, h3, h4, h5, h6⟩ := h
  have c := (bcell hb).1
  exact ⟨(c _ _ hB).trans h0, (c _ _ hB).trans h1, (c _ _ hB).trans h2, (c _ _ hB).trans h3, (c _ _ hB).trans h4, (c _ _ hB).trans h5, (c _ _ hB).trans h6⟩

/-- the slice value '.slice A n _' reads as the accesses xs; it lies below B -/
structure Trace (w : World) (B : Nat) (A : Option Addr) (n : Nat) (xs : List Acc) : Prop where
  len : n = xs.length
  at_ : ∀ i x, xs[i]? = some x → ∃ b off, A = some ⟨b, off, none⟩ ∧ b < B ∧ AccAt w b (off + i * 7) x

theorem Trace.below {w w' : World} {B B' n : Nat} {A : Option Addr} {xs : List Acc} (h : Trace w B A n xs) (hb : Below B' w w') (hB : B ≤ B') : Trace w' B A n xs :=
  ⟨h.len, fun i x hx => by
    obtain ⟨b, off, e, hl, hc⟩ := h.at_ i x hx
    exact ⟨b, off, e, hl, hc.below hb (Nat.lt_of_lt_of_le hl hB)⟩⟩

theorem drop_cons {α : Type} {xs : List α} {k : Nat} {x : α} (h : xs[k]? = some x) : xs.drop k = x :: xs.drop (k + 1) := by
  obtain ⟨hk, rfl⟩ := List.getElem?_eq_some_iff.1 h
  exact List.drop_eq_getElem_cons hk
theorem get_some {α : Type} {xs : List α} {k : Nat} (h : k < xs.length) : ∃ x, xs[k]? = some x := ⟨xs[k], List.getElem?_eq_getElem h⟩

/-- the error of the first wrong access -/
def givenFrom : List Acc → Int
  | [] => 0
  | a :: r => if a.task < 0 ∨ a.frm < 0 ∨ a.frm ≥ 8 ∨ a.at' < 0 ∨ a.at' ≥ 8 then 4 else if a.kind < 1 ∨ a.kind > 4 then 1 else givenFrom r
def givenL (l : List Acc) : Int := if l.length > 5000 then 5 else givenFrom l
end Go.Proofs.YtghjhlenkgkelaaGreatDoor
