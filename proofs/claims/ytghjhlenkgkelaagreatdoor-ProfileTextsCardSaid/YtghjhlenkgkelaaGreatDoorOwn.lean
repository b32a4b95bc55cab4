/- DERIVED. Small laws on worlds that grow aside of one block; predicates handed to the library. -/
import Derived.Test.YtghjhlenkgkelaaGreatDoorSpots
import Derived.Lib.SliceRun
import Derived.Shelf.Abstract
set_option linter.unusedSimpArgs false
set_option linter.unusedVariables false
namespace Go.Proofs.YtghjhlenkgkelaaGreatDoor
open Go.RowKit Go.Shelf

theorem grown_trans {a b c : World} {row : Option Nat} (h : a.grownBy b row) (k : b.grownBy c row) : a.grownBy c row := World.grownBy.andThen h k (fun _ e => .inr e)
theorem grown_of_below {a b : World} {row : Option Nat} (h : Below a.heap.size a b) : a.grownBy b row := ⟨h.os, h.tape, h.output, h.size, fun i hi _ => h.block i hi⟩
theorem grown_below {a b : World} {B : Nat} {row : Option Nat} (h : a.grownBy b row) (hB : B ≤ a.heap.size) (hr : ∀ k, row = some k → B ≤ k) : Below B a b := (Below.refl _ _).grown h hB hr
theorem below_of_grown {a b : World} (h : a.grownBy b none) : Below a.heap.size a b := ⟨h.os, h.tape, h.output, h.size, fun i hi => h.block i hi (by simp)⟩
theorem setCell_grown (w : World) (b i : Nat) (v : Value) : w.grownBy (w.setCell ⟨b, i, none⟩ v) (some b) :=
  ⟨rfl, rfl, rfl, by simp [World.setCell], fun k _ hk => Below.heap_setCell _ _ _ k (fun e => hk (by rw [e]))⟩
theorem setCells_grown (b : Nat) : ∀ (vs : List Value) (o : Nat) (w : World), w.grownBy (w.setCells b o vs) (some b)
  | [], _, w => World.grownBy.refl w _
  | v :: vs, o, w => grown_trans (setCell_grown w b o v) (setCells_grown b vs (o + 1) _)
theorem setCells_size (b : Nat) : ∀ (vs : List Value) (o : Nat) (w : World), (w.setCells b o vs).heap.size = w.heap.size
  | [], _, _ => rfl
  | v :: vs, o, w => (setCells_size b vs (o + 1) _).trans (by simp [World.setCell])
theorem BlkAt.setCells {B : Nat} {t : TypeId} : ∀ (vs : List Value) (o : Nat) {W : World} {cs : Array Value}, BlkAt W B t cs → ∃ cs', BlkAt (W.setCells B o vs) B t cs' ∧ cs'.size = cs.size ∧ ∀ j, j < o → cs'[j]? = cs[j]?
  | [], _, _, cs, h => ⟨cs, h, rfl, fun _ _ => rfl⟩
  | v :: vs, o, W, cs, h => by
    obtain ⟨cs', h1, h2, h3⟩ := BlkAt.setCells vs (o + 1) (h.set o v)
    refine ⟨cs', h1, by simpa using h2, fun j hj => ?_⟩
    rw [h3 j (by omega), Array.getElem?_setIfInBounds_ne (by omega)]

/-- A function value that tells p of every element of xs, in whatever world that has grown aside of 'row'; it makes new memory at most. -/
def PredB {α : Type} (P : Program) (f : FuncId) (cb : Array Value) (enc : α → Value) (p : α → Bool) (xs : List α) (w : World) (row : Option Nat) : Prop :=
  ∀ W, w.grownBy W row → ∀ x ∈ xs, Calls P f (#[enc x] ++ cb) W fun e W' => e = .returned (.bool (p x)) ∧ Below W.heap.size W W'
theorem PredB.sub {α : Type} {P : Program} {f : FuncId} {cb : Array Value} {enc : α → Value} {p : α → Bool} {xs ys : List α} {w W : World} {row : Option Nat} (h : PredB P f cb enc p xs w row) (hs : ∀ x ∈ ys, x ∈ xs) (hg : w.grownBy W row) : PredB P f cb enc p ys W row :=
  fun W' hW x hx => h W' (grown_trans hg hW) x (hs x hx)
theorem PredB.none_ {α : Type} {P : Program} {f : FuncId} {cb : Array Value} {enc : α → Value} {p : α → Bool} {xs : List α} {w : World} {row : Option Nat} (h : PredB P f cb enc p xs w row) : PredB P f cb enc p xs w none :=
  fun W hW x hx => h W ⟨hW.os, hW.tape, hW.output, hW.size, fun i hi _ => hW.block i hi (by simp)⟩ x hx

def idxI {α : Type} (p : α → Bool) (xs : List α) : Int := match xs.findIdx? p with | some i => i | none => -1
theorem idxI_at {α : Type} {p : α → Bool} {xs : List α} {k : Nat} {x : α} (hx : xs[k]? = some x) (hp : p x = true) (hb : ∀ j y, j < k → xs[j]? = some y → p y = false) : idxI p xs = k := by
  have : xs.findIdx? p = some k := by
    rw [List.findIdx?_eq_some_iff_getElem]
    obtain ⟨hk, rfl⟩ := List.getElem?_eq_some_iff.1 hx
    refine ⟨hk, hp, fun j hj => ?_⟩
    have := hb j _ hj (List.getElem?_eq_getElem (by omega))
    simp [this]
  simp [idxI, this]
theorem idxI_none {α : Type} {p : α → Bool} {xs : List α} (hb : ∀ y ∈ xs, p y = false) : idxI p xs = -1 := by
  have : xs.findIdx? p = none := List.findIdx?_eq_none_iff.2 (fun x hx => by simp [hb x hx])
  simp [idxI, this]
/-- a slice of one-cell elements reads as xs -/
structure Sl {α : Type} (w : World) (enc : α → Value) (A : Option Addr) (n : Nat) (xs : List α) : Prop where
  len : n = xs.length
  at_ : ∀ i x, xs[i]? = some x → ∃ b o, A = some ⟨b, o, none⟩ ∧ b < w.heap.size ∧ w.cell? ⟨b, o + i, none⟩ = some (enc x)
theorem Sl.below {α : Type} {w w' : World} {enc : α → Value} {A : Option Addr} {n : Nat} {xs : List α} (h : Sl w enc A n xs) (hb : Below w.heap.size w w') : Sl w' enc A n xs :=
  ⟨h.len, fun i x hx => by obtain ⟨b, o, e, hl, hc⟩ := h.at_ i x hx; exact ⟨b, o, e, Nat.lt_of_lt_of_le hl hb.size, (hb.cell (p := ⟨b, o + i, none⟩) hl).trans hc⟩⟩
theorem sl_own {α : Type} {w : World} {enc : α → Value} {base : Nat} {e : TypeId} {A : Option Addr} {n c : Nat} {xs : List α} (h : w.ownsRow base e 1 (.slice A n c) n (xs.map enc)) : Sl w enc A n xs := by
  have hl := h.1
  refine ⟨by simpa using hl.symm, fun i x hx => ?_⟩
  obtain ⟨A', c', hv, _, _, hA⟩ := own_slice h
  injection hv with hv
  have hi : i < n := by have := (List.getElem?_eq_some_iff.1 hx).1; simp at hl; omega
  obtain ⟨g, e, _, hlt, hc⟩ := hA (by omega)
  exact ⟨g, 0, hv.trans e, hlt, by rw [Nat.zero_add]; exact hc i _ (by simp [hx])⟩
end Go.Proofs.YtghjhlenkgkelaaGreatDoor
