/- DERIVED. Blocks of cells; rows of the call's own. -/
import Derived.Test.YtdloadeidijcoaaGreatDoorBase
import Derived.Maps.AppendAt
import Derived.RangeFuncOwn
set_option linter.unusedSimpArgs false
set_option linter.unusedVariables false
namespace Go.Proofs.YtdloadeidijcoaaGreatDoor
open Go.RowKit

theorem grown_trans {a b c : World} {row : Option Nat} (h : a.grownBy b row) (k : b.grownBy c row) : a.grownBy c row := World.grownBy.andThen h k (fun _ e => .inr e)
theorem grown_of_below {a b : World} {row : Option Nat} (h : Below a.heap.size a b) : a.grownBy b row := ⟨h.os, h.tape, h.output, h.size, fun i hi _ => h.block i hi⟩
theorem own_below {w w' : World} {base : Nat} {e : TypeId} {k n : Nat} {v : Value} {xs : List Value} (h : w.ownsRow base e k v n xs) (hb : Below w.heap.size w w') : w'.ownsRow base e k v n xs := h.kept (row := none) (grown_of_below hb) (Classical.em _)
theorem setCell_grown (w : World) (b i : Nat) (v : Value) : w.grownBy (w.setCell ⟨b, i, none⟩ v) (some b) :=
  ⟨rfl, rfl, rfl, by simp [World.setCell], fun k _ hk => Below.heap_setCell _ _ _ k (fun e => hk (by rw [e]))⟩
/-- block B is the cells cs, of element type t -/
def BlkAt (W : World) (B : Nat) (t : TypeId) (cs : Array Value) : Prop := W.heap[B]? = some (.cells cs t (0, 0))
section
variable {W W' : World} {B : Nat} {t : TypeId} {cs : Array Value}
theorem BlkAt.lt (h : BlkAt W B t cs) : B < W.heap.size := (Array.getElem?_eq_some_iff.1 h).1
theorem BlkAt.cell (h : BlkAt W B t cs) (i : Nat) : W.cell? ⟨B, i, none⟩ = cs[i]? := cell_of_row W B i cs t (0, 0) h
theorem BlkAt.frozen (h : BlkAt W B t cs) (i : Nat) : W.frozen? ⟨B, i, none⟩ = false := by
  unfold BlkAt at h; simp [World.frozen?, h]
theorem BlkAt.new (W : World) (t : TypeId) (cs : Array Value) : BlkAt (W.alloc (.cells cs t)) W.heap.size t cs := heap_alloc_new W _
theorem BlkAt.block (h : BlkAt W B t cs) (e : W'.heap[B]? = W.heap[B]?) : BlkAt W' B t cs := e.trans h
theorem BlkAt.kept {row : Option Nat} (h : BlkAt W B t cs) (hg : W.grownBy W' row) (hne : some B ≠ row) : BlkAt W' B t cs := (hg.block B h.lt hne).trans h
theorem BlkAt.alloc (h : BlkAt W B t cs) (o : Obj) : BlkAt (W.alloc o) B t cs := (Below.heap_alloc W o B h.lt).trans h
theorem BlkAt.below {B' : Nat} (h : BlkAt W B t cs) (hb : Below B' W W') (hB : B < B') : BlkAt W' B t cs := (hb.block B hB).trans h
theorem BlkAt.far (h : BlkAt W B t cs) {p : Addr} (hp : B ≠ p.block) (u : Value) : BlkAt (W.setCell p u) B t cs := (Below.heap_setCell W p u B hp).trans h
theorem BlkAt.set (h : BlkAt W B t cs) (i : Nat) (u : Value) : BlkAt (W.setCell ⟨B, i, none⟩ u) B t (cs.setIfInBounds i u) := by
  unfold BlkAt at h ⊢
  simp [World.setCell, Array.getElem?_modify, h]
end
/-- what a row of the call's own looks like -/
theorem own_slice {w : World} {base : Nat} {e : TypeId} {k n : Nat} {v : Value} {xs : List Value} (h : w.ownsRow base e k v n xs) :
    ∃ A c, v = .slice A n c ∧ n ≤ c ∧ c ≤ maxLen ∧ (0 < n → ∃ g, A = some ⟨g, 0, none⟩ ∧ base ≤ g ∧ g < w.heap.size ∧ ∀ j u, xs[j]? = some u → w.cell? ⟨g, j, none⟩ = some u) := by
  rcases h.2 with ⟨rfl, rfl⟩ | ⟨g, cap, cur, rfl, hb, hh, hn, hc, hs, ht⟩
  · exact ⟨none, 0, rfl, Nat.le_refl _, Nat.zero_le _, fun h => absurd h (by omega)⟩
  · refine ⟨_, cap, rfl, hn, hc, fun h0 => ⟨g, rfl, hb, (Array.getElem?_eq_some_iff.1 hh).1, fun j u hj => ?_⟩⟩
    have hj' : j < n * k := by have := (List.getElem?_eq_some_iff.1 hj).1; rw [h.1] at this; exact this
    rw [← ht, List.getElem?_take_of_lt hj', Array.getElem?_toList] at hj
    simp [World.cell?, hh, hj]
theorem add_plain' (b o j : Nat) : (⟨b, o, none⟩ : Addr).add j = ⟨b, o + j, none⟩ := by
  unfold Addr.add; split
  · subst_vars; rfl
  · rfl
/-- the cells of a block just made -/
theorem cells_new (w : World) (xs : List Value) (t : TypeId) : ∀ j u, xs[j]? = some u → (w.alloc (.cells xs.toArray t)).cell? ((⟨w.heap.size, 0, none⟩ : Addr).add j) = some u := by
  intro j u hj
  rw [add_plain', BlkAt.cell (BlkAt.new w t xs.toArray)]
  simpa using hj
theorem cells_new' (w : World) (xs : List Value) (t : TypeId) (n : Nat) (hn : w.heap.size = n) : ∀ j u, xs[j]? = some u → (w.alloc (.cells xs.toArray t)).cell? ((⟨n, 0, none⟩ : Addr).add j) = some u := by
  subst hn; exact cells_new w xs t
theorem blkAt_own {β : Type} (B : Nat) (t : TypeId) (f : β → Array Value) : Own (fun s W => BlkAt W B t (f s)) := fun s X Y row hs hg hrow =>
  hs.kept hg (fun e' => by obtain ⟨o, ho, hc⟩ := hrow B e'.symm; rw [show X.heap[B]? = _ from hs] at ho; cases ho; cases hc)
theorem own_blk_ne {w : World} {base : Nat} {e t : TypeId} {size n g : Nat} {v : Value} {xs : List Value} {cs : Array Value} (h : w.ownsRow base e size v n xs) (hg : BlkAt w g t cs) (hne : e ≠ t) : some g ≠ v.ownBlock := by
  rcases h.2 with ⟨rfl, _⟩ | ⟨g', cap, cur, rfl, _, hh, _⟩
  · simp [Value.ownBlock]
  · intro he
    obtain rfl : g = g' := by simpa [Value.ownBlock] using he
    have := hg.symm.trans hh
    injection this with this
    injection this with _ ht
    exact hne ht.symm
theorem own_own_ne {w : World} {base base' : Nat} {e e' : TypeId} {size n size' n' : Nat} {v v' : Value} {xs xs' : List Value} (h : w.ownsRow base e size v n xs) (h' : w.ownsRow base' e' size' v' n' xs') (hne : e ≠ e') : v.ownBlock = none ∨ v.ownBlock ≠ v'.ownBlock := by
  rcases h.2 with ⟨rfl, _⟩ | ⟨g, cap, cur, rfl, _, hh, _⟩
  · left; rfl
  · right
    exact own_blk_ne (g := g) (t := e) (cs := cur) h' hh (fun e => hne e.symm)
theorem own_set {w : World} {base : Nat} {e : TypeId} {size n : Nat} {v : Value} {xs : List Value} (h : w.ownsRow base e size v n xs) {g : Nat} (hg : some g ≠ v.ownBlock) (i : Nat) (u : Value) : (w.setCell ⟨g, i, none⟩ u).ownsRow base e size v n xs :=
  h.kept (setCell_grown _ _ _ _) (.inr (Ne.symm hg))
theorem blk_ne_new {w : World} {g : Nat} {t : TypeId} {cs : Array Value} (h : BlkAt w g t cs) : g ≠ w.heap.size := by have := h.lt; omega
theorem own_lt {w : World} {base : Nat} {e : TypeId} {size n j : Nat} {v : Value} {xs : List Value} (h : w.ownsRow base e size v n xs) (hj : v.ownBlock = some j) : base ≤ j ∧ j < w.heap.size := h.lt j hj

theorem blk_blk_ne {w : World} {g g' : Nat} {t t' : TypeId} {cs cs' : Array Value} (h : BlkAt w g t cs) (h' : BlkAt w g' t' cs') (hne : t ≠ t') : g ≠ g' := by
  rintro rfl
  have := h.symm.trans h'
  injection this with this
  injection this with _ ht
  exact hne ht

theorem own_empty0 {w : World} {X base : Nat} {e : TypeId} (h : BlkAt w X e #[]) (hb : base ≤ X) (size : Nat) : w.ownsRow base e size (.slice (some ⟨X, 0, none⟩) 0 0) 0 [] :=
  ⟨by simp, .inr ⟨X, 0, #[], rfl, hb, h, Nat.le_refl _, Nat.zero_le _, by simp, by simp⟩⟩
theorem own_base {w : World} {base base' : Nat} {e : TypeId} {k n : Nat} {v : Value} {xs : List Value} (h : w.ownsRow base e k v n xs) (hb : base' ≤ base) : w.ownsRow base' e k v n xs := by
  refine ⟨h.1, h.2.imp id ?_⟩
  rintro ⟨g, cap, cur, h1, h2, h3⟩
  exact ⟨g, cap, cur, h1, Nat.le_trans hb h2, h3⟩
end Go.Proofs.YtdloadeidijcoaaGreatDoor
