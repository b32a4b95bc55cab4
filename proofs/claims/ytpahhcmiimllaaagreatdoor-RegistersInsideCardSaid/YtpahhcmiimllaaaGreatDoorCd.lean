/- DERIVED. Flow code in memory. -/
import Derived.Test.YtpahhcmiimllaaaGreatDoorProg
import Derived.WalkKit
import Derived.KernelRfl
import Derived.Outline
import Derived.Lib.Hide
import Derived.Below
import Derived.Laws.OwnMore
import Derived.Deep.AppendLies
import Derived.Deep.Draws
import Derived.Laws.Rows
import Derived.Maps.AppendAt
import Derived.RegionTactic
import Derived.OwnWalk
import Derived.Deep.QuietTactic
import Derived.BigQuiet
import Derived.Deep.LoopGhost
import Derived.Laws.IdiomStrings
import Derived.Lib.Strings
import Derived.WalkLawsBesides
import Derived.WalkSpells
import Derived.RangeFuncOwn
import Derived.Test.YtpahhcmiimllaaaGreatDoorSpecAll
set_option linter.unusedSimpArgs false
set_option linter.unusedVariables false
namespace Go.Proofs.YtpahhcmiimllaaaGreatDoor
open Go.RowKit

theorem ret_int {k : IntKind} {a b : Int} (h : a = b) : Ending.returned (.int k a) = .returned (.int k b) := by rw [h]
theorem ret_bool {a b : Bool} (h : a = b) : Ending.returned (.bool a) = .returned (.bool b) := by rw [h]

theorem cell_lt {w : World} {a : Addr} {v : Value} (h : w.cell? a = some v) : a.block < w.heap.size := by
  rcases Nat.lt_or_ge a.block w.heap.size with h1 | h1
  · exact h1
  · unfold World.cell? at h; rw [Array.getElem?_eq_none h1] at h; cases h
theorem cell_alloc {w : World} {a : Addr} {v : Value} (o : Obj) (h : w.cell? a = some v) : (w.alloc o).cell? a = some v := by
  rw [← h]; unfold World.cell?; rw [show (w.alloc o).heap[a.block]? = w.heap[a.block]? from Below.heap_alloc w o _ (cell_lt h)]
theorem cell_below {w w' : World} {B : Nat} {a : Addr} {v : Value} (hb : Below B w w') (hB : w.heap.size ≤ B) (h : w.cell? a = some v) : w'.cell? a = some v :=
  (hb.cell (by have := cell_lt h; omega)).trans h
theorem bcell {w w1 : World} {B : Nat} (hb : Below B w w1) : (∀ b o, b < B → w1.cell? ⟨b, o, none⟩ = w.cell? ⟨b, o, none⟩) ∧ (∀ b o, b < B → w1.frozen? ⟨b, o, none⟩ = w.frozen? ⟨b, o, none⟩) :=
  ⟨fun b o h => hb.cell (p := ⟨b, o, none⟩) h, fun b o h => hb.frozen (p := ⟨b, o, none⟩) h⟩
theorem below_draw {B : Nat} {a w : World} (h : Below B a w) (n : Nat) : Below B a (w.drewN n) := ⟨h.os, h.tape, h.output, h.size, h.block⟩

theorem drop_cons {α : Type} {xs : List α} {k : Nat} {x : α} (h : xs[k]? = some x) : xs.drop k = x :: xs.drop (k + 1) := by
  obtain ⟨hk, rfl⟩ := List.getElem?_eq_some_iff.1 h
  exact List.drop_eq_getElem_cons hk
theorem get_some {α : Type} {xs : List α} {k : Nat} (h : k < xs.length) : ∃ x, xs[k]? = some x := ⟨xs[k], List.getElem?_eq_getElem h⟩

end Go.Proofs.YtpahhcmiimllaaaGreatDoor
namespace Go.Proofs.YtpahhcmiimllaaaGreatDoor
open Go.RowKit

theorem grown_trans {a b c : World} {row : Option Nat} (h : a.grownBy b row) (k : b.grownBy c row) : a.grownBy c row := World.grownBy.andThen h k (fun _ e => .inr e)
theorem grown_of_below {a b : World} {row : Option Nat} (h : Below a.heap.size a b) : a.grownBy b row := ⟨h.os, h.tape, h.output, h.size, fun i hi _ => h.block i hi⟩
theorem own_below {w w' : World} {base : Nat} {e : TypeId} {k n : Nat} {v : Value} {xs : List Value} (h : w.ownsRow base e k v n xs) (hb : Below w.heap.size w w') : w'.ownsRow base e k v n xs := h.kept (row := none) (grown_of_below hb) (Classical.em _)
theorem setCell_grown (w : World) (b i : Nat) (v : Value) : w.grownBy (w.setCell ⟨b, i, none⟩ v) (some b) :=
  ⟨rfl, rfl, rfl, by simp [World.setCell], fun k _ hk => Below.heap_setCell _ _ _ k (fun e => hk (by rw [e]))⟩
/-- block B is the cells cs, of element type t -/
def BlkAt (W : World) (B : Nat) (t : TypeId) (cs : Array Value) : Prop := W.heap[B]? = some (.cells cs t (0, 0))
section
variable {W W' : World} {B : Nat} {t : TypeId} {cs : Array Value}
theorem BlkAt.lt (h : BlkAt W B t cs) : B < W.heap.size := (Array.getElem?_eq_some_iff.1 h).1
theorem BlkAt.cell (h : BlkAt W B t cs) (i : Nat) : W.cell? ⟨B, i, none⟩ = cs[i]? := cell_of_row W B i cs t (0, 0) h
theorem BlkAt.frozen (h : BlkAt W B t cs) (i : Nat) : W.frozen? ⟨B, i, none⟩ = false := by
  unfold BlkAt at h; simp [World.frozen?, h]
theorem BlkAt.new (W : World) (t : TypeId) (cs : Array Value) : BlkAt (W.alloc (.cells cs t)) W.heap.size t cs := heap_alloc_new W _
theorem BlkAt.block (h : BlkAt W B t cs) (e : W'.heap[B]? = W.heap[B]?) : BlkAt W' B t cs := e.trans h
theorem BlkAt.kept {row : Option Nat} (h : BlkAt W B t cs) (hg : W.grownBy W' row) (hne : some B ≠ row) : BlkAt W' B t cs := (hg.block B h.lt hne).trans h
theorem BlkAt.alloc (h : BlkAt W B t cs) (o : Obj) : BlkAt (W.alloc o) B t cs := (Below.heap_alloc W o B h.lt).trans h
theorem BlkAt.below {B' : Nat} (h : BlkAt W B t cs) (hb : Below B' W W') (hB : B < B') : BlkAt W' B t cs := (hb.block B hB).trans h
theorem BlkAt.far (h : BlkAt W B t cs) {p : Addr} (hp : B ≠ p.block) (u : Value) : BlkAt (W.setCell p u) B t cs := (Below.heap_setCell W p u B hp).trans h
theorem BlkAt.set (h : BlkAt W B t cs) (i : Nat) (u : Value) : BlkAt (W.setCell ⟨B, i, none⟩ u) B t (cs.setIfInBounds i u) := by
  unfold BlkAt at h ⊢
  simp [World.setCell, Array.getElem?_modify, h]
end
/-- what a row of the call's own looks like -/
theorem own_slice {w : World} {base : Nat} {e : TypeId} {k n : Nat} {v : Value} {xs : List Value} (h : w.ownsRow base e k v n xs) :
    ∃ A c, v = .slice A n c ∧ n ≤ c ∧ c ≤ maxLen ∧ (0 < n → ∃ g, A = some ⟨g, 0, none⟩ ∧ base ≤ g ∧ g < w.heap.size ∧ ∀ j u, xs[j]? = some u → w.cell? ⟨g, j, none⟩ = some u) := by
  rcases h.2 with ⟨rfl, rfl⟩ | ⟨g, cap, cur, rfl, hb, hh, hn, hc, hs, ht⟩
  · exact ⟨none, 0, rfl, Nat.le_refl _, Nat.zero_le _, fun h => absurd h (by omega)⟩
  · refine ⟨_, cap, rfl, hn, hc, fun h0 => ⟨g, rfl, hb, (Array.getElem?_eq_some_iff.1 hh).1, fun j u hj => ?_⟩⟩
    have hj' : j < n * k := by have := (List.getElem?_eq_some_iff.1 hj).1; rw [h.1] at this; exact this
    rw [← ht, List.getElem?_take_of_lt hj', Array.getElem?_toList] at hj
    simp [World.cell?, hh, hj]
theorem add_plain' (b o j : Nat) : (⟨b, o, none⟩ : Addr).add j = ⟨b, o + j, none⟩ := by
  unfold Addr.add; split
  · subst_vars; rfl
  · rfl
/-- the cells of a block just made -/
theorem cells_new (w : World) (xs : List Value) (t : TypeId) : ∀ j u, xs[j]? = some u → (w.alloc (.cells xs.toArray t)).cell? ((⟨w.heap.size, 0, none⟩ : Addr).add j) = some u := by
  intro j u hj
  rw [add_plain', BlkAt.cell (BlkAt.new w t xs.toArray)]
  simpa using hj
theorem cells_new' (w : World) (xs : List Value) (t : TypeId) (n : Nat) (hn : w.heap.size = n) : ∀ j u, xs[j]? = some u → (w.alloc (.cells xs.toArray t)).cell? ((⟨n, 0, none⟩ : Addr).add j) = some u := by
  subst hn; exact cells_new w xs t
theorem blkAt_own {β : Type} (B : Nat) (t : TypeId) (f : β → Array Value) : Own (fun s W => BlkAt W B t (f s)) := fun s X Y row hs hg hrow =>
  hs.kept hg (fun e' => by obtain ⟨o, ho, hc⟩ := hrow B e'.symm; rw [show X.heap[B]? = _ from hs] at ho; cases ho; cases hc)
theorem own_blk_ne {w : World} {base : Nat} {e t : TypeId} {size n g : Nat} {v : Value} {xs : List Value} {cs : Array Value} (h : w.ownsRow base e size v n xs) (hg : BlkAt w g t cs) (hne : e ≠ t) : some g ≠ v.ownBlock := by
  rcases h.2 with ⟨rfl, _⟩ | ⟨g', cap, cur, rfl, _, hh, _⟩
  · simp [Value.ownBlock]
  · intro he
    obtain rfl : g = g' := by simpa [Value.ownBlock] using he
    have := hg.symm.trans hh
    injection this with this
    injection this with _ ht
    exact hne ht.symm
theorem own_own_ne {w : World} {base base' : Nat} {e e' : TypeId} {size n size' n' : Nat} {v v' : Value} {xs xs' : List Value} (h : w.ownsRow base e size v n xs) (h' : w.ownsRow base' e' size' v' n' xs') (hne : e ≠ e') : v.ownBlock = none ∨ v.ownBlock ≠ v'.ownBlock := by
  rcases h.2 with ⟨rfl, _⟩ | ⟨g, cap, cur, rfl, _, hh, _⟩
  · left; rfl
  · right
    exact own_blk_ne (g := g) (t := e) (cs := cur) h' hh (fun e => hne e.symm)
theorem own_set {w : World} {base : Nat} {e : TypeId} {size n : Nat} {v : Value} {xs : List Value} (h : w.ownsRow base e size v n xs) {g : Nat} (hg : some g ≠ v.ownBlock) (i : Nat) (u : Value) : (w.setCell ⟨g, i, none⟩ u).ownsRow base e size v n xs :=
  h.kept (setCell_grown _ _ _ _) (.inr (Ne.symm hg))
theorem blk_ne_new {w : World} {g : Nat} {t : TypeId} {cs : Array Value} (h : BlkAt w g t cs) : g ≠ w.heap.size := by have := h.lt; omega
theorem own_lt {w : World} {base : Nat} {e : TypeId} {size n j : Nat} {v : Value} {xs : List Value} (h : w.ownsRow base e size v n xs) (hj : v.ownBlock = some j) : base ≤ j ∧ j < w.heap.size := h.lt j hj

theorem blk_blk_ne {w : World} {g g' : Nat} {t t' : TypeId} {cs cs' : Array Value} (h : BlkAt w g t cs) (h' : BlkAt w g' t' cs') (hne : t ≠ t') : g ≠ g' := by
  rintro rfl
  have := h.symm.trans h'
  injection this with this
  injection this with _ ht
  exact hne ht

theorem own_empty0 {w : World} {X base : Nat} {e : TypeId} (h : BlkAt w X e #[]) (hb : base ≤ X) (size : Nat) : w.ownsRow base e size (.slice (some ⟨X, 0, none⟩) 0 0) 0 [] :=
  ⟨by simp, .inr ⟨X, 0, #[], rfl, hb, h, Nat.le_refl _, Nat.zero_le _, by simp, by simp⟩⟩
theorem own_base {w : World} {base base' : Nat} {e : TypeId} {k n : Nat} {v : Value} {xs : List Value} (h : w.ownsRow base e k v n xs) (hb : base' ≤ base) : w.ownsRow base' e k v n xs := by
  refine ⟨h.1, h.2.imp id ?_⟩
  rintro ⟨g, cap, cur, h1, h2, h3⟩
  exact ⟨g, cap, cur, h1, Nat.le_trans hb h2, h3⟩
end Go.Proofs.YtpahhcmiimllaaaGreatDoor
namespace Go.Proofs.YtpahhcmiimllaaaGreatDoor
open Go.RowKit

def strV (s : List UInt8) : Value := .string ⟨s.toArray⟩
/-- a slice that reads as xs, k cells an element -/
structure Rd {α : Type} (enc : α → List Value) (k : Nat) (w : World) (A : Option Addr) (n : Nat) (xs : List α) : Prop where
  len : n = xs.length
  at_ : ∀ i x, xs[i]? = some x → ∃ b o, A = some ⟨b, o, none⟩ ∧ b < w.heap.size ∧ ∀ (j : Nat) (u : Value), (enc x)[j]? = some u → w.cell? ⟨b, o + i * k + j, none⟩ = some u
theorem Rd.below {α : Type} {enc : α → List Value} {k : Nat} {w w' : World} {A : Option Addr} {n : Nat} {xs : List α} (h : Rd enc k w A n xs) (hb : Below w.heap.size w w') : Rd enc k w' A n xs :=
  ⟨h.len, fun i x hx => by
    obtain ⟨b, o, e, hl, hc⟩ := h.at_ i x hx
    have := hb.size
    exact ⟨b, o, e, by omega, fun j u hu => cell_below hb (Nat.le_refl _) (hc j u hu)⟩⟩
theorem flat_at {α : Type} {enc : α → List Value} {k : Nat} (hk : ∀ x, (enc x).length = k) : ∀ (xs : List α) (i : Nat) (x : α) (j : Nat) (u : Value), xs[i]? = some x → (enc x)[j]? = some u → (xs.flatMap enc)[i * k + j]? = some u
  | [], i, x, j, u, h, _ => by simp at h
  | y :: ys, 0, x, j, u, h, hu => by
    simp at h; subst h
    rw [List.flatMap_cons, Nat.zero_mul, Nat.zero_add, List.getElem?_append_left (List.getElem?_eq_some_iff.1 hu).1]; exact hu
  | y :: ys, i + 1, x, j, u, h, hu => by
    have ih := flat_at hk ys i x j u (by simpa using h) hu
    rw [List.flatMap_cons, List.getElem?_append_right (by rw [hk]; rw [Nat.succ_mul]; omega), hk]
    rw [show (i + 1) * k + j - k = i * k + j by rw [Nat.succ_mul]; omega]
    exact ih
theorem rd_own {α : Type} {enc : α → List Value} {k : Nat} {w : World} {base : Nat} {T : TypeId} {v : Value} {xs : List α} (hk : ∀ x, (enc x).length = k) (h : w.ownsRow base T k v xs.length (xs.flatMap enc)) :
    ∃ A c, v = .slice A xs.length c ∧ Rd enc k w A xs.length xs ∧ (A = none ∨ ∃ g, A = some ⟨g, 0, none⟩ ∧ base ≤ g) := by
  rcases h.2 with ⟨rfl, hn⟩ | ⟨g, cap, cur, rfl, hb, hh, hn, hc, hs, ht⟩
  · have : xs = [] := List.length_eq_zero_iff.1 hn
    subst this
    exact ⟨none, 0, rfl, ⟨rfl, by simp⟩, .inl rfl⟩
  · refine ⟨_, cap, rfl, ⟨rfl, fun i x hx => ⟨g, 0, rfl, (Array.getElem?_eq_some_iff.1 hh).1, fun j u hu => ?_⟩⟩, .inr ⟨g, rfl, hb⟩⟩
    have hf := flat_at hk xs i x j u hx hu
    have hj' : i * k + j < xs.length * k := by
      have := (List.getElem?_eq_some_iff.1 hf).1
      rw [h.1] at this; exact this
    rw [← ht, List.getElem?_take_of_lt hj', Array.getElem?_toList] at hf
    rw [Nat.zero_add]
    simp only [World.cell?, hh, hf]
    rfl
theorem rd_own' {α : Type} {enc : α → List Value} {k : Nat} {w : World} {base n c : Nat} {T : TypeId} {A : Option Addr} {xs : List α} (hk : ∀ x, (enc x).length = k) (h : w.ownsRow base T k (.slice A n c) xs.length (xs.flatMap enc)) : Rd enc k w A n xs := by
  obtain ⟨A', c', e, hr, _⟩ := rd_own hk h
  cases e
  exact hr
theorem rd_new {α : Type} {enc : α → List Value} {k : Nat} (hk : ∀ x, (enc x).length = k) (W : World) (xs : List α) (T : TypeId) (n : Nat) (hn : n = xs.length) (cs : Array Value) (hcs : cs = (xs.flatMap enc).toArray) (b : Nat) (hb : b = W.heap.size) :
    Rd enc k (W.alloc (.cells cs T)) (some ⟨b, 0, none⟩) n xs := by
  subst hcs; subst hb
  refine ⟨hn, fun i x hx => ⟨_, 0, rfl, by simp, fun j u hu => ?_⟩⟩
  rw [BlkAt.cell (BlkAt.new W T (xs.flatMap enc).toArray), Nat.zero_add]
  simpa using flat_at hk xs i x j u hx hu
theorem alloc_sz {W : World} {o : Obj} {k : Nat} (h : k ≤ W.heap.size) : k ≤ (W.alloc o).heap.size := Nat.le_trans h (by rw [show (W.alloc o).heap.size = W.heap.size + 1 from Array.size_push _]; omega)
theorem own_setc {w : World} {base : Nat} {e : TypeId} {k n : Nat} {v : Value} {xs : List Value} (h : w.ownsRow base e k v n xs) (b i : Nat) (u : Value) (hb : b < base) : (w.setCell ⟨b, i, none⟩ u).ownsRow base e k v n xs :=
  h.kept (setCell_grown w b i u) (.inr (by
    intro he
    have := (own_lt h he).1
    omega))
/-- a slice whose elements stand by a relation, k cells an element -/
structure RdR {α : Type} (R : World → Nat → Nat → α → Prop) (k : Nat) (w : World) (A : Option Addr) (n : Nat) (xs : List α) : Prop where
  len : n = xs.length
  at_ : ∀ i x, xs[i]? = some x → ∃ b o, A = some ⟨b, o, none⟩ ∧ b < w.heap.size ∧ R w b (o + i * k) x
theorem RdR.below {α : Type} {R : World → Nat → Nat → α → Prop} (hR : ∀ {w w' : World} {b o : Nat} {x : α}, R w b o x → Below w.heap.size w w' → R w' b o x) {k : Nat} {w w' : World} {A : Option Addr} {n : Nat} {xs : List α} (h : RdR R k w A n xs) (hb : Below w.heap.size w w') : RdR R k w' A n xs :=
  ⟨h.len, fun i x hx => by
    obtain ⟨b, o, e, hl, hc⟩ := h.at_ i x hx
    have := hb.size
    exact ⟨b, o, e, by omega, hR hc hb⟩⟩
def encI (n : Int) : List Value := [.int .i64 n]
theorem encI_len (n : Int) : (encI n).length = 1 := rfl
end Go.Proofs.YtpahhcmiimllaaaGreatDoor
namespace Go.Proofs.YtpahhcmiimllaaaGreatDoor
open Go.RowKit

def insV (x : InsL) (A : Option Addr) (n c : Nat) : Value := .agg #[.int .i64 x.op, .int .i64 x.a, .int .i64 x.b, .int .i64 x.c, .int .i64 x.d, .string ⟨x.text.toArray⟩, .slice A n c]
def bodyV (x : BodyL) (A : Option Addr) (n c : Nat) : Value := .agg #[.string ⟨x.name.toArray⟩, .int .i64 x.regs, .int .i64 x.args, .slice A n c]
def codeV (x : CodeL) (A : Option Addr) (n c : Nat) : Value := .agg #[.int .i64 x.globals, .slice A n c]
/-- the cells of an instruction -/
structure InsC (w : World) (b o : Nat) (x : InsL) (A : Option Addr) (n c : Nat) : Prop where
  c0 : w.cell? ⟨b, o, none⟩ = some (.int .i64 x.op)
  c1 : w.cell? ⟨b, o + 1, none⟩ = some (.int .i64 x.a)
  c2 : w.cell? ⟨b, o + 2, none⟩ = some (.int .i64 x.b)
  c3 : w.cell? ⟨b, o + 3, none⟩ = some (.int .i64 x.c)
  c4 : w.cell? ⟨b, o + 4, none⟩ = some (.int .i64 x.d)
  c5 : w.cell? ⟨b, o + 5, none⟩ = some (.string ⟨x.text.toArray⟩)
  c6 : w.cell? ⟨b, o + 6, none⟩ = some (.slice A n c)
  list : Rd encI 1 w A n x.list
  nil : A = none → c = 0
def InsAt (w : World) (b o : Nat) (x : InsL) : Prop := ∃ A n c, InsC w b o x A n c
theorem InsC.below {w w' : World} {b o : Nat} {x : InsL} {A : Option Addr} {n c : Nat} (h : InsC w b o x A n c) (hb : Below w.heap.size w w') : InsC w' b o x A n c :=
  ⟨cell_below hb (Nat.le_refl _) h.c0, cell_below hb (Nat.le_refl _) h.c1, cell_below hb (Nat.le_refl _) h.c2, cell_below hb (Nat.le_refl _) h.c3, cell_below hb (Nat.le_refl _) h.c4, cell_below hb (Nat.le_refl _) h.c5, cell_below hb (Nat.le_refl _) h.c6, h.list.below hb, h.nil⟩
theorem InsAt.below {w w' : World} {b o : Nat} {x : InsL} (h : InsAt w b o x) (hb : Below w.heap.size w w') : InsAt w' b o x := by
  obtain ⟨A, n, c, h⟩ := h
  exact ⟨A, n, c, h.below hb⟩
abbrev Inss (w : World) (A : Option Addr) (n : Nat) (xs : List InsL) : Prop := RdR InsAt 7 w A n xs
theorem inss_below {w w' : World} {A : Option Addr} {n : Nat} {xs : List InsL} (h : Inss w A n xs) (hb : Below w.heap.size w w') : Inss w' A n xs := RdR.below (R := InsAt) (fun h hb => InsAt.below h hb) h hb
/-- the cells of a body -/
structure BodyC (w : World) (b o : Nat) (x : BodyL) (A : Option Addr) (n c : Nat) : Prop where
  c0 : w.cell? ⟨b, o, none⟩ = some (.string ⟨x.name.toArray⟩)
  c1 : w.cell? ⟨b, o + 1, none⟩ = some (.int .i64 x.regs)
  c2 : w.cell? ⟨b, o + 2, none⟩ = some (.int .i64 x.args)
  c3 : w.cell? ⟨b, o + 3, none⟩ = some (.slice A n c)
  code : Inss w A n x.code
def BodyAt (w : World) (b o : Nat) (x : BodyL) : Prop := ∃ A n c, BodyC w b o x A n c
theorem BodyC.below {w w' : World} {b o : Nat} {x : BodyL} {A : Option Addr} {n c : Nat} (h : BodyC w b o x A n c) (hb : Below w.heap.size w w') : BodyC w' b o x A n c :=
  ⟨cell_below hb (Nat.le_refl _) h.c0, cell_below hb (Nat.le_refl _) h.c1, cell_below hb (Nat.le_refl _) h.c2, cell_below hb (Nat.le_refl _) h.c3, inss_below h.code hb⟩
theorem BodyAt.below {w w' : World} {b o : Nat} {x : BodyL} (h : BodyAt w b o x) (hb : Below w.heap.size w w') : BodyAt w' b o x := by
  obtain ⟨A, n, c, h⟩ := h
  exact ⟨A, n, c, h.below hb⟩
abbrev Bods (w : World) (A : Option Addr) (n : Nat) (xs : List BodyL) : Prop := RdR BodyAt 4 w A n xs
theorem bods_below {w w' : World} {A : Option Addr} {n : Nat} {xs : List BodyL} (h : Bods w A n xs) (hb : Below w.heap.size w w') : Bods w' A n xs := RdR.below (R := BodyAt) (fun h hb => BodyAt.below h hb) h hb
end Go.Proofs.YtpahhcmiimllaaaGreatDoor
