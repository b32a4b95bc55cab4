/- DERIVED. What holds between two rounds of the search. -/
import Derived.Test.YtpahhcmiimllaaaGreatDoorCd
import Derived.Test.YtpahhcmiimllaaaGreatDoorSetQ
import Derived.Test.YtpahhcmiimllaaaGreatDoorItr
set_option linter.unusedSimpArgs false
set_option linter.unusedVariables false
namespace Go.Proofs.YtpahhcmiimllaaaGreatDoor
open Go.RowKit

def encN (n : Nat) : List Value := [.int .i64 n]
/-- numbers, in a block of ints -/
def RdN (w : World) (A : Option Addr) (n : Nat) (xs : List Nat) : Prop := Rd encN 1 w A n xs ∧ ∀ a, A = some a → ∃ cs, BlkAt w a.block 3 cs
theorem encN_len (n : Nat) : (encN n).length = 1 := rfl
theorem rd_lit {w : World} (T : TypeId) (xs : List Nat) (cs : Array Value) (hcs : cs = (xs.map fun n : Nat => Value.int .i64 n).toArray) (n : Nat) (hn : n = xs.length) (b : Nat) (hb : b = w.heap.size) : Rd encN 1 (w.alloc (.cells cs T)) (some ⟨b, 0, none⟩) n xs := by
  refine rd_new encN_len w xs T n hn cs ?_ _ hb
  rw [hcs]
  congr 1
  clear hcs hn hb
  induction xs with
  | nil => rfl
  | cons x xs ih => simp [encN, ih]
theorem rdN_lit {w : World} (xs : List Nat) (cs : Array Value) (hcs : cs = (xs.map fun n : Nat => Value.int .i64 n).toArray) (n : Nat) (hn : n = xs.length) (b : Nat) (hb : b = w.heap.size) : RdN (w.alloc (.cells cs 3)) (some ⟨b, 0, none⟩) n xs :=
  ⟨rd_lit 3 xs cs hcs n hn b hb, fun a h => by cases h; subst hb; exact ⟨_, BlkAt.new w _ _⟩⟩
set_option maxRecDepth 100000 in
set_option maxHeartbeats 4000000 in
theorem next_any (X : Nat) (code : List InsL) (A : Option Addr) (n c k : Nat) (x : InsL) (w : World) (h3 : w.cell? ⟨X, 3, none⟩ = some (.slice A n c)) (hI : Inss w A n code) (hx : code[k]? = some x) (hn : n ≤ 1000000) (hc : x.op = 19 ∨ x.op = 20 → 0 ≤ x.c) :
    Calls Tryz.prog 77 #[.pointer (some ⟨X, 0, none⟩), .int .i64 k] w fun e w' => (∃ A' n' c', e = .returned (.slice A' n' c') ∧ RdN w' A' n' (nextL k x)) ∧ Below w.heap.size w w' := by
  obtain ⟨b, o, rfl, hlt, Ai, ni, ci, hxc⟩ := hI.at_ k x hx
  have hk := (List.getElem?_eq_some_iff.1 hx).1
  have hl := hI.len
  have c0 := hxc.c0
  have c1 := hxc.c1
  have c2 := hxc.c2
  have c3 := hxc.c3
  have c4 := hxc.c4
  have c5 := hxc.c5
  have c6 := hxc.c6
  have k0 : (0 : Int) ≤ (k : Int) := by omega
  have k1 : (k : Int) < (n : Int) := by omega
  have wr1 : IntKind.i64.wrap ((k : Int) + 1) = (k : Int) + 1 := IntWalk.i64_in _ (by omega)
  have HB := Lib.hid ((Below.refl w.heap.size w).alloc (Nat.le_refl _) (.cells #[.int .i64 x.op, .int .i64 x.a, .int .i64 x.b, .int .i64 x.c, .int .i64 x.d, .string ⟨x.text.toArray⟩, .slice Ai ni ci] 55))
  clear hI hxc hx hl hk
  by_cases p1 : x.op = 22
  · have HN : Hid (nextL k x = []) := Lib.hid (by unfold nextL; rw [if_pos p1])
    rw [p1] at c0 HB
    clear p1 hc
    go_enter Tryz.func77, Tryz.ntmps77
    go_wp2
    go_ret
    exact ⟨⟨none, 0, 0, rfl, by rw [HN.out]; exact ⟨⟨rfl, by simp⟩, fun a h => by cases h⟩⟩, HB.out⟩
  by_cases p2 : x.op = 19
  · have hcc := hc (.inl p2)
    obtain ⟨t, ht⟩ : ∃ t : Nat, x.c = (t : Int) := ⟨x.c.toNat, by omega⟩
    have HN : Hid (nextL k x = [t]) := Lib.hid (by unfold nextL; rw [if_neg p1, if_pos p2, ht]; rfl)
    rw [p2, ht] at HB
    rw [p2] at c0
    rw [ht] at c3
    clear p1 p2 hc hcc ht
    go_enter Tryz.func77, Tryz.ntmps77
    go_wp2
    go_ret
    exact ⟨⟨_, _, _, rfl, by rw [HN.out]; exact rdN_lit [t] _ (by simp) _ rfl _ (by simp)⟩, HB.out.alloc HB.out.size _⟩
  by_cases p3 : x.op = 20
  · have hcc := hc (.inr p3)
    obtain ⟨t, ht⟩ : ∃ t : Nat, x.c = (t : Int) := ⟨x.c.toNat, by omega⟩
    have HN : Hid (nextL k x = [k + 1, t]) := Lib.hid (by unfold nextL; rw [if_neg p1, if_neg p2, if_pos p3, ht]; rfl)
    rw [p3, ht] at HB
    rw [p3] at c0
    rw [ht] at c3
    clear p1 p2 p3 hc hcc ht
    go_enter Tryz.func77, Tryz.ntmps77
    go_wp2
    go_ret
    exact ⟨⟨_, _, _, rfl, by rw [HN.out]; exact rdN_lit [k + 1, t] _ (by simp) _ rfl _ (by simp)⟩, HB.out.alloc HB.out.size _⟩
  · have HN : Hid (nextL k x = [k + 1]) := Lib.hid (by unfold nextL; rw [if_neg p1, if_neg p2, if_neg p3])
    have f1 : (x.op == 22) = false := by simp [p1]
    have f2 : (x.op == 19) = false := by simp [p2]
    have f3 : (x.op == 20) = false := by simp [p3]
    clear p1 p2 p3 hc
    go_enter Tryz.func77, Tryz.ntmps77
    go_wp2
    go_ret
    exact ⟨⟨_, _, _, rfl, by rw [HN.out]; exact rdN_lit [k + 1] _ (by simp) _ rfl _ (by simp)⟩, HB.out.alloc HB.out.size _⟩
end Go.Proofs.YtpahhcmiimllaaaGreatDoor
namespace Go.Proofs.YtpahhcmiimllaaaGreatDoor
open Go.RowKit

/-- what lies in blocks of other types than T is kept -/
structure KeptT (T : TypeId) (w w' : World) : Prop where
  size : w.heap.size ≤ w'.heap.size
  blk : ∀ (B : Nat) (t : TypeId) (cs : Array Value), BlkAt w B t cs → t ≠ T → BlkAt w' B t cs
theorem keptT_row {T : TypeId} {w w' : World} {r : Nat} {cs : Array Value} (hg : w.grownBy w' (some r)) (h : BlkAt w r T cs) : KeptT T w w' :=
  ⟨hg.size, fun B t cs' hB ht => hB.kept hg (fun e => by
    obtain rfl : B = r := Option.some.inj e
    have := hB.symm.trans h
    injection this with this
    injection this with _ this
    exact ht this)⟩
theorem keptT_own {T : TypeId} {w w' : World} {base k n : Nat} {v : Value} {xs : List Value} (hg : w.grownBy w' v.ownBlock) (h : w.ownsRow base T k v n xs) : KeptT T w w' := by
  rcases h.2 with ⟨rfl, _⟩ | ⟨g, cap, cur, rfl, _, hh, _⟩
  · exact ⟨hg.size, fun B t cs hB _ => hB.kept (row := none) hg (by simp)⟩
  · exact keptT_row hg hh
theorem own_keptT {T e : TypeId} {w w' : World} {base k n : Nat} {v : Value} {xs : List Value} (h : w.ownsRow base e k v n xs) (hk : KeptT T w w') (hne : e ≠ T) : w'.ownsRow base e k v n xs := by
  refine ⟨h.1, h.2.imp id ?_⟩
  rintro ⟨g, cap, cur, h1, h2, h3, h4⟩
  exact ⟨g, cap, cur, h1, h2, hk.blk g e cur h3 hne, h4⟩
theorem rowW_keptT {T : TypeId} {w w' : World} {g : Nat} {ws : List Nat} (h : RowW w g ws) (hk : KeptT T w w') (hne : 128 ≠ T) : RowW w' g ws := by
  obtain ⟨cs, h, hc⟩ := h
  exact ⟨cs, hk.blk _ _ _ h hne, hc⟩
/-- a read list, in a block of numbers -/
def RdT (w : World) (u : UseV) (rs : List Int) : Prop := Rd encI 1 w u.A u.n rs ∧ ∀ a, u.A = some a → ∃ cs, BlkAt w a.block 3 cs
theorem rdT_keptT {T : TypeId} {w w' : World} {u : UseV} {rs : List Int} (h : RdT w u rs) (hk : KeptT T w w') (hne : 3 ≠ T) : RdT w' u rs := by
  obtain ⟨h, ht⟩ := h
  refine ⟨⟨h.len, fun i x hx => ?_⟩, fun a ha => ?_⟩
  · obtain ⟨b, o, e, hl, hc⟩ := h.at_ i x hx
    obtain ⟨cs, hb⟩ := ht _ e
    have hb' := hk.blk _ _ _ hb hne
    exact ⟨b, o, e, hb'.lt, fun j v hj => by rw [hb'.cell, ← hb.cell]; exact hc j v hj⟩
  · obtain ⟨cs, hb⟩ := ht a ha
    exact ⟨cs, hk.blk _ _ _ hb hne⟩
theorem rdN_keptT {T : TypeId} {w w' : World} {A : Option Addr} {n : Nat} {rs : List Nat} (h : RdN w A n rs) (hk : KeptT T w w') (hne : 3 ≠ T) : RdN w' A n rs := by
  obtain ⟨h, ht⟩ := h
  refine ⟨⟨h.len, fun i x hx => ?_⟩, fun a ha => ?_⟩
  · obtain ⟨b, o, e, hl, hc⟩ := h.at_ i x hx
    obtain ⟨cs, hb⟩ := ht _ e
    have hb' := hk.blk _ _ _ hb hne
    exact ⟨b, o, e, hb'.lt, fun j v hj => by rw [hb'.cell, ← hb.cell]; exact hc j v hj⟩
  · obtain ⟨cs, hb⟩ := ht a ha
    exact ⟨cs, hk.blk _ _ _ hb hne⟩
theorem rdT_below {w w' : World} {u : UseV} {rs : List Int} (h : RdT w u rs) (hb : Below w.heap.size w w') : RdT w' u rs :=
  ⟨h.1.below hb, fun a ha => by obtain ⟨cs, hc⟩ := h.2 a ha; exact ⟨cs, hc.below hb hc.lt⟩⟩
def setsV (nw : Nat) (gs : List (Nat × Nat)) : List Value := gs.map fun g => .slice (some ⟨g.1, 0, none⟩) nw g.2
theorem setsV_len (nw : Nat) (gs : List (Nat × Nat)) : (setsV nw gs).length = gs.length := List.length_map _
structure RowsOf (w : World) (B0 : Nat) (gs : List (Nat × Nat)) (wss : List (List Nat)) : Prop where
  len : gs.length = wss.length
  row : ∀ (i : Nat) (g : Nat × Nat) (ws : List Nat), gs[i]? = some g → wss[i]? = some ws → RowW w g.1 ws ∧ B0 ≤ g.1
theorem RowsOf.keptT {T : TypeId} {w w' : World} {B0 : Nat} {gs : List (Nat × Nat)} {wss : List (List Nat)} (h : RowsOf w B0 gs wss) (hk : KeptT T w w') (hne : 128 ≠ T) : RowsOf w' B0 gs wss :=
  ⟨h.len, fun i g ws h1 h2 => ⟨rowW_keptT (h.row i g ws h1 h2).1 hk hne, (h.row i g ws h1 h2).2⟩⟩
theorem RowsOf.below {w w' : World} {B0 : Nat} {gs : List (Nat × Nat)} {wss : List (List Nat)} (h : RowsOf w B0 gs wss) (hb : Below w.heap.size w w') : RowsOf w' B0 gs wss :=
  ⟨h.len, fun i g ws h1 h2 => ⟨(h.row i g ws h1 h2).1.below hb, (h.row i g ws h1 h2).2⟩⟩
theorem RowsOf.snoc {w : World} {B0 : Nat} {gs : List (Nat × Nat)} {wss : List (List Nat)} (h : RowsOf w B0 gs wss) {g : Nat × Nat} {ws : List Nat} (hg : RowW w g.1 ws) (hb : B0 ≤ g.1) : RowsOf w B0 (gs ++ [g]) (wss ++ [ws]) := by
  refine ⟨by simp [h.len], fun i g' ws' h1 h2 => ?_⟩
  rcases Nat.lt_trichotomy i gs.length with hi | hi | hi
  · rw [List.getElem?_append_left hi] at h1
    rw [List.getElem?_append_left (by rw [← h.len]; exact hi)] at h2
    exact h.row i g' ws' h1 h2
  · subst hi
    rw [List.getElem?_append_right (Nat.le_refl _), Nat.sub_self] at h1
    rw [h.len, List.getElem?_append_right (Nat.le_refl _), Nat.sub_self] at h2
    simp at h1 h2
    subst h1; subst h2
    exact ⟨hg, hb⟩
  · rw [List.getElem?_append_right (by omega), List.getElem?_eq_none (by simp; omega)] at h1; cases h1
structure LifeAt (w : World) (B0 X : Nat) (b : BodyL) (A : Option Addr) (n c nw : Nat) (us : List UseV) (vU vA vB : Value) (gA gB : List (Nat × Nat)) (ah be : List (List Nat)) : Prop where
  blk : BlkAt w X 85 #[.string ⟨b.name.toArray⟩, .int .i64 b.regs, .int .i64 b.args, .slice A n c, vU, vA, vB]
  low : B0 ≤ X
  uses : w.ownsRow B0 111 2 vU us.length (us.flatMap encUse)
  rds : ∀ (i : Nat) (u : UseV), us[i]? = some u → ∃ x, b.code[i]? = some x ∧ RdT w u (usesR x) ∧ u.wr = usesW x
  rowA : w.ownsRow B0 94 1 vA gA.length (setsV nw gA)
  rowB : w.ownsRow B0 94 1 vB gB.length (setsV nw gB)
  wsA : RowsOf w B0 gA ah
  wsB : RowsOf w B0 gB be
  nod : ((gA ++ gB).map Prod.fst).Nodup
  dis : vB.ownBlock = none ∨ vB.ownBlock ≠ vA.ownBlock
section
variable {w w' : World} {B0 X : Nat} {b : BodyL} {A : Option Addr} {n c nw : Nat} {us : List UseV} {vU vA vB : Value} {gA gB : List (Nat × Nat)} {ah be : List (List Nat)}
theorem LifeAt.below (h : LifeAt w B0 X b A n c nw us vU vA vB gA gB ah be) (hb : Below w.heap.size w w') : LifeAt w' B0 X b A n c nw us vU vA vB gA gB ah be :=
  ⟨h.blk.below hb h.blk.lt, h.low, own_below h.uses hb, fun i u hu => by obtain ⟨x, h1, h2, h3⟩ := h.rds i u hu; exact ⟨x, h1, rdT_below h2 hb, h3⟩, own_below h.rowA hb, own_below h.rowB hb, h.wsA.below hb, h.wsB.below hb, h.nod, h.dis⟩
theorem LifeAt.alloc (h : LifeAt w B0 X b A n c nw us vU vA vB gA gB ah be) (o : Obj) : LifeAt (w.alloc o) B0 X b A n c nw us vU vA vB gA gB ah be := h.below ((Below.refl _ w).alloc (Nat.le_refl _) o)
/-- a cell of X is stored -/
theorem LifeAt.cells {cs : Array Value} (hb : BlkAt w X 85 cs) (i : Nat) (u : Value) : BlkAt (w.setCell ⟨X, i, none⟩ u) X 85 (cs.setIfInBounds i u) ∧ KeptT 85 w (w.setCell ⟨X, i, none⟩ u) :=
  ⟨hb.set i u, keptT_row (setCell_grown w X i u) hb⟩
/-- one use more -/
theorem LifeAt.addU (h : LifeAt w B0 X b A n c nw us vU vA vB gA gB ah be) {v' : Value} {u : UseV} {x : InsL} (hg : w.grownBy w' vU.ownBlock) (hr : w'.ownsRow B0 111 2 v' (us.length + 1) (us.flatMap encUse ++ encUse u)) (hx : b.code[us.length]? = some x) (hd : RdT w u (usesR x)) (hw : u.wr = usesW x) :
    LifeAt (w'.setCell ⟨X, 4, none⟩ v') B0 X b A n c nw (us ++ [u]) v' vA vB gA gB ah be := by
  have k1 := keptT_own hg h.uses
  have hb1 := k1.blk _ _ _ h.blk (by decide)
  obtain ⟨hb2, k2⟩ := LifeAt.cells hb1 4 v'
  refine ⟨by simpa using hb2, h.low, ?_, fun i y hy => ?_, own_keptT (own_keptT h.rowA k1 (by decide)) k2 (by decide), own_keptT (own_keptT h.rowB k1 (by decide)) k2 (by decide), (h.wsA.keptT k1 (by decide)).keptT k2 (by decide), (h.wsB.keptT k1 (by decide)).keptT k2 (by decide), h.nod, h.dis⟩
  · rw [List.length_append, List.flatMap_append]
    simpa using own_keptT hr k2 (by decide)
  · rcases Nat.lt_trichotomy i us.length with hi | hi | hi
    · rw [List.getElem?_append_left hi] at hy
      obtain ⟨z, h1, h2, h3⟩ := h.rds i y hy
      exact ⟨z, h1, rdT_keptT (rdT_keptT h2 k1 (by decide)) k2 (by decide), h3⟩
    · subst hi
      rw [List.getElem?_append_right (Nat.le_refl _), Nat.sub_self] at hy
      simp at hy; subst hy
      exact ⟨x, hx, rdT_keptT (rdT_keptT hd k1 (by decide)) k2 (by decide), hw⟩
    · rw [List.getElem?_append_right (by omega), List.getElem?_eq_none (by simp; omega)] at hy; cases hy
theorem nodup_snoc {l : List Nat} {x : Nat} (h : l.Nodup) (hx : x ∉ l) : (l ++ [x]).Nodup := by
  rw [List.nodup_append]
  exact ⟨h, by simp, fun a ha b hb e => by simp at hb; subst hb; subst e; exact hx ha⟩
/-- a set more ahead -/
theorem LifeAt.addA (h : LifeAt w B0 X b A n c nw us vU vA vB gA gB ah be) {v' : Value} {g : Nat × Nat} {ws : List Nat} (hg : w.grownBy w' vA.ownBlock) (hr : w'.ownsRow B0 94 1 v' (gA.length + 1) (setsV nw gA ++ [.slice (some ⟨g.1, 0, none⟩) nw g.2])) (hw : RowW w g.1 ws) (hb : B0 ≤ g.1) (hn : g.1 ∉ (gA ++ gB).map Prod.fst) (hob : v'.ownBlock = vA.ownBlock ∨ v'.ownBlock = some w.heap.size) :
    LifeAt (w'.setCell ⟨X, 5, none⟩ v') B0 X b A n c nw us vU v' vB (gA ++ [g]) gB (ah ++ [ws]) be := by
  have k1 := keptT_own hg h.rowA
  have hrB : w'.ownsRow B0 94 1 vB gB.length (setsV nw gB) := h.rowB.kept hg h.dis
  have hdis : vB.ownBlock = none ∨ vB.ownBlock ≠ v'.ownBlock := by
    rcases hob with e | e
    · rw [e]; exact h.dis
    · right; rw [e]; intro e2
      have := (own_lt h.rowB e2).2
      omega
  have hb1 := k1.blk _ _ _ h.blk (by decide)
  obtain ⟨hb2, k2⟩ := LifeAt.cells hb1 5 v'
  refine ⟨by simpa using hb2, h.low, own_keptT (own_keptT h.uses k1 (by decide)) k2 (by decide), fun i y hy => ?_, ?_, own_keptT hrB k2 (by decide), ((h.wsA.keptT k1 (by decide)).keptT k2 (by decide)).snoc (rowW_keptT (rowW_keptT hw k1 (by decide)) k2 (by decide)) hb, (h.wsB.keptT k1 (by decide)).keptT k2 (by decide), ?_, hdis⟩
  · obtain ⟨z, h1, h2, h3⟩ := h.rds i y hy
    exact ⟨z, h1, rdT_keptT (rdT_keptT h2 k1 (by decide)) k2 (by decide), h3⟩
  · rw [List.length_append]
    unfold setsV at hr ⊢
    rw [List.map_append]
    exact own_keptT hr k2 (by decide)
  · have hp : (((gA ++ [g]) ++ gB).map Prod.fst).Perm (g.1 :: (gA ++ gB).map Prod.fst) := by
      rw [← List.map_cons]
      exact List.Perm.map _ (by rw [List.append_assoc]; exact List.perm_middle)
    exact hp.nodup_iff.2 (List.nodup_cons.2 ⟨hn, h.nod⟩)
/-- a set more behind -/
theorem LifeAt.addB (h : LifeAt w B0 X b A n c nw us vU vA vB gA gB ah be) {v' : Value} {g : Nat × Nat} {ws : List Nat} (hg : w.grownBy w' vB.ownBlock) (hr : w'.ownsRow B0 94 1 v' (gB.length + 1) (setsV nw gB ++ [.slice (some ⟨g.1, 0, none⟩) nw g.2])) (hw : RowW w g.1 ws) (hb : B0 ≤ g.1) (hn : g.1 ∉ (gA ++ gB).map Prod.fst) (hob : v'.ownBlock = vB.ownBlock ∨ v'.ownBlock = some w.heap.size) :
    LifeAt (w'.setCell ⟨X, 6, none⟩ v') B0 X b A n c nw us vU vA v' gA (gB ++ [g]) ah (be ++ [ws]) := by
  have k1 := keptT_own hg h.rowB
  have hdA : vA.ownBlock = none ∨ vA.ownBlock ≠ vB.ownBlock := by
    rcases h.dis with e | e
    · rw [e]; cases vA.ownBlock <;> simp
    · exact .inr (fun e2 => e e2.symm)
  have hrA : w'.ownsRow B0 94 1 vA gA.length (setsV nw gA) := h.rowA.kept hg hdA
  have hdis : v'.ownBlock = none ∨ v'.ownBlock ≠ vA.ownBlock := by
    rcases hob with e | e
    · rw [e]; exact h.dis
    · right; rw [e]; intro e2
      have := (own_lt h.rowA e2.symm).2
      omega
  have hb1 := k1.blk _ _ _ h.blk (by decide)
  obtain ⟨hb2, k2⟩ := LifeAt.cells hb1 6 v'
  refine ⟨by simpa using hb2, h.low, own_keptT (own_keptT h.uses k1 (by decide)) k2 (by decide), fun i y hy => ?_, own_keptT hrA k2 (by decide), ?_, (h.wsA.keptT k1 (by decide)).keptT k2 (by decide), ((h.wsB.keptT k1 (by decide)).keptT k2 (by decide)).snoc (rowW_keptT (rowW_keptT hw k1 (by decide)) k2 (by decide)) hb, ?_, hdis⟩
  · obtain ⟨z, h1, h2, h3⟩ := h.rds i y hy
    exact ⟨z, h1, rdT_keptT (rdT_keptT h2 k1 (by decide)) k2 (by decide), h3⟩
  · rw [List.length_append]
    unfold setsV at hr ⊢
    rw [List.map_append]
    exact own_keptT hr k2 (by decide)
  · rw [← List.append_assoc, List.map_append]
    exact nodup_snoc h.nod hn
end
end Go.Proofs.YtpahhcmiimllaaaGreatDoor
namespace Go.Proofs.YtpahhcmiimllaaaGreatDoor
open Go.RowKit

section
variable {w w' : World} {B0 X : Nat} {b : BodyL} {A : Option Addr} {n c nw : Nat} {us : List UseV} {vU vA vB : Value} {gA gB : List (Nat × Nat)} {ah be : List (List Nat)}
theorem LifeAt.keptT {T : TypeId} (h : LifeAt w B0 X b A n c nw us vU vA vB gA gB ah be) (hk : KeptT T w w') (h1 : 85 ≠ T) (h2 : 111 ≠ T) (h3 : 94 ≠ T) (h4 : 128 ≠ T) (h5 : 3 ≠ T) : LifeAt w' B0 X b A n c nw us vU vA vB gA gB ah be :=
  ⟨hk.blk _ _ _ h.blk h1, h.low, own_keptT h.uses hk h2, fun i u hu => by obtain ⟨x, k1, k2, k3⟩ := h.rds i u hu; exact ⟨x, k1, rdT_keptT k2 hk h5, k3⟩, own_keptT h.rowA hk h3, own_keptT h.rowB hk h3, h.wsA.keptT hk h4, h.wsB.keptT hk h4, h.nod, h.dis⟩
/-- nothing in cells is turned -/
theorem keptT_nocells {row : Option Nat} (hg : w.grownBy w' row) (hr : ∀ r, row = some r → ∃ o : Obj, w.heap[r]? = some o ∧ o.isCells = false) : KeptT 1000000 w w' :=
  ⟨hg.size, fun B t cs hB _ => hB.kept hg (fun e => by
    obtain ⟨o, ho, hc⟩ := hr B e.symm
    unfold BlkAt at hB
    rw [hB] at ho; cases ho; cases hc)⟩
theorem LifeAt.nocells {row : Option Nat} (h : LifeAt w B0 X b A n c nw us vU vA vB gA gB ah be) (hg : w.grownBy w' row) (hr : ∀ r, row = some r → ∃ o : Obj, w.heap[r]? = some o ∧ o.isCells = false) : LifeAt w' B0 X b A n c nw us vU vA vB gA gB ah be :=
  h.keptT (keptT_nocells hg hr) (by decide) (by decide) (by decide) (by decide) (by decide)
theorem nod_ne {i : Nat} {l : List (Nat × Nat)} (h : (l.map Prod.fst).Nodup) {j : Nat} {g g' : Nat × Nat} (hi : l[i]? = some g) (hj : l[j]? = some g') (hne : i ≠ j) : g'.1 ≠ g.1 := by
  intro e
  have hp := List.pairwise_iff_getElem.1 h
  have hi' := List.getElem?_eq_some_iff.1 hi
  have hj' := List.getElem?_eq_some_iff.1 hj
  obtain ⟨li, ei⟩ := hi'
  obtain ⟨lj, ej⟩ := hj'
  rcases Nat.lt_or_gt_of_ne hne with hl | hl
  · have := hp i j (by simpa using li) (by simpa using lj) hl
    simp [ei, ej] at this
    exact this e.symm
  · have := hp j i (by simpa using lj) (by simpa using li) hl
    simp [ei, ej] at this
    exact this e
/-- a set behind is another one, in its block -/
theorem LifeAt.rowBset (h : LifeAt w B0 X b A n c nw us vU vA vB gA gB ah be) {i : Nat} {g : Nat × Nat} {ws ws' : List Nat} (hg : gB[i]? = some g) (hw : RowW w g.1 ws) (hgr : w.grownBy w' (some g.1)) (hr : RowW w' g.1 ws') : LifeAt w' B0 X b A n c nw us vU vA vB gA gB ah (be.set i ws') := by
  obtain ⟨cs, hb, _⟩ := hw
  have hk := keptT_row hgr hb
  refine ⟨hk.blk _ _ _ h.blk (by decide), h.low, own_keptT h.uses hk (by decide), fun i u hu => by obtain ⟨x, k1, k2, k3⟩ := h.rds i u hu; exact ⟨x, k1, rdT_keptT k2 hk (by decide), k3⟩, own_keptT h.rowA hk (by decide), own_keptT h.rowB hk (by decide), ⟨h.wsA.len, fun j g' ws1 h1 h2 => ?_⟩, ⟨by rw [List.length_set]; exact h.wsB.len, fun j g' ws1 h1 h2 => ?_⟩, h.nod, h.dis⟩
  · have hgi : (gA ++ gB)[gA.length + i]? = some g := by rw [List.getElem?_append_right (by omega)]; simpa using hg
    have hgj : (gA ++ gB)[j]? = some g' := by rw [List.getElem?_append_left (List.getElem?_eq_some_iff.1 h1).1]; exact h1
    have hj := (List.getElem?_eq_some_iff.1 h1).1
    have hne := nod_ne h.nod hgi hgj (by omega)
    exact ⟨(h.wsA.row j g' ws1 h1 h2).1.kept hgr (fun e => hne (Option.some.inj e)), (h.wsA.row j g' ws1 h1 h2).2⟩
  · rw [List.getElem?_set] at h2
    by_cases e : i = j
    · subst e
      rw [hg] at h1; cases h1
      obtain ⟨ws0, hws0⟩ := get_some (xs := be) (k := i) (by rw [← h.wsB.len]; exact (List.getElem?_eq_some_iff.1 hg).1)
      have hi : i < be.length := (List.getElem?_eq_some_iff.1 hws0).1
      rw [if_pos rfl, if_pos hi] at h2; cases h2
      exact ⟨hr, (h.wsB.row i g ws0 hg hws0).2⟩
    · rw [if_neg e] at h2
      have hgi : (gA ++ gB)[gA.length + i]? = some g := by rw [List.getElem?_append_right (by omega)]; simpa using hg
      have hgj : (gA ++ gB)[gA.length + j]? = some g' := by rw [List.getElem?_append_right (by omega)]; simpa using h1
      have hne := nod_ne h.nod hgi hgj (by omega)
      exact ⟨(h.wsB.row j g' ws1 h1 h2).1.kept hgr (fun e => hne (Option.some.inj e)), (h.wsB.row j g' ws1 h1 h2).2⟩
/-- the block of a row of the call's own -/
theorem own_blk {base k : Nat} {T : TypeId} {v : Value} {m : Nat} {xs : List Value} (h : w.ownsRow base T k v m xs) (hm : 0 < m) : ∃ (g cap : Nat) (cur : Array Value), v = .slice (some ⟨g, 0, none⟩) m cap ∧ BlkAt w g T cur ∧ base ≤ g ∧ ∀ (j : Nat) (u : Value), xs[j]? = some u → cur[j]? = some u := by
  rcases h.2 with ⟨_, h0⟩ | ⟨g, cap, cur, rfl, hb, hh, hn, hc, hs, ht⟩
  · omega
  · refine ⟨g, cap, cur, rfl, hh, hb, fun j u hj => ?_⟩
    have hlt := (List.getElem?_eq_some_iff.1 hj).1
    rw [h.1] at hlt
    rw [← ht, List.getElem?_take_of_lt hlt, Array.getElem?_toList] at hj
    exact hj
theorem own_setc1 {base : Nat} {T : TypeId} {m g cap : Nat} {xs : List Value} (h : w.ownsRow base T 1 (.slice (some ⟨g, 0, none⟩) m cap) m xs) {i : Nat} (hi : i < m) (u : Value) : (w.setCell ⟨g, i, none⟩ u).ownsRow base T 1 (.slice (some ⟨g, 0, none⟩) m cap) m (xs.set i u) := by
  have hl := h.1
  rcases h.2 with ⟨hv, _⟩ | ⟨g', cap', cur, hv, hb, hh, hn, hc, hs, ht⟩
  · cases hv
  · cases hv
    refine ⟨by rw [List.length_set]; exact hl, .inr ⟨g, cap, cur.setIfInBounds i u, rfl, hb, BlkAt.set (W := w) hh i u, hn, hc, by simpa using hs, ?_⟩⟩
    rw [Array.toList_setIfInBounds, List.take_set, ht]
/-- a set ahead is put in the place of another one -/
theorem LifeAt.rowAset (h : LifeAt w B0 X b A n c nw us vU vA vB gA gB ah be) {i g cap : Nat} {G : Nat × Nat} {ws : List Nat} (hv : vA = .slice (some ⟨g, 0, none⟩) gA.length cap) (hi : i < gA.length) (hw : RowW w G.1 ws) (hb : B0 ≤ G.1) (hf : G.1 ∉ (gA ++ gB).map Prod.fst) :
    LifeAt (w.setCell ⟨g, i, none⟩ (.slice (some ⟨G.1, 0, none⟩) nw G.2)) B0 X b A n c nw us vU vA vB (gA.set i G) gB (ah.set i ws) be := by
  subst hv
  obtain ⟨g0, cap0, cur, hv, hh, hb0, _⟩ := own_blk h.rowA (by omega)
  cases hv
  have hgr := setCell_grown w g i (.slice (some ⟨G.1, 0, none⟩) nw G.2)
  have hk := keptT_row hgr hh
  refine ⟨hk.blk _ _ _ h.blk (by decide), h.low, own_keptT h.uses hk (by decide), fun i u hu => by obtain ⟨x, k1, k2, k3⟩ := h.rds i u hu; exact ⟨x, k1, rdT_keptT k2 hk (by decide), k3⟩, ?_, h.rowB.kept hgr (by
    rcases h.dis with e | e
    · exact .inl e
    · exact .inr e), ⟨by rw [List.length_set, List.length_set]; exact h.wsA.len, fun j g' ws1 h1 h2 => ?_⟩, h.wsB.keptT hk (by decide), ?_, h.dis⟩
  · rw [List.length_set]
    unfold setsV
    rw [List.map_set]
    exact own_setc1 h.rowA hi _
  · rw [List.getElem?_set] at h1 h2
    by_cases e : i = j
    · subst e
      have hia : i < ah.length := by rw [← h.wsA.len]; exact hi
      rw [if_pos rfl, if_pos hi] at h1
      rw [if_pos rfl, if_pos hia] at h2
      cases h1; cases h2
      exact ⟨rowW_keptT hw hk (by decide), hb⟩
    · rw [if_neg e] at h1 h2
      exact ⟨rowW_keptT (h.wsA.row j g' ws1 h1 h2).1 hk (by decide), (h.wsA.row j g' ws1 h1 h2).2⟩
  · have hp : ((gA.set i G ++ gB).map Prod.fst) = ((gA ++ gB).map Prod.fst).set i G.1 := by
      rw [← List.map_set, List.set_append_left _ _ hi]
    rw [hp]
    rw [List.nodup_iff_pairwise_ne] at *
    have hn := h.nod
    rw [List.Nodup, List.pairwise_iff_getElem] at hn
    rw [List.pairwise_iff_getElem]
    intro p q hp' hq' hpq
    simp only [List.length_set] at hp' hq'
    rw [List.getElem_set, List.getElem_set]
    split
    · split
      · omega
      · intro e; exact hf (by rw [e]; exact List.getElem_mem _)
    · split
      · intro e; exact hf (by rw [← e]; exact List.getElem_mem _)
      · exact hn p q hp' hq' hpq
end
/-- the first q words are joined -/
def orN (b a : List Nat) (q : Nat) : List Nat := (orW b a).take q ++ b.drop q
theorem orN_zero (b a : List Nat) : orN b a 0 = b := by simp [orN]
theorem orN_all {nw : Nat} {b a : List Nat} (hb : WOK nw b) (ha : WOK nw a) : orN b a nw = orW b a := by
  unfold orN
  rw [List.take_of_length_le (by rw [(orW_ok hb ha).1]; exact Nat.le_refl _), List.drop_of_length_le (by rw [hb.1]; exact Nat.le_refl _), List.append_nil]
theorem orN_len {nw : Nat} {b a : List Nat} (hb : WOK nw b) (ha : WOK nw a) (q : Nat) (hq : q ≤ nw) : (orN b a q).length = nw := by
  unfold orN
  rw [List.length_append, List.length_take, List.length_drop, (orW_ok hb ha).1, hb.1]; omega
theorem orN_at {nw : Nat} {b a : List Nat} (hb : WOK nw b) (ha : WOK nw a) {q y : Nat} (hq : b[q]? = some y) : (orN b a q)[q]? = some y := by
  have hlt := (List.getElem?_eq_some_iff.1 hq).1
  unfold orN
  rw [List.getElem?_append_right (by rw [List.length_take]; omega), List.length_take, (orW_ok hb ha).1, Nat.min_eq_left (by have := hb.1; omega), Nat.sub_self, List.getElem?_drop, Nat.add_zero]
  exact hq
theorem orN_succ {nw : Nat} {b a : List Nat} (hb : WOK nw b) (ha : WOK nw a) {q x y : Nat} (hx : a[q]? = some x) (hy : b[q]? = some y) : (orN b a q).set q (y ||| x) = orN b a (q + 1) := by
  have hlt := (List.getElem?_eq_some_iff.1 hy).1
  have hlen : ((orW b a).take q).length = q := by rw [List.length_take, (orW_ok hb ha).1]; have := hb.1; omega
  unfold orN
  rw [List.set_append_right _ _ (by omega), hlen, Nat.sub_self, drop_cons hy, List.set_cons_zero, List.take_add_one]
  have : (orW b a)[q]? = some (y ||| x) := by unfold orW; rw [List.getElem?_zipWith, hy, hx]
  rw [this]
  simp
end Go.Proofs.YtpahhcmiimllaaaGreatDoor
namespace Go.Proofs.YtpahhcmiimllaaaGreatDoor
open Go.RowKit

theorem keeps_row {w w' : World} {r : Nat} {T : TypeId} {cs : Array Value} (hg : w.grownBy w' (some r)) (h : BlkAt w r T cs) : KeepsOthers w w' :=
  KeepsOthers.of_grownBy hg (fun j o e ho => by
    obtain rfl : r = j := Option.some.inj e
    unfold BlkAt at h
    rw [h] at ho; cases ho; rfl)
theorem keeps_below {w w' : World} (hb : Below w.heap.size w w') : KeepsOthers w w' := KeepsOthers.of_grownBy (row := none) (grown_of_below hb) (fun j o e => by cases e)
structure LoopI (w : World) (X Bx : Nat) (b : BodyL) (A : Option Addr) (n c nw : Nat) (us : List UseV) (vU : Value) (W : World) (ah be : List (List Nat)) (ch : Bool) (gA gB : List (Nat × Nat)) (vA vB : Value) (Bc : Nat) (ds : List Deferred) : Prop where
  life : LifeAt W w.heap.size X b A n c nw us vU vA vB gA gB ah be
  box : BlkAt W Bx 79 #[.pointer (some ⟨X, 0, none⟩)]
  chg : BlkAt W Bc 4 #[.bool ch]
  low : w.heap.size ≤ Bc
  bel : Below w.heap.size w W
  mrk : MarksAt w.heap.size W ds
section
variable {w W W' : World} {X Bx : Nat} {b : BodyL} {A : Option Addr} {n c nw : Nat} {us : List UseV} {vU : Value} {ah be : List (List Nat)} {ch : Bool} {gA gB : List (Nat × Nat)} {vA vB : Value} {Bc : Nat} {ds : List Deferred}
theorem LoopI.below (h : LoopI w X Bx b A n c nw us vU W ah be ch gA gB vA vB Bc ds) (hb : Below W.heap.size W W') : LoopI w X Bx b A n c nw us vU W' ah be ch gA gB vA vB Bc ds :=
  ⟨h.life.below hb, h.box.below hb h.box.lt, h.chg.below hb h.chg.lt, h.low, h.bel.trans (hb.mono h.bel.size), h.mrk.from ((keeps_below hb).from _)⟩
theorem LoopI.alloc (h : LoopI w X Bx b A n c nw us vU W ah be ch gA gB vA vB Bc ds) (o : Obj) : LoopI w X Bx b A n c nw us vU (W.alloc o) ah be ch gA gB vA vB Bc ds := h.below ((Below.refl _ W).alloc (Nat.le_refl _) o)
/-- nothing in cells is turned, and no mark -/
theorem LoopI.nocells {row : Option Nat} {B : Nat} (h : LoopI w X Bx b A n c nw us vU W ah be ch gA gB vA vB Bc ds) (hw : w.heap.size ≤ B) (hm : ∀ r, (∃ d ∈ ds, d.target = .collected r) → r < B) (hg : W.grownBy W' row) (hr : ∀ r, row = some r → B ≤ r ∧ ∃ o : Obj, W.heap[r]? = some o ∧ o.isCells = false) : LoopI w X Bx b A n c nw us vU W' ah be ch gA gB vA vB Bc ds := by
  have hk := keptT_nocells hg (fun r e => (hr r e).2)
  refine ⟨h.life.nocells hg (fun r e => (hr r e).2), hk.blk _ _ _ h.box (by decide), hk.blk _ _ _ h.chg (by decide), h.low, h.bel.grown hg h.bel.size (fun j e => by have := (hr j e).1; omega), h.mrk.keep (fun r hB hd ho => ?_)⟩
  have hlt := hm r hd
  have hrl := (Array.getElem?_eq_some_iff.1 ho).1
  rw [hg.block r hrl (fun e => by have := (hr r e.symm).1; omega)]
  exact ho
/-- a block of type T is turned, that is none of the search's other blocks -/
theorem LoopI.turn (h : LoopI w X Bx b A n c nw us vU W ah be ch gA gB vA vB Bc ds) {r : Nat} {T : TypeId} {cs : Array Value} (hg : W.grownBy W' (some r)) (hc : BlkAt W r T cs) (hr : w.heap.size ≤ r) (h1 : 79 ≠ T) (h2 : 4 ≠ T) {ah' be' : List (List Nat)} {gA' : List (Nat × Nat)} (hl : LifeAt W' w.heap.size X b A n c nw us vU vA vB gA' gB ah' be') : LoopI w X Bx b A n c nw us vU W' ah' be' ch gA' gB vA vB Bc ds :=
  have hk := keptT_row hg hc
  ⟨hl, hk.blk _ _ _ h.box h1, hk.blk _ _ _ h.chg h2, h.low, h.bel.grown hg h.bel.size (fun j e => by cases e; exact hr), h.mrk.from ((keeps_row hg hc).from _)⟩
theorem LoopI.flag (h : LoopI w X Bx b A n c nw us vU W ah be ch gA gB vA vB Bc ds) (v : Bool) : LoopI w X Bx b A n c nw us vU (W.setCell ⟨Bc, 0, none⟩ (.bool v)) ah be v gA gB vA vB Bc ds := by
  have hg := setCell_grown W Bc 0 (.bool v)
  have hk := keptT_row hg h.chg
  refine ⟨h.life.keptT hk (by decide) (by decide) (by decide) (by decide) (by decide), hk.blk _ _ _ h.box (by decide), ?_, h.low, h.bel.setCell (p := ⟨Bc, 0, none⟩) h.low _, h.mrk.from ((keeps_row hg h.chg).from _)⟩
  simpa using h.chg.set 0 (.bool v)
end
/-- what the walk of a round keeps for the iterator -/
structure InK (Bs bU : Nat) (vU : Value) (cu : Array Value) (W W' : World) : Prop where
  ko : KeepsOthers W W'
  bs : BlkAt W' Bs 82 #[vU]
  bu : BlkAt W' bU 111 cu
theorem InK.below {Bs bU : Nat} {vU : Value} {cu : Array Value} {W W1 W2 : World} (h : InK Bs bU vU cu W W1) (hb : Below W1.heap.size W1 W2) : InK Bs bU vU cu W W2 :=
  ⟨h.ko.trans (keeps_below hb), h.bs.below hb h.bs.lt, h.bu.below hb h.bu.lt⟩
theorem InK.alloc {Bs bU : Nat} {vU : Value} {cu : Array Value} {W W1 : World} (h : InK Bs bU vU cu W W1) (o : Obj) : InK Bs bU vU cu W (W1.alloc o) := h.below ((Below.refl _ W1).alloc (Nat.le_refl _) o)
theorem InK.turn {Bs bU : Nat} {vU : Value} {cu : Array Value} {W W1 W2 : World} (h : InK Bs bU vU cu W W1) {r : Nat} {T : TypeId} {cs : Array Value} (hg : W1.grownBy W2 (some r)) (hc : BlkAt W1 r T cs) (h1 : 82 ≠ T) (h2 : 111 ≠ T) : InK Bs bU vU cu W W2 :=
  ⟨h.ko.trans (keeps_row hg hc), (keptT_row hg hc).blk _ _ _ h.bs h1, (keptT_row hg hc).blk _ _ _ h.bu h2⟩
theorem InK.kpB {Bs bU : Nat} {vU : Value} {cu : Array Value} {W W' : World} (h : InK Bs bU vU cu W W') (h1 : BlkAt W Bs 82 #[vU]) (h2 : BlkAt W bU 111 cu) : KpB Bs bU W W' := ⟨h.bs.trans h1.symm, h.bu.trans h2.symm⟩
theorem own_set_cell {w : World} {base nw g m cap : Nat} {gs : List (Nat × Nat)} (h : w.ownsRow base 94 1 (.slice (some ⟨g, 0, none⟩) m cap) m (setsV nw gs)) {k : Nat} {G : Nat × Nat} (hk : gs[k]? = some G) : w.cell? ⟨g, k, none⟩ = some (.slice (some ⟨G.1, 0, none⟩) nw G.2) := by
  have hl := h.1
  have hkl := (List.getElem?_eq_some_iff.1 hk).1
  rw [setsV_len, Nat.mul_one] at hl
  obtain ⟨g', cap', cur, hv, hb, _, hc⟩ := own_blk h (by omega)
  cases hv
  rw [hb.cell]
  exact hc k _ (by unfold setsV; rw [List.getElem?_map, hk]; rfl)
/-- what holds within a round -/
structure BodyI (w : World) (X Bx : Nat) (b : BodyL) (A : Option Addr) (n c nw : Nat) (us : List UseV) (vU : Value) (Bs bU : Nat) (cu : Array Value) (Bu : Nat) (u : UseV) (rs : List Int) (W W' : World) (ah be : List (List Nat)) (ch : Bool) (gA gB : List (Nat × Nat)) (vA vB : Value) (Bc : Nat) (ds : List Deferred) : Prop where
  li : LoopI w X Bx b A n c nw us vU W' ah be ch gA gB vA vB Bc ds
  ik : InK Bs bU vU cu W W'
  bu : BlkAt W' Bu 111 #[.slice u.A u.n u.c, .int .i64 u.wr]
  rd : RdT W' u rs
section
variable {w W W1 W2 : World} {X Bx : Nat} {b : BodyL} {A : Option Addr} {n c nw : Nat} {us : List UseV} {vU : Value} {Bs bU : Nat} {cu : Array Value} {Bu : Nat} {u : UseV} {rs : List Int} {ah be : List (List Nat)} {ch : Bool} {gA gB : List (Nat × Nat)} {vA vB : Value} {Bc : Nat} {ds : List Deferred}
theorem BodyI.below (h : BodyI w X Bx b A n c nw us vU Bs bU cu Bu u rs W W1 ah be ch gA gB vA vB Bc ds) (hb : Below W1.heap.size W1 W2) : BodyI w X Bx b A n c nw us vU Bs bU cu Bu u rs W W2 ah be ch gA gB vA vB Bc ds :=
  ⟨h.li.below hb, h.ik.below hb, h.bu.below hb h.bu.lt, rdT_below h.rd hb⟩
theorem BodyI.rowB (h : BodyI w X Bx b A n c nw us vU Bs bU cu Bu u rs W W1 ah be ch gA gB vA vB Bc ds) {i : Nat} {g : Nat × Nat} {ws ws' : List Nat} (hg : gB[i]? = some g) (hws : be[i]? = some ws) (hgr : W1.grownBy W2 (some g.1)) (hr : RowW W2 g.1 ws') : BodyI w X Bx b A n c nw us vU Bs bU cu Bu u rs W W2 ah (be.set i ws') ch gA gB vA vB Bc ds := by
  have hrow := h.li.life.wsB.row i g ws hg hws
  have hl := h.li.life.rowBset hg hrow.1 hgr hr
  obtain ⟨cs, hb, _⟩ := hrow.1
  have hk := keptT_row hgr hb
  exact ⟨h.li.turn hgr hb hrow.2 (by decide) (by decide) hl, h.ik.turn hgr hb (by decide) (by decide), hk.blk _ _ _ h.bu (by decide), rdT_keptT h.rd hk (by decide)⟩
end
section
variable {w W W1 W2 : World} {X Bx : Nat} {b : BodyL} {A : Option Addr} {n c nw : Nat} {us : List UseV} {vU : Value} {Bs bU : Nat} {cu : Array Value} {Bu : Nat} {u : UseV} {rs : List Int} {ah be : List (List Nat)} {ch : Bool} {gA gB : List (Nat × Nat)} {vA vB : Value} {Bc : Nat} {ds : List Deferred}
theorem LifeAt.other (h : LifeAt W1 w.heap.size X b A n c nw us vU vA vB gA gB ah be) {g : Nat} {cs : Array Value} (hgr : W1.grownBy W2 (some g)) (hb : BlkAt W1 g 128 cs) (hf : g ∉ (gA ++ gB).map Prod.fst) : LifeAt W2 w.heap.size X b A n c nw us vU vA vB gA gB ah be := by
  have hk := keptT_row hgr hb
  refine ⟨hk.blk _ _ _ h.blk (by decide), h.low, own_keptT h.uses hk (by decide), fun i u hu => by obtain ⟨x, k1, k2, k3⟩ := h.rds i u hu; exact ⟨x, k1, rdT_keptT k2 hk (by decide), k3⟩, own_keptT h.rowA hk (by decide), own_keptT h.rowB hk (by decide), ⟨h.wsA.len, fun j g' ws1 h1 h2 => ?_⟩, ⟨h.wsB.len, fun j g' ws1 h1 h2 => ?_⟩, h.nod, h.dis⟩
  · exact ⟨(h.wsA.row j g' ws1 h1 h2).1.kept hgr (fun e => hf (by rw [← Option.some.inj e]; exact List.mem_map_of_mem (List.mem_append_left _ (List.mem_of_getElem? h1)))), (h.wsA.row j g' ws1 h1 h2).2⟩
  · exact ⟨(h.wsB.row j g' ws1 h1 h2).1.kept hgr (fun e => hf (by rw [← Option.some.inj e]; exact List.mem_map_of_mem (List.mem_append_right _ (List.mem_of_getElem? h1)))), (h.wsB.row j g' ws1 h1 h2).2⟩
theorem BodyI.other (h : BodyI w X Bx b A n c nw us vU Bs bU cu Bu u rs W W1 ah be ch gA gB vA vB Bc ds) {g : Nat} {ws : List Nat} (hgr : W1.grownBy W2 (some g)) (hw : RowW W1 g ws) (hf : g ∉ (gA ++ gB).map Prod.fst) (hl : w.heap.size ≤ g) : BodyI w X Bx b A n c nw us vU Bs bU cu Bu u rs W W2 ah be ch gA gB vA vB Bc ds := by
  obtain ⟨cs, hb, _⟩ := hw
  have hk := keptT_row hgr hb
  exact ⟨h.li.turn hgr hb hl (by decide) (by decide) (h.li.life.other hgr hb hf), h.ik.turn hgr hb (by decide) (by decide), hk.blk _ _ _ h.bu (by decide), rdT_keptT h.rd hk (by decide)⟩
theorem BodyI.rowA {g1 m cap : Nat} (h : BodyI w X Bx b A n c nw us vU Bs bU cu Bu u rs W W1 ah be ch gA gB (.slice (some ⟨g1, 0, none⟩) m cap) vB Bc ds) (hm : m = gA.length) {i : Nat} {G : Nat × Nat} {ws : List Nat} (hi : i < gA.length) (hw : RowW W1 G.1 ws) (hb : w.heap.size ≤ G.1) (hf : G.1 ∉ (gA ++ gB).map Prod.fst) : BodyI w X Bx b A n c nw us vU Bs bU cu Bu u rs W (W1.setCell ⟨g1, i, none⟩ (.slice (some ⟨G.1, 0, none⟩) nw G.2)) (ah.set i ws) be ch (gA.set i G) gB (.slice (some ⟨g1, 0, none⟩) m cap) vB Bc ds := by
  subst hm
  obtain ⟨g0, c0, cur, hv, hh, hb0, _⟩ := own_blk h.li.life.rowA (by omega)
  cases hv
  have hgr := setCell_grown W1 g1 i (.slice (some ⟨G.1, 0, none⟩) nw G.2)
  have hk := keptT_row hgr hh
  exact ⟨h.li.turn hgr hh hb0 (by decide) (by decide) (h.li.life.rowAset rfl hi hw hb hf), h.ik.turn hgr hh (by decide) (by decide), hk.blk _ _ _ h.bu (by decide), rdT_keptT h.rd hk (by decide)⟩
theorem BodyI.flag (h : BodyI w X Bx b A n c nw us vU Bs bU cu Bu u rs W W1 ah be ch gA gB vA vB Bc ds) (v : Bool) : BodyI w X Bx b A n c nw us vU Bs bU cu Bu u rs W (W1.setCell ⟨Bc, 0, none⟩ (.bool v)) ah be v gA gB vA vB Bc ds := by
  have hgr := setCell_grown W1 Bc 0 (.bool v)
  have hk := keptT_row hgr h.li.chg
  exact ⟨h.li.flag v, h.ik.turn hgr h.li.chg (by decide) (by decide), hk.blk _ _ _ h.bu (by decide), rdT_keptT h.rd hk (by decide)⟩
end
theorem life_fresh2 {w : World} {B0 X : Nat} {b : BodyL} {A : Option Addr} {n c nw : Nat} {us : List UseV} {vU vA vB : Value} {gA gB : List (Nat × Nat)} {ah be : List (List Nat)} (h : LifeAt w B0 X b A n c nw us vU vA vB gA gB ah be) : ∀ g, g ∈ (gA ++ gB).map Prod.fst → g < w.heap.size := by
  intro g0 hm
  obtain ⟨g, hg, rfl⟩ := List.mem_map.1 hm
  rcases List.mem_append.1 hg with hg | hg
  · obtain ⟨i, hi⟩ := List.getElem?_of_mem hg
    obtain ⟨ws, hws⟩ := get_some (xs := ah) (k := i) (by rw [← h.wsA.len]; exact (List.getElem?_eq_some_iff.1 hi).1)
    exact (h.wsA.row i g ws hi hws).1.lt
  · obtain ⟨i, hi⟩ := List.getElem?_of_mem hg
    obtain ⟨ws, hws⟩ := get_some (xs := be) (k := i) (by rw [← h.wsB.len]; exact (List.getElem?_eq_some_iff.1 hi).1)
    exact (h.wsB.row i g ws hi hws).1.lt
theorem own_frz {w : World} {base g m cap : Nat} {T : TypeId} {k : Nat} {xs : List Value} (h : w.ownsRow base T k (.slice (some ⟨g, 0, none⟩) m cap) m xs) (hm : 0 < m) (j : Nat) : w.frozen? ⟨g, j, none⟩ = false := by
  obtain ⟨g', cap', cur, hv, hb, _⟩ := own_blk h hm
  cases hv
  exact hb.frozen j
theorem setA_len (l : List (Nat × Nat)) (i : Nat) (x : Nat × Nat) : l.length = (l.set i x).length := by rw [List.length_set]
theorem uses_len {x : InsL} (h : x.list.length ≤ 100) : (usesR x).length ≤ 104 := by
  unfold usesR
  split
  · refine Nat.le_trans (List.length_filter_le _ _) ?_
    rw [List.length_append, List.length_map]
    have := List.length_filter_le (fun f : Int × Int => kindRead f.1) (fieldsOf x)
    have : (fieldsOf x).length = 4 := rfl
    omega
  · simp
theorem step_eq {code : List InsL} {s : LS} {j : Nat} {x : InsL} {b0 aj : List Nat} (hx : code[j]? = some x) (hb : s.be[j]? = some b0) (ha : s.ah[j]? = some aj) : stepL code s j = if aheadOf x (joinW s.ah b0 (nextL j x)) = aj then ⟨s.ah, s.be.set j (joinW s.ah b0 (nextL j x)), s.ch⟩ else ⟨s.ah.set j (aheadOf x (joinW s.ah b0 (nextL j x))), s.be.set j (joinW s.ah b0 (nextL j x)), true⟩ := by
  unfold stepL
  simp only [List.getD_eq_getElem?_getD, hx, hb, ha, Option.getD_some]
theorem drop_int (g n c : Nat) (r : Int) (ws : List Nat) (w : World) (h0 : 0 ≤ r) (hW : RowW w g ws) (hr : r.toNat / 64 < n) (hok : WOK n ws) (hn : n ≤ 1000000) :
    Calls Tryz.prog 79 #[.slice (some ⟨g, 0, none⟩) n c, .int .i64 r] w fun e w' => e = .returned (.tuple #[]) ∧ RowW w' g (dropW ws r.toNat) ∧ w.grownBy w' (some g) := by
  have := drop_any g n c r.toNat ws w hW hr hok hn
  rwa [Int.toNat_of_nonneg h0] at this
theorem put_int (g n c : Nat) (r : Int) (ws : List Nat) (w : World) (h0 : 0 ≤ r) (hW : RowW w g ws) (hr : r.toNat / 64 < n) (hok : WOK n ws) (hn : n ≤ 1000000) :
    Calls Tryz.prog 80 #[.slice (some ⟨g, 0, none⟩) n c, .int .i64 r] w fun e w' => e = .returned (.tuple #[]) ∧ RowW w' g (putW ws r.toNat) ∧ w.grownBy w' (some g) := by
  have := put_any g n c r.toNat ws w hW hr hok hn
  rwa [Int.toNat_of_nonneg h0] at this
theorem puts_snoc (rs : List Int) (b : List Nat) {m : Nat} {r : Int} (h : rs[m]? = some r) : ((rs.take (m + 1)).map Int.toNat).foldl putW b = putW (((rs.take m).map Int.toNat).foldl putW b) r.toNat := by
  rw [List.take_add_one, h, Option.toList_some, List.map_append, List.foldl_append]; rfl
theorem set_get1 {l : List (List Nat)} {i : Nat} {x y : List Nat} (h : l[i]? = some x) : (l.set i y)[i]? = some y := by
  rw [List.getElem?_set, if_pos rfl, if_pos (List.getElem?_eq_some_iff.1 h).1]
theorem set_self {l : List (List Nat)} {i : Nat} {x : List Nat} (h : l[i]? = some x) : l.set i x = l := by
  refine List.ext_getElem? fun k => ?_
  rw [List.getElem?_set]
  by_cases e : i = k
  · subst e; rw [if_pos rfl, if_pos (List.getElem?_eq_some_iff.1 h).1, h]
  · rw [if_neg e]
theorem join_snoc (ah : List (List Nat)) (b : List Nat) (ns : List Nat) {m n : Nat} (h : ns[m]? = some n) : joinW ah b (ns.take (m + 1)) = orW (joinW ah b (ns.take m)) (ah.getD n []) := by
  unfold joinW
  rw [List.take_add_one, h, Option.toList_some, List.foldl_append]; rfl
theorem or_nat {x y : Nat} (hx : x < 18446744073709551616) (hy : y < 18446744073709551616) : bits BinOp.or IntKind.u64 (y : Int) (x : Int) = ((y ||| x : Nat) : Int) := bits_or_u64_nat y x hy hx
theorem backL_mem {us : List UseV} {n j : Nat} {u : UseV} (hn : n = us.length) {pre : List (Nat × UseV)} (h : pre ++ [(j, u)] <+: backL us n) : us[j]? = some u := by
  obtain ⟨rest, hr⟩ := h
  have hm : (j, u) ∈ backL us n := by rw [← hr]; simp
  unfold backL at hm
  obtain ⟨k, hk, e⟩ := List.mem_map.1 hm
  cases e
  have hlt : j < us.length := by have : j < n := by simpa using hk
                                 omega
  rw [List.getD_eq_getElem?_getD, List.getElem?_eq_getElem hlt]; rfl
theorem backL_idx (us : List UseV) (n : Nat) : (backL us n).map Prod.fst = downTo n := by
  unfold backL downTo
  rw [List.map_map]
  have : (Prod.fst ∘ fun k => (k, us.getD k default)) = (fun k : Nat => k) := rfl
  rw [this, List.map_id']
end Go.Proofs.YtpahhcmiimllaaaGreatDoor
