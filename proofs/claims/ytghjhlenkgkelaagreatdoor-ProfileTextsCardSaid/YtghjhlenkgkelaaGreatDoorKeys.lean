/- DERIVED. maps.Keys at keys that are arrays of ints. -/
import Derived.Test.YtghjhlenkgkelaaGreatDoorMp2
import Derived.Shelf.AbstractIn
import Derived.RangeFuncSeq
import Derived.RangeFuncGives
import Derived.RangeFuncNested
import Derived.RangeFuncBound
import Derived.RangeFuncCalls
import Derived.RangeFuncLeaves
import Derived.RangeFuncBox
import Derived.Shelf.RegionOpen
import Derived.Maps.AppendAt
import Derived.WalkKit
import Derived.OwnWalkIn
import Derived.TacticsInMore
import Derived.RegionIn
import Derived.LoopNIn
import Derived.LoopIn
set_option linter.unusedSimpArgs false
set_option linter.unusedVariables false
namespace Go.Proofs.YtghjhlenkgkelaaGreatDoor
open Go.RowKit Go.Shelf
attribute [local go_sem] Oper.semAt_some

/-- a pair of locales -/
structure K2 where
  a : Int
  b : Int
  deriving DecidableEq, Inhabited
/-- a place -/
structure K3 where
  a : Int
  b : Int
  c : Int
  deriving DecidableEq, Inhabited
def enc2 (x : K2) : Value := .agg #[.int .i64 x.a, .int .i64 x.b]
def enc3 (x : K3) : Value := .agg #[.int .i64 x.a, .int .i64 x.b, .int .i64 x.c]

def iterLeft (b r : Nat) (w : World) : Nat :=
  match w.heap[b]?, w.heap[r]? with
  | some (.map es _), some (.mapIter _ _ seen _) => (es.toList.filter (fun e => !seen.contains e.born)).length
  | _, _ => 0
section
variable {κ ν : Type} {enc : κ → Value} {encV : ν → Value} {w w' : World} {r b : Nat} {R rest : List (κ × ν)}
theorem IterOf.left_eq (h : IterOf enc encV w r b R rest) : iterLeft b r w = rest.length := by
  obtain ⟨es, c, s, sn, c0, hb, he, h1, h2, h3, hr, _, _, _, hl, _⟩ := h
  simp only [iterLeft, hb, hr]
  simpa using congrArg List.length hl
theorem IterOf.of_walks (h : IterOf enc encV w r b R rest) (hk : KeepsWalks w w') : IterOf enc encV w' r b R rest := by
  obtain ⟨es, c, s, sn, c0, hb, he, h1, h2, h3, hr, rr⟩ := h
  exact ⟨es, c, s, sn, c0, hk.same b _ hb rfl, he, h1, h2, h3, hk.same r _ hr rfl, rr⟩
end

/-- block B is the cells cs, of element type t -/
def BlkAt (W : World) (B : Nat) (t : TypeId) (cs : Array Value) : Prop := W.heap[B]? = some (.cells cs t (0, 0))
section
variable {W W' : World} {B : Nat} {t : TypeId} {cs : Array Value}
theorem BlkAt.lt (h : BlkAt W B t cs) : B < W.heap.size := (Array.getElem?_eq_some_iff.1 h).1
theorem BlkAt.cell (h : BlkAt W B t cs) (i : Nat) : W.cell? ⟨B, i, none⟩ = cs[i]? := cell_of_row W B i cs t (0, 0) h
theorem BlkAt.frozen (h : BlkAt W B t cs) (i : Nat) : W.frozen? ⟨B, i, none⟩ = false := by
  unfold BlkAt at h; simp [World.frozen?, h]
theorem BlkAt.new (W : World) (t : TypeId) (cs : Array Value) : BlkAt (W.alloc (.cells cs t)) W.heap.size t cs := heap_alloc_new W _
theorem BlkAt.block (h : BlkAt W B t cs) (e : W'.heap[B]? = W.heap[B]?) : BlkAt W' B t cs := e.trans h
theorem BlkAt.kept {row : Option Nat} (h : BlkAt W B t cs) (hg : W.grownBy W' row) (hne : some B ≠ row) : BlkAt W' B t cs := (hg.block B h.lt hne).trans h
theorem BlkAt.alloc (h : BlkAt W B t cs) (o : Obj) : BlkAt (W.alloc o) B t cs := (Below.heap_alloc W o B h.lt).trans h
theorem BlkAt.below {B' : Nat} (h : BlkAt W B t cs) (hb : Below B' W W') (hB : B < B') : BlkAt W' B t cs := (hb.block B hB).trans h
theorem BlkAt.far (h : BlkAt W B t cs) {p : Addr} (hp : B ≠ p.block) (u : Value) : BlkAt (W.setCell p u) B t cs := (Below.heap_setCell W p u B hp).trans h
theorem BlkAt.set (h : BlkAt W B t cs) (i : Nat) (u : Value) : BlkAt (W.setCell ⟨B, i, none⟩ u) B t (cs.setIfInBounds i u) := by
  unfold BlkAt at h ⊢
  simp [World.setCell, Array.getElem?_modify, h]
end
/-- what a row of the call's own looks like -/
theorem own_slice {w : World} {base : Nat} {e : TypeId} {k n : Nat} {v : Value} {xs : List Value} (h : w.ownsRow base e k v n xs) :
    ∃ A c, v = .slice A n c ∧ n ≤ c ∧ c ≤ maxLen ∧ (0 < n → ∃ g, A = some ⟨g, 0, none⟩ ∧ base ≤ g ∧ g < w.heap.size ∧ ∀ j u, xs[j]? = some u → w.cell? ⟨g, j, none⟩ = some u) := by
  rcases h.2 with ⟨rfl, rfl⟩ | ⟨g, cap, cur, rfl, hb, hh, hn, hc, hs, ht⟩
  · exact ⟨none, 0, rfl, Nat.le_refl _, Nat.zero_le _, fun h => absurd h (by omega)⟩
  · refine ⟨_, cap, rfl, hn, hc, fun h0 => ⟨g, rfl, hb, (Array.getElem?_eq_some_iff.1 hh).1, fun j u hj => ?_⟩⟩
    have hj' : j < n * k := by have := (List.getElem?_eq_some_iff.1 hj).1; rw [h.1] at this; exact this
    rw [← ht, List.getElem?_take_of_lt hj', Array.getElem?_toList] at hj
    simp [World.cell?, hh, hj]
theorem add_plain' (b o j : Nat) : (⟨b, o, none⟩ : Addr).add j = ⟨b, o + j, none⟩ := by
  unfold Addr.add; split
  · subst_vars; rfl
  · rfl
/-- the cells of a block just made -/
theorem cells_new (w : World) (xs : List Value) (t : TypeId) : ∀ j u, xs[j]? = some u → (w.alloc (.cells xs.toArray t)).cell? ((⟨w.heap.size, 0, none⟩ : Addr).add j) = some u := by
  intro j u hj
  rw [add_plain', BlkAt.cell (BlkAt.new w t xs.toArray)]
  simpa using hj
theorem cells_new' (w : World) (xs : List Value) (t : TypeId) (n : Nat) (hn : w.heap.size = n) : ∀ j u, xs[j]? = some u → (w.alloc (.cells xs.toArray t)).cell? ((⟨n, 0, none⟩ : Addr).add j) = some u := by
  subst hn; exact cells_new w xs t
theorem blkAt_own {β : Type} (B : Nat) (t : TypeId) (f : β → Array Value) : Own (fun s W => BlkAt W B t (f s)) := fun s X Y row hs hg hrow =>
  hs.kept hg (fun e' => by obtain ⟨o, ho, hc⟩ := hrow B e'.symm; rw [show X.heap[B]? = _ from hs] at ho; cases ho; cases hc)
def encL2 (x : K2) : List Value := [.int .i64 x.a, .int .i64 x.b]
def encL3 (x : K3) : List Value := [.int .i64 x.a, .int .i64 x.b, .int .i64 x.c]

set_option maxRecDepth 100000 in
set_option maxHeartbeats 1000000 in
/-- maps.Keys's iterator: the keys come, each once, in some order; a round may stop it. -/
theorem e2_keys1 {ν : Type} {encV : ν → Value} (F : Fence) (n : Nat) (h10 : F.fn 47) (hro : F.round = none) (hn : 1 ≤ n) (l Bm b : Nat) (R : List (K2 × ν)) (J Jx : List K2 → World → Prop)
    (hY : ∀ pre x W, J pre W → pre.length < R.length → YieldAt F (n - 1) Tryz.prog l #[enc2 x] W fun e W' => (e = .returned (.bool true) ∧ J (pre ++ [x]) W' ∧ KeepsWalks W W') ∨ (e = .returned (.bool false) ∧ Jx (pre ++ [x]) W'))
    (W : World) (hJ : AbidesFrom W.heap.size J) (hm : W.cell? ⟨Bm, 0, none⟩ = some (.map (some b))) (hown : MapOf enc2 encV W b R) (h0 : J [] W) :
    CallsIn F n Tryz.prog 47 #[.func (.yield l) #[] #[], .pointer (some ⟨Bm, 0, none⟩)] W fun e W' => (∃ v, e = .returned v) ∧ ((∃ ss : List K2, ss.Perm (R.map (·.1)) ∧ J ss W') ∨ (∃ pre, True ∧ Jx pre W')) := by
  refine callsIn_of_wp Tryz.func47 rfl h10 ?_ hro
  simp only [Tryz.ntmps47, List.size_toArray, List.length_cons, List.length_nil, Nat.reduceAdd, Nat.reduceSub, Array.replicate_succ, Array.replicate_zero, List.push_toArray, List.append_toArray, List.nil_append, List.cons_append]
  gi_wp2_with (first
    | (gi_at_range; refine wpListIn_range_of (k := 55) _ rfl _ 54 rfl 52 Tryz.underlying54 b R rfl hown ?_; intro w0 hrg0 hg0 hs0)
    | gi_in)
  go_frame
  gi_loopw [3] (fun _ wr => ∃ (left : List (K2 × ν)) (ss : List K2), IterOf enc2 encV wr W.heap.size b R left ∧ (ss ++ left.map (·.1)).Perm (R.map (·.1)) ∧ J ss wr)
    (fun _ wr => iterLeft b W.heap.size wr)
  case atStart =>
    exact ⟨R, [], hrg0, by simp, hJ [] W w0 none h0 hg0 (fun r e => by cases e)⟩
  case round =>
    obtain ⟨left, ss, hrg, hC, hJs⟩ := hrel
    have hmeas := hrg.left_eq
    gi_wp2_with (first
      | (gi_at_next; refine wpListIn_next_of _ rfl _ rfl W.heap.size b R left rfl hrg ?_ ?_)
      | gi_in)
    · intro hl0
      subst hl0
      gi_wp2
      go_end0
      exact ⟨⟨_, rfl⟩, .inl ⟨ss, by simpa using hC, hJs⟩⟩
    · intro x v left' w2 hp hrg2 hg2 hs2 hen
      have hJ2 : J ss w2 := hJ ss wr w2 (some W.heap.size) hJs hg2 (fun r e => by cases e; exact ⟨Nat.le_refl _, hrg.walk⟩)
      have hJ3 : J ss (w2.alloc (.cells #[.int .i64 x.a, .int .i64 x.b] 55)) := hJ ss w2 _ none hJ2 (World.grownBy_alloc _ _ _) (fun r e => by cases e)
      have hlen : ss.length < R.length := by
        have h1 := hC.length_eq
        have h2 := hp.length_eq
        simp at h1 h2
        omega
      obtain ⟨fn, tmps, assign, body, hy, hR⟩ := hY ss x _ hJ3 hlen
      have hC' : ((ss ++ [x]) ++ left'.map (·.1)).Perm (R.map (·.1)) := by
        refine List.Perm.trans ?_ hC
        rw [List.append_assoc]
        refine List.Perm.append_left ss ?_
        have := (hp.map (·.1)).symm
        simpa using this
      have hml : left'.length < left.length := by have := hp.length_eq; simp at this; omega
      clear hs2 hC hp hJ2 hJ3
      unfold enc2 at hen hy
      gi_wp2
      refine hR.mono ?_
      rintro e W3 (⟨rfl, hJ3, hk3⟩ | ⟨rfl, hJ3⟩)
      · gi_wp2
        have hrg3 := (hrg2.alloc (.cells #[.int .i64 x.a, .int .i64 x.b] 55)).of_walks hk3
        go_roundw
        case rel => exact ⟨left', ss ++ [x], hrg3, hC', hJ3⟩
        case measure => rw [hrg3.left_eq, hmeas]; exact hml
      · gi_wp2
        refine bodyPost_ret (results_none rfl _ _ _) rfl ?_
        exact ⟨⟨_, rfl⟩, .inr ⟨ss ++ [x], trivial, hJ3⟩⟩

theorem e2_stops {ν : Type} {encV : ν → Value} (F : Fence) (n : Nat) (h10 : F.fn 47) (hro : F.round = none) (hn : 1 ≤ n) (Bm b : Nat) (R : List (K2 × ν)) (w : World) (hBm : Bm < w.heap.size)
    (hm : w.cell? ⟨Bm, 0, none⟩ = some (.map (some b))) (hown : MapOf enc2 encV w b R) :
    SeqStopsK F n Tryz.prog 47 #[.pointer (some ⟨Bm, 0, none⟩)] (fun x => #[enc2 x]) KeepsWalks (fun ss => ss.Perm (R.map (·.1))) (fun _ => True) R.length w := fun l J Jx W hW hJ _ hY h0 =>
  e2_keys1 F n h10 hro hn l Bm b R J Jx hY W hJ ((hW.cell (p := ⟨Bm, 0, none⟩) hBm).trans hm) (hown.below hW hown.lt) h0

set_option maxHeartbeats 1000000 in
theorem e2_keys (F : Fence) (n : Nat) (h7 : F.fn 32) (hro : F.round = none) (mb : Option Nat) (w : World) :
    CallsIn F n Tryz.prog 32 #[.map mb] w fun e w' => e = .returned (.func (.func 47) #[] #[.pointer (some ⟨w.heap.size, 0, none⟩)]) ∧ w' = w.alloc (.cells #[.map mb] 54) := by
  refine callsIn_of_wp Tryz.func32 rfl h7 ?_ hro
  simp only [Tryz.ntmps32, List.size_toArray, List.length_cons, List.length_nil, Nat.reduceAdd, Nat.reduceSub, Array.replicate_succ, Array.replicate_zero, List.push_toArray, List.append_toArray, List.nil_append, List.cons_append]
  gi_wp2
  go_ret
  exact ⟨rfl, rfl⟩

theorem e2_info : (Tryz.prog.info? 55).map (fun i => (i.zero, i.size, i.bytes)) = some (some (.agg #[.int .i64 0, .int .i64 0]), 2, 16) := by kernel_rfl
set_option maxRecDepth 100000 in
set_option maxHeartbeats 2000000 in
/-- slices.AppendSeq(nil, seq). -/
theorem e2_append (F : Fence) (n : Nat) (hf : F.fn 62) (hro : F.round = none) (hn : 3 ≤ n) (g : Nat) (lb : Array Value) (hFg : F.fn g) (eg : ∀ args w, (callFunc g args).run Tryz.prog w = .ok (.enter g args) w)
    (S Sp : List K2 → Prop) (N : Nat) (hN : N ≤ maxLen) (hNb : N * 16 ≤ 140737488355328) (w : World) (hseq : SeqStopsK F (n - 1) Tryz.prog g lb (fun x => #[enc2 x]) KeepsWalks S Sp N w) :
    CallsIn F n Tryz.prog 62 #[.slice none 0 0, .func (.func g) #[] lb] w fun e w' => ∃ (v : Value) (ss : List K2), e = .returned v ∧ S ss ∧ w'.ownsRow w.heap.size 55 2 v ss.length (ss.flatMap encL2) ∧ (v = .slice none 0 0 ↔ ss = []) ∧ Below w.heap.size w w' := by
  have h1 : 1 ≤ n := by omega
  obtain ⟨i0, hi, hz0, hz1, hz2⟩ := info_parts e2_info
  refine callsIn_of_wp_marks Tryz.func62 rfl hf ?_ hro
  simp only [Tryz.ntmps62, List.size_toArray, List.length_cons, List.length_nil, Nat.reduceAdd, Nat.reduceSub, Array.replicate_succ, Array.replicate_zero, List.push_toArray, List.append_toArray, List.nil_append, List.cons_append]
  gi_wp2
  obtain ⟨W0, hW0⟩ : ∃ W0, w.alloc (.cells #[.slice none 0 0] 90) = W0 := ⟨_, rfl⟩
  have hs0 : W0.heap.size = w.heap.size + 1 := by rw [← hW0]; simp
  have hbx0 : Boxed W0 w.heap.size 90 (.slice none 0 0) := by rw [← hW0]; exact Boxed.new w _ _
  have hb0 : Below w.heap.size w W0 := by rw [← hW0]; exact (Below.refl _ w).alloc (Nat.le_refl _) _
  rw [hW0]
  refine wpIn_rangeFunc_ownH hro h1 (gf := g) (lb := lb) rfl hFg eg hseq (fun h h' => h.trans h') (fun W l o o' _ hl hc hw => KeepsWalks.putObj o' hl hw) hb0 (fun _ => rfl)
    (fun pre W => (∃ v, Boxed W w.heap.size 90 v ∧ W.ownsRow w.heap.size 55 2 v pre.length (pre.flatMap encL2) ∧ (v = .slice none 0 0 ↔ pre = [])) ∧ Below w.heap.size w W)
    (fun _ _ _ => False)
    (OwnFrom.and (Own.from (holdsRow_own w.heap.size w.heap.size 90 55 2 (fun pre => pre.length) (fun pre => pre.flatMap encL2) (fun pre v => (v = .slice none 0 0 ↔ pre = []))) _) (ownFrom_below (Nat.le_refl _) (by omega)))
    (fun _ _ _ _ _ hs _ _ => hs)
    ⟨⟨_, hbx0, World.ownsRow_nil _ _ _ _, by simp⟩, hb0⟩
    (fun x a' W => ∃ Bx, w.heap.size < Bx ∧ BlkAt W Bx 55 #[.int .i64 x.a, .int .i64 x.b] ∧ a' = { tmps := #[.slice none 0 0, .func (.func g) #[] lb, .pointer (some ⟨w.heap.size, 0, none⟩), undef, .slice none 0 0, .pointer (some ⟨Bx, 0, none⟩), .func (.func g) #[] lb, enc2 x, undef, undef, undef, undef, undef], defers := [] })
    ?hAx ?assign ?body ?done ?stop
  case hAx =>
    intro x a' s W W' row h hg hr
    obtain ⟨Bx, h1, h2, h3⟩ := h
    exact ⟨Bx, h1, (blkAt_own Bx 55 (fun _ : Unit => #[.int .i64 x.a, .int .i64 x.b])).from W0.heap.size () W W' row h2 hg hr, h3⟩
  case assign =>
    rintro l pre x W K hi0 hK
    have hB := hi0.2
    unfold enc2 at hK ⊢
    gi_wp2
    exact hK _ _ ((KeepsOthers.alloc _ _).from _) (KeepsWalks.alloc _ _) ⟨by obtain ⟨v, a, b, c⟩ := hi0.1; exact ⟨v, a.alloc _, b.alloc _, c⟩, hB.alloc hB.size _⟩ ⟨W.heap.size, by obtain ⟨v, a, b, c⟩ := hi0.1; exact a.lt, BlkAt.new W _ _, rfl⟩
  case body =>
    rintro l pre x a' W hl ⟨r, hr⟩ ⟨⟨v, hv, hrow, hnil⟩, hB⟩ ⟨Bx, hBx, hbk, rfl⟩ hlt
    have hb0 := hbk.cell 0; have hb1 := hbk.cell 1; simp at hb0 hb1
    have hc0 := hv.cell
    have hf0 := hv.frozen
    unfold enc2
    gi_wp2_with (first
      | (gi_at_builtin; refine wpListIn_append_own _ rfl _ _ 90 rfl w.heap.size 55 i0 (.agg #[.int .i64 0, .int .i64 0]) 2 16 Tryz.underlying90 hi hz0 hz1 hz2 rfl (by decide) _ _ _ rfl (hrow.alloc _) ⟨W.heap.size, 0, none⟩ 1 1 (encL2 x) rfl rfl (cells_new _ (encL2 x) _) (by simp [Value.oneCell', encL2]) (by omega) (by omega) (by have := hB.size; simp; omega) ?_
         intro v' w1 hown' hgrow _
         obtain ⟨g', cap', rfl⟩ := ownsRow_succ hown'
         obtain ⟨hv1, hv2, hr2, hk2, hb2⟩ := hv.appended (by decide) hrow hB.size (Nat.le_refl _) hown' hgrow
         have hc1 := hv1.cell
         have hf1 := hv1.frozen)
      | fail)
    refine ⟨hk2.from _, KeepsOthers.walks hk2, ⟨⟨_, hv2, ?_, by simp⟩, hB.trans hb2⟩⟩
    simpa using hr2
  case done =>
    rintro D ys W hD hS ⟨⟨v, hv, hrow, hnil⟩, hB⟩ hK
    have hc0 := hv.cell
    gi_wp2
    refine ⟨by simp, .inl ⟨_, _, rfl, run_takeDeferred hK, ?_⟩⟩
    exact ⟨_, results_tmp rfl _ _ _, v, ys, rfl, hS, ownsRow_putObj hrow _ hK rfl, hnil, hB.trans (belowK_b (w := w) (Nat.le_refl _) W D _ _ (by omega) hK rfl rfl)⟩
  case stop =>
    rintro D c pre W _ _ h _
    exact h.elim

set_option maxRecDepth 100000 in
set_option maxHeartbeats 1000000 in
/-- maps.Keys's iterator: the keys come, each once, in some order; a round may stop it. -/
theorem s3_keys1 {ν : Type} {encV : ν → Value} (F : Fence) (n : Nat) (h10 : F.fn 73) (hro : F.round = none) (hn : 1 ≤ n) (l Bm b : Nat) (R : List (K3 × ν)) (J Jx : List K3 → World → Prop)
    (hY : ∀ pre x W, J pre W → pre.length < R.length → YieldAt F (n - 1) Tryz.prog l #[enc3 x] W fun e W' => (e = .returned (.bool true) ∧ J (pre ++ [x]) W' ∧ KeepsWalks W W') ∨ (e = .returned (.bool false) ∧ Jx (pre ++ [x]) W'))
    (W : World) (hJ : AbidesFrom W.heap.size J) (hm : W.cell? ⟨Bm, 0, none⟩ = some (.map (some b))) (hown : MapOf enc3 encV W b R) (h0 : J [] W) :
    CallsIn F n Tryz.prog 73 #[.func (.yield l) #[] #[], .pointer (some ⟨Bm, 0, none⟩)] W fun e W' => (∃ v, e = .returned v) ∧ ((∃ ss : List K3, ss.Perm (R.map (·.1)) ∧ J ss W') ∨ (∃ pre, True ∧ Jx pre W')) := by
  refine callsIn_of_wp Tryz.func73 rfl h10 ?_ hro
  simp only [Tryz.ntmps73, List.size_toArray, List.length_cons, List.length_nil, Nat.reduceAdd, Nat.reduceSub, Array.replicate_succ, Array.replicate_zero, List.push_toArray, List.append_toArray, List.nil_append, List.cons_append]
  gi_wp2_with (first
    | (gi_at_range; refine wpListIn_range_of (k := 43) _ rfl _ 110 rfl 63 Tryz.underlying110 b R rfl hown ?_; intro w0 hrg0 hg0 hs0)
    | gi_in)
  go_frame
  gi_loopw [3] (fun _ wr => ∃ (left : List (K3 × ν)) (ss : List K3), IterOf enc3 encV wr W.heap.size b R left ∧ (ss ++ left.map (·.1)).Perm (R.map (·.1)) ∧ J ss wr)
    (fun _ wr => iterLeft b W.heap.size wr)
  case atStart =>
    exact ⟨R, [], hrg0, by simp, hJ [] W w0 none h0 hg0 (fun r e => by cases e)⟩
  case round =>
    obtain ⟨left, ss, hrg, hC, hJs⟩ := hrel
    have hmeas := hrg.left_eq
    gi_wp2_with (first
      | (gi_at_next; refine wpListIn_next_of _ rfl _ rfl W.heap.size b R left rfl hrg ?_ ?_)
      | gi_in)
    · intro hl0
      subst hl0
      gi_wp2
      go_end0
      exact ⟨⟨_, rfl⟩, .inl ⟨ss, by simpa using hC, hJs⟩⟩
    · intro x v left' w2 hp hrg2 hg2 hs2 hen
      have hJ2 : J ss w2 := hJ ss wr w2 (some W.heap.size) hJs hg2 (fun r e => by cases e; exact ⟨Nat.le_refl _, hrg.walk⟩)
      have hJ3 : J ss (w2.alloc (.cells #[.int .i64 x.a, .int .i64 x.b, .int .i64 x.c] 43)) := hJ ss w2 _ none hJ2 (World.grownBy_alloc _ _ _) (fun r e => by cases e)
      have hlen : ss.length < R.length := by
        have h1 := hC.length_eq
        have h2 := hp.length_eq
        simp at h1 h2
        omega
      obtain ⟨fn, tmps, assign, body, hy, hR⟩ := hY ss x _ hJ3 hlen
      have hC' : ((ss ++ [x]) ++ left'.map (·.1)).Perm (R.map (·.1)) := by
        refine List.Perm.trans ?_ hC
        rw [List.append_assoc]
        refine List.Perm.append_left ss ?_
        have := (hp.map (·.1)).symm
        simpa using this
      have hml : left'.length < left.length := by have := hp.length_eq; simp at this; omega
      clear hs2 hC hp hJ2 hJ3
      unfold enc3 at hen hy
      gi_wp2
      refine hR.mono ?_
      rintro e W3 (⟨rfl, hJ3, hk3⟩ | ⟨rfl, hJ3⟩)
      · gi_wp2
        have hrg3 := (hrg2.alloc (.cells #[.int .i64 x.a, .int .i64 x.b, .int .i64 x.c] 43)).of_walks hk3
        go_roundw
        case rel => exact ⟨left', ss ++ [x], hrg3, hC', hJ3⟩
        case measure => rw [hrg3.left_eq, hmeas]; exact hml
      · gi_wp2
        refine bodyPost_ret (results_none rfl _ _ _) rfl ?_
        exact ⟨⟨_, rfl⟩, .inr ⟨ss ++ [x], trivial, hJ3⟩⟩

theorem s3_stops {ν : Type} {encV : ν → Value} (F : Fence) (n : Nat) (h10 : F.fn 73) (hro : F.round = none) (hn : 1 ≤ n) (Bm b : Nat) (R : List (K3 × ν)) (w : World) (hBm : Bm < w.heap.size)
    (hm : w.cell? ⟨Bm, 0, none⟩ = some (.map (some b))) (hown : MapOf enc3 encV w b R) :
    SeqStopsK F n Tryz.prog 73 #[.pointer (some ⟨Bm, 0, none⟩)] (fun x => #[enc3 x]) KeepsWalks (fun ss => ss.Perm (R.map (·.1))) (fun _ => True) R.length w := fun l J Jx W hW hJ _ hY h0 =>
  s3_keys1 F n h10 hro hn l Bm b R J Jx hY W hJ ((hW.cell (p := ⟨Bm, 0, none⟩) hBm).trans hm) (hown.below hW hown.lt) h0

set_option maxHeartbeats 1000000 in
theorem s3_keys (F : Fence) (n : Nat) (h7 : F.fn 60) (hro : F.round = none) (mb : Option Nat) (w : World) :
    CallsIn F n Tryz.prog 60 #[.map mb] w fun e w' => e = .returned (.func (.func 73) #[] #[.pointer (some ⟨w.heap.size, 0, none⟩)]) ∧ w' = w.alloc (.cells #[.map mb] 110) := by
  refine callsIn_of_wp Tryz.func60 rfl h7 ?_ hro
  simp only [Tryz.ntmps60, List.size_toArray, List.length_cons, List.length_nil, Nat.reduceAdd, Nat.reduceSub, Array.replicate_succ, Array.replicate_zero, List.push_toArray, List.append_toArray, List.nil_append, List.cons_append]
  gi_wp2
  go_ret
  exact ⟨rfl, rfl⟩

theorem e3_info : (Tryz.prog.info? 43).map (fun i => (i.zero, i.size, i.bytes)) = some (some (.agg #[.int .i64 0, .int .i64 0, .int .i64 0]), 3, 24) := by kernel_rfl
set_option maxRecDepth 100000 in
set_option maxHeartbeats 2000000 in
/-- slices.AppendSeq(nil, seq). -/
theorem e3_append (F : Fence) (n : Nat) (hf : F.fn 90) (hro : F.round = none) (hn : 3 ≤ n) (g : Nat) (lb : Array Value) (hFg : F.fn g) (eg : ∀ args w, (callFunc g args).run Tryz.prog w = .ok (.enter g args) w)
    (S Sp : List K3 → Prop) (N : Nat) (hN : N ≤ maxLen) (hNb : N * 24 ≤ 140737488355328) (w : World) (hseq : SeqStopsK F (n - 1) Tryz.prog g lb (fun x => #[enc3 x]) KeepsWalks S Sp N w) :
    CallsIn F n Tryz.prog 90 #[.slice none 0 0, .func (.func g) #[] lb] w fun e w' => ∃ (v : Value) (ss : List K3), e = .returned v ∧ S ss ∧ w'.ownsRow w.heap.size 43 3 v ss.length (ss.flatMap encL3) ∧ (v = .slice none 0 0 ↔ ss = []) ∧ Below w.heap.size w w' := by
  have h1 : 1 ≤ n := by omega
  obtain ⟨i0, hi, hz0, hz1, hz2⟩ := info_parts e3_info
  refine callsIn_of_wp_marks Tryz.func90 rfl hf ?_ hro
  simp only [Tryz.ntmps90, List.size_toArray, List.length_cons, List.length_nil, Nat.reduceAdd, Nat.reduceSub, Array.replicate_succ, Array.replicate_zero, List.push_toArray, List.append_toArray, List.nil_append, List.cons_append]
  gi_wp2
  obtain ⟨W0, hW0⟩ : ∃ W0, w.alloc (.cells #[.slice none 0 0] 123) = W0 := ⟨_, rfl⟩
  have hs0 : W0.heap.size = w.heap.size + 1 := by rw [← hW0]; simp
  have hbx0 : Boxed W0 w.heap.size 123 (.slice none 0 0) := by rw [← hW0]; exact Boxed.new w _ _
  have hb0 : Below w.heap.size w W0 := by rw [← hW0]; exact (Below.refl _ w).alloc (Nat.le_refl _) _
  rw [hW0]
  refine wpIn_rangeFunc_ownH hro h1 (gf := g) (lb := lb) rfl hFg eg hseq (fun h h' => h.trans h') (fun W l o o' _ hl hc hw => KeepsWalks.putObj o' hl hw) hb0 (fun _ => rfl)
    (fun pre W => (∃ v, Boxed W w.heap.size 123 v ∧ W.ownsRow w.heap.size 43 3 v pre.length (pre.flatMap encL3) ∧ (v = .slice none 0 0 ↔ pre = [])) ∧ Below w.heap.size w W)
    (fun _ _ _ => False)
    (OwnFrom.and (Own.from (holdsRow_own w.heap.size w.heap.size 123 43 3 (fun pre => pre.length) (fun pre => pre.flatMap encL3) (fun pre v => (v = .slice none 0 0 ↔ pre = []))) _) (ownFrom_below (Nat.le_refl _) (by omega)))
    (fun _ _ _ _ _ hs _ _ => hs)
    ⟨⟨_, hbx0, World.ownsRow_nil _ _ _ _, by simp⟩, hb0⟩
    (fun x a' W => ∃ Bx, w.heap.size < Bx ∧ BlkAt W Bx 43 #[.int .i64 x.a, .int .i64 x.b, .int .i64 x.c] ∧ a' = { tmps := #[.slice none 0 0, .func (.func g) #[] lb, .pointer (some ⟨w.heap.size, 0, none⟩), undef, .slice none 0 0, .pointer (some ⟨Bx, 0, none⟩), .func (.func g) #[] lb, enc3 x, undef, undef, undef, undef, undef], defers := [] })
    ?hAx ?assign ?body ?done ?stop
  case hAx =>
    intro x a' s W W' row h hg hr
    obtain ⟨Bx, h1, h2, h3⟩ := h
    exact ⟨Bx, h1, (blkAt_own Bx 43 (fun _ : Unit => #[.int .i64 x.a, .int .i64 x.b, .int .i64 x.c])).from W0.heap.size () W W' row h2 hg hr, h3⟩
  case assign =>
    rintro l pre x W K hi0 hK
    have hB := hi0.2
    unfold enc3 at hK ⊢
    gi_wp2
    exact hK _ _ ((KeepsOthers.alloc _ _).from _) (KeepsWalks.alloc _ _) ⟨by obtain ⟨v, a, b, c⟩ := hi0.1; exact ⟨v, a.alloc _, b.alloc _, c⟩, hB.alloc hB.size _⟩ ⟨W.heap.size, by obtain ⟨v, a, b, c⟩ := hi0.1; exact a.lt, BlkAt.new W _ _, rfl⟩
  case body =>
    rintro l pre x a' W hl ⟨r, hr⟩ ⟨⟨v, hv, hrow, hnil⟩, hB⟩ ⟨Bx, hBx, hbk, rfl⟩ hlt
    have hb0 := hbk.cell 0; have hb1 := hbk.cell 1; have hb2 := hbk.cell 2; simp at hb0 hb1 hb2
    have hc0 := hv.cell
    have hf0 := hv.frozen
    unfold enc3
    gi_wp2_with (first
      | (gi_at_builtin; refine wpListIn_append_own _ rfl _ _ 123 rfl w.heap.size 43 i0 (.agg #[.int .i64 0, .int .i64 0, .int .i64 0]) 3 24 Tryz.underlying123 hi hz0 hz1 hz2 rfl (by decide) _ _ _ rfl (hrow.alloc _) ⟨W.heap.size, 0, none⟩ 1 1 (encL3 x) rfl rfl (cells_new _ (encL3 x) _) (by simp [Value.oneCell', encL3]) (by omega) (by omega) (by have := hB.size; simp; omega) ?_
         intro v' w1 hown' hgrow _
         obtain ⟨g', cap', rfl⟩ := ownsRow_succ hown'
         obtain ⟨hv1, hv2, hr2, hk2, hb2⟩ := hv.appended (by decide) hrow hB.size (Nat.le_refl _) hown' hgrow
         have hc1 := hv1.cell
         have hf1 := hv1.frozen)
      | fail)
    refine ⟨hk2.from _, KeepsOthers.walks hk2, ⟨⟨_, hv2, ?_, by simp⟩, hB.trans hb2⟩⟩
    simpa using hr2
  case done =>
    rintro D ys W hD hS ⟨⟨v, hv, hrow, hnil⟩, hB⟩ hK
    have hc0 := hv.cell
    gi_wp2
    refine ⟨by simp, .inl ⟨_, _, rfl, run_takeDeferred hK, ?_⟩⟩
    exact ⟨_, results_tmp rfl _ _ _, v, ys, rfl, hS, ownsRow_putObj hrow _ hK rfl, hnil, hB.trans (belowK_b (w := w) (Nat.le_refl _) W D _ _ (by omega) hK rfl rfl)⟩
  case stop =>
    rintro D c pre W _ _ h _
    exact h.elim

end Go.Proofs.YtghjhlenkgkelaaGreatDoor
