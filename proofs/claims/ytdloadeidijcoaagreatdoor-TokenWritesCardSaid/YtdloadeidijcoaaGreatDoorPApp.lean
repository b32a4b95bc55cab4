/- DERIVED. slices.Collect of the scanner's tokens. -/
import Derived.Test.YtdloadeidijcoaaGreatDoorPSeq
import Derived.Test.YtdloadeidijcoaaGreatDoorRScan
import Derived.RangeFuncGives
import Derived.RangeFuncNested
import Derived.RangeFuncBound
import Derived.RangeFuncCalls
import Derived.RangeFuncLeaves
import Derived.RangeFuncBox
import Derived.Maps.AppendAt
import Derived.WalkKit
set_option linter.unusedSimpArgs false
set_option linter.unusedVariables false
namespace Go.Proofs.YtdloadeidijcoaaGreatDoor
open Go.RowKit Go.Shelf Go
attribute [local go_sem] Oper.semAt_some

theorem ptok_info : (Tryz.prog.info? PT).map (fun i => (i.zero, i.size, i.bytes)) = some (some (.agg #[.int .i64 0, .string ⟨#[]⟩, .int .i64 0, .int .i64 0]), 4, 40) := by kernel_rfl
abbrev ST : TypeId := 35
theorem ownFrom_grown {β : Type} {w : World} {X B : Nat} (hB : w.heap.size ≤ B) : OwnFrom B (fun (_ : β) W => w.grownBy W (some X)) :=
  fun _ _ _ _ hs hg hr => World.grownBy.andThen hs hg (fun j e => .inl (Nat.le_trans hB (hr j e).1))
theorem grown_low {a w w' : World} {row : Option Nat} (h : a.grownBy w row) (hb : Below a.heap.size w w') : a.grownBy w' row :=
  ⟨hb.os.trans h.os, hb.tape.trans h.tape, hb.output.trans h.output, Nat.le_trans h.size hb.size, fun k hk hne => (hb.block k hk).trans (h.block k hk hne)⟩
theorem StartX.alloc {t : List UInt8} {X Bx K0 : Nat} {w : World} (h : StartX t X Bx K0 w) (o : Obj) : StartX t X Bx K0 (w.alloc o) :=
  have hb := (Below.refl w.heap.size w).alloc (Nat.le_refl _) o
  ⟨h.1.below hb, BlkAt.below h.2.1 hb (BlkAt.lt h.2.1), h.2.2.1.below hb, Nat.le_trans h.2.2.2 hb.size⟩
theorem DoneX.other {t : List UInt8} {X : Nat} {xs : List Tok} {W : World} {l : Nat} {o o' : Obj} (h : DoneX t X xs W) (hl : W.heap[l]? = some o) (ho : o.isCells = false) : DoneX t X xs (W.putObj l o') := by
  obtain ⟨k, e, hs, hr⟩ := h
  refine ⟨k, e, ?_, hr⟩
  have hne : X ≠ l := by rintro rfl; unfold ScAt BlkAt at hs; rw [hl] at hs; cases hs; cases ho
  exact (World.putObj_heap_other (by omega)).trans hs
set_option maxRecDepth 100000 in
set_option maxHeartbeats 8000000 in
theorem pappend (n : Nat) (hn : 3 ≤ n) (t : List UInt8) (X Bx K0 : Nat) (ht : t.length ≤ 1000000) (hX : Off X) (hXK : X < K0) (hBK : Bx < K0) (hXB : X ≠ Bx) (hVL : VLow K0) (w : World) (hK0 : K0 ≤ w.heap.size) (h : StartX t X Bx K0 w) :
    CallsIn Fence.wide n Tryz.prog 45 #[.slice none 0 0, .func (.func 46) #[] #[.pointer (some ⟨Bx, 0, none⟩)]] w fun e w' => ∃ (v : Value) (ss : List Tok), e = .returned v ∧ DoneX t X ss w' ∧ w'.ownsRow w.heap.size PT 4 v ss.length (ss.flatMap encTL) ∧ w.grownBy w' (some X) := by
  have h1 : 1 ≤ n := by omega
  obtain ⟨i0, hi, hz0, hz1, hz2⟩ := info_parts ptok_info
  have hseq := all_seq (n - 1) (by omega) t X Bx K0 ht hX hXK hBK hXB hVL
  refine callsIn_of_wp_marks Tryz.func45 rfl trivial ?_ rfl
  simp only [Tryz.ntmps45, List.size_toArray, List.length_cons, List.length_nil, Nat.reduceAdd, Nat.reduceSub, Array.replicate_succ, Array.replicate_zero, List.push_toArray, List.append_toArray, List.nil_append, List.cons_append]
  gi_wp2
  obtain ⟨W0, hW0⟩ : ∃ W0, w.alloc (.cells #[.slice none 0 0] ST) = W0 := ⟨_, rfl⟩
  have hs0 : W0.heap.size = w.heap.size + 1 := by rw [← hW0]; simp
  have hbx0 : Boxed W0 w.heap.size ST (.slice none 0 0) := by rw [← hW0]; exact Boxed.new w _ _
  have hg0 : w.grownBy W0 (some X) := by rw [← hW0]; exact grown_of_below ((Below.refl _ w).alloc (Nat.le_refl _) _)
  have hst0 : StartX t X Bx K0 W0 := by rw [← hW0]; exact h.alloc _
  have eg : ∀ args w, (callFunc 46 args).run Tryz.prog w = .ok (.enter 46 args) w := enters_of Tryz.func46 (by kernel_rfl) rfl
  rw [hW0]
  refine wpIn_rangeX (St := StX X) (Kp := KpX K0) (S := DoneX t X) (N := t.length) (W0 := StartX t X Bx K0) (encs := fun x : Tok => #[encT x]) rfl h1 (gf := 46) (lb := #[.pointer (some ⟨Bx, 0, none⟩)]) rfl trivial eg hseq
    (fun A B hs k o hk ho => hs.other k o hk ho) (fun h h' => h.trans h') (fun W l o o' hl hlo _ _ => ⟨by simp, fun k hk => World.putObj_heap_other (by omega)⟩) (fun _ => rfl)
    (fun pre W => (∃ v, Boxed W w.heap.size ST v ∧ W.ownsRow w.heap.size PT 4 v pre.length (pre.flatMap encTL) ∧ (v = .slice none 0 0 ↔ pre = [])) ∧ w.grownBy W (some X))
    (OwnFrom.and (Own.from (holdsRow_own w.heap.size w.heap.size ST PT 4 (fun pre => pre.length) (fun pre => pre.flatMap encTL) (fun pre v => (v = .slice none 0 0 ↔ pre = []))) _) (ownFrom_grown (by omega)))
    ?hIs ⟨⟨_, hbx0, World.ownsRow_nil _ _ _ _, by simp⟩, hg0⟩ hst0 (fun W o hw => hw.alloc o) (fun xs W l o o' hl hlo ho hd => hd.other hlo ho)
    (fun x a' W => ∃ Bt, w.heap.size < Bt ∧ BlkAt W Bt PT (encTL x).toArray ∧ a' = { tmps := #[.slice none 0 0, .func (.func 46) #[] #[.pointer (some ⟨Bx, 0, none⟩)], .pointer (some ⟨w.heap.size, 0, none⟩), undef, .slice none 0 0, .pointer (some ⟨Bt, 0, none⟩), .func (.func 46) #[] #[.pointer (some ⟨Bx, 0, none⟩)], encT x, undef, undef, undef, undef, undef], defers := [] })
    ?hAx ?assign ?body ?done
  case hIs =>
    rintro s A B ⟨⟨v, hv, hr, hnil⟩, hg⟩ hst
    obtain ⟨cs, hcs⟩ := hst.2
    refine ⟨⟨v, hv.kept hst.1 (fun e => ?_), hr.kept hst.1 (.inr (Ne.symm (own_blk_ne hr hcs (by decide)))), hnil⟩, grown_trans hg hst.1⟩
    cases e
    unfold Boxed at hv
    unfold BlkAt at hcs
    rw [hv] at hcs
    cases hcs
  case hAx =>
    intro x a' s W W' row h hg hr
    obtain ⟨Bt, h1, h2, h3⟩ := h
    exact ⟨Bt, h1, (blkAt_own Bt PT (fun _ : Unit => (encTL x).toArray)).from W0.heap.size () W W' row h2 hg hr, h3⟩
  case assign =>
    rintro l pre x W K hi0 hK
    have hG := hi0.2
    unfold encT at hK ⊢
    unfold strV at hK ⊢
    gi_wp2
    refine hK _ _ ((KeepsOthers.alloc _ _).from _) ⟨by simp, fun k hk => ?_⟩ ⟨by obtain ⟨v, a, b, c⟩ := hi0.1; exact ⟨v, a.alloc _, b.alloc _, c⟩, grown_below hG ((Below.refl _ W).alloc (Nat.le_refl _) _)⟩ ⟨W.heap.size, by obtain ⟨v, a, b, c⟩ := hi0.1; exact a.lt, BlkAt.new W _ _, rfl⟩
    exact Below.heap_alloc W _ k (by have := hG.size; omega)
  case body =>
    rintro l pre x a' W hl ⟨r, hr⟩ ⟨⟨v, hv, hrow, hnil⟩, hG⟩ ⟨Bt, hBt, hbk, rfl⟩ hlt
    have hb0 := hbk.cell 0
    have hb1 := hbk.cell 1
    have hb2 := hbk.cell 2
    have hb3 := hbk.cell 3
    simp only [encTL, strV, List.getElem?_toArray, List.getElem?_cons_succ, List.getElem?_cons_zero] at hb0 hb1 hb2 hb3
    have hc0 := hv.cell
    have hf0 := hv.frozen
    unfold encT strV
    have hsz := hG.size
    gi_wp2_with (first
      | (gi_at_builtin; refine wpListIn_append_own _ rfl _ _ ST rfl w.heap.size PT i0 (.agg #[.int .i64 0, .string ⟨#[]⟩, .int .i64 0, .int .i64 0]) 4 40 Tryz.underlying35 hi hz0 hz1 hz2 rfl (by decide) _ _ _ rfl (hrow.alloc _) ⟨W.heap.size, 0, none⟩ 1 1 (encTL x) rfl rfl (cells_new _ (encTL x) _) (tok_one x) (by unfold maxLen; omega) (by omega) (by simp; omega) ?_
         intro v' w1 hown' hgrow _
         obtain ⟨g', cap', rfl⟩ := ownsRow_succ hown'
         obtain ⟨hv1, hv2, hr2, hk2, hb2⟩ := hv.appended (by decide) hrow (by omega) (Nat.le_refl _) hown' hgrow
         have hc1 := hv1.cell
         have hf1 := hv1.frozen)
      | fail)
    refine ⟨hk2.from _, ⟨hb2.size, fun k hk => hb2.block k (by omega)⟩, ⟨⟨_, hv2, ?_, by simp⟩, grown_low hG hb2⟩⟩
    simpa using hr2
  case done =>
    rintro D ys W hD hS ⟨⟨v, hv, hrow, hnil⟩, hG⟩ hK
    have hc0 := hv.cell
    gi_wp2
    refine ⟨by simp, .inl ⟨_, _, rfl, run_takeDeferred hK, ?_⟩⟩
    refine ⟨_, results_tmp rfl _ _ _, v, ys, rfl, hS.other hK rfl, ownsRow_putObj hrow _ hK rfl, ?_⟩
    exact World.grownBy.andThen hG (grownBy_putObj' W D _) (fun j e => by cases e; exact .inl (by omega))
end Go.Proofs.YtdloadeidijcoaaGreatDoor
