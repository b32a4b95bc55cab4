/- DERIVED. close, begin: the collector's methods. -/
import Derived.Test.YtghjhlenkgkelaaGreatDoorColl
set_option linter.unusedSimpArgs false
set_option linter.unusedVariables false
namespace Go.Proofs.YtghjhlenkgkelaaGreatDoor
open Go.RowKit Go.Shelf Go.Sort

/-- w' is w with new blocks and writes to blocks of S alone. -/
structure Asd (w w' : World) (S : List (Option Nat)) : Prop where
  os : w'.os = w.os
  tape : w'.tape = w.tape
  output : w'.output = w.output
  size : w.heap.size ≤ w'.heap.size
  block : ∀ k, k < w.heap.size → some k ∉ S → w'.heap[k]? = w.heap[k]?
theorem Asd.refl (w : World) (S : List (Option Nat)) : Asd w w S := ⟨rfl, rfl, rfl, Nat.le_refl _, fun _ _ _ => rfl⟩
theorem Asd.trans {a b c : World} {S : List (Option Nat)} (h : Asd a b S) (k : Asd b c S) : Asd a c S :=
  ⟨k.os.trans h.os, k.tape.trans h.tape, k.output.trans h.output, Nat.le_trans h.size k.size, fun i hi hs => (k.block i (Nat.lt_of_lt_of_le hi h.size) hs).trans (h.block i hi hs)⟩
theorem Asd.of_grown {a b : World} {row : Option Nat} {S : List (Option Nat)} (h : a.grownBy b row) (hs : row ∈ S) : Asd a b S :=
  ⟨h.os, h.tape, h.output, h.size, fun k hk hS => h.block k hk (fun e => hS (e ▸ hs))⟩
theorem Asd.of_below {a b : World} {S : List (Option Nat)} (h : Below a.heap.size a b) : Asd a b S := ⟨h.os, h.tape, h.output, h.size, fun k hk _ => h.block k hk⟩
theorem Asd.more {a b : World} {S S' : List (Option Nat)} (h : Asd a b S) (hs : ∀ x ∈ S, x ∈ S' ∨ (∃ k, x = some k ∧ a.heap.size ≤ k)) : Asd a b S' :=
  ⟨h.os, h.tape, h.output, h.size, fun k hk hS => h.block k hk (fun e => by
    rcases hs _ e with h1 | ⟨j, h1, h2⟩
    · exact hS h1
    · injection h1 with h1; omega)⟩
theorem Asd.below {a b : World} {S : List (Option Nat)} {B : Nat} (h : Asd a b S) (hB : B ≤ a.heap.size) (hs : ∀ k, some k ∈ S → B ≤ k) : Below B a b :=
  ⟨h.os, h.tape, h.output, h.size, fun k hk => h.block k (by omega) (fun e => by have := hs k e; omega)⟩
theorem BlkAt.asd {w w' : World} {S : List (Option Nat)} {g : Nat} {t : TypeId} {cs : Array Value} (h : BlkAt w g t cs) (ha : Asd w w' S) (hg : some g ∉ S) : BlkAt w' g t cs := (ha.block g h.lt hg).trans h

def grpOf (gs : List (Nat × Grp)) (g : Nat) : Grp := (look gs g).getD default
theorem grpOf_mem {gs : List (Nat × Grp)} (hd : (gs.map (·.1)).Nodup) {g : Nat} {x : Grp} (h : (g, x) ∈ gs) : grpOf gs g = x := by
  obtain ⟨R1, v, R2, rfl, h1, h2⟩ := split_at (List.mem_map_of_mem (f := Prod.fst) h) hd
  have e : look (R1 ++ (g, v) :: R2) g = some v := by
    unfold look; rw [List.find?_append, List.find?_eq_none.2 (by simpa using h1)]; simp
  rw [grpOf, e]
  rcases List.mem_append.1 h with h' | h'
  · exact absurd rfl (h1 _ h')
  · rcases List.mem_cons.1 h' with h' | h'
    · injection h' with _ e'; exact e'.symm
    · exact absurd rfl (h2 _ h')

theorem close_any (f : Nat) (cb : Array Value) (eg : ∀ args w, (callFunc f args).run Tryz.prog w = .ok (.enter f args) w) (p : Nat → Bool) (w : World) (B C : Nat) (T : Value) (gs : List (Nat × Grp)) (op : List Nat) (va vo : Value) (mv : Nat → Value) (hc : Coll w B C T gs op va vo mv) (hop : op.length ≤ 1000000) (hp : PredB Tryz.prog f cb ptr p op w vo.ownBlock) :
    Calls Tryz.prog 51 #[.pointer (some ⟨C, 0, none⟩), .func (.func f) #[] cb] w fun e w' => e = .returned (.tuple #[]) ∧ ∃ vo', Coll w' B C T gs (op.filter (fun g => !p g)) va vo' mv ∧ vo'.ownBlock = vo.ownBlock ∧ Asd w w' [vo.ownBlock, some C] := by
  have h2 := hc.blk.cell 2
  have hd := g_delete f cb eg p B vo op w hop hc.opn hp
  have HC := Lib.hid hc
  have hcs := fun w' (hg : w.grownBy w' vo.ownBlock) => hc.blk.kept hg (own_blk_ne hc.opn hc.blk (by decide))
  clear hc hp
  simp only [List.getElem?_toArray, List.getElem?_cons_succ, List.getElem?_cons_zero] at h2
  go_enter Tryz.func51, Tryz.ntmps51
  go_wp2_with (go_at_call 68; refine hd.mono ?_; rintro e w1 ⟨vo', rfl, hrow, hg, hob⟩; have hb1 := hcs w1 hg; have hk1 := hb1.cell 2; have hk2 := hb1.frozen 2; obtain ⟨A', c', rfl, _, _, _⟩ := own_slice hrow)
  go_end0
  refine ⟨rfl, _, HC.out.setOpen hg hrow (.inl hob) (fun g hg' => HC.out.sub g (List.mem_filter.1 hg').1), hob, ?_⟩
  exact (Asd.of_grown hg (by simp)).trans (Asd.of_grown (setCell_grown _ _ _ _) (by simp))

def newG (a : Acc) (i : Nat) : Grp := ⟨a.task, a.kind, a.frm, a.at', [i]⟩
theorem ptr_info : (Tryz.prog.info? 84).map (fun i => (i.zero, i.size, i.bytes)) = some (some (.pointer none), 1, 8) := by kernel_rfl
theorem own_one (w : World) (t : TypeId) (v : Value) : (w.alloc (.cells #[v] t)).ownsRow w.heap.size t 1 (.slice (some ⟨w.heap.size, 0, none⟩) 1 1) 1 [v] :=
  ⟨rfl, .inr ⟨w.heap.size, 1, #[v], rfl, Nat.le_refl _, heap_alloc_new w _, Nat.le_refl _, by unfold maxLen; omega, rfl, rfl⟩⟩

set_option maxRecDepth 100000 in
set_option maxHeartbeats 1000000 in
theorem begin_any (w : World) (B C i : Nat) (A : Option Addr) (n c : Nat) (xs : List Acc) (x : Acc) (gs : List (Nat × Grp)) (op : List Nat) (va vo : Value) (mv : Nat → Value) (hc : Coll w B C (.slice A n c) gs op va vo mv) (hT : Trace w w.heap.size A n xs) (hx : xs[i]? = some x) (hn : n ≤ 5000) (hgs : gs.length ≤ 5000) :
    Calls Tryz.prog 53 #[.pointer (some ⟨C, 0, none⟩), .int .i64 i] w fun e w' => ∃ g0 va' mv', e = .returned (.pointer (some ⟨g0, 0, none⟩)) ∧ w.heap.size ≤ g0 ∧ Coll w' B C (.slice A n c) (gs ++ [(g0, newG x i)]) op va' vo mv' ∧ Asd w w' [va.ownBlock, some C] := by
  obtain ⟨i0, hi, hz0, hz1, hz2⟩ := info_parts ptr_info
  have h0 : w.cell? ⟨C, 0, none⟩ = some (.slice A n c) := hc.blk.cell 0
  have h1 := hc.blk.cell 1
  simp only [List.getElem?_toArray, List.getElem?_cons_succ, List.getElem?_cons_zero] at h1
  have hilt : i < n := by rw [hT.len]; exact (List.getElem?_eq_some_iff.1 hx).1
  obtain ⟨b, o, rfl, hb, hcs⟩ := hT.at_ i x hx
  obtain ⟨c0, c1, c2, c3, c4, c5, c6⟩ := hcs
  have hC : C < w.heap.size := hc.blk.lt
  have hBC := hc.lowC
  have HC := Lib.hid hc
  have hall := hc.all_
  have k1 := fun o1 o2 o3 => cell_alloc o3 (cell_alloc o2 (cell_alloc o1 h1))
  have k2 := fun o1 o2 o3 o4 => cell_alloc o4 (k1 o1 o2 o3)
  clear hc hT hx
  go_enter Tryz.func53, Tryz.ntmps53
  go_wp2_with
    (at_builtin; refine wpList_append_own_at _ rfl _ _ 82 rfl B 84 i0 (.pointer none) 1 8 Tryz.underlying82 hi hz0 hz1 hz2 rfl (by decide) va _ _ rfl ((((hall.alloc _).alloc _).alloc _).alloc _) ⟨w.heap.size + 1 + 1 + 1, 0, none⟩ 1 1 [ptr (w.heap.size + 1 + 1)] rfl rfl (cells_new' _ [ptr (w.heap.size + 1 + 1)] _ _ (by simp)) (by simp [Value.oneCell']) (by unfold maxLen; omega) (by omega) (by simp; omega) ?_; intro va' w1 hrow hgrow _ hob
     have hb1 := ((((HC.out.blk.alloc _).alloc _).alloc _).alloc _).kept hgrow (own_blk_ne HC.out.all_ HC.out.blk (by decide))
     have q1 := hb1.cell 1
     have q2 := hb1.frozen 1
     obtain ⟨A', c', rfl, _, _, _⟩ := own_slice hrow)
  go_ret
  have H4 := (((HC.out.alloc (.cells #[.int .i64 x.task, .int .i64 x.p0, .int .i64 x.p1, .int .i64 x.p2, .int .i64 x.kind, .int .i64 x.frm, .int .i64 x.at'] 45)).alloc (.cells #[.int .i64 i] 3)).alloc (.cells (gcells (newG x i) (.slice (some ⟨w.heap.size + 1, 0, none⟩) 1 1)) 87)).alloc (.cells #[ptr (w.heap.size + 1 + 1)] 84)
  have mlt : ∀ p ∈ gs, ∀ k, (mv p.1).ownBlock = some k → k < w.heap.size := fun p hp k e => (own_lt (HC.out.mem p hp) e).2
  have glt : ∀ p ∈ gs, p.1 < w.heap.size := fun p hp => (HC.out.grp p hp).lt
  have HF := Coll.pushAll H4 (g0 := w.heap.size + 1 + 1) (x := newG x i) (vm := .slice (some ⟨w.heap.size + 1, 0, none⟩) 1 1) ?hb ?hm (by simp [newG]) (by omega) (fun p hp e => by have := glt p hp; omega) (fun p hp e => by have := mlt p hp (w.heap.size + 1) e; omega) hgrow hrow
    (hob.imp id fun e => ⟨_, e, by simp⟩)
  case hb =>
    refine BlkAt.alloc ?_ _
    have := BlkAt.new ((w.alloc (.cells #[.int .i64 x.task, .int .i64 x.p0, .int .i64 x.p1, .int .i64 x.p2, .int .i64 x.kind, .int .i64 x.frm, .int .i64 x.at'] 45)).alloc (.cells #[.int .i64 i] 3)) 87 (gcells (newG x i) (.slice (some ⟨w.heap.size + 1, 0, none⟩) 1 1))
    simpa using this
  case hm =>
    refine World.ownsRow.alloc (World.ownsRow.alloc (own_base (base := w.heap.size + 1) ?_ (by omega)) _) _
    have := own_one (w.alloc (.cells #[.int .i64 x.task, .int .i64 x.p0, .int .i64 x.p1, .int .i64 x.p2, .int .i64 x.kind, .int .i64 x.frm, .int .i64 x.at'] 45)) 3 (.int .i64 i)
    simpa [newG, intV] using this
  refine ⟨w.heap.size + 1 + 1, _, _, ?_, by omega, HF, ?_⟩
  · rfl
  have A4 : Asd w ((((w.alloc (.cells #[.int .i64 x.task, .int .i64 x.p0, .int .i64 x.p1, .int .i64 x.p2, .int .i64 x.kind, .int .i64 x.frm, .int .i64 x.at'] 45)).alloc (.cells #[.int .i64 i] 3)).alloc (.cells (gcells (newG x i) (.slice (some ⟨w.heap.size + 1, 0, none⟩) 1 1)) 87)).alloc (.cells #[ptr (w.heap.size + 1 + 1)] 84)) [va.ownBlock, some C] :=
    Asd.of_below (((((Below.refl _ w).alloc (Nat.le_refl _) _).alloc (by simp) _).alloc (by simp; omega) _).alloc (by simp; omega) _)
  exact (A4.trans (Asd.of_grown hgrow (by simp))).trans (Asd.of_grown (setCell_grown _ _ _ _) (by simp))

theorem Trace.mono {w : World} {B B' n : Nat} {A : Option Addr} {xs : List Acc} (h : Trace w B A n xs) (hB : B ≤ B') : Trace w B' A n xs :=
  ⟨h.len, fun i x hx => by obtain ⟨b, o, e, hl, hc⟩ := h.at_ i x hx; exact ⟨b, o, e, by omega, hc⟩⟩
theorem begin_any2 (w : World) (B C i : Nat) (A : Option Addr) (n c : Nat) (xs : List Acc) (x : Acc) (gs : List (Nat × Grp)) (op : List Nat) (va vo : Value) (mv : Nat → Value) (hc : Coll w B C (.slice A n c) gs op va vo mv) (hT : Trace w B A n xs) (hx : xs[i]? = some x) (hn : n ≤ 5000) (hgs : gs.length ≤ 5000) :
    Calls Tryz.prog 53 #[.pointer (some ⟨C, 0, none⟩), .int .i64 i] w fun e w' => ∃ g0 va' mv', e = .returned (.pointer (some ⟨g0, 0, none⟩)) ∧ w.heap.size ≤ g0 ∧ Coll w' B C (.slice A n c) (gs ++ [(g0, newG x i)]) op va' vo mv' ∧ Below B w w' := by
  have hBw : B ≤ w.heap.size := by have := hc.lowC; have := hc.blk.lt; omega
  refine (begin_any w B C i A n c xs x gs op va vo mv hc (hT.mono hBw) hx hn hgs).mono ?_
  rintro e w' ⟨g0, va', mv', rfl, h1, h2, h3⟩
  refine ⟨g0, va', mv', rfl, h1, h2, h3.below hBw fun k hk => ?_⟩
  simp only [List.mem_cons, List.not_mem_nil, or_false] at hk
  rcases hk with e | e
  · exact (own_lt hc.all_ e.symm).1
  · rw [Option.some.inj e]; exact hc.lowC
end Go.Proofs.YtghjhlenkgkelaaGreatDoor
