/- DERIVED. put: an access put into a group. -/
import Derived.Test.YtghjhlenkgkelaaGreatDoorPut
set_option linter.unusedSimpArgs false
set_option linter.unusedVariables false
namespace Go.Proofs.YtghjhlenkgkelaaGreatDoor
open Go.RowKit Go.Shelf Go.Sort

theorem put2_any (g ab cb C : Nat) (y : Grp) (x : Acc) (xs : List Acc) (w : World) (hg : GrpAt w g y) (hM : MemAt w g y.mem) (hin : ∀ i ∈ y.mem, i < xs.length) (ha : AccAt w ab 0 x) (hC : w.cell? ⟨cb, 0, none⟩ = some (.pointer (some ⟨C, 0, none⟩))) (hT : TrAt w C xs) :
    Calls Tryz.prog 54 #[.pointer (some ⟨g, 0, none⟩), .pointer (some ⟨ab, 0, none⟩), .pointer (some ⟨cb, 0, none⟩)] w fun e w' => e = .returned (.bool (alikeB y x && (y.kind != x.kind && y.mem.any (hitB xs x.place)))) ∧ Below w.heap.size w w' := by
  have hcall := fun d os => alike_any g y x (grow (redrawn w d) os) (hg.below (below_regrown w d os))
  have hcall2 := fun d os => touches_any g C xs y.mem x.place (grow (redrawn w d) os) (hT.below (below_regrown w d os)) (hM.below (below_regrown w d os)) hin
  obtain ⟨g0, g1, g2, g3⟩ := hg
  obtain ⟨a0, a1, a2, a3, a4, a5, a6⟩ := ha
  simp only [Nat.zero_add] at a1 a2 a3 a4 a5 a6
  have b1 := cell_regrown g1
  have bc := cell_regrown hC
  have e0 := cell_regrown a0
  have e1 := cell_regrown a1
  have e2 := cell_regrown a2
  have e3 := cell_regrown a3
  have e4 := cell_regrown a4
  have e5 := cell_regrown a5
  have e6 := cell_regrown a6
  have hpl : x.place = ⟨x.p0, x.p1, x.p2⟩ := rfl
  rw [hpl] at hcall2 ⊢
  clear hT hM hin hpl
  generalize y.mem.any (hitB xs ⟨x.p0, x.p1, x.p2⟩) = z at *
  generalize alikeB y x = q at *
  go_enter Tryz.func54, Tryz.ntmps54
  go_wp2
  refine wp_region_quiet_below (by kernel_rfl) (by kernel_rfl) ?_
  repeat (any_goals (first | go_big_quiet_step ((first | (go_at_call 55; exact Calls.regrown_of (hcall _ _)) | (go_at_call 56; exact Calls.regrown_of (hcall2 _ _)))) | quiet_step ((first | (go_at_call 55; exact Calls.regrown_of (hcall _ _)) | (go_at_call 56; exact Calls.regrown_of (hcall2 _ _)))) | (refine wpQuiet_step (fun K hK => ?_); go_simp; split <;> (refine hK _ ?_; clear hK K))))
  all_goals (refine wpQuiet_nil ?_; intro _ hw'; obtain ⟨⟨dq, osq⟩, hw''⟩ := hw'; subst hw'')
  all_goals go_wp2
  all_goals go_ret
  all_goals refine ⟨ret_bool ?_, below_regrown w dq osq⟩
  all_goals simp_all

theorem grown_grp {w W : World} {B C : Nat} {T : Value} {gs : List (Nat × Grp)} {op : List Nat} {va vo : Value} {mv : Nat → Value} (hc : Coll w B C T gs op va vo mv) (hg : w.grownBy W vo.ownBlock) {g : Nat} (h : g ∈ op) : GrpAt W g (grpOf gs g) ∧ (∃ p ∈ gs, p.1 = g ∧ grpOf gs g = p.2) := by
  obtain ⟨x, hx⟩ := hc.sub g h
  have hk := (hc.grp _ hx).kept hg (own_blk_ne hc.opn (hc.grp _ hx) (by decide))
  rw [grpOf_mem hc.nodup hx]
  exact ⟨⟨hk.cell 0, hk.cell 1, hk.cell 2, hk.cell 3⟩, _, hx, rfl, rfl⟩
theorem acc_at {w : World} {ab : Nat} {x : Acc} (h : BlkAt w ab 45 x.cells) : AccAt w ab 0 x :=
  ⟨h.cell 0, h.cell 1, h.cell 2, h.cell 3, h.cell 4, h.cell 5, h.cell 6⟩

section
variable {w : World} {B C : Nat} {A : Option Addr} {n c : Nat} {gs : List (Nat × Grp)} {op : List Nat} {va vo : Value} {mv : Nat → Value} {xs : List Acc}
def p1 (gs : List (Nat × Grp)) (x : Acc) (g : Nat) : Bool := (grpOf gs g).task == x.task
def p2 (gs : List (Nat × Grp)) (xs : List Acc) (x : Acc) (g : Nat) : Bool := alikeB (grpOf gs g) x && ((grpOf gs g).kind != x.kind && (grpOf gs g).mem.any (hitB xs x.place))
def p3 (gs : List (Nat × Grp)) (x : Acc) (g : Nat) : Bool := alikeB (grpOf gs g) x && (grpOf gs g).kind == x.kind

theorem pred1 (hc : Coll w B C (.slice A n c) gs op va vo mv) {ab : Nat} {x : Acc} (hab : BlkAt w ab 45 x.cells) :
    PredB Tryz.prog 52 #[.pointer (some ⟨ab, 0, none⟩)] ptr (p1 gs x) op w vo.ownBlock := fun W hW g hg =>
  put1_any g ab (grpOf gs g) x W (grown_grp hc hW hg).1 (acc_at (hab.kept hW (own_blk_ne hc.opn hab (by decide))))
theorem pred3 (hc : Coll w B C (.slice A n c) gs op va vo mv) {ab : Nat} {x : Acc} (hab : BlkAt w ab 45 x.cells) :
    PredB Tryz.prog 57 #[.pointer (some ⟨ab, 0, none⟩)] ptr (p3 gs x) op w vo.ownBlock := fun W hW g hg =>
  put3_any g ab (grpOf gs g) x W (grown_grp hc hW hg).1 (acc_at (hab.kept hW (own_blk_ne hc.opn hab (by decide))))
theorem pred2 (hc : Coll w B C (.slice A n c) gs op va vo mv) {ab cb : Nat} {x : Acc} (hab : BlkAt w ab 45 x.cells) (hcb : BlkAt w cb 106 #[.pointer (some ⟨C, 0, none⟩)]) (hT : Trace w B A n xs) (hn : n ≤ 5000)
    (hin : ∀ p ∈ gs, p.2.mem.length ≤ 5000 ∧ ∀ i ∈ p.2.mem, i < xs.length) :
    PredB Tryz.prog 54 #[.pointer (some ⟨ab, 0, none⟩), .pointer (some ⟨cb, 0, none⟩)] ptr (p2 gs xs x) op w vo.ownBlock := fun W hW g hg => by
  obtain ⟨hG, p, hp, rfl, he⟩ := grown_grp hc hW hg
  have hBw : B ≤ w.heap.size := by have := hc.lowC; have := hc.blk.lt; omega
  have hbB : Below B w W := grown_below hW hBw (fun k e => (own_lt hc.opn e).1)
  have hk := (hc.grp p hp).kept hW (own_blk_ne hc.opn (hc.grp p hp) (by decide))
  have hm := (hc.mem p hp).kept hW (own_own_ne (hc.mem p hp) hc.opn (by decide))
  obtain ⟨A', c', hv, _, _, _⟩ := own_slice hm
  have hM : MemAt W p.1 p.2.mem := ⟨A', p.2.mem.length, c', by have := hk.cell 4; simpa [gcells, hv] using this, sl_own (hv ▸ hm), (hin p hp).1⟩
  have hTW := hT.below hbB (Nat.le_refl _)
  have hTr : TrAt W C xs := ⟨A, n, c, (hc.blk.kept hW (own_blk_ne hc.opn hc.blk (by decide))).cell 0, ⟨hTW.len, fun i y hy => by obtain ⟨b, o, e, hl, hcc⟩ := hTW.at_ i y hy; exact ⟨b, o, e, by have := hbB.size; omega, hcc⟩⟩, hn⟩
  have := put2_any p.1 ab cb C (grpOf gs p.1) x xs W hG (by rw [he]; exact hM) (by rw [he]; exact (hin p hp).2) (acc_at (hab.kept hW (own_blk_ne hc.opn hab (by decide)))) ((hcb.kept hW (own_blk_ne hc.opn hcb (by decide))).cell 0) hTr
  exact this
end

theorem below_fin {B : Nat} {w W2 w3 : World} {S : List (Option Nat)} (h : Below w.heap.size w W2) (ha : Asd W2 w3 S) (hS : ∀ k, some k ∈ S → B ≤ k) (hB : B ≤ w.heap.size) : Below B w w3 :=
  (h.mono hB).trans (ha.below (by have := h.size; omega) hS)
def addMem (gs : List (Nat × Grp)) (g i : Nat) : List (Nat × Grp) := gs.map (fun p => if p.1 = g then (g, { p.2 with mem := p.2.mem ++ [i] }) else p)
def putN (xs : List Acc) (i : Nat) (x : Acc) (g0 : Nat) (gs : List (Nat × Grp)) (op : List Nat) : List (Nat × Grp) × List Nat :=
  if x.kind ≠ 1 ∧ x.kind ≠ 2 then
    if x.frm = x.at' then (gs, op.filter (fun g => !p1 gs x g)) else (gs ++ [(g0, newG x i)], op.filter (fun g => !p1 gs x g))
  else
    if x.frm = x.at' then (gs, op.filter (fun g => !p2 gs xs x g)) else
    match (op.filter (fun g => !p2 gs xs x g)).find? (p3 gs x) with
    | some g => if (grpOf gs g).mem.length < 64 then (addMem gs g i, op.filter (fun g => !p2 gs xs x g)) else (gs ++ [(g0, newG x i)], (op.filter (fun g => !p2 gs xs x g)).filter (fun g => !p3 gs x g) ++ [g0])
    | none => (gs ++ [(g0, newG x i)], (op.filter (fun g => !p2 gs xs x g)).filter (fun g => !p3 gs x g) ++ [g0])

set_option maxRecDepth 100000 in
set_option maxHeartbeats 1000000 in
theorem put_sync (w : World) (B C i : Nat) (A : Option Addr) (n c : Nat) (xs : List Acc) (x : Acc) (gs : List (Nat × Grp)) (op : List Nat) (va vo : Value) (mv : Nat → Value) (hc : Coll w B C (.slice A n c) gs op va vo mv) (hT : Trace w B A n xs) (hx : xs[i]? = some x) (hn : n ≤ 5000) (hgs : gs.length ≤ 5000) (hop : op.length ≤ 5000)
    (hk : x.kind ≠ 1 ∧ x.kind ≠ 2) :
    Calls Tryz.prog 40 #[.pointer (some ⟨C, 0, none⟩), .int .i64 i] w fun e w' => e = .returned (.tuple #[]) ∧ ∃ g0 va' vo' mv', Coll w' B C (.slice A n c) (putN xs i x g0 gs op).1 (putN xs i x g0 gs op).2 va' vo' mv' ∧ (∀ p ∈ gs, p.1 ≠ g0) ∧ Below B w w' := by
  have hBw : B ≤ w.heap.size := by have := hc.lowC; have := hc.blk.lt; omega
  have hilt : i < n := by rw [hT.len]; exact (List.getElem?_eq_some_iff.1 hx).1
  have h0 : w.cell? ⟨C, 0, none⟩ = some (.slice A n c) := hc.blk.cell 0
  have hCl := hc.blk.lt
  obtain ⟨b, o, rfl, hb, hcs⟩ := hT.at_ i x hx
  obtain ⟨c0, c1, c2, c3, c4, c5, c6⟩ := hcs
  have hbw : b < w.heap.size := by omega
  have hC2 := (hc.alloc (.cells #[.pointer (some ⟨C, 0, none⟩)] 106)).alloc (.cells x.cells 45)
  have hab : BlkAt ((w.alloc (.cells #[.pointer (some ⟨C, 0, none⟩)] 106)).alloc (.cells x.cells 45)) (w.heap.size + 1) 45 x.cells := by
    have := BlkAt.new (w.alloc (.cells #[.pointer (some ⟨C, 0, none⟩)] 106)) 45 x.cells
    simpa using this
  have hcb := (BlkAt.new w 106 #[.pointer (some ⟨C, 0, none⟩)]).alloc (.cells x.cells 45)
  have hb2 : Below w.heap.size w ((w.alloc (.cells #[.pointer (some ⟨C, 0, none⟩)] 106)).alloc (.cells x.cells 45)) := ((Below.refl _ w).alloc (Nat.le_refl _) _).alloc (by simp) _
  have hcl := close_any 52 #[.pointer (some ⟨w.heap.size + 1, 0, none⟩)] (enters_of Tryz.func52 (by kernel_rfl) rfl) (p1 gs x) _ B C _ gs op va vo mv hC2 (by omega) (pred1 hC2 hab)
  have HN1 : Hid (some (w.heap.size + 1) ∉ [vo.ownBlock, some C]) := Lib.hid (by simp only [List.mem_cons, List.not_mem_nil, or_false, not_or]; exact ⟨own_blk_ne hC2.opn hab (by decide), fun e => blk_blk_ne hab hC2.blk (by decide) (Option.some.inj e)⟩)
  have HN2 : Hid (some w.heap.size ∉ [vo.ownBlock, some C]) := Lib.hid (by simp only [List.mem_cons, List.not_mem_nil, or_false, not_or]; exact ⟨own_blk_ne hC2.opn hcb (by decide), fun e => blk_blk_ne hcb hC2.blk (by decide) (Option.some.inj e)⟩)
  have HAB := Lib.hid hab
  have HCB := Lib.hid hcb
  have HT := Lib.hid hT
  have HX := Lib.hid hx
  have HB2 := Lib.hid hb2
  have HC := Lib.hid hc
  obtain ⟨hk1, hk2⟩ := hk
  have hk1' : (x.kind != 1) = true := by simpa using hk1
  have hk2' : (x.kind != 2) = true := by simpa using hk2
  have HK := Lib.hid (And.intro hk1 hk2)
  have HLo : Hid (∀ k, some k ∈ [vo.ownBlock, some C] → B ≤ k) := Lib.hid (fun k hk => by
    simp only [List.mem_cons, List.not_mem_nil, or_false] at hk
    rcases hk with e | e
    · exact (own_lt hc.opn e.symm).1
    · rw [Option.some.inj e]; exact hc.lowC)
  clear hab hcb hT hx hb2 hC2 hk1 hk2 hc
  unfold Acc.cells at hcl
  by_cases hre0 : x.frm = x.at'
  · have hre : (x.frm != x.at') = false := by simpa using hre0
    have hre2 : (x.frm == x.at') = true := by simpa using hre0
    have HRE := Lib.hid hre0
    clear hre0
    go_enter Tryz.func40, Tryz.ntmps40
    go_wp2_with (first
      | (go_at_call 51
         refine hcl.mono ?_
         rintro e w3 ⟨rfl, vo', hc3, hob3, ha3⟩
         clear hcl
         have hab3 := HAB.out.asd ha3 HN1.out
         obtain ⟨d0, d1, d2, d3, d4, d5, d6⟩ := acc_at hab3
         simp only [Nat.zero_add] at d1 d2 d3 d4 d5 d6
         have hcb3 := (HCB.out.asd ha3 HN2.out).cell 0
         have HC3 := Lib.hid hc3
         have HA3 := Lib.hid ha3
         clear hc3 ha3 hab3)
      | (go_at_call 27; go_in))
    refine bodyPost_ret (results_none rfl _ _ _) rfl ?_
    have e : putN xs i x w.heap.size gs op = (gs, op.filter (fun g => !p1 gs x g)) := by unfold putN; rw [if_pos HK.out, if_pos HRE.out]
    refine ⟨rfl, w.heap.size, va, vo', mv, ?_, fun p hp e => by have := (HC.out.grp p hp).lt; omega, ?_⟩
    · rw [e]; exact HC3.out.alloc _
    · have := below_fin HB2.out HA3.out HLo.out hBw
      exact this.alloc (by have := this.size; omega) _
  · have hre : (x.frm != x.at') = true := by simpa using hre0
    have hre2 : (x.frm == x.at') = false := by simpa using hre0
    have HRE := Lib.hid hre0
    have hlen : gs.length ≤ 5000 := hgs
    clear hre0
    go_enter Tryz.func40, Tryz.ntmps40
    go_wp2_with (first
      | (go_at_call 51
         refine hcl.mono ?_
         rintro e w3 ⟨rfl, vo', hc3, hob3, ha3⟩
         clear hcl
         have hab3 := HAB.out.asd ha3 HN1.out
         obtain ⟨d0, d1, d2, d3, d4, d5, d6⟩ := acc_at hab3
         simp only [Nat.zero_add] at d1 d2 d3 d4 d5 d6
         have hcb3 : w3.cell? ⟨w.heap.size, 0, none⟩ = some (.pointer (some ⟨C, 0, none⟩)) := (HCB.out.asd ha3 HN2.out).cell 0
         have hcb4 := fun o => cell_alloc o hcb3
         have HB3 : Hid (Below B w w3) := Lib.hid (below_fin HB2.out ha3 HLo.out hBw)
         have HC3 := Lib.hid hc3
         clear hc3 ha3 hab3)
      | (go_at_call 27; go_in)
      | (go_at_call 53
         refine (begin_any2 _ B C i _ n c xs x gs _ va vo' mv (HC3.out.alloc _) (HT.out.below (HB3.out.alloc (by have := HB3.out.size; omega) _) (Nat.le_refl _)) HX.out hn hlen).mono ?_
         rintro e w4 ⟨g0, va', mv', rfl, hg0, hc5, hb5⟩
         have HC5 := Lib.hid hc5
         have HB5 := Lib.hid hb5
         clear hc5 hb5))
    refine bodyPost_ret (results_none rfl _ _ _) rfl ?_
    have e : putN xs i x g0 gs op = (gs ++ [(g0, newG x i)], op.filter (fun g => !p1 gs x g)) := by unfold putN; rw [if_pos HK.out, if_neg HRE.out]
    have hsz := HB3.out.size
    refine ⟨rfl, g0, va', vo', mv', ?_, fun p hp e => by have := (HC3.out.grp p hp).lt; simp at hg0; omega, ?_⟩
    · rw [e]; exact HC5.out
    · exact (HB3.out.alloc (by omega) _).trans HB5.out

set_option maxRecDepth 100000 in
set_option maxHeartbeats 2000000 in
theorem put_local (w : World) (B C i : Nat) (A : Option Addr) (n c : Nat) (xs : List Acc) (x : Acc) (gs : List (Nat × Grp)) (op : List Nat) (va vo : Value) (mv : Nat → Value) (hc : Coll w B C (.slice A n c) gs op va vo mv) (hT : Trace w B A n xs) (hx : xs[i]? = some x) (hn : n ≤ 5000) (hgs : gs.length ≤ 5000) (hop : op.length ≤ 5000)
    (hin : ∀ p ∈ gs, p.2.mem.length ≤ 5000 ∧ ∀ i ∈ p.2.mem, i < xs.length) (hk : x.kind = 1 ∨ x.kind = 2) (hre0 : x.frm = x.at') :
    Calls Tryz.prog 40 #[.pointer (some ⟨C, 0, none⟩), .int .i64 i] w fun e w' => e = .returned (.tuple #[]) ∧ ∃ g0 va' vo' mv', Coll w' B C (.slice A n c) (putN xs i x g0 gs op).1 (putN xs i x g0 gs op).2 va' vo' mv' ∧ (∀ p ∈ gs, p.1 ≠ g0) ∧ Below B w w' := by
  have hBw : B ≤ w.heap.size := by have := hc.lowC; have := hc.blk.lt; omega
  have hilt : i < n := by rw [hT.len]; exact (List.getElem?_eq_some_iff.1 hx).1
  have h0 : w.cell? ⟨C, 0, none⟩ = some (.slice A n c) := hc.blk.cell 0
  have hCl := hc.blk.lt
  obtain ⟨b, o, rfl, hb, hcs⟩ := hT.at_ i x hx
  obtain ⟨c0, c1, c2, c3, c4, c5, c6⟩ := hcs
  have hbw : b < w.heap.size := by omega
  have hC2 := (hc.alloc (.cells #[.pointer (some ⟨C, 0, none⟩)] 106)).alloc (.cells x.cells 45)
  have hab : BlkAt ((w.alloc (.cells #[.pointer (some ⟨C, 0, none⟩)] 106)).alloc (.cells x.cells 45)) (w.heap.size + 1) 45 x.cells := by
    have := BlkAt.new (w.alloc (.cells #[.pointer (some ⟨C, 0, none⟩)] 106)) 45 x.cells
    simpa using this
  have hcb := (BlkAt.new w 106 #[.pointer (some ⟨C, 0, none⟩)]).alloc (.cells x.cells 45)
  have hb2 : Below w.heap.size w ((w.alloc (.cells #[.pointer (some ⟨C, 0, none⟩)] 106)).alloc (.cells x.cells 45)) := ((Below.refl _ w).alloc (Nat.le_refl _) _).alloc (by simp) _
  have hcl := close_any 54 #[.pointer (some ⟨w.heap.size + 1, 0, none⟩), .pointer (some ⟨w.heap.size, 0, none⟩)] (enters_of Tryz.func54 (by kernel_rfl) rfl) (p2 gs xs x) _ B C _ gs op va vo mv hC2 (by omega)
    (pred2 hC2 hab hcb (hT.below hb2 hBw) hn hin)
  have HN1 : Hid (some (w.heap.size + 1) ∉ [vo.ownBlock, some C]) := Lib.hid (by simp only [List.mem_cons, List.not_mem_nil, or_false, not_or]; exact ⟨own_blk_ne hC2.opn hab (by decide), fun e => blk_blk_ne hab hC2.blk (by decide) (Option.some.inj e)⟩)
  have HN2 : Hid (some w.heap.size ∉ [vo.ownBlock, some C]) := Lib.hid (by simp only [List.mem_cons, List.not_mem_nil, or_false, not_or]; exact ⟨own_blk_ne hC2.opn hcb (by decide), fun e => blk_blk_ne hcb hC2.blk (by decide) (Option.some.inj e)⟩)
  have HAB := Lib.hid hab
  have HCB := Lib.hid hcb
  have HT := Lib.hid hT
  have HX := Lib.hid hx
  have HB2 := Lib.hid hb2
  have HC := Lib.hid hc
  have HK : Hid (¬ (x.kind ≠ 1 ∧ x.kind ≠ 2)) := Lib.hid (by omega)
  have HLo : Hid (∀ k, some k ∈ [vo.ownBlock, some C] → B ≤ k) := Lib.hid (fun k hk => by
    simp only [List.mem_cons, List.not_mem_nil, or_false] at hk
    rcases hk with e | e
    · exact (own_lt hc.opn e.symm).1
    · rw [Option.some.inj e]; exact hc.lowC)
  have hkk : ((x.kind != 1) = true ∧ (x.kind != 2) = false) ∨ (x.kind != 1) = false := by
    by_cases h1 : x.kind = 1
    · right; simp [h1]
    · left; have h2 : x.kind = 2 := by omega
      simp [h2]
  clear hab hcb hT hx hb2 hC2 hc hin hk
  unfold Acc.cells at hcl
  have hlen : gs.length ≤ 5000 := hgs
  · have hre : (x.frm != x.at') = false := by simpa using hre0
    have hre2 : (x.frm == x.at') = true := by simpa using hre0
    have HRE := Lib.hid hre0
    clear hre0
    rcases hkk with ⟨hk1, hk2⟩ | hk1
    all_goals
      go_enter Tryz.func40, Tryz.ntmps40
      go_wp2_with (first
        | (go_at_call 51
           refine hcl.mono ?_
           rintro e w3 ⟨rfl, vo', hc3, hob3, ha3⟩
           clear hcl
           have hab3 := HAB.out.asd ha3 HN1.out
           obtain ⟨d0, d1, d2, d3, d4, d5, d6⟩ := acc_at hab3
           simp only [Nat.zero_add] at d1 d2 d3 d4 d5 d6
           have HC3 := Lib.hid hc3
           have HA3 := Lib.hid ha3
           clear hc3 ha3 hab3)
        | (go_at_call 27; go_in))
      refine bodyPost_ret (results_none rfl _ _ _) rfl ?_
      have e : putN xs i x w.heap.size gs op = (gs, op.filter (fun g => !p2 gs xs x g)) := by unfold putN; rw [if_neg HK.out, if_pos HRE.out]
      refine ⟨rfl, w.heap.size, va, vo', mv, ?_, fun p hp e => by have := (HC.out.grp p hp).lt; omega, ?_⟩
      · rw [e]; exact HC3.out.alloc _
      · have := below_fin HB2.out HA3.out HLo.out hBw
        exact this.alloc (by have := this.size; omega) _
end Go.Proofs.YtghjhlenkgkelaaGreatDoor
