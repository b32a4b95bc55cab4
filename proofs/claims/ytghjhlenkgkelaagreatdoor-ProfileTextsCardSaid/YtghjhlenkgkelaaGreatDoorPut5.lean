/- DERIVED. put: a remote read or write for which the open group is full. -/
import Derived.Test.YtghjhlenkgkelaaGreatDoorHeld
set_option linter.unusedSimpArgs false
set_option linter.unusedVariables false
namespace Go.Proofs.YtghjhlenkgkelaaGreatDoor
open Go.RowKit Go.Shelf Go.Sort
set_option maxRecDepth 100000 in
set_option maxHeartbeats 20000000 in
theorem put_remote_full1 (w : World) (B C i : Nat) (A : Option Addr) (n c : Nat) (xs : List Acc) (x : Acc) (gs : List (Nat × Grp)) (op : List Nat) (va vo : Value) (mv : Nat → Value) (hc : Coll w B C (.slice A n c) gs op va vo mv) (hT : Trace w B A n xs) (hx : xs[i]? = some x) (hn : n ≤ 5000) (hgs : gs.length ≤ 5000) (hop : op.length ≤ 5000)
    (hin : ∀ p ∈ gs, p.2.mem.length ≤ 5000 ∧ ∀ i ∈ p.2.mem, i < xs.length) (hk : x.kind = 1) (hre0 : x.frm ≠ x.at') (k g : Nat) (hkg : (op.filter (fun g => !p2 gs xs x g)).findIdx? (p3 gs x) = some k) (hkg2 : (op.filter (fun g => !p2 gs xs x g))[k]? = some g) (hm64 : 64 ≤ (grpOf gs g).mem.length) :
    Calls Tryz.prog 40 #[.pointer (some ⟨C, 0, none⟩), .int .i64 i] w fun e w' => e = .returned (.tuple #[]) ∧ ∃ g0 va' vo' mv', Coll w' B C (.slice A n c) (putN xs i x g0 gs op).1 (putN xs i x g0 gs op).2 va' vo' mv' ∧ (∀ p ∈ gs, p.1 ≠ g0) ∧ Below B w w' := by
  have hBw : B ≤ w.heap.size := by have := hc.lowC; have := hc.blk.lt; omega
  have hilt : i < n := by rw [hT.len]; exact (List.getElem?_eq_some_iff.1 hx).1
  have h0 : w.cell? ⟨C, 0, none⟩ = some (.slice A n c) := hc.blk.cell 0
  have hCl := hc.blk.lt
  obtain ⟨b, o, rfl, hb, hcs⟩ := hT.at_ i x hx
  obtain ⟨c0, c1, c2, c3, c4, c5, c6⟩ := hcs
  have hbw : b < w.heap.size := by omega
  have hC2 := (hc.alloc (.cells #[.pointer (some ⟨C, 0, none⟩)] 106)).alloc (.cells x.cells 45)
  have hab : BlkAt ((w.alloc (.cells #[.pointer (some ⟨C, 0, none⟩)] 106)).alloc (.cells x.cells 45)) (w.heap.size + 1) 45 x.cells := by
    have := BlkAt.new (w.alloc (.cells #[.pointer (some ⟨C, 0, none⟩)] 106)) 45 x.cells
    simpa using this
  have hcb := (BlkAt.new w 106 #[.pointer (some ⟨C, 0, none⟩)]).alloc (.cells x.cells 45)
  have hb2 : Below w.heap.size w ((w.alloc (.cells #[.pointer (some ⟨C, 0, none⟩)] 106)).alloc (.cells x.cells 45)) := ((Below.refl _ w).alloc (Nat.le_refl _) _).alloc (by simp) _
  have hcl := close_any 54 #[.pointer (some ⟨w.heap.size + 1, 0, none⟩), .pointer (some ⟨w.heap.size, 0, none⟩)] (enters_of Tryz.func54 (by kernel_rfl) rfl) (p2 gs xs x) _ B C _ gs op va vo mv hC2 (by omega)
    (pred2 hC2 hab hcb (hT.below hb2 hBw) hn hin)
  have HN1 : Hid (some (w.heap.size + 1) ∉ [vo.ownBlock, some C]) := Lib.hid (by simp only [List.mem_cons, List.not_mem_nil, or_false, not_or]; exact ⟨own_blk_ne hC2.opn hab (by decide), fun e => blk_blk_ne hab hC2.blk (by decide) (Option.some.inj e)⟩)
  have HN2 : Hid (some w.heap.size ∉ [vo.ownBlock, some C]) := Lib.hid (by simp only [List.mem_cons, List.not_mem_nil, or_false, not_or]; exact ⟨own_blk_ne hC2.opn hcb (by decide), fun e => blk_blk_ne hcb hC2.blk (by decide) (Option.some.inj e)⟩)
  have HAB := Lib.hid hab
  have HCB := Lib.hid hcb
  have HT := Lib.hid hT
  have HX := Lib.hid hx
  have HB2 := Lib.hid hb2
  have HC := Lib.hid hc
  have HK : Hid (¬ (x.kind ≠ 1 ∧ x.kind ≠ 2)) := Lib.hid (by rw [hk]; decide)
  have HLo : Hid (∀ k, some k ∈ [vo.ownBlock, some C] → B ≤ k) := Lib.hid (fun k hk => by
    simp only [List.mem_cons, List.not_mem_nil, or_false] at hk
    rcases hk with e | e
    · exact (own_lt hc.opn e.symm).1
    · rw [Option.some.inj e]; exact hc.lowC)
  have hk1 : (x.kind != 1) = false := by rw [hk]; rfl
  clear hab hcb hT hx hb2 hC2 hc hin hk
  unfold Acc.cells at hcl
  have hlen : gs.length ≤ 5000 := hgs
  have hre : (x.frm != x.at') = true := by simpa using hre0
  have hre2 : (x.frm == x.at') = false := by simpa using hre0
  have HRE := Lib.hid hre0
  clear hre0
  generalize hop1 : op.filter (fun g => !p2 gs xs x g) = op1 at *
  have hl1 : op1.length ≤ 5000 := by rw [← hop1]; exact Nat.le_trans (List.length_filter_le _ _) hop
  have hi1 : idxI (p3 gs x) op1 = k := by simp [idxI, hkg]
  have hklt : k < op1.length := (List.getElem?_eq_some_iff.1 hkg2).1
  have hgop : g ∈ op1 := List.mem_of_getElem? hkg2
  obtain ⟨y, hgy⟩ := HC.out.sub g (by rw [← hop1] at hgop; exact (List.mem_filter.1 hgop).1)
  have hgeq : grpOf gs g = y := grpOf_mem HC.out.nodup hgy
  rw [hgeq] at hm64
  have HOP := Lib.hid hop1
  have HKG := Lib.hid hkg
  have HKG2 := Lib.hid hkg2
  have HGY := Lib.hid hgy
  have HGE := Lib.hid hgeq
  have HI1 := Lib.hid hi1
  clear hop1 hkg hkg2 hgy hgeq hgop hi1
  have hmm := HC.out.mem _ HGY.out
  obtain ⟨Am, cm, hmv, _, _, _⟩ := own_slice hmm
  have HMV := Lib.hid hmv
  have HM64 := Lib.hid hm64
  have hm64i : decide ((y.mem.length : Int) < 64) = false := decide_eq_false (by omega)
  have hm64n : decide (y.mem.length < 64) = false := decide_eq_false (by omega)
  clear hmv hmm
  go_enter Tryz.func40, Tryz.ntmps40
  go_wp2_with (first
    | (go_at_call 51
       refine hcl.mono ?_
       rintro e w3 ⟨rfl, vo', hc3, hob3, ha3⟩
       clear hcl
       have hab3 := HAB.out.asd ha3 HN1.out
       obtain ⟨d0, d1, d2, d3, d4, d5, d6⟩ := acc_at hab3
       simp only [Nat.zero_add] at d1 d2 d3 d4 d5 d6
       have hcb3 : w3.cell? ⟨w.heap.size, 0, none⟩ = some (.pointer (some ⟨C, 0, none⟩)) := (HCB.out.asd ha3 HN2.out).cell 0
       have hcb4 := fun o => cell_alloc o hcb3
       obtain ⟨Ao, co, rfl, _, _, _⟩ := own_slice hc3.opn
       have hc2 : w3.cell? ⟨C, 2, none⟩ = some (.slice Ao op1.length co) := hc3.blk.cell 2
       have hc4 := fun o => cell_alloc o hc2
       have HAB3 := Lib.hid hab3
       have HCB3 := Lib.hid (HCB.out.asd ha3 HN2.out)
       have HB3 : Hid (Below B w w3) := Lib.hid (below_fin HB2.out ha3 HLo.out hBw)
       have HC3 := Lib.hid hc3
       clear hc3 ha3 hab3)
    | (go_at_call 27; go_in)
    | (go_at_call 58
       have hC4 := HC3.out.alloc (.cells x.cells 45)
       have hx4 := g_indexFunc 57 #[.pointer (some ⟨w.heap.size + 1, 0, none⟩)] (enters_of Tryz.func57 (by kernel_rfl) rfl) ptr (p3 gs x) Ao op1.length co op1 _ (by omega) (sl_own hC4.opn) (pred3 hC4 (HAB3.out.alloc _)).none_
       unfold Acc.cells at hx4
       rw [HI1.out] at hx4
       refine hx4.mono ?_
       rintro e w5 ⟨rfl, hb5⟩
       clear hx4
       have hC5 := hC4.below hb5
       have HC5 := Lib.hid hC5
       have hcb5 := (hb5.cell (p := ⟨w.heap.size, 0, none⟩) (cell_lt (hcb4 _))).trans (hcb4 _)
       have hc5 : w5.cell? ⟨C, 2, none⟩ = some (.slice Ao op1.length co) := hC5.blk.cell 2
       obtain ⟨gb, go, rfl, hgl, hgc⟩ := (sl_own hC5.opn).at_ k g HKG2.out
       have hg4 : w5.cell? ⟨g, 4, none⟩ = some (.slice Am y.mem.length cm) := by
         have := (hC5.grp _ HGY.out).cell 4
         simpa [gcells, HMV.out] using this
       have HAB5 : Hid (BlkAt w5 (w.heap.size + 1) 45 x.cells) := Lib.hid ((HAB3.out.alloc _).below hb5 (HAB3.out.alloc _).lt)
       have HB5 : Hid (Below B w w5) := Lib.hid ((HB3.out.alloc (by have := HB3.out.size; omega) _).trans (hb5.mono (by have := HB3.out.size; simp; omega)))
       have HCB5 : Hid (BlkAt w5 w.heap.size 106 #[.pointer (some ⟨C, 0, none⟩)]) := Lib.hid ((HCB3.out.alloc _).below hb5 (HCB3.out.alloc _).lt)
       have hcl5 := close_any 57 #[.pointer (some ⟨w.heap.size + 1, 0, none⟩)] (enters_of Tryz.func57 (by kernel_rfl) rfl) (p3 gs x) w5 B C _ gs op1 va _ mv hC5 (by omega) (pred3 hC5 HAB5.out)
       clear hC4 hC5 hb5))
  refine hcl5.mono ?_
  rintro e w7 ⟨rfl, vo7, hc7, hob7, ha7⟩
  clear hcl5
  have HC7 := Lib.hid hc7
  have HCB7 : Hid (BlkAt w7 w.heap.size 106 #[.pointer (some ⟨C, 0, none⟩)]) := Lib.hid (HCB5.out.asd ha7 (by simp only [List.mem_cons, List.not_mem_nil, or_false, not_or]; exact ⟨own_blk_ne HC5.out.opn HCB5.out (by decide), fun e => blk_blk_ne HCB5.out HC5.out.blk (by decide) (Option.some.inj e)⟩))
  have HB7 : Hid (Below B w w7) := Lib.hid (HB5.out.trans (ha7.below (by have := HB5.out.size; omega) (fun j hj => by
    simp only [List.mem_cons, List.not_mem_nil, or_false] at hj
    rcases hj with e | e
    · exact (own_lt HC5.out.opn e.symm).1
    · rw [Option.some.inj e]; exact HC5.out.lowC)))
  clear hc7 ha7
  go_wp2
  obtain ⟨A7, c7, rfl, _, _, _⟩ := own_slice HC7.out.opn
  have HC71 : Hid (Coll w7.drew B C _ gs _ va _ mv) := Lib.hid (HC7.out.below (below_draw (Below.refl _ w7) 1 : Below _ w7 w7.drew))
  have HCB71 : Hid (BlkAt w7.drew w.heap.size 106 #[.pointer (some ⟨C, 0, none⟩)]) := HCB7
  have hcb7 : w7.cell? ⟨w.heap.size, 0, none⟩ = some (.pointer (some ⟨C, 0, none⟩)) := HCB7.out.cell 0
  have hc27 : w7.cell? ⟨C, 2, none⟩ = some (.slice A7 (op1.filter (fun g => !p3 gs x g)).length c7) := HC7.out.blk.cell 2
  have hBw70 : B ≤ w7.heap.size := by have := HB7.out.size; omega
  have HT7 : Hid (Trace w7.drew w7.heap.size _ n xs) := Lib.hid (((HT.out.below HB7.out (Nat.le_refl _)).mono hBw70).below (below_draw (Below.refl w7.heap.size w7) 1 : Below _ w7 w7.drew) (Nat.le_refl _))
  have ne1 : w.heap.size ≠ C := blk_blk_ne HCB7.out HC7.out.blk (by decide)
  have HNB : Hid (some w.heap.size ∉ [va.ownBlock, some C]) := Lib.hid (by simp only [List.mem_cons, List.not_mem_nil, or_false, not_or]; exact ⟨own_blk_ne HC7.out.all_ HCB7.out (by decide), fun e => ne1 (Option.some.inj e)⟩)
  obtain ⟨i0, hi, hz0, hz1, hz2⟩ := info_parts ptr_info
  refine wp_region_held_drew (S := fun w' => w'.cell? ⟨w.heap.size, 0, none⟩ = some (.pointer (some ⟨C, 0, none⟩))) (by kernel_rfl) hcb7 ?_
  intro hHeld
  refine take_drop 0 (v := ?_) rfl (by kernel_rfl) (by kernel_rfl) (by kernel_rfl) (fun _ _ _ h => h) (by rfl) ?_ (by assumption) ?_
  rotate_left 1
  · (intro w hSw; (try dsimp only at hSw); go_simp; try with_reducible rfl)
  try simp only [Act.put, List.setIfInBounds_toArray, List.set_cons_zero, List.set_cons_succ]
  refine take_drop 1 (v := ?_) rfl (by kernel_rfl) (by kernel_rfl) (by kernel_rfl) (fun _ _ _ h => h) (by rfl) ?_ (by assumption) ?_
  rotate_left 1
  · (intro w hSw; (try dsimp only at hSw); go_simp; try with_reducible rfl)
  try simp only [Act.put, List.setIfInBounds_toArray, List.set_cons_zero, List.set_cons_succ]
  refine take_drop 2 (v := ?_) rfl (by kernel_rfl) (by kernel_rfl) (by kernel_rfl) (fun _ _ _ h => h) (by rfl) ?_ (by assumption) ?_
  rotate_left 1
  · (intro w hSw; (try dsimp only at hSw); go_simp; try with_reducible rfl)
  try simp only [Act.put, List.setIfInBounds_toArray, List.set_cons_zero, List.set_cons_succ]
  refine take_drop 3 (v := ?_) rfl (by kernel_rfl) (by kernel_rfl) (by kernel_rfl) (fun _ _ _ h => h) (by rfl) ?_ (by assumption) ?_
  rotate_left 1
  · (intro w hSw; (try dsimp only at hSw); go_simp; try with_reducible rfl)
  try simp only [Act.put, List.setIfInBounds_toArray, List.set_cons_zero, List.set_cons_succ]
  refine take_drop 5 (v := ?_) rfl (by kernel_rfl) (by kernel_rfl) (by kernel_rfl) (fun _ _ _ h => h) (by rfl) ?_ (by assumption) ?_
  rotate_left 1
  · (intro w hSw; (try dsimp only at hSw); go_simp; try with_reducible rfl)
  try simp only [Act.put, List.setIfInBounds_toArray, List.set_cons_zero, List.set_cons_succ]
  refine take_drop 6 (v := ?_) rfl (by kernel_rfl) (by kernel_rfl) (by kernel_rfl) (fun _ _ _ h => h) (by rfl) ?_ (by assumption) ?_
  rotate_left 1
  · (intro w hSw; (try dsimp only at hSw); go_simp; try with_reducible rfl)
  try simp only [Act.put, List.setIfInBounds_toArray, List.set_cons_zero, List.set_cons_succ]
  refine wpAnyH_ready (rs := [4, 7]) (by kernel_rfl) (by simp) ?_
  refine ready_drop rfl (fun K hK => ?_) ?_
  · go_simp
    refine hK.out _ _ hcb7 (fun hHeld => ?_)
    clear hK
    try simp only [Act.put, List.setIfInBounds_toArray, List.set_cons_zero, List.set_cons_succ]
    refine wpAnyH_ready (rs := [7]) (by kernel_rfl) (by simp) ?_
    refine ready_call rfl rfl 53 (enters_of Tryz.func53 (by kernel_rfl) rfl) [.tmp 89, .tmp 90] _ rfl [.pointer (some ⟨C, 0, none⟩), .int .i64 i] rfl (begin_any w7.drew B C i _ n c xs x gs _ va _ mv HC71.out HT7.out HX.out hn hlen) ?_ AllReadyH.nil
    rintro e w8 ⟨g0, va8, mv8, rfl, hg0, hc8, ha8⟩
    have hob8 : BlkAt w8 w.heap.size 106 #[.pointer (some ⟨C, 0, none⟩)] := HCB71.out.asd ha8 HNB.out
    have hb8 : w8.cell? ⟨w.heap.size, 0, none⟩ = some (.pointer (some ⟨C, 0, none⟩)) := hob8.cell 0
    have h28 : w8.cell? ⟨C, 2, none⟩ = some (.slice A7 (op1.filter (fun g => !p3 gs x g)).length c7) := hc8.blk.cell 2
    have HC8 := Lib.hid hc8
    have HA8 := Lib.hid ha8
    have HOB8 := Lib.hid hob8
    refine ⟨_, rfl, hb8, fun hHeld => ?_⟩
    clear hc8 ha8 hob8
    try simp only [Act.put, List.setIfInBounds_toArray, List.set_cons_zero, List.set_cons_succ]
    have n8 := fun o => cell_alloc o hb8
    refine wpAnyH_ready (rs := [8]) (by kernel_rfl) (by simp) ?_
    refine ready_drop rfl (fun K hK => ?_) AllReadyH.nil
    go_simp
    refine hK.out _ _ (n8 _) (fun hHeld => ?_)
    clear hK
    try simp only [Act.put, List.setIfInBounds_toArray, List.set_cons_zero, List.set_cons_succ]
    have hrow8 := HC8.out.opn
    have hfl : (op1.filter (fun g => !p3 gs x g)).length ≤ 5000 := Nat.le_trans (List.length_filter_le _ _) hl1
    have hBw8 : B ≤ w8.heap.size := by have := HC8.out.lowC; have := HC8.out.blk.lt; omega
    refine wpAnyH_ready (rs := [9]) (by kernel_rfl) (by simp) ?_
    refine ready_append rfl rfl (.tmp 88) (.tmp 92) 82 rfl B 84 i0 (.pointer none) 1 8 Tryz.underlying82 hi hz0 hz1 hz2 rfl (by decide) (.slice A7 (op1.filter (fun g => !p3 gs x g)).length c7) _ _ rfl (hrow8.alloc _) ⟨w8.heap.size, 0, none⟩ 1 1 [ptr g0] rfl rfl (cells_new' _ [ptr g0] _ _ rfl) (by simp [Value.oneCell']) (by unfold maxLen; omega) (by omega) (by simp; omega) ?_ AllReadyH.nil
    intro v9 w9 hrow9 hg9 hob9
    have hbc9 := (HC8.out.blk.alloc _).kept hg9 (own_blk_ne HC8.out.opn HC8.out.blk (by decide))
    have hbb9 := (HOB8.out.alloc _).kept hg9 (own_blk_ne HC8.out.opn HOB8.out (by decide))
    have q1 : w9.cell? ⟨w.heap.size, 0, none⟩ = some (.pointer (some ⟨C, 0, none⟩)) := hbb9.cell 0
    have q4 : w9.cell? ⟨C, 2, none⟩ = some (.slice A7 (op1.filter (fun g => !p3 gs x g)).length c7) := hbc9.cell 2
    have q5 := hbc9.frozen 2
    obtain ⟨A9, c9, rfl, _, _, _⟩ := own_slice hrow9
    clear hbc9 hbb9
    refine ⟨q1, fun hHeld => ?_⟩
    try simp only [Act.put, List.setIfInBounds_toArray, List.set_cons_zero, List.set_cons_succ]
    refine take_drop 10 (v := ?_) rfl (by kernel_rfl) (by kernel_rfl) (by kernel_rfl) (fun _ _ _ h => h) (by rfl) ?_ (by assumption) ?_
    rotate_left 1
    · (intro w hSw; (try dsimp only at hSw); go_simp; try with_reducible rfl)
    try simp only [Act.put, List.setIfInBounds_toArray, List.set_cons_zero, List.set_cons_succ]
    refine take_drop 11 (v := ?_) rfl (by kernel_rfl) (by kernel_rfl) (by kernel_rfl) (fun _ _ _ h => h) (by rfl) ?_ (by assumption) ?_
    rotate_left 1
    · (intro w hSw; (try dsimp only at hSw); go_simp; try with_reducible rfl)
    try simp only [Act.put, List.setIfInBounds_toArray, List.set_cons_zero, List.set_cons_succ]
    refine wpAnyH_ready (rs := [12]) (by kernel_rfl) (by simp) ?_
    refine ready_drop rfl (fun K hK => ?_) AllReadyH.nil
    go_simp
    refine hK.out _ _ ((World.cell?_setCell_other _ _ _ _ (by simp [ne1.symm])).trans q1) (fun hHeld => ?_)
    clear hK
    try simp only [Act.put, List.setIfInBounds_toArray, List.set_cons_zero, List.set_cons_succ]
    refine wpAnyH_done (by kernel_rfl) ?_ _
    go_wp2
    go_end0
    have e : putN xs i x g0 gs op = (gs ++ [(g0, newG x i)], op1.filter (fun g => !p3 gs x g) ++ [g0]) := by
      unfold putN; rw [if_neg HK.out, if_neg HRE.out, HOP.out, find_of_idx HKG.out HKG2.out]
      simp only []
      rw [HGE.out, if_neg (by have := HM64.out; omega)]
    have hg0' : w7.heap.size ≤ g0 := hg0
    have hBw7 := HB7.out.size
    refine ⟨rfl, g0, va8, .slice A9 ((op1.filter (fun g => !p3 gs x g)).length + 1) c9, mv8, ?_, fun p hp e => by have := (HC7.out.grp p hp).lt; omega, ?_⟩
    · rw [e]
      have := (HC8.out.alloc (.cells #[ptr g0] 84)).setOpen (op' := op1.filter (fun g => !p3 gs x g) ++ [g0]) hg9 (by simpa using hrow9) (hob9.imp id fun e => ⟨_, e, Nat.le_refl _⟩) (fun k hk => by
        rcases List.mem_append.1 hk with hk | hk
        · obtain ⟨y, hy⟩ := HC8.out.sub k hk; exact ⟨y, hy⟩
        · simp at hk; subst hk; exact ⟨newG x i, List.mem_append_right _ (by simp)⟩)
      exact this
    · have b1 : Below B w w7.drew := below_draw HB7.out 1
      have b2 : Below B w w8 := b1.trans (HA8.out.below (by show B ≤ w7.heap.size; omega) (fun j hj => by
        simp only [List.mem_cons, List.not_mem_nil, or_false] at hj
        rcases hj with e | e
        · exact (own_lt HC7.out.all_ e.symm).1
        · rw [Option.some.inj e]; exact HC7.out.lowC))
      have b3 := (b2.alloc hBw8 (.cells #[ptr g0] 84)).grown hg9 (by simp; omega) (fun j e => (own_lt HC8.out.opn e).1)
      exact b3.setCell (p := ⟨C, 2, none⟩) HC8.out.lowC _
  · refine ready_call rfl rfl 53 (enters_of Tryz.func53 (by kernel_rfl) rfl) [.tmp 89, .tmp 90] _ rfl [.pointer (some ⟨C, 0, none⟩), .int .i64 i] rfl (begin_any w7.drew B C i _ n c xs x gs _ va _ mv HC71.out HT7.out HX.out hn hlen) ?_ AllReadyH.nil
    rintro e w8 ⟨g0, va8, mv8, rfl, hg0, hc8, ha8⟩
    have hob8 : BlkAt w8 w.heap.size 106 #[.pointer (some ⟨C, 0, none⟩)] := HCB71.out.asd ha8 HNB.out
    have hb8 : w8.cell? ⟨w.heap.size, 0, none⟩ = some (.pointer (some ⟨C, 0, none⟩)) := hob8.cell 0
    have h28 : w8.cell? ⟨C, 2, none⟩ = some (.slice A7 (op1.filter (fun g => !p3 gs x g)).length c7) := hc8.blk.cell 2
    have HC8 := Lib.hid hc8
    have HA8 := Lib.hid ha8
    have HOB8 := Lib.hid hob8
    refine ⟨_, rfl, hb8, fun hHeld => ?_⟩
    clear hc8 ha8 hob8
    try simp only [Act.put, List.setIfInBounds_toArray, List.set_cons_zero, List.set_cons_succ]
    have n8 := fun o => cell_alloc o hb8
    refine wpAnyH_ready (rs := [4, 8]) (by kernel_rfl) (by simp) ?_
    refine ready_drop rfl (fun K hK => ?_) ?_
    · go_simp
      refine hK.out _ _ hb8 (fun hHeld => ?_)
      clear hK
      try simp only [Act.put, List.setIfInBounds_toArray, List.set_cons_zero, List.set_cons_succ]
      refine wpAnyH_ready (rs := [8]) (by kernel_rfl) (by simp) ?_
      refine ready_drop rfl (fun K hK => ?_) AllReadyH.nil
      go_simp
      refine hK.out _ _ (n8 _) (fun hHeld => ?_)
      clear hK
      try simp only [Act.put, List.setIfInBounds_toArray, List.set_cons_zero, List.set_cons_succ]
      have hrow8 := HC8.out.opn
      have hfl : (op1.filter (fun g => !p3 gs x g)).length ≤ 5000 := Nat.le_trans (List.length_filter_le _ _) hl1
      have hBw8 : B ≤ w8.heap.size := by have := HC8.out.lowC; have := HC8.out.blk.lt; omega
      refine wpAnyH_ready (rs := [9]) (by kernel_rfl) (by simp) ?_
      refine ready_append rfl rfl (.tmp 88) (.tmp 92) 82 rfl B 84 i0 (.pointer none) 1 8 Tryz.underlying82 hi hz0 hz1 hz2 rfl (by decide) (.slice A7 (op1.filter (fun g => !p3 gs x g)).length c7) _ _ rfl (hrow8.alloc _) ⟨w8.heap.size, 0, none⟩ 1 1 [ptr g0] rfl rfl (cells_new' _ [ptr g0] _ _ rfl) (by simp [Value.oneCell']) (by unfold maxLen; omega) (by omega) (by simp; omega) ?_ AllReadyH.nil
      intro v9 w9 hrow9 hg9 hob9
      have hbc9 := (HC8.out.blk.alloc _).kept hg9 (own_blk_ne HC8.out.opn HC8.out.blk (by decide))
      have hbb9 := (HOB8.out.alloc _).kept hg9 (own_blk_ne HC8.out.opn HOB8.out (by decide))
      have q1 : w9.cell? ⟨w.heap.size, 0, none⟩ = some (.pointer (some ⟨C, 0, none⟩)) := hbb9.cell 0
      have q4 : w9.cell? ⟨C, 2, none⟩ = some (.slice A7 (op1.filter (fun g => !p3 gs x g)).length c7) := hbc9.cell 2
      have q5 := hbc9.frozen 2
      obtain ⟨A9, c9, rfl, _, _, _⟩ := own_slice hrow9
      clear hbc9 hbb9
      refine ⟨q1, fun hHeld => ?_⟩
      try simp only [Act.put, List.setIfInBounds_toArray, List.set_cons_zero, List.set_cons_succ]
      refine take_drop 10 (v := ?_) rfl (by kernel_rfl) (by kernel_rfl) (by kernel_rfl) (fun _ _ _ h => h) (by rfl) ?_ (by assumption) ?_
      rotate_left 1
      · (intro w hSw; (try dsimp only at hSw); go_simp; try with_reducible rfl)
      try simp only [Act.put, List.setIfInBounds_toArray, List.set_cons_zero, List.set_cons_succ]
      refine take_drop 11 (v := ?_) rfl (by kernel_rfl) (by kernel_rfl) (by kernel_rfl) (fun _ _ _ h => h) (by rfl) ?_ (by assumption) ?_
      rotate_left 1
      · (intro w hSw; (try dsimp only at hSw); go_simp; try with_reducible rfl)
      try simp only [Act.put, List.setIfInBounds_toArray, List.set_cons_zero, List.set_cons_succ]
      refine wpAnyH_ready (rs := [12]) (by kernel_rfl) (by simp) ?_
      refine ready_drop rfl (fun K hK => ?_) AllReadyH.nil
      go_simp
      refine hK.out _ _ ((World.cell?_setCell_other _ _ _ _ (by simp [ne1.symm])).trans q1) (fun hHeld => ?_)
      clear hK
      try simp only [Act.put, List.setIfInBounds_toArray, List.set_cons_zero, List.set_cons_succ]
      refine wpAnyH_done (by kernel_rfl) ?_ _
      go_wp2
      go_end0
      have e : putN xs i x g0 gs op = (gs ++ [(g0, newG x i)], op1.filter (fun g => !p3 gs x g) ++ [g0]) := by
        unfold putN; rw [if_neg HK.out, if_neg HRE.out, HOP.out, find_of_idx HKG.out HKG2.out]
        simp only []
        rw [HGE.out, if_neg (by have := HM64.out; omega)]
      have hg0' : w7.heap.size ≤ g0 := hg0
      have hBw7 := HB7.out.size
      refine ⟨rfl, g0, va8, .slice A9 ((op1.filter (fun g => !p3 gs x g)).length + 1) c9, mv8, ?_, fun p hp e => by have := (HC7.out.grp p hp).lt; omega, ?_⟩
      · rw [e]
        have := (HC8.out.alloc (.cells #[ptr g0] 84)).setOpen (op' := op1.filter (fun g => !p3 gs x g) ++ [g0]) hg9 (by simpa using hrow9) (hob9.imp id fun e => ⟨_, e, Nat.le_refl _⟩) (fun k hk => by
          rcases List.mem_append.1 hk with hk | hk
          · obtain ⟨y, hy⟩ := HC8.out.sub k hk; exact ⟨y, hy⟩
          · simp at hk; subst hk; exact ⟨newG x i, List.mem_append_right _ (by simp)⟩)
        exact this
      · have b1 : Below B w w7.drew := below_draw HB7.out 1
        have b2 : Below B w w8 := b1.trans (HA8.out.below (by show B ≤ w7.heap.size; omega) (fun j hj => by
          simp only [List.mem_cons, List.not_mem_nil, or_false] at hj
          rcases hj with e | e
          · exact (own_lt HC7.out.all_ e.symm).1
          · rw [Option.some.inj e]; exact HC7.out.lowC))
        have b3 := (b2.alloc hBw8 (.cells #[ptr g0] 84)).grown hg9 (by simp; omega) (fun j e => (own_lt HC8.out.opn e).1)
        exact b3.setCell (p := ⟨C, 2, none⟩) HC8.out.lowC _
    · refine ready_drop rfl (fun K hK => ?_) AllReadyH.nil
      go_simp
      refine hK.out _ _ (n8 _) (fun hHeld => ?_)
      clear hK
      try simp only [Act.put, List.setIfInBounds_toArray, List.set_cons_zero, List.set_cons_succ]
      have h28 := fun o => cell_alloc o h28
      refine wpAnyH_ready (rs := [4]) (by kernel_rfl) (by simp) ?_
      refine ready_drop rfl (fun K hK => ?_) AllReadyH.nil
      go_simp
      refine hK.out _ _ (n8 _) (fun hHeld => ?_)
      clear hK
      try simp only [Act.put, List.setIfInBounds_toArray, List.set_cons_zero, List.set_cons_succ]
      have hrow8 := HC8.out.opn
      have hfl : (op1.filter (fun g => !p3 gs x g)).length ≤ 5000 := Nat.le_trans (List.length_filter_le _ _) hl1
      have hBw8 : B ≤ w8.heap.size := by have := HC8.out.lowC; have := HC8.out.blk.lt; omega
      refine wpAnyH_ready (rs := [9]) (by kernel_rfl) (by simp) ?_
      refine ready_append rfl rfl (.tmp 88) (.tmp 92) 82 rfl B 84 i0 (.pointer none) 1 8 Tryz.underlying82 hi hz0 hz1 hz2 rfl (by decide) (.slice A7 (op1.filter (fun g => !p3 gs x g)).length c7) _ _ rfl (hrow8.alloc _) ⟨w8.heap.size, 0, none⟩ 1 1 [ptr g0] rfl rfl (cells_new' _ [ptr g0] _ _ rfl) (by simp [Value.oneCell']) (by unfold maxLen; omega) (by omega) (by simp; omega) ?_ AllReadyH.nil
      intro v9 w9 hrow9 hg9 hob9
      have hbc9 := (HC8.out.blk.alloc _).kept hg9 (own_blk_ne HC8.out.opn HC8.out.blk (by decide))
      have hbb9 := (HOB8.out.alloc _).kept hg9 (own_blk_ne HC8.out.opn HOB8.out (by decide))
      have q1 : w9.cell? ⟨w.heap.size, 0, none⟩ = some (.pointer (some ⟨C, 0, none⟩)) := hbb9.cell 0
      have q4 : w9.cell? ⟨C, 2, none⟩ = some (.slice A7 (op1.filter (fun g => !p3 gs x g)).length c7) := hbc9.cell 2
      have q5 := hbc9.frozen 2
      obtain ⟨A9, c9, rfl, _, _, _⟩ := own_slice hrow9
      clear hbc9 hbb9
      refine ⟨q1, fun hHeld => ?_⟩
      try simp only [Act.put, List.setIfInBounds_toArray, List.set_cons_zero, List.set_cons_succ]
      refine take_drop 10 (v := ?_) rfl (by kernel_rfl) (by kernel_rfl) (by kernel_rfl) (fun _ _ _ h => h) (by rfl) ?_ (by assumption) ?_
      rotate_left 1
      · (intro w hSw; (try dsimp only at hSw); go_simp; try with_reducible rfl)
      try simp only [Act.put, List.setIfInBounds_toArray, List.set_cons_zero, List.set_cons_succ]
      refine take_drop 11 (v := ?_) rfl (by kernel_rfl) (by kernel_rfl) (by kernel_rfl) (fun _ _ _ h => h) (by rfl) ?_ (by assumption) ?_
      rotate_left 1
      · (intro w hSw; (try dsimp only at hSw); go_simp; try with_reducible rfl)
      try simp only [Act.put, List.setIfInBounds_toArray, List.set_cons_zero, List.set_cons_succ]
      refine wpAnyH_ready (rs := [12]) (by kernel_rfl) (by simp) ?_
      refine ready_drop rfl (fun K hK => ?_) AllReadyH.nil
      go_simp
      refine hK.out _ _ ((World.cell?_setCell_other _ _ _ _ (by simp [ne1.symm])).trans q1) (fun hHeld => ?_)
      clear hK
      try simp only [Act.put, List.setIfInBounds_toArray, List.set_cons_zero, List.set_cons_succ]
      refine wpAnyH_done (by kernel_rfl) ?_ _
      go_wp2
      go_end0
      have e : putN xs i x g0 gs op = (gs ++ [(g0, newG x i)], op1.filter (fun g => !p3 gs x g) ++ [g0]) := by
        unfold putN; rw [if_neg HK.out, if_neg HRE.out, HOP.out, find_of_idx HKG.out HKG2.out]
        simp only []
        rw [HGE.out, if_neg (by have := HM64.out; omega)]
      have hg0' : w7.heap.size ≤ g0 := hg0
      have hBw7 := HB7.out.size
      refine ⟨rfl, g0, va8, .slice A9 ((op1.filter (fun g => !p3 gs x g)).length + 1) c9, mv8, ?_, fun p hp e => by have := (HC7.out.grp p hp).lt; omega, ?_⟩
      · rw [e]
        have := (HC8.out.alloc (.cells #[ptr g0] 84)).setOpen (op' := op1.filter (fun g => !p3 gs x g) ++ [g0]) hg9 (by simpa using hrow9) (hob9.imp id fun e => ⟨_, e, Nat.le_refl _⟩) (fun k hk => by
          rcases List.mem_append.1 hk with hk | hk
          · obtain ⟨y, hy⟩ := HC8.out.sub k hk; exact ⟨y, hy⟩
          · simp at hk; subst hk; exact ⟨newG x i, List.mem_append_right _ (by simp)⟩)
        exact this
      · have b1 : Below B w w7.drew := below_draw HB7.out 1
        have b2 : Below B w w8 := b1.trans (HA8.out.below (by show B ≤ w7.heap.size; omega) (fun j hj => by
          simp only [List.mem_cons, List.not_mem_nil, or_false] at hj
          rcases hj with e | e
          · exact (own_lt HC7.out.all_ e.symm).1
          · rw [Option.some.inj e]; exact HC7.out.lowC))
        have b3 := (b2.alloc hBw8 (.cells #[ptr g0] 84)).grown hg9 (by simp; omega) (fun j e => (own_lt HC8.out.opn e).1)
        exact b3.setCell (p := ⟨C, 2, none⟩) HC8.out.lowC _

set_option maxRecDepth 100000 in
set_option maxHeartbeats 20000000 in
theorem put_remote_full2 (w : World) (B C i : Nat) (A : Option Addr) (n c : Nat) (xs : List Acc) (x : Acc) (gs : List (Nat × Grp)) (op : List Nat) (va vo : Value) (mv : Nat → Value) (hc : Coll w B C (.slice A n c) gs op va vo mv) (hT : Trace w B A n xs) (hx : xs[i]? = some x) (hn : n ≤ 5000) (hgs : gs.length ≤ 5000) (hop : op.length ≤ 5000)
    (hin : ∀ p ∈ gs, p.2.mem.length ≤ 5000 ∧ ∀ i ∈ p.2.mem, i < xs.length) (hk : x.kind = 2) (hre0 : x.frm ≠ x.at') (k g : Nat) (hkg : (op.filter (fun g => !p2 gs xs x g)).findIdx? (p3 gs x) = some k) (hkg2 : (op.filter (fun g => !p2 gs xs x g))[k]? = some g) (hm64 : 64 ≤ (grpOf gs g).mem.length) :
    Calls Tryz.prog 40 #[.pointer (some ⟨C, 0, none⟩), .int .i64 i] w fun e w' => e = .returned (.tuple #[]) ∧ ∃ g0 va' vo' mv', Coll w' B C (.slice A n c) (putN xs i x g0 gs op).1 (putN xs i x g0 gs op).2 va' vo' mv' ∧ (∀ p ∈ gs, p.1 ≠ g0) ∧ Below B w w' := by
  have hBw : B ≤ w.heap.size := by have := hc.lowC; have := hc.blk.lt; omega
  have hilt : i < n := by rw [hT.len]; exact (List.getElem?_eq_some_iff.1 hx).1
  have h0 : w.cell? ⟨C, 0, none⟩ = some (.slice A n c) := hc.blk.cell 0
  have hCl := hc.blk.lt
  obtain ⟨b, o, rfl, hb, hcs⟩ := hT.at_ i x hx
  obtain ⟨c0, c1, c2, c3, c4, c5, c6⟩ := hcs
  have hbw : b < w.heap.size := by omega
  have hC2 := (hc.alloc (.cells #[.pointer (some ⟨C, 0, none⟩)] 106)).alloc (.cells x.cells 45)
  have hab : BlkAt ((w.alloc (.cells #[.pointer (some ⟨C, 0, none⟩)] 106)).alloc (.cells x.cells 45)) (w.heap.size + 1) 45 x.cells := by
    have := BlkAt.new (w.alloc (.cells #[.pointer (some ⟨C, 0, none⟩)] 106)) 45 x.cells
    simpa using this
  have hcb := (BlkAt.new w 106 #[.pointer (some ⟨C, 0, none⟩)]).alloc (.cells x.cells 45)
  have hb2 : Below w.heap.size w ((w.alloc (.cells #[.pointer (some ⟨C, 0, none⟩)] 106)).alloc (.cells x.cells 45)) := ((Below.refl _ w).alloc (Nat.le_refl _) _).alloc (by simp) _
  have hcl := close_any 54 #[.pointer (some ⟨w.heap.size + 1, 0, none⟩), .pointer (some ⟨w.heap.size, 0, none⟩)] (enters_of Tryz.func54 (by kernel_rfl) rfl) (p2 gs xs x) _ B C _ gs op va vo mv hC2 (by omega)
    (pred2 hC2 hab hcb (hT.below hb2 hBw) hn hin)
  have HN1 : Hid (some (w.heap.size + 1) ∉ [vo.ownBlock, some C]) := Lib.hid (by simp only [List.mem_cons, List.not_mem_nil, or_false, not_or]; exact ⟨own_blk_ne hC2.opn hab (by decide), fun e => blk_blk_ne hab hC2.blk (by decide) (Option.some.inj e)⟩)
  have HN2 : Hid (some w.heap.size ∉ [vo.ownBlock, some C]) := Lib.hid (by simp only [List.mem_cons, List.not_mem_nil, or_false, not_or]; exact ⟨own_blk_ne hC2.opn hcb (by decide), fun e => blk_blk_ne hcb hC2.blk (by decide) (Option.some.inj e)⟩)
  have HAB := Lib.hid hab
  have HCB := Lib.hid hcb
  have HT := Lib.hid hT
  have HX := Lib.hid hx
  have HB2 := Lib.hid hb2
  have HC := Lib.hid hc
  have HK : Hid (¬ (x.kind ≠ 1 ∧ x.kind ≠ 2)) := Lib.hid (by rw [hk]; decide)
  have HLo : Hid (∀ k, some k ∈ [vo.ownBlock, some C] → B ≤ k) := Lib.hid (fun k hk => by
    simp only [List.mem_cons, List.not_mem_nil, or_false] at hk
    rcases hk with e | e
    · exact (own_lt hc.opn e.symm).1
    · rw [Option.some.inj e]; exact hc.lowC)
  have hk1 : (x.kind != 1) = true ∧ (x.kind != 2) = false := by rw [hk]; exact ⟨rfl, rfl⟩
  clear hab hcb hT hx hb2 hC2 hc hin hk
  unfold Acc.cells at hcl
  have hlen : gs.length ≤ 5000 := hgs
  have hre : (x.frm != x.at') = true := by simpa using hre0
  have hre2 : (x.frm == x.at') = false := by simpa using hre0
  have HRE := Lib.hid hre0
  clear hre0
  generalize hop1 : op.filter (fun g => !p2 gs xs x g) = op1 at *
  have hl1 : op1.length ≤ 5000 := by rw [← hop1]; exact Nat.le_trans (List.length_filter_le _ _) hop
  have hi1 : idxI (p3 gs x) op1 = k := by simp [idxI, hkg]
  have hklt : k < op1.length := (List.getElem?_eq_some_iff.1 hkg2).1
  have hgop : g ∈ op1 := List.mem_of_getElem? hkg2
  obtain ⟨y, hgy⟩ := HC.out.sub g (by rw [← hop1] at hgop; exact (List.mem_filter.1 hgop).1)
  have hgeq : grpOf gs g = y := grpOf_mem HC.out.nodup hgy
  rw [hgeq] at hm64
  have HOP := Lib.hid hop1
  have HKG := Lib.hid hkg
  have HKG2 := Lib.hid hkg2
  have HGY := Lib.hid hgy
  have HGE := Lib.hid hgeq
  have HI1 := Lib.hid hi1
  clear hop1 hkg hkg2 hgy hgeq hgop hi1
  have hmm := HC.out.mem _ HGY.out
  obtain ⟨Am, cm, hmv, _, _, _⟩ := own_slice hmm
  have HMV := Lib.hid hmv
  have HM64 := Lib.hid hm64
  have hm64i : decide ((y.mem.length : Int) < 64) = false := decide_eq_false (by omega)
  have hm64n : decide (y.mem.length < 64) = false := decide_eq_false (by omega)
  clear hmv hmm
  go_enter Tryz.func40, Tryz.ntmps40
  go_wp2_with (first
    | (go_at_call 51
       refine hcl.mono ?_
       rintro e w3 ⟨rfl, vo', hc3, hob3, ha3⟩
       clear hcl
       have hab3 := HAB.out.asd ha3 HN1.out
       obtain ⟨d0, d1, d2, d3, d4, d5, d6⟩ := acc_at hab3
       simp only [Nat.zero_add] at d1 d2 d3 d4 d5 d6
       have hcb3 : w3.cell? ⟨w.heap.size, 0, none⟩ = some (.pointer (some ⟨C, 0, none⟩)) := (HCB.out.asd ha3 HN2.out).cell 0
       have hcb4 := fun o => cell_alloc o hcb3
       obtain ⟨Ao, co, rfl, _, _, _⟩ := own_slice hc3.opn
       have hc2 : w3.cell? ⟨C, 2, none⟩ = some (.slice Ao op1.length co) := hc3.blk.cell 2
       have hc4 := fun o => cell_alloc o hc2
       have HAB3 := Lib.hid hab3
       have HCB3 := Lib.hid (HCB.out.asd ha3 HN2.out)
       have HB3 : Hid (Below B w w3) := Lib.hid (below_fin HB2.out ha3 HLo.out hBw)
       have HC3 := Lib.hid hc3
       clear hc3 ha3 hab3)
    | (go_at_call 27; go_in)
    | (go_at_call 58
       have hC4 := HC3.out.alloc (.cells x.cells 45)
       have hx4 := g_indexFunc 57 #[.pointer (some ⟨w.heap.size + 1, 0, none⟩)] (enters_of Tryz.func57 (by kernel_rfl) rfl) ptr (p3 gs x) Ao op1.length co op1 _ (by omega) (sl_own hC4.opn) (pred3 hC4 (HAB3.out.alloc _)).none_
       unfold Acc.cells at hx4
       rw [HI1.out] at hx4
       refine hx4.mono ?_
       rintro e w5 ⟨rfl, hb5⟩
       clear hx4
       have hC5 := hC4.below hb5
       have HC5 := Lib.hid hC5
       have hcb5 := (hb5.cell (p := ⟨w.heap.size, 0, none⟩) (cell_lt (hcb4 _))).trans (hcb4 _)
       have hc5 : w5.cell? ⟨C, 2, none⟩ = some (.slice Ao op1.length co) := hC5.blk.cell 2
       obtain ⟨gb, go, rfl, hgl, hgc⟩ := (sl_own hC5.opn).at_ k g HKG2.out
       have hg4 : w5.cell? ⟨g, 4, none⟩ = some (.slice Am y.mem.length cm) := by
         have := (hC5.grp _ HGY.out).cell 4
         simpa [gcells, HMV.out] using this
       have HAB5 : Hid (BlkAt w5 (w.heap.size + 1) 45 x.cells) := Lib.hid ((HAB3.out.alloc _).below hb5 (HAB3.out.alloc _).lt)
       have HB5 : Hid (Below B w w5) := Lib.hid ((HB3.out.alloc (by have := HB3.out.size; omega) _).trans (hb5.mono (by have := HB3.out.size; simp; omega)))
       have HCB5 : Hid (BlkAt w5 w.heap.size 106 #[.pointer (some ⟨C, 0, none⟩)]) := Lib.hid ((HCB3.out.alloc _).below hb5 (HCB3.out.alloc _).lt)
       have hcl5 := close_any 57 #[.pointer (some ⟨w.heap.size + 1, 0, none⟩)] (enters_of Tryz.func57 (by kernel_rfl) rfl) (p3 gs x) w5 B C _ gs op1 va _ mv hC5 (by omega) (pred3 hC5 HAB5.out)
       clear hC4 hC5 hb5))
  refine hcl5.mono ?_
  rintro e w7 ⟨rfl, vo7, hc7, hob7, ha7⟩
  clear hcl5
  have HC7 := Lib.hid hc7
  have HCB7 : Hid (BlkAt w7 w.heap.size 106 #[.pointer (some ⟨C, 0, none⟩)]) := Lib.hid (HCB5.out.asd ha7 (by simp only [List.mem_cons, List.not_mem_nil, or_false, not_or]; exact ⟨own_blk_ne HC5.out.opn HCB5.out (by decide), fun e => blk_blk_ne HCB5.out HC5.out.blk (by decide) (Option.some.inj e)⟩))
  have HB7 : Hid (Below B w w7) := Lib.hid (HB5.out.trans (ha7.below (by have := HB5.out.size; omega) (fun j hj => by
    simp only [List.mem_cons, List.not_mem_nil, or_false] at hj
    rcases hj with e | e
    · exact (own_lt HC5.out.opn e.symm).1
    · rw [Option.some.inj e]; exact HC5.out.lowC)))
  clear hc7 ha7
  go_wp2
  obtain ⟨A7, c7, rfl, _, _, _⟩ := own_slice HC7.out.opn
  have HC71 : Hid (Coll w7.drew B C _ gs _ va _ mv) := Lib.hid (HC7.out.below (below_draw (Below.refl _ w7) 1 : Below _ w7 w7.drew))
  have HCB71 : Hid (BlkAt w7.drew w.heap.size 106 #[.pointer (some ⟨C, 0, none⟩)]) := HCB7
  have hcb7 : w7.cell? ⟨w.heap.size, 0, none⟩ = some (.pointer (some ⟨C, 0, none⟩)) := HCB7.out.cell 0
  have hc27 : w7.cell? ⟨C, 2, none⟩ = some (.slice A7 (op1.filter (fun g => !p3 gs x g)).length c7) := HC7.out.blk.cell 2
  have hBw70 : B ≤ w7.heap.size := by have := HB7.out.size; omega
  have HT7 : Hid (Trace w7.drew w7.heap.size _ n xs) := Lib.hid (((HT.out.below HB7.out (Nat.le_refl _)).mono hBw70).below (below_draw (Below.refl w7.heap.size w7) 1 : Below _ w7 w7.drew) (Nat.le_refl _))
  have ne1 : w.heap.size ≠ C := blk_blk_ne HCB7.out HC7.out.blk (by decide)
  have HNB : Hid (some w.heap.size ∉ [va.ownBlock, some C]) := Lib.hid (by simp only [List.mem_cons, List.not_mem_nil, or_false, not_or]; exact ⟨own_blk_ne HC7.out.all_ HCB7.out (by decide), fun e => ne1 (Option.some.inj e)⟩)
  obtain ⟨i0, hi, hz0, hz1, hz2⟩ := info_parts ptr_info
  refine wp_region_held_drew (S := fun w' => w'.cell? ⟨w.heap.size, 0, none⟩ = some (.pointer (some ⟨C, 0, none⟩))) (by kernel_rfl) hcb7 ?_
  intro hHeld
  refine take_drop 0 (v := ?_) rfl (by kernel_rfl) (by kernel_rfl) (by kernel_rfl) (fun _ _ _ h => h) (by rfl) ?_ (by assumption) ?_
  rotate_left 1
  · (intro w hSw; (try dsimp only at hSw); go_simp; try with_reducible rfl)
  try simp only [Act.put, List.setIfInBounds_toArray, List.set_cons_zero, List.set_cons_succ]
  refine take_drop 1 (v := ?_) rfl (by kernel_rfl) (by kernel_rfl) (by kernel_rfl) (fun _ _ _ h => h) (by rfl) ?_ (by assumption) ?_
  rotate_left 1
  · (intro w hSw; (try dsimp only at hSw); go_simp; try with_reducible rfl)
  try simp only [Act.put, List.setIfInBounds_toArray, List.set_cons_zero, List.set_cons_succ]
  refine take_drop 2 (v := ?_) rfl (by kernel_rfl) (by kernel_rfl) (by kernel_rfl) (fun _ _ _ h => h) (by rfl) ?_ (by assumption) ?_
  rotate_left 1
  · (intro w hSw; (try dsimp only at hSw); go_simp; try with_reducible rfl)
  try simp only [Act.put, List.setIfInBounds_toArray, List.set_cons_zero, List.set_cons_succ]
  refine take_drop 3 (v := ?_) rfl (by kernel_rfl) (by kernel_rfl) (by kernel_rfl) (fun _ _ _ h => h) (by rfl) ?_ (by assumption) ?_
  rotate_left 1
  · (intro w hSw; (try dsimp only at hSw); go_simp; try with_reducible rfl)
  try simp only [Act.put, List.setIfInBounds_toArray, List.set_cons_zero, List.set_cons_succ]
  refine take_drop 5 (v := ?_) rfl (by kernel_rfl) (by kernel_rfl) (by kernel_rfl) (fun _ _ _ h => h) (by rfl) ?_ (by assumption) ?_
  rotate_left 1
  · (intro w hSw; (try dsimp only at hSw); go_simp; try with_reducible rfl)
  try simp only [Act.put, List.setIfInBounds_toArray, List.set_cons_zero, List.set_cons_succ]
  refine take_drop 6 (v := ?_) rfl (by kernel_rfl) (by kernel_rfl) (by kernel_rfl) (fun _ _ _ h => h) (by rfl) ?_ (by assumption) ?_
  rotate_left 1
  · (intro w hSw; (try dsimp only at hSw); go_simp; try with_reducible rfl)
  try simp only [Act.put, List.setIfInBounds_toArray, List.set_cons_zero, List.set_cons_succ]
  refine wpAnyH_ready (rs := [4, 7]) (by kernel_rfl) (by simp) ?_
  refine ready_drop rfl (fun K hK => ?_) ?_
  · go_simp
    refine hK.out _ _ hcb7 (fun hHeld => ?_)
    clear hK
    try simp only [Act.put, List.setIfInBounds_toArray, List.set_cons_zero, List.set_cons_succ]
    refine wpAnyH_ready (rs := [7]) (by kernel_rfl) (by simp) ?_
    refine ready_call rfl rfl 53 (enters_of Tryz.func53 (by kernel_rfl) rfl) [.tmp 89, .tmp 90] _ rfl [.pointer (some ⟨C, 0, none⟩), .int .i64 i] rfl (begin_any w7.drew B C i _ n c xs x gs _ va _ mv HC71.out HT7.out HX.out hn hlen) ?_ AllReadyH.nil
    rintro e w8 ⟨g0, va8, mv8, rfl, hg0, hc8, ha8⟩
    have hob8 : BlkAt w8 w.heap.size 106 #[.pointer (some ⟨C, 0, none⟩)] := HCB71.out.asd ha8 HNB.out
    have hb8 : w8.cell? ⟨w.heap.size, 0, none⟩ = some (.pointer (some ⟨C, 0, none⟩)) := hob8.cell 0
    have h28 : w8.cell? ⟨C, 2, none⟩ = some (.slice A7 (op1.filter (fun g => !p3 gs x g)).length c7) := hc8.blk.cell 2
    have HC8 := Lib.hid hc8
    have HA8 := Lib.hid ha8
    have HOB8 := Lib.hid hob8
    refine ⟨_, rfl, hb8, fun hHeld => ?_⟩
    clear hc8 ha8 hob8
    try simp only [Act.put, List.setIfInBounds_toArray, List.set_cons_zero, List.set_cons_succ]
    have n8 := fun o => cell_alloc o hb8
    refine wpAnyH_ready (rs := [8]) (by kernel_rfl) (by simp) ?_
    refine ready_drop rfl (fun K hK => ?_) AllReadyH.nil
    go_simp
    refine hK.out _ _ (n8 _) (fun hHeld => ?_)
    clear hK
    try simp only [Act.put, List.setIfInBounds_toArray, List.set_cons_zero, List.set_cons_succ]
    have hrow8 := HC8.out.opn
    have hfl : (op1.filter (fun g => !p3 gs x g)).length ≤ 5000 := Nat.le_trans (List.length_filter_le _ _) hl1
    have hBw8 : B ≤ w8.heap.size := by have := HC8.out.lowC; have := HC8.out.blk.lt; omega
    refine wpAnyH_ready (rs := [9]) (by kernel_rfl) (by simp) ?_
    refine ready_append rfl rfl (.tmp 88) (.tmp 92) 82 rfl B 84 i0 (.pointer none) 1 8 Tryz.underlying82 hi hz0 hz1 hz2 rfl (by decide) (.slice A7 (op1.filter (fun g => !p3 gs x g)).length c7) _ _ rfl (hrow8.alloc _) ⟨w8.heap.size, 0, none⟩ 1 1 [ptr g0] rfl rfl (cells_new' _ [ptr g0] _ _ rfl) (by simp [Value.oneCell']) (by unfold maxLen; omega) (by omega) (by simp; omega) ?_ AllReadyH.nil
    intro v9 w9 hrow9 hg9 hob9
    have hbc9 := (HC8.out.blk.alloc _).kept hg9 (own_blk_ne HC8.out.opn HC8.out.blk (by decide))
    have hbb9 := (HOB8.out.alloc _).kept hg9 (own_blk_ne HC8.out.opn HOB8.out (by decide))
    have q1 : w9.cell? ⟨w.heap.size, 0, none⟩ = some (.pointer (some ⟨C, 0, none⟩)) := hbb9.cell 0
    have q4 : w9.cell? ⟨C, 2, none⟩ = some (.slice A7 (op1.filter (fun g => !p3 gs x g)).length c7) := hbc9.cell 2
    have q5 := hbc9.frozen 2
    obtain ⟨A9, c9, rfl, _, _, _⟩ := own_slice hrow9
    clear hbc9 hbb9
    refine ⟨q1, fun hHeld => ?_⟩
    try simp only [Act.put, List.setIfInBounds_toArray, List.set_cons_zero, List.set_cons_succ]
    refine take_drop 10 (v := ?_) rfl (by kernel_rfl) (by kernel_rfl) (by kernel_rfl) (fun _ _ _ h => h) (by rfl) ?_ (by assumption) ?_
    rotate_left 1
    · (intro w hSw; (try dsimp only at hSw); go_simp; try with_reducible rfl)
    try simp only [Act.put, List.setIfInBounds_toArray, List.set_cons_zero, List.set_cons_succ]
    refine take_drop 11 (v := ?_) rfl (by kernel_rfl) (by kernel_rfl) (by kernel_rfl) (fun _ _ _ h => h) (by rfl) ?_ (by assumption) ?_
    rotate_left 1
    · (intro w hSw; (try dsimp only at hSw); go_simp; try with_reducible rfl)
    try simp only [Act.put, List.setIfInBounds_toArray, List.set_cons_zero, List.set_cons_succ]
    refine wpAnyH_ready (rs := [12]) (by kernel_rfl) (by simp) ?_
    refine ready_drop rfl (fun K hK => ?_) AllReadyH.nil
    go_simp
    refine hK.out _ _ ((World.cell?_setCell_other _ _ _ _ (by simp [ne1.symm])).trans q1) (fun hHeld => ?_)
    clear hK
    try simp only [Act.put, List.setIfInBounds_toArray, List.set_cons_zero, List.set_cons_succ]
    refine wpAnyH_done (by kernel_rfl) ?_ _
    go_wp2
    go_end0
    have e : putN xs i x g0 gs op = (gs ++ [(g0, newG x i)], op1.filter (fun g => !p3 gs x g) ++ [g0]) := by
      unfold putN; rw [if_neg HK.out, if_neg HRE.out, HOP.out, find_of_idx HKG.out HKG2.out]
      simp only []
      rw [HGE.out, if_neg (by have := HM64.out; omega)]
    have hg0' : w7.heap.size ≤ g0 := hg0
    have hBw7 := HB7.out.size
    refine ⟨rfl, g0, va8, .slice A9 ((op1.filter (fun g => !p3 gs x g)).length + 1) c9, mv8, ?_, fun p hp e => by have := (HC7.out.grp p hp).lt; omega, ?_⟩
    · rw [e]
      have := (HC8.out.alloc (.cells #[ptr g0] 84)).setOpen (op' := op1.filter (fun g => !p3 gs x g) ++ [g0]) hg9 (by simpa using hrow9) (hob9.imp id fun e => ⟨_, e, Nat.le_refl _⟩) (fun k hk => by
        rcases List.mem_append.1 hk with hk | hk
        · obtain ⟨y, hy⟩ := HC8.out.sub k hk; exact ⟨y, hy⟩
        · simp at hk; subst hk; exact ⟨newG x i, List.mem_append_right _ (by simp)⟩)
      exact this
    · have b1 : Below B w w7.drew := below_draw HB7.out 1
      have b2 : Below B w w8 := b1.trans (HA8.out.below (by show B ≤ w7.heap.size; omega) (fun j hj => by
        simp only [List.mem_cons, List.not_mem_nil, or_false] at hj
        rcases hj with e | e
        · exact (own_lt HC7.out.all_ e.symm).1
        · rw [Option.some.inj e]; exact HC7.out.lowC))
      have b3 := (b2.alloc hBw8 (.cells #[ptr g0] 84)).grown hg9 (by simp; omega) (fun j e => (own_lt HC8.out.opn e).1)
      exact b3.setCell (p := ⟨C, 2, none⟩) HC8.out.lowC _
  · refine ready_call rfl rfl 53 (enters_of Tryz.func53 (by kernel_rfl) rfl) [.tmp 89, .tmp 90] _ rfl [.pointer (some ⟨C, 0, none⟩), .int .i64 i] rfl (begin_any w7.drew B C i _ n c xs x gs _ va _ mv HC71.out HT7.out HX.out hn hlen) ?_ AllReadyH.nil
    rintro e w8 ⟨g0, va8, mv8, rfl, hg0, hc8, ha8⟩
    have hob8 : BlkAt w8 w.heap.size 106 #[.pointer (some ⟨C, 0, none⟩)] := HCB71.out.asd ha8 HNB.out
    have hb8 : w8.cell? ⟨w.heap.size, 0, none⟩ = some (.pointer (some ⟨C, 0, none⟩)) := hob8.cell 0
    have h28 : w8.cell? ⟨C, 2, none⟩ = some (.slice A7 (op1.filter (fun g => !p3 gs x g)).length c7) := hc8.blk.cell 2
    have HC8 := Lib.hid hc8
    have HA8 := Lib.hid ha8
    have HOB8 := Lib.hid hob8
    refine ⟨_, rfl, hb8, fun hHeld => ?_⟩
    clear hc8 ha8 hob8
    try simp only [Act.put, List.setIfInBounds_toArray, List.set_cons_zero, List.set_cons_succ]
    have n8 := fun o => cell_alloc o hb8
    refine wpAnyH_ready (rs := [4, 8]) (by kernel_rfl) (by simp) ?_
    refine ready_drop rfl (fun K hK => ?_) ?_
    · go_simp
      refine hK.out _ _ hb8 (fun hHeld => ?_)
      clear hK
      try simp only [Act.put, List.setIfInBounds_toArray, List.set_cons_zero, List.set_cons_succ]
      refine wpAnyH_ready (rs := [8]) (by kernel_rfl) (by simp) ?_
      refine ready_drop rfl (fun K hK => ?_) AllReadyH.nil
      go_simp
      refine hK.out _ _ (n8 _) (fun hHeld => ?_)
      clear hK
      try simp only [Act.put, List.setIfInBounds_toArray, List.set_cons_zero, List.set_cons_succ]
      have hrow8 := HC8.out.opn
      have hfl : (op1.filter (fun g => !p3 gs x g)).length ≤ 5000 := Nat.le_trans (List.length_filter_le _ _) hl1
      have hBw8 : B ≤ w8.heap.size := by have := HC8.out.lowC; have := HC8.out.blk.lt; omega
      refine wpAnyH_ready (rs := [9]) (by kernel_rfl) (by simp) ?_
      refine ready_append rfl rfl (.tmp 88) (.tmp 92) 82 rfl B 84 i0 (.pointer none) 1 8 Tryz.underlying82 hi hz0 hz1 hz2 rfl (by decide) (.slice A7 (op1.filter (fun g => !p3 gs x g)).length c7) _ _ rfl (hrow8.alloc _) ⟨w8.heap.size, 0, none⟩ 1 1 [ptr g0] rfl rfl (cells_new' _ [ptr g0] _ _ rfl) (by simp [Value.oneCell']) (by unfold maxLen; omega) (by omega) (by simp; omega) ?_ AllReadyH.nil
      intro v9 w9 hrow9 hg9 hob9
      have hbc9 := (HC8.out.blk.alloc _).kept hg9 (own_blk_ne HC8.out.opn HC8.out.blk (by decide))
      have hbb9 := (HOB8.out.alloc _).kept hg9 (own_blk_ne HC8.out.opn HOB8.out (by decide))
      have q1 : w9.cell? ⟨w.heap.size, 0, none⟩ = some (.pointer (some ⟨C, 0, none⟩)) := hbb9.cell 0
      have q4 : w9.cell? ⟨C, 2, none⟩ = some (.slice A7 (op1.filter (fun g => !p3 gs x g)).length c7) := hbc9.cell 2
      have q5 := hbc9.frozen 2
      obtain ⟨A9, c9, rfl, _, _, _⟩ := own_slice hrow9
      clear hbc9 hbb9
      refine ⟨q1, fun hHeld => ?_⟩
      try simp only [Act.put, List.setIfInBounds_toArray, List.set_cons_zero, List.set_cons_succ]
      refine take_drop 10 (v := ?_) rfl (by kernel_rfl) (by kernel_rfl) (by kernel_rfl) (fun _ _ _ h => h) (by rfl) ?_ (by assumption) ?_
      rotate_left 1
      · (intro w hSw; (try dsimp only at hSw); go_simp; try with_reducible rfl)
      try simp only [Act.put, List.setIfInBounds_toArray, List.set_cons_zero, List.set_cons_succ]
      refine take_drop 11 (v := ?_) rfl (by kernel_rfl) (by kernel_rfl) (by kernel_rfl) (fun _ _ _ h => h) (by rfl) ?_ (by assumption) ?_
      rotate_left 1
      · (intro w hSw; (try dsimp only at hSw); go_simp; try with_reducible rfl)
      try simp only [Act.put, List.setIfInBounds_toArray, List.set_cons_zero, List.set_cons_succ]
      refine wpAnyH_ready (rs := [12]) (by kernel_rfl) (by simp) ?_
      refine ready_drop rfl (fun K hK => ?_) AllReadyH.nil
      go_simp
      refine hK.out _ _ ((World.cell?_setCell_other _ _ _ _ (by simp [ne1.symm])).trans q1) (fun hHeld => ?_)
      clear hK
      try simp only [Act.put, List.setIfInBounds_toArray, List.set_cons_zero, List.set_cons_succ]
      refine wpAnyH_done (by kernel_rfl) ?_ _
      go_wp2
      go_end0
      have e : putN xs i x g0 gs op = (gs ++ [(g0, newG x i)], op1.filter (fun g => !p3 gs x g) ++ [g0]) := by
        unfold putN; rw [if_neg HK.out, if_neg HRE.out, HOP.out, find_of_idx HKG.out HKG2.out]
        simp only []
        rw [HGE.out, if_neg (by have := HM64.out; omega)]
      have hg0' : w7.heap.size ≤ g0 := hg0
      have hBw7 := HB7.out.size
      refine ⟨rfl, g0, va8, .slice A9 ((op1.filter (fun g => !p3 gs x g)).length + 1) c9, mv8, ?_, fun p hp e => by have := (HC7.out.grp p hp).lt; omega, ?_⟩
      · rw [e]
        have := (HC8.out.alloc (.cells #[ptr g0] 84)).setOpen (op' := op1.filter (fun g => !p3 gs x g) ++ [g0]) hg9 (by simpa using hrow9) (hob9.imp id fun e => ⟨_, e, Nat.le_refl _⟩) (fun k hk => by
          rcases List.mem_append.1 hk with hk | hk
          · obtain ⟨y, hy⟩ := HC8.out.sub k hk; exact ⟨y, hy⟩
          · simp at hk; subst hk; exact ⟨newG x i, List.mem_append_right _ (by simp)⟩)
        exact this
      · have b1 : Below B w w7.drew := below_draw HB7.out 1
        have b2 : Below B w w8 := b1.trans (HA8.out.below (by show B ≤ w7.heap.size; omega) (fun j hj => by
          simp only [List.mem_cons, List.not_mem_nil, or_false] at hj
          rcases hj with e | e
          · exact (own_lt HC7.out.all_ e.symm).1
          · rw [Option.some.inj e]; exact HC7.out.lowC))
        have b3 := (b2.alloc hBw8 (.cells #[ptr g0] 84)).grown hg9 (by simp; omega) (fun j e => (own_lt HC8.out.opn e).1)
        exact b3.setCell (p := ⟨C, 2, none⟩) HC8.out.lowC _
    · refine ready_drop rfl (fun K hK => ?_) AllReadyH.nil
      go_simp
      refine hK.out _ _ (n8 _) (fun hHeld => ?_)
      clear hK
      try simp only [Act.put, List.setIfInBounds_toArray, List.set_cons_zero, List.set_cons_succ]
      have h28 := fun o => cell_alloc o h28
      refine wpAnyH_ready (rs := [4]) (by kernel_rfl) (by simp) ?_
      refine ready_drop rfl (fun K hK => ?_) AllReadyH.nil
      go_simp
      refine hK.out _ _ (n8 _) (fun hHeld => ?_)
      clear hK
      try simp only [Act.put, List.setIfInBounds_toArray, List.set_cons_zero, List.set_cons_succ]
      have hrow8 := HC8.out.opn
      have hfl : (op1.filter (fun g => !p3 gs x g)).length ≤ 5000 := Nat.le_trans (List.length_filter_le _ _) hl1
      have hBw8 : B ≤ w8.heap.size := by have := HC8.out.lowC; have := HC8.out.blk.lt; omega
      refine wpAnyH_ready (rs := [9]) (by kernel_rfl) (by simp) ?_
      refine ready_append rfl rfl (.tmp 88) (.tmp 92) 82 rfl B 84 i0 (.pointer none) 1 8 Tryz.underlying82 hi hz0 hz1 hz2 rfl (by decide) (.slice A7 (op1.filter (fun g => !p3 gs x g)).length c7) _ _ rfl (hrow8.alloc _) ⟨w8.heap.size, 0, none⟩ 1 1 [ptr g0] rfl rfl (cells_new' _ [ptr g0] _ _ rfl) (by simp [Value.oneCell']) (by unfold maxLen; omega) (by omega) (by simp; omega) ?_ AllReadyH.nil
      intro v9 w9 hrow9 hg9 hob9
      have hbc9 := (HC8.out.blk.alloc _).kept hg9 (own_blk_ne HC8.out.opn HC8.out.blk (by decide))
      have hbb9 := (HOB8.out.alloc _).kept hg9 (own_blk_ne HC8.out.opn HOB8.out (by decide))
      have q1 : w9.cell? ⟨w.heap.size, 0, none⟩ = some (.pointer (some ⟨C, 0, none⟩)) := hbb9.cell 0
      have q4 : w9.cell? ⟨C, 2, none⟩ = some (.slice A7 (op1.filter (fun g => !p3 gs x g)).length c7) := hbc9.cell 2
      have q5 := hbc9.frozen 2
      obtain ⟨A9, c9, rfl, _, _, _⟩ := own_slice hrow9
      clear hbc9 hbb9
      refine ⟨q1, fun hHeld => ?_⟩
      try simp only [Act.put, List.setIfInBounds_toArray, List.set_cons_zero, List.set_cons_succ]
      refine take_drop 10 (v := ?_) rfl (by kernel_rfl) (by kernel_rfl) (by kernel_rfl) (fun _ _ _ h => h) (by rfl) ?_ (by assumption) ?_
      rotate_left 1
      · (intro w hSw; (try dsimp only at hSw); go_simp; try with_reducible rfl)
      try simp only [Act.put, List.setIfInBounds_toArray, List.set_cons_zero, List.set_cons_succ]
      refine take_drop 11 (v := ?_) rfl (by kernel_rfl) (by kernel_rfl) (by kernel_rfl) (fun _ _ _ h => h) (by rfl) ?_ (by assumption) ?_
      rotate_left 1
      · (intro w hSw; (try dsimp only at hSw); go_simp; try with_reducible rfl)
      try simp only [Act.put, List.setIfInBounds_toArray, List.set_cons_zero, List.set_cons_succ]
      refine wpAnyH_ready (rs := [12]) (by kernel_rfl) (by simp) ?_
      refine ready_drop rfl (fun K hK => ?_) AllReadyH.nil
      go_simp
      refine hK.out _ _ ((World.cell?_setCell_other _ _ _ _ (by simp [ne1.symm])).trans q1) (fun hHeld => ?_)
      clear hK
      try simp only [Act.put, List.setIfInBounds_toArray, List.set_cons_zero, List.set_cons_succ]
      refine wpAnyH_done (by kernel_rfl) ?_ _
      go_wp2
      go_end0
      have e : putN xs i x g0 gs op = (gs ++ [(g0, newG x i)], op1.filter (fun g => !p3 gs x g) ++ [g0]) := by
        unfold putN; rw [if_neg HK.out, if_neg HRE.out, HOP.out, find_of_idx HKG.out HKG2.out]
        simp only []
        rw [HGE.out, if_neg (by have := HM64.out; omega)]
      have hg0' : w7.heap.size ≤ g0 := hg0
      have hBw7 := HB7.out.size
      refine ⟨rfl, g0, va8, .slice A9 ((op1.filter (fun g => !p3 gs x g)).length + 1) c9, mv8, ?_, fun p hp e => by have := (HC7.out.grp p hp).lt; omega, ?_⟩
      · rw [e]
        have := (HC8.out.alloc (.cells #[ptr g0] 84)).setOpen (op' := op1.filter (fun g => !p3 gs x g) ++ [g0]) hg9 (by simpa using hrow9) (hob9.imp id fun e => ⟨_, e, Nat.le_refl _⟩) (fun k hk => by
          rcases List.mem_append.1 hk with hk | hk
          · obtain ⟨y, hy⟩ := HC8.out.sub k hk; exact ⟨y, hy⟩
          · simp at hk; subst hk; exact ⟨newG x i, List.mem_append_right _ (by simp)⟩)
        exact this
      · have b1 : Below B w w7.drew := below_draw HB7.out 1
        have b2 : Below B w w8 := b1.trans (HA8.out.below (by show B ≤ w7.heap.size; omega) (fun j hj => by
          simp only [List.mem_cons, List.not_mem_nil, or_false] at hj
          rcases hj with e | e
          · exact (own_lt HC7.out.all_ e.symm).1
          · rw [Option.some.inj e]; exact HC7.out.lowC))
        have b3 := (b2.alloc hBw8 (.cells #[ptr g0] 84)).grown hg9 (by simp; omega) (fun j e => (own_lt HC8.out.opn e).1)
        exact b3.setCell (p := ⟨C, 2, none⟩) HC8.out.lowC _

end Go.Proofs.YtghjhlenkgkelaaGreatDoor
