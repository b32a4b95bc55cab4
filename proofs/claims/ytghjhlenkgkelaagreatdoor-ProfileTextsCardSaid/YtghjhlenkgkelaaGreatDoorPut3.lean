/- DERIVED. put: a remote read or write. -/
import Derived.Test.YtghjhlenkgkelaaGreatDoorHeld
import Derived.Deep.RegionHeldLaw
set_option linter.unusedSimpArgs false
set_option linter.unusedVariables false
namespace Go.Proofs.YtghjhlenkgkelaaGreatDoor
open Go.RowKit Go.Shelf Go.Sort
set_option maxRecDepth 100000 in
set_option maxHeartbeats 2000000 in
theorem put_remote_some (w : World) (B C i : Nat) (A : Option Addr) (n c : Nat) (xs : List Acc) (x : Acc) (gs : List (Nat × Grp)) (op : List Nat) (va vo : Value) (mv : Nat → Value) (hc : Coll w B C (.slice A n c) gs op va vo mv) (hT : Trace w B A n xs) (hx : xs[i]? = some x) (hn : n ≤ 5000) (hgs : gs.length ≤ 5000) (hop : op.length ≤ 5000)
    (hin : ∀ p ∈ gs, p.2.mem.length ≤ 5000 ∧ ∀ i ∈ p.2.mem, i < xs.length) (hk : x.kind = 1 ∨ x.kind = 2) (hre0 : x.frm ≠ x.at') (k g : Nat) (hkg : (op.filter (fun g => !p2 gs xs x g)).findIdx? (p3 gs x) = some k) (hkg2 : (op.filter (fun g => !p2 gs xs x g))[k]? = some g) (hm64 : (grpOf gs g).mem.length < 64) :
    Calls Tryz.prog 40 #[.pointer (some ⟨C, 0, none⟩), .int .i64 i] w fun e w' => e = .returned (.tuple #[]) ∧ ∃ g0 va' vo' mv', Coll w' B C (.slice A n c) (putN xs i x g0 gs op).1 (putN xs i x g0 gs op).2 va' vo' mv' ∧ (∀ p ∈ gs, p.1 ≠ g0) ∧ Below B w w' := by
  have hBw : B ≤ w.heap.size := by have := hc.lowC; have := hc.blk.lt; omega
  have hilt : i < n := by rw [hT.len]; exact (List.getElem?_eq_some_iff.1 hx).1
  have h0 : w.cell? ⟨C, 0, none⟩ = some (.slice A n c) := hc.blk.cell 0
  have hCl := hc.blk.lt
  obtain ⟨b, o, rfl, hb, hcs⟩ := hT.at_ i x hx
  obtain ⟨c0, c1, c2, c3, c4, c5, c6⟩ := hcs
  have hbw : b < w.heap.size := by omega
  have hC2 := (hc.alloc (.cells #[.pointer (some ⟨C, 0, none⟩)] 106)).alloc (.cells x.cells 45)
  have hab : BlkAt ((w.alloc (.cells #[.pointer (some ⟨C, 0, none⟩)] 106)).alloc (.cells x.cells 45)) (w.heap.size + 1) 45 x.cells := by
    have := BlkAt.new (w.alloc (.cells #[.pointer (some ⟨C, 0, none⟩)] 106)) 45 x.cells
    simpa using this
  have hcb := (BlkAt.new w 106 #[.pointer (some ⟨C, 0, none⟩)]).alloc (.cells x.cells 45)
  have hb2 : Below w.heap.size w ((w.alloc (.cells #[.pointer (some ⟨C, 0, none⟩)] 106)).alloc (.cells x.cells 45)) := ((Below.refl _ w).alloc (Nat.le_refl _) _).alloc (by simp) _
  have hcl := close_any 54 #[.pointer (some ⟨w.heap.size + 1, 0, none⟩), .pointer (some ⟨w.heap.size, 0, none⟩)] (enters_of Tryz.func54 (by kernel_rfl) rfl) (p2 gs xs x) _ B C _ gs op va vo mv hC2 (by omega)
    (pred2 hC2 hab hcb (hT.below hb2 hBw) hn hin)
  have HN1 : Hid (some (w.heap.size + 1) ∉ [vo.ownBlock, some C]) := Lib.hid (by simp only [List.mem_cons, List.not_mem_nil, or_false, not_or]; exact ⟨own_blk_ne hC2.opn hab (by decide), fun e => blk_blk_ne hab hC2.blk (by decide) (Option.some.inj e)⟩)
  have HN2 : Hid (some w.heap.size ∉ [vo.ownBlock, some C]) := Lib.hid (by simp only [List.mem_cons, List.not_mem_nil, or_false, not_or]; exact ⟨own_blk_ne hC2.opn hcb (by decide), fun e => blk_blk_ne hcb hC2.blk (by decide) (Option.some.inj e)⟩)
  have HAB := Lib.hid hab
  have HCB := Lib.hid hcb
  have HT := Lib.hid hT
  have HX := Lib.hid hx
  have HB2 := Lib.hid hb2
  have HC := Lib.hid hc
  have HK : Hid (¬ (x.kind ≠ 1 ∧ x.kind ≠ 2)) := Lib.hid (by omega)
  have HLo : Hid (∀ k, some k ∈ [vo.ownBlock, some C] → B ≤ k) := Lib.hid (fun k hk => by
    simp only [List.mem_cons, List.not_mem_nil, or_false] at hk
    rcases hk with e | e
    · exact (own_lt hc.opn e.symm).1
    · rw [Option.some.inj e]; exact hc.lowC)
  have hkk : ((x.kind != 1) = true ∧ (x.kind != 2) = false) ∨ (x.kind != 1) = false := by
    by_cases h1 : x.kind = 1
    · right; simp [h1]
    · left; have h2 : x.kind = 2 := by omega
      simp [h2]
  clear hab hcb hT hx hb2 hC2 hc hin hk
  unfold Acc.cells at hcl
  have hlen : gs.length ≤ 5000 := hgs
  have hre : (x.frm != x.at') = true := by simpa using hre0
  have hre2 : (x.frm == x.at') = false := by simpa using hre0
  have HRE := Lib.hid hre0
  clear hre0
  generalize hop1 : op.filter (fun g => !p2 gs xs x g) = op1 at *
  have hl1 : op1.length ≤ 5000 := by rw [← hop1]; exact Nat.le_trans (List.length_filter_le _ _) hop
  have hi1 : idxI (p3 gs x) op1 = k := by simp [idxI, hkg]
  have hklt : k < op1.length := (List.getElem?_eq_some_iff.1 hkg2).1
  have hgop : g ∈ op1 := List.mem_of_getElem? hkg2
  obtain ⟨y, hgy⟩ := HC.out.sub g (by rw [← hop1] at hgop; exact (List.mem_filter.1 hgop).1)
  have hgeq : grpOf gs g = y := grpOf_mem HC.out.nodup hgy
  rw [hgeq] at hm64
  have HOP := Lib.hid hop1
  have HKG := Lib.hid hkg
  have HKG2 := Lib.hid hkg2
  have HGY := Lib.hid hgy
  have HGE := Lib.hid hgeq
  have HI1 := Lib.hid hi1
  clear hop1 hkg hkg2 hgy hgeq hgop hi1
  have hmm := HC.out.mem _ HGY.out
  obtain ⟨Am, cm, hmv, _, _, _⟩ := own_slice hmm
  have HMV := Lib.hid hmv
  clear hmv hmm
  obtain ⟨i0, hi, hz0, hz1, hz2⟩ := info_parts int_info
  rcases hkk with ⟨hk1, hk2⟩ | hk1
  all_goals
    go_enter Tryz.func40, Tryz.ntmps40
    go_wp2_with (first
      | (go_at_call 51
         refine hcl.mono ?_
         rintro e w3 ⟨rfl, vo', hc3, hob3, ha3⟩
         clear hcl
         have hab3 := HAB.out.asd ha3 HN1.out
         obtain ⟨d0, d1, d2, d3, d4, d5, d6⟩ := acc_at hab3
         simp only [Nat.zero_add] at d1 d2 d3 d4 d5 d6
         have hcb3 : w3.cell? ⟨w.heap.size, 0, none⟩ = some (.pointer (some ⟨C, 0, none⟩)) := (HCB.out.asd ha3 HN2.out).cell 0
         have hcb4 := fun o => cell_alloc o hcb3
         obtain ⟨Ao, co, rfl, _, _, _⟩ := own_slice hc3.opn
         have hc2 : w3.cell? ⟨C, 2, none⟩ = some (.slice Ao op1.length co) := hc3.blk.cell 2
         have hc4 := fun o => cell_alloc o hc2
         have HAB3 := Lib.hid hab3
         have HCB3 := Lib.hid (HCB.out.asd ha3 HN2.out)
         have HB3 : Hid (Below B w w3) := Lib.hid (below_fin HB2.out ha3 HLo.out hBw)
         have HC3 := Lib.hid hc3
         clear hc3 ha3 hab3)
      | (go_at_call 27; go_in)
      | (go_at_call 58
         have hC4 := HC3.out.alloc (.cells x.cells 45)
         have hx4 := g_indexFunc 57 #[.pointer (some ⟨w.heap.size + 1, 0, none⟩)] (enters_of Tryz.func57 (by kernel_rfl) rfl) ptr (p3 gs x) Ao op1.length co op1 _ (by omega) (sl_own hC4.opn) (pred3 hC4 (HAB3.out.alloc _)).none_
         unfold Acc.cells at hx4
         rw [HI1.out] at hx4
         refine hx4.mono ?_
         rintro e w5 ⟨rfl, hb5⟩
         clear hx4
         have hC5 := hC4.below hb5
         have HC5 := Lib.hid hC5
         have hcb5 := (hb5.cell (p := ⟨w.heap.size, 0, none⟩) (cell_lt (hcb4 _))).trans (hcb4 _)
         have hc5 : w5.cell? ⟨C, 2, none⟩ = some (.slice Ao op1.length co) := hC5.blk.cell 2
         obtain ⟨gb, go, rfl, hgl, hgc⟩ := (sl_own hC5.opn).at_ k g HKG2.out
         have hg4 : w5.cell? ⟨g, 4, none⟩ = some (.slice Am y.mem.length cm) := by
           have := (hC5.grp _ HGY.out).cell 4
           simpa [gcells, HMV.out] using this
         have HB5 : Hid (Below B w w5) := Lib.hid ((HB3.out.alloc (by have := HB3.out.size; omega) _).trans (hb5.mono (by have := HB3.out.size; simp; omega)))
         have HCB5 : Hid (BlkAt w5 w.heap.size 106 #[.pointer (some ⟨C, 0, none⟩)]) := Lib.hid ((HCB3.out.alloc _).below hb5 (HCB3.out.alloc _).lt)
         clear hC4 hC5 hb5))
    have hC5 := HC5.out.below (below_draw (Below.refl _ w5) 1)
    have hCB5 : BlkAt (w5.drewN 1) w.heap.size 106 #[.pointer (some ⟨C, 0, none⟩)] := HCB5.out
    have hm5 : (w5.drewN 1).ownsRow B 3 1 (.slice Am y.mem.length cm) y.mem.length (y.mem.map intV) := HMV.out ▸ hC5.mem _ HGY.out
    have HC51 := Lib.hid hC5
    have HCB51 := Lib.hid hCB5
    clear hC5 hCB5
    have ne1 : w.heap.size ≠ g := blk_blk_ne HCB5.out (HC5.out.grp _ HGY.out) (by decide)
    have ne2 : C ≠ g := blk_blk_ne HC5.out.blk (HC5.out.grp _ HGY.out) (by decide)
    have ne3 : gb ≠ g := fun e => own_blk_ne HC5.out.opn (HC5.out.grp _ HGY.out) (by decide) (by rw [← e]; rfl)
    have n1 := fun o => cell_alloc o hcb5
    have n2 := fun o => cell_alloc o hc5
    have n3 := fun o => cell_alloc o hgc
    have n4 := fun o => cell_alloc o hg4
    refine wp_region_held_drew (S := fun w' => w'.cell? ⟨w.heap.size, 0, none⟩ = some (.pointer (some ⟨C, 0, none⟩)) ∧ w'.cell? ⟨C, 2, none⟩ = some (.slice (some ⟨gb, go, none⟩) op1.length co) ∧ w'.cell? ⟨gb, go + k, none⟩ = some (ptr g)) (by kernel_rfl) ⟨hcb5, hc5, hgc⟩ ?_
    intro hHeld
    refine take_drop 0 (v := ?_) rfl (by kernel_rfl) (by kernel_rfl) (by kernel_rfl) (fun _ _ _ h => h) (by rfl) ?_ (by assumption) ?_
    rotate_left 1
    · (intro w hSw; (try dsimp only at hSw); go_simp; try with_reducible rfl)
    try simp only [Act.put, List.setIfInBounds_toArray, List.set_cons_zero, List.set_cons_succ]
    refine take_drop 1 (v := ?_) rfl (by kernel_rfl) (by kernel_rfl) (by kernel_rfl) (fun _ _ _ h => h) (by rfl) ?_ (by assumption) ?_
    rotate_left 1
    · (intro w hSw; (try dsimp only at hSw); go_simp; try with_reducible rfl)
    try simp only [Act.put, List.setIfInBounds_toArray, List.set_cons_zero, List.set_cons_succ]
    refine take_drop 2 (v := ?_) rfl (by kernel_rfl) (by kernel_rfl) (by kernel_rfl) (fun _ _ _ h => h) (by rfl) ?_ (by assumption) ?_
    rotate_left 1
    · (intro w hSw; (try dsimp only at hSw); go_simp; try with_reducible rfl)
    try simp only [Act.put, List.setIfInBounds_toArray, List.set_cons_zero, List.set_cons_succ]
    refine take_drop 3 (v := ?_) rfl (by kernel_rfl) (by kernel_rfl) (by kernel_rfl) (fun _ _ _ h => h) (by rfl) ?_ (by assumption) ?_
    rotate_left 1
    · (intro w hSw; (try dsimp only at hSw); go_simp; try with_reducible rfl)
    try simp only [Act.put, List.setIfInBounds_toArray, List.set_cons_zero, List.set_cons_succ]
    refine take_drop 4 (v := ?_) rfl (by kernel_rfl) (by kernel_rfl) (by kernel_rfl) (fun _ _ _ h => h) (by rfl) ?_ (by assumption) ?_
    rotate_left 1
    · (intro w hSw; (try dsimp only at hSw); go_simp; try with_reducible rfl)
    try simp only [Act.put, List.setIfInBounds_toArray, List.set_cons_zero, List.set_cons_succ]
    refine take_drop 5 (v := ?_) rfl (by kernel_rfl) (by kernel_rfl) (by kernel_rfl) (fun _ _ _ h => h) (by rfl) ?_ (by assumption) ?_
    rotate_left 1
    · (intro w hSw; (try dsimp only at hSw); go_simp; try with_reducible rfl)
    try simp only [Act.put, List.setIfInBounds_toArray, List.set_cons_zero, List.set_cons_succ]
    refine take_drop 6 (v := ?_) rfl (by kernel_rfl) (by kernel_rfl) (by kernel_rfl) (fun _ _ _ h => h) (by rfl) ?_ (by assumption) ?_
    rotate_left 1
    · (intro w hSw; (try dsimp only at hSw); go_simp; try with_reducible rfl)
    try simp only [Act.put, List.setIfInBounds_toArray, List.set_cons_zero, List.set_cons_succ]
    refine take_drop 7 (v := ?_) rfl (by kernel_rfl) (by kernel_rfl) (by kernel_rfl) (fun _ _ _ h => h) (by rfl) ?_ (by assumption) ?_
    rotate_left 1
    · (intro w hSw; (try dsimp only at hSw); go_simp; try with_reducible rfl)
    try simp only [Act.put, List.setIfInBounds_toArray, List.set_cons_zero, List.set_cons_succ]
    refine take_drop 8 (v := ?_) rfl (by kernel_rfl) (by kernel_rfl) (by kernel_rfl) (fun _ _ _ h => h) (by rfl) ?_ (by assumption) ?_
    rotate_left 1
    · (intro w hSw; (try dsimp only at hSw); go_simp; try with_reducible rfl)
    try simp only [Act.put, List.setIfInBounds_toArray, List.set_cons_zero, List.set_cons_succ]
    refine take_drop 9 (v := ?_) rfl (by kernel_rfl) (by kernel_rfl) (by kernel_rfl) (fun _ _ _ h => h) (by rfl) ?_ (by assumption) ?_
    rotate_left 1
    · (intro w hSw; (try dsimp only at hSw); go_simp; try with_reducible rfl)
    try simp only [Act.put, List.setIfInBounds_toArray, List.set_cons_zero, List.set_cons_succ]
    refine take_drop 10 (v := ?_) rfl (by kernel_rfl) (by kernel_rfl) (by kernel_rfl) (fun _ _ _ h => h) (by rfl) ?_ (by assumption) ?_
    rotate_left 1
    · (intro w hSw; (try dsimp only at hSw); go_simp; try with_reducible rfl)
    try simp only [Act.put, List.setIfInBounds_toArray, List.set_cons_zero, List.set_cons_succ]
    refine take_drop 11 (v := ?_) rfl (by kernel_rfl) (by kernel_rfl) (by kernel_rfl) (fun _ _ _ h => h) (by rfl) ?_ (by assumption) ?_
    rotate_left 1
    · (intro w hSw; (try dsimp only at hSw); go_simp; try with_reducible rfl)
    try simp only [Act.put, List.setIfInBounds_toArray, List.set_cons_zero, List.set_cons_succ]
    refine take_drop 12 (v := ?_) rfl (by kernel_rfl) (by kernel_rfl) (by kernel_rfl) (fun _ _ _ h => h) (by rfl) ?_ (by assumption) ?_
    rotate_left 1
    · (intro w hSw; (try dsimp only at hSw); go_simp; try with_reducible rfl)
    try simp only [Act.put, List.setIfInBounds_toArray, List.set_cons_zero, List.set_cons_succ]
    refine take_drop 13 (v := ?_) rfl (by kernel_rfl) (by kernel_rfl) (by kernel_rfl) (fun _ _ _ h => h) (by rfl) ?_ (by assumption) ?_
    rotate_left 1
    · (intro w hSw; (try dsimp only at hSw); go_simp; try with_reducible rfl)
    try simp only [Act.put, List.setIfInBounds_toArray, List.set_cons_zero, List.set_cons_succ]
    refine take_drop 14 (v := ?_) rfl (by kernel_rfl) (by kernel_rfl) (by kernel_rfl) (fun _ _ _ h => h) (by rfl) ?_ (by assumption) ?_
    rotate_left 1
    · (intro w hSw; (try dsimp only at hSw); go_simp; try with_reducible rfl)
    try simp only [Act.put, List.setIfInBounds_toArray, List.set_cons_zero, List.set_cons_succ]
    refine take_drop 15 (v := ?_) rfl (by kernel_rfl) (by kernel_rfl) (by kernel_rfl) (fun _ _ _ h => h) (by rfl) ?_ (by assumption) ?_
    rotate_left 1
    · (intro w hSw; (try dsimp only at hSw); go_simp; try with_reducible rfl)
    try simp only [Act.put, List.setIfInBounds_toArray, List.set_cons_zero, List.set_cons_succ]
    refine take_drop 17 (v := ?_) rfl (by kernel_rfl) (by kernel_rfl) (by kernel_rfl) (fun _ _ _ h => h) (by rfl) ?_ (by assumption) ?_
    rotate_left 1
    · (intro w hSw; (try dsimp only at hSw); go_simp; try with_reducible rfl)
    try simp only [Act.put, List.setIfInBounds_toArray, List.set_cons_zero, List.set_cons_succ]
    refine wpAnyH_ready (rs := [16, 18]) (by kernel_rfl) (by simp) ?_
    refine ready_drop rfl (fun K hK => ?_) (ready_drop rfl (fun K hK => ?_) AllReadyH.nil)
    · go_simp
      refine hK.out _ _ ⟨hcb5, hc5, hgc⟩ (fun hHeld => ?_)
      clear hK
      try simp only [Act.put, List.setIfInBounds_toArray, List.set_cons_zero, List.set_cons_succ]
      refine wpAnyH_ready (rs := [18]) (by kernel_rfl) (by simp) ?_
      refine ready_drop rfl (fun K hK => ?_) AllReadyH.nil
      go_simp
      refine hK.out _ _ ⟨n1 _, n2 _, n3 _⟩ (fun hHeld => ?_)
      clear hK
      try simp only [Act.put, List.setIfInBounds_toArray, List.set_cons_zero, List.set_cons_succ]
      refine wpAnyH_ready (rs := [19]) (by kernel_rfl) (by simp) ?_
      refine ready_drop rfl (fun K hK => ?_) AllReadyH.nil
      refine step_append_at rfl (.tmp 75) (.tmp 77) 85 rfl B 3 i0 (.int .i64 0) 1 8 Tryz.underlying85 hi hz0 hz1 hz2 rfl (by decide) (.slice Am y.mem.length cm) _ _ rfl (hm5.alloc _) ⟨w5.heap.size, 0, none⟩ 1 1 [.int .i64 i] rfl rfl (cells_new' _ [.int .i64 i] _ _ rfl) (by simp [Value.oneCell']) (by unfold maxLen; omega) (by omega) (by have := HB5.out.size; have := hBw; simp; omega) ?_
      intro v' w6 hrow hg6 hob6
      obtain ⟨q1, q2, q3, q4, q5⟩ := facts6 HC51.out HCB51.out HGY.out rfl HKG2.out (HMV.out ▸ hg6)
      rw [HMV.out] at q4
      obtain ⟨A6, c6, rfl, _, _, _⟩ := own_slice hrow
      refine hK.out _ _ ⟨q1, q2, q3⟩ (fun hHeld => ?_)
      clear hK
      try simp only [Act.put, List.setIfInBounds_toArray, List.set_cons_zero, List.set_cons_succ]
      refine take_drop 20 (v := ?_) rfl (by kernel_rfl) (by kernel_rfl) (by kernel_rfl) (fun _ _ _ h => h) (by rfl) ?_ (by assumption) ?_
      rotate_left 1
      · (intro w hSw; (try dsimp only at hSw); go_simp; try with_reducible rfl)
      try simp only [Act.put, List.setIfInBounds_toArray, List.set_cons_zero, List.set_cons_succ]
      refine take_drop 21 (v := ?_) rfl (by kernel_rfl) (by kernel_rfl) (by kernel_rfl) (fun _ _ _ h => h) (by rfl) ?_ (by assumption) ?_
      rotate_left 1
      · (intro w hSw; (try dsimp only at hSw); go_simp; try with_reducible rfl)
      try simp only [Act.put, List.setIfInBounds_toArray, List.set_cons_zero, List.set_cons_succ]
      refine wpAnyH_ready (rs := [22]) (by kernel_rfl) (by simp) ?_
      refine ready_drop rfl (fun K hK => ?_) AllReadyH.nil
      go_simp
      refine hK.out _ _ ⟨(World.cell?_setCell_other _ _ _ _ (by simp [ne1.symm])).trans q1, (World.cell?_setCell_other _ _ _ _ (by simp [ne2.symm])).trans q2, (World.cell?_setCell_other _ _ _ _ (by simp [ne3.symm])).trans q3⟩ (fun hHeld => ?_)
      clear hK
      try simp only [Act.put, List.setIfInBounds_toArray, List.set_cons_zero, List.set_cons_succ]
      refine wpAnyH_done (by kernel_rfl) ?_ _
      go_wp2
      refine bodyPost_ret (results_none rfl _ _ _) rfl ?_
      obtain ⟨⟨mv', hF⟩, hFB⟩ := fin_some HC51.out HGY.out (HMV.out ▸ hg6) hrow (HMV.out ▸ hob6)
      have e : putN xs i x w.heap.size gs op = (addMem gs g i, op1) := by
        unfold putN; rw [if_neg HK.out, if_neg HRE.out, HOP.out, find_of_idx HKG.out HKG2.out]
        simp only []
        rw [HGE.out, if_pos hm64]
      refine ⟨rfl, w.heap.size, va, .slice (some ⟨gb, go, none⟩) op1.length co, mv', ?_, fun p hp e => by have := (HC.out.grp p hp).lt; omega, ?_⟩
      · rw [e]; exact hF
      · exact (below_draw HB5.out 1).trans hFB
    · go_simp
      refine hK.out _ _ ⟨n1 _, n2 _, n3 _⟩ (fun hHeld => ?_)
      clear hK
      try simp only [Act.put, List.setIfInBounds_toArray, List.set_cons_zero, List.set_cons_succ]
      refine wpAnyH_ready (rs := [16]) (by kernel_rfl) (by simp) ?_
      refine ready_drop rfl (fun K hK => ?_) AllReadyH.nil
      go_simp
      refine hK.out _ _ ⟨n1 _, n2 _, n3 _⟩ (fun hHeld => ?_)
      clear hK
      try simp only [Act.put, List.setIfInBounds_toArray, List.set_cons_zero, List.set_cons_succ]
      refine wpAnyH_ready (rs := [19]) (by kernel_rfl) (by simp) ?_
      refine ready_drop rfl (fun K hK => ?_) AllReadyH.nil
      refine step_append_at rfl (.tmp 75) (.tmp 77) 85 rfl B 3 i0 (.int .i64 0) 1 8 Tryz.underlying85 hi hz0 hz1 hz2 rfl (by decide) (.slice Am y.mem.length cm) _ _ rfl (hm5.alloc _) ⟨w5.heap.size, 0, none⟩ 1 1 [.int .i64 i] rfl rfl (cells_new' _ [.int .i64 i] _ _ rfl) (by simp [Value.oneCell']) (by unfold maxLen; omega) (by omega) (by have := HB5.out.size; have := hBw; simp; omega) ?_
      intro v' w6 hrow hg6 hob6
      obtain ⟨q1, q2, q3, q4, q5⟩ := facts6 HC51.out HCB51.out HGY.out rfl HKG2.out (HMV.out ▸ hg6)
      rw [HMV.out] at q4
      obtain ⟨A6, c6, rfl, _, _, _⟩ := own_slice hrow
      refine hK.out _ _ ⟨q1, q2, q3⟩ (fun hHeld => ?_)
      clear hK
      try simp only [Act.put, List.setIfInBounds_toArray, List.set_cons_zero, List.set_cons_succ]
      refine take_drop 20 (v := ?_) rfl (by kernel_rfl) (by kernel_rfl) (by kernel_rfl) (fun _ _ _ h => h) (by rfl) ?_ (by assumption) ?_
      rotate_left 1
      · (intro w hSw; (try dsimp only at hSw); go_simp; try with_reducible rfl)
      try simp only [Act.put, List.setIfInBounds_toArray, List.set_cons_zero, List.set_cons_succ]
      refine take_drop 21 (v := ?_) rfl (by kernel_rfl) (by kernel_rfl) (by kernel_rfl) (fun _ _ _ h => h) (by rfl) ?_ (by assumption) ?_
      rotate_left 1
      · (intro w hSw; (try dsimp only at hSw); go_simp; try with_reducible rfl)
      try simp only [Act.put, List.setIfInBounds_toArray, List.set_cons_zero, List.set_cons_succ]
      refine wpAnyH_ready (rs := [22]) (by kernel_rfl) (by simp) ?_
      refine ready_drop rfl (fun K hK => ?_) AllReadyH.nil
      go_simp
      refine hK.out _ _ ⟨(World.cell?_setCell_other _ _ _ _ (by simp [ne1.symm])).trans q1, (World.cell?_setCell_other _ _ _ _ (by simp [ne2.symm])).trans q2, (World.cell?_setCell_other _ _ _ _ (by simp [ne3.symm])).trans q3⟩ (fun hHeld => ?_)
      clear hK
      try simp only [Act.put, List.setIfInBounds_toArray, List.set_cons_zero, List.set_cons_succ]
      refine wpAnyH_done (by kernel_rfl) ?_ _
      go_wp2
      refine bodyPost_ret (results_none rfl _ _ _) rfl ?_
      obtain ⟨⟨mv', hF⟩, hFB⟩ := fin_some HC51.out HGY.out (HMV.out ▸ hg6) hrow (HMV.out ▸ hob6)
      have e : putN xs i x w.heap.size gs op = (addMem gs g i, op1) := by
        unfold putN; rw [if_neg HK.out, if_neg HRE.out, HOP.out, find_of_idx HKG.out HKG2.out]
        simp only []
        rw [HGE.out, if_pos hm64]
      refine ⟨rfl, w.heap.size, va, .slice (some ⟨gb, go, none⟩) op1.length co, mv', ?_, fun p hp e => by have := (HC.out.grp p hp).lt; omega, ?_⟩
      · rw [e]; exact hF
      · exact (below_draw HB5.out 1).trans hFB
end Go.Proofs.YtghjhlenkgkelaaGreatDoor
