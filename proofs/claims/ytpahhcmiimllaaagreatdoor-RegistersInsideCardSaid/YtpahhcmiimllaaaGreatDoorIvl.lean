/- DERIVED. The intervals of a life. -/
import Derived.Test.YtpahhcmiimllaaaGreatDoorIvF
import Derived.Deep.LoopGhost
import Derived.Laws.EntriesVeiled
import Derived.Deep.CutRange
set_option linter.unusedSimpArgs false
set_option linter.unusedVariables false
namespace Go.Proofs.YtpahhcmiimllaaaGreatDoor
open Go.RowKit Go.Shelf Go.ChangeMaps
attribute [local go_sem] Oper.semAt_some

def encItv (v : Itv) : List Value := [.int .i64 v.reg, .int .i64 v.frm, .int .i64 v.to]
set_option maxRecDepth 100000 in
theorem frame88_lit (f : Nat → Value) (p0 p3 p4 p19 p20 p21 : Value) : frameN 88 f [(0, p0), (3, p3), (4, p4), (19, p19), (20, p20), (21, p21)] = #[p0, f 1, f 2, p3, p4, f 5, f 6, f 7, f 8, f 9, f 10, f 11, f 12, f 13, f 14, f 15, f 16, f 17, f 18, p19, p20, p21, f 22, f 23, f 24, f 25, f 26, f 27, f 28, f 29, f 30, f 31, f 32, f 33, f 34, f 35, f 36, f 37, f 38, f 39, f 40, f 41, f 42, f 43, f 44, f 45, f 46, f 47, f 48, f 49, f 50, f 51, f 52, f 53, f 54, f 55, f 56, f 57, f 58, f 59, f 60, f 61, f 62, f 63, f 64, f 65, f 66, f 67, f 68, f 69, f 70, f 71, f 72, f 73, f 74, f 75, f 76, f 77, f 78, f 79, f 80, f 81, f 82, f 83, f 84, f 85, f 86, f 87] := rfl
set_option maxRecDepth 100000 in
theorem frameA_lit (f : Nat → Value) (p0 p3 p4 p5 p19 p20 p21 p53 : Value) : frameN 88 f [(0, p0), (3, p3), (4, p4), (5, p5), (19, p19), (20, p20), (21, p21), (53, p53)] = #[p0, f 1, f 2, p3, p4, p5, f 6, f 7, f 8, f 9, f 10, f 11, f 12, f 13, f 14, f 15, f 16, f 17, f 18, p19, p20, p21, f 22, f 23, f 24, f 25, f 26, f 27, f 28, f 29, f 30, f 31, f 32, f 33, f 34, f 35, f 36, f 37, f 38, f 39, f 40, f 41, f 42, f 43, f 44, f 45, f 46, f 47, f 48, f 49, f 50, f 51, f 52, p53, f 54, f 55, f 56, f 57, f 58, f 59, f 60, f 61, f 62, f 63, f 64, f 65, f 66, f 67, f 68, f 69, f 70, f 71, f 72, f 73, f 74, f 75, f 76, f 77, f 78, f 79, f 80, f 81, f 82, f 83, f 84, f 85, f 86, f 87] := rfl
set_option maxRecDepth 100000 in
theorem frameB_lit (f : Nat → Value) (p0 p3 p4 p5 p19 p20 p21 p66 : Value) : frameN 88 f [(0, p0), (3, p3), (4, p4), (5, p5), (19, p19), (20, p20), (21, p21), (66, p66)] = #[p0, f 1, f 2, p3, p4, p5, f 6, f 7, f 8, f 9, f 10, f 11, f 12, f 13, f 14, f 15, f 16, f 17, f 18, p19, p20, p21, f 22, f 23, f 24, f 25, f 26, f 27, f 28, f 29, f 30, f 31, f 32, f 33, f 34, f 35, f 36, f 37, f 38, f 39, f 40, f 41, f 42, f 43, f 44, f 45, f 46, f 47, f 48, f 49, f 50, f 51, f 52, f 53, f 54, f 55, f 56, f 57, f 58, f 59, f 60, f 61, f 62, f 63, f 64, f 65, p66, f 67, f 68, f 69, f 70, f 71, f 72, f 73, f 74, f 75, f 76, f 77, f 78, f 79, f 80, f 81, f 82, f 83, f 84, f 85, f 86, f 87] := rfl
theorem wp_frame {P : Program} {c : Code} {Q : Exit → Act → World → Prop} {l : List Value} {ds : List Deferred} {w : World} (n : Nat) (kv : List (Nat × Value)) (h : l.length = n) (hkv : ∀ p ∈ kv, l[p.1]? = some p.2) (hw : ∀ f, c.wp P Q { tmps := frameN n f kv, defers := ds } w) : c.wp P Q { tmps := l.toArray, defers := ds } w := by
  rw [frame_exN n l h kv hkv]; exact hw _
theorem itv_info : (Tryz.prog.info? 44).map (fun i => (i.zero, i.size, i.bytes)) = some (some (.agg #[.int .i64 0, .int .i64 0, .int .i64 0]), 3, 24) := by kernel_rfl
theorem own_keepG {w w' : World} {base k n : Nat} {e : TypeId} {v : Value} {xs : List Value} {row : Option Nat} (h : w.ownsRow base e k v n xs) (hg : w.grownBy w' row) (hne : ∀ j, v.ownBlock = some j → some j ≠ row) : w'.ownsRow base e k v n xs := by
  refine ⟨h.1, h.2.imp id ?_⟩
  rintro ⟨g, cap, cur, h1, h2, h3, h4⟩
  exact ⟨g, cap, cur, h1, h2, (show BlkAt w g e cur from h3).kept hg (hne g (by rw [h1]; rfl)), h4⟩
theorem nodup_reg {ms : List Itv} (h : (ms.map Itv.reg).Nodup) : ms.Nodup := by
  unfold List.Nodup at h ⊢
  rw [List.pairwise_map] at h
  exact h.imp (fun hne e => hne (by rw [e]))
def lenV : Value → Nat
  | .slice _ n _ => n
  | _ => 0
theorem own_low {w : World} {base b2 k n : Nat} {e : TypeId} {v : Value} {xs : List Value} (h : w.ownsRow base e k v n xs) (hb : b2 ≤ base) : w.ownsRow b2 e k v n xs := by
  refine ⟨h.1, h.2.imp id ?_⟩
  rintro ⟨g, cap, cur, h1, h2, h3⟩
  exact ⟨g, cap, cur, h1, Nat.le_trans hb h2, h3⟩
/-- the interval that a pointer of the map leads to -/
def valP (ms : List Itv) (gs : List Nat) (p : Nat × Option Nat) : Itv := ms.getD (gs.idxOf (p.2.getD 0)) default
theorem valP_at {ms : List Itv} {gs : List Nat} (hn : gs.Nodup) {k : Nat} {v : Itv} {g q : Nat} (hv : ms[k]? = some v) (hg : gs[k]? = some g) : valP ms gs (q, some g) = v := by
  unfold valP
  obtain ⟨hk, e⟩ := List.getElem?_eq_some_iff.1 hg
  have : gs.idxOf g = k := by rw [← e]; exact hn.idxOf_getElem k hk
  rw [Option.getD_some, this, List.getD_eq_getElem?_getD, hv]; rfl
theorem zipR_mem {ms : List Itv} {gs : List Nat} {p : Nat × Option Nat} (h : p ∈ (ms.map Itv.reg).zip (gs.map some)) : ∃ (k : Nat) (v : Itv) (g : Nat), ms[k]? = some v ∧ gs[k]? = some g ∧ p = (v.reg, some g) := by
  obtain ⟨k, hk⟩ := List.getElem?_of_mem h
  rw [List.getElem?_zip_eq_some, List.getElem?_map, List.getElem?_map] at hk
  obtain ⟨h1, h2⟩ := hk
  obtain ⟨v, hv, e1⟩ := Option.map_eq_some_iff.1 h1
  obtain ⟨g, hg, e2⟩ := Option.map_eq_some_iff.1 h2
  exact ⟨k, v, g, hv, hg, by cases p; simp_all⟩
theorem valP_all {ms : List Itv} {gs : List Nat} (hn : gs.Nodup) (hl : gs.length = ms.length) : ((ms.map Itv.reg).zip (gs.map some)).map (valP ms gs) = ms := by
  refine List.ext_getElem? fun k => ?_
  rw [List.getElem?_map]
  rcases hv : ms[k]? with _ | v
  · rw [List.getElem?_eq_none]; rfl
    have := List.getElem?_eq_none_iff.1 hv
    simp; omega
  · obtain ⟨g, hg⟩ := get_some (xs := gs) (k := k) (by rw [hl]; exact (List.getElem?_eq_some_iff.1 hv).1)
    have : ((ms.map Itv.reg).zip (gs.map some))[k]? = some (v.reg, some g) := by
      rw [List.getElem?_zip_eq_some]; simp [hv, hg]
    rw [this, Option.map_some, valP_at hn hv hg]
theorem below_put {B l : Nat} {W : World} {o o' : Obj} (hB : B ≤ l) (ho : W.heap[l]? = some o) : Below B W (W.putObj l o') :=
  (Below.refl B W).grown (grownBy_putObj' W l o') (by have := (Array.getElem?_eq_some_iff.1 ho).1; omega) (fun k e => by cases e; omega)
set_option maxRecDepth 100000 in
set_option maxHeartbeats 16000000 in
theorem intervals_any (B0 X : Nat) (b : BodyL) (A : Option Addr) (n c nw regs : Nat) (us : List UseV) (vU vA vB : Value) (gA gB : List (Nat × Nat)) (ah be : List (List Nat)) (w : World)
    (hL : LifeAt w B0 X b A n c nw us vU vA vB gA gB ah be) (hul : us.length = b.code.length) (hF : FixL nw b.code ah be) (hO : CodeOK nw b.code) (hD : DebAt w) (hnw : nw ≤ 1000) (hlen : b.code.length ≤ 1000) (hne : b.code ≠ [])
    (hrg : ∀ i r, i < b.code.length → tchB b.code ah be i r = true → r < regs) (hsh : ∀ x ∈ b.code, x.list.length ≤ 100) (hil : (itvL b.code ah be regs).length ≤ 100000) :
    Calls Tryz.prog 41 #[.pointer (some ⟨X, 0, none⟩)] w fun e w' => (∃ v, e = .returned v ∧ w'.ownsRow w.heap.size 44 3 v (itvL b.code ah be regs).length ((itvL b.code ah be regs).flatMap encItv)) ∧ Below w.heap.size w w' := by
  have HL := Lib.hid hL
  have HUL := Lib.hid hul
  have HF := Lib.hid hF
  have HO := Lib.hid hO
  have HDB := Lib.hid hD
  have HRG := Lib.hid hrg
  have HSH := Lib.hid hsh
  have hul1 : us.length ≤ 1000 := by omega
  have hpos : 0 < us.length := by have := List.length_pos_iff.2 hne; omega
  have hmm := @run_makeMap Tryz.prog
  obtain ⟨bU, cU, _, hvU, _, _, _⟩ := own_blk hL.uses hpos
  obtain ⟨ga, ca, _, hvA, _, _, _⟩ := own_blk hL.rowA (by rw [hL.wsA.len, hF.la]; omega)
  obtain ⟨gv, cv, _, hvB, _, _, _⟩ := own_blk hL.rowB (by rw [hL.wsB.len, hF.lb]; omega)
  subst hvU
  subst hvA
  subst hvB
  have HB0 : Hid (Below w.heap.size w (((w.alloc (.map #[] 0)).alloc (.cells #[.map (some w.heap.size)] 142)).alloc (.cells #[.func (.func 82) #[] #[.pointer (some ⟨w.heap.size + 1, 0, none⟩)]] 144))) := Lib.hid ((((Below.refl w.heap.size w).alloc (Nat.le_refl _) _).alloc (alloc_sz (Nat.le_refl _)) _).alloc (alloc_sz (alloc_sz (Nat.le_refl _))) _)
  have HL0 := Lib.hid (hL.below HB0.out)
  have e4 := HL0.out.blk.cell 4
  simp only [List.getElem?_toArray, List.getElem?_cons_succ, List.getElem?_cons_zero] at e4
  have HIV : Hid (IvI w w.heap.size (w.heap.size + 1) (w.heap.size + 1 + 1) (.func (.func 82) #[] #[.pointer (some ⟨w.heap.size + 1, 0, none⟩)]) (((w.alloc (.map #[] 0)).alloc (.cells #[.map (some w.heap.size)] 142)).alloc (.cells #[.func (.func 82) #[] #[.pointer (some ⟨w.heap.size + 1, 0, none⟩)]] 144)) (touched (tchB b.code ah be) 0 (fun _ => False)) [] [] []) := Lib.hid (by
    have h1 : BlkAt ((w.alloc (.map #[] 0)).alloc (.cells #[.map (some w.heap.size)] 142)) (w.heap.size + 1) 142 #[.map (some w.heap.size)] := by
      have := BlkAt.new (w.alloc (.map #[] 0)) 142 #[.map (some w.heap.size)]
      rwa [World.size_alloc] at this
    have h2 := BlkAt.new ((w.alloc (.map #[] 0)).alloc (.cells #[.map (some w.heap.size)] 142)) 144 #[.func (.func 82) #[] #[.pointer (some ⟨w.heap.size + 1, 0, none⟩)]]
    rw [World.size_alloc, World.size_alloc] at h2
    exact ⟨⟨((MapOf.made w).alloc _).alloc _, rfl, by simp, by simp, by simp, Nat.le_refl _⟩, evs_iff evs_nil (fun r i => by unfold touched; constructor
                                                                                                                             · intro h; exact h.elim
                                                                                                                             · rintro (⟨h, _⟩ | ⟨_, h⟩)
                                                                                                                               · omega
                                                                                                                               · exact h), h1.alloc _, h2, HB0.out, trivial⟩)
  clear hL hul hF hO hD hrg hne hlen hsh
  refine calls_of_marks Tryz.func41 rfl ?_
  simp only [Tryz.ntmps41, List.size_toArray, List.length_cons, List.length_nil, Nat.reduceAdd, Nat.reduceSub, Array.replicate_succ, Array.replicate_zero, List.push_toArray, List.append_toArray, List.nil_append, List.cons_append]
  go_wp2_with fail
  clear e4 hmm
  obtain ⟨W0, hW0⟩ : ∃ W0, (((w.alloc (.map #[] 0)).alloc (.cells #[.map (some w.heap.size)] 142)).alloc (.cells #[.func (.func 82) #[] #[.pointer (some ⟨w.heap.size + 1, 0, none⟩)]] 144)) = W0 := ⟨_, rfl⟩
  rw [hW0] at HIV HB0 HL0 ⊢
  clear hW0
  obtain ⟨Bm, hBm⟩ : ∃ Bm, w.heap.size + 1 = Bm := ⟨_, rfl⟩
  obtain ⟨Bf, hBf⟩ : ∃ Bf, w.heap.size + 1 + 1 = Bf := ⟨_, rfl⟩
  rw [hBf, hBm] at HIV ⊢
  have hmBm : w.heap.size < Bm := by omega
  clear hBm hBf HL0
  refine wp_loop_ghost_k (fun gk a W => ∃ (f : Nat → Value) (i : Nat) (ms : List Itv) (gs : List Nat) (ds : List Deferred),
    a = { tmps := frameN 88 f [(0, .pointer (some ⟨X, 0, none⟩)), (3, .pointer (some ⟨Bm, 0, none⟩)), (4, .pointer (some ⟨Bf, 0, none⟩)), (19, (.slice (some ⟨bU, 0, none⟩) us.length cU)), (20, .int .i64 us.length), (21, .int .i64 i)], defers := ds } ∧ i ≤ us.length ∧ gk = us.length - i ∧ Hid (IvI w w.heap.size Bm Bf (.func (.func 82) #[] #[.pointer (some ⟨Bm, 0, none⟩)]) W (touched (tchB b.code ah be) i (fun _ => False)) ms gs ds)) _
    ⟨_, 0, [], [], [], congrArg (fun t => Act.mk t []) (frame_exN 88 _ rfl _ (by intro p hp; simp only [List.mem_cons, List.not_mem_nil, or_false] at hp; rcases hp with rfl | rfl | rfl | rfl | rfl | rfl <;> rfl)), by omega, rfl, HIV⟩ ?_
  clear HIV HB0
  rintro gk a W ⟨f, i, ms, gs, ds, rfl, hin, hgk, HI⟩ J K hJ hK
  rw [frame88_lit]
  have HGK := Lib.hid hgk
  clear hgk
  by_cases hlt : i < us.length
  · obtain ⟨u, hu⟩ := get_some (xs := us) (k := i) hlt
    have HLW := Lib.hid (HL.out.below HI.out.bel)
    obtain ⟨x, hx, hrd, hwr⟩ := HLW.out.rds i u hu
    obtain ⟨_, _, cu, hv, hbU, _, hcu⟩ := own_blk HLW.out.uses hpos
    cases hv
    have c0 : W.cell? ⟨bU, i * 2, none⟩ = some (.slice u.A u.n u.c) := by
      rw [hbU.cell]; exact hcu _ _ (by have := flat_at encUse_len us i u 0 _ hu rfl; rwa [Nat.add_zero] at this)
    have c1 : W.cell? ⟨bU, i * 2 + 1, none⟩ = some (.int .i64 u.wr) := by
      rw [hbU.cell]; exact hcu _ _ (flat_at encUse_len us i u 1 _ hu rfl)
    have HX := Lib.hid hx
    have HWR := Lib.hid hwr
    have HRD := Lib.hid hrd
    have hk0 : (0 : Int) ≤ (i : Int) := by omega
    have hk1 : (i : Int) < (us.length : Int) := by omega
    have wr1 : IntKind.i64.wrap ((i : Int) + 1) = (i : Int) + 1 := IntWalk.i64_in _ (by omega)
    clear hbU hcu hx hwr hrd
    rcases u with ⟨uA, un, uc, uw⟩
    dsimp only at c0 c1 HRD HWR
    go_wp2_with fail
    clear c0 c1
    have HB2 := Lib.hid (((Below.refl W.heap.size W).alloc (Nat.le_refl _) (.cells #[.int .i64 i] 3)).alloc (alloc_sz (Nat.le_refl _)) (.cells #[.slice uA un uc, .int .i64 uw] 111))
    have HI2 := Lib.hid (HI.out.below HB2.out)
    have HBI := Lib.hid ((BlkAt.new W 3 #[.int .i64 i]).alloc (.cells #[.slice uA un uc, .int .i64 uw] 111))
    have HBU := Lib.hid (BlkAt.new (W.alloc (.cells #[.int .i64 i] 3)) 111 #[.slice uA un uc, .int .i64 uw])
    have HR2 := Lib.hid (rdT_below HRD.out HB2.out)
    rw [World.size_alloc] at HBU
    have hBi : w.heap.size ≤ W.heap.size := HI.out.bel.size
    obtain ⟨W2, hW2⟩ : ∃ W2, ((W.alloc (.cells #[.int .i64 i] 3)).alloc (.cells #[.slice uA un uc, .int .i64 uw] 111)) = W2 := ⟨_, rfl⟩
    rw [hW2] at HI2 HBI HBU HR2 ⊢
    obtain ⟨Bu, hBu⟩ : ∃ Bu, W.heap.size + 1 = Bu := ⟨_, rfl⟩
    have hBu1 : w.heap.size ≤ Bu := by omega
    rw [hBu] at HBU ⊢
    obtain ⟨Bi, hBie⟩ : ∃ Bi, W.heap.size = Bi := ⟨_, rfl⟩
    rw [hBie] at HBI hBi ⊢
    clear hBu hBie hW2 HRD HB2 HLW
    have hun : un ≤ 100000 := by
      have h1 := HR2.out.1.len
      have h2 := uses_len (HSH.out x (List.mem_of_getElem? HX.out))
      dsimp only at h1
      omega
    have HR0 := Lib.hid (HO.out.rd x (List.mem_of_getElem? HX.out))
    have HI3 : Hid (IvI w w.heap.size Bm Bf (.func (.func 82) #[] #[.pointer (some ⟨Bm, 0, none⟩)]) W2 (touched (tchB b.code ah be) i (fun r => (r : Int) ∈ (usesR x).take 0)) ms gs ds) := Lib.hid (HI2.out.iff (fun r j => by simp [touched]))
    clear HI2 HI
    go_loopw [29] (fun k wr => ∃ (mm : Nat) (ms : List Itv) (gs : List Nat), mm ≤ un ∧ k = .int .i64 mm ∧ Hid (IvI w w.heap.size Bm Bf (.func (.func 82) #[] #[.pointer (some ⟨Bm, 0, none⟩)]) wr (touched (tchB b.code ah be) i (fun r => (r : Int) ∈ (usesR x).take mm)) ms gs ds) ∧ Hid (BlkAt wr Bi 3 #[.int .i64 i]) ∧ Hid (BlkAt wr Bu 111 #[.slice uA un uc, .int .i64 uw]) ∧ Hid (RdT wr ⟨uA, un, uc, uw⟩ (usesR x))) (fun k _ => un - (intOf k).toNat)
    case atStart => exact ⟨0, ms, gs, by omega, rfl, HI3, HBI, HBU, HR2⟩
    case round =>
      obtain ⟨mm, ms, gs, hmn, rfl, HI, HBI, HBU, HR⟩ := hrel
      by_cases hlm : mm < un
      · obtain ⟨y, hy⟩ := get_some (xs := usesR x) (k := mm) (by have := HR.out.1.len; dsimp only at this; omega)
        have hy0 := (HR0.out y (List.mem_of_getElem? hy)).1
        obtain ⟨r, rfl⟩ : ∃ r : Nat, y = (r : Int) := ⟨y.toNat, by omega⟩
        obtain ⟨bq, oq, hAq, _, hcq⟩ := HR.out.1.at_ mm _ hy
        dsimp only at hAq
        subst hAq
        have q0 := hcq 0 _ rfl
        rw [Nat.add_zero, Nat.mul_one] at q0
        have HY := Lib.hid hy
        have HEX := Lib.hid (ext_any w.heap.size Bm w.heap.size r i ms gs wr HI.out.atm (HI.out.bm.cell 0) HI.out.bel.size HI.out.evs.nd)
        have d0 := HBI.out.cell 0
        have d1 := HI.out.bf.cell 0
        simp only [List.getElem?_toArray, List.getElem?_cons_succ, List.getElem?_cons_zero] at d0 d1
        have hm0 : (0 : Int) ≤ (mm : Int) := by omega
        have hm1 : (mm : Int) < (un : Int) := by omega
        have wr2 : IntKind.i64.wrap ((mm : Int) + 1) = (mm : Int) + 1 := IntWalk.i64_in _ (by omega)
        clear hy hcq hy0
        go_wp2_with (first
          | (go_at_call 82
             refine HEX.out.mono ?_
             rintro e w3 ⟨rfl, ⟨gs2, hA3⟩, hE3⟩
             have HI4 := Lib.hid (HI.out.touch hA3 hE3)
             have HBI4 := Lib.hid (hE3.kept.blk _ _ _ HBI.out (by decide))
             have HBU4 := Lib.hid (hE3.kept.blk _ _ _ HBU.out (by decide))
             have HR4 := Lib.hid (rdT_keptT HR.out hE3.kept (by decide))
             clear hA3 hE3 HEX d0 d1 q0)
          | fail)
        go_roundw
        case rel => exact ⟨mm + 1, _, gs2, by omega, by go_num, Lib.hid (HI4.out.iff (touched_add (fun q => by
          have e : ((q : Int) = (r : Int)) ↔ q = r := by omega
          rw [List.take_add_one, HY.out, List.mem_append]; simp [e]))), HBI4, HBU4, HR4⟩
        case measure => simp [intOf]; omega
      · obtain rfl : mm = un := by omega
        have d1 := HBU.out.cell 1
        simp only [List.getElem?_toArray, List.getElem?_cons_succ, List.getElem?_cons_zero] at d1
        have HI5 : Hid (IvI w w.heap.size Bm Bf (.func (.func 82) #[] #[.pointer (some ⟨Bm, 0, none⟩)]) wr (touched (tchB b.code ah be) i (fun r => (r : Int) ∈ usesR x)) ms gs ds) := Lib.hid (by
          have h1 := HR.out.1.len
          have h2 := HI.out
          dsimp only at h1
          rwa [List.take_of_length_le (by omega)] at h2)
        clear HI HR hmn hlm HI3
        go_upto_if 40 with fail
        clear d1
        go_cut [] from 38 to 45 (fun wx => ∃ (ms : List Itv) (gs : List Nat), Hid (IvI w w.heap.size Bm Bf (.func (.func 82) #[] #[.pointer (some ⟨Bm, 0, none⟩)]) wx (touched (tchB b.code ah be) i (fun r => (r : Int) ∈ usesR x ∨ (r : Int) = uw)) ms gs ds) ∧ Hid (BlkAt wx Bi 3 #[.int .i64 i]))
        case first =>
          have d1 := HBU.out.cell 1
          have d0 := HBI.out.cell 0
          have d2 := HI5.out.bf.cell 0
          simp only [List.getElem?_toArray, List.getElem?_cons_succ, List.getElem?_cons_zero] at d0 d1 d2
          by_cases hw0 : 0 ≤ uw
          · obtain ⟨r, rfl⟩ : ∃ r : Nat, uw = (r : Int) := ⟨uw.toNat, by omega⟩
            have fw : decide ((0 : Int) ≤ (r : Int)) = true := decide_eq_true hw0
            have HEX := Lib.hid (ext_any w.heap.size Bm w.heap.size r i ms gs wr HI5.out.atm (HI5.out.bm.cell 0) HI5.out.bel.size HI5.out.evs.nd)
            go_wp2_with (first
              | (go_at_call 82
                 refine HEX.out.mono ?_
                 rintro e w3 ⟨rfl, ⟨gs2, hA3⟩, hE3⟩
                 have HI4 := Lib.hid (HI5.out.touch hA3 hE3)
                 have HBI4 := Lib.hid (hE3.kept.blk _ _ _ HBI.out (by decide))
                 clear hA3 hE3 HEX d0 d1 d2)
              | fail)
            go_meet
            exact ⟨_, gs2, Lib.hid (HI4.out.iff (touched_add (fun q => by
              have e : ((q : Int) = (r : Int)) ↔ q = r := by omega
              simp [e]))), HBI4⟩
          · have fw : decide ((0 : Int) ≤ uw) = false := decide_eq_false hw0
            go_wp2_with fail
            go_meet
            exact ⟨ms, gs, Lib.hid (HI5.out.iff (fun r j => by
              have e : ¬ ((r : Int) = uw) := fun h => by omega
              simp [touched, e])), HBI⟩
        case rest =>
          clear HI5 HBI HBU HR2
          obtain ⟨ms, gs, HI, HBI⟩ := hcut
          go_upto_region 13 with fail
          have HLc := Lib.hid (HL.out.below HI.out.bel)
          obtain ⟨g, hg⟩ := get_some (xs := gA) (k := i) (by rw [HLc.out.wsA.len, HF.out.la, ← HUL.out]; exact hlt)
          obtain ⟨a0, ha0⟩ := get_some (xs := ah) (k := i) (by rw [HF.out.la, ← HUL.out]; exact hlt)
          have Ha0 : Hid (ah[i]? = some a0) := Lib.hid ha0
          have f5 := own_set_cell HLc.out.rowA hg
          have e5 := HLc.out.blk.cell 5
          have d0 := HBI.out.cell 0
          simp only [List.getElem?_toArray, List.getElem?_cons_succ, List.getElem?_cons_zero] at e5 d0
          have hgl : (i : Int) < (gA.length : Int) := by have := (List.getElem?_eq_some_iff.1 hg).1; omega
          have HRW := Lib.hid (HLc.out.wsA.row i g a0 hg ha0).1
          have hgw : g.1 < w.heap.size := (HL.out.wsA.row i g a0 hg ha0).1.lt
          have HOK := Lib.hid (HF.out.wa a0 (List.mem_of_getElem? ha0))
          clear hg ha0 HLc
          obtain ⟨g1, g2⟩ := g
          dsimp only at f5 HRW hgw
          refine wp_region_held_drew (S := fun w' => w'.cell? ⟨X, 5, none⟩ = some (.slice (some ⟨ga, 0, none⟩) gA.length ca) ∧ w'.cell? ⟨Bi, 0, none⟩ = some (.int .i64 i) ∧ w'.cell? ⟨ga, i, none⟩ = some (.slice (some ⟨g1, 0, none⟩) nw g2)) (by kernel_rfl) ⟨e5, d0, f5⟩ ?_
          intro hHeld
          refine take_drop 0 (v := ?_) rfl (by kernel_rfl) (by kernel_rfl) (by kernel_rfl) (fun _ _ _ h => h) (by rfl) ?_ (by assumption) ?_
          rotate_left 1
          · (intro w hSw; obtain ⟨hSw1, hSw2, hSw3⟩ := hSw; go_simp; try with_reducible rfl)
          try simp only [Act.put, List.setIfInBounds_toArray, List.set_cons_zero, List.set_cons_succ]
          refine take_drop 1 (v := ?_) rfl (by kernel_rfl) (by kernel_rfl) (by kernel_rfl) (fun _ _ _ h => h) (by rfl) ?_ (by assumption) ?_
          rotate_left 1
          · (intro w hSw; obtain ⟨hSw1, hSw2, hSw3⟩ := hSw; go_simp; try with_reducible rfl)
          try simp only [Act.put, List.setIfInBounds_toArray, List.set_cons_zero, List.set_cons_succ]
          refine take_drop 2 (v := ?_) rfl (by kernel_rfl) (by kernel_rfl) (by kernel_rfl) (fun _ _ _ h => h) (by rfl) ?_ (by assumption) ?_
          rotate_left 1
          · (intro w hSw; obtain ⟨hSw1, hSw2, hSw3⟩ := hSw; go_simp; try with_reducible rfl)
          try simp only [Act.put, List.setIfInBounds_toArray, List.set_cons_zero, List.set_cons_succ]
          refine take_drop 3 (v := ?_) rfl (by kernel_rfl) (by kernel_rfl) (by kernel_rfl) (fun _ _ _ h => h) (by rfl) ?_ (by assumption) ?_
          rotate_left 1
          · (intro w hSw; obtain ⟨hSw1, hSw2, hSw3⟩ := hSw; go_simp; try with_reducible rfl)
          try simp only [Act.put, List.setIfInBounds_toArray, List.set_cons_zero, List.set_cons_succ]
          refine take_drop 4 (v := ?_) rfl (by kernel_rfl) (by kernel_rfl) (by kernel_rfl) (fun _ _ _ h => h) (by rfl) ?_ (by assumption) ?_
          rotate_left 1
          · (intro w hSw; obtain ⟨hSw1, hSw2, hSw3⟩ := hSw; go_simp; try with_reducible rfl)
          try simp only [Act.put, List.setIfInBounds_toArray, List.set_cons_zero, List.set_cons_succ]
          refine take_drop 5 (v := ?_) rfl (by kernel_rfl) (by kernel_rfl) (by kernel_rfl) (fun _ _ _ h => h) (by rfl) ?_ (by assumption) ?_
          rotate_left 1
          · (intro w hSw; obtain ⟨hSw1, hSw2, hSw3⟩ := hSw; go_simp; try with_reducible rfl)
          try simp only [Act.put, List.setIfInBounds_toArray, List.set_cons_zero, List.set_cons_succ]
          refine take_drop 6 (v := ?_) rfl (by kernel_rfl) (by kernel_rfl) (by kernel_rfl) (fun _ _ _ h => h) (by rfl) ?_ (by assumption) ?_
          rotate_left 1
          · (intro w hSw; obtain ⟨hSw1, hSw2, hSw3⟩ := hSw; go_simp; try with_reducible rfl)
          try simp only [Act.put, List.setIfInBounds_toArray, List.set_cons_zero, List.set_cons_succ]
          clear e5 d0 f5
          refine wpAnyH_ready (rs := [7]) (by kernel_rfl) (by simp) ?_
          refine ready_call rfl rfl 51 (enters_of Tryz.func51 (by kernel_rfl) rfl) [.tmp 52] _ rfl [.slice (some ⟨g1, 0, none⟩) nw g2] rfl (all_any g1 0 nw g2 _) ?_ AllReadyH.nil
          rintro e w5 ⟨rfl, rfl⟩
          refine ⟨_, rfl, ⟨cell_alloc _ hHeld.1, cell_alloc _ hHeld.2.1, cell_alloc _ hHeld.2.2⟩, fun _ => ?_⟩
          try simp only [Act.put, List.setIfInBounds_toArray, List.set_cons_zero, List.set_cons_succ]
          refine wpAnyH_done (by kernel_rfl) ?_ _
          clear hHeld
          have HB5 : Hid (Below wc.heap.size wc (wc.drew.alloc (.cells #[.slice (some ⟨g1, 0, none⟩) nw g2] 94))) := Lib.hid ((below_draw (Below.refl wc.heap.size wc) 1).alloc (Nat.le_refl _) _)
          have HIr := Lib.hid (HI.out.below HB5.out)
          have HBIr := Lib.hid (HBI.out.below HB5.out HBI.out.lt)
          have HBS := Lib.hid (BlkAt.new wc.drew 94 #[.slice (some ⟨g1, 0, none⟩) nw g2])
          have HRW5 : Hid (∀ j y : Nat, a0[j]? = some y → (wc.drew.alloc (.cells #[.slice (some ⟨g1, 0, none⟩) nw g2] 94)).cell? ⟨g1, j, none⟩ = some (.int .u64 y)) := Lib.hid (fun j y hj => (HB5.out.cell HRW.out.lt).trans (HRW.out.cell j y hj))
          clear HI HBI HB5 HRW
          go_wp2_with fail
          obtain ⟨W5, hW5⟩ : ∃ W5, (wc.drew.alloc (.cells #[.slice (some ⟨g1, 0, none⟩) nw g2] 94)) = W5 := ⟨_, rfl⟩
          rw [hW5] at HIr HBIr HBS HRW5 ⊢
          clear hW5
          obtain ⟨Bs, hBs⟩ : ∃ Bs, wc.drew.heap.size = Bs := ⟨_, rfl⟩
          rw [hBs] at HBS ⊢
          clear hBs
          have hmW : w.heap.size < W5.heap.size := HIr.out.atm.map.lt
          have HML := Lib.hid (HIr.out.mrk.lt)
          have HAA : Hid (AllAt w.heap.size Bs g1 0 nw g2 a0 W5) := Lib.hid ⟨HBS.out.cell 0, hgw, HOK.out.1, HOK.out, fun j y hj => by rw [Nat.zero_add]; exact HRW5.out j y hj, HDB.out.below HIr.out.bel HDB.out.lt, HDB.out.lt, by omega⟩
          clear HRW5 HBS
          refine wp_frame 88 [(0, .pointer (some ⟨X, 0, none⟩)), (3, .pointer (some ⟨Bm, 0, none⟩)), (4, .pointer (some ⟨Bf, 0, none⟩)), (5, .pointer (some ⟨Bi, 0, none⟩)), (19, (.slice (some ⟨bU, 0, none⟩) us.length cU)), (20, .int .i64 us.length), (21, .int .i64 i), (53, .func (.func 92) #[] #[.pointer (some ⟨Bs, 0, none⟩)])] rfl (by intro p hp; simp only [List.mem_cons, List.not_mem_nil, or_false] at hp; rcases hp with rfl | rfl | rfl | rfl | rfl | rfl | rfl | rfl <;> rfl) ?_
          intro f
          rw [frameA_lit]
          refine (wpIn_wide (n := 3)).1 (wpIn_rangeL rfl (by omega) (gf := 92) (lb := #[.pointer (some ⟨Bs, 0, none⟩)]) rfl trivial (enters_of Tryz.func92 (by kernel_rfl) rfl) (all1_seq 2 (by omega) w.heap.size Bs g1 0 nw g2 a0) (fun h k => Below.trans h k) (fun W l o o' hl hlo _ _ => below_put (by omega) hlo) (fun _ => rfl)
            (fun pre W => ∃ (ms : List Itv) (gs : List Nat), Hid (IvI w w.heap.size Bm Bf (.func (.func 82) #[] #[.pointer (some ⟨Bm, 0, none⟩)]) W (touched (tchB b.code ah be) i (fun r => ((r : Int) ∈ usesR x ∨ (r : Int) = uw) ∨ r ∈ pre)) ms gs ds) ∧ Hid (BlkAt W Bi 3 #[.int .i64 i]))
            (fun _ _ _ => False) ?hI (fun _ _ _ _ _ h _ _ => h) ⟨ms, gs, Lib.hid (HIr.out.iff (fun r j => by simp [touched])), HBIr⟩ HAA.out (fun W o h => h.alloc o)
            (fun x a' W => a' = { tmps := #[.pointer (some ⟨X, 0, none⟩), f 1, f 2, .pointer (some ⟨Bm, 0, none⟩), .pointer (some ⟨Bf, 0, none⟩), .pointer (some ⟨Bi, 0, none⟩), f 6, f 7, f 8, .int .i64 (x : Nat), f 10, f 11, f 12, f 13, f 14, f 15, f 16, f 17, f 18, (.slice (some ⟨bU, 0, none⟩) us.length cU), .int .i64 us.length, .int .i64 i, f 22, f 23, f 24, f 25, f 26, f 27, f 28, f 29, f 30, f 31, f 32, f 33, f 34, f 35, f 36, f 37, f 38, f 39, f 40, f 41, f 42, f 43, f 44, f 45, f 46, f 47, f 48, f 49, f 50, f 51, f 52, .func (.func 92) #[] #[.pointer (some ⟨Bs, 0, none⟩)], .int .i64 (x : Nat), f 55, f 56, f 57, f 58, f 59, f 60, f 61, f 62, f 63, f 64, f 65, f 66, f 67, f 68, f 69, f 70, f 71, f 72, f 73, f 74, f 75, f 76, f 77, f 78, f 79, f 80, f 81, f 82, f 83, f 84, f 85, f 86, f 87], defers := [] })
            ?hAx ?assign ?body ?done ?stop)
          case hI =>
            rintro pre A B row ⟨ms, gs, h1, h2⟩ hg hr
            exact ⟨ms, gs, Lib.hid (h1.out.nocells (Nat.le_of_lt hmW) hmW HML.out hg hr), Lib.hid ((keptT_nocells hg (fun r e => (hr r e).2)).blk _ _ _ h2.out (by decide))⟩
          case hAx => exact fun x a' s A B row h hg hr => h
          case assign =>
            rintro l pre x W Kk ⟨ms, gs, h1, h2⟩ hKk
            gi_wp2
            exact hKk _ _ ((KeepsOthers.refl W).from _) (Below.refl _ _) ⟨ms, gs, h1, h2⟩ rfl
          case stop =>
            rintro D c pre W _ h _
            exact h.elim
          case body =>
            rintro l pre y a' W hpre hl ⟨ms, gs, h1, h2⟩ rfl
            have HEX := Lib.hid (ext_any w.heap.size Bm w.heap.size y i ms gs W h1.out.atm (h1.out.bm.cell 0) h1.out.bel.size h1.out.evs.nd)
            have d0 := h2.out.cell 0
            have d2 := h1.out.bf.cell 0
            simp only [List.getElem?_toArray, List.getElem?_cons_succ, List.getElem?_cons_zero] at d0 d2
            gi_wp2_with (first
              | (refine ⟨trivial, ?_⟩
                 gi_at_call 82
                 refine (CallsIn.inRound l (callsIn_wide.2 HEX.out)).mono ?_
                 rintro e w3 ⟨rfl, ⟨gs2, hA3⟩, hE3⟩
                 have HI4 := Lib.hid (h1.out.touch hA3 hE3)
                 have HBI4 := Lib.hid (hE3.kept.blk _ _ _ h2.out (by decide))
                 have HE3 := Lib.hid hE3
                 clear hA3 hE3 HEX d0 d2)
              | gi_in)
            exact ⟨HE3.out.keepsFrom hmW, HE3.out.bel, _, gs2, Lib.hid (HI4.out.iff (touched_add (fun q => by simp [or_assoc]))), HBI4⟩
          case done =>
            rintro D wc hD ⟨ms, gs, h1, h2⟩ hdD
            have hnm : ∀ d' ∈ ds, d'.target ≠ .collected D := fun d' hd' e => by have := HML.out D ⟨d', hd', e⟩; omega
            have HI := Lib.hid (IvI.mk h1.out.atm h1.out.evs h1.out.bm h1.out.bf h1.out.bel (MarksAt.cons_at h1.out.mrk (D := D) (by omega) hdD hnm))
            have HBI := h2
            clear h1 h2 hnm hdD hD HIr HBIr HAA HOK HML hmW hgw
            go_upto_region 16 with fail
            generalize ({ target := Target.collected D, args := #[] } :: ds : List Deferred) = ds at HI ⊢
            have HLc := Lib.hid (HL.out.below HI.out.bel)
            obtain ⟨g, hg⟩ := get_some (xs := gB) (k := i) (by rw [HLc.out.wsB.len, HF.out.lb, ← HUL.out]; exact hlt)
            obtain ⟨b0, ha0⟩ := get_some (xs := be) (k := i) (by rw [HF.out.lb, ← HUL.out]; exact hlt)
            have Hb0 : Hid (be[i]? = some b0) := Lib.hid ha0
            have f5 := own_set_cell HLc.out.rowB hg
            have e5 := HLc.out.blk.cell 6
            have d0 := HBI.out.cell 0
            simp only [List.getElem?_toArray, List.getElem?_cons_succ, List.getElem?_cons_zero] at e5 d0
            have hgl : (i : Int) < (gB.length : Int) := by have := (List.getElem?_eq_some_iff.1 hg).1; omega
            have HRW := Lib.hid (HLc.out.wsB.row i g b0 hg ha0).1
            have hgw : g.1 < w.heap.size := (HL.out.wsB.row i g b0 hg ha0).1.lt
            have HOK := Lib.hid (HF.out.wb b0 (List.mem_of_getElem? ha0))
            clear hg ha0 HLc
            obtain ⟨g1, g2⟩ := g
            dsimp only at f5 HRW hgw
            refine wp_region_held_drew (S := fun w' => w'.cell? ⟨X, 6, none⟩ = some (.slice (some ⟨gv, 0, none⟩) gB.length cv) ∧ w'.cell? ⟨Bi, 0, none⟩ = some (.int .i64 i) ∧ w'.cell? ⟨gv, i, none⟩ = some (.slice (some ⟨g1, 0, none⟩) nw g2)) (by kernel_rfl) ⟨e5, d0, f5⟩ ?_
            intro hHeld
            refine take_drop 0 (v := ?_) rfl (by kernel_rfl) (by kernel_rfl) (by kernel_rfl) (fun _ _ _ h => h) (by rfl) ?_ (by assumption) ?_
            rotate_left 1
            · (intro w hSw; obtain ⟨hSw1, hSw2, hSw3⟩ := hSw; go_simp; try with_reducible rfl)
            try simp only [Act.put, List.setIfInBounds_toArray, List.set_cons_zero, List.set_cons_succ]
            refine take_drop 1 (v := ?_) rfl (by kernel_rfl) (by kernel_rfl) (by kernel_rfl) (fun _ _ _ h => h) (by rfl) ?_ (by assumption) ?_
            rotate_left 1
            · (intro w hSw; obtain ⟨hSw1, hSw2, hSw3⟩ := hSw; go_simp; try with_reducible rfl)
            try simp only [Act.put, List.setIfInBounds_toArray, List.set_cons_zero, List.set_cons_succ]
            refine take_drop 2 (v := ?_) rfl (by kernel_rfl) (by kernel_rfl) (by kernel_rfl) (fun _ _ _ h => h) (by rfl) ?_ (by assumption) ?_
            rotate_left 1
            · (intro w hSw; obtain ⟨hSw1, hSw2, hSw3⟩ := hSw; go_simp; try with_reducible rfl)
            try simp only [Act.put, List.setIfInBounds_toArray, List.set_cons_zero, List.set_cons_succ]
            refine take_drop 3 (v := ?_) rfl (by kernel_rfl) (by kernel_rfl) (by kernel_rfl) (fun _ _ _ h => h) (by rfl) ?_ (by assumption) ?_
            rotate_left 1
            · (intro w hSw; obtain ⟨hSw1, hSw2, hSw3⟩ := hSw; go_simp; try with_reducible rfl)
            try simp only [Act.put, List.setIfInBounds_toArray, List.set_cons_zero, List.set_cons_succ]
            refine take_drop 4 (v := ?_) rfl (by kernel_rfl) (by kernel_rfl) (by kernel_rfl) (fun _ _ _ h => h) (by rfl) ?_ (by assumption) ?_
            rotate_left 1
            · (intro w hSw; obtain ⟨hSw1, hSw2, hSw3⟩ := hSw; go_simp; try with_reducible rfl)
            try simp only [Act.put, List.setIfInBounds_toArray, List.set_cons_zero, List.set_cons_succ]
            refine take_drop 5 (v := ?_) rfl (by kernel_rfl) (by kernel_rfl) (by kernel_rfl) (fun _ _ _ h => h) (by rfl) ?_ (by assumption) ?_
            rotate_left 1
            · (intro w hSw; obtain ⟨hSw1, hSw2, hSw3⟩ := hSw; go_simp; try with_reducible rfl)
            try simp only [Act.put, List.setIfInBounds_toArray, List.set_cons_zero, List.set_cons_succ]
            refine take_drop 6 (v := ?_) rfl (by kernel_rfl) (by kernel_rfl) (by kernel_rfl) (fun _ _ _ h => h) (by rfl) ?_ (by assumption) ?_
            rotate_left 1
            · (intro w hSw; obtain ⟨hSw1, hSw2, hSw3⟩ := hSw; go_simp; try with_reducible rfl)
            try simp only [Act.put, List.setIfInBounds_toArray, List.set_cons_zero, List.set_cons_succ]
            clear e5 d0 f5
            refine wpAnyH_ready (rs := [7]) (by kernel_rfl) (by simp) ?_
            refine ready_call rfl rfl 51 (enters_of Tryz.func51 (by kernel_rfl) rfl) [.tmp 65] _ rfl [.slice (some ⟨g1, 0, none⟩) nw g2] rfl (all_any g1 0 nw g2 _) ?_ AllReadyH.nil
            rintro e w5 ⟨rfl, rfl⟩
            refine ⟨_, rfl, ⟨cell_alloc _ hHeld.1, cell_alloc _ hHeld.2.1, cell_alloc _ hHeld.2.2⟩, fun _ => ?_⟩
            try simp only [Act.put, List.setIfInBounds_toArray, List.set_cons_zero, List.set_cons_succ]
            refine wpAnyH_done (by kernel_rfl) ?_ _
            clear hHeld
            have HB5 : Hid (Below wc.heap.size wc (wc.drew.alloc (.cells #[.slice (some ⟨g1, 0, none⟩) nw g2] 94))) := Lib.hid ((below_draw (Below.refl wc.heap.size wc) 1).alloc (Nat.le_refl _) _)
            have HIr := Lib.hid (HI.out.below HB5.out)
            have HBIr := Lib.hid (HBI.out.below HB5.out HBI.out.lt)
            have HBS := Lib.hid (BlkAt.new wc.drew 94 #[.slice (some ⟨g1, 0, none⟩) nw g2])
            have HRW5 : Hid (∀ j y : Nat, b0[j]? = some y → (wc.drew.alloc (.cells #[.slice (some ⟨g1, 0, none⟩) nw g2] 94)).cell? ⟨g1, j, none⟩ = some (.int .u64 y)) := Lib.hid (fun j y hj => (HB5.out.cell HRW.out.lt).trans (HRW.out.cell j y hj))
            clear HI HBI HB5 HRW
            go_wp2_with fail
            obtain ⟨W5, hW5⟩ : ∃ W5, (wc.drew.alloc (.cells #[.slice (some ⟨g1, 0, none⟩) nw g2] 94)) = W5 := ⟨_, rfl⟩
            rw [hW5] at HIr HBIr HBS HRW5 ⊢
            clear hW5
            obtain ⟨Bs, hBs⟩ : ∃ Bs, wc.drew.heap.size = Bs := ⟨_, rfl⟩
            rw [hBs] at HBS ⊢
            clear hBs
            have hmW : w.heap.size < W5.heap.size := HIr.out.atm.map.lt
            have HML := Lib.hid (HIr.out.mrk.lt)
            have HAA : Hid (AllAt w.heap.size Bs g1 0 nw g2 b0 W5) := Lib.hid ⟨HBS.out.cell 0, hgw, HOK.out.1, HOK.out, fun j y hj => by rw [Nat.zero_add]; exact HRW5.out j y hj, HDB.out.below HIr.out.bel HDB.out.lt, HDB.out.lt, by omega⟩
            clear HRW5 HBS
            refine wp_frame 88 [(0, .pointer (some ⟨X, 0, none⟩)), (3, .pointer (some ⟨Bm, 0, none⟩)), (4, .pointer (some ⟨Bf, 0, none⟩)), (5, .pointer (some ⟨Bi, 0, none⟩)), (19, (.slice (some ⟨bU, 0, none⟩) us.length cU)), (20, .int .i64 us.length), (21, .int .i64 i), (66, .func (.func 92) #[] #[.pointer (some ⟨Bs, 0, none⟩)])] rfl (by intro p hp; simp only [List.mem_cons, List.not_mem_nil, or_false] at hp; rcases hp with rfl | rfl | rfl | rfl | rfl | rfl | rfl | rfl <;> rfl) ?_
            intro f
            rw [frameB_lit]
            refine (wpIn_wide (n := 3)).1 (wpIn_rangeL rfl (by omega) (gf := 92) (lb := #[.pointer (some ⟨Bs, 0, none⟩)]) rfl trivial (enters_of Tryz.func92 (by kernel_rfl) rfl) (all1_seq 2 (by omega) w.heap.size Bs g1 0 nw g2 b0) (fun h k => Below.trans h k) (fun W l o o' hl hlo _ _ => below_put (by omega) hlo) (fun _ => rfl)
              (fun pre W => ∃ (ms : List Itv) (gs : List Nat), Hid (IvI w w.heap.size Bm Bf (.func (.func 82) #[] #[.pointer (some ⟨Bm, 0, none⟩)]) W (touched (tchB b.code ah be) i (fun r => (((r : Int) ∈ usesR x ∨ (r : Int) = uw) ∨ r ∈ elemsW a0) ∨ r ∈ pre)) ms gs ds) ∧ Hid (BlkAt W Bi 3 #[.int .i64 i]))
              (fun _ _ _ => False) ?hI (fun _ _ _ _ _ h _ _ => h) ⟨ms, gs, Lib.hid (HIr.out.iff (fun r j => by simp [touched])), HBIr⟩ HAA.out (fun W o h => h.alloc o)
              (fun x a' W => a' = { tmps := #[.pointer (some ⟨X, 0, none⟩), f 1, f 2, .pointer (some ⟨Bm, 0, none⟩), .pointer (some ⟨Bf, 0, none⟩), .pointer (some ⟨Bi, 0, none⟩), f 6, f 7, f 8, f 9, .int .i64 (x : Nat), f 11, f 12, f 13, f 14, f 15, f 16, f 17, f 18, (.slice (some ⟨bU, 0, none⟩) us.length cU), .int .i64 us.length, .int .i64 i, f 22, f 23, f 24, f 25, f 26, f 27, f 28, f 29, f 30, f 31, f 32, f 33, f 34, f 35, f 36, f 37, f 38, f 39, f 40, f 41, f 42, f 43, f 44, f 45, f 46, f 47, f 48, f 49, f 50, f 51, f 52, f 53, f 54, f 55, f 56, f 57, f 58, f 59, f 60, f 61, f 62, f 63, f 64, f 65, .func (.func 92) #[] #[.pointer (some ⟨Bs, 0, none⟩)], .int .i64 (x : Nat), f 68, f 69, f 70, f 71, f 72, f 73, f 74, f 75, f 76, f 77, f 78, f 79, f 80, f 81, f 82, f 83, f 84, f 85, f 86, f 87], defers := [] })
              ?hAx ?assign ?body ?done ?stop)
            case hI =>
              rintro pre A B row ⟨ms, gs, h1, h2⟩ hg hr
              exact ⟨ms, gs, Lib.hid (h1.out.nocells (Nat.le_of_lt hmW) hmW HML.out hg hr), Lib.hid ((keptT_nocells hg (fun r e => (hr r e).2)).blk _ _ _ h2.out (by decide))⟩
            case hAx => exact fun x a' s A B row h hg hr => h
            case assign =>
              rintro l pre x W Kk ⟨ms, gs, h1, h2⟩ hKk
              gi_wp2
              exact hKk _ _ ((KeepsOthers.refl W).from _) (Below.refl _ _) ⟨ms, gs, h1, h2⟩ rfl
            case stop =>
              rintro D c pre W _ h _
              exact h.elim
            case body =>
              rintro l pre y a' W hpre hl ⟨ms, gs, h1, h2⟩ rfl
              have HEX := Lib.hid (ext_any w.heap.size Bm w.heap.size y i ms gs W h1.out.atm (h1.out.bm.cell 0) h1.out.bel.size h1.out.evs.nd)
              have d0 := h2.out.cell 0
              have d2 := h1.out.bf.cell 0
              simp only [List.getElem?_toArray, List.getElem?_cons_succ, List.getElem?_cons_zero] at d0 d2
              gi_wp2_with (first
                | (refine ⟨trivial, ?_⟩
                   gi_at_call 82
                   refine (CallsIn.inRound l (callsIn_wide.2 HEX.out)).mono ?_
                   rintro e w3 ⟨rfl, ⟨gs2, hA3⟩, hE3⟩
                   have HI4 := Lib.hid (h1.out.touch hA3 hE3)
                   have HBI4 := Lib.hid (hE3.kept.blk _ _ _ h2.out (by decide))
                   have HE3 := Lib.hid hE3
                   clear hA3 hE3 HEX d0 d2)
                | gi_in)
              exact ⟨HE3.out.keepsFrom hmW, HE3.out.bel, _, gs2, Lib.hid (HI4.out.iff (touched_add (fun q => by simp [or_assoc]))), HBI4⟩
            case done =>
              rintro D wc hD ⟨ms, gs, h1, h2⟩ hdD
              have hnm : ∀ d' ∈ ds, d'.target ≠ .collected D := fun d' hd' e => by have := HML.out D ⟨d', hd', e⟩; omega
              have HI := Lib.hid (IvI.mk h1.out.atm h1.out.evs h1.out.bm h1.out.bf h1.out.bel (MarksAt.cons_at h1.out.mrk (D := D) (by omega) hdD hnm))
              have HBI := h2
              clear h1 h2 hnm hdD hD HIr HBIr HAA HOK HML hmW hgw
              have HN := Lib.hid (HI.out.iff (touched_next (fun r => by
                have e1 : b.code.getD i default = x := by rw [List.getD_eq_getElem?_getD, HX.out]; rfl
                have e2 : ah.getD i [] = a0 := by rw [List.getD_eq_getElem?_getD, Ha0.out]; rfl
                have e3 : be.getD i [] = b0 := by rw [List.getD_eq_getElem?_getD, Hb0.out]; rfl
                have ea := mem_elems (HF.out.wa a0 (List.mem_of_getElem? Ha0.out)) (r := r)
                have eb := mem_elems (HF.out.wb b0 (List.mem_of_getElem? Hb0.out)) (r := r)
                unfold tchB
                rw [e1, e2, e3, ea, eb, HWR.out]
                simp [or_assoc])))
              clear HI
              go_wp2_with fail
              refine Handed.intro (us.length - (i + 1)) (by have := HGK.out; omega) (hJ _ _ _ ⟨_, i + 1, ms, gs, _, congrArg (fun t => Act.mk t _) (frame_exN 88 _ rfl _ (by intro p hp; simp only [List.mem_cons, List.not_mem_nil, or_false] at hp; rcases hp with rfl | rfl | rfl | rfl | rfl | rfl <;> rfl)), by omega, rfl, HN⟩)
  · obtain rfl : i = us.length := by omega
    have HE : Hid (Evs (fun r j => j < b.code.length ∧ tchB b.code ah be j r = true) ms) := Lib.hid (evs_iff HI.out.evs (fun r j => by unfold touched; rw [HUL.out]; simp))
    have HML := Lib.hid HI.out.mrk.lt
    have HMK := Lib.hid HI.out.mrk
    have HAT := Lib.hid HI.out.atm
    have HIB := Lib.hid HI.out.bel
    have d3 := HI.out.bm.cell 0
    simp only [List.getElem?_toArray, List.getElem?_cons_zero] at d3
    have hWl : w.heap.size < W.heap.size := HI.out.atm.map.lt
    have hmsl : ms.length ≤ 100000 := Nat.le_trans (nodup_le ms _ (nodup_reg HE.out.nd) (fun v hv => (evs_itvs HE.out HRG.out v).1 hv)) hil
    have HVA := Lib.hid (valP_all HAT.out.nod HAT.out.len)
    obtain ⟨i0, hi, hz0, hz1, hz2⟩ := info_parts itv_info
    have HIN := Lib.hid hi
    clear HI hi hJ hlt hin
    go_wp2_with (first
      | (at_range; refine wpList_range_of _ rfl _ 142 rfl 143 Tryz.underlying142 w.heap.size _ rfl HAT.out.map ?_; intro w0 hit0 hg0 hs0)
      | fail)
    clear d3
    have HIT := Lib.hid hit0
    have HBW : Hid (Below W.heap.size W w0) := Lib.hid ((Below.refl W.heap.size W).grown hg0 (Nat.le_refl _) (fun j e => by cases e))
    clear hit0 hg0 hs0
    obtain ⟨r, hr⟩ : ∃ r, W.heap.size = r := ⟨_, rfl⟩
    have HR := Lib.hid hr
    rw [hr] at HIT HBW hWl ⊢
    have hrw0 : r + 1 ≤ w0.heap.size := HIT.out.ltR
    clear hr
    go_frame
    go_loopw [11] (fun v wr => ∃ (acc : List Itv) (rest : List (Nat × Option Nat)), Hid (wr.ownsRow (r + 1) 44 3 v acc.length (acc.flatMap encItv)) ∧ Hid (acc = [] → v = .slice none 0 0) ∧ Hid (IterOf encK encP wr r w.heap.size ((ms.map Itv.reg).zip (gs.map some)) rest) ∧ Hid ((acc ++ rest.map (valP ms gs)).Perm ms) ∧ Hid (Below r W wr) ∧ r + 1 ≤ wr.heap.size) (fun v wr => ms.length - lenV v)
    case atStart => exact ⟨[], _, Lib.hid (World.ownsRow_nil _ _ _ _), Lib.hid (fun _ => rfl), HIT, Lib.hid (by rw [List.nil_append, HVA.out]), HBW, hrw0⟩
    case round =>
      obtain ⟨acc, rest, HROW, HNIL, HIT, HP, HBW, hrs⟩ := hrel
      obtain ⟨Av, cv, hv, _, hcv, _⟩ := own_slice HROW.out
      subst hv
      have hlen : acc.length + rest.length = ms.length := by have := HP.out.length_eq; simpa using this
      rcases rest with _ | ⟨p0, rest⟩
      · have hacc : acc.Perm ms := by have := HP.out; simpa using this
        have HA := Lib.hid hacc
        have HMW : Hid (MarksAt w.heap.size wr ds) := Lib.hid (HMK.out.keep (fun q hq hd ho => (HBW.out.block q (by have := HML.out q hd; have := HR.out; omega)).trans ho))
        have HBF : Hid (Below w.heap.size w wr) := Lib.hid (HIB.out.trans (HBW.out.mono (Nat.le_of_lt hWl)))
        have hal : acc.length ≤ 100000 := by simp at hlen; omega
        clear hacc hlen
        by_cases h0 : acc = []
        · have hv0 := HNIL.out h0
          subst h0
          have HTS : Hid (itvL b.code ah be regs = []) := Lib.hid (by
            have := itv_fin HE.out HRG.out HA.out (ts := []) (List.Perm.refl _) List.Pairwise.nil
            exact List.map_eq_nil_iff.1 this.symm)
          injection hv0 with hv1 hv2 hv3
          subst hv1
          subst hv3
          clear hv2
          simp only [List.length_nil]
          go_wp2_with (first
            | (at_next; refine wpList_next_of _ rfl _ rfl r w.heap.size _ _ rfl HIT.out (fun _ => ?_) (fun x v l w' hp _ _ _ _ => absurd hp.length_eq (by simp)))
            | (go_at_call 83
               refine (it_sortNone 0 wr).mono ?_
               rintro e w2 ⟨rfl, rfl⟩)
            | fail)
          refine leaves_marks (base := w.heap.size) (v := .slice none 0 0) (fun W => by rw [results_tmp (t := 2) rfl]; rfl) ds _ HMW.out (fun W' hc hb => ?_)
          exact ⟨⟨_, rfl, by rw [HTS.out]; exact World.ownsRow_nil _ _ _ _⟩, HBF.out.trans hb⟩
        · obtain ⟨g0, c0, cu0, hv, _, hg0, _⟩ := own_blk HROW.out (List.length_pos_iff.2 h0)
          injection hv with hv1 hv2 hv3
          subst hv1
          subst hv3
          have hs1 := it_sort g0 acc.length cv (acc.map toI) wr (r + 1) (by simp) (by have := List.length_pos_iff.2 h0; omega) (by omega) (by rw [show (acc.map toI).flatMap encIt = acc.flatMap encItv from enc_toI acc]; exact HROW.out)
          have HSO := Lib.hid hs1
          clear hs1 hv2
          go_wp2_with (first
            | (at_next; refine wpList_next_of _ rfl _ rfl r w.heap.size _ _ rfl HIT.out (fun _ => ?_) (fun x v l w' hp _ _ _ _ => absurd hp.length_eq (by simp)))
            | (go_at_call 83
               refine HSO.out.mono ?_
               rintro e w2 ⟨rfl, ts, hp2, hs2, hrow2, hg2⟩
               have HP2 := Lib.hid hp2
               have HS2 := Lib.hid hs2
               have HROW2 := Lib.hid hrow2
               have HG2 := Lib.hid hg2
               clear hp2 hs2 hrow2 hg2)
            | fail)
          have hts := itv_fin HE.out HRG.out HA.out HP2.out HS2.out
          have hlen2 : acc.length = (itvL b.code ah be regs).length := by
            have := HP2.out.length_eq
            rw [hts] at this
            simpa [itvL] using this.symm
          have hrowF := own_low HROW2.out (show w.heap.size ≤ r + 1 by omega)
          rw [hts, show ((itvsOf (tchB b.code ah be) b.code.length regs).map toI).flatMap encIt = (itvL b.code ah be regs).flatMap encItv from enc_toI _] at hrowF
          refine leaves_marks (base := w.heap.size) (v := .slice (some ⟨g0, 0, none⟩) acc.length cv) (fun W => by rw [results_tmp (t := 2) rfl]; rfl) ds _ (HMW.out.keep (fun q hq hd ho => (HG2.out.block q (Array.getElem?_eq_some_iff.1 ho).1 (fun e => by have := HML.out q hd; have := HR.out; cases e; omega)).trans ho)) (fun W' hc hb => ?_)
          have hk : KeptT 1000000 w2 W' := ⟨hb.size, fun B t cs hB _ => hc B _ hB rfl⟩
          refine ⟨⟨_, rfl, ?_⟩, (HBF.out.grown HG2.out HBF.out.size (fun j e => by cases e; omega)).trans hb⟩
          rw [← hlen2]
          exact own_keptT hrowF hk (by decide)
      · have hlt : acc.length < ms.length := by simp only [List.length_cons] at hlen; omega
        have hsub := HIT.out.sub
        have HSUB := Lib.hid hsub
        clear hsub
        go_wp2_with (first
          | (at_next; refine wpList_next_of _ rfl _ rfl r w.heap.size _ _ rfl HIT.out (fun h => by cases h) ?_
             intro xk xv l1 w1 hp1 hit1 hg1 hs1 hen
             obtain ⟨k, v, g, hv, hg, he⟩ := zipR_mem (HSUB.out.subset (hp1.mem_iff.2 (List.mem_cons_self ..)))
             cases he
             have HBEL1 := Lib.hid (HBW.out.grown hg1 (by have := HR.out; omega) (fun j e => by cases e; omega))
             have hgW := (HAT.out.blk k v g hv hg)
             have HBG := Lib.hid (hgW.below (HR.out ▸ HBEL1.out) hgW.lt)
             have HV : Hid (valP ms gs (v.reg, some g) = v) := Lib.hid (valP_at HAT.out.nod hv hg)
             have HIT1 := Lib.hid hit1
             have HP1 := Lib.hid hp1
             have HROW1 := Lib.hid (own_keepG HROW.out hg1 (fun j e e2 => by have := (own_lt HROW.out e).1; cases e2; omega))
             have q0 := HBG.out.cell 0
             have q1 := HBG.out.cell 1
             have q2 := HBG.out.cell 2
             unfold itvA at q0 q1 q2
             simp only [List.getElem?_toArray, List.getElem?_cons_succ, List.getElem?_cons_zero] at q0 q1 q2
             unfold encK encP at hen
             unfold encK encP
             simp only [Option.map_some] at hen ⊢
             clear hg1 hit1 hp1 hgW)
          | (at_builtin; refine wpList_append_own_at _ rfl _ _ 40 rfl (r + 1) 44 i0 (.agg #[.int .i64 0, .int .i64 0, .int .i64 0]) 3 24 Tryz.underlying40 HIN.out hz0 hz1 hz2 rfl (by decide) (.slice Av acc.length cv) _ _ rfl (own_keepG HROW1.out (World.grownBy_alloc _ _ none) (fun j e e2 => by cases e2)) ⟨wr.heap.size, 0, none⟩ 1 1 (encItv v) rfl rfl (cells_new' _ (encItv v) _ _ hs1) (by simp [Value.oneCell', encItv]) (by unfold maxLen; omega) (by omega) (by simp; omega) ?_
             intro v4 w4 hrow4 hgr4 hiff4 hob4
             have HROW4 := Lib.hid hrow4
             have HG4 := Lib.hid hgr4
             clear hrow4 hgr4 hiff4 hob4)
          | fail)
        have hbA : Below r W w4 := (HBEL1.out.alloc (by have := HR.out; omega) (.cells #[.int .i64 v.reg, .int .i64 v.frm, .int .i64 v.to] 44)).grown HG4.out (by have := HR.out; simp; omega) (fun j e => by have := (own_lt HROW1.out e).1; omega)
        have hitA : IterOf encK encP w4 r w.heap.size ((ms.map Itv.reg).zip (gs.map some)) l1 := (HIT1.out.alloc (.cells #[.int .i64 v.reg, .int .i64 v.frm, .int .i64 v.to] 44)).kept HG4.out (fun e => by have := (own_lt HROW1.out e.symm).1; omega) (fun e => by have := (own_lt HROW1.out e.symm).1; omega)
        have hpA : ((acc ++ [v]) ++ l1.map (valP ms gs)).Perm ms := by
          have h1 : ((p0 :: rest).map (valP ms gs)).Perm (v :: l1.map (valP ms gs)) := by
            have := HP1.out.map (valP ms gs)
            rwa [show ((v.reg, some g) :: l1).map (valP ms gs) = v :: l1.map (valP ms gs) by rw [List.map_cons, HV.out]] at this
          have h2 := (List.Perm.append_left acc h1).symm.trans HP.out
          simpa using h2
        have hszA : r + 1 ≤ w4.heap.size := by have := HG4.out.size; simp at this; omega
        obtain ⟨A4, c4, hv4, _, _, _⟩ := own_slice HROW4.out
        subst hv4
        go_roundw
        case rel => exact ⟨acc ++ [v], l1, Lib.hid (by rw [List.length_append, List.flatMap_append]; simpa using HROW4.out), Lib.hid (fun h => by simp at h), Lib.hid hitA, Lib.hid hpA, Lib.hid hbA, hszA⟩
        case measure => simp [lenV]; omega
end Go.Proofs.YtpahhcmiimllaaaGreatDoor
