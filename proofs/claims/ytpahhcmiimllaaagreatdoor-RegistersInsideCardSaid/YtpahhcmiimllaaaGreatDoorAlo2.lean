/- DERIVED. Allocate under way: up to the free registers. -/
import Derived.Test.YtpahhcmiimllaaaGreatDoorAlo5
import Derived.Test.YtpahhcmiimllaaaGreatDoorIvlN
import Derived.Deep.CutRange
set_option linter.unusedSimpArgs false
set_option linter.unusedVariables false
namespace Go.Proofs.YtpahhcmiimllaaaGreatDoor
open Go.RowKit Go.Shelf
attribute [local go_sem] Oper.semAt_some

theorem plan_size : (Tryz.prog.info? 29).map (·.size) = some 3 := by kernel_rfl
set_option maxRecDepth 100000 in
set_option maxHeartbeats 16000000 in
theorem Allocate_ok (c : CodeL) (A : Option Addr) (n cc k mc : Nat) (b : BodyL) (w : World) (hC : Bods w A n c.bodies) (hf : FewC c) (hV : VarsR w) (hc0 : chkC c = 0) (hb : c.bodies[k]? = some b) (hmc : mc ≤ 64) :
    Calls Tryz.prog 11 #[codeV c A n cc, .int .i64 k, .int .i64 mc] w fun e w' => (∃ ah be vm vs p, FixL (b.regs.toNat / 64 + 1) b.code ah be ∧ p = planOf b.regs.toNat b.args.toNat mc (itvL b.code ah be b.regs.toNat) ∧ e = .returned (.tuple #[.agg #[vm, vs, .int .i64 p.slots], .int .i64 0]) ∧ w'.ownsRow w.heap.size 3 1 vm p.mach.length (p.mach.map (Value.int .i64)) ∧ w'.ownsRow w.heap.size 3 1 vs p.slot.length (p.slot.map (Value.int .i64))) ∧ Below w.heap.size w w' := by
  have hbm := List.mem_of_getElem? hb
  have HR := Lib.hid (chk_right hc0 hbm)
  have HB0 := Lib.hid ((Below.refl w.heap.size w).alloc (Nat.le_refl _) (.cells #[.int .i64 c.globals, .slice A n cc] 24))
  have HX0 := Lib.hid (BlkAt.new w 24 #[.int .i64 c.globals, .slice A n cc])
  have hbb := bods_below hC HB0.out
  have HLV := Lib.hid (fun W (hW : Below (w.alloc (.cells #[.int .i64 c.globals, .slice A n cc] 24)).heap.size (w.alloc (.cells #[.int .i64 c.globals, .slice A n cc] 24)) W) => lives_ok c A n cc k b W (bods_below hbb hW) hf ((hV.below HB0.out).below hW) hc0 hb)
  have HLB : Hid (b.code.length ≤ 1000) := Lib.hid (hf.len b hbm)
  have HSH := Lib.hid (hf.short b hbm)
  have HCO := Lib.hid (code_ok HR.out)
  have c0 := HX0.out.cell 0
  have c1 := HX0.out.cell 1
  simp only [List.getElem?_toArray, List.getElem?_cons_succ, List.getElem?_cons_zero] at c0 c1
  have HBA : Hid (Below (w.alloc (.cells #[.int .i64 c.globals, .slice A n cc] 24)).heap.size (w.alloc (.cells #[.int .i64 c.globals, .slice A n cc] 24)) ((w.alloc (.cells #[.int .i64 c.globals, .slice A n cc] 24)).alloc (.cells #[.slice none 0 0, .slice none 0 0, .int .i64 0] 29))) := Lib.hid ((Below.refl _ _).alloc (Nat.le_refl _) _)
  have HDB := Lib.hid (deb_of ((hV.below HB0.out).below HBA.out))
  have HRES0 := Lib.hid (BlkAt.new (w.alloc (.cells #[.int .i64 c.globals, .slice A n cc] 24)) 29 #[.slice none 0 0, .slice none 0 0, .int .i64 0])
  have HLV2 := Lib.hid (HLV.out _ HBA.out)
  have HBE0 := Lib.hid (HB0.out.trans (HBA.out.mono HB0.out.size))
  rw [World.size_alloc] at HRES0
  obtain ⟨R, hR⟩ : ∃ R : Nat, b.regs = (R : Int) := ⟨b.regs.toNat, by have := HR.out.args0; have := HR.out.args1; omega⟩
  obtain ⟨G, hG⟩ : ∃ G : Nat, b.args = (G : Int) := ⟨b.args.toNat, by have := HR.out.args0; omega⟩
  have hR5 : R ≤ 5000 := by have := HR.out.regs; omega
  have hGR : G ≤ R := by have := HR.out.args1; omega
  have HRG := Lib.hid (And.intro hR hG)
  have hm1 : decide ((mc : Int) < 0) = false := decide_eq_false (by omega)
  have hm2 : decide ((64 : Int) < (mc : Int)) = false := decide_eq_false (by omega)
  clear hC hf hV hc0 hb hbm HX0 hbb HLV HBA hR hG
  unfold codeV at HLV2 ⊢
  obtain ⟨i0, hi, hz0, hz1, hz2⟩ := info_parts int_info28
  have HIN := Lib.hid hi
  clear hi
  obtain ⟨i1, hi1, y0, y1, y2⟩ := info_parts itv_info
  have HIN1 := Lib.hid hi1
  clear hi1
  go_enter Tryz.func11, Tryz.ntmps11
  go_wp2_with (first
    | (go_at_call 40
       refine HLV2.out.mono ?_
       rintro e w1 ⟨⟨X, Ab, nb, cb, us, vU, vA, vB, gA, gB, ah, be, rfl, hL, hul, hfx⟩, hb1⟩
       have HB1 := Lib.hid (HBE0.out.trans (hb1.mono HBE0.out.size))
       have HRES := Lib.hid (HRES0.out.below hb1 HRES0.out.lt)
       have HFX := Lib.hid hfx
       have HUL := Lib.hid hul
       have HDB1 := Lib.hid (HDB.out.below hb1 HDB.out.lt)
       have HL := Lib.hid hL
       have e0 := hL.blk.cell 0
       have e1 := hL.blk.cell 1
       have e2 := hL.blk.cell 2
       have e3 := hL.blk.cell 3
       simp only [List.getElem?_toArray, List.getElem?_cons_succ, List.getElem?_cons_zero] at e0 e1 e2 e3
       rw [HRG.out.1] at e1
       rw [HRG.out.2] at e2
       clear hL hul hfx hb1 HLV2 c0 c1)
    | fail)
  have HLA := Lib.hid (((Below.refl w1.heap.size w1).alloc (Nat.le_refl _) (.cells #[.string ⟨b.name.toArray⟩, .int .i64 R, .int .i64 G, .slice Ab nb cb] 51)).alloc (alloc_sz (Nat.le_refl _)) (.cells #[.slice none 0 0, .slice none 0 0, .int .i64 G] 29))
  have HBO := Lib.hid ((BlkAt.new w1 51 #[.string ⟨b.name.toArray⟩, .int .i64 R, .int .i64 G, .slice Ab nb cb]).alloc (.cells #[.slice none 0 0, .slice none 0 0, .int .i64 G] 29))
  have HPB := Lib.hid (BlkAt.new (w1.alloc (.cells #[.string ⟨b.name.toArray⟩, .int .i64 R, .int .i64 G, .slice Ab nb cb] 51)) 29 #[.slice none 0 0, .slice none 0 0, .int .i64 G])
  rw [World.size_alloc] at HPB
  obtain ⟨W2, hW2⟩ : ∃ W2, ((w1.alloc (.cells #[.string ⟨b.name.toArray⟩, .int .i64 R, .int .i64 G, .slice Ab nb cb] 51)).alloc (.cells #[.slice none 0 0, .slice none 0 0, .int .i64 G] 29)) = W2 := ⟨_, rfl⟩
  have hsz2 : W2.heap.size = w1.heap.size + 2 := by rw [← hW2, World.size_alloc, World.size_alloc]
  rw [hW2] at HLA HBO HPB ⊢
  clear hW2
  obtain ⟨Bb, hBb⟩ : ∃ Bb, w1.heap.size = Bb := ⟨_, rfl⟩
  have HSZ := Lib.hid (And.intro hBb hsz2)
  rw [hBb] at HBO HPB ⊢
  have hlowB : Bb < W2.heap.size := HBO.out.lt
  have HX2 : Hid (PlanM w1 #[.string ⟨b.name.toArray⟩, .int .i64 R, .int .i64 G, .slice Ab nb cb] Bb (Bb + 1) (.slice none 0 0) (.slice none 0 0) (plan0 0 G) W2) := Lib.hid ⟨HPB.out, World.ownsRow_nil _ _ _ _, World.ownsRow_nil _ _ _ _, fun j h => by simp [Value.ownBlock] at h, by omega, HBO.out, HLA.out.mono (by have := HSZ.out.1; omega)⟩
  clear hBb hsz2 HLA HBO HPB HRES0 HBE0 HDB e0 e1 e2 e3
  go_loopw [48] (fun kv wr => ∃ (r : Nat) (vm vs : Value), r ≤ R ∧ kv = .int .i64 r ∧ Hid (PlanM w1 #[.string ⟨b.name.toArray⟩, .int .i64 R, .int .i64 G, .slice Ab nb cb] Bb (Bb + 1) vm vs (plan0 r G) wr)) (fun kv _ => R - (intOf kv).toNat)
  case atStart => exact ⟨0, _, _, by omega, rfl, HX2⟩
  case round =>
    obtain ⟨r, vm, vs, hrR, rfl, HPM⟩ := hrel
    by_cases hlt : r < R
    · have HPL : Hid (PlanX w1 #[.string ⟨b.name.toArray⟩, .int .i64 R, .int .i64 G, .slice Ab nb cb] Bb (Bb + 1) vm vs (G : Int) vm (plan0 r G).mach vs (plan0 r G).slot wr) := Lib.hid HPM.out
      have b2 := HPL.out.body.cell 2
      simp only [List.getElem?_toArray, List.getElem?_cons_succ, List.getElem?_cons_zero] at b2
      have hl1 := (plan0_len r G).1
      have hl2 := (plan0_len r G).2
      have k1 : (r : Int) < (R : Int) := by omega
      have wr1 : IntKind.i64.wrap ((r : Int) + 1) = (r : Int) + 1 := IntWalk.i64_in _ (by omega)
      clear HPM HX2
      by_cases hra : r < G
      · have HSV : Hid (slotOf G r = (r : Int)) := Lib.hid (by unfold slotOf; rw [if_pos hra])
        go_wp2_with fail
        refine heldL (fun _ => True) (fun w' => w'.cell? ⟨Bb + 1, 0, none⟩ = some vm ∧ w'.cell? ⟨Bb + 1, 1, none⟩ = some vs) 10 (by kernel_rfl) ?_
        have HPd := Lib.hid (HPL.out.below (below_draw (Below.refl _ _) 1))
        have HK1 : Hid (((plan0 r G).mach ++ [(-1 : Int)]).length = r + 1) := Lib.hid (by rw [List.length_append, hl1]; rfl)
        have HK2 : Hid (((plan0 r G).slot ++ [((r : Int) : Int)]).length = r + 1) := Lib.hid (by rw [List.length_append, hl2]; rfl)
        clear HPL
        generalize wr.drewN 1 = Wd at *
        have hHeld : True ∧ (Wd.cell? ⟨Bb + 1, 0, none⟩ = some vm ∧ Wd.cell? ⟨Bb + 1, 1, none⟩ = some vs) := ⟨trivial, HPd.out.plan.cell 0, HPd.out.plan.cell 1⟩
        refine takeP 0 (v := ?_) rfl (by kernel_rfl) (by kernel_rfl) (by kernel_rfl) (by kernel_rfl) (fun _ _ _ h => h) (by rfl) ?_ (by assumption) ?_
        rotate_left 1
        · (intro w hSw; go_simp; try with_reducible rfl)
        try simp only [Act.put, List.setIfInBounds_toArray, List.set_cons_zero, List.set_cons_succ]
        refine takeL 1 (v := ?_) rfl (by kernel_rfl) (by kernel_rfl) (by kernel_rfl) (by kernel_rfl) (fun _ _ _ h => h) (by rfl) ?_ (by assumption) ?_
        rotate_left 1
        · (intro w hSw; (try dsimp only at hSw); obtain ⟨_, hSw1, hSw2⟩ := hSw; go_simp; try with_reducible rfl)
        try simp only [Act.put, List.setIfInBounds_toArray, List.set_cons_zero, List.set_cons_succ]
        refine takeP 4 (v := ?_) rfl (by kernel_rfl) (by kernel_rfl) (by kernel_rfl) (by kernel_rfl) (fun _ _ _ h => h) (by rfl) ?_ (by assumption) ?_
        rotate_left 1
        · (intro w hSw; go_simp; try with_reducible rfl)
        try simp only [Act.put, List.setIfInBounds_toArray, List.set_cons_zero, List.set_cons_succ]
        refine takeL 5 (v := ?_) rfl (by kernel_rfl) (by kernel_rfl) (by kernel_rfl) (by kernel_rfl) (fun _ _ _ h => h) (by rfl) ?_ (by assumption) ?_
        rotate_left 1
        · (intro w hSw; (try dsimp only at hSw); obtain ⟨_, hSw1, hSw2⟩ := hSw; go_simp; try with_reducible rfl)
        try simp only [Act.put, List.setIfInBounds_toArray, List.set_cons_zero, List.set_cons_succ]
        refine takeP 6 (v := ?_) rfl (by kernel_rfl) (by kernel_rfl) (by kernel_rfl) (by kernel_rfl) (fun _ _ _ h => h) (by rfl) ?_ (by assumption) ?_
        rotate_left 1
        · (intro w hSw; go_simp; try with_reducible rfl)
        try simp only [Act.put, List.setIfInBounds_toArray, List.set_cons_zero, List.set_cons_succ]
        clear hHeld
        refine twoL 2 7 (by kernel_rfl) rfl rfl (fun K hK => ?_) (fun K hK => ?_)
        · skip
          go_simp
          have HP2 := Lib.hid (HPd.out.alloc (.cells #[.int .i64 (-1)] 3))
          have HN2 := Lib.hid (BlkAt.new Wd 3 #[.int .i64 (-1)])
          refine hK.out _ _ ⟨trivial, fun _ => ⟨HP2.out.plan.cell 0, HP2.out.plan.cell 1⟩⟩ ?_
          clear hK
          try simp only [Act.put, List.setIfInBounds_toArray, List.set_cons_zero, List.set_cons_succ]
          have hsWe := World.size_alloc Wd (.cells #[.int .i64 (-1)] 3)
          have hbWd := fun k hk => Below.heap_alloc Wd (.cells #[.int .i64 (-1)] 3) k hk
          obtain ⟨We, hwWe⟩ : ∃ We, Wd.alloc (.cells #[.int .i64 (-1)] 3) = We := ⟨_, rfl⟩
          rw [hwWe] at HP2 HN2 hsWe ⊢
          simp only [hwWe] at hbWd
          clear hwWe
          have hWe := Lib.hid hsWe
          clear hsWe
          refine twoL 3 7 (by kernel_rfl) rfl rfl (fun K hK => ?_) (fun K hK => ?_)
          · skip
            refine step_append_at rfl (.tmp 57) (.tmp 58) 27 rfl Bb 3 i0 (.int .i64 0) 1 8 Tryz.underlying27 HIN.out hz0 hz1 hz2 rfl (by decide) vm (plan0 r G).mach.length _ rfl HP2.out.one ⟨Wd.heap.size, 0, none⟩ 1 1 [.int .i64 (-1)] rfl rfl (news_blk HN2.out) (by simp [Value.oneCell']) (by unfold maxLen; omega) (by omega) HP2.out.size (fun v3 W3 hrow hgr hob => ?_)
            have HP3 := Lib.hid (HP2.out.app1 hrow hgr hob)
            have hro := HP3.out.one
            rw [HK1.out] at hro
            obtain ⟨A7, c7, hv7, _, _, _⟩ := own_slice hro
            subst hv7
            clear hro hrow hob
            clear hgr
            refine hK.out _ _ ⟨trivial, fun _ => ⟨HP3.out.plan.cell 0, HP3.out.plan.cell 1⟩⟩ ?_
            clear hK
            try simp only [Act.put, List.setIfInBounds_toArray, List.set_cons_zero, List.set_cons_succ]
            have hHeld : True ∧ (W3.cell? ⟨Bb + 1, 0, none⟩ = some vm ∧ W3.cell? ⟨Bb + 1, 1, none⟩ = some vs) := ⟨trivial, HP3.out.plan.cell 0, HP3.out.plan.cell 1⟩
            refine takeP 9 (v := ?_) rfl (by kernel_rfl) (by kernel_rfl) (by kernel_rfl) (by kernel_rfl) (fun _ _ _ h => h) (by rfl) ?_ (by assumption) ?_
            rotate_left 1
            · (intro w hSw; go_simp; try with_reducible rfl)
            try simp only [Act.put, List.setIfInBounds_toArray, List.set_cons_zero, List.set_cons_succ]
            clear hHeld
            refine oneL 7 (by kernel_rfl) rfl (fun K hK => ?_)
            go_simp
            have HP7 := Lib.hid (HP3.out.alloc (.cells #[.int .i64 (r : Int)] 3))
            have HN7 := Lib.hid (BlkAt.new W3 3 #[.int .i64 (r : Int)])
            refine hK.out _ _ ⟨trivial, fun _ => ⟨HP7.out.plan.cell 0, HP7.out.plan.cell 1⟩⟩ ?_
            clear hK
            try simp only [Act.put, List.setIfInBounds_toArray, List.set_cons_zero, List.set_cons_succ]
            have hsW7 := World.size_alloc W3 (.cells #[.int .i64 (r : Int)] 3)
            have hbW3 := fun k hk => Below.heap_alloc W3 (.cells #[.int .i64 (r : Int)] 3) k hk
            obtain ⟨W7, hwW7⟩ : ∃ W7, W3.alloc (.cells #[.int .i64 (r : Int)] 3) = W7 := ⟨_, rfl⟩
            rw [hwW7] at HP7 HN7 hsW7 ⊢
            simp only [hwW7] at hbW3
            clear hwW7
            have hW7 := Lib.hid hsW7
            clear hsW7
            refine oneL 8 (by kernel_rfl) rfl (fun K hK => ?_)
            refine step_append_at rfl (.tmp 61) (.tmp 63) 27 rfl Bb 3 i0 (.int .i64 0) 1 8 Tryz.underlying27 HIN.out hz0 hz1 hz2 rfl (by decide) vs (plan0 r G).slot.length _ rfl HP7.out.two ⟨W3.heap.size, 0, none⟩ 1 1 [.int .i64 (r : Int)] rfl rfl (news_blk HN7.out) (by simp [Value.oneCell']) (by unfold maxLen; omega) (by omega) HP7.out.size (fun v8 W8 hrow hgr hob => ?_)
            have HP8 := Lib.hid (HP7.out.app2 hrow hgr hob)
            have hro := HP8.out.two
            rw [HK2.out] at hro
            obtain ⟨A8, c8, hv8, _, _, _⟩ := own_slice hro
            subst hv8
            clear hro hrow hob hgr
            refine hK.out _ _ ⟨trivial, fun _ => ⟨HP8.out.plan.cell 0, HP8.out.plan.cell 1⟩⟩ ?_
            clear hK
            try simp only [Act.put, List.setIfInBounds_toArray, List.set_cons_zero, List.set_cons_succ]
            have q0 := HP8.out.plan.cell 0
            have f0 := HP8.out.plan.frozen 0
            have q1 := (HP8.out.plan.set 0 (Value.slice A7 (r + 1) c7)).cell 1
            have f1 := (HP8.out.plan.set 0 (Value.slice A7 (r + 1) c7)).frozen 1
            simp only [List.setIfInBounds_toArray, List.set_cons_succ, List.set_cons_zero, List.getElem?_toArray, List.getElem?_cons_succ, List.getElem?_cons_zero] at q0 q1
            have HFIN := Lib.hid (HP8.out.stores)
            refine oneL 10 (by kernel_rfl) rfl (fun K hK => ?_)
            go_simp
            refine hK.out _ _ ⟨trivial, fun h => absurd h (by decide)⟩ ?_
            clear hK
            try simp only [Act.put, List.setIfInBounds_toArray, List.set_cons_zero, List.set_cons_succ]
            refine oneL 11 (by kernel_rfl) rfl (fun K hK => ?_)
            go_simp
            refine hK.out _ _ ⟨trivial, fun h => absurd h (by decide)⟩ ?_
            clear hK
            try simp only [Act.put, List.setIfInBounds_toArray, List.set_cons_zero, List.set_cons_succ]
            obtain ⟨W9, hW9⟩ : ∃ W9, W8.setCell ⟨Bb + 1, 0, none⟩ (Value.slice A7 (r + 1) c7) = W9 := ⟨_, rfl⟩
            rw [hW9] at q1 f1 HFIN ⊢
            clear hW9
            refine oneL 12 (by kernel_rfl) rfl (fun K hK => ?_)
            go_simp
            refine hK.out _ _ ⟨trivial, fun h => absurd h (by decide)⟩ ?_
            clear hK q0 q1 f0 f1
            try simp only [Act.put, List.setIfInBounds_toArray, List.set_cons_zero, List.set_cons_succ]
            refine doneL (by kernel_rfl) ?_ _
            go_step
            go_wp2_with fail
            go_roundw
            case rel =>
              refine ⟨r + 1, .slice A7 (r + 1) c7, .slice A8 (r + 1) c8, by omega, by go_num, Lib.hid ?_⟩
              show PlanX _ _ _ _ _ _ (G : Int) _ _ _ _ _
              rw [(plan0_succ r G).1, (plan0_succ r G).2, HSV.out]
              exact HFIN.out
            case measure => simp [intOf]; omega
          · skip
            go_simp
            have HP7 := Lib.hid (HP2.out.alloc (.cells #[.int .i64 (r : Int)] 3))
            have HN7 := Lib.hid (BlkAt.new We 3 #[.int .i64 (r : Int)])
            refine hK.out _ _ ⟨trivial, fun _ => ⟨HP7.out.plan.cell 0, HP7.out.plan.cell 1⟩⟩ ?_
            clear hK
            try simp only [Act.put, List.setIfInBounds_toArray, List.set_cons_zero, List.set_cons_succ]
            have hsW7 := World.size_alloc We (.cells #[.int .i64 (r : Int)] 3)
            have hbWe := fun k hk => Below.heap_alloc We (.cells #[.int .i64 (r : Int)] 3) k hk
            obtain ⟨W7, hwW7⟩ : ∃ W7, We.alloc (.cells #[.int .i64 (r : Int)] 3) = W7 := ⟨_, rfl⟩
            rw [hwW7] at HP7 HN7 hsW7 ⊢
            simp only [hwW7] at hbWe
            clear hwW7
            have hW7 := Lib.hid hsW7
            clear hsW7
            have HN2k := Lib.hid (HN2.out.block (show W7.heap[Wd.heap.size]? = We.heap[Wd.heap.size]? from hbWe _ (by have := hWe.out; omega)))
            refine oneL 3 (by kernel_rfl) rfl (fun K hK => ?_)
            refine step_append_at rfl (.tmp 57) (.tmp 58) 27 rfl Bb 3 i0 (.int .i64 0) 1 8 Tryz.underlying27 HIN.out hz0 hz1 hz2 rfl (by decide) vm (plan0 r G).mach.length _ rfl HP7.out.one ⟨Wd.heap.size, 0, none⟩ 1 1 [.int .i64 (-1)] rfl rfl (news_blk HN2k.out) (by simp [Value.oneCell']) (by unfold maxLen; omega) (by omega) HP7.out.size (fun v3 W3 hrow hgr hob => ?_)
            have HP3 := Lib.hid (HP7.out.app1 hrow hgr hob)
            have hro := HP3.out.one
            rw [HK1.out] at hro
            obtain ⟨A7, c7, hv7, _, _, _⟩ := own_slice hro
            subst hv7
            clear hro hrow hob
            have HN7k := Lib.hid (HN7.out.kept hgr (fun e => by have := (own_lt HP2.out.one e.symm).2; omega))
            clear hgr
            refine hK.out _ _ ⟨trivial, fun _ => ⟨HP3.out.plan.cell 0, HP3.out.plan.cell 1⟩⟩ ?_
            clear hK
            try simp only [Act.put, List.setIfInBounds_toArray, List.set_cons_zero, List.set_cons_succ]
            have hHeld : True ∧ (W3.cell? ⟨Bb + 1, 0, none⟩ = some vm ∧ W3.cell? ⟨Bb + 1, 1, none⟩ = some vs) := ⟨trivial, HP3.out.plan.cell 0, HP3.out.plan.cell 1⟩
            refine takeP 9 (v := ?_) rfl (by kernel_rfl) (by kernel_rfl) (by kernel_rfl) (by kernel_rfl) (fun _ _ _ h => h) (by rfl) ?_ (by assumption) ?_
            rotate_left 1
            · (intro w hSw; go_simp; try with_reducible rfl)
            try simp only [Act.put, List.setIfInBounds_toArray, List.set_cons_zero, List.set_cons_succ]
            clear hHeld
            refine oneL 8 (by kernel_rfl) rfl (fun K hK => ?_)
            refine step_append_at rfl (.tmp 61) (.tmp 63) 27 rfl Bb 3 i0 (.int .i64 0) 1 8 Tryz.underlying27 HIN.out hz0 hz1 hz2 rfl (by decide) vs (plan0 r G).slot.length _ rfl HP3.out.two ⟨We.heap.size, 0, none⟩ 1 1 [.int .i64 (r : Int)] rfl rfl (news_blk HN7k.out) (by simp [Value.oneCell']) (by unfold maxLen; omega) (by omega) HP3.out.size (fun v8 W8 hrow hgr hob => ?_)
            have HP8 := Lib.hid (HP3.out.app2 hrow hgr hob)
            have hro := HP8.out.two
            rw [HK2.out] at hro
            obtain ⟨A8, c8, hv8, _, _, _⟩ := own_slice hro
            subst hv8
            clear hro hrow hob hgr
            refine hK.out _ _ ⟨trivial, fun _ => ⟨HP8.out.plan.cell 0, HP8.out.plan.cell 1⟩⟩ ?_
            clear hK
            try simp only [Act.put, List.setIfInBounds_toArray, List.set_cons_zero, List.set_cons_succ]
            have q0 := HP8.out.plan.cell 0
            have f0 := HP8.out.plan.frozen 0
            have q1 := (HP8.out.plan.set 0 (Value.slice A7 (r + 1) c7)).cell 1
            have f1 := (HP8.out.plan.set 0 (Value.slice A7 (r + 1) c7)).frozen 1
            simp only [List.setIfInBounds_toArray, List.set_cons_succ, List.set_cons_zero, List.getElem?_toArray, List.getElem?_cons_succ, List.getElem?_cons_zero] at q0 q1
            have HFIN := Lib.hid (HP8.out.stores)
            refine oneL 10 (by kernel_rfl) rfl (fun K hK => ?_)
            go_simp
            refine hK.out _ _ ⟨trivial, fun h => absurd h (by decide)⟩ ?_
            clear hK
            try simp only [Act.put, List.setIfInBounds_toArray, List.set_cons_zero, List.set_cons_succ]
            refine oneL 11 (by kernel_rfl) rfl (fun K hK => ?_)
            go_simp
            refine hK.out _ _ ⟨trivial, fun h => absurd h (by decide)⟩ ?_
            clear hK
            try simp only [Act.put, List.setIfInBounds_toArray, List.set_cons_zero, List.set_cons_succ]
            obtain ⟨W9, hW9⟩ : ∃ W9, W8.setCell ⟨Bb + 1, 0, none⟩ (Value.slice A7 (r + 1) c7) = W9 := ⟨_, rfl⟩
            rw [hW9] at q1 f1 HFIN ⊢
            clear hW9
            refine oneL 12 (by kernel_rfl) rfl (fun K hK => ?_)
            go_simp
            refine hK.out _ _ ⟨trivial, fun h => absurd h (by decide)⟩ ?_
            clear hK q0 q1 f0 f1
            try simp only [Act.put, List.setIfInBounds_toArray, List.set_cons_zero, List.set_cons_succ]
            refine doneL (by kernel_rfl) ?_ _
            go_step
            go_wp2_with fail
            go_roundw
            case rel =>
              refine ⟨r + 1, .slice A7 (r + 1) c7, .slice A8 (r + 1) c8, by omega, by go_num, Lib.hid ?_⟩
              show PlanX _ _ _ _ _ _ (G : Int) _ _ _ _ _
              rw [(plan0_succ r G).1, (plan0_succ r G).2, HSV.out]
              exact HFIN.out
            case measure => simp [intOf]; omega
        · skip
          go_simp
          have HP7 := Lib.hid (HPd.out.alloc (.cells #[.int .i64 (r : Int)] 3))
          have HN7 := Lib.hid (BlkAt.new Wd 3 #[.int .i64 (r : Int)])
          refine hK.out _ _ ⟨trivial, fun _ => ⟨HP7.out.plan.cell 0, HP7.out.plan.cell 1⟩⟩ ?_
          clear hK
          try simp only [Act.put, List.setIfInBounds_toArray, List.set_cons_zero, List.set_cons_succ]
          have hsWe := World.size_alloc Wd (.cells #[.int .i64 (r : Int)] 3)
          have hbWd := fun k hk => Below.heap_alloc Wd (.cells #[.int .i64 (r : Int)] 3) k hk
          obtain ⟨We, hwWe⟩ : ∃ We, Wd.alloc (.cells #[.int .i64 (r : Int)] 3) = We := ⟨_, rfl⟩
          rw [hwWe] at HP7 HN7 hsWe ⊢
          simp only [hwWe] at hbWd
          clear hwWe
          have hWe := Lib.hid hsWe
          clear hsWe
          refine oneL 2 (by kernel_rfl) rfl (fun K hK => ?_)
          go_simp
          have HP2 := Lib.hid (HP7.out.alloc (.cells #[.int .i64 (-1)] 3))
          have HN2 := Lib.hid (BlkAt.new We 3 #[.int .i64 (-1)])
          refine hK.out _ _ ⟨trivial, fun _ => ⟨HP2.out.plan.cell 0, HP2.out.plan.cell 1⟩⟩ ?_
          clear hK
          try simp only [Act.put, List.setIfInBounds_toArray, List.set_cons_zero, List.set_cons_succ]
          have hsW7 := World.size_alloc We (.cells #[.int .i64 (-1)] 3)
          have hbWe := fun k hk => Below.heap_alloc We (.cells #[.int .i64 (-1)] 3) k hk
          obtain ⟨W7, hwW7⟩ : ∃ W7, We.alloc (.cells #[.int .i64 (-1)] 3) = W7 := ⟨_, rfl⟩
          rw [hwW7] at HP2 HN2 hsW7 ⊢
          simp only [hwW7] at hbWe
          clear hwW7
          have hW7 := Lib.hid hsW7
          clear hsW7
          have HN7j := Lib.hid (HN7.out.block (show W7.heap[Wd.heap.size]? = We.heap[Wd.heap.size]? from hbWe _ (by have := hWe.out; omega)))
          refine oneL 3 (by kernel_rfl) rfl (fun K hK => ?_)
          refine step_append_at rfl (.tmp 57) (.tmp 58) 27 rfl Bb 3 i0 (.int .i64 0) 1 8 Tryz.underlying27 HIN.out hz0 hz1 hz2 rfl (by decide) vm (plan0 r G).mach.length _ rfl HP2.out.one ⟨We.heap.size, 0, none⟩ 1 1 [.int .i64 (-1)] rfl rfl (news_blk HN2.out) (by simp [Value.oneCell']) (by unfold maxLen; omega) (by omega) HP2.out.size (fun v3 W3 hrow hgr hob => ?_)
          have HP3 := Lib.hid (HP2.out.app1 hrow hgr hob)
          have hro := HP3.out.one
          rw [HK1.out] at hro
          obtain ⟨A7, c7, hv7, _, _, _⟩ := own_slice hro
          subst hv7
          clear hro hrow hob
          have HN7k := Lib.hid (HN7j.out.kept hgr (fun e => by have := (own_lt HPd.out.one e.symm).2; omega))
          clear hgr
          refine hK.out _ _ ⟨trivial, fun _ => ⟨HP3.out.plan.cell 0, HP3.out.plan.cell 1⟩⟩ ?_
          clear hK
          try simp only [Act.put, List.setIfInBounds_toArray, List.set_cons_zero, List.set_cons_succ]
          have hHeld : True ∧ (W3.cell? ⟨Bb + 1, 0, none⟩ = some vm ∧ W3.cell? ⟨Bb + 1, 1, none⟩ = some vs) := ⟨trivial, HP3.out.plan.cell 0, HP3.out.plan.cell 1⟩
          refine takeP 9 (v := ?_) rfl (by kernel_rfl) (by kernel_rfl) (by kernel_rfl) (by kernel_rfl) (fun _ _ _ h => h) (by rfl) ?_ (by assumption) ?_
          rotate_left 1
          · (intro w hSw; go_simp; try with_reducible rfl)
          try simp only [Act.put, List.setIfInBounds_toArray, List.set_cons_zero, List.set_cons_succ]
          clear hHeld
          refine oneL 8 (by kernel_rfl) rfl (fun K hK => ?_)
          refine step_append_at rfl (.tmp 61) (.tmp 63) 27 rfl Bb 3 i0 (.int .i64 0) 1 8 Tryz.underlying27 HIN.out hz0 hz1 hz2 rfl (by decide) vs (plan0 r G).slot.length _ rfl HP3.out.two ⟨Wd.heap.size, 0, none⟩ 1 1 [.int .i64 (r : Int)] rfl rfl (news_blk HN7k.out) (by simp [Value.oneCell']) (by unfold maxLen; omega) (by omega) HP3.out.size (fun v8 W8 hrow hgr hob => ?_)
          have HP8 := Lib.hid (HP3.out.app2 hrow hgr hob)
          have hro := HP8.out.two
          rw [HK2.out] at hro
          obtain ⟨A8, c8, hv8, _, _, _⟩ := own_slice hro
          subst hv8
          clear hro hrow hob hgr
          refine hK.out _ _ ⟨trivial, fun _ => ⟨HP8.out.plan.cell 0, HP8.out.plan.cell 1⟩⟩ ?_
          clear hK
          try simp only [Act.put, List.setIfInBounds_toArray, List.set_cons_zero, List.set_cons_succ]
          have q0 := HP8.out.plan.cell 0
          have f0 := HP8.out.plan.frozen 0
          have q1 := (HP8.out.plan.set 0 (Value.slice A7 (r + 1) c7)).cell 1
          have f1 := (HP8.out.plan.set 0 (Value.slice A7 (r + 1) c7)).frozen 1
          simp only [List.setIfInBounds_toArray, List.set_cons_succ, List.set_cons_zero, List.getElem?_toArray, List.getElem?_cons_succ, List.getElem?_cons_zero] at q0 q1
          have HFIN := Lib.hid (HP8.out.stores)
          refine oneL 10 (by kernel_rfl) rfl (fun K hK => ?_)
          go_simp
          refine hK.out _ _ ⟨trivial, fun h => absurd h (by decide)⟩ ?_
          clear hK
          try simp only [Act.put, List.setIfInBounds_toArray, List.set_cons_zero, List.set_cons_succ]
          refine oneL 11 (by kernel_rfl) rfl (fun K hK => ?_)
          go_simp
          refine hK.out _ _ ⟨trivial, fun h => absurd h (by decide)⟩ ?_
          clear hK
          try simp only [Act.put, List.setIfInBounds_toArray, List.set_cons_zero, List.set_cons_succ]
          obtain ⟨W9, hW9⟩ : ∃ W9, W8.setCell ⟨Bb + 1, 0, none⟩ (Value.slice A7 (r + 1) c7) = W9 := ⟨_, rfl⟩
          rw [hW9] at q1 f1 HFIN ⊢
          clear hW9
          refine oneL 12 (by kernel_rfl) rfl (fun K hK => ?_)
          go_simp
          refine hK.out _ _ ⟨trivial, fun h => absurd h (by decide)⟩ ?_
          clear hK q0 q1 f0 f1
          try simp only [Act.put, List.setIfInBounds_toArray, List.set_cons_zero, List.set_cons_succ]
          refine doneL (by kernel_rfl) ?_ _
          go_step
          go_wp2_with fail
          go_roundw
          case rel =>
            refine ⟨r + 1, .slice A7 (r + 1) c7, .slice A8 (r + 1) c8, by omega, by go_num, Lib.hid ?_⟩
            show PlanX _ _ _ _ _ _ (G : Int) _ _ _ _ _
            rw [(plan0_succ r G).1, (plan0_succ r G).2, HSV.out]
            exact HFIN.out
          case measure => simp [intOf]; omega
      · have HSV : Hid (slotOf G r = (-1 : Int)) := Lib.hid (by unfold slotOf; rw [if_neg hra])
        go_wp2_with fail
        refine heldL (fun _ => True) (fun w' => w'.cell? ⟨Bb + 1, 0, none⟩ = some vm ∧ w'.cell? ⟨Bb + 1, 1, none⟩ = some vs) 10 (by kernel_rfl) ?_
        have HPd := Lib.hid (HPL.out.below (below_draw (Below.refl _ _) 1))
        have HK1 : Hid (((plan0 r G).mach ++ [(-1 : Int)]).length = r + 1) := Lib.hid (by rw [List.length_append, hl1]; rfl)
        have HK2 : Hid (((plan0 r G).slot ++ [((-1) : Int)]).length = r + 1) := Lib.hid (by rw [List.length_append, hl2]; rfl)
        clear HPL
        generalize wr.drewN 1 = Wd at *
        have hHeld : True ∧ (Wd.cell? ⟨Bb + 1, 0, none⟩ = some vm ∧ Wd.cell? ⟨Bb + 1, 1, none⟩ = some vs) := ⟨trivial, HPd.out.plan.cell 0, HPd.out.plan.cell 1⟩
        refine takeP 0 (v := ?_) rfl (by kernel_rfl) (by kernel_rfl) (by kernel_rfl) (by kernel_rfl) (fun _ _ _ h => h) (by rfl) ?_ (by assumption) ?_
        rotate_left 1
        · (intro w hSw; go_simp; try with_reducible rfl)
        try simp only [Act.put, List.setIfInBounds_toArray, List.set_cons_zero, List.set_cons_succ]
        refine takeL 1 (v := ?_) rfl (by kernel_rfl) (by kernel_rfl) (by kernel_rfl) (by kernel_rfl) (fun _ _ _ h => h) (by rfl) ?_ (by assumption) ?_
        rotate_left 1
        · (intro w hSw; (try dsimp only at hSw); obtain ⟨_, hSw1, hSw2⟩ := hSw; go_simp; try with_reducible rfl)
        try simp only [Act.put, List.setIfInBounds_toArray, List.set_cons_zero, List.set_cons_succ]
        refine takeP 4 (v := ?_) rfl (by kernel_rfl) (by kernel_rfl) (by kernel_rfl) (by kernel_rfl) (fun _ _ _ h => h) (by rfl) ?_ (by assumption) ?_
        rotate_left 1
        · (intro w hSw; go_simp; try with_reducible rfl)
        try simp only [Act.put, List.setIfInBounds_toArray, List.set_cons_zero, List.set_cons_succ]
        refine takeL 5 (v := ?_) rfl (by kernel_rfl) (by kernel_rfl) (by kernel_rfl) (by kernel_rfl) (fun _ _ _ h => h) (by rfl) ?_ (by assumption) ?_
        rotate_left 1
        · (intro w hSw; (try dsimp only at hSw); obtain ⟨_, hSw1, hSw2⟩ := hSw; go_simp; try with_reducible rfl)
        try simp only [Act.put, List.setIfInBounds_toArray, List.set_cons_zero, List.set_cons_succ]
        refine takeP 6 (v := ?_) rfl (by kernel_rfl) (by kernel_rfl) (by kernel_rfl) (by kernel_rfl) (fun _ _ _ h => h) (by rfl) ?_ (by assumption) ?_
        rotate_left 1
        · (intro w hSw; go_simp; try with_reducible rfl)
        try simp only [Act.put, List.setIfInBounds_toArray, List.set_cons_zero, List.set_cons_succ]
        clear hHeld
        refine twoL 2 7 (by kernel_rfl) rfl rfl (fun K hK => ?_) (fun K hK => ?_)
        · skip
          go_simp
          have HP2 := Lib.hid (HPd.out.alloc (.cells #[.int .i64 (-1)] 3))
          have HN2 := Lib.hid (BlkAt.new Wd 3 #[.int .i64 (-1)])
          refine hK.out _ _ ⟨trivial, fun _ => ⟨HP2.out.plan.cell 0, HP2.out.plan.cell 1⟩⟩ ?_
          clear hK
          try simp only [Act.put, List.setIfInBounds_toArray, List.set_cons_zero, List.set_cons_succ]
          have hsWe := World.size_alloc Wd (.cells #[.int .i64 (-1)] 3)
          have hbWd := fun k hk => Below.heap_alloc Wd (.cells #[.int .i64 (-1)] 3) k hk
          obtain ⟨We, hwWe⟩ : ∃ We, Wd.alloc (.cells #[.int .i64 (-1)] 3) = We := ⟨_, rfl⟩
          rw [hwWe] at HP2 HN2 hsWe ⊢
          simp only [hwWe] at hbWd
          clear hwWe
          have hWe := Lib.hid hsWe
          clear hsWe
          refine twoL 3 7 (by kernel_rfl) rfl rfl (fun K hK => ?_) (fun K hK => ?_)
          · skip
            refine step_append_at rfl (.tmp 57) (.tmp 58) 27 rfl Bb 3 i0 (.int .i64 0) 1 8 Tryz.underlying27 HIN.out hz0 hz1 hz2 rfl (by decide) vm (plan0 r G).mach.length _ rfl HP2.out.one ⟨Wd.heap.size, 0, none⟩ 1 1 [.int .i64 (-1)] rfl rfl (news_blk HN2.out) (by simp [Value.oneCell']) (by unfold maxLen; omega) (by omega) HP2.out.size (fun v3 W3 hrow hgr hob => ?_)
            have HP3 := Lib.hid (HP2.out.app1 hrow hgr hob)
            have hro := HP3.out.one
            rw [HK1.out] at hro
            obtain ⟨A7, c7, hv7, _, _, _⟩ := own_slice hro
            subst hv7
            clear hro hrow hob
            clear hgr
            refine hK.out _ _ ⟨trivial, fun _ => ⟨HP3.out.plan.cell 0, HP3.out.plan.cell 1⟩⟩ ?_
            clear hK
            try simp only [Act.put, List.setIfInBounds_toArray, List.set_cons_zero, List.set_cons_succ]
            have hHeld : True ∧ (W3.cell? ⟨Bb + 1, 0, none⟩ = some vm ∧ W3.cell? ⟨Bb + 1, 1, none⟩ = some vs) := ⟨trivial, HP3.out.plan.cell 0, HP3.out.plan.cell 1⟩
            refine takeP 9 (v := ?_) rfl (by kernel_rfl) (by kernel_rfl) (by kernel_rfl) (by kernel_rfl) (fun _ _ _ h => h) (by rfl) ?_ (by assumption) ?_
            rotate_left 1
            · (intro w hSw; go_simp; try with_reducible rfl)
            try simp only [Act.put, List.setIfInBounds_toArray, List.set_cons_zero, List.set_cons_succ]
            clear hHeld
            refine oneL 7 (by kernel_rfl) rfl (fun K hK => ?_)
            go_simp
            have HP7 := Lib.hid (HP3.out.alloc (.cells #[.int .i64 (-1)] 3))
            have HN7 := Lib.hid (BlkAt.new W3 3 #[.int .i64 (-1)])
            refine hK.out _ _ ⟨trivial, fun _ => ⟨HP7.out.plan.cell 0, HP7.out.plan.cell 1⟩⟩ ?_
            clear hK
            try simp only [Act.put, List.setIfInBounds_toArray, List.set_cons_zero, List.set_cons_succ]
            have hsW7 := World.size_alloc W3 (.cells #[.int .i64 (-1)] 3)
            have hbW3 := fun k hk => Below.heap_alloc W3 (.cells #[.int .i64 (-1)] 3) k hk
            obtain ⟨W7, hwW7⟩ : ∃ W7, W3.alloc (.cells #[.int .i64 (-1)] 3) = W7 := ⟨_, rfl⟩
            rw [hwW7] at HP7 HN7 hsW7 ⊢
            simp only [hwW7] at hbW3
            clear hwW7
            have hW7 := Lib.hid hsW7
            clear hsW7
            refine oneL 8 (by kernel_rfl) rfl (fun K hK => ?_)
            refine step_append_at rfl (.tmp 61) (.tmp 63) 27 rfl Bb 3 i0 (.int .i64 0) 1 8 Tryz.underlying27 HIN.out hz0 hz1 hz2 rfl (by decide) vs (plan0 r G).slot.length _ rfl HP7.out.two ⟨W3.heap.size, 0, none⟩ 1 1 [.int .i64 (-1)] rfl rfl (news_blk HN7.out) (by simp [Value.oneCell']) (by unfold maxLen; omega) (by omega) HP7.out.size (fun v8 W8 hrow hgr hob => ?_)
            have HP8 := Lib.hid (HP7.out.app2 hrow hgr hob)
            have hro := HP8.out.two
            rw [HK2.out] at hro
            obtain ⟨A8, c8, hv8, _, _, _⟩ := own_slice hro
            subst hv8
            clear hro hrow hob hgr
            refine hK.out _ _ ⟨trivial, fun _ => ⟨HP8.out.plan.cell 0, HP8.out.plan.cell 1⟩⟩ ?_
            clear hK
            try simp only [Act.put, List.setIfInBounds_toArray, List.set_cons_zero, List.set_cons_succ]
            have q0 := HP8.out.plan.cell 0
            have f0 := HP8.out.plan.frozen 0
            have q1 := (HP8.out.plan.set 0 (Value.slice A7 (r + 1) c7)).cell 1
            have f1 := (HP8.out.plan.set 0 (Value.slice A7 (r + 1) c7)).frozen 1
            simp only [List.setIfInBounds_toArray, List.set_cons_succ, List.set_cons_zero, List.getElem?_toArray, List.getElem?_cons_succ, List.getElem?_cons_zero] at q0 q1
            have HFIN := Lib.hid (HP8.out.stores)
            refine oneL 10 (by kernel_rfl) rfl (fun K hK => ?_)
            go_simp
            refine hK.out _ _ ⟨trivial, fun h => absurd h (by decide)⟩ ?_
            clear hK
            try simp only [Act.put, List.setIfInBounds_toArray, List.set_cons_zero, List.set_cons_succ]
            refine oneL 11 (by kernel_rfl) rfl (fun K hK => ?_)
            go_simp
            refine hK.out _ _ ⟨trivial, fun h => absurd h (by decide)⟩ ?_
            clear hK
            try simp only [Act.put, List.setIfInBounds_toArray, List.set_cons_zero, List.set_cons_succ]
            obtain ⟨W9, hW9⟩ : ∃ W9, W8.setCell ⟨Bb + 1, 0, none⟩ (Value.slice A7 (r + 1) c7) = W9 := ⟨_, rfl⟩
            rw [hW9] at q1 f1 HFIN ⊢
            clear hW9
            refine oneL 12 (by kernel_rfl) rfl (fun K hK => ?_)
            go_simp
            refine hK.out _ _ ⟨trivial, fun h => absurd h (by decide)⟩ ?_
            clear hK q0 q1 f0 f1
            try simp only [Act.put, List.setIfInBounds_toArray, List.set_cons_zero, List.set_cons_succ]
            refine doneL (by kernel_rfl) ?_ _
            go_step
            go_wp2_with fail
            go_roundw
            case rel =>
              refine ⟨r + 1, .slice A7 (r + 1) c7, .slice A8 (r + 1) c8, by omega, by go_num, Lib.hid ?_⟩
              show PlanX _ _ _ _ _ _ (G : Int) _ _ _ _ _
              rw [(plan0_succ r G).1, (plan0_succ r G).2, HSV.out]
              exact HFIN.out
            case measure => simp [intOf]; omega
          · skip
            go_simp
            have HP7 := Lib.hid (HP2.out.alloc (.cells #[.int .i64 (-1)] 3))
            have HN7 := Lib.hid (BlkAt.new We 3 #[.int .i64 (-1)])
            refine hK.out _ _ ⟨trivial, fun _ => ⟨HP7.out.plan.cell 0, HP7.out.plan.cell 1⟩⟩ ?_
            clear hK
            try simp only [Act.put, List.setIfInBounds_toArray, List.set_cons_zero, List.set_cons_succ]
            have hsW7 := World.size_alloc We (.cells #[.int .i64 (-1)] 3)
            have hbWe := fun k hk => Below.heap_alloc We (.cells #[.int .i64 (-1)] 3) k hk
            obtain ⟨W7, hwW7⟩ : ∃ W7, We.alloc (.cells #[.int .i64 (-1)] 3) = W7 := ⟨_, rfl⟩
            rw [hwW7] at HP7 HN7 hsW7 ⊢
            simp only [hwW7] at hbWe
            clear hwW7
            have hW7 := Lib.hid hsW7
            clear hsW7
            have HN2k := Lib.hid (HN2.out.block (show W7.heap[Wd.heap.size]? = We.heap[Wd.heap.size]? from hbWe _ (by have := hWe.out; omega)))
            refine oneL 3 (by kernel_rfl) rfl (fun K hK => ?_)
            refine step_append_at rfl (.tmp 57) (.tmp 58) 27 rfl Bb 3 i0 (.int .i64 0) 1 8 Tryz.underlying27 HIN.out hz0 hz1 hz2 rfl (by decide) vm (plan0 r G).mach.length _ rfl HP7.out.one ⟨Wd.heap.size, 0, none⟩ 1 1 [.int .i64 (-1)] rfl rfl (news_blk HN2k.out) (by simp [Value.oneCell']) (by unfold maxLen; omega) (by omega) HP7.out.size (fun v3 W3 hrow hgr hob => ?_)
            have HP3 := Lib.hid (HP7.out.app1 hrow hgr hob)
            have hro := HP3.out.one
            rw [HK1.out] at hro
            obtain ⟨A7, c7, hv7, _, _, _⟩ := own_slice hro
            subst hv7
            clear hro hrow hob
            have HN7k := Lib.hid (HN7.out.kept hgr (fun e => by have := (own_lt HP2.out.one e.symm).2; omega))
            clear hgr
            refine hK.out _ _ ⟨trivial, fun _ => ⟨HP3.out.plan.cell 0, HP3.out.plan.cell 1⟩⟩ ?_
            clear hK
            try simp only [Act.put, List.setIfInBounds_toArray, List.set_cons_zero, List.set_cons_succ]
            have hHeld : True ∧ (W3.cell? ⟨Bb + 1, 0, none⟩ = some vm ∧ W3.cell? ⟨Bb + 1, 1, none⟩ = some vs) := ⟨trivial, HP3.out.plan.cell 0, HP3.out.plan.cell 1⟩
            refine takeP 9 (v := ?_) rfl (by kernel_rfl) (by kernel_rfl) (by kernel_rfl) (by kernel_rfl) (fun _ _ _ h => h) (by rfl) ?_ (by assumption) ?_
            rotate_left 1
            · (intro w hSw; go_simp; try with_reducible rfl)
            try simp only [Act.put, List.setIfInBounds_toArray, List.set_cons_zero, List.set_cons_succ]
            clear hHeld
            refine oneL 8 (by kernel_rfl) rfl (fun K hK => ?_)
            refine step_append_at rfl (.tmp 61) (.tmp 63) 27 rfl Bb 3 i0 (.int .i64 0) 1 8 Tryz.underlying27 HIN.out hz0 hz1 hz2 rfl (by decide) vs (plan0 r G).slot.length _ rfl HP3.out.two ⟨We.heap.size, 0, none⟩ 1 1 [.int .i64 (-1)] rfl rfl (news_blk HN7k.out) (by simp [Value.oneCell']) (by unfold maxLen; omega) (by omega) HP3.out.size (fun v8 W8 hrow hgr hob => ?_)
            have HP8 := Lib.hid (HP3.out.app2 hrow hgr hob)
            have hro := HP8.out.two
            rw [HK2.out] at hro
            obtain ⟨A8, c8, hv8, _, _, _⟩ := own_slice hro
            subst hv8
            clear hro hrow hob hgr
            refine hK.out _ _ ⟨trivial, fun _ => ⟨HP8.out.plan.cell 0, HP8.out.plan.cell 1⟩⟩ ?_
            clear hK
            try simp only [Act.put, List.setIfInBounds_toArray, List.set_cons_zero, List.set_cons_succ]
            have q0 := HP8.out.plan.cell 0
            have f0 := HP8.out.plan.frozen 0
            have q1 := (HP8.out.plan.set 0 (Value.slice A7 (r + 1) c7)).cell 1
            have f1 := (HP8.out.plan.set 0 (Value.slice A7 (r + 1) c7)).frozen 1
            simp only [List.setIfInBounds_toArray, List.set_cons_succ, List.set_cons_zero, List.getElem?_toArray, List.getElem?_cons_succ, List.getElem?_cons_zero] at q0 q1
            have HFIN := Lib.hid (HP8.out.stores)
            refine oneL 10 (by kernel_rfl) rfl (fun K hK => ?_)
            go_simp
            refine hK.out _ _ ⟨trivial, fun h => absurd h (by decide)⟩ ?_
            clear hK
            try simp only [Act.put, List.setIfInBounds_toArray, List.set_cons_zero, List.set_cons_succ]
            refine oneL 11 (by kernel_rfl) rfl (fun K hK => ?_)
            go_simp
            refine hK.out _ _ ⟨trivial, fun h => absurd h (by decide)⟩ ?_
            clear hK
            try simp only [Act.put, List.setIfInBounds_toArray, List.set_cons_zero, List.set_cons_succ]
            obtain ⟨W9, hW9⟩ : ∃ W9, W8.setCell ⟨Bb + 1, 0, none⟩ (Value.slice A7 (r + 1) c7) = W9 := ⟨_, rfl⟩
            rw [hW9] at q1 f1 HFIN ⊢
            clear hW9
            refine oneL 12 (by kernel_rfl) rfl (fun K hK => ?_)
            go_simp
            refine hK.out _ _ ⟨trivial, fun h => absurd h (by decide)⟩ ?_
            clear hK q0 q1 f0 f1
            try simp only [Act.put, List.setIfInBounds_toArray, List.set_cons_zero, List.set_cons_succ]
            refine doneL (by kernel_rfl) ?_ _
            go_step
            go_wp2_with fail
            go_roundw
            case rel =>
              refine ⟨r + 1, .slice A7 (r + 1) c7, .slice A8 (r + 1) c8, by omega, by go_num, Lib.hid ?_⟩
              show PlanX _ _ _ _ _ _ (G : Int) _ _ _ _ _
              rw [(plan0_succ r G).1, (plan0_succ r G).2, HSV.out]
              exact HFIN.out
            case measure => simp [intOf]; omega
        · skip
          go_simp
          have HP7 := Lib.hid (HPd.out.alloc (.cells #[.int .i64 (-1)] 3))
          have HN7 := Lib.hid (BlkAt.new Wd 3 #[.int .i64 (-1)])
          refine hK.out _ _ ⟨trivial, fun _ => ⟨HP7.out.plan.cell 0, HP7.out.plan.cell 1⟩⟩ ?_
          clear hK
          try simp only [Act.put, List.setIfInBounds_toArray, List.set_cons_zero, List.set_cons_succ]
          have hsWe := World.size_alloc Wd (.cells #[.int .i64 (-1)] 3)
          have hbWd := fun k hk => Below.heap_alloc Wd (.cells #[.int .i64 (-1)] 3) k hk
          obtain ⟨We, hwWe⟩ : ∃ We, Wd.alloc (.cells #[.int .i64 (-1)] 3) = We := ⟨_, rfl⟩
          rw [hwWe] at HP7 HN7 hsWe ⊢
          simp only [hwWe] at hbWd
          clear hwWe
          have hWe := Lib.hid hsWe
          clear hsWe
          refine oneL 2 (by kernel_rfl) rfl (fun K hK => ?_)
          go_simp
          have HP2 := Lib.hid (HP7.out.alloc (.cells #[.int .i64 (-1)] 3))
          have HN2 := Lib.hid (BlkAt.new We 3 #[.int .i64 (-1)])
          refine hK.out _ _ ⟨trivial, fun _ => ⟨HP2.out.plan.cell 0, HP2.out.plan.cell 1⟩⟩ ?_
          clear hK
          try simp only [Act.put, List.setIfInBounds_toArray, List.set_cons_zero, List.set_cons_succ]
          have hsW7 := World.size_alloc We (.cells #[.int .i64 (-1)] 3)
          have hbWe := fun k hk => Below.heap_alloc We (.cells #[.int .i64 (-1)] 3) k hk
          obtain ⟨W7, hwW7⟩ : ∃ W7, We.alloc (.cells #[.int .i64 (-1)] 3) = W7 := ⟨_, rfl⟩
          rw [hwW7] at HP2 HN2 hsW7 ⊢
          simp only [hwW7] at hbWe
          clear hwW7
          have hW7 := Lib.hid hsW7
          clear hsW7
          have HN7j := Lib.hid (HN7.out.block (show W7.heap[Wd.heap.size]? = We.heap[Wd.heap.size]? from hbWe _ (by have := hWe.out; omega)))
          refine oneL 3 (by kernel_rfl) rfl (fun K hK => ?_)
          refine step_append_at rfl (.tmp 57) (.tmp 58) 27 rfl Bb 3 i0 (.int .i64 0) 1 8 Tryz.underlying27 HIN.out hz0 hz1 hz2 rfl (by decide) vm (plan0 r G).mach.length _ rfl HP2.out.one ⟨We.heap.size, 0, none⟩ 1 1 [.int .i64 (-1)] rfl rfl (news_blk HN2.out) (by simp [Value.oneCell']) (by unfold maxLen; omega) (by omega) HP2.out.size (fun v3 W3 hrow hgr hob => ?_)
          have HP3 := Lib.hid (HP2.out.app1 hrow hgr hob)
          have hro := HP3.out.one
          rw [HK1.out] at hro
          obtain ⟨A7, c7, hv7, _, _, _⟩ := own_slice hro
          subst hv7
          clear hro hrow hob
          have HN7k := Lib.hid (HN7j.out.kept hgr (fun e => by have := (own_lt HPd.out.one e.symm).2; omega))
          clear hgr
          refine hK.out _ _ ⟨trivial, fun _ => ⟨HP3.out.plan.cell 0, HP3.out.plan.cell 1⟩⟩ ?_
          clear hK
          try simp only [Act.put, List.setIfInBounds_toArray, List.set_cons_zero, List.set_cons_succ]
          have hHeld : True ∧ (W3.cell? ⟨Bb + 1, 0, none⟩ = some vm ∧ W3.cell? ⟨Bb + 1, 1, none⟩ = some vs) := ⟨trivial, HP3.out.plan.cell 0, HP3.out.plan.cell 1⟩
          refine takeP 9 (v := ?_) rfl (by kernel_rfl) (by kernel_rfl) (by kernel_rfl) (by kernel_rfl) (fun _ _ _ h => h) (by rfl) ?_ (by assumption) ?_
          rotate_left 1
          · (intro w hSw; go_simp; try with_reducible rfl)
          try simp only [Act.put, List.setIfInBounds_toArray, List.set_cons_zero, List.set_cons_succ]
          clear hHeld
          refine oneL 8 (by kernel_rfl) rfl (fun K hK => ?_)
          refine step_append_at rfl (.tmp 61) (.tmp 63) 27 rfl Bb 3 i0 (.int .i64 0) 1 8 Tryz.underlying27 HIN.out hz0 hz1 hz2 rfl (by decide) vs (plan0 r G).slot.length _ rfl HP3.out.two ⟨Wd.heap.size, 0, none⟩ 1 1 [.int .i64 (-1)] rfl rfl (news_blk HN7k.out) (by simp [Value.oneCell']) (by unfold maxLen; omega) (by omega) HP3.out.size (fun v8 W8 hrow hgr hob => ?_)
          have HP8 := Lib.hid (HP3.out.app2 hrow hgr hob)
          have hro := HP8.out.two
          rw [HK2.out] at hro
          obtain ⟨A8, c8, hv8, _, _, _⟩ := own_slice hro
          subst hv8
          clear hro hrow hob hgr
          refine hK.out _ _ ⟨trivial, fun _ => ⟨HP8.out.plan.cell 0, HP8.out.plan.cell 1⟩⟩ ?_
          clear hK
          try simp only [Act.put, List.setIfInBounds_toArray, List.set_cons_zero, List.set_cons_succ]
          have q0 := HP8.out.plan.cell 0
          have f0 := HP8.out.plan.frozen 0
          have q1 := (HP8.out.plan.set 0 (Value.slice A7 (r + 1) c7)).cell 1
          have f1 := (HP8.out.plan.set 0 (Value.slice A7 (r + 1) c7)).frozen 1
          simp only [List.setIfInBounds_toArray, List.set_cons_succ, List.set_cons_zero, List.getElem?_toArray, List.getElem?_cons_succ, List.getElem?_cons_zero] at q0 q1
          have HFIN := Lib.hid (HP8.out.stores)
          refine oneL 10 (by kernel_rfl) rfl (fun K hK => ?_)
          go_simp
          refine hK.out _ _ ⟨trivial, fun h => absurd h (by decide)⟩ ?_
          clear hK
          try simp only [Act.put, List.setIfInBounds_toArray, List.set_cons_zero, List.set_cons_succ]
          refine oneL 11 (by kernel_rfl) rfl (fun K hK => ?_)
          go_simp
          refine hK.out _ _ ⟨trivial, fun h => absurd h (by decide)⟩ ?_
          clear hK
          try simp only [Act.put, List.setIfInBounds_toArray, List.set_cons_zero, List.set_cons_succ]
          obtain ⟨W9, hW9⟩ : ∃ W9, W8.setCell ⟨Bb + 1, 0, none⟩ (Value.slice A7 (r + 1) c7) = W9 := ⟨_, rfl⟩
          rw [hW9] at q1 f1 HFIN ⊢
          clear hW9
          refine oneL 12 (by kernel_rfl) rfl (fun K hK => ?_)
          go_simp
          refine hK.out _ _ ⟨trivial, fun h => absurd h (by decide)⟩ ?_
          clear hK q0 q1 f0 f1
          try simp only [Act.put, List.setIfInBounds_toArray, List.set_cons_zero, List.set_cons_succ]
          refine doneL (by kernel_rfl) ?_ _
          go_step
          go_wp2_with fail
          go_roundw
          case rel =>
            refine ⟨r + 1, .slice A7 (r + 1) c7, .slice A8 (r + 1) c8, by omega, by go_num, Lib.hid ?_⟩
            show PlanX _ _ _ _ _ _ (G : Int) _ _ _ _ _
            rw [(plan0_succ r G).1, (plan0_succ r G).2, HSV.out]
            exact HFIN.out
          case measure => simp [intOf]; omega
    · obtain rfl : r = R := by omega
      have HPW : Hid (PlanM w1 #[.string ⟨b.name.toArray⟩, .int .i64 r, .int .i64 G, .slice Ab nb cb] Bb (Bb + 1) vm vs (plan0 r G) (wr.alloc (.cells #[.slice none 0 0] 27))) := Lib.hid (PlanX.alloc HPM.out _)
      have HFV := Lib.hid (BlkAt.new wr 27 #[.slice none 0 0])
      have HVM : Hid ((∀ j, vm.ownBlock = some j → j < wr.heap.size) ∧ (∀ j, vs.ownBlock = some j → j < wr.heap.size) ∧ Bb + 1 < wr.heap.size) := Lib.hid ⟨fun j hj => (own_lt (PlanX.one HPM.out) hj).2, fun j hj => (own_lt (PlanX.two HPM.out) hj).2, (PlanX.plan HPM.out).lt⟩
      have HFS := Lib.hid (World.size_alloc wr (.cells #[.slice none 0 0] 27))
      clear HX2 HPM
      go_wp2_with fail
      obtain ⟨Wf, hWf⟩ : ∃ Wf, wr.alloc (.cells #[.slice none 0 0] 27) = Wf := ⟨_, rfl⟩
      rw [hWf] at HPW HFV HFS ⊢
      obtain ⟨Fb, hFb⟩ : ∃ Fb, wr.heap.size = Fb := ⟨_, rfl⟩
      rw [hFb] at HFV HVM HFS ⊢
      clear hWf hFb
      go_loopw [69] (fun kv wq => ∃ (m : Nat) (vf : Value), m ≤ mc ∧ kv = .int .i64 m ∧ Hid (PlanM w1 #[.string ⟨b.name.toArray⟩, .int .i64 r, .int .i64 G, .slice Ab nb cb] Bb (Bb + 1) vm vs (plan0 r G) wq) ∧ Hid (BlkAt wq Fb 27 #[vf]) ∧ Hid (wq.ownsRow (Fb + 1) 3 1 vf m (((List.range m).map Int.ofNat).map (Value.int .i64)))) (fun kv _ => mc - (intOf kv).toNat)
      case atStart => exact ⟨0, _, by omega, rfl, HPW, HFV, Lib.hid (World.ownsRow_nil _ _ _ _)⟩
      case round =>
        obtain ⟨m, vf, hmm, rfl, HPM, HFV, HFR⟩ := hrel
        by_cases hlt : m < mc
        · have f0 := HFV.out.cell 0
          have f1 := HFV.out.frozen 0
          simp only [List.getElem?_toArray, List.getElem?_cons_zero] at f0
          have k1 : (m : Int) < (mc : Int) := by omega
          have wr1 : IntKind.i64.wrap ((m : Int) + 1) = (m : Int) + 1 := IntWalk.i64_in _ (by omega)
          obtain ⟨Av, cv, hv, _, _, _⟩ := own_slice HFR.out
          subst hv
          have hFl : Fb < wr.heap.size := HFV.out.lt
          go_wp2_with (first
            | (at_builtin; refine wpList_append_own_at _ rfl _ _ 27 rfl (Fb + 1) 3 i0 (.int .i64 0) 1 8 Tryz.underlying27 HIN.out hz0 hz1 hz2 rfl (by decide) (.slice Av m cv) m _ rfl (own_below HFR.out ((Below.refl _ wr).alloc (Nat.le_refl _) _)) ⟨wr.heap.size, 0, none⟩ 1 1 [.int .i64 m] rfl rfl (cells_new' _ [.int .i64 m] _ _ rfl) (by simp [Value.oneCell']) (by unfold maxLen; omega) (by omega) (alloc_sz hFl) ?_
               intro v4 w4 hrow4 hgr4 hiff4 hob4
               obtain ⟨A4, c4, hv4, _, _, _⟩ := own_slice hrow4
               subst hv4
               have HROW4 := Lib.hid hrow4
               have HG4 := Lib.hid hgr4
               have HF4 := Lib.hid ((HFV.out.alloc (.cells #[.int .i64 m] 3)).kept hgr4 (fun e => by have := (own_lt HFR.out e.symm).1; omega))
               have f2 := HF4.out.cell 0
               have f3 := HF4.out.frozen 0
               simp only [List.getElem?_toArray, List.getElem?_cons_zero] at f2
               clear hrow4 hgr4 hiff4 hob4 f0 f1)
            | fail)
          go_roundw
          case rel =>
            refine ⟨m + 1, .slice A4 (m + 1) c4, by omega, by go_num, Lib.hid ?_, Lib.hid ?_, Lib.hid ?_⟩
            · have h1 := (PlanX.alloc HPM.out (.cells #[.int .i64 m] 3))
              have h2 := h1.keptHigh (K := Fb) HG4.out (fun j e => by have := (own_lt HFR.out e).1; omega) HVM.out.2.2 HVM.out.1 HVM.out.2.1
              exact h2.keptHigh (K := Fb) (setCell_grown _ _ _ _) (fun j e => by cases e; omega) HVM.out.2.2 HVM.out.1 HVM.out.2.1
            · have := HF4.out.set 0 (.slice A4 (m + 1) c4)
              simpa using this
            · rw [← map_ofNat_snoc]
              exact own_setc HROW4.out _ _ _ (by omega)
          case measure => simp [intOf]; omega
        · obtain rfl : m = mc := by omega
          obtain ⟨Af, cf, hvf, _, _, _⟩ := own_slice HFR.out
          subst hvf
          have hlf : ((List.range m).map Int.ofNat).length = m := by simp
          have HSM : Hid (ScanM Bb (Bb + 1) Fb vm vs Af cf (plan0 r G) ((List.range m).map Int.ofNat) wr) := Lib.hid ⟨PlanX.plan HPM.out, by rw [hlf]; exact HFV.out, by rw [hlf]; exact (frow_own HFR.out).low (by have := HVM.out.2.2; omega), PlanX.one HPM.out, PlanX.two HPM.out, PlanX.ne HPM.out, fun j hj => by
            rw [hlf] at hj
            have h1 := (own_lt HFR.out hj).1
            exact ⟨fun e => by have := HVM.out.1 j e; omega, fun e => by have := HVM.out.2.1 j e; omega⟩, by omega, by have := HVM.out.2.2; omega⟩
          have HBEL := Lib.hid (PlanX.bel HPM.out)
          have HBOD := Lib.hid (PlanX.body HPM.out)
          have hbel : Below w1.heap.size w1 wr := by rw [HSZ.out.1]; exact HBEL.out
          have hiv := intervals_any _ X b Ab nb cb (b.regs.toNat / 64 + 1) b.regs.toNat us vU vA vB gA gB ah be wr (HL.out.below hbel) HUL.out HFX.out HCO.out (HDB1.out.below hbel HDB1.out.lt) (by have := HR.out.regs; omega) HLB.out HR.out.ne (fun i r hi h => tch_range HR.out HFX.out hi h) (fun x hx => (HSH.out x hx).2) (Nat.le_trans (itv_len _ _ _ _) (by have := HR.out.regs; omega))
          obtain ⟨l, hl⟩ : ∃ l, itvL b.code ah be b.regs.toNat = l := ⟨_, rfl⟩
          have HOK : Hid (ItvOK r l) := Lib.hid (by
            have := itvs_ok (tchB b.code ah be) b.code.length b.regs.toNat
            rw [show itvsOf (tchB b.code ah be) b.code.length b.regs.toNat = l from hl] at this
            rwa [show b.regs.toNat = r by rw [HRG.out.1]; simp] at this)
          have hll : l.length ≤ r := by
            have := itv_len b.code ah be b.regs.toNat
            rw [hl, HRG.out.1] at this
            simpa using this
          rw [hl] at hiv
          have HIV := Lib.hid hiv
          have HIL := Lib.hid hl
          have hrow1 := HSM.out.mach
          rw [(plan0_len r G).1] at hrow1
          obtain ⟨Am, cm, hvm, _, _, hAm⟩ := own_slice hrow1
          have hrow2 := HSM.out.slot
          rw [(plan0_len r G).2] at hrow2
          obtain ⟨As, cs, hvs, _, _, hAs⟩ := own_slice hrow2
          have HAM : Hid (0 < r → ∃ g, Am = some ⟨g, 0, none⟩) := Lib.hid (fun h => by obtain ⟨g, e, _⟩ := hAm h; exact ⟨g, e⟩)
          have HAS : Hid (0 < r → ∃ g, As = some ⟨g, 0, none⟩) := Lib.hid (fun h => by obtain ⟨g, e, _⟩ := hAs h; exact ⟨g, e⟩)
          subst hvm
          subst hvs
          clear hAm hAs hrow1 hrow2 hiv hl hlf HPM HFV HFR HPW HVM hbel
          go_wp2_with (first
            | (go_at_call 41
               refine HIV.out.mono ?_
               rintro e w3 ⟨⟨vI, rfl, hrow⟩, hb3⟩
               have HROWI := Lib.hid hrow
               obtain ⟨AI, cI, hvI, _, _, _⟩ := own_slice hrow
               subst hvI
               have HCTX : Hid (Ctx w1 #[.string ⟨b.name.toArray⟩, .int .i64 r, .int .i64 G, .slice Ab nb cb] Bb w3.heap.size (.slice AI l.length cI) l w3) := Lib.hid ⟨HBEL.out.trans (hb3.mono HSM.out.size), HBOD.out.below hb3 HBOD.out.lt, own_low hrow HSM.out.size, fun j hj => (own_lt hrow hj).2, Nat.le_refl _, Nat.lt_of_lt_of_le HBOD.out.lt hb3.size⟩
               have HSM3 : Hid (ScanM Bb (Bb + 1) Fb (.slice Am r cm) (.slice As r cs) Af cf (scanAt r G m l 0).p (scanAt r G m l 0).free w3) := Lib.hid (HSM.out.below hb3)
               have HAI : Hid (0 < l.length → ∃ g, AI = some ⟨g, 0, none⟩) := Lib.hid (fun h => by obtain ⟨_, _, hv, _, _, hA⟩ := own_slice hrow; cases hv; obtain ⟨g, e, _⟩ := hA h; exact ⟨g, e⟩)
               clear hrow hb3 HIV HSM HROWI)
            | fail)
          obtain ⟨Kb, hKb⟩ : ∃ Kb, w3.heap.size = Kb := ⟨_, rfl⟩
          rw [hKb] at HCTX
          clear hKb
          go_loopw [16, 80] (fun va kv wr => ∃ (i : Nat) (Af : Option Addr) (cf : Nat), i ≤ l.length ∧ kv = .int .i64 i ∧ Hid (ScanM Bb (Bb + 1) Fb (.slice Am r cm) (.slice As r cs) Af cf (scanAt r G m l i).p (scanAt r G m l i).free wr) ∧ Hid (wr.ownsRow Kb 44 3 va (scanAt r G m l i).active.length ((scanAt r G m l i).active.flatMap encItv)) ∧ Hid (Ctx w1 #[.string ⟨b.name.toArray⟩, .int .i64 r, .int .i64 G, .slice Ab nb cb] Bb Kb (.slice AI l.length cI) l wr)) (fun _ kv _ => l.length - (intOf kv).toNat)
          case atStart => exact ⟨0, Af, cf, by omega, rfl, HSM3, Lib.hid (World.ownsRow_nil _ _ _ _), HCTX⟩
          case round =>
            clear HSM3 HCTX
            obtain ⟨i, Af, cf, hil, rfl, HSM, HACT, HCTX⟩ := hrel
            by_cases hlt : i < l.length
            · obtain ⟨v, hv⟩ := get_some (xs := l) (k := i) hlt
              obtain ⟨t, hinv⟩ := scan_inv G m HOK.out i
              have HSRT := Lib.hid (scan_sorted r G m l i)
              have HSLT := Lib.hid (scan_slots r G m l i (by omega))
              have HNEXT := Lib.hid (scan_succ (r := r) (G := G) (mc := m) hv)
              have hvr : v.reg < r := HOK.out.1 v (List.mem_of_getElem? hv)
              obtain ⟨s, hs⟩ : ∃ s, scanAt r G m l i = s := ⟨_, rfl⟩
              rw [hs] at HSM HACT hinv HSRT HSLT HNEXT
              clear hs
              have hfl := free_len hinv
              have hal := act_len hinv
              have hml := hinv.mlen
              have hsl := hinv.slen
              have hal2 : s.active.length ≤ 5000 := by have := List.length_take_le' i l; omega
              have HRGA : Hid (∀ a ∈ s.active, a.reg < r) := Lib.hid (fun a ha => hinv.inr a (hinv.act a ha).1)
              have HSRT2 := Lib.hid (freed_sorted (m := s.p.mach) (us := s.active.filter (gone v)) HSRT.out)
              have HFL2 : Hid ((freed s.p.mach s.free (s.active.filter (gone v))).length ≤ 6000) := Lib.hid (by rw [freed_length]; have := List.length_filter_le (gone v) s.active; omega)
              obtain ⟨gI, hgI⟩ := HAI.out (by omega)
              subst hgI
              obtain ⟨gm, hgm⟩ := HAM.out (by omega)
              subst hgm
              obtain ⟨gs, hgs⟩ := HAS.out (by omega)
              subst hgs
              have hci : ∀ (j : Nat) (u : Value), (encItv v)[j]? = some u → wr.cell? ⟨gI, i * 3 + j, none⟩ = some u := fun j u hu => by
                obtain ⟨_, _, hv2, _, _, hA⟩ := own_slice HCTX.out.rowI
                cases hv2
                obtain ⟨g, e, _, _, hc⟩ := hA (by omega)
                cases e
                exact hc _ _ (flat_at encItv_len l i v j u hv hu)
              have c0 := hci 0 _ rfl
              have c1 := hci 1 _ rfl
              have c2 := hci 2 _ rfl
              rw [Nat.add_zero] at c0
              have HB1 := Lib.hid ((Below.refl wr.heap.size wr).alloc (Nat.le_refl _) (.cells #[.int .i64 v.reg, .int .i64 v.frm, .int .i64 v.to] 44))
              have hdel := itv_delete 43 #[.pointer (some ⟨wr.heap.size, 0, none⟩), .pointer (some ⟨Fb, 0, none⟩), .pointer (some ⟨Bb + 1, 0, none⟩)] (enters_of Tryz.func43 (by kernel_rfl) rfl) (gone v) Kb u16 s.active _ (wr.alloc (.cells #[.int .i64 v.reg, .int .i64 v.frm, .int .i64 v.to] 44)) (by omega) (own_below HACT.out HB1.out)
                (fun g hg => pred1 Bb (Bb + 1) Fb wr.heap.size g Kb (.slice (some ⟨gm, 0, none⟩) r cm) (.slice (some ⟨gs, 0, none⟩) r cs) s.p s.free v s.active w1 #[.string ⟨b.name.toArray⟩, .int .i64 r, .int .i64 G, .slice Ab nb cb] (.slice (some ⟨gI, 0, none⟩) l.length cI) l HSRT.out (by omega) (fun a ha => by rw [hml]; exact HRGA.out a ha) (by omega) u16.ownBlock hg (own_lt HACT.out hg).1 (own_lt HACT.out hg).2)
                ⟨⟨Af, cf, HSM.out.below HB1.out⟩, BlkAt.new wr _ _, HCTX.out.below HB1.out, fun j hj => own_blkE (own_below HACT.out HB1.out) hj⟩
              obtain ⟨us, hus⟩ : ∃ us, s.active.filter (fun a => !gone v a) = us := ⟨_, rfl⟩
              rw [hus] at hdel
              have HUS := Lib.hid hus
              have hul : us.length ≤ 5000 := by rw [← hus]; exact Nat.le_trans (List.length_filter_le _ _) hal2
              clear hus
              have HDEL := Lib.hid hdel
              have k0 : (0 : Int) ≤ (i : Int) := by omega
              have k1 : (i : Int) < (l.length : Int) := by omega
              have wr1 : IntKind.i64.wrap ((i : Int) + 1) = (i : Int) + 1 := IntWalk.i64_in _ (by omega)
              have HVG := Lib.hid hv
              have HINV := Lib.hid hinv
              clear hdel hci HSRT HAM HAS HAI hv hinv hal
              rcases hq : freed s.p.mach s.free (s.active.filter (gone v)) with _ | ⟨m0, rest⟩
              · have HQ := Lib.hid hq
                clear hq
                go_wp2_with (first
                  | (go_at_call 42
                     refine HDEL.out.mono ?_
                     rintro e w4 ⟨v2, rfl, hact2, hob2, ⟨Af2, cf2, hsm2⟩, hvb2, hctx2, _⟩
                     obtain ⟨Aa, ca, hva, _, _, _⟩ := own_slice hact2
                     subst hva
                     rw [List.take_length, HQ.out] at hsm2
                     have HVA : Hid ((Value.slice Aa us.length ca).ownBlock ≠ some wr.heap.size) := Lib.hid (fun e => by rw [hob2] at e; have := (own_lt HACT.out e).2; omega)
                     have HACT2 := Lib.hid hact2
                     have HSM2 := Lib.hid hsm2
                     have HVB2 := Lib.hid hvb2
                     have HCTX2 := Lib.hid hctx2
                     have q0 := hsm2.fvar.cell 0
                     have v0 := hvb2.cell 0
                     have v1 := hvb2.cell 1
                     have v2 := hvb2.cell 2
                     simp only [List.getElem?_toArray, List.getElem?_cons_zero, List.getElem?_cons_succ, List.length_nil] at q0 v0 v1 v2
                     clear hact2 hob2 hsm2 hvb2 hctx2 HDEL c0 c1 c2)
                  | fail)
                have HBW := Lib.hid ((Below.refl w4.heap.size w4).alloc (Nat.le_refl _) (.cells #[.int .i64 v.reg, .int .i64 v.frm, .int .i64 v.to] 44))
                have HSM5 := Lib.hid (HSM2.out.below HBW.out)
                have HACT5 := Lib.hid (own_below HACT2.out HBW.out)
                have HVB5 := Lib.hid (HVB2.out.below HBW.out HVB2.out.lt)
                have HCTX5 := Lib.hid (HCTX2.out.below HBW.out)
                have HWB5 := Lib.hid (BlkAt.new w4 44 #[.int .i64 v.reg, .int .i64 v.frm, .int .i64 v.to])
                have HAB : Hid (∀ j, (Value.slice Aa us.length ca).ownBlock = some j → Kb ≤ j ∧ j < w4.heap.size) := Lib.hid (fun j hj => own_lt HACT2.out hj)
                have HKW : Hid (Kb ≤ w4.heap.size ∧ wr.heap.size < w4.heap.size) := Lib.hid ⟨HCTX2.out.hK, HVB2.out.lt⟩
                obtain ⟨W5, hW5⟩ : ∃ W5, w4.alloc (.cells #[.int .i64 v.reg, .int .i64 v.frm, .int .i64 v.to] 44) = W5 := ⟨_, rfl⟩
                rw [hW5] at HSM5 HACT5 HVB5 HCTX5 HWB5 ⊢
                obtain ⟨Wb, hWb⟩ : ∃ Wb, w4.heap.size = Wb := ⟨_, rfl⟩
                rw [hWb] at HWB5 HAB HKW ⊢
                obtain ⟨Vb, hVb⟩ : ∃ Vb, wr.heap.size = Vb := ⟨_, rfl⟩
                rw [hVb] at HVB5 HKW HVA ⊢
                clear hW5 hWb hVb HBW q0 v0 v1 v2 HSM2 HACT2 HVB2 HCTX2 HSM HACT HCTX HB1
                go_loopw [107] (fun kv wr => ∃ k : Nat, k ≤ us.length ∧ kv = .int .i64 k ∧ Hid (ScanM Bb (Bb + 1) Fb (.slice (some ⟨gm, 0, none⟩) r cm) (.slice (some ⟨gs, 0, none⟩) r cs) Af2 cf2 s.p [] wr) ∧ Hid (wr.ownsRow Kb 44 3 (.slice Aa us.length ca) us.length (us.flatMap encItv)) ∧ Hid (BlkAt wr Vb 44 #[.int .i64 v.reg, .int .i64 v.frm, .int .i64 v.to]) ∧ Hid (Ctx w1 #[.string ⟨b.name.toArray⟩, .int .i64 r, .int .i64 G, .slice Ab nb cb] Bb Kb (.slice (some ⟨gI, 0, none⟩) l.length cI) l wr) ∧ Hid (BlkAt wr Wb 44 #[.int .i64 (worstOf v (us.take k)).reg, .int .i64 (worstOf v (us.take k)).frm, .int .i64 (worstOf v (us.take k)).to])) (fun kv _ => us.length - (intOf kv).toNat)
                case atStart => exact ⟨0, by omega, rfl, HSM5, HACT5, HVB5, HCTX5, HWB5⟩
                case round =>
                  clear HSM5 HACT5 HVB5 HCTX5 HWB5
                  obtain ⟨k', hku, rfl, HSM, HACT, HVB, HCTX, HWB⟩ := hrel
                  by_cases hltk : k' < us.length
                  · obtain ⟨a, ha⟩ := get_some hltk
                    have HWT := Lib.hid (worst_take v us k' a ha)
                    obtain ⟨wk, hwk⟩ : ∃ wk, worstOf v (us.take k') = wk := ⟨_, rfl⟩
                    rw [hwk] at HWB HWT
                    clear hwk
                    have hci : ∀ (j : Nat) (u : Value), (encItv a)[j]? = some u → ∃ ga, Aa = some ⟨ga, 0, none⟩ ∧ wr.cell? ⟨ga, k' * 3 + j, none⟩ = some u := fun j u hu => by
                      obtain ⟨_, _, hv2, _, _, hA⟩ := own_slice HACT.out
                      cases hv2
                      obtain ⟨g, e, _, _, hc⟩ := hA (by omega)
                      exact ⟨g, e, hc _ _ (flat_at encItv_len us k' a j u ha hu)⟩
                    obtain ⟨ga, hAa, c0⟩ := hci 0 _ rfl
                    subst hAa
                    obtain ⟨_, hAa, c1⟩ := hci 1 _ rfl
                    cases hAa
                    obtain ⟨_, hAa, c2⟩ := hci 2 _ rfl
                    cases hAa
                    rw [Nat.add_zero] at c0
                    have k3 : (0 : Int) ≤ (k' : Int) := by omega
                    have k4 : (k' : Int) < (us.length : Int) := by omega
                    have wr2 : IntKind.i64.wrap ((k' : Int) + 1) = (k' : Int) + 1 := IntWalk.i64_in _ (by omega)
                    have HB3 : Hid (Below wr.heap.size wr (wr.alloc (.cells #[.int .i64 a.reg, .int .i64 a.frm, .int .i64 a.to] 44)).drew) := Lib.hid (below_draw ((Below.refl wr.heap.size wr).alloc (Nat.le_refl _) (.cells #[.int .i64 a.reg, .int .i64 a.frm, .int .i64 a.to] 44)) 1)
                    have HNA := Lib.hid (BlkAt.new wr 44 #[.int .i64 a.reg, .int .i64 a.frm, .int .i64 a.to])
                    have HNW := Lib.hid (HWB.out.alloc (.cells #[.int .i64 a.reg, .int .i64 a.frm, .int .i64 a.to] 44))
                    have hH4 : (fun w' : World => w'.cell? ⟨wr.heap.size, 2, none⟩ = some (.int .i64 a.to) ∧ w'.cell? ⟨Wb, 2, none⟩ = some (.int .i64 wk.to) ∧ w'.cell? ⟨wr.heap.size, 0, none⟩ = some (.int .i64 a.reg) ∧ w'.cell? ⟨Wb, 0, none⟩ = some (.int .i64 wk.reg)) (wr.alloc (.cells #[.int .i64 a.reg, .int .i64 a.frm, .int .i64 a.to] 44)).drew := ⟨HNA.out.cell 2, HNW.out.cell 2, HNA.out.cell 0, HNW.out.cell 0⟩
                    obtain ⟨z, hz⟩ : ∃ z, orI (cmpI (a.to : Int) (wk.to : Int)) (cmpI (a.reg : Int) (wk.reg : Int)) = z := ⟨_, rfl⟩
                    have hwz := worse_or a wk
                    rw [hz] at hwz
                    have HZ := Lib.hid hz
                    clear hz hci ha
                    go_wp2_with fail
                    clear c0 c1 c2
                    cases hw : worse a wk with
                    | false =>
                      rw [hw] at hwz HWT
                      have hz0 : ¬ (0 : Int) < z := of_decide_eq_false hwz
                      clear hw hwz
                      refine wp_region_held_drew (S := fun w' => w'.cell? ⟨wr.heap.size, 2, none⟩ = some (.int .i64 a.to) ∧ w'.cell? ⟨Wb, 2, none⟩ = some (.int .i64 wk.to) ∧ w'.cell? ⟨wr.heap.size, 0, none⟩ = some (.int .i64 a.reg) ∧ w'.cell? ⟨Wb, 0, none⟩ = some (.int .i64 wk.reg)) (by kernel_rfl) hH4 ?_
                      intro hHeld
                      obtain ⟨W3, hW3⟩ : ∃ W3, (wr.alloc (.cells #[.int .i64 a.reg, .int .i64 a.frm, .int .i64 a.to] 44)).drew = W3 := ⟨_, rfl⟩
                      have HN3 := Lib.hid (show BlkAt (wr.alloc (.cells #[.int .i64 a.reg, .int .i64 a.frm, .int .i64 a.to] 44)).drew wr.heap.size 44 #[.int .i64 a.reg, .int .i64 a.frm, .int .i64 a.to] from HNA.out)
                      rw [hW3] at hHeld HB3 HN3 ⊢
                      clear hW3 hH4 HNA HNW
                      refine take_drop 0 (v := ?_) rfl (by kernel_rfl) (by kernel_rfl) (by kernel_rfl) (fun _ _ _ h => h) (by rfl) ?_ (by assumption) ?_
                      rotate_left 1
                      · (intro w hSw; obtain ⟨hSw1, hSw2, hSw3, hSw4⟩ := hSw; go_simp; try with_reducible rfl)
                      try simp only [Act.put, List.setIfInBounds_toArray, List.set_cons_zero, List.set_cons_succ]
                      refine take_drop 1 (v := ?_) rfl (by kernel_rfl) (by kernel_rfl) (by kernel_rfl) (fun _ _ _ h => h) (by rfl) ?_ (by assumption) ?_
                      rotate_left 1
                      · (intro w hSw; obtain ⟨hSw1, hSw2, hSw3, hSw4⟩ := hSw; go_simp; try with_reducible rfl)
                      try simp only [Act.put, List.setIfInBounds_toArray, List.set_cons_zero, List.set_cons_succ]
                      refine take_drop 2 (v := ?_) rfl (by kernel_rfl) (by kernel_rfl) (by kernel_rfl) (fun _ _ _ h => h) (by rfl) ?_ (by assumption) ?_
                      rotate_left 1
                      · (intro w hSw; obtain ⟨hSw1, hSw2, hSw3, hSw4⟩ := hSw; go_simp; try with_reducible rfl)
                      try simp only [Act.put, List.setIfInBounds_toArray, List.set_cons_zero, List.set_cons_succ]
                      refine take_drop 3 (v := ?_) rfl (by kernel_rfl) (by kernel_rfl) (by kernel_rfl) (fun _ _ _ h => h) (by rfl) ?_ (by assumption) ?_
                      rotate_left 1
                      · (intro w hSw; obtain ⟨hSw1, hSw2, hSw3, hSw4⟩ := hSw; go_simp; try with_reducible rfl)
                      try simp only [Act.put, List.setIfInBounds_toArray, List.set_cons_zero, List.set_cons_succ]
                      refine take_drop 5 (v := ?_) rfl (by kernel_rfl) (by kernel_rfl) (by kernel_rfl) (fun _ _ _ h => h) (by rfl) ?_ (by assumption) ?_
                      rotate_left 1
                      · (intro w hSw; obtain ⟨hSw1, hSw2, hSw3, hSw4⟩ := hSw; go_simp; try with_reducible rfl)
                      try simp only [Act.put, List.setIfInBounds_toArray, List.set_cons_zero, List.set_cons_succ]
                      refine take_drop 6 (v := ?_) rfl (by kernel_rfl) (by kernel_rfl) (by kernel_rfl) (fun _ _ _ h => h) (by rfl) ?_ (by assumption) ?_
                      rotate_left 1
                      · (intro w hSw; obtain ⟨hSw1, hSw2, hSw3, hSw4⟩ := hSw; go_simp; try with_reducible rfl)
                      try simp only [Act.put, List.setIfInBounds_toArray, List.set_cons_zero, List.set_cons_succ]
                      refine take_drop 7 (v := ?_) rfl (by kernel_rfl) (by kernel_rfl) (by kernel_rfl) (fun _ _ _ h => h) (by rfl) ?_ (by assumption) ?_
                      rotate_left 1
                      · (intro w hSw; obtain ⟨hSw1, hSw2, hSw3, hSw4⟩ := hSw; go_simp; try with_reducible rfl)
                      try simp only [Act.put, List.setIfInBounds_toArray, List.set_cons_zero, List.set_cons_succ]
                      refine take_drop 8 (v := ?_) rfl (by kernel_rfl) (by kernel_rfl) (by kernel_rfl) (fun _ _ _ h => h) (by rfl) ?_ (by assumption) ?_
                      rotate_left 1
                      · (intro w hSw; obtain ⟨hSw1, hSw2, hSw3, hSw4⟩ := hSw; go_simp; try with_reducible rfl)
                      try simp only [Act.put, List.setIfInBounds_toArray, List.set_cons_zero, List.set_cons_succ]
                      refine wpAnyH_ready (rs := [4]) (by kernel_rfl) (by simp) ?_
                      refine ready_call rfl rfl 46 (enters_of Tryz.func46 (by kernel_rfl) rfl) [.tmp 112, .tmp 114] _ rfl [.int .i64 a.to, .int .i64 wk.to] rfl (cmpI_any a.to wk.to _) ?_ AllReadyH.nil
                      rintro e W3 ⟨rfl, rfl⟩
                      refine ⟨_, rfl, hHeld, fun _ => ?_⟩
                      try simp only [Act.put, List.setIfInBounds_toArray, List.set_cons_zero, List.set_cons_succ]
                      refine wpAnyH_ready (rs := [9]) (by kernel_rfl) (by simp) ?_
                      refine ready_call rfl rfl 46 (enters_of Tryz.func46 (by kernel_rfl) rfl) [.tmp 117, .tmp 119] _ rfl [.int .i64 a.reg, .int .i64 wk.reg] rfl (cmpI_any a.reg wk.reg _) ?_ AllReadyH.nil
                      rintro e W3 ⟨rfl, rfl⟩
                      refine ⟨_, rfl, hHeld, fun _ => ?_⟩
                      try simp only [Act.put, List.setIfInBounds_toArray, List.set_cons_zero, List.set_cons_succ]
                      have HB4 := Lib.hid (HB3.out.alloc HB3.out.size (.cells #[.int .i64 (cmpI a.to wk.to), .int .i64 (cmpI a.reg wk.reg)] 3))
                      have hor := orI_any (cmpI a.to wk.to) (cmpI a.reg wk.reg) W3.heap.size (W3.alloc (.cells #[.int .i64 (cmpI a.to wk.to), .int .i64 (cmpI a.reg wk.reg)] 3)) (by rw [BlkAt.cell (BlkAt.new W3 _ _)]; rfl) (by rw [BlkAt.cell (BlkAt.new W3 _ _)]; rfl)
                      rw [HZ.out] at hor
                      have HOR := Lib.hid hor
                      clear hor
                      refine wpAnyH_ready (rs := [10]) (by kernel_rfl) (by simp) ?_
                      refine ready_drop rfl (fun K hK => ?_) AllReadyH.nil
                      go_simp
                      refine hK.out _ _ ⟨cell_alloc _ hHeld.1, cell_alloc _ hHeld.2.1, cell_alloc _ hHeld.2.2.1, cell_alloc _ hHeld.2.2.2⟩ (fun hHeld2 => ?_)
                      clear hK hHeld
                      try simp only [Act.put, List.setIfInBounds_toArray, List.set_cons_zero, List.set_cons_succ]
                      obtain ⟨W4, hW4⟩ : ∃ W4, W3.alloc (.cells #[.int .i64 (cmpI a.to wk.to), .int .i64 (cmpI a.reg wk.reg)] 3) = W4 := ⟨_, rfl⟩
                      have HN4 := Lib.hid (HN3.out.alloc (.cells #[.int .i64 (cmpI a.to wk.to), .int .i64 (cmpI a.reg wk.reg)] 3))
                      rw [hW4] at hHeld2 HB4 HOR HN4 ⊢
                      clear hW4 HN3
                      refine wpAnyH_ready (rs := [11]) (by kernel_rfl) (by simp) ?_
                      refine ready_call rfl rfl 45 (enters_of Tryz.func45 (by kernel_rfl) rfl) [.tmp 121] _ rfl [.slice (some ⟨W3.heap.size, 0, none⟩) 2 2] rfl HOR.out ?_ AllReadyH.nil
                      rintro e w' ⟨rfl, rfl⟩
                      refine ⟨_, rfl, hHeld2, fun _ => ?_⟩
                      try simp only [Act.put, List.setIfInBounds_toArray, List.set_cons_zero, List.set_cons_succ]
                      refine wpAnyH_ready (rs := [12]) (by kernel_rfl) (by simp) ?_
                      refine ready_drop rfl (fun K hK => ?_) AllReadyH.nil
                      go_simp
                      refine hK.out _ _ hHeld2 (fun _ => ?_)
                      clear hK hHeld2
                      try simp only [Act.put, List.setIfInBounds_toArray, List.set_cons_zero, List.set_cons_succ]
                      refine wpAnyH_done (by kernel_rfl) ?_ _
                      go_wp2_with fail
                      go_roundw
                      case rel => exact ⟨k' + 1, by omega, by go_num, Lib.hid (HSM.out.below HB4.out), Lib.hid (own_below HACT.out HB4.out), Lib.hid (HVB.out.below HB4.out HVB.out.lt), Lib.hid (HCTX.out.below HB4.out), Lib.hid (by rw [HWT.out]; exact HWB.out.below HB4.out HWB.out.lt)⟩
                      case measure => simp [intOf]; omega
                    | true =>
                      rw [hw] at hwz HWT
                      have hz0 : (0 : Int) < z := of_decide_eq_true hwz
                      clear hw hwz
                      refine wp_region_held_drew (S := fun w' => w'.cell? ⟨wr.heap.size, 2, none⟩ = some (.int .i64 a.to) ∧ w'.cell? ⟨Wb, 2, none⟩ = some (.int .i64 wk.to) ∧ w'.cell? ⟨wr.heap.size, 0, none⟩ = some (.int .i64 a.reg) ∧ w'.cell? ⟨Wb, 0, none⟩ = some (.int .i64 wk.reg)) (by kernel_rfl) hH4 ?_
                      intro hHeld
                      obtain ⟨W3, hW3⟩ : ∃ W3, (wr.alloc (.cells #[.int .i64 a.reg, .int .i64 a.frm, .int .i64 a.to] 44)).drew = W3 := ⟨_, rfl⟩
                      have HN3 := Lib.hid (show BlkAt (wr.alloc (.cells #[.int .i64 a.reg, .int .i64 a.frm, .int .i64 a.to] 44)).drew wr.heap.size 44 #[.int .i64 a.reg, .int .i64 a.frm, .int .i64 a.to] from HNA.out)
                      rw [hW3] at hHeld HB3 HN3 ⊢
                      clear hW3 hH4 HNA HNW
                      refine take_drop 0 (v := ?_) rfl (by kernel_rfl) (by kernel_rfl) (by kernel_rfl) (fun _ _ _ h => h) (by rfl) ?_ (by assumption) ?_
                      rotate_left 1
                      · (intro w hSw; obtain ⟨hSw1, hSw2, hSw3, hSw4⟩ := hSw; go_simp; try with_reducible rfl)
                      try simp only [Act.put, List.setIfInBounds_toArray, List.set_cons_zero, List.set_cons_succ]
                      refine take_drop 1 (v := ?_) rfl (by kernel_rfl) (by kernel_rfl) (by kernel_rfl) (fun _ _ _ h => h) (by rfl) ?_ (by assumption) ?_
                      rotate_left 1
                      · (intro w hSw; obtain ⟨hSw1, hSw2, hSw3, hSw4⟩ := hSw; go_simp; try with_reducible rfl)
                      try simp only [Act.put, List.setIfInBounds_toArray, List.set_cons_zero, List.set_cons_succ]
                      refine take_drop 2 (v := ?_) rfl (by kernel_rfl) (by kernel_rfl) (by kernel_rfl) (fun _ _ _ h => h) (by rfl) ?_ (by assumption) ?_
                      rotate_left 1
                      · (intro w hSw; obtain ⟨hSw1, hSw2, hSw3, hSw4⟩ := hSw; go_simp; try with_reducible rfl)
                      try simp only [Act.put, List.setIfInBounds_toArray, List.set_cons_zero, List.set_cons_succ]
                      refine take_drop 3 (v := ?_) rfl (by kernel_rfl) (by kernel_rfl) (by kernel_rfl) (fun _ _ _ h => h) (by rfl) ?_ (by assumption) ?_
                      rotate_left 1
                      · (intro w hSw; obtain ⟨hSw1, hSw2, hSw3, hSw4⟩ := hSw; go_simp; try with_reducible rfl)
                      try simp only [Act.put, List.setIfInBounds_toArray, List.set_cons_zero, List.set_cons_succ]
                      refine take_drop 5 (v := ?_) rfl (by kernel_rfl) (by kernel_rfl) (by kernel_rfl) (fun _ _ _ h => h) (by rfl) ?_ (by assumption) ?_
                      rotate_left 1
                      · (intro w hSw; obtain ⟨hSw1, hSw2, hSw3, hSw4⟩ := hSw; go_simp; try with_reducible rfl)
                      try simp only [Act.put, List.setIfInBounds_toArray, List.set_cons_zero, List.set_cons_succ]
                      refine take_drop 6 (v := ?_) rfl (by kernel_rfl) (by kernel_rfl) (by kernel_rfl) (fun _ _ _ h => h) (by rfl) ?_ (by assumption) ?_
                      rotate_left 1
                      · (intro w hSw; obtain ⟨hSw1, hSw2, hSw3, hSw4⟩ := hSw; go_simp; try with_reducible rfl)
                      try simp only [Act.put, List.setIfInBounds_toArray, List.set_cons_zero, List.set_cons_succ]
                      refine take_drop 7 (v := ?_) rfl (by kernel_rfl) (by kernel_rfl) (by kernel_rfl) (fun _ _ _ h => h) (by rfl) ?_ (by assumption) ?_
                      rotate_left 1
                      · (intro w hSw; obtain ⟨hSw1, hSw2, hSw3, hSw4⟩ := hSw; go_simp; try with_reducible rfl)
                      try simp only [Act.put, List.setIfInBounds_toArray, List.set_cons_zero, List.set_cons_succ]
                      refine take_drop 8 (v := ?_) rfl (by kernel_rfl) (by kernel_rfl) (by kernel_rfl) (fun _ _ _ h => h) (by rfl) ?_ (by assumption) ?_
                      rotate_left 1
                      · (intro w hSw; obtain ⟨hSw1, hSw2, hSw3, hSw4⟩ := hSw; go_simp; try with_reducible rfl)
                      try simp only [Act.put, List.setIfInBounds_toArray, List.set_cons_zero, List.set_cons_succ]
                      refine wpAnyH_ready (rs := [4]) (by kernel_rfl) (by simp) ?_
                      refine ready_call rfl rfl 46 (enters_of Tryz.func46 (by kernel_rfl) rfl) [.tmp 112, .tmp 114] _ rfl [.int .i64 a.to, .int .i64 wk.to] rfl (cmpI_any a.to wk.to _) ?_ AllReadyH.nil
                      rintro e W3 ⟨rfl, rfl⟩
                      refine ⟨_, rfl, hHeld, fun _ => ?_⟩
                      try simp only [Act.put, List.setIfInBounds_toArray, List.set_cons_zero, List.set_cons_succ]
                      refine wpAnyH_ready (rs := [9]) (by kernel_rfl) (by simp) ?_
                      refine ready_call rfl rfl 46 (enters_of Tryz.func46 (by kernel_rfl) rfl) [.tmp 117, .tmp 119] _ rfl [.int .i64 a.reg, .int .i64 wk.reg] rfl (cmpI_any a.reg wk.reg _) ?_ AllReadyH.nil
                      rintro e W3 ⟨rfl, rfl⟩
                      refine ⟨_, rfl, hHeld, fun _ => ?_⟩
                      try simp only [Act.put, List.setIfInBounds_toArray, List.set_cons_zero, List.set_cons_succ]
                      have HB4 := Lib.hid (HB3.out.alloc HB3.out.size (.cells #[.int .i64 (cmpI a.to wk.to), .int .i64 (cmpI a.reg wk.reg)] 3))
                      have hor := orI_any (cmpI a.to wk.to) (cmpI a.reg wk.reg) W3.heap.size (W3.alloc (.cells #[.int .i64 (cmpI a.to wk.to), .int .i64 (cmpI a.reg wk.reg)] 3)) (by rw [BlkAt.cell (BlkAt.new W3 _ _)]; rfl) (by rw [BlkAt.cell (BlkAt.new W3 _ _)]; rfl)
                      rw [HZ.out] at hor
                      have HOR := Lib.hid hor
                      clear hor
                      refine wpAnyH_ready (rs := [10]) (by kernel_rfl) (by simp) ?_
                      refine ready_drop rfl (fun K hK => ?_) AllReadyH.nil
                      go_simp
                      refine hK.out _ _ ⟨cell_alloc _ hHeld.1, cell_alloc _ hHeld.2.1, cell_alloc _ hHeld.2.2.1, cell_alloc _ hHeld.2.2.2⟩ (fun hHeld2 => ?_)
                      clear hK hHeld
                      try simp only [Act.put, List.setIfInBounds_toArray, List.set_cons_zero, List.set_cons_succ]
                      obtain ⟨W4, hW4⟩ : ∃ W4, W3.alloc (.cells #[.int .i64 (cmpI a.to wk.to), .int .i64 (cmpI a.reg wk.reg)] 3) = W4 := ⟨_, rfl⟩
                      have HN4 := Lib.hid (HN3.out.alloc (.cells #[.int .i64 (cmpI a.to wk.to), .int .i64 (cmpI a.reg wk.reg)] 3))
                      rw [hW4] at hHeld2 HB4 HOR HN4 ⊢
                      clear hW4 HN3
                      refine wpAnyH_ready (rs := [11]) (by kernel_rfl) (by simp) ?_
                      refine ready_call rfl rfl 45 (enters_of Tryz.func45 (by kernel_rfl) rfl) [.tmp 121] _ rfl [.slice (some ⟨W3.heap.size, 0, none⟩) 2 2] rfl HOR.out ?_ AllReadyH.nil
                      rintro e w' ⟨rfl, rfl⟩
                      refine ⟨_, rfl, hHeld2, fun _ => ?_⟩
                      try simp only [Act.put, List.setIfInBounds_toArray, List.set_cons_zero, List.set_cons_succ]
                      refine wpAnyH_ready (rs := [12]) (by kernel_rfl) (by simp) ?_
                      refine ready_drop rfl (fun K hK => ?_) AllReadyH.nil
                      go_simp
                      refine hK.out _ _ hHeld2 (fun _ => ?_)
                      clear hK hHeld2
                      try simp only [Act.put, List.setIfInBounds_toArray, List.set_cons_zero, List.set_cons_succ]
                      refine wpAnyH_done (by kernel_rfl) ?_ _
                      have HWB4 := Lib.hid (HWB.out.below HB4.out HWB.out.lt)
                      have a0 := HN4.out.cell 0
                      have a1 := HN4.out.cell 1
                      have a2 := HN4.out.cell 2
                      have b0 := HWB4.out.cell 0
                      have b1 := HWB4.out.cell 1
                      have b2 := HWB4.out.cell 2
                      have f0 := HWB4.out.frozen 0
                      have f1 := HWB4.out.frozen 1
                      have f2 := HWB4.out.frozen 2
                      simp only [List.getElem?_toArray, List.getElem?_cons_zero, List.getElem?_cons_succ] at a0 a1 a2 b0 b1 b2
                      go_wp2_with fail
                      have hg3 : w'.grownBy (((w'.setCell ⟨Wb, 0, none⟩ (.int .i64 a.reg)).setCell ⟨Wb, 1, none⟩ (.int .i64 a.frm)).setCell ⟨Wb, 2, none⟩ (.int .i64 a.to)) (some Wb) := grown_trans (grown_trans (setCell_grown w' Wb 0 _) (setCell_grown _ Wb 1 _)) (setCell_grown _ Wb 2 _)
                      have HG3 := Lib.hid hg3
                      have HWF := Lib.hid (((HWB4.out.set 0 (.int .i64 a.reg)).set 1 (.int .i64 a.frm)).set 2 (.int .i64 a.to))
                      simp only [List.setIfInBounds_toArray, List.set_cons_succ, List.set_cons_zero] at HWF
                      clear hg3
                      go_roundw
                      case rel => exact ⟨k' + 1, by omega, by go_num, Lib.hid ((HSM.out.below HB4.out).kept HG3.out (fun j e => by cases e; exact ⟨_, _, HWB4.out, by decide, by decide, by decide⟩)), Lib.hid (own_keepG (own_below HACT.out HB4.out) HG3.out (fun j hj e => by cases e; have := (HAB.out _ hj).2; omega)), Lib.hid ((HVB.out.below HB4.out HVB.out.lt).kept HG3.out (fun e => by cases e; have := HKW.out.2; omega)), Lib.hid ((HCTX.out.below HB4.out).high HG3.out (fun j e => by cases e; exact HKW.out.1)), Lib.hid (by rw [HWT.out]; exact HWF.out)⟩
                      case measure => simp [intOf]; omega
                  · obtain rfl : k' = us.length := by omega
                    rw [List.take_length] at HWB
                    have hxm := worstOf_mem v us
                    obtain ⟨x, hx⟩ : ∃ x, worstOf v us = x := ⟨_, rfl⟩
                    rw [hx] at HWB hxm
                    have HXE := Lib.hid hx
                    have hua : ∀ u ∈ us, u.reg < r ∧ u.reg ≠ v.reg := fun u hu => by
                      have hu2 : u ∈ s.active := by rw [← HUS.out] at hu; exact (List.mem_filter.1 hu).1
                      exact ⟨HRGA.out u hu2, itv_ne HOK.out HVG.out u (HINV.out.act u hu2).1⟩
                    have hxr : x.reg < r := by
                      rcases hxm with e | e
                      · rw [e]; exact hvr
                      · exact (hua x e).1
                    have HXM := Lib.hid (And.intro hxm hua)
                    clear hx hxm hua
                    obtain ⟨sp, hsp⟩ : ∃ sp, spill G x s.p = sp := ⟨_, rfl⟩
                    have HSPL : Hid (sp.mach.length = r) := Lib.hid (by rw [← hsp, spill_mach]; exact hml)
                    have HSP := Lib.hid hsp
                    clear hsp
                    have w0 := HWB.out.cell 0
                    have w1' := HWB.out.cell 1
                    have w2 := HWB.out.cell 2
                    have v0 := HVB.out.cell 0
                    have v1 := HVB.out.cell 1
                    have v2 := HVB.out.cell 2
                    have b2 := HCTX.out.body.cell 2
                    simp only [List.getElem?_toArray, List.getElem?_cons_zero, List.getElem?_cons_succ] at w0 w1' w2 v0 v1 v2 b2
                    have hne := fun W => neqI_struct x v W
                    by_cases hxG : G ≤ x.reg
                    · have hsp2 : sp = ⟨s.p.mach, s.p.slot.set x.reg s.p.slots, s.p.slots + 1⟩ := by rw [← HSP.out]; unfold spill; rw [if_pos hxG]
                      have p1 := HSM.out.plan.cell 1
                      have p2 := HSM.out.plan.cell 2
                      have pf := HSM.out.plan.frozen 2
                      simp only [List.getElem?_toArray, List.getElem?_cons_zero, List.getElem?_cons_succ] at p1 p2
                      obtain ⟨_, css, hbs⟩ := HSM.out.blkS (g := gs) rfl
                      have sf := hbs.frozen x.reg
                      obtain ⟨os, hos⟩ : ∃ os, wr.cell? ⟨gs, x.reg, none⟩ = some os := by
                        obtain ⟨x0, hx0⟩ := get_some (xs := s.p.slot) (k := x.reg) (by rw [hsl]; exact hxr)
                        obtain ⟨_, _, e, _, _, hA⟩ := own_slice HSM.out.slot
                        obtain ⟨g, e2, _, _, hc⟩ := hA (by omega)
                        injection e with ea
                        rw [← ea] at e2
                        cases e2
                        exact ⟨_, hc x.reg _ (by rw [List.getElem?_map, hx0]; rfl)⟩
                      have n1 : Wb ≠ gs := fun e => blk_blk_ne HWB.out (show BlkAt wr Wb _ css from (by rw [e]; exact hbs)) (by decide) rfl
                      have n2 : Vb ≠ gs := fun e => blk_blk_ne HVB.out (show BlkAt wr Vb _ css from (by rw [e]; exact hbs)) (by decide) rfl
                      have n3 : Bb + 1 ≠ gs := fun e => blk_blk_ne HSM.out.plan (show BlkAt wr (Bb + 1) _ css from (by rw [e]; exact hbs)) (by decide) rfl
                      have n4 : Wb ≠ Bb + 1 := fun e => blk_blk_ne HWB.out (show BlkAt wr Wb _ _ from (by rw [e]; exact HSM.out.plan)) (by decide) rfl
                      have n5 : Vb ≠ Bb + 1 := fun e => blk_blk_ne HVB.out (show BlkAt wr Vb _ _ from (by rw [e]; exact HSM.out.plan)) (by decide) rfl
                      have wrs : IntKind.i64.wrap (s.p.slots + 1) = s.p.slots + 1 := IntWalk.i64_in _ (by have := HSLT.out; omega)
                      have j2 : (0 : Int) ≤ (x.reg : Int) := by omega
                      have j3 : (x.reg : Int) < (r : Int) := by omega
                      have hbp1 := HSM.out.plan.far (p := ⟨gs, x.reg, none⟩) n3 (.int .i64 s.p.slots)
                      have HSMp : Hid (ScanM Bb (Bb + 1) Fb (.slice (some ⟨gm, 0, none⟩) r cm) (.slice (some ⟨gs, 0, none⟩) r cs) Af2 cf2 sp [] ((wr.setCell ⟨gs, x.reg, none⟩ (.int .i64 s.p.slots)).setCell ⟨Bb + 1, 2, none⟩ (.int .i64 (s.p.slots + 1)))) := Lib.hid (by rw [hsp2]; exact (HSM.out.setSlot (g := gs) rfl (r := x.reg) (by rw [hsl]; exact hxr) s.p.slots).setSlots (s.p.slots + 1))
                      have HVBp := Lib.hid ((HVB.out.far (p := ⟨gs, x.reg, none⟩) n2 (.int .i64 s.p.slots)).far (p := ⟨Bb + 1, 2, none⟩) n5 (.int .i64 (s.p.slots + 1)))
                      have HWBp := Lib.hid ((HWB.out.far (p := ⟨gs, x.reg, none⟩) n1 (.int .i64 s.p.slots)).far (p := ⟨Bb + 1, 2, none⟩) n4 (.int .i64 (s.p.slots + 1)))
                      have HACp := Lib.hid (own_keepG (own_keepG HACT.out (setCell_grown wr gs x.reg (.int .i64 s.p.slots)) (fun j hj e => by cases e; obtain ⟨c2, h2⟩ := own_blkE HACT.out hj; exact blk_blk_ne hbs h2 (by decide) rfl)) (setCell_grown _ (Bb + 1) 2 (.int .i64 (s.p.slots + 1))) (fun j hj e => by cases e; obtain ⟨c2, h2⟩ := own_blkE HACT.out hj; exact blk_blk_ne HSM.out.plan h2 (by decide) rfl))
                      have HCTp := Lib.hid ((HCTX.out.cell hbs (HSM.out.blkS (g := gs) rfl).1 (by decide) (by decide) (.int .i64 s.p.slots) (i := x.reg)).cell hbp1 HSM.out.lowP (by decide) (by decide) (.int .i64 (s.p.slots + 1)) (i := 2))
                      clear HSM HACT HVB HCTX HWB hbs hbp1 hsp2
                      by_cases hxv : x = v
                      · have HXV := Lib.hid hxv
                        have hq : eqItv x v = true := by unfold eqItv; exact decide_eq_true hxv
                        simp only [hq, Bool.not_true] at hne
                        clear hxv hq
                        go_wp2_with fail
                        go_roundw
                        case rel =>
                          refine ⟨i + 1, Af2, cf2, by omega, by go_num, Lib.hid ?_, Lib.hid ?_, HCTp⟩
                          · rw [HNEXT.out, step_own HQ.out (by rw [HUS.out, HXE.out, HXV.out]), HUS.out]
                            have e : sp = spill G v s.p := by rw [← HSP.out, HXV.out]
                            have := HSMp.out
                            rw [e] at this
                            exact this
                          · rw [HNEXT.out, step_own HQ.out (by rw [HUS.out, HXE.out, HXV.out]), HUS.out]
                            exact HACp.out
                        case measure => simp [intOf]; omega
                      · have HXV := Lib.hid hxv
                        have HXN : Hid (¬ x.reg = v.reg) := Lib.hid (by
                          rcases HXM.out.1 with e | e
                          · exact absurd e hxv
                          · exact (HXM.out.2 x e).2)
                        have hq : eqItv x v = false := by unfold eqItv; exact decide_eq_false hxv
                        simp only [hq, Bool.not_false] at hne
                        clear hxv hq
                        go_wp2_with fail
                        obtain ⟨Wp, hWp⟩ : ∃ Wp, ((wr.setCell ⟨gs, x.reg, none⟩ (.int .i64 s.p.slots)).setCell ⟨Bb + 1, 2, none⟩ (.int .i64 (s.p.slots + 1))) = Wp := ⟨_, rfl⟩
                        clear w0 w1' w2 v0 v1 v2 b2 hne p1 p2 pf sf hos
                        rw [hWp] at HSMp HACp HVBp HCTp HWBp ⊢
                        clear hWp n1 n2 n3 n4 n5 wrs j2 j3
                        obtain ⟨mx, hmx⟩ := get_some (xs := sp.mach) (k := x.reg) (by rw [HSPL.out]; exact hxr)
                        have HMX : Hid (sp.mach.getD x.reg (-1) = mx) := Lib.hid (by rw [List.getD_eq_getElem?_getD, hmx]; rfl)
                        have HBD := Lib.hid (below_draw (Below.refl Wp.heap.size Wp) 1)
                        have HSMd := Lib.hid (HSMp.out.below HBD.out)
                        have HACd := Lib.hid (own_below HACp.out HBD.out)
                        have HVBd := Lib.hid (HVBp.out.below HBD.out HVBp.out.lt)
                        have HCTd := Lib.hid (HCTp.out.below HBD.out)
                        have HWBd := Lib.hid (HWBp.out.below HBD.out HWBp.out.lt)
                        refine heldL (fun _ => True) (fun w' => w'.cell? ⟨Bb + 1, 0, none⟩ = some (.slice (some ⟨gm, 0, none⟩) r cm) ∧ w'.cell? ⟨Vb, 0, none⟩ = some (.int .i64 v.reg) ∧ w'.cell? ⟨Wb, 0, none⟩ = some (.int .i64 x.reg) ∧ w'.cell? ⟨gm, x.reg, none⟩ = some (.int .i64 mx)) 17 (by kernel_rfl) ?_
                        clear HSMp HACp HVBp HCTp HWBp HBD
                        generalize Wp.drewN 1 = Wd at *
                        obtain ⟨_, csm, hbm⟩ := HSMd.out.blkM (g := gm) rfl
                        have hcell : ∀ (j : Nat) (y : Int), sp.mach[j]? = some y → Wd.cell? ⟨gm, j, none⟩ = some (.int .i64 y) := fun j y hj => by
                          obtain ⟨_, _, e, _, _, hA⟩ := own_slice HSMd.out.mach
                          obtain ⟨g, e2, _, _, hc⟩ := hA (by rw [HSPL.out]; omega)
                          injection e with ea
                          rw [← ea] at e2
                          cases e2
                          exact hc j _ (by rw [List.getElem?_map, hj]; rfl)
                        obtain ⟨ov, hov⟩ := get_some (xs := sp.mach) (k := v.reg) (by rw [HSPL.out]; exact hvr)
                        have hold := hcell _ _ hov
                        have hm0 := hcell _ _ hmx
                        have hfz := hbm.frozen v.reg
                        have HSM1 := Lib.hid (HSMd.out.setMach (g := gm) rfl (r := v.reg) (by rw [HSPL.out]; exact hvr) mx)
                        have hbm1 := hbm.set v.reg (.int .i64 mx)
                        have HAC1 : Hid ((Wd.setCell ⟨gm, v.reg, none⟩ (.int .i64 mx)).ownsRow Kb 44 3 (.slice Aa us.length ca) us.length (us.flatMap encItv)) := Lib.hid (own_keepG HACd.out (setCell_grown _ _ _ _) (fun j hj e => by cases e; obtain ⟨c2, h2⟩ := own_blkE HACd.out hj; exact blk_blk_ne hbm h2 (by decide) rfl))
                        have hvne : Vb ≠ gm := fun e => blk_blk_ne HVBd.out (show BlkAt Wd Vb _ csm from (by rw [e]; exact hbm)) (by decide) rfl
                        have hwne : Wb ≠ gm := fun e => blk_blk_ne HWBd.out (show BlkAt Wd Wb _ csm from (by rw [e]; exact hbm)) (by decide) rfl
                        have HVB1 := Lib.hid (HVBd.out.far (p := ⟨gm, v.reg, none⟩) hvne (.int .i64 mx))
                        have HWB1 := Lib.hid (HWBd.out.far (p := ⟨gm, v.reg, none⟩) hwne (.int .i64 mx))
                        have HCT1 := Lib.hid (HCTd.out.cell hbm (HSMd.out.blkM (g := gm) rfl).1 (by decide) (by decide) (.int .i64 mx) (i := v.reg))
                        have HSM2 := Lib.hid (HSM1.out.setMach (g := gm) rfl (r := x.reg) (by rw [List.length_set, HSPL.out]; exact hxr) (-1))
                        have HAC2 := Lib.hid (own_keepG HAC1.out (setCell_grown _ gm x.reg (.int .i64 (-1))) (fun j hj e => by cases e; obtain ⟨c2, h2⟩ := own_blkE HAC1.out hj; exact blk_blk_ne hbm1 h2 (by decide) rfl))
                        have HVB2 := Lib.hid (HVB1.out.far (p := ⟨gm, x.reg, none⟩) hvne (.int .i64 (-1)))
                        have HWB2 := Lib.hid (HWB1.out.far (p := ⟨gm, x.reg, none⟩) hwne (.int .i64 (-1)))
                        have HCT2 := Lib.hid (HCT1.out.cell hbm1 (HSMd.out.blkM (g := gm) rfl).1 (by decide) (by decide) (.int .i64 (-1)) (i := x.reg))
                        have hx1 : (Wd.setCell ⟨gm, v.reg, none⟩ (.int .i64 mx)).cell? ⟨gm, x.reg, none⟩ = some (.int .i64 mx) := by
                          rw [World.cell?_setCell_other _ _ _ _ (by simp; exact fun e => HXN.out e.symm)]; exact hm0
                        have hfx := hbm1.frozen x.reg
                        have hHeld : True ∧ (Wd.cell? ⟨Bb + 1, 0, none⟩ = some (.slice (some ⟨gm, 0, none⟩) r cm) ∧ Wd.cell? ⟨Vb, 0, none⟩ = some (.int .i64 v.reg) ∧ Wd.cell? ⟨Wb, 0, none⟩ = some (.int .i64 x.reg) ∧ Wd.cell? ⟨gm, x.reg, none⟩ = some (.int .i64 mx)) := ⟨trivial, HSMd.out.plan.cell 0, HVBd.out.cell 0, HWBd.out.cell 0, hm0⟩
                        have hHeld1 : True ∧ ((Wd.setCell ⟨gm, v.reg, none⟩ (.int .i64 mx)).cell? ⟨Bb + 1, 0, none⟩ = some (.slice (some ⟨gm, 0, none⟩) r cm) ∧ (Wd.setCell ⟨gm, v.reg, none⟩ (.int .i64 mx)).cell? ⟨Vb, 0, none⟩ = some (.int .i64 v.reg) ∧ (Wd.setCell ⟨gm, v.reg, none⟩ (.int .i64 mx)).cell? ⟨Wb, 0, none⟩ = some (.int .i64 x.reg) ∧ (Wd.setCell ⟨gm, v.reg, none⟩ (.int .i64 mx)).cell? ⟨gm, x.reg, none⟩ = some (.int .i64 mx)) := ⟨trivial, HSM1.out.plan.cell 0, HVB1.out.cell 0, HWB1.out.cell 0, hx1⟩
                        have j0 : (0 : Int) ≤ (v.reg : Int) := by omega
                        have j1 : (v.reg : Int) < (r : Int) := by omega
                        have j2 : (0 : Int) ≤ (x.reg : Int) := by omega
                        have j3 : (x.reg : Int) < (r : Int) := by omega
                        clear hm0 hcell hmx hov
                        refine takeL 0 (v := ?_) rfl (by kernel_rfl) (by kernel_rfl) (by kernel_rfl) (by kernel_rfl) (fun _ _ _ h => h) (by rfl) ?_ (by assumption) ?_
                        rotate_left 1
                        · (intro w hSw; (try dsimp only at hSw); obtain ⟨_, hSw1, hSw2, hSw3, hSw4⟩ := hSw; go_simp; try with_reducible rfl)
                        try simp only [Act.put, List.setIfInBounds_toArray, List.set_cons_zero, List.set_cons_succ]
                        refine takeL 1 (v := ?_) rfl (by kernel_rfl) (by kernel_rfl) (by kernel_rfl) (by kernel_rfl) (fun _ _ _ h => h) (by rfl) ?_ (by assumption) ?_
                        rotate_left 1
                        · (intro w hSw; (try dsimp only at hSw); obtain ⟨_, hSw1, hSw2, hSw3, hSw4⟩ := hSw; go_simp; try with_reducible rfl)
                        try simp only [Act.put, List.setIfInBounds_toArray, List.set_cons_zero, List.set_cons_succ]
                        refine takeL 2 (v := ?_) rfl (by kernel_rfl) (by kernel_rfl) (by kernel_rfl) (by kernel_rfl) (fun _ _ _ h => h) (by rfl) ?_ (by assumption) ?_
                        rotate_left 1
                        · (intro w hSw; (try dsimp only at hSw); obtain ⟨_, hSw1, hSw2, hSw3, hSw4⟩ := hSw; go_simp; try with_reducible rfl)
                        try simp only [Act.put, List.setIfInBounds_toArray, List.set_cons_zero, List.set_cons_succ]
                        refine takeL 3 (v := ?_) rfl (by kernel_rfl) (by kernel_rfl) (by kernel_rfl) (by kernel_rfl) (fun _ _ _ h => h) (by rfl) ?_ (by assumption) ?_
                        rotate_left 1
                        · (intro w hSw; (try dsimp only at hSw); obtain ⟨_, hSw1, hSw2, hSw3, hSw4⟩ := hSw; go_simp; try with_reducible rfl)
                        try simp only [Act.put, List.setIfInBounds_toArray, List.set_cons_zero, List.set_cons_succ]
                        refine takeL 4 (v := ?_) rfl (by kernel_rfl) (by kernel_rfl) (by kernel_rfl) (by kernel_rfl) (fun _ _ _ h => h) (by rfl) ?_ (by assumption) ?_
                        rotate_left 1
                        · (intro w hSw; (try dsimp only at hSw); obtain ⟨_, hSw1, hSw2, hSw3, hSw4⟩ := hSw; go_simp; try with_reducible rfl)
                        try simp only [Act.put, List.setIfInBounds_toArray, List.set_cons_zero, List.set_cons_succ]
                        refine takeL 5 (v := ?_) rfl (by kernel_rfl) (by kernel_rfl) (by kernel_rfl) (by kernel_rfl) (fun _ _ _ h => h) (by rfl) ?_ (by assumption) ?_
                        rotate_left 1
                        · (intro w hSw; (try dsimp only at hSw); obtain ⟨_, hSw1, hSw2, hSw3, hSw4⟩ := hSw; go_simp; try with_reducible rfl)
                        try simp only [Act.put, List.setIfInBounds_toArray, List.set_cons_zero, List.set_cons_succ]
                        refine takeL 6 (v := ?_) rfl (by kernel_rfl) (by kernel_rfl) (by kernel_rfl) (by kernel_rfl) (fun _ _ _ h => h) (by rfl) ?_ (by assumption) ?_
                        rotate_left 1
                        · (intro w hSw; (try dsimp only at hSw); obtain ⟨_, hSw1, hSw2, hSw3, hSw4⟩ := hSw; go_simp; try with_reducible rfl)
                        try simp only [Act.put, List.setIfInBounds_toArray, List.set_cons_zero, List.set_cons_succ]
                        refine takeL 7 (v := ?_) rfl (by kernel_rfl) (by kernel_rfl) (by kernel_rfl) (by kernel_rfl) (fun _ _ _ h => h) (by rfl) ?_ (by assumption) ?_
                        rotate_left 1
                        · (intro w hSw; (try dsimp only at hSw); obtain ⟨_, hSw1, hSw2, hSw3, hSw4⟩ := hSw; go_simp; try with_reducible rfl)
                        try simp only [Act.put, List.setIfInBounds_toArray, List.set_cons_zero, List.set_cons_succ]
                        refine takeL 8 (v := ?_) rfl (by kernel_rfl) (by kernel_rfl) (by kernel_rfl) (by kernel_rfl) (fun _ _ _ h => h) (by rfl) ?_ (by assumption) ?_
                        rotate_left 1
                        · (intro w hSw; (try dsimp only at hSw); obtain ⟨_, hSw1, hSw2, hSw3, hSw4⟩ := hSw; go_simp; try with_reducible rfl)
                        try simp only [Act.put, List.setIfInBounds_toArray, List.set_cons_zero, List.set_cons_succ]
                        refine takeL 9 (v := ?_) rfl (by kernel_rfl) (by kernel_rfl) (by kernel_rfl) (by kernel_rfl) (fun _ _ _ h => h) (by rfl) ?_ (by assumption) ?_
                        rotate_left 1
                        · (intro w hSw; (try dsimp only at hSw); obtain ⟨_, hSw1, hSw2, hSw3, hSw4⟩ := hSw; go_simp; try with_reducible rfl)
                        try simp only [Act.put, List.setIfInBounds_toArray, List.set_cons_zero, List.set_cons_succ]
                        refine takeL 10 (v := ?_) rfl (by kernel_rfl) (by kernel_rfl) (by kernel_rfl) (by kernel_rfl) (fun _ _ _ h => h) (by rfl) ?_ (by assumption) ?_
                        rotate_left 1
                        · (intro w hSw; (try dsimp only at hSw); obtain ⟨_, hSw1, hSw2, hSw3, hSw4⟩ := hSw; go_simp; try with_reducible rfl)
                        try simp only [Act.put, List.setIfInBounds_toArray, List.set_cons_zero, List.set_cons_succ]
                        refine takeL 11 (v := ?_) rfl (by kernel_rfl) (by kernel_rfl) (by kernel_rfl) (by kernel_rfl) (fun _ _ _ h => h) (by rfl) ?_ (by assumption) ?_
                        rotate_left 1
                        · (intro w hSw; (try dsimp only at hSw); obtain ⟨_, hSw1, hSw2, hSw3, hSw4⟩ := hSw; go_simp; try with_reducible rfl)
                        try simp only [Act.put, List.setIfInBounds_toArray, List.set_cons_zero, List.set_cons_succ]
                        refine takeL 12 (v := ?_) rfl (by kernel_rfl) (by kernel_rfl) (by kernel_rfl) (by kernel_rfl) (fun _ _ _ h => h) (by rfl) ?_ (by assumption) ?_
                        rotate_left 1
                        · (intro w hSw; (try dsimp only at hSw); obtain ⟨_, hSw1, hSw2, hSw3, hSw4⟩ := hSw; go_simp; try with_reducible rfl)
                        try simp only [Act.put, List.setIfInBounds_toArray, List.set_cons_zero, List.set_cons_succ]
                        refine takeL 13 (v := ?_) rfl (by kernel_rfl) (by kernel_rfl) (by kernel_rfl) (by kernel_rfl) (fun _ _ _ h => h) (by rfl) ?_ (by assumption) ?_
                        rotate_left 1
                        · (intro w hSw; (try dsimp only at hSw); obtain ⟨_, hSw1, hSw2, hSw3, hSw4⟩ := hSw; go_simp; try with_reducible rfl)
                        try simp only [Act.put, List.setIfInBounds_toArray, List.set_cons_zero, List.set_cons_succ]
                        refine takeL 14 (v := ?_) rfl (by kernel_rfl) (by kernel_rfl) (by kernel_rfl) (by kernel_rfl) (fun _ _ _ h => h) (by rfl) ?_ (by assumption) ?_
                        rotate_left 1
                        · (intro w hSw; (try dsimp only at hSw); obtain ⟨_, hSw1, hSw2, hSw3, hSw4⟩ := hSw; go_simp; try with_reducible rfl)
                        try simp only [Act.put, List.setIfInBounds_toArray, List.set_cons_zero, List.set_cons_succ]
                        refine oneL 15 (by kernel_rfl) rfl (fun K hK => ?_)
                        go_simp
                        refine hK.out _ _ ⟨hHeld1.1, fun _ => hHeld1.2⟩ ?_
                        clear hK hHeld hold hfz
                        try simp only [Act.put, List.setIfInBounds_toArray, List.set_cons_zero, List.set_cons_succ]
                        obtain ⟨W1, hW1⟩ : ∃ W1, Wd.setCell ⟨gm, v.reg, none⟩ (.int .i64 mx) = W1 := ⟨_, rfl⟩
                        rw [hW1] at hHeld1 HSM2 HAC2 HVB2 HWB2 HCT2 hx1 hfx ⊢
                        clear hW1 HSM1 HAC1 HVB1 HWB1 HCT1
                        refine takeL 16 (v := ?_) rfl (by kernel_rfl) (by kernel_rfl) (by kernel_rfl) (by kernel_rfl) (fun _ _ _ h => h) (by rfl) ?_ (by assumption) ?_
                        rotate_left 1
                        · (intro w hSw; (try dsimp only at hSw); obtain ⟨_, hSw1, hSw2, hSw3, hSw4⟩ := hSw; go_simp; try with_reducible rfl)
                        try simp only [Act.put, List.setIfInBounds_toArray, List.set_cons_zero, List.set_cons_succ]
                        refine oneL 17 (by kernel_rfl) rfl (fun K hK => ?_)
                        go_simp
                        refine hK.out _ _ ⟨trivial, fun h => absurd h (by decide)⟩ ?_
                        clear hK hHeld1 hx1 hfx
                        try simp only [Act.put, List.setIfInBounds_toArray, List.set_cons_zero, List.set_cons_succ]
                        obtain ⟨W2, hW2⟩ : ∃ W2, W1.setCell ⟨gm, x.reg, none⟩ (.int .i64 (-1)) = W2 := ⟨_, rfl⟩
                        rw [hW2] at HSM2 HAC2 HVB2 HWB2 HCT2 ⊢
                        clear hW2 HSMd HACd HVBd HWBd HCTd hbm hbm1
                        refine doneL (by kernel_rfl) ?_ _
                        go_step
                        go_wp2_with fail
                        refine heldL (fun w' => w'.cell? ⟨Vb, 0, none⟩ = some (.int .i64 v.reg) ∧ w'.cell? ⟨Vb, 1, none⟩ = some (.int .i64 v.frm) ∧ w'.cell? ⟨Vb, 2, none⟩ = some (.int .i64 v.to)) (fun _ => True) 2 (by kernel_rfl) ?_
                        have HBD := Lib.hid (below_draw (Below.refl W2.heap.size W2) 1)
                        have HJ0 : Hid (StJ Bb Fb Vb Vb Kb (.slice (some ⟨gm, 0, none⟩) r cm) (.slice (some ⟨gs, 0, none⟩) r cs) Af2 cf2 ⟨(sp.mach.set v.reg mx).set x.reg (-1), sp.slot, sp.slots⟩ v w1 #[.string ⟨b.name.toArray⟩, .int .i64 r, .int .i64 G, .slice Ab nb cb] (.slice (some ⟨gI, 0, none⟩) l.length cI) l (W2.drewN 1)) := Lib.hid ((⟨HSM2.out, HVB2.out, HVB2.out, HCT2.out⟩ : StJ Bb Fb Vb Vb Kb (.slice (some ⟨gm, 0, none⟩) r cm) (.slice (some ⟨gs, 0, none⟩) r cs) Af2 cf2 ⟨(sp.mach.set v.reg mx).set x.reg (-1), sp.slot, sp.slots⟩ v w1 #[.string ⟨b.name.toArray⟩, .int .i64 r, .int .i64 G, .slice Ab nb cb] (.slice (some ⟨gI, 0, none⟩) l.length cI) l W2).below HBD.out)
                        have HACd := Lib.hid (own_below HAC2.out HBD.out)
                        have HWBd := Lib.hid (HWB2.out.below HBD.out HWB2.out.lt)
                        clear HSM2 HAC2 HVB2 HWB2 HCT2 HBD
                        generalize W2.drewN 1 = Wd at *
                        have hHeld : (Wd.cell? ⟨Vb, 0, none⟩ = some (.int .i64 v.reg) ∧ Wd.cell? ⟨Vb, 1, none⟩ = some (.int .i64 v.frm) ∧ Wd.cell? ⟨Vb, 2, none⟩ = some (.int .i64 v.to)) ∧ True := ⟨⟨HJ0.out.vb.cell 0, HJ0.out.vb.cell 1, HJ0.out.vb.cell 2⟩, trivial⟩
                        refine takeP 0 (v := ?_) rfl (by kernel_rfl) (by kernel_rfl) (by kernel_rfl) (by kernel_rfl) (fun _ _ _ h => h) (by rfl) ?_ (by assumption) ?_
                        rotate_left 1
                        · (intro w hSw; (try dsimp only at hSw); obtain ⟨hSw1, hSw2, hSw3⟩ := hSw; go_simp; try with_reducible rfl)
                        try simp only [Act.put, List.setIfInBounds_toArray, List.set_cons_zero, List.set_cons_succ]
                        refine takeP 1 (v := ?_) rfl (by kernel_rfl) (by kernel_rfl) (by kernel_rfl) (by kernel_rfl) (fun _ _ _ h => h) (by rfl) ?_ (by assumption) ?_
                        rotate_left 1
                        · (intro w hSw; (try dsimp only at hSw); obtain ⟨hSw1, hSw2, hSw3⟩ := hSw; go_simp; try with_reducible rfl)
                        try simp only [Act.put, List.setIfInBounds_toArray, List.set_cons_zero, List.set_cons_succ]
                        refine takeP 3 (v := ?_) rfl (by kernel_rfl) (by kernel_rfl) (by kernel_rfl) (by kernel_rfl) (fun _ _ _ h => h) (by rfl) ?_ (by assumption) ?_
                        rotate_left 1
                        · (intro w hSw; (try dsimp only at hSw); obtain ⟨hSw1, hSw2, hSw3⟩ := hSw; go_simp; try with_reducible rfl)
                        try simp only [Act.put, List.setIfInBounds_toArray, List.set_cons_zero, List.set_cons_succ]
                        clear hHeld
                        have HAB2 : Hid (∀ j, (Value.slice Aa us.length ca).ownBlock = some j → j ≠ Vb ∧ j ≠ Wb) := Lib.hid (fun j hj => ⟨fun e => HVA.out (by rw [← e]; exact hj), fun e => by have := (HAB.out j hj).2; omega⟩)
                        refine twoL 2 4 (by kernel_rfl) rfl rfl (fun K hK => ?_) (fun K hK => ?_)
                        · have hdl := del2 HJ0.out HACd.out HWBd.out hul (fun j hj => ⟨(HAB2.out j hj).1, (HAB2.out j hj).1, (HAB2.out j hj).2⟩)
                          refine step_call_at rfl 42 (enters_of Tryz.func42 (by kernel_rfl) rfl) [.tmp 161, .tmp 162] _ rfl [.slice Aa us.length ca, .func (.func 47) #[] #[.pointer (some ⟨Wb, 0, none⟩)]] rfl hdl (fun e w9 hr => ?_)
                          obtain ⟨v9, rfl, hrow9, hob9, hj9⟩ := hr
                          obtain ⟨A9, c9, hv9, _, _, _⟩ := own_slice hrow9
                          subst hv9
                          have HROW9 := Lib.hid hrow9
                          have HJ9 := Lib.hid hj9
                          have HVA9 : Hid ((Value.slice A9 (us.filter (fun a => !decide (a = x))).length c9).ownBlock ≠ some Vb) := Lib.hid (by rw [hob9]; exact HVA.out)
                          clear hrow9 hj9 hdl hob9
                          refine ⟨_, rfl, hK.out _ _ ⟨⟨HJ9.out.vb.cell 0, HJ9.out.vb.cell 1, HJ9.out.vb.cell 2⟩, fun _ => trivial⟩ ?_⟩
                          clear hK
                          try simp only [Act.put, List.setIfInBounds_toArray, List.set_cons_zero, List.set_cons_succ]
                          have HALL := Lib.hid ((Below.refl w9.heap.size w9).alloc (Nat.le_refl _) (.cells #[.int .i64 v.reg, .int .i64 v.frm, .int .i64 v.to] 44))
                          have HNB := Lib.hid (BlkAt.new w9 44 #[.int .i64 v.reg, .int .i64 v.frm, .int .i64 v.to])
                          have HJA := Lib.hid (HJ9.out.below HALL.out)
                          have HROWA := Lib.hid (own_below HROW9.out HALL.out)
                          refine oneL 4 (by kernel_rfl) rfl (fun K hK => ?_)
                          go_simp
                          refine hK.out _ _ ⟨⟨HJA.out.vb.cell 0, HJA.out.vb.cell 1, HJA.out.vb.cell 2⟩, fun _ => trivial⟩ ?_
                          clear hK HJ9 HROW9 HALL
                          try simp only [Act.put, List.setIfInBounds_toArray, List.set_cons_zero, List.set_cons_succ]
                          obtain ⟨WA, hWA⟩ : ∃ WA, w9.alloc (.cells #[.int .i64 v.reg, .int .i64 v.frm, .int .i64 v.to] 44) = WA := ⟨_, rfl⟩
                          rw [hWA] at HNB HJA HROWA ⊢
                          clear hWA
                          refine oneL 5 (by kernel_rfl) rfl (fun K hK => ?_)
                          refine step_append_at rfl (.tmp 163) (.tmp 165) 40 rfl Kb 44 i1 (.agg #[.int .i64 0, .int .i64 0, .int .i64 0]) 3 24 Tryz.underlying40 HIN1.out y0 y1 y2 rfl (by decide) (.slice A9 (us.filter (fun a => !decide (a = x))).length c9) (us.filter (fun a => !decide (a = x))).length _ rfl HROWA.out ⟨w9.heap.size, 0, none⟩ 1 1 (encItv v) rfl rfl (news_itv HNB.out) (by simp [Value.oneCell', encItv]) (by unfold maxLen; have := List.length_filter_le (fun a => !decide (a = x)) us; omega) (by have := List.length_filter_le (fun a => !decide (a = x)) us; omega) HJA.out.ctx.hK (fun v11 w11 hrow11 hgr11 hob11 => ?_)
                          obtain ⟨A11, c11, hv11, _, _, _⟩ := own_slice hrow11
                          subst hv11
                          have HROW11 := Lib.hid hrow11
                          have HG11 := Lib.hid hgr11
                          have HVB11 := Lib.hid (HJA.out.vb.kept hgr11 (fun e => HVA9.out e.symm))
                          clear hrow11 hgr11 hob11
                          refine hK.out _ _ ⟨⟨HVB11.out.cell 0, HVB11.out.cell 1, HVB11.out.cell 2⟩, fun _ => trivial⟩ ?_
                          clear hK
                          try simp only [Act.put, List.setIfInBounds_toArray, List.set_cons_zero, List.set_cons_succ]
                          have hHeld : (w11.cell? ⟨Vb, 0, none⟩ = some (.int .i64 v.reg) ∧ w11.cell? ⟨Vb, 1, none⟩ = some (.int .i64 v.frm) ∧ w11.cell? ⟨Vb, 2, none⟩ = some (.int .i64 v.to)) ∧ True := ⟨⟨HVB11.out.cell 0, HVB11.out.cell 1, HVB11.out.cell 2⟩, trivial⟩
                          refine takeP 6 (v := ?_) rfl (by kernel_rfl) (by kernel_rfl) (by kernel_rfl) (by kernel_rfl) (fun _ _ _ h => h) (by rfl) ?_ (by assumption) ?_
                          rotate_left 1
                          · (intro w hSw; (try dsimp only at hSw); obtain ⟨hSw1, hSw2, hSw3⟩ := hSw; go_simp; try with_reducible rfl)
                          try simp only [Act.put, List.setIfInBounds_toArray, List.set_cons_zero, List.set_cons_succ]
                          clear hHeld
                          refine doneL (by kernel_rfl) ?_ _
                          go_step
                          go_wp2_with fail
                          go_roundw
                          case rel =>
                            refine ⟨i + 1, Af2, cf2, by omega, by go_num, Lib.hid ?_, Lib.hid ?_, Lib.hid ?_⟩
                            · rw [HNEXT.out, step_other2 HQ.out (by rw [HUS.out, HXE.out]) HXV.out, HSP.out, HMX.out]
                              exact HJA.out.sm.kept HG11.out (fun j e => by obtain ⟨c2, h2⟩ := own_blkE HROWA.out e; exact ⟨_, c2, h2, by decide, by decide, by decide⟩)
                            · rw [HNEXT.out, step_other2 HQ.out (by rw [HUS.out, HXE.out]) HXV.out, HUS.out]
                              simp only [List.length_append, List.length_cons, List.length_nil, List.flatMap_append, List.flatMap_cons, List.flatMap_nil, List.append_nil]
                              exact HROW11.out
                            · exact HJA.out.ctx.high HG11.out (fun j e => (own_lt HROWA.out e).1)
                          case measure => simp [intOf]; omega
                        · skip
                          have HALL := Lib.hid ((Below.refl Wd.heap.size Wd).alloc (Nat.le_refl _) (.cells #[.int .i64 v.reg, .int .i64 v.frm, .int .i64 v.to] 44))
                          have HNB0 := Lib.hid (BlkAt.new Wd 44 #[.int .i64 v.reg, .int .i64 v.frm, .int .i64 v.to])
                          have HJA0 := Lib.hid (HJ0.out.below HALL.out)
                          have HJB : Hid (StJ Bb Fb Vb Wd.heap.size Kb (.slice (some ⟨gm, 0, none⟩) r cm) (.slice (some ⟨gs, 0, none⟩) r cs) Af2 cf2 ⟨(sp.mach.set v.reg mx).set x.reg (-1), sp.slot, sp.slots⟩ v w1 #[.string ⟨b.name.toArray⟩, .int .i64 r, .int .i64 G, .slice Ab nb cb] (.slice (some ⟨gI, 0, none⟩) l.length cI) l (Wd.alloc (.cells #[.int .i64 v.reg, .int .i64 v.frm, .int .i64 v.to] 44))) := Lib.hid ⟨HJA0.out.sm, HJA0.out.vb, HNB0.out, HJA0.out.ctx⟩
                          have HROWB := Lib.hid (own_below HACd.out HALL.out)
                          have HWBB := Lib.hid (HWBd.out.below HALL.out HWBd.out.lt)
                          have HOWN := Lib.hid (fun j (hj : (Value.slice Aa us.length ca).ownBlock = some j) => (own_lt HACd.out hj).2)
                          go_simp
                          refine hK.out _ _ ⟨⟨HJA0.out.vb.cell 0, HJA0.out.vb.cell 1, HJA0.out.vb.cell 2⟩, fun _ => trivial⟩ ?_
                          clear hK HNB0 HJA0 HALL
                          try simp only [Act.put, List.setIfInBounds_toArray, List.set_cons_zero, List.set_cons_succ]
                          obtain ⟨WB, hWB⟩ : ∃ WB, Wd.alloc (.cells #[.int .i64 v.reg, .int .i64 v.frm, .int .i64 v.to] 44) = WB := ⟨_, rfl⟩
                          rw [hWB] at HJB HROWB HWBB ⊢
                          clear hWB
                          refine oneL 2 (by kernel_rfl) rfl (fun K hK => ?_)
                          have hdl := del2 HJB.out HROWB.out HWBB.out hul (fun j hj => ⟨(HAB2.out j hj).1, fun e => by have := HOWN.out j hj; omega, (HAB2.out j hj).2⟩)
                          refine step_call_at rfl 42 (enters_of Tryz.func42 (by kernel_rfl) rfl) [.tmp 161, .tmp 162] _ rfl [.slice Aa us.length ca, .func (.func 47) #[] #[.pointer (some ⟨Wb, 0, none⟩)]] rfl hdl (fun e WA hr => ?_)
                          obtain ⟨v9, rfl, hrow9, hob9, hj9⟩ := hr
                          obtain ⟨A9, c9, hv9, _, _, _⟩ := own_slice hrow9
                          subst hv9
                          have HROWA := Lib.hid hrow9
                          have HJA := Lib.hid hj9
                          have HNB := Lib.hid HJA.out.nb
                          have HVA9 : Hid ((Value.slice A9 (us.filter (fun a => !decide (a = x))).length c9).ownBlock ≠ some Vb) := Lib.hid (by rw [hob9]; exact HVA.out)
                          clear hrow9 hj9 hdl hob9
                          refine ⟨_, rfl, hK.out _ _ ⟨⟨HJA.out.vb.cell 0, HJA.out.vb.cell 1, HJA.out.vb.cell 2⟩, fun _ => trivial⟩ ?_⟩
                          clear hK
                          try simp only [Act.put, List.setIfInBounds_toArray, List.set_cons_zero, List.set_cons_succ]
                          refine oneL 5 (by kernel_rfl) rfl (fun K hK => ?_)
                          refine step_append_at rfl (.tmp 163) (.tmp 165) 40 rfl Kb 44 i1 (.agg #[.int .i64 0, .int .i64 0, .int .i64 0]) 3 24 Tryz.underlying40 HIN1.out y0 y1 y2 rfl (by decide) (.slice A9 (us.filter (fun a => !decide (a = x))).length c9) (us.filter (fun a => !decide (a = x))).length _ rfl HROWA.out ⟨Wd.heap.size, 0, none⟩ 1 1 (encItv v) rfl rfl (news_itv HNB.out) (by simp [Value.oneCell', encItv]) (by unfold maxLen; have := List.length_filter_le (fun a => !decide (a = x)) us; omega) (by have := List.length_filter_le (fun a => !decide (a = x)) us; omega) HJA.out.ctx.hK (fun v11 w11 hrow11 hgr11 hob11 => ?_)
                          obtain ⟨A11, c11, hv11, _, _, _⟩ := own_slice hrow11
                          subst hv11
                          have HROW11 := Lib.hid hrow11
                          have HG11 := Lib.hid hgr11
                          have HVB11 := Lib.hid (HJA.out.vb.kept hgr11 (fun e => HVA9.out e.symm))
                          clear hrow11 hgr11 hob11
                          refine hK.out _ _ ⟨⟨HVB11.out.cell 0, HVB11.out.cell 1, HVB11.out.cell 2⟩, fun _ => trivial⟩ ?_
                          clear hK
                          try simp only [Act.put, List.setIfInBounds_toArray, List.set_cons_zero, List.set_cons_succ]
                          have hHeld : (w11.cell? ⟨Vb, 0, none⟩ = some (.int .i64 v.reg) ∧ w11.cell? ⟨Vb, 1, none⟩ = some (.int .i64 v.frm) ∧ w11.cell? ⟨Vb, 2, none⟩ = some (.int .i64 v.to)) ∧ True := ⟨⟨HVB11.out.cell 0, HVB11.out.cell 1, HVB11.out.cell 2⟩, trivial⟩
                          refine takeP 6 (v := ?_) rfl (by kernel_rfl) (by kernel_rfl) (by kernel_rfl) (by kernel_rfl) (fun _ _ _ h => h) (by rfl) ?_ (by assumption) ?_
                          rotate_left 1
                          · (intro w hSw; (try dsimp only at hSw); obtain ⟨hSw1, hSw2, hSw3⟩ := hSw; go_simp; try with_reducible rfl)
                          try simp only [Act.put, List.setIfInBounds_toArray, List.set_cons_zero, List.set_cons_succ]
                          clear hHeld
                          refine doneL (by kernel_rfl) ?_ _
                          go_step
                          go_wp2_with fail
                          go_roundw
                          case rel =>
                            refine ⟨i + 1, Af2, cf2, by omega, by go_num, Lib.hid ?_, Lib.hid ?_, Lib.hid ?_⟩
                            · rw [HNEXT.out, step_other2 HQ.out (by rw [HUS.out, HXE.out]) HXV.out, HSP.out, HMX.out]
                              exact HJA.out.sm.kept HG11.out (fun j e => by obtain ⟨c2, h2⟩ := own_blkE HROWA.out e; exact ⟨_, c2, h2, by decide, by decide, by decide⟩)
                            · rw [HNEXT.out, step_other2 HQ.out (by rw [HUS.out, HXE.out]) HXV.out, HUS.out]
                              simp only [List.length_append, List.length_cons, List.length_nil, List.flatMap_append, List.flatMap_cons, List.flatMap_nil, List.append_nil]
                              exact HROW11.out
                            · exact HJA.out.ctx.high HG11.out (fun j e => (own_lt HROWA.out e).1)
                          case measure => simp [intOf]; omega
                    · have hsp2 : sp = s.p := by rw [← HSP.out]; unfold spill; rw [if_neg hxG]
                      by_cases hxv : x = v
                      · have HXV := Lib.hid hxv
                        have hq : eqItv x v = true := by unfold eqItv; exact decide_eq_true hxv
                        simp only [hq, Bool.not_true] at hne
                        clear hxv hq
                        go_wp2_with fail
                        have HSMp : Hid (ScanM Bb (Bb + 1) Fb (.slice (some ⟨gm, 0, none⟩) r cm) (.slice (some ⟨gs, 0, none⟩) r cs) Af2 cf2 sp [] wr) := Lib.hid (by rw [hsp2]; exact HSM.out)
                        have HACp := HACT
                        have HCTp := HCTX
                        go_roundw
                        case rel =>
                          refine ⟨i + 1, Af2, cf2, by omega, by go_num, Lib.hid ?_, Lib.hid ?_, HCTp⟩
                          · rw [HNEXT.out, step_own HQ.out (by rw [HUS.out, HXE.out, HXV.out]), HUS.out]
                            have e : sp = spill G v s.p := by rw [← HSP.out, HXV.out]
                            have := HSMp.out
                            rw [e] at this
                            exact this
                          · rw [HNEXT.out, step_own HQ.out (by rw [HUS.out, HXE.out, HXV.out]), HUS.out]
                            exact HACp.out
                        case measure => simp [intOf]; omega
                      · have HXV := Lib.hid hxv
                        have HXN : Hid (¬ x.reg = v.reg) := Lib.hid (by
                          rcases HXM.out.1 with e | e
                          · exact absurd e hxv
                          · exact (HXM.out.2 x e).2)
                        have hq : eqItv x v = false := by unfold eqItv; exact decide_eq_false hxv
                        simp only [hq, Bool.not_false] at hne
                        clear hxv hq
                        go_wp2_with fail
                        obtain ⟨Wp, hWp⟩ : ∃ Wp, wr = Wp := ⟨_, rfl⟩
                        have HSMp : Hid (ScanM Bb (Bb + 1) Fb (.slice (some ⟨gm, 0, none⟩) r cm) (.slice (some ⟨gs, 0, none⟩) r cs) Af2 cf2 sp [] wr) := Lib.hid (by rw [hsp2]; exact HSM.out)
                        have HACp := HACT
                        have HVBp := HVB
                        have HCTp := HCTX
                        have HWBp := HWB
                        clear w0 w1' w2 v0 v1 v2 b2 hne HSM HACT HVB HCTX HWB
                        rw [hWp] at HSMp HACp HVBp HCTp HWBp ⊢
                        clear hWp
                        obtain ⟨mx, hmx⟩ := get_some (xs := sp.mach) (k := x.reg) (by rw [HSPL.out]; exact hxr)
                        have HMX : Hid (sp.mach.getD x.reg (-1) = mx) := Lib.hid (by rw [List.getD_eq_getElem?_getD, hmx]; rfl)
                        have HBD := Lib.hid (below_draw (Below.refl Wp.heap.size Wp) 1)
                        have HSMd := Lib.hid (HSMp.out.below HBD.out)
                        have HACd := Lib.hid (own_below HACp.out HBD.out)
                        have HVBd := Lib.hid (HVBp.out.below HBD.out HVBp.out.lt)
                        have HCTd := Lib.hid (HCTp.out.below HBD.out)
                        have HWBd := Lib.hid (HWBp.out.below HBD.out HWBp.out.lt)
                        refine heldL (fun _ => True) (fun w' => w'.cell? ⟨Bb + 1, 0, none⟩ = some (.slice (some ⟨gm, 0, none⟩) r cm) ∧ w'.cell? ⟨Vb, 0, none⟩ = some (.int .i64 v.reg) ∧ w'.cell? ⟨Wb, 0, none⟩ = some (.int .i64 x.reg) ∧ w'.cell? ⟨gm, x.reg, none⟩ = some (.int .i64 mx)) 17 (by kernel_rfl) ?_
                        clear HSMp HACp HVBp HCTp HWBp HBD
                        generalize Wp.drewN 1 = Wd at *
                        obtain ⟨_, csm, hbm⟩ := HSMd.out.blkM (g := gm) rfl
                        have hcell : ∀ (j : Nat) (y : Int), sp.mach[j]? = some y → Wd.cell? ⟨gm, j, none⟩ = some (.int .i64 y) := fun j y hj => by
                          obtain ⟨_, _, e, _, _, hA⟩ := own_slice HSMd.out.mach
                          obtain ⟨g, e2, _, _, hc⟩ := hA (by rw [HSPL.out]; omega)
                          injection e with ea
                          rw [← ea] at e2
                          cases e2
                          exact hc j _ (by rw [List.getElem?_map, hj]; rfl)
                        obtain ⟨ov, hov⟩ := get_some (xs := sp.mach) (k := v.reg) (by rw [HSPL.out]; exact hvr)
                        have hold := hcell _ _ hov
                        have hm0 := hcell _ _ hmx
                        have hfz := hbm.frozen v.reg
                        have HSM1 := Lib.hid (HSMd.out.setMach (g := gm) rfl (r := v.reg) (by rw [HSPL.out]; exact hvr) mx)
                        have hbm1 := hbm.set v.reg (.int .i64 mx)
                        have HAC1 : Hid ((Wd.setCell ⟨gm, v.reg, none⟩ (.int .i64 mx)).ownsRow Kb 44 3 (.slice Aa us.length ca) us.length (us.flatMap encItv)) := Lib.hid (own_keepG HACd.out (setCell_grown _ _ _ _) (fun j hj e => by cases e; obtain ⟨c2, h2⟩ := own_blkE HACd.out hj; exact blk_blk_ne hbm h2 (by decide) rfl))
                        have hvne : Vb ≠ gm := fun e => blk_blk_ne HVBd.out (show BlkAt Wd Vb _ csm from (by rw [e]; exact hbm)) (by decide) rfl
                        have hwne : Wb ≠ gm := fun e => blk_blk_ne HWBd.out (show BlkAt Wd Wb _ csm from (by rw [e]; exact hbm)) (by decide) rfl
                        have HVB1 := Lib.hid (HVBd.out.far (p := ⟨gm, v.reg, none⟩) hvne (.int .i64 mx))
                        have HWB1 := Lib.hid (HWBd.out.far (p := ⟨gm, v.reg, none⟩) hwne (.int .i64 mx))
                        have HCT1 := Lib.hid (HCTd.out.cell hbm (HSMd.out.blkM (g := gm) rfl).1 (by decide) (by decide) (.int .i64 mx) (i := v.reg))
                        have HSM2 := Lib.hid (HSM1.out.setMach (g := gm) rfl (r := x.reg) (by rw [List.length_set, HSPL.out]; exact hxr) (-1))
                        have HAC2 := Lib.hid (own_keepG HAC1.out (setCell_grown _ gm x.reg (.int .i64 (-1))) (fun j hj e => by cases e; obtain ⟨c2, h2⟩ := own_blkE HAC1.out hj; exact blk_blk_ne hbm1 h2 (by decide) rfl))
                        have HVB2 := Lib.hid (HVB1.out.far (p := ⟨gm, x.reg, none⟩) hvne (.int .i64 (-1)))
                        have HWB2 := Lib.hid (HWB1.out.far (p := ⟨gm, x.reg, none⟩) hwne (.int .i64 (-1)))
                        have HCT2 := Lib.hid (HCT1.out.cell hbm1 (HSMd.out.blkM (g := gm) rfl).1 (by decide) (by decide) (.int .i64 (-1)) (i := x.reg))
                        have hx1 : (Wd.setCell ⟨gm, v.reg, none⟩ (.int .i64 mx)).cell? ⟨gm, x.reg, none⟩ = some (.int .i64 mx) := by
                          rw [World.cell?_setCell_other _ _ _ _ (by simp; exact fun e => HXN.out e.symm)]; exact hm0
                        have hfx := hbm1.frozen x.reg
                        have hHeld : True ∧ (Wd.cell? ⟨Bb + 1, 0, none⟩ = some (.slice (some ⟨gm, 0, none⟩) r cm) ∧ Wd.cell? ⟨Vb, 0, none⟩ = some (.int .i64 v.reg) ∧ Wd.cell? ⟨Wb, 0, none⟩ = some (.int .i64 x.reg) ∧ Wd.cell? ⟨gm, x.reg, none⟩ = some (.int .i64 mx)) := ⟨trivial, HSMd.out.plan.cell 0, HVBd.out.cell 0, HWBd.out.cell 0, hm0⟩
                        have hHeld1 : True ∧ ((Wd.setCell ⟨gm, v.reg, none⟩ (.int .i64 mx)).cell? ⟨Bb + 1, 0, none⟩ = some (.slice (some ⟨gm, 0, none⟩) r cm) ∧ (Wd.setCell ⟨gm, v.reg, none⟩ (.int .i64 mx)).cell? ⟨Vb, 0, none⟩ = some (.int .i64 v.reg) ∧ (Wd.setCell ⟨gm, v.reg, none⟩ (.int .i64 mx)).cell? ⟨Wb, 0, none⟩ = some (.int .i64 x.reg) ∧ (Wd.setCell ⟨gm, v.reg, none⟩ (.int .i64 mx)).cell? ⟨gm, x.reg, none⟩ = some (.int .i64 mx)) := ⟨trivial, HSM1.out.plan.cell 0, HVB1.out.cell 0, HWB1.out.cell 0, hx1⟩
                        have j0 : (0 : Int) ≤ (v.reg : Int) := by omega
                        have j1 : (v.reg : Int) < (r : Int) := by omega
                        have j2 : (0 : Int) ≤ (x.reg : Int) := by omega
                        have j3 : (x.reg : Int) < (r : Int) := by omega
                        clear hm0 hcell hmx hov
                        refine takeL 0 (v := ?_) rfl (by kernel_rfl) (by kernel_rfl) (by kernel_rfl) (by kernel_rfl) (fun _ _ _ h => h) (by rfl) ?_ (by assumption) ?_
                        rotate_left 1
                        · (intro w hSw; (try dsimp only at hSw); obtain ⟨_, hSw1, hSw2, hSw3, hSw4⟩ := hSw; go_simp; try with_reducible rfl)
                        try simp only [Act.put, List.setIfInBounds_toArray, List.set_cons_zero, List.set_cons_succ]
                        refine takeL 1 (v := ?_) rfl (by kernel_rfl) (by kernel_rfl) (by kernel_rfl) (by kernel_rfl) (fun _ _ _ h => h) (by rfl) ?_ (by assumption) ?_
                        rotate_left 1
                        · (intro w hSw; (try dsimp only at hSw); obtain ⟨_, hSw1, hSw2, hSw3, hSw4⟩ := hSw; go_simp; try with_reducible rfl)
                        try simp only [Act.put, List.setIfInBounds_toArray, List.set_cons_zero, List.set_cons_succ]
                        refine takeL 2 (v := ?_) rfl (by kernel_rfl) (by kernel_rfl) (by kernel_rfl) (by kernel_rfl) (fun _ _ _ h => h) (by rfl) ?_ (by assumption) ?_
                        rotate_left 1
                        · (intro w hSw; (try dsimp only at hSw); obtain ⟨_, hSw1, hSw2, hSw3, hSw4⟩ := hSw; go_simp; try with_reducible rfl)
                        try simp only [Act.put, List.setIfInBounds_toArray, List.set_cons_zero, List.set_cons_succ]
                        refine takeL 3 (v := ?_) rfl (by kernel_rfl) (by kernel_rfl) (by kernel_rfl) (by kernel_rfl) (fun _ _ _ h => h) (by rfl) ?_ (by assumption) ?_
                        rotate_left 1
                        · (intro w hSw; (try dsimp only at hSw); obtain ⟨_, hSw1, hSw2, hSw3, hSw4⟩ := hSw; go_simp; try with_reducible rfl)
                        try simp only [Act.put, List.setIfInBounds_toArray, List.set_cons_zero, List.set_cons_succ]
                        refine takeL 4 (v := ?_) rfl (by kernel_rfl) (by kernel_rfl) (by kernel_rfl) (by kernel_rfl) (fun _ _ _ h => h) (by rfl) ?_ (by assumption) ?_
                        rotate_left 1
                        · (intro w hSw; (try dsimp only at hSw); obtain ⟨_, hSw1, hSw2, hSw3, hSw4⟩ := hSw; go_simp; try with_reducible rfl)
                        try simp only [Act.put, List.setIfInBounds_toArray, List.set_cons_zero, List.set_cons_succ]
                        refine takeL 5 (v := ?_) rfl (by kernel_rfl) (by kernel_rfl) (by kernel_rfl) (by kernel_rfl) (fun _ _ _ h => h) (by rfl) ?_ (by assumption) ?_
                        rotate_left 1
                        · (intro w hSw; (try dsimp only at hSw); obtain ⟨_, hSw1, hSw2, hSw3, hSw4⟩ := hSw; go_simp; try with_reducible rfl)
                        try simp only [Act.put, List.setIfInBounds_toArray, List.set_cons_zero, List.set_cons_succ]
                        refine takeL 6 (v := ?_) rfl (by kernel_rfl) (by kernel_rfl) (by kernel_rfl) (by kernel_rfl) (fun _ _ _ h => h) (by rfl) ?_ (by assumption) ?_
                        rotate_left 1
                        · (intro w hSw; (try dsimp only at hSw); obtain ⟨_, hSw1, hSw2, hSw3, hSw4⟩ := hSw; go_simp; try with_reducible rfl)
                        try simp only [Act.put, List.setIfInBounds_toArray, List.set_cons_zero, List.set_cons_succ]
                        refine takeL 7 (v := ?_) rfl (by kernel_rfl) (by kernel_rfl) (by kernel_rfl) (by kernel_rfl) (fun _ _ _ h => h) (by rfl) ?_ (by assumption) ?_
                        rotate_left 1
                        · (intro w hSw; (try dsimp only at hSw); obtain ⟨_, hSw1, hSw2, hSw3, hSw4⟩ := hSw; go_simp; try with_reducible rfl)
                        try simp only [Act.put, List.setIfInBounds_toArray, List.set_cons_zero, List.set_cons_succ]
                        refine takeL 8 (v := ?_) rfl (by kernel_rfl) (by kernel_rfl) (by kernel_rfl) (by kernel_rfl) (fun _ _ _ h => h) (by rfl) ?_ (by assumption) ?_
                        rotate_left 1
                        · (intro w hSw; (try dsimp only at hSw); obtain ⟨_, hSw1, hSw2, hSw3, hSw4⟩ := hSw; go_simp; try with_reducible rfl)
                        try simp only [Act.put, List.setIfInBounds_toArray, List.set_cons_zero, List.set_cons_succ]
                        refine takeL 9 (v := ?_) rfl (by kernel_rfl) (by kernel_rfl) (by kernel_rfl) (by kernel_rfl) (fun _ _ _ h => h) (by rfl) ?_ (by assumption) ?_
                        rotate_left 1
                        · (intro w hSw; (try dsimp only at hSw); obtain ⟨_, hSw1, hSw2, hSw3, hSw4⟩ := hSw; go_simp; try with_reducible rfl)
                        try simp only [Act.put, List.setIfInBounds_toArray, List.set_cons_zero, List.set_cons_succ]
                        refine takeL 10 (v := ?_) rfl (by kernel_rfl) (by kernel_rfl) (by kernel_rfl) (by kernel_rfl) (fun _ _ _ h => h) (by rfl) ?_ (by assumption) ?_
                        rotate_left 1
                        · (intro w hSw; (try dsimp only at hSw); obtain ⟨_, hSw1, hSw2, hSw3, hSw4⟩ := hSw; go_simp; try with_reducible rfl)
                        try simp only [Act.put, List.setIfInBounds_toArray, List.set_cons_zero, List.set_cons_succ]
                        refine takeL 11 (v := ?_) rfl (by kernel_rfl) (by kernel_rfl) (by kernel_rfl) (by kernel_rfl) (fun _ _ _ h => h) (by rfl) ?_ (by assumption) ?_
                        rotate_left 1
                        · (intro w hSw; (try dsimp only at hSw); obtain ⟨_, hSw1, hSw2, hSw3, hSw4⟩ := hSw; go_simp; try with_reducible rfl)
                        try simp only [Act.put, List.setIfInBounds_toArray, List.set_cons_zero, List.set_cons_succ]
                        refine takeL 12 (v := ?_) rfl (by kernel_rfl) (by kernel_rfl) (by kernel_rfl) (by kernel_rfl) (fun _ _ _ h => h) (by rfl) ?_ (by assumption) ?_
                        rotate_left 1
                        · (intro w hSw; (try dsimp only at hSw); obtain ⟨_, hSw1, hSw2, hSw3, hSw4⟩ := hSw; go_simp; try with_reducible rfl)
                        try simp only [Act.put, List.setIfInBounds_toArray, List.set_cons_zero, List.set_cons_succ]
                        refine takeL 13 (v := ?_) rfl (by kernel_rfl) (by kernel_rfl) (by kernel_rfl) (by kernel_rfl) (fun _ _ _ h => h) (by rfl) ?_ (by assumption) ?_
                        rotate_left 1
                        · (intro w hSw; (try dsimp only at hSw); obtain ⟨_, hSw1, hSw2, hSw3, hSw4⟩ := hSw; go_simp; try with_reducible rfl)
                        try simp only [Act.put, List.setIfInBounds_toArray, List.set_cons_zero, List.set_cons_succ]
                        refine takeL 14 (v := ?_) rfl (by kernel_rfl) (by kernel_rfl) (by kernel_rfl) (by kernel_rfl) (fun _ _ _ h => h) (by rfl) ?_ (by assumption) ?_
                        rotate_left 1
                        · (intro w hSw; (try dsimp only at hSw); obtain ⟨_, hSw1, hSw2, hSw3, hSw4⟩ := hSw; go_simp; try with_reducible rfl)
                        try simp only [Act.put, List.setIfInBounds_toArray, List.set_cons_zero, List.set_cons_succ]
                        refine oneL 15 (by kernel_rfl) rfl (fun K hK => ?_)
                        go_simp
                        refine hK.out _ _ ⟨hHeld1.1, fun _ => hHeld1.2⟩ ?_
                        clear hK hHeld hold hfz
                        try simp only [Act.put, List.setIfInBounds_toArray, List.set_cons_zero, List.set_cons_succ]
                        obtain ⟨W1, hW1⟩ : ∃ W1, Wd.setCell ⟨gm, v.reg, none⟩ (.int .i64 mx) = W1 := ⟨_, rfl⟩
                        rw [hW1] at hHeld1 HSM2 HAC2 HVB2 HWB2 HCT2 hx1 hfx ⊢
                        clear hW1 HSM1 HAC1 HVB1 HWB1 HCT1
                        refine takeL 16 (v := ?_) rfl (by kernel_rfl) (by kernel_rfl) (by kernel_rfl) (by kernel_rfl) (fun _ _ _ h => h) (by rfl) ?_ (by assumption) ?_
                        rotate_left 1
                        · (intro w hSw; (try dsimp only at hSw); obtain ⟨_, hSw1, hSw2, hSw3, hSw4⟩ := hSw; go_simp; try with_reducible rfl)
                        try simp only [Act.put, List.setIfInBounds_toArray, List.set_cons_zero, List.set_cons_succ]
                        refine oneL 17 (by kernel_rfl) rfl (fun K hK => ?_)
                        go_simp
                        refine hK.out _ _ ⟨trivial, fun h => absurd h (by decide)⟩ ?_
                        clear hK hHeld1 hx1 hfx
                        try simp only [Act.put, List.setIfInBounds_toArray, List.set_cons_zero, List.set_cons_succ]
                        obtain ⟨W2, hW2⟩ : ∃ W2, W1.setCell ⟨gm, x.reg, none⟩ (.int .i64 (-1)) = W2 := ⟨_, rfl⟩
                        rw [hW2] at HSM2 HAC2 HVB2 HWB2 HCT2 ⊢
                        clear hW2 HSMd HACd HVBd HWBd HCTd hbm hbm1
                        refine doneL (by kernel_rfl) ?_ _
                        go_step
                        go_wp2_with fail
                        refine heldL (fun w' => w'.cell? ⟨Vb, 0, none⟩ = some (.int .i64 v.reg) ∧ w'.cell? ⟨Vb, 1, none⟩ = some (.int .i64 v.frm) ∧ w'.cell? ⟨Vb, 2, none⟩ = some (.int .i64 v.to)) (fun _ => True) 2 (by kernel_rfl) ?_
                        have HBD := Lib.hid (below_draw (Below.refl W2.heap.size W2) 1)
                        have HJ0 : Hid (StJ Bb Fb Vb Vb Kb (.slice (some ⟨gm, 0, none⟩) r cm) (.slice (some ⟨gs, 0, none⟩) r cs) Af2 cf2 ⟨(sp.mach.set v.reg mx).set x.reg (-1), sp.slot, sp.slots⟩ v w1 #[.string ⟨b.name.toArray⟩, .int .i64 r, .int .i64 G, .slice Ab nb cb] (.slice (some ⟨gI, 0, none⟩) l.length cI) l (W2.drewN 1)) := Lib.hid ((⟨HSM2.out, HVB2.out, HVB2.out, HCT2.out⟩ : StJ Bb Fb Vb Vb Kb (.slice (some ⟨gm, 0, none⟩) r cm) (.slice (some ⟨gs, 0, none⟩) r cs) Af2 cf2 ⟨(sp.mach.set v.reg mx).set x.reg (-1), sp.slot, sp.slots⟩ v w1 #[.string ⟨b.name.toArray⟩, .int .i64 r, .int .i64 G, .slice Ab nb cb] (.slice (some ⟨gI, 0, none⟩) l.length cI) l W2).below HBD.out)
                        have HACd := Lib.hid (own_below HAC2.out HBD.out)
                        have HWBd := Lib.hid (HWB2.out.below HBD.out HWB2.out.lt)
                        clear HSM2 HAC2 HVB2 HWB2 HCT2 HBD
                        generalize W2.drewN 1 = Wd at *
                        have hHeld : (Wd.cell? ⟨Vb, 0, none⟩ = some (.int .i64 v.reg) ∧ Wd.cell? ⟨Vb, 1, none⟩ = some (.int .i64 v.frm) ∧ Wd.cell? ⟨Vb, 2, none⟩ = some (.int .i64 v.to)) ∧ True := ⟨⟨HJ0.out.vb.cell 0, HJ0.out.vb.cell 1, HJ0.out.vb.cell 2⟩, trivial⟩
                        refine takeP 0 (v := ?_) rfl (by kernel_rfl) (by kernel_rfl) (by kernel_rfl) (by kernel_rfl) (fun _ _ _ h => h) (by rfl) ?_ (by assumption) ?_
                        rotate_left 1
                        · (intro w hSw; (try dsimp only at hSw); obtain ⟨hSw1, hSw2, hSw3⟩ := hSw; go_simp; try with_reducible rfl)
                        try simp only [Act.put, List.setIfInBounds_toArray, List.set_cons_zero, List.set_cons_succ]
                        refine takeP 1 (v := ?_) rfl (by kernel_rfl) (by kernel_rfl) (by kernel_rfl) (by kernel_rfl) (fun _ _ _ h => h) (by rfl) ?_ (by assumption) ?_
                        rotate_left 1
                        · (intro w hSw; (try dsimp only at hSw); obtain ⟨hSw1, hSw2, hSw3⟩ := hSw; go_simp; try with_reducible rfl)
                        try simp only [Act.put, List.setIfInBounds_toArray, List.set_cons_zero, List.set_cons_succ]
                        refine takeP 3 (v := ?_) rfl (by kernel_rfl) (by kernel_rfl) (by kernel_rfl) (by kernel_rfl) (fun _ _ _ h => h) (by rfl) ?_ (by assumption) ?_
                        rotate_left 1
                        · (intro w hSw; (try dsimp only at hSw); obtain ⟨hSw1, hSw2, hSw3⟩ := hSw; go_simp; try with_reducible rfl)
                        try simp only [Act.put, List.setIfInBounds_toArray, List.set_cons_zero, List.set_cons_succ]
                        clear hHeld
                        have HAB2 : Hid (∀ j, (Value.slice Aa us.length ca).ownBlock = some j → j ≠ Vb ∧ j ≠ Wb) := Lib.hid (fun j hj => ⟨fun e => HVA.out (by rw [← e]; exact hj), fun e => by have := (HAB.out j hj).2; omega⟩)
                        refine twoL 2 4 (by kernel_rfl) rfl rfl (fun K hK => ?_) (fun K hK => ?_)
                        · have hdl := del2 HJ0.out HACd.out HWBd.out hul (fun j hj => ⟨(HAB2.out j hj).1, (HAB2.out j hj).1, (HAB2.out j hj).2⟩)
                          refine step_call_at rfl 42 (enters_of Tryz.func42 (by kernel_rfl) rfl) [.tmp 161, .tmp 162] _ rfl [.slice Aa us.length ca, .func (.func 47) #[] #[.pointer (some ⟨Wb, 0, none⟩)]] rfl hdl (fun e w9 hr => ?_)
                          obtain ⟨v9, rfl, hrow9, hob9, hj9⟩ := hr
                          obtain ⟨A9, c9, hv9, _, _, _⟩ := own_slice hrow9
                          subst hv9
                          have HROW9 := Lib.hid hrow9
                          have HJ9 := Lib.hid hj9
                          have HVA9 : Hid ((Value.slice A9 (us.filter (fun a => !decide (a = x))).length c9).ownBlock ≠ some Vb) := Lib.hid (by rw [hob9]; exact HVA.out)
                          clear hrow9 hj9 hdl hob9
                          refine ⟨_, rfl, hK.out _ _ ⟨⟨HJ9.out.vb.cell 0, HJ9.out.vb.cell 1, HJ9.out.vb.cell 2⟩, fun _ => trivial⟩ ?_⟩
                          clear hK
                          try simp only [Act.put, List.setIfInBounds_toArray, List.set_cons_zero, List.set_cons_succ]
                          have HALL := Lib.hid ((Below.refl w9.heap.size w9).alloc (Nat.le_refl _) (.cells #[.int .i64 v.reg, .int .i64 v.frm, .int .i64 v.to] 44))
                          have HNB := Lib.hid (BlkAt.new w9 44 #[.int .i64 v.reg, .int .i64 v.frm, .int .i64 v.to])
                          have HJA := Lib.hid (HJ9.out.below HALL.out)
                          have HROWA := Lib.hid (own_below HROW9.out HALL.out)
                          refine oneL 4 (by kernel_rfl) rfl (fun K hK => ?_)
                          go_simp
                          refine hK.out _ _ ⟨⟨HJA.out.vb.cell 0, HJA.out.vb.cell 1, HJA.out.vb.cell 2⟩, fun _ => trivial⟩ ?_
                          clear hK HJ9 HROW9 HALL
                          try simp only [Act.put, List.setIfInBounds_toArray, List.set_cons_zero, List.set_cons_succ]
                          obtain ⟨WA, hWA⟩ : ∃ WA, w9.alloc (.cells #[.int .i64 v.reg, .int .i64 v.frm, .int .i64 v.to] 44) = WA := ⟨_, rfl⟩
                          rw [hWA] at HNB HJA HROWA ⊢
                          clear hWA
                          refine oneL 5 (by kernel_rfl) rfl (fun K hK => ?_)
                          refine step_append_at rfl (.tmp 163) (.tmp 165) 40 rfl Kb 44 i1 (.agg #[.int .i64 0, .int .i64 0, .int .i64 0]) 3 24 Tryz.underlying40 HIN1.out y0 y1 y2 rfl (by decide) (.slice A9 (us.filter (fun a => !decide (a = x))).length c9) (us.filter (fun a => !decide (a = x))).length _ rfl HROWA.out ⟨w9.heap.size, 0, none⟩ 1 1 (encItv v) rfl rfl (news_itv HNB.out) (by simp [Value.oneCell', encItv]) (by unfold maxLen; have := List.length_filter_le (fun a => !decide (a = x)) us; omega) (by have := List.length_filter_le (fun a => !decide (a = x)) us; omega) HJA.out.ctx.hK (fun v11 w11 hrow11 hgr11 hob11 => ?_)
                          obtain ⟨A11, c11, hv11, _, _, _⟩ := own_slice hrow11
                          subst hv11
                          have HROW11 := Lib.hid hrow11
                          have HG11 := Lib.hid hgr11
                          have HVB11 := Lib.hid (HJA.out.vb.kept hgr11 (fun e => HVA9.out e.symm))
                          clear hrow11 hgr11 hob11
                          refine hK.out _ _ ⟨⟨HVB11.out.cell 0, HVB11.out.cell 1, HVB11.out.cell 2⟩, fun _ => trivial⟩ ?_
                          clear hK
                          try simp only [Act.put, List.setIfInBounds_toArray, List.set_cons_zero, List.set_cons_succ]
                          have hHeld : (w11.cell? ⟨Vb, 0, none⟩ = some (.int .i64 v.reg) ∧ w11.cell? ⟨Vb, 1, none⟩ = some (.int .i64 v.frm) ∧ w11.cell? ⟨Vb, 2, none⟩ = some (.int .i64 v.to)) ∧ True := ⟨⟨HVB11.out.cell 0, HVB11.out.cell 1, HVB11.out.cell 2⟩, trivial⟩
                          refine takeP 6 (v := ?_) rfl (by kernel_rfl) (by kernel_rfl) (by kernel_rfl) (by kernel_rfl) (fun _ _ _ h => h) (by rfl) ?_ (by assumption) ?_
                          rotate_left 1
                          · (intro w hSw; (try dsimp only at hSw); obtain ⟨hSw1, hSw2, hSw3⟩ := hSw; go_simp; try with_reducible rfl)
                          try simp only [Act.put, List.setIfInBounds_toArray, List.set_cons_zero, List.set_cons_succ]
                          clear hHeld
                          refine doneL (by kernel_rfl) ?_ _
                          go_step
                          go_wp2_with fail
                          go_roundw
                          case rel =>
                            refine ⟨i + 1, Af2, cf2, by omega, by go_num, Lib.hid ?_, Lib.hid ?_, Lib.hid ?_⟩
                            · rw [HNEXT.out, step_other2 HQ.out (by rw [HUS.out, HXE.out]) HXV.out, HSP.out, HMX.out]
                              exact HJA.out.sm.kept HG11.out (fun j e => by obtain ⟨c2, h2⟩ := own_blkE HROWA.out e; exact ⟨_, c2, h2, by decide, by decide, by decide⟩)
                            · rw [HNEXT.out, step_other2 HQ.out (by rw [HUS.out, HXE.out]) HXV.out, HUS.out]
                              simp only [List.length_append, List.length_cons, List.length_nil, List.flatMap_append, List.flatMap_cons, List.flatMap_nil, List.append_nil]
                              exact HROW11.out
                            · exact HJA.out.ctx.high HG11.out (fun j e => (own_lt HROWA.out e).1)
                          case measure => simp [intOf]; omega
                        · skip
                          have HALL := Lib.hid ((Below.refl Wd.heap.size Wd).alloc (Nat.le_refl _) (.cells #[.int .i64 v.reg, .int .i64 v.frm, .int .i64 v.to] 44))
                          have HNB0 := Lib.hid (BlkAt.new Wd 44 #[.int .i64 v.reg, .int .i64 v.frm, .int .i64 v.to])
                          have HJA0 := Lib.hid (HJ0.out.below HALL.out)
                          have HJB : Hid (StJ Bb Fb Vb Wd.heap.size Kb (.slice (some ⟨gm, 0, none⟩) r cm) (.slice (some ⟨gs, 0, none⟩) r cs) Af2 cf2 ⟨(sp.mach.set v.reg mx).set x.reg (-1), sp.slot, sp.slots⟩ v w1 #[.string ⟨b.name.toArray⟩, .int .i64 r, .int .i64 G, .slice Ab nb cb] (.slice (some ⟨gI, 0, none⟩) l.length cI) l (Wd.alloc (.cells #[.int .i64 v.reg, .int .i64 v.frm, .int .i64 v.to] 44))) := Lib.hid ⟨HJA0.out.sm, HJA0.out.vb, HNB0.out, HJA0.out.ctx⟩
                          have HROWB := Lib.hid (own_below HACd.out HALL.out)
                          have HWBB := Lib.hid (HWBd.out.below HALL.out HWBd.out.lt)
                          have HOWN := Lib.hid (fun j (hj : (Value.slice Aa us.length ca).ownBlock = some j) => (own_lt HACd.out hj).2)
                          go_simp
                          refine hK.out _ _ ⟨⟨HJA0.out.vb.cell 0, HJA0.out.vb.cell 1, HJA0.out.vb.cell 2⟩, fun _ => trivial⟩ ?_
                          clear hK HNB0 HJA0 HALL
                          try simp only [Act.put, List.setIfInBounds_toArray, List.set_cons_zero, List.set_cons_succ]
                          obtain ⟨WB, hWB⟩ : ∃ WB, Wd.alloc (.cells #[.int .i64 v.reg, .int .i64 v.frm, .int .i64 v.to] 44) = WB := ⟨_, rfl⟩
                          rw [hWB] at HJB HROWB HWBB ⊢
                          clear hWB
                          refine oneL 2 (by kernel_rfl) rfl (fun K hK => ?_)
                          have hdl := del2 HJB.out HROWB.out HWBB.out hul (fun j hj => ⟨(HAB2.out j hj).1, fun e => by have := HOWN.out j hj; omega, (HAB2.out j hj).2⟩)
                          refine step_call_at rfl 42 (enters_of Tryz.func42 (by kernel_rfl) rfl) [.tmp 161, .tmp 162] _ rfl [.slice Aa us.length ca, .func (.func 47) #[] #[.pointer (some ⟨Wb, 0, none⟩)]] rfl hdl (fun e WA hr => ?_)
                          obtain ⟨v9, rfl, hrow9, hob9, hj9⟩ := hr
                          obtain ⟨A9, c9, hv9, _, _, _⟩ := own_slice hrow9
                          subst hv9
                          have HROWA := Lib.hid hrow9
                          have HJA := Lib.hid hj9
                          have HNB := Lib.hid HJA.out.nb
                          have HVA9 : Hid ((Value.slice A9 (us.filter (fun a => !decide (a = x))).length c9).ownBlock ≠ some Vb) := Lib.hid (by rw [hob9]; exact HVA.out)
                          clear hrow9 hj9 hdl hob9
                          refine ⟨_, rfl, hK.out _ _ ⟨⟨HJA.out.vb.cell 0, HJA.out.vb.cell 1, HJA.out.vb.cell 2⟩, fun _ => trivial⟩ ?_⟩
                          clear hK
                          try simp only [Act.put, List.setIfInBounds_toArray, List.set_cons_zero, List.set_cons_succ]
                          refine oneL 5 (by kernel_rfl) rfl (fun K hK => ?_)
                          refine step_append_at rfl (.tmp 163) (.tmp 165) 40 rfl Kb 44 i1 (.agg #[.int .i64 0, .int .i64 0, .int .i64 0]) 3 24 Tryz.underlying40 HIN1.out y0 y1 y2 rfl (by decide) (.slice A9 (us.filter (fun a => !decide (a = x))).length c9) (us.filter (fun a => !decide (a = x))).length _ rfl HROWA.out ⟨Wd.heap.size, 0, none⟩ 1 1 (encItv v) rfl rfl (news_itv HNB.out) (by simp [Value.oneCell', encItv]) (by unfold maxLen; have := List.length_filter_le (fun a => !decide (a = x)) us; omega) (by have := List.length_filter_le (fun a => !decide (a = x)) us; omega) HJA.out.ctx.hK (fun v11 w11 hrow11 hgr11 hob11 => ?_)
                          obtain ⟨A11, c11, hv11, _, _, _⟩ := own_slice hrow11
                          subst hv11
                          have HROW11 := Lib.hid hrow11
                          have HG11 := Lib.hid hgr11
                          have HVB11 := Lib.hid (HJA.out.vb.kept hgr11 (fun e => HVA9.out e.symm))
                          clear hrow11 hgr11 hob11
                          refine hK.out _ _ ⟨⟨HVB11.out.cell 0, HVB11.out.cell 1, HVB11.out.cell 2⟩, fun _ => trivial⟩ ?_
                          clear hK
                          try simp only [Act.put, List.setIfInBounds_toArray, List.set_cons_zero, List.set_cons_succ]
                          have hHeld : (w11.cell? ⟨Vb, 0, none⟩ = some (.int .i64 v.reg) ∧ w11.cell? ⟨Vb, 1, none⟩ = some (.int .i64 v.frm) ∧ w11.cell? ⟨Vb, 2, none⟩ = some (.int .i64 v.to)) ∧ True := ⟨⟨HVB11.out.cell 0, HVB11.out.cell 1, HVB11.out.cell 2⟩, trivial⟩
                          refine takeP 6 (v := ?_) rfl (by kernel_rfl) (by kernel_rfl) (by kernel_rfl) (by kernel_rfl) (fun _ _ _ h => h) (by rfl) ?_ (by assumption) ?_
                          rotate_left 1
                          · (intro w hSw; (try dsimp only at hSw); obtain ⟨hSw1, hSw2, hSw3⟩ := hSw; go_simp; try with_reducible rfl)
                          try simp only [Act.put, List.setIfInBounds_toArray, List.set_cons_zero, List.set_cons_succ]
                          clear hHeld
                          refine doneL (by kernel_rfl) ?_ _
                          go_step
                          go_wp2_with fail
                          go_roundw
                          case rel =>
                            refine ⟨i + 1, Af2, cf2, by omega, by go_num, Lib.hid ?_, Lib.hid ?_, Lib.hid ?_⟩
                            · rw [HNEXT.out, step_other2 HQ.out (by rw [HUS.out, HXE.out]) HXV.out, HSP.out, HMX.out]
                              exact HJA.out.sm.kept HG11.out (fun j e => by obtain ⟨c2, h2⟩ := own_blkE HROWA.out e; exact ⟨_, c2, h2, by decide, by decide, by decide⟩)
                            · rw [HNEXT.out, step_other2 HQ.out (by rw [HUS.out, HXE.out]) HXV.out, HUS.out]
                              simp only [List.length_append, List.length_cons, List.length_nil, List.flatMap_append, List.flatMap_cons, List.flatMap_nil, List.append_nil]
                              exact HROW11.out
                            · exact HJA.out.ctx.high HG11.out (fun j e => (own_lt HROWA.out e).1)
                          case measure => simp [intOf]; omega
              · have HSTEP := Lib.hid (step_some (args := G) hq)
                rw [HUS.out] at HSTEP
                have HQ := Lib.hid hq
                obtain ⟨n1, hn1⟩ : ∃ n1, (m0 :: rest).length = n1 := ⟨_, rfl⟩
                have HN1 := Lib.hid hn1
                have hn0 : 0 < n1 := by rw [← hn1]; simp
                clear hq hn1
                go_wp2_with (first
                  | (go_at_call 42
                     refine HDEL.out.mono ?_
                     rintro e w4 ⟨v2, rfl, hact2, hob2, ⟨Af2, cf2, hsm2⟩, hvb2, hctx2, _⟩
                     obtain ⟨Aa, ca, hva, _, _, _⟩ := own_slice hact2
                     subst hva
                     rw [List.take_length, HQ.out] at hsm2
                     have HACT2 := Lib.hid hact2
                     have HSM2 := Lib.hid hsm2
                     have HVB2 := Lib.hid hvb2
                     have HCTX2 := Lib.hid hctx2
                     have q0 := hsm2.fvar.cell 0
                     simp only [List.getElem?_toArray, List.getElem?_cons_zero, HN1.out] at q0
                     clear hact2 hob2 hsm2 hvb2 hctx2 HDEL c0 c1 c2)
                  | fail)
                obtain ⟨gf, of, hAf, hm0, _, _⟩ := HSM2.out.pop
                subst hAf
                refine heldL (fun _ => True) (fun w' => w'.cell? ⟨Bb + 1, 0, none⟩ = some (.slice (some ⟨gm, 0, none⟩) r cm) ∧ w'.cell? ⟨wr.heap.size, 0, none⟩ = some (.int .i64 v.reg) ∧ w'.cell? ⟨Fb, 0, none⟩ = some (.slice (some ⟨gf, of, none⟩) n1 cf2) ∧ w'.cell? ⟨gf, of, none⟩ = some (.int .i64 m0)) 11 (by kernel_rfl) ?_
                have HBD := Lib.hid (below_draw (Below.refl w4.heap.size w4) 1)
                have HSMd := Lib.hid (HSM2.out.below HBD.out)
                have HACTd := Lib.hid (own_below HACT2.out HBD.out)
                have HVBd := Lib.hid (HVB2.out.below HBD.out HVB2.out.lt)
                have HCTXd := Lib.hid (HCTX2.out.below HBD.out)
                clear HSM2 HACT2 HVB2 HCTX2 q0
                generalize w4.drewN 1 = Wd at *
                clear HBD
                replace hm0 : Wd.cell? ⟨gf, of, none⟩ = some (.int .i64 m0) := by
                  obtain ⟨gf', of', hAf, hm0', _, _⟩ := HSMd.out.pop
                  cases hAf
                  exact hm0'
                have HSMm := Lib.hid (HSMd.out.setMach (g := gm) rfl (r := v.reg) (by rw [hml]; exact hvr) m0)
                obtain ⟨gf', of', hAf, _, hp1, hp2⟩ := HSMm.out.pop
                cases hAf
                have q0 := HSMd.out.plan.cell 0
                have q1 := HVBd.out.cell 0
                have q2 := HSMd.out.fvar.cell 0
                simp only [List.getElem?_toArray, List.getElem?_cons_zero, HN1.out] at q0 q1 q2
                have hHeld : True ∧ (Wd.cell? ⟨Bb + 1, 0, none⟩ = some (.slice (some ⟨gm, 0, none⟩) r cm) ∧ Wd.cell? ⟨wr.heap.size, 0, none⟩ = some (.int .i64 v.reg) ∧ Wd.cell? ⟨Fb, 0, none⟩ = some (.slice (some ⟨gf, of, none⟩) n1 cf2) ∧ Wd.cell? ⟨gf, of, none⟩ = some (.int .i64 m0)) := ⟨trivial, q0, q1, q2, hm0⟩
                have j0 : (0 : Int) ≤ (v.reg : Int) := by omega
                have j1 : (v.reg : Int) < (r : Int) := by omega
                clear q0 q1 q2 hm0
                have hcap := HSMd.out.fr.cap
                rw [HN1.out] at hcap
                have hgmf : gm ≠ gf := fun e => (HSMd.out.ne2 gf rfl).1 (by rw [← e]; rfl)
                obtain ⟨_, csm, hbm⟩ := HSMd.out.blkM (g := gm) rfl
                have HCT1 : Hid (Ctx w1 #[.string ⟨b.name.toArray⟩, .int .i64 r, .int .i64 G, .slice Ab nb cb] Bb Kb (.slice (some ⟨gI, 0, none⟩) l.length cI) l (Wd.setCell ⟨gm, v.reg, none⟩ (.int .i64 m0))) := Lib.hid (HCTXd.out.cell hbm (HSMd.out.blkM (g := gm) rfl).1 (by decide) (by decide) _)
                have HAC1 : Hid ((Wd.setCell ⟨gm, v.reg, none⟩ (.int .i64 m0)).ownsRow Kb 44 3 (.slice Aa us.length ca) us.length (us.flatMap encItv)) := Lib.hid (own_keepG HACTd.out (setCell_grown _ _ _ _) (fun j hj e => by cases e; obtain ⟨c2, h2⟩ := own_blkE HACTd.out hj; exact blk_blk_ne hbm h2 (by decide) rfl))
                have HVB1 : Hid (BlkAt (Wd.setCell ⟨gm, v.reg, none⟩ (.int .i64 m0)) wr.heap.size 44 #[.int .i64 v.reg, .int .i64 v.frm, .int .i64 v.to]) := Lib.hid (HVBd.out.far (fun e => blk_blk_ne HVBd.out (show BlkAt Wd wr.heap.size _ csm from (by rw [e]; exact hbm)) (by decide) rfl) _)
                have HRW := Lib.hid (own_setI HSMd.out.mach (g := gm) rfl (i := v.reg) (by rw [hml]; exact hvr) m0)
                obtain ⟨old, hold⟩ : ∃ old, Wd.cell? ⟨gm, v.reg, none⟩ = some old := by
                  obtain ⟨x0, hx0⟩ := get_some (xs := s.p.mach) (k := v.reg) (by rw [hml]; exact hvr)
                  obtain ⟨_, _, e, _, _, hA⟩ := own_slice HSMd.out.mach
                  obtain ⟨g, e2, _, _, hc⟩ := hA (by omega)
                  injection e with ea
                  rw [← ea] at e2
                  cases e2
                  exact ⟨_, hc v.reg _ (by rw [List.getElem?_map, hx0]; rfl)⟩
                have hfz := hbm.frozen v.reg
                have hHeld1 : True ∧ ((Wd.setCell ⟨gm, v.reg, none⟩ (.int .i64 m0)).cell? ⟨Bb + 1, 0, none⟩ = some (.slice (some ⟨gm, 0, none⟩) r cm) ∧ (Wd.setCell ⟨gm, v.reg, none⟩ (.int .i64 m0)).cell? ⟨wr.heap.size, 0, none⟩ = some (.int .i64 v.reg) ∧ (Wd.setCell ⟨gm, v.reg, none⟩ (.int .i64 m0)).cell? ⟨Fb, 0, none⟩ = some (.slice (some ⟨gf, of, none⟩) n1 cf2) ∧ (Wd.setCell ⟨gm, v.reg, none⟩ (.int .i64 m0)).cell? ⟨gf, of, none⟩ = some (.int .i64 m0)) := ⟨trivial, HSMm.out.plan.cell 0, HVB1.out.cell 0, by rw [HSMm.out.fvar.cell 0]; simp [← HN1.out], by rw [World.cell?_setCell_other _ _ _ _ (by simp [hgmf.symm])]; exact hHeld.2.2.2.2⟩
                have hfv := HSMm.out.fvar.frozen 0
                have hn2 : (1 : Int) ≤ (n1 : Int) := by omega
                have hrl : rest.length = n1 - 1 := by have := HN1.out; simp at this; omega
                by_cases hc1 : cf2 = 1
                · obtain ⟨hr0, hp⟩ := hp1 hc1
                  subst hr0
                  subst hc1
                  obtain rfl : n1 = 1 := by omega
                  have HP := Lib.hid hp
                  simp only [List.length_nil] at HP
                  clear hp hp1 hp2 hrl
                  refine takeL 0 (v := ?_) rfl (by kernel_rfl) (by kernel_rfl) (by kernel_rfl) (by kernel_rfl) (fun _ _ _ h => h) (by rfl) ?_ (by assumption) ?_
                  rotate_left 1
                  · (intro w hSw; (try dsimp only at hSw); obtain ⟨_, hSw1, hSw2, hSw3, hSw4⟩ := hSw; go_simp; try with_reducible rfl)
                  try simp only [Act.put, List.setIfInBounds_toArray, List.set_cons_zero, List.set_cons_succ]
                  refine takeL 1 (v := ?_) rfl (by kernel_rfl) (by kernel_rfl) (by kernel_rfl) (by kernel_rfl) (fun _ _ _ h => h) (by rfl) ?_ (by assumption) ?_
                  rotate_left 1
                  · (intro w hSw; (try dsimp only at hSw); obtain ⟨_, hSw1, hSw2, hSw3, hSw4⟩ := hSw; go_simp; try with_reducible rfl)
                  try simp only [Act.put, List.setIfInBounds_toArray, List.set_cons_zero, List.set_cons_succ]
                  refine takeL 2 (v := ?_) rfl (by kernel_rfl) (by kernel_rfl) (by kernel_rfl) (by kernel_rfl) (fun _ _ _ h => h) (by rfl) ?_ (by assumption) ?_
                  rotate_left 1
                  · (intro w hSw; (try dsimp only at hSw); obtain ⟨_, hSw1, hSw2, hSw3, hSw4⟩ := hSw; go_simp; try with_reducible rfl)
                  try simp only [Act.put, List.setIfInBounds_toArray, List.set_cons_zero, List.set_cons_succ]
                  refine takeL 3 (v := ?_) rfl (by kernel_rfl) (by kernel_rfl) (by kernel_rfl) (by kernel_rfl) (fun _ _ _ h => h) (by rfl) ?_ (by assumption) ?_
                  rotate_left 1
                  · (intro w hSw; (try dsimp only at hSw); obtain ⟨_, hSw1, hSw2, hSw3, hSw4⟩ := hSw; go_simp; try with_reducible rfl)
                  try simp only [Act.put, List.setIfInBounds_toArray, List.set_cons_zero, List.set_cons_succ]
                  refine takeL 4 (v := ?_) rfl (by kernel_rfl) (by kernel_rfl) (by kernel_rfl) (by kernel_rfl) (fun _ _ _ h => h) (by rfl) ?_ (by assumption) ?_
                  rotate_left 1
                  · (intro w hSw; (try dsimp only at hSw); obtain ⟨_, hSw1, hSw2, hSw3, hSw4⟩ := hSw; go_simp; try with_reducible rfl)
                  try simp only [Act.put, List.setIfInBounds_toArray, List.set_cons_zero, List.set_cons_succ]
                  refine takeL 5 (v := ?_) rfl (by kernel_rfl) (by kernel_rfl) (by kernel_rfl) (by kernel_rfl) (fun _ _ _ h => h) (by rfl) ?_ (by assumption) ?_
                  rotate_left 1
                  · (intro w hSw; (try dsimp only at hSw); obtain ⟨_, hSw1, hSw2, hSw3, hSw4⟩ := hSw; go_simp; try with_reducible rfl)
                  try simp only [Act.put, List.setIfInBounds_toArray, List.set_cons_zero, List.set_cons_succ]
                  refine takeL 6 (v := ?_) rfl (by kernel_rfl) (by kernel_rfl) (by kernel_rfl) (by kernel_rfl) (fun _ _ _ h => h) (by rfl) ?_ (by assumption) ?_
                  rotate_left 1
                  · (intro w hSw; (try dsimp only at hSw); obtain ⟨_, hSw1, hSw2, hSw3, hSw4⟩ := hSw; go_simp; try with_reducible rfl)
                  try simp only [Act.put, List.setIfInBounds_toArray, List.set_cons_zero, List.set_cons_succ]
                  refine takeL 7 (v := ?_) rfl (by kernel_rfl) (by kernel_rfl) (by kernel_rfl) (by kernel_rfl) (fun _ _ _ h => h) (by rfl) ?_ (by assumption) ?_
                  rotate_left 1
                  · (intro w hSw; (try dsimp only at hSw); obtain ⟨_, hSw1, hSw2, hSw3, hSw4⟩ := hSw; go_simp; try with_reducible rfl)
                  try simp only [Act.put, List.setIfInBounds_toArray, List.set_cons_zero, List.set_cons_succ]
                  refine takeL 8 (v := ?_) rfl (by kernel_rfl) (by kernel_rfl) (by kernel_rfl) (by kernel_rfl) (fun _ _ _ h => h) (by rfl) ?_ (by assumption) ?_
                  rotate_left 1
                  · (intro w hSw; (try dsimp only at hSw); obtain ⟨_, hSw1, hSw2, hSw3, hSw4⟩ := hSw; go_simp; try with_reducible rfl)
                  try simp only [Act.put, List.setIfInBounds_toArray, List.set_cons_zero, List.set_cons_succ]
                  refine takeL 9 (v := ?_) rfl (by kernel_rfl) (by kernel_rfl) (by kernel_rfl) (by kernel_rfl) (fun _ _ _ h => h) (by rfl) ?_ (by assumption) ?_
                  rotate_left 1
                  · (intro w hSw; (try dsimp only at hSw); obtain ⟨_, hSw1, hSw2, hSw3, hSw4⟩ := hSw; go_simp; try with_reducible rfl)
                  try simp only [Act.put, List.setIfInBounds_toArray, List.set_cons_zero, List.set_cons_succ]
                  refine oneL 10 (by kernel_rfl) rfl (fun K hK => ?_)
                  go_simp
                  refine hK.out _ _ ⟨hHeld1.1, fun _ => hHeld1.2⟩ ?_
                  clear hK hHeld
                  try simp only [Act.put, List.setIfInBounds_toArray, List.set_cons_zero, List.set_cons_succ]
                  obtain ⟨W5, hW5⟩ : ∃ W5, Wd.setCell ⟨gm, v.reg, none⟩ (.int .i64 m0) = W5 := ⟨_, rfl⟩
                  rw [hW5] at HCT1 HAC1 HVB1 HP HSMm hfv hHeld1 ⊢
                  clear hW5
                  have q3 := hHeld1.2.2.2.1
                  have HCT6 := Lib.hid (HCT1.out.cell HSMm.out.fvar HSMm.out.lowF (by decide) (by decide) (Value.slice (some ⟨gf, of, none⟩) 0 0) (i := 0))
                  have HAC6 := Lib.hid (own_keepG HAC1.out (setCell_grown W5 Fb 0 (Value.slice (some ⟨gf, of, none⟩) 0 0)) (fun j hj e => by cases e; obtain ⟨c2, h2⟩ := own_blkE HAC1.out hj; exact blk_blk_ne HSMm.out.fvar h2 (by decide) rfl))
                  have HVB6 := Lib.hid (HVB1.out.far (fun e => blk_blk_ne HVB1.out (show BlkAt W5 wr.heap.size _ _ from (by rw [e]; exact HSMm.out.fvar)) (by decide) rfl) (Value.slice (some ⟨gf, of, none⟩) 0 0) (p := ⟨Fb, 0, none⟩))
                  refine oneL 11 (by kernel_rfl) rfl (fun K hK => ?_)
                  go_simp
                  refine hK.out _ _ ⟨trivial, fun h => absurd h (by decide)⟩ ?_
                  clear hK hHeld1 q3 hfv
                  try simp only [Act.put, List.setIfInBounds_toArray, List.set_cons_zero, List.set_cons_succ]
                  obtain ⟨W6, hW6⟩ : ∃ W6, W5.setCell ⟨Fb, 0, none⟩ (Value.slice (some ⟨gf, of, none⟩) 0 0) = W6 := ⟨_, rfl⟩
                  rw [hW6] at HP HCT6 HAC6 HVB6 ⊢
                  clear hW6 HCT1 HAC1 HVB1 HSMm
                  refine doneL (by kernel_rfl) ?_ _
                  go_step
                  have v0 := HVB6.out.cell 0
                  have v1 := HVB6.out.cell 1
                  have v2 := HVB6.out.cell 2
                  simp only [List.getElem?_toArray, List.getElem?_cons_zero, List.getElem?_cons_succ] at v0 v1 v2
                  have HACA := Lib.hid (own_below HAC6.out ((Below.refl W6.heap.size W6).alloc (Nat.le_refl _) (.cells #[.int .i64 v.reg, .int .i64 v.frm, .int .i64 v.to] 44)))
                  have HPA := Lib.hid (HP.out.below ((Below.refl W6.heap.size W6).alloc (Nat.le_refl _) (.cells #[.int .i64 v.reg, .int .i64 v.frm, .int .i64 v.to] 44)))
                  have HCTA := Lib.hid (HCT6.out.below ((Below.refl W6.heap.size W6).alloc (Nat.le_refl _) (.cells #[.int .i64 v.reg, .int .i64 v.frm, .int .i64 v.to] 44)))
                  go_wp2_with (first
                    | (at_builtin; refine wpList_append_own_at _ rfl _ _ 40 rfl Kb 44 i1 (.agg #[.int .i64 0, .int .i64 0, .int .i64 0]) 3 24 Tryz.underlying40 HIN1.out y0 y1 y2 rfl (by decide) (.slice Aa us.length ca) us.length _ rfl HACA.out ⟨W6.heap.size, 0, none⟩ 1 1 (encItv v) rfl rfl (cells_new' _ (encItv v) _ _ rfl) (by simp [Value.oneCell', encItv]) (by unfold maxLen; omega) (by omega) HCTA.out.hK ?_
                       intro v4 w7 hrow7 hgr7 hiff7 hob7
                       obtain ⟨A7, c7, hv7, _, _, _⟩ := own_slice hrow7
                       subst hv7
                       have HROW7 := Lib.hid hrow7
                       have HG7 := Lib.hid hgr7
                       clear hrow7 hgr7 hiff7 hob7 v0 v1 v2)
                    | fail)
                  go_roundw
                  case rel =>
                    refine ⟨i + 1, (some ⟨gf, of, none⟩), 0, by omega, by go_num, Lib.hid ?_, Lib.hid ?_, Lib.hid ?_⟩
                    · rw [HNEXT.out, HSTEP.out]
                      exact HPA.out.kept HG7.out (fun j e => by obtain ⟨c2, h2⟩ := own_blkE HACA.out e; exact ⟨_, c2, h2, by decide, by decide, by decide⟩)
                    · rw [HNEXT.out, HSTEP.out]
                      simp only [List.length_append, List.length_cons, List.length_nil, List.flatMap_append, List.flatMap_cons, List.flatMap_nil, List.append_nil]
                      exact HROW7.out
                    · exact HCTA.out.high HG7.out (fun j e => (own_lt HACA.out e).1)
                  case measure => simp [intOf]; omega
                · have hp := hp2 hc1
                  have HP := Lib.hid hp
                  rw [hrl] at HP
                  have hc2 : 1 < cf2 := by omega
                  clear hp hp1 hp2
                  refine takeL 0 (v := ?_) rfl (by kernel_rfl) (by kernel_rfl) (by kernel_rfl) (by kernel_rfl) (fun _ _ _ h => h) (by rfl) ?_ (by assumption) ?_
                  rotate_left 1
                  · (intro w hSw; (try dsimp only at hSw); obtain ⟨_, hSw1, hSw2, hSw3, hSw4⟩ := hSw; go_simp; try with_reducible rfl)
                  try simp only [Act.put, List.setIfInBounds_toArray, List.set_cons_zero, List.set_cons_succ]
                  refine takeL 1 (v := ?_) rfl (by kernel_rfl) (by kernel_rfl) (by kernel_rfl) (by kernel_rfl) (fun _ _ _ h => h) (by rfl) ?_ (by assumption) ?_
                  rotate_left 1
                  · (intro w hSw; (try dsimp only at hSw); obtain ⟨_, hSw1, hSw2, hSw3, hSw4⟩ := hSw; go_simp; try with_reducible rfl)
                  try simp only [Act.put, List.setIfInBounds_toArray, List.set_cons_zero, List.set_cons_succ]
                  refine takeL 2 (v := ?_) rfl (by kernel_rfl) (by kernel_rfl) (by kernel_rfl) (by kernel_rfl) (fun _ _ _ h => h) (by rfl) ?_ (by assumption) ?_
                  rotate_left 1
                  · (intro w hSw; (try dsimp only at hSw); obtain ⟨_, hSw1, hSw2, hSw3, hSw4⟩ := hSw; go_simp; try with_reducible rfl)
                  try simp only [Act.put, List.setIfInBounds_toArray, List.set_cons_zero, List.set_cons_succ]
                  refine takeL 3 (v := ?_) rfl (by kernel_rfl) (by kernel_rfl) (by kernel_rfl) (by kernel_rfl) (fun _ _ _ h => h) (by rfl) ?_ (by assumption) ?_
                  rotate_left 1
                  · (intro w hSw; (try dsimp only at hSw); obtain ⟨_, hSw1, hSw2, hSw3, hSw4⟩ := hSw; go_simp; try with_reducible rfl)
                  try simp only [Act.put, List.setIfInBounds_toArray, List.set_cons_zero, List.set_cons_succ]
                  refine takeL 4 (v := ?_) rfl (by kernel_rfl) (by kernel_rfl) (by kernel_rfl) (by kernel_rfl) (fun _ _ _ h => h) (by rfl) ?_ (by assumption) ?_
                  rotate_left 1
                  · (intro w hSw; (try dsimp only at hSw); obtain ⟨_, hSw1, hSw2, hSw3, hSw4⟩ := hSw; go_simp; try with_reducible rfl)
                  try simp only [Act.put, List.setIfInBounds_toArray, List.set_cons_zero, List.set_cons_succ]
                  refine takeL 5 (v := ?_) rfl (by kernel_rfl) (by kernel_rfl) (by kernel_rfl) (by kernel_rfl) (fun _ _ _ h => h) (by rfl) ?_ (by assumption) ?_
                  rotate_left 1
                  · (intro w hSw; (try dsimp only at hSw); obtain ⟨_, hSw1, hSw2, hSw3, hSw4⟩ := hSw; go_simp; try with_reducible rfl)
                  try simp only [Act.put, List.setIfInBounds_toArray, List.set_cons_zero, List.set_cons_succ]
                  refine takeL 6 (v := ?_) rfl (by kernel_rfl) (by kernel_rfl) (by kernel_rfl) (by kernel_rfl) (fun _ _ _ h => h) (by rfl) ?_ (by assumption) ?_
                  rotate_left 1
                  · (intro w hSw; (try dsimp only at hSw); obtain ⟨_, hSw1, hSw2, hSw3, hSw4⟩ := hSw; go_simp; try with_reducible rfl)
                  try simp only [Act.put, List.setIfInBounds_toArray, List.set_cons_zero, List.set_cons_succ]
                  refine takeL 7 (v := ?_) rfl (by kernel_rfl) (by kernel_rfl) (by kernel_rfl) (by kernel_rfl) (fun _ _ _ h => h) (by rfl) ?_ (by assumption) ?_
                  rotate_left 1
                  · (intro w hSw; (try dsimp only at hSw); obtain ⟨_, hSw1, hSw2, hSw3, hSw4⟩ := hSw; go_simp; try with_reducible rfl)
                  try simp only [Act.put, List.setIfInBounds_toArray, List.set_cons_zero, List.set_cons_succ]
                  refine takeL 8 (v := ?_) rfl (by kernel_rfl) (by kernel_rfl) (by kernel_rfl) (by kernel_rfl) (fun _ _ _ h => h) (by rfl) ?_ (by assumption) ?_
                  rotate_left 1
                  · (intro w hSw; (try dsimp only at hSw); obtain ⟨_, hSw1, hSw2, hSw3, hSw4⟩ := hSw; go_simp; try with_reducible rfl)
                  try simp only [Act.put, List.setIfInBounds_toArray, List.set_cons_zero, List.set_cons_succ]
                  refine takeL 9 (v := ?_) rfl (by kernel_rfl) (by kernel_rfl) (by kernel_rfl) (by kernel_rfl) (fun _ _ _ h => h) (by rfl) ?_ (by assumption) ?_
                  rotate_left 1
                  · (intro w hSw; (try dsimp only at hSw); obtain ⟨_, hSw1, hSw2, hSw3, hSw4⟩ := hSw; go_simp; try with_reducible rfl)
                  try simp only [Act.put, List.setIfInBounds_toArray, List.set_cons_zero, List.set_cons_succ]
                  refine oneL 10 (by kernel_rfl) rfl (fun K hK => ?_)
                  go_simp
                  refine hK.out _ _ ⟨hHeld1.1, fun _ => hHeld1.2⟩ ?_
                  clear hK hHeld
                  try simp only [Act.put, List.setIfInBounds_toArray, List.set_cons_zero, List.set_cons_succ]
                  obtain ⟨W5, hW5⟩ : ∃ W5, Wd.setCell ⟨gm, v.reg, none⟩ (.int .i64 m0) = W5 := ⟨_, rfl⟩
                  rw [hW5] at HCT1 HAC1 HVB1 HP HSMm hfv hHeld1 ⊢
                  clear hW5
                  have q3 := hHeld1.2.2.2.1
                  have HCT6 := Lib.hid (HCT1.out.cell HSMm.out.fvar HSMm.out.lowF (by decide) (by decide) (Value.slice (some ⟨gf, of + 1, none⟩) (n1 - 1) (cf2 - 1)) (i := 0))
                  have HAC6 := Lib.hid (own_keepG HAC1.out (setCell_grown W5 Fb 0 (Value.slice (some ⟨gf, of + 1, none⟩) (n1 - 1) (cf2 - 1))) (fun j hj e => by cases e; obtain ⟨c2, h2⟩ := own_blkE HAC1.out hj; exact blk_blk_ne HSMm.out.fvar h2 (by decide) rfl))
                  have HVB6 := Lib.hid (HVB1.out.far (fun e => blk_blk_ne HVB1.out (show BlkAt W5 wr.heap.size _ _ from (by rw [e]; exact HSMm.out.fvar)) (by decide) rfl) (Value.slice (some ⟨gf, of + 1, none⟩) (n1 - 1) (cf2 - 1)) (p := ⟨Fb, 0, none⟩))
                  refine oneL 11 (by kernel_rfl) rfl (fun K hK => ?_)
                  go_simp
                  refine hK.out _ _ ⟨trivial, fun h => absurd h (by decide)⟩ ?_
                  clear hK hHeld1 q3 hfv
                  try simp only [Act.put, List.setIfInBounds_toArray, List.set_cons_zero, List.set_cons_succ]
                  obtain ⟨W6, hW6⟩ : ∃ W6, W5.setCell ⟨Fb, 0, none⟩ (Value.slice (some ⟨gf, of + 1, none⟩) (n1 - 1) (cf2 - 1)) = W6 := ⟨_, rfl⟩
                  rw [hW6] at HP HCT6 HAC6 HVB6 ⊢
                  clear hW6 HCT1 HAC1 HVB1 HSMm
                  refine doneL (by kernel_rfl) ?_ _
                  go_step
                  have v0 := HVB6.out.cell 0
                  have v1 := HVB6.out.cell 1
                  have v2 := HVB6.out.cell 2
                  simp only [List.getElem?_toArray, List.getElem?_cons_zero, List.getElem?_cons_succ] at v0 v1 v2
                  have HACA := Lib.hid (own_below HAC6.out ((Below.refl W6.heap.size W6).alloc (Nat.le_refl _) (.cells #[.int .i64 v.reg, .int .i64 v.frm, .int .i64 v.to] 44)))
                  have HPA := Lib.hid (HP.out.below ((Below.refl W6.heap.size W6).alloc (Nat.le_refl _) (.cells #[.int .i64 v.reg, .int .i64 v.frm, .int .i64 v.to] 44)))
                  have HCTA := Lib.hid (HCT6.out.below ((Below.refl W6.heap.size W6).alloc (Nat.le_refl _) (.cells #[.int .i64 v.reg, .int .i64 v.frm, .int .i64 v.to] 44)))
                  go_wp2_with (first
                    | (at_builtin; refine wpList_append_own_at _ rfl _ _ 40 rfl Kb 44 i1 (.agg #[.int .i64 0, .int .i64 0, .int .i64 0]) 3 24 Tryz.underlying40 HIN1.out y0 y1 y2 rfl (by decide) (.slice Aa us.length ca) us.length _ rfl HACA.out ⟨W6.heap.size, 0, none⟩ 1 1 (encItv v) rfl rfl (cells_new' _ (encItv v) _ _ rfl) (by simp [Value.oneCell', encItv]) (by unfold maxLen; omega) (by omega) HCTA.out.hK ?_
                       intro v4 w7 hrow7 hgr7 hiff7 hob7
                       obtain ⟨A7, c7, hv7, _, _, _⟩ := own_slice hrow7
                       subst hv7
                       have HROW7 := Lib.hid hrow7
                       have HG7 := Lib.hid hgr7
                       clear hrow7 hgr7 hiff7 hob7 v0 v1 v2)
                    | fail)
                  go_roundw
                  case rel =>
                    refine ⟨i + 1, (some ⟨gf, of + 1, none⟩), (cf2 - 1), by omega, by go_num, Lib.hid ?_, Lib.hid ?_, Lib.hid ?_⟩
                    · rw [HNEXT.out, HSTEP.out]
                      exact HPA.out.kept HG7.out (fun j e => by obtain ⟨c2, h2⟩ := own_blkE HACA.out e; exact ⟨_, c2, h2, by decide, by decide, by decide⟩)
                    · rw [HNEXT.out, HSTEP.out]
                      simp only [List.length_append, List.length_cons, List.length_nil, List.flatMap_append, List.flatMap_cons, List.flatMap_nil, List.append_nil]
                      exact HROW7.out
                    · exact HCTA.out.high HG7.out (fun j e => (own_lt HACA.out e).1)
                  case measure => simp [intOf]; omega
            · obtain rfl : i = l.length := by omega
              have q0 := HSM.out.plan.cell 0
              have q1 := HSM.out.plan.cell 1
              have q2 := HSM.out.plan.cell 2
              have HRE := Lib.hid (HRES.out.below HCTX.out.bel (by have := HRES.out.lt; have := HSZ.out.1; omega))
              have p0 := HRE.out.cell 0
              have p1 := HRE.out.cell 1
              have p2 := HRE.out.cell 2
              have f0 := HRE.out.frozen 0
              have f1 := HRE.out.frozen 1
              have f2 := HRE.out.frozen 2
              simp only [List.getElem?_toArray, List.getElem?_cons_zero, List.getElem?_cons_succ] at q0 q1 q2 p0 p1 p2
              go_wp2_with fail
              have HREF := Lib.hid (((HRE.out.set 0 (.slice Am r cm)).set 1 (.slice As r cs)).set 2 (.int .i64 (scanAt r G m l l.length).p.slots))
              simp only [List.setIfInBounds_toArray, List.set_cons_succ, List.set_cons_zero] at HREF
              have hbw : w.heap.size + 1 < Bb := by have := HRES.out.lt; have := HSZ.out.1; omega
              have hm1 := own_setc (own_setc (own_setc HSM.out.mach _ 0 (.slice Am r cm) hbw) _ 1 (.slice As r cs) hbw) _ 2 (.int .i64 (scanAt r G m l l.length).p.slots) hbw
              have hm2 := own_setc (own_setc (own_setc HSM.out.slot _ 0 (.slice Am r cm) hbw) _ 1 (.slice As r cs) hbw) _ 2 (.int .i64 (scanAt r G m l l.length).p.slots) hbw
              have hbf : Below w.heap.size w wr := HB1.out.trans (HCTX.out.bel.mono (by omega))
              refine bodyPost_ret (results_ct rfl _ _ (w.heap.size + 1) 29 _ (0, 0) _ rfl HREF.out Tryz.underlying29 rfl plan_size) rfl ⟨⟨ah, be, .slice Am r cm, .slice As r cs, (scanAt r G m l l.length).p, HFX.out, ?_, rfl, own_low hm1 (by omega), own_low hm2 (by omega)⟩, ((hbf.setCell (by simp) _).setCell (by simp) _).setCell (by simp) _⟩
              rw [HIL.out, scan_end, HRG.out.1, HRG.out.2]
              simp
end Go.Proofs.YtpahhcmiimllaaaGreatDoor
