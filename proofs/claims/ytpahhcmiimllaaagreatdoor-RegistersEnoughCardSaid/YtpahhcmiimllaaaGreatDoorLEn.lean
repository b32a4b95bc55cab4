/- DERIVED. RegistersEnough. -/
import Derived.Test.YtpahhcmiimllaaaGreatDoorLEn0
set_option linter.unusedSimpArgs false
set_option linter.unusedVariables false
namespace Go.Proofs.YtpahhcmiimllaaaGreatDoor
open Go.RowKit Go.Shelf
attribute [local go_sem] Oper.semAt_some

set_option maxRecDepth 100000 in
set_option maxHeartbeats 16000000 in
theorem enough_any (c : CodeL) (A : Option Addr) (n cc : Nat) (k : Int) (m : Nat) (w : World) (hC : Bods w A n c.bodies) (hn : n ≤ 1000000000000000) (hl : ∀ b ∈ c.bodies, b.code.length ≤ 1000000000000000) (hV : VarsR w) (hm : m < 256) :
    Calls Tryz.prog 4 #[codeV c A n cc, .int .i64 k, .int .u8 m] w fun e w' => e = .returned (.bool true) ∧ Below w.heap.size w w' := by
  have HB0 := Lib.hid ((Below.refl w.heap.size w).alloc (Nat.le_refl _) (.cells #[.int .i64 c.globals, .slice A n cc] 24))
  have HX0 := Lib.hid (BlkAt.new w 24 #[.int .i64 c.globals, .slice A n cc])
  obtain ⟨W0, hW0⟩ : ∃ W0, w.alloc (.cells #[.int .i64 c.globals, .slice A n cc] 24) = W0 := ⟨_, rfl⟩
  rw [hW0] at HB0 HX0
  have HC := Lib.hid (bods_below hC HB0.out)
  have HV := Lib.hid (hV.below HB0.out)
  have HSMA := Lib.hid (small_any c A n cc W0 HC.out hn hl)
  have HAW := Lib.hid (fun W (hW : Below W0.heap.size W0 W) => awake_any W (HV.out.below hW))
  have c0 := HX0.out.cell 0
  have c1 := HX0.out.cell 1
  simp only [List.getElem?_toArray, List.getElem?_cons_succ, List.getElem?_cons_zero] at c0 c1
  unfold codeV at HSMA ⊢
  cases hs : smallL c with
  | false =>
    rw [hs] at HSMA
    clear hC hl hV hs
    go_enter Tryz.func4, Tryz.ntmps4
    go_wp2_with (first
      | (go_at_call 9
         refine HSMA.out.mono ?_
         rintro e w1 ⟨rfl, hb1⟩
         have HB1 := Lib.hid hb1
         have HAW1 := Lib.hid (HAW.out w1 hb1)
         clear hb1 HSMA c0 c1)
      | (go_at_call 10
         refine HAW1.out.mono ?_
         rintro e w2 ⟨rfl, hb2⟩
         have HB2 := Lib.hid (HB1.out.trans (hb2.mono HB1.out.size))
         clear hb2 HAW1)
      | fail)
    go_ret
    exact ⟨rfl, HB0.out.trans (HB2.out.mono HB0.out.size)⟩
  | true =>
    rw [hs] at HSMA
    have hf := small_few hs
    clear hs
    by_cases he : errOf c k = 0
    · obtain ⟨hc0, kn, b, hk, hb⟩ := err_zero he
      subst hk
      have hbm := List.mem_of_getElem? hb
      have HR := Lib.hid (chk_right hc0 hbm)
      have HIV := Lib.hid (fun W (hW : Below W0.heap.size W0 W) => Intervals_ok c A n cc kn b W (bods_below HC.out hW) hf (HV.out.below hW) hc0 hb)
      have HAL := Lib.hid (fun W (mc : Nat) (hmc : mc ≤ 64) (hW : Below W0.heap.size W0 W) => Allocate_ok c A n cc kn mc b W (bods_below HC.out hW) hf (HV.out.below hW) hc0 hb hmc)
      unfold codeV at HIV HAL
      obtain ⟨q, hq⟩ : ∃ q, m % 60 = q := ⟨_, rfl⟩
      have hq6 : q < 60 := by omega
      have hw1 : IntKind.i64.wrap (m : Int) = (m : Int) := IntWalk.i64_in _ (by omega)
      have hrem : (m : Int) % 60 = (q : Int) := by omega
      have hq1 : IntKind.i64.wrap ((q : Int) + 1) = ((q + 1 : Nat) : Int) := by
        rw [show (q : Int) + 1 = ((q + 1 : Nat) : Int) by omega]
        exact IntWalk.i64_in _ (by omega)
      clear hC hl hV he hq hbm hc0 hb hf
      go_enter Tryz.func4, Tryz.ntmps4
      go_wp2_with (first
        | (go_at_call 9
           refine HSMA.out.mono ?_
           rintro e w1 ⟨rfl, hb1⟩
           have HB1 := Lib.hid hb1
           have HIV1 := Lib.hid (HIV.out w1 hb1)
           have hx1 := HX0.out.below hb1 HX0.out.lt
           have d0 := hx1.cell 0
           have d1 := hx1.cell 1
           simp only [List.getElem?_toArray, List.getElem?_cons_succ, List.getElem?_cons_zero] at d0 d1
           clear hb1 HSMA c0 c1 hx1 HIV)
        | (go_at_call 16
           refine HIV1.out.mono ?_
           rintro e w3 ⟨⟨ah, be, vI, hfx, rfl, hrow⟩, hb3⟩
           have HB3 := Lib.hid (HB1.out.trans (hb3.mono HB1.out.size))
           have HFX := Lib.hid hfx
           obtain ⟨l, hl⟩ : ∃ l, itvL b.code ah be b.regs.toNat = l := ⟨_, rfl⟩
           rw [hl] at hrow
           have HIL := Lib.hid hl
           obtain ⟨AI, cI, hvI, _, _, _⟩ := own_slice hrow
           subst hvI
           have HRI := Lib.hid (rd_own' encItv_len hrow)
           have HALa := Lib.hid (HAL.out w3 q (by omega) HB3.out)
           have hx1 := HX0.out.below HB3.out HX0.out.lt
           have e0 := hx1.cell 0
           have e1 := hx1.cell 1
           simp only [List.getElem?_toArray, List.getElem?_cons_succ, List.getElem?_cons_zero] at e0 e1
           clear hb3 HIV1 hfx hl hrow hx1 d0 d1)
        | (go_at_call 11
           refine HALa.out.mono ?_
           rintro e w4 ⟨⟨ah', be', vm, vs, pa, hfx, hp, rfl, hm, hms⟩, hb4⟩
           have HPA : Hid (pa = planOf b.regs.toNat b.args.toNat q l) := Lib.hid (by obtain ⟨rfl, rfl⟩ := fix_uniq hfx HFX.out; rw [hp, HIL.out])
           obtain ⟨Am, cm, hvm, _, _, _⟩ := own_slice hm
           subst hvm
           obtain ⟨As, cs, hvs, _, _, _⟩ := own_slice hms
           subst hvs
           have HMA := Lib.hid (rd_ints hm)
           have HSA := Lib.hid (rd_ints hms)
           have HB4 := Lib.hid (HB3.out.trans (hb4.mono HB3.out.size))
           have HRI4 := Lib.hid (HRI.out.below hb4)
           have HALb := Lib.hid (fun (W : World) (hW : Below w4.heap.size w4 W) => HAL.out W (q + 1) (by omega) (HB4.out.trans (hW.mono HB4.out.size)))
           have HXB := Lib.hid (HX0.out.below HB4.out HX0.out.lt)
           have HALbb := Lib.hid (HALb.out (w4.alloc (.cells #[.slice Am pa.mach.length cm, .slice As pa.slot.length cs, .int .i64 pa.slots] 29)) ((Below.refl _ _).alloc (Nat.le_refl _) _))
           have HBA4 := Lib.hid ((Below.refl w4.heap.size w4).alloc (Nat.le_refl _) (.cells #[.slice Am pa.mach.length cm, .slice As pa.slot.length cs, .int .i64 pa.slots] 29))
           have HPB4 := Lib.hid (BlkAt.new w4 29 #[.slice Am pa.mach.length cm, .slice As pa.slot.length cs, .int .i64 pa.slots])
           have hx2 := HXB.out.alloc (.cells #[.slice Am pa.mach.length cm, .slice As pa.slot.length cs, .int .i64 pa.slots] 29)
           have g0 := hx2.cell 0
           have g1 := hx2.cell 1
           simp only [List.getElem?_toArray, List.getElem?_cons_succ, List.getElem?_cons_zero] at g0 g1
           clear hb4 HALa hfx hp hm hms e0 e1 HRI HALb hx2)
        | (go_at_call 11
           go_loud (refine HALbb.out.mono ?_)
           rintro e w5 ⟨⟨ah', be', vm, vs, pb, hfx, hp, rfl, hm, hms⟩, hb5⟩
           have HPBb : Hid (pb = planOf b.regs.toNat b.args.toNat (q + 1) l) := Lib.hid (by obtain ⟨rfl, rfl⟩ := fix_uniq hfx HFX.out; rw [hp, HIL.out])
           obtain ⟨Bm, dm, hvm, _, _, _⟩ := own_slice hm
           subst hvm
           obtain ⟨Bs, ds, hvs, _, _, _⟩ := own_slice hms
           subst hvs
           have HMB := Lib.hid (rd_ints hm)
           have HSB := Lib.hid (rd_ints hms)
           have HB5 := Lib.hid (HB4.out.trans ((HBA4.out.trans (hb5.mono HBA4.out.size)).mono HB4.out.size))
           have HRI5 := Lib.hid ((HRI4.out.below HBA4.out).below hb5)
           have HMA5 := Lib.hid ((HMA.out.below HBA4.out).below hb5)
           have HSA5 := Lib.hid ((HSA.out.below HBA4.out).below hb5)
           have HPB5 := Lib.hid (HPB4.out.below hb5 HPB4.out.lt)
           clear hb5 HALbb hfx hp hm hms g0 g1 HRI4 HMA HSA HPB4 HBA4 HXB)
        | fail)
      have HOK : Hid (ItvOK b.regs.toNat l) := Lib.hid (by rw [← HIL.out]; exact itvs_ok (tchB b.code ah be) b.code.length b.regs.toNat)
      have HLL : Hid (l.length ≤ b.regs.toNat) := Lib.hid (by rw [← HIL.out]; exact itv_len _ _ _ _)
      have HTO : Hid (∀ v ∈ l, v.frm ≤ v.to) := Lib.hid (fun v hv => by rw [← HIL.out] at hv; exact (itv_le hv).1)
      have HR5 : Hid (b.regs.toNat ≤ 5000) := Lib.hid (by have := HR.out.regs; omega)
      have hpra := plan_right (args := b.args.toNat) (machine := q) HOK.out
      have hprb := plan_right (args := b.args.toNat) (machine := q + 1) HOK.out
      have hsle := spills_le (args := b.args.toNat) (machine := q) HOK.out
      rw [← HPA.out] at hpra hsle
      rw [← HPBb.out] at hprb hsle
      have hla1 := hpra.mlen
      have hla2 := hpra.slen
      have hlb1 := hprb.mlen
      have hlb2 := hprb.slen
      have HBP := Lib.hid ((Below.refl w5.heap.size w5).alloc (Nat.le_refl _) (.cells #[.slice Bm pb.mach.length dm, .slice Bs pb.slot.length ds, .int .i64 pb.slots] 29))
      have HPP := Lib.hid (BlkAt.new w5 29 #[.slice Bm pb.mach.length dm, .slice Bs pb.slot.length ds, .int .i64 pb.slots])
      have HPQ := Lib.hid (HPB5.out.below HBP.out HPB5.out.lt)
      have HBPd := Lib.hid (below_draw HBP.out 1)
      have hH6 : (fun w' : World => w'.cell? ⟨w5.heap.size, 0, none⟩ = some (.slice Bm pb.mach.length dm) ∧ w'.cell? ⟨w5.heap.size, 1, none⟩ = some (.slice Bs pb.slot.length ds) ∧ w'.cell? ⟨w5.heap.size, 2, none⟩ = some (.int .i64 pb.slots) ∧ w'.cell? ⟨w4.heap.size, 0, none⟩ = some (.slice Am pa.mach.length cm) ∧ w'.cell? ⟨w4.heap.size, 1, none⟩ = some (.slice As pa.slot.length cs) ∧ w'.cell? ⟨w4.heap.size, 2, none⟩ = some (.int .i64 pa.slots)) (w5.alloc (.cells #[.slice Bm pb.mach.length dm, .slice Bs pb.slot.length ds, .int .i64 pb.slots] 29)).drew := ⟨HPP.out.cell 0, HPP.out.cell 1, HPP.out.cell 2, HPQ.out.cell 0, HPQ.out.cell 1, HPQ.out.cell 2⟩
      refine wp_region_held_drew (S := fun w' => w'.cell? ⟨w5.heap.size, 0, none⟩ = some (.slice Bm pb.mach.length dm) ∧ w'.cell? ⟨w5.heap.size, 1, none⟩ = some (.slice Bs pb.slot.length ds) ∧ w'.cell? ⟨w5.heap.size, 2, none⟩ = some (.int .i64 pb.slots) ∧ w'.cell? ⟨w4.heap.size, 0, none⟩ = some (.slice Am pa.mach.length cm) ∧ w'.cell? ⟨w4.heap.size, 1, none⟩ = some (.slice As pa.slot.length cs) ∧ w'.cell? ⟨w4.heap.size, 2, none⟩ = some (.int .i64 pa.slots)) (by kernel_rfl) hH6 ?_
      intro hHeld
      have HMBd := Lib.hid (HMB.out.below HBPd.out)
      have HSBd := Lib.hid (HSB.out.below HBPd.out)
      have HMAd := Lib.hid (HMA5.out.below HBPd.out)
      have HSAd := Lib.hid (HSA5.out.below HBPd.out)
      have HRId := Lib.hid (HRI5.out.below HBPd.out)
      have HB6 := Lib.hid (HB5.out.trans (HBPd.out.mono HB5.out.size))
      change wpAnyH _ _ _ _ _ _ _ _ ((w5.alloc (.cells #[.slice Bm pb.mach.length dm, .slice Bs pb.slot.length ds, .int .i64 pb.slots] 29)).drewN 1)
      obtain ⟨Wd, hWd⟩ : ∃ Wd, (w5.alloc (.cells #[.slice Bm pb.mach.length dm, .slice Bs pb.slot.length ds, .int .i64 pb.slots] 29)).drewN 1 = Wd := ⟨_, rfl⟩
      rw [show (w5.alloc (.cells #[.slice Bm pb.mach.length dm, .slice Bs pb.slot.length ds, .int .i64 pb.slots] 29)).drew = Wd from hWd] at hHeld
      rw [hWd] at HMBd HSBd HMAd HSAd HRId HB6 ⊢
      clear hWd hH6 HBP HBPd HPP HPQ HMB HSB HMA5 HSA5 HRI5 HB5 HPB5 hpra hprb
      have HSPB := Lib.hid (Spills_any Bm Bs dm ds pb Wd HMBd.out HSBd.out (by have := HR5.out; omega) (by have := HR5.out; omega))
      have HSPA := Lib.hid (fun W (hW : Below Wd.heap.size Wd W) => Spills_any Am As cm cs pa W (HMAd.out.below hW) (HSAd.out.below hW) (by have := HR5.out; omega) (by have := HR5.out; omega))
      obtain ⟨sa, hsa⟩ : ∃ sa, spillsN pa = sa := ⟨_, rfl⟩
      obtain ⟨sb, hsb⟩ : ∃ sb, spillsN pb = sb := ⟨_, rfl⟩
      rw [hsa] at hsle HSPA
      rw [hsb] at hsle HSPB
      have hns : ¬ sa < sb := by omega
      clear hsa hsb hsle hla1 hla2 hlb1 hlb2
      refine take_drop 0 (v := ?_) rfl (by kernel_rfl) (by kernel_rfl) (by kernel_rfl) (fun _ _ _ h => h) (by rfl) ?_ (by assumption) ?_
      rotate_left 1
      · (intro w hSw; (try dsimp only at hSw); obtain ⟨hSw1, hSw2, hSw3, hSw4, hSw5, hSw6⟩ := hSw; go_simp; try with_reducible rfl)
      try simp only [Act.put, List.setIfInBounds_toArray, List.set_cons_zero, List.set_cons_succ]
      refine take_drop 1 (v := ?_) rfl (by kernel_rfl) (by kernel_rfl) (by kernel_rfl) (fun _ _ _ h => h) (by rfl) ?_ (by assumption) ?_
      rotate_left 1
      · (intro w hSw; (try dsimp only at hSw); obtain ⟨hSw1, hSw2, hSw3, hSw4, hSw5, hSw6⟩ := hSw; go_simp; try with_reducible rfl)
      try simp only [Act.put, List.setIfInBounds_toArray, List.set_cons_zero, List.set_cons_succ]
      refine take_drop 2 (v := ?_) rfl (by kernel_rfl) (by kernel_rfl) (by kernel_rfl) (fun _ _ _ h => h) (by rfl) ?_ (by assumption) ?_
      rotate_left 1
      · (intro w hSw; (try dsimp only at hSw); obtain ⟨hSw1, hSw2, hSw3, hSw4, hSw5, hSw6⟩ := hSw; go_simp; try with_reducible rfl)
      try simp only [Act.put, List.setIfInBounds_toArray, List.set_cons_zero, List.set_cons_succ]
      refine take_drop 3 (v := ?_) rfl (by kernel_rfl) (by kernel_rfl) (by kernel_rfl) (fun _ _ _ h => h) (by rfl) ?_ (by assumption) ?_
      rotate_left 1
      · (intro w hSw; (try dsimp only at hSw); obtain ⟨hSw1, hSw2, hSw3, hSw4, hSw5, hSw6⟩ := hSw; go_simp; try with_reducible rfl)
      try simp only [Act.put, List.setIfInBounds_toArray, List.set_cons_zero, List.set_cons_succ]
      refine take_drop 4 (v := ?_) rfl (by kernel_rfl) (by kernel_rfl) (by kernel_rfl) (fun _ _ _ h => h) (by rfl) ?_ (by assumption) ?_
      rotate_left 1
      · (intro w hSw; (try dsimp only at hSw); obtain ⟨hSw1, hSw2, hSw3, hSw4, hSw5, hSw6⟩ := hSw; go_simp; try with_reducible rfl)
      try simp only [Act.put, List.setIfInBounds_toArray, List.set_cons_zero, List.set_cons_succ]
      refine take_drop 5 (v := ?_) rfl (by kernel_rfl) (by kernel_rfl) (by kernel_rfl) (fun _ _ _ h => h) (by rfl) ?_ (by assumption) ?_
      rotate_left 1
      · (intro w hSw; (try dsimp only at hSw); obtain ⟨hSw1, hSw2, hSw3, hSw4, hSw5, hSw6⟩ := hSw; go_simp; try with_reducible rfl)
      try simp only [Act.put, List.setIfInBounds_toArray, List.set_cons_zero, List.set_cons_succ]
      refine take_drop 6 (v := ?_) rfl (by kernel_rfl) (by kernel_rfl) (by kernel_rfl) (fun _ _ _ h => h) (by rfl) ?_ (by assumption) ?_
      rotate_left 1
      · (intro w hSw; (try dsimp only at hSw); obtain ⟨hSw1, hSw2, hSw3, hSw4, hSw5, hSw6⟩ := hSw; go_simp; try with_reducible rfl)
      try simp only [Act.put, List.setIfInBounds_toArray, List.set_cons_zero, List.set_cons_succ]
      refine take_drop 7 (v := ?_) rfl (by kernel_rfl) (by kernel_rfl) (by kernel_rfl) (fun _ _ _ h => h) (by rfl) ?_ (by assumption) ?_
      rotate_left 1
      · (intro w hSw; (try dsimp only at hSw); obtain ⟨hSw1, hSw2, hSw3, hSw4, hSw5, hSw6⟩ := hSw; go_simp; try with_reducible rfl)
      try simp only [Act.put, List.setIfInBounds_toArray, List.set_cons_zero, List.set_cons_succ]
      refine take_drop 9 (v := ?_) rfl (by kernel_rfl) (by kernel_rfl) (by kernel_rfl) (fun _ _ _ h => h) (by rfl) ?_ (by assumption) ?_
      rotate_left 1
      · (intro w hSw; (try dsimp only at hSw); obtain ⟨hSw1, hSw2, hSw3, hSw4, hSw5, hSw6⟩ := hSw; go_simp; try with_reducible rfl)
      try simp only [Act.put, List.setIfInBounds_toArray, List.set_cons_zero, List.set_cons_succ]
      refine wpAnyH_ready (rs := [8]) (by kernel_rfl) (by simp) ?_
      refine ready_drop rfl (fun K hK => ?_) AllReadyH.nil
      go_simp
      go_at_call 14
      refine HSPB.out.mono ?_
      rintro e w7 ⟨rfl, hb7⟩
      have HB7 := Lib.hid hb7
      have HSPA7 := Lib.hid (HSPA.out w7 hb7)
      refine hK.out _ _ ⟨cell_below hb7 (Nat.le_refl _) hHeld.1, cell_below hb7 (Nat.le_refl _) hHeld.2.1, cell_below hb7 (Nat.le_refl _) hHeld.2.2.1, cell_below hb7 (Nat.le_refl _) hHeld.2.2.2.1, cell_below hb7 (Nat.le_refl _) hHeld.2.2.2.2.1, cell_below hb7 (Nat.le_refl _) hHeld.2.2.2.2.2⟩ (fun hHeld7 => ?_)
      clear hK hHeld hb7 HSPA HSPB
      try simp only [Act.put, List.setIfInBounds_toArray, List.set_cons_zero, List.set_cons_succ]
      refine wpAnyH_ready (rs := [10]) (by kernel_rfl) (by simp) ?_
      refine ready_drop rfl (fun K hK => ?_) AllReadyH.nil
      go_simp
      go_at_call 14
      refine HSPA7.out.mono ?_
      rintro e w8 ⟨rfl, hb8⟩
      have HB8 := Lib.hid (HB7.out.trans (hb8.mono HB7.out.size))
      refine hK.out _ _ ⟨cell_below hb8 (Nat.le_refl _) hHeld7.1, cell_below hb8 (Nat.le_refl _) hHeld7.2.1, cell_below hb8 (Nat.le_refl _) hHeld7.2.2.1, cell_below hb8 (Nat.le_refl _) hHeld7.2.2.2.1, cell_below hb8 (Nat.le_refl _) hHeld7.2.2.2.2.1, cell_below hb8 (Nat.le_refl _) hHeld7.2.2.2.2.2⟩ (fun hHeld8 => ?_)
      clear hK hHeld7 hb8 HSPA7 HB7
      try simp only [Act.put, List.setIfInBounds_toArray, List.set_cons_zero, List.set_cons_succ]
      refine take_drop 11 (v := ?_) rfl (by kernel_rfl) (by kernel_rfl) (by kernel_rfl) (fun _ _ _ h => h) (by rfl) ?_ (by assumption) ?_
      rotate_left 1
      · (intro w hSw; (try dsimp only at hSw); obtain ⟨hSw1, hSw2, hSw3, hSw4, hSw5, hSw6⟩ := hSw; go_simp; try with_reducible rfl)
      try simp only [Act.put, List.setIfInBounds_toArray, List.set_cons_zero, List.set_cons_succ]
      refine take_drop 12 (v := ?_) rfl (by kernel_rfl) (by kernel_rfl) (by kernel_rfl) (fun _ _ _ h => h) (by rfl) ?_ (by assumption) ?_
      rotate_left 1
      · (intro w hSw; (try dsimp only at hSw); obtain ⟨hSw1, hSw2, hSw3, hSw4, hSw5, hSw6⟩ := hSw; go_simp; try with_reducible rfl)
      try simp only [Act.put, List.setIfInBounds_toArray, List.set_cons_zero, List.set_cons_succ]
      clear hHeld8
      refine wpAnyH_done (by kernel_rfl) ?_ _
      go_wp2_with fail
      have HRI8 := Lib.hid (HRId.out.below HB8.out)
      have HB9 := Lib.hid (HB6.out.trans (HB8.out.mono HB6.out.size))
      have hll : l.length ≤ 5000 := Nat.le_trans HLL.out HR5.out
      clear HRId HMBd HSBd HMAd HSAd hns HB8
      go_loopw [13, 68] (fun mo iv wr => ∃ i : Nat, i ≤ l.length ∧ iv = .int .i64 i ∧ mo = .int .i64 (mostK l i) ∧ Hid (Below w8.heap.size w8 wr)) (fun _ iv _ => l.length - (intOf iv).toNat)
      case atStart => exact ⟨0, by omega, rfl, rfl, Lib.hid (Below.refl _ _)⟩
      case round =>
        obtain ⟨i, hil, rfl, rfl, HBW⟩ := hrel
        by_cases hlt : i < l.length
        · obtain ⟨v, hv⟩ := get_some hlt
          have HMK := Lib.hid (mostK_succ hv)
          obtain ⟨gI, oI, hAI, _, hc⟩ := (HRI8.out.below HBW.out).at_ i v hv
          have HAI := Lib.hid hAI
          subst hAI
          have c0 := hc 0 _ rfl
          have c1 := hc 1 _ rfl
          have c2 := hc 2 _ rfl
          rw [Nat.add_zero] at c0
          have k0 : (0 : Int) ≤ (i : Int) := by omega
          have k1 : (i : Int) < (l.length : Int) := by omega
          have wr1 : IntKind.i64.wrap ((i : Int) + 1) = (i : Int) + 1 := IntWalk.i64_in _ (by omega)
          clear hc hv
          go_wp2_with fail
          clear c0 c1 c2
          have HBN := Lib.hid ((Below.refl wr.heap.size wr).alloc (Nat.le_refl _) (.cells #[.int .i64 v.reg, .int .i64 v.frm, .int .i64 v.to] 44))
          have HBV := Lib.hid (BlkAt.new wr 44 #[.int .i64 v.reg, .int .i64 v.frm, .int .i64 v.to])
          obtain ⟨W2, hW2⟩ : ∃ W2, wr.alloc (.cells #[.int .i64 v.reg, .int .i64 v.frm, .int .i64 v.to] 44) = W2 := ⟨_, rfl⟩
          rw [hW2] at HBN HBV ⊢
          have HBX := Lib.hid (HBW.out.trans (HBN.out.mono HBW.out.size))
          obtain ⟨Vb, hVb⟩ : ∃ Vb, wr.heap.size = Vb := ⟨_, rfl⟩
          rw [hVb] at HBV ⊢
          clear hW2 hVb HBN
          go_loopw [16, 74] (fun kk jv wr => ∃ j : Nat, j ≤ l.length ∧ jv = .int .i64 j ∧ kk = .int .i64 (overK l v j) ∧ Hid (Below W2.heap.size W2 wr)) (fun _ jv _ => l.length - (intOf jv).toNat)
          case atStart => exact ⟨0, by omega, rfl, rfl, Lib.hid (Below.refl _ _)⟩
          case round =>
            obtain ⟨j, hjl, rfl, rfl, HBJ⟩ := hrel
            by_cases hltj : j < l.length
            · obtain ⟨u, hu⟩ := get_some hltj
              have HOK := Lib.hid (overK_succ (v := v) hu)
              have HBY := Lib.hid (HBX.out.trans (HBJ.out.mono HBX.out.size))
              obtain ⟨_, _, hAI, _, hc⟩ := (HRI8.out.below HBY.out).at_ j u hu
              cases hAI
              have c0 := hc 0 _ rfl
              have c1 := hc 1 _ rfl
              have c2 := hc 2 _ rfl
              rw [Nat.add_zero] at c0
              have HVJ := Lib.hid (HBV.out.below HBJ.out HBV.out.lt)
              have hvl := HVJ.out.lt
              have v1 := HVJ.out.cell 1
              simp only [List.getElem?_toArray, List.getElem?_cons_succ, List.getElem?_cons_zero] at v1
              have k2 : (0 : Int) ≤ (j : Int) := by omega
              have k3 : (j : Int) < (l.length : Int) := by omega
              have wr2 : IntKind.i64.wrap ((j : Int) + 1) = (j : Int) + 1 := IntWalk.i64_in _ (by omega)
              have hov := overK_le l v j
              have wr3 : IntKind.i64.wrap ((overK l v j : Int) + 1) = (overK l v j : Int) + 1 := IntWalk.i64_in _ (by omega)
              have HBZ := Lib.hid (HBJ.out.alloc HBJ.out.size (.cells #[.int .i64 u.reg, .int .i64 u.frm, .int .i64 u.to] 44))
              clear hc hu hov
              generalize overK l v j = ov at *
              by_cases h1 : u.frm ≤ v.frm
              · by_cases h2 : v.frm ≤ u.to
                · rw [decide_eq_true h1, decide_eq_true h2, Bool.and_self, if_pos rfl] at HOK
                  go_wp2_with fail
                  go_roundw
                  case rel => exact ⟨j + 1, by omega, by go_num, by rw [HOK.out]; rfl, HBZ⟩
                  case measure => simp [intOf]; omega
                · rw [decide_eq_true h1, decide_eq_false h2, Bool.and_false, if_neg (by simp)] at HOK
                  go_wp2_with fail
                  go_roundw
                  case rel => exact ⟨j + 1, by omega, by go_num, by rw [HOK.out]; rfl, HBZ⟩
                  case measure => simp [intOf]; omega
              · rw [decide_eq_false h1, Bool.false_and, if_neg (by simp)] at HOK
                go_wp2_with fail
                go_roundw
                case rel => exact ⟨j + 1, by omega, by go_num, by rw [HOK.out]; rfl, HBZ⟩
                case measure => simp [intOf]; omega
            · obtain rfl : j = l.length := by omega
              rw [overK_all]
              have hmax : max (mostK l i : Int) (overlap l v : Int) = ((max (mostK l i) (overlap l v) : Nat) : Int) := by omega
              rw [← HMK.out] at hmax
              have HBY := Lib.hid (HBX.out.trans (HBJ.out.mono HBX.out.size))
              clear HMK
              generalize overlap l v = ov at *
              generalize mostK l i = mo at *
              go_wp2_with fail
              go_roundw
              case rel => exact ⟨i + 1, by omega, by go_num, rfl, HBY⟩
              case measure => simp [intOf]; omega
        · obtain rfl : i = l.length := by omega
          have hml := mostK_le (l := l) l.length
          have HMO := Lib.hid (most_all l)
          obtain ⟨mo, hmo⟩ : ∃ mo, mostK l l.length = mo := ⟨_, rfl⟩
          rw [hmo] at hml HMO ⊢
          clear hmo
          have HBY := Lib.hid (HB9.out.trans (HBW.out.mono HB9.out.size))
          have hx1 := HX0.out.below HBY.out HX0.out.lt
          have e0 := hx1.cell 0
          have e1 := hx1.cell 1
          simp only [List.getElem?_toArray, List.getElem?_cons_succ, List.getElem?_cons_zero] at e0 e1
          clear hx1
          by_cases h64 : 64 < mo
          · have HAWR := Lib.hid (HAW.out wr HBY.out)
            go_wp2_with (first
              | (go_at_call 10
                 refine HAWR.out.mono ?_
                 rintro e w9 ⟨rfl, hb9⟩
                 have HBF := Lib.hid (HBY.out.trans (hb9.mono HBY.out.size))
                 clear hb9 HAWR)
              | fail)
            go_ret
            exact ⟨rfl, HB0.out.trans (HBF.out.mono HB0.out.size)⟩
          · have HALc := Lib.hid (HAL.out wr mo (by omega) HBY.out)
            have HRIR := Lib.hid (HRI8.out.below HBW.out)
            go_wp2_with (first
              | (go_at_call 11
                 refine HALc.out.mono ?_
                 rintro e w9 ⟨⟨ah', be', vm, vs, pc, hfx, hp, rfl, hm, hms⟩, hb9⟩
                 have HPC : Hid (pc = planOf b.regs.toNat b.args.toNat mo l) := Lib.hid (by obtain ⟨rfl, rfl⟩ := fix_uniq hfx HFX.out; rw [hp, HIL.out])
                 obtain ⟨Cm, fm, hvm, _, _, _⟩ := own_slice hm
                 subst hvm
                 obtain ⟨Cs, fs, hvs, _, _, _⟩ := own_slice hms
                 subst hvs
                 have HMC := Lib.hid (rd_ints hm)
                 have HBC := Lib.hid (HBY.out.trans (hb9.mono HBY.out.size))
                 have HRI9 := Lib.hid (HRIR.out.below hb9)
                 clear hb9 HALc hfx hp hm hms e0 e1 HRIR)
              | fail)
            have HBQ := Lib.hid ((Below.refl w9.heap.size w9).alloc (Nat.le_refl _) (.cells #[.slice Cm pc.mach.length fm, .slice Cs pc.slot.length fs, .int .i64 pc.slots] 29))
            have HPQ := Lib.hid (BlkAt.new w9 29 #[.slice Cm pc.mach.length fm, .slice Cs pc.slot.length fs, .int .i64 pc.slots])
            have hprc := plan_right (args := b.args.toNat) (machine := mo) HOK.out
            rw [← HPC.out] at hprc
            have hlc := hprc.mlen
            have HKEEP : Hid (∀ u ∈ l, 0 ≤ pc.mach.getD u.reg (-1)) := Lib.hid (by rw [HPC.out]; exact enough_all HOK.out HTO.out HMO.out)
            have HIN : Hid (∀ u ∈ l, u.reg < b.regs.toNat) := Lib.hid HOK.out.1
            obtain ⟨Wq, hWq⟩ : ∃ Wq, w9.alloc (.cells #[.slice Cm pc.mach.length fm, .slice Cs pc.slot.length fs, .int .i64 pc.slots] 29) = Wq := ⟨_, rfl⟩
            rw [hWq] at HBQ HPQ ⊢
            have HMQ := Lib.hid (HMC.out.below HBQ.out)
            have HRQ := Lib.hid (HRI9.out.below HBQ.out)
            have HBX := Lib.hid (HBC.out.trans (HBQ.out.mono HBC.out.size))
            obtain ⟨Pc, hPc⟩ : ∃ Pc, w9.heap.size = Pc := ⟨_, rfl⟩
            rw [hPc] at HPQ ⊢
            obtain ⟨np, hnp⟩ : ∃ np, pc.mach.length = np := ⟨_, rfl⟩
            rw [hnp] at HMQ HPQ hlc ⊢
            have HNP := Lib.hid hnp
            clear hWq hPc hprc HMC HRI9 HBQ hnp
            go_loopw [111] (fun iv wr => ∃ i : Nat, i ≤ l.length ∧ iv = .int .i64 i ∧ Hid (Below Wq.heap.size Wq wr)) (fun iv _ => l.length - (intOf iv).toNat)
            case atStart => exact ⟨0, by omega, rfl, Lib.hid (Below.refl _ _)⟩
            case round =>
              obtain ⟨i, hil, rfl, HBJ⟩ := hrel
              have HBF := Lib.hid (HBX.out.trans (HBJ.out.mono HBX.out.size))
              by_cases hlt : i < l.length
              · obtain ⟨v, hv⟩ := get_some hlt
                have hvm := List.mem_of_getElem? hv
                have hvr := HIN.out v hvm
                have hkp := HKEEP.out v hvm
                obtain ⟨gI, oI, hAI, _, hc⟩ := (HRQ.out.below HBJ.out).at_ i v hv
                subst hAI
                have c0 := hc 0 _ rfl
                have c1 := hc 1 _ rfl
                have c2 := hc 2 _ rfl
                rw [Nat.add_zero] at c0
                obtain ⟨y, hy⟩ := get_some (xs := pc.mach) (k := v.reg) (by rw [HNP.out, hlc]; exact hvr)
                have hy0 : ¬ y < 0 := by
                  rw [List.getD_eq_getElem?_getD, hy] at hkp
                  have : 0 ≤ y := hkp
                  omega
                obtain ⟨gM, oM, hCm, hgl, hcm⟩ := (HMQ.out.below HBJ.out).at_ v.reg y hy
                subst hCm
                have d0 := hcm 0 _ rfl
                rw [Nat.add_zero, Nat.mul_one] at d0
                have HPJ := Lib.hid (HPQ.out.below HBJ.out HPQ.out.lt)
                have hpl := HPJ.out.lt
                have p0 := HPJ.out.cell 0
                simp only [List.getElem?_toArray, List.getElem?_cons_succ, List.getElem?_cons_zero] at p0
                have k0 : (0 : Int) ≤ (i : Int) := by omega
                have k1 : (i : Int) < (l.length : Int) := by omega
                have k2 : (0 : Int) ≤ (v.reg : Int) := by omega
                have k3 : (v.reg : Int) < (np : Int) := by omega
                have k4 : ¬ np ≤ v.reg := by omega
                have wr1 : IntKind.i64.wrap ((i : Int) + 1) = (i : Int) + 1 := IntWalk.i64_in _ (by omega)
                have HBZ := Lib.hid (HBJ.out.alloc HBJ.out.size (.cells #[.int .i64 v.reg, .int .i64 v.frm, .int .i64 v.to] 44))
                clear hc hcm hv hvm hy hkp
                go_wp2_with fail
                go_roundw
                case rel => exact ⟨_, _, .int .i64 ((i : Int) + 1), ⟨i + 1, by omega, by go_num⟩, rfl, rfl, rfl⟩
                case measure => simp [intOf]; omega
              · have HAWR := Lib.hid (HAW.out wr HBF.out)
                obtain rfl : i = l.length := by omega
                go_wp2_with (first
                  | (go_at_call 10
                     refine HAWR.out.mono ?_
                     rintro e w10 ⟨rfl, hb10⟩
                     have HBG := Lib.hid (HBF.out.trans (hb10.mono HBF.out.size))
                     clear hb10 HAWR)
                  | fail)
                go_ret
                exact ⟨rfl, HB0.out.trans (HBG.out.mono HB0.out.size)⟩
    · have HIE := Lib.hid (fun W (hW : Below W0.heap.size W0 W) => Intervals_err c A n cc k W (bods_below HC.out hW) hf (HV.out.below hW) he)
      unfold codeV at HIE
      have fq := errs_pos he
      generalize errOf c k = q at *
      clear hC hl hV he hf
      go_enter Tryz.func4, Tryz.ntmps4
      go_wp2_with (first
        | (go_at_call 9
           refine HSMA.out.mono ?_
           rintro e w1 ⟨rfl, hb1⟩
           have HB1 := Lib.hid hb1
           have HIE1 := Lib.hid (HIE.out w1 hb1)
           have hx1 := HX0.out.below hb1 HX0.out.lt
           have d0 := hx1.cell 0
           have d1 := hx1.cell 1
           simp only [List.getElem?_toArray, List.getElem?_cons_succ, List.getElem?_cons_zero] at d0 d1
           clear hb1 HSMA c0 c1 hx1 HIE)
        | (go_at_call 16
           refine HIE1.out.mono ?_
           rintro e w3 ⟨rfl, hb3⟩
           have HB3 := Lib.hid (HB1.out.trans (hb3.mono HB1.out.size))
           have HAW3 := Lib.hid (HAW.out w3 HB3.out)
           clear hb3 HIE1 d0 d1)
        | (go_at_call 10
           refine HAW3.out.mono ?_
           rintro e w2 ⟨rfl, hb2⟩
           have HB2 := Lib.hid (HB3.out.trans (hb2.mono HB3.out.size))
           clear hb2 HAW3)
        | fail)
      go_ret
      exact ⟨rfl, HB0.out.trans (HB2.out.mono HB0.out.size)⟩
end Go.Proofs.YtpahhcmiimllaaaGreatDoor
