/- DERIVED. RegistersInside. -/
import Derived.Test.YtpahhcmiimllaaaGreatDoorLIn0
set_option linter.unusedSimpArgs false
set_option linter.unusedVariables false
namespace Go.Proofs.YtpahhcmiimllaaaGreatDoor
open Go.RowKit Go.Shelf

set_option maxRecDepth 100000 in
set_option maxHeartbeats 16000000 in
theorem inside_any (c : CodeL) (A : Option Addr) (n cc : Nat) (k : Int) (w : World) (hC : Bods w A n c.bodies) (hn : n ≤ 1000000000000000) (hl : ∀ b ∈ c.bodies, b.code.length ≤ 1000000000000000) (hV : VarsR w) :
    Calls Tryz.prog 5 #[codeV c A n cc, .int .i64 k] w fun e w' => e = .returned (.bool true) ∧ Below w.heap.size w w' := by
  have HB0 := Lib.hid ((Below.refl w.heap.size w).alloc (Nat.le_refl _) (.cells #[.int .i64 c.globals, .slice A n cc] 24))
  have HX0 := Lib.hid (BlkAt.new w 24 #[.int .i64 c.globals, .slice A n cc])
  obtain ⟨W0, hW0⟩ : ∃ W0, w.alloc (.cells #[.int .i64 c.globals, .slice A n cc] 24) = W0 := ⟨_, rfl⟩
  rw [hW0] at HB0 HX0
  have HC := Lib.hid (bods_below hC HB0.out)
  have HV := Lib.hid (hV.below HB0.out)
  have HSMA := Lib.hid (small_any c A n cc W0 HC.out hn hl)
  have HAW := Lib.hid (fun W (hW : Below W0.heap.size W0 W) => awake_any W (HV.out.below hW))
  have c0 := HX0.out.cell 0
  have c1 := HX0.out.cell 1
  simp only [List.getElem?_toArray, List.getElem?_cons_succ, List.getElem?_cons_zero] at c0 c1
  unfold codeV at HSMA ⊢
  cases hs : smallL c with
  | false =>
    rw [hs] at HSMA
    clear hC hl hV hs
    go_enter Tryz.func5, Tryz.ntmps5
    go_wp2_with (first
      | (go_at_call 9
         refine HSMA.out.mono ?_
         rintro e w1 ⟨rfl, hb1⟩
         have HB1 := Lib.hid hb1
         have HAW1 := Lib.hid (HAW.out w1 hb1)
         clear hb1 HSMA c0 c1)
      | (go_at_call 10
         refine HAW1.out.mono ?_
         rintro e w2 ⟨rfl, hb2⟩
         have HB2 := Lib.hid (HB1.out.trans (hb2.mono HB1.out.size))
         clear hb2 HAW1)
      | fail)
    go_ret
    exact ⟨rfl, HB0.out.trans (HB2.out.mono HB0.out.size)⟩
  | true =>
    rw [hs] at HSMA
    have hf := small_few hs
    clear hs
    by_cases he : errOf c k = 0
    · obtain ⟨hc0, kn, b, hk, hb⟩ := err_zero he
      subst hk
      have hbm := List.mem_of_getElem? hb
      have HR := Lib.hid (chk_right hc0 hbm)
      have HIV := Lib.hid (fun W (hW : Below W0.heap.size W0 W) => Intervals_ok c A n cc kn b W (bods_below HC.out hW) hf (HV.out.below hW) hc0 hb)
      have HLI := Lib.hid (fun W (hW : Below W0.heap.size W0 W) => Live_ok c A n cc kn b W (bods_below HC.out hW) hf (HV.out.below hW) hc0 hb)
      unfold codeV at HIV HLI
      have HBB := Lib.hid hb
      have HLEN : Hid (b.code.length ≤ 1000) := Lib.hid (hf.len b hbm)
      have HSH := Lib.hid (hf.short b hbm)
      have hkn : kn < n := by have := (List.getElem?_eq_some_iff.1 hb).1; have := hC.len; omega
      clear hC hl hV he hbm hc0 hb hf
      go_enter Tryz.func5, Tryz.ntmps5
      go_wp2_with (first
        | (go_at_call 9
           refine HSMA.out.mono ?_
           rintro e w1 ⟨rfl, hb1⟩
           have HB1 := Lib.hid hb1
           have HLI1 := Lib.hid (HLI.out w1 hb1)
           have hx1 := HX0.out.below hb1 HX0.out.lt
           have d0 := hx1.cell 0
           have d1 := hx1.cell 1
           simp only [List.getElem?_toArray, List.getElem?_cons_succ, List.getElem?_cons_zero] at d0 d1
           clear hb1 HSMA c0 c1 hx1 HLI)
        | (go_at_call 17
           refine HLI1.out.mono ?_
           rintro e w3 ⟨⟨ah, be, vL, hfx, rfl, hrow⟩, hb3⟩
           have HB3 := Lib.hid (HB1.out.trans (hb3.mono HB1.out.size))
           have HFX := Lib.hid hfx
           obtain ⟨Lv, cl, hvL, hlv⟩ := live_rows hrow (fun ws hws => by
             have h1 := elems_len ws
             have h2 := (hfx.wb ws hws).1
             have := HR.out.regs
             omega)
           subst hvL
           have HLV := Lib.hid hlv
           have HBL := Lib.hid ((Below.refl w3.heap.size w3).alloc (Nat.le_refl _) (.cells #[.slice Lv be.length cl] 46))
           have HLB := Lib.hid (BlkAt.new w3 46 #[.slice Lv be.length cl])
           have HB4 := Lib.hid (HB3.out.trans (HBL.out.mono HB3.out.size))
           have HIV1 := Lib.hid (HIV.out _ HB4.out)
           have hx1 := HX0.out.below HB4.out HX0.out.lt
           have e0 := hx1.cell 0
           have e1 := hx1.cell 1
           simp only [List.getElem?_toArray, List.getElem?_cons_succ, List.getElem?_cons_zero] at e0 e1
           clear hb3 HLI1 hfx hrow hlv hx1 d0 d1 HIV)
        | (go_at_call 16
           refine HIV1.out.mono ?_
           rintro e w5 ⟨⟨ah', be', vI, hfx, rfl, hrow⟩, hb5⟩
           obtain ⟨rfl, rfl⟩ := fix_uniq hfx HFX.out
           have HB5 := Lib.hid (HB4.out.trans (hb5.mono HB4.out.size))
           obtain ⟨l, hl⟩ : ∃ l, itvL b.code ah' be' b.regs.toNat = l := ⟨_, rfl⟩
           rw [hl] at hrow
           have HIL := Lib.hid hl
           obtain ⟨AI, cI, hvI, _, _, _⟩ := own_slice hrow
           subst hvI
           have HRI := Lib.hid (rd_own' encItv_len hrow)
           have HOWN := Lib.hid hrow
           have HLV5 := Lib.hid (lvs_below (lvs_below HLV.out HBL.out) hb5)
           have HLB5 := Lib.hid (HLB.out.below hb5 HLB.out.lt)
           have HC5 := Lib.hid (bods_below HC.out HB5.out)
           have hx1 := HX0.out.below HB5.out HX0.out.lt
           have g0 := hx1.cell 0
           have g1 := hx1.cell 1
           simp only [List.getElem?_toArray, List.getElem?_cons_succ, List.getElem?_cons_zero] at g0 g1
           obtain ⟨gB, oB, hAB, _, Ab, nb, cb, hbody⟩ := HC5.out.at_ kn b HBB.out
           subst hAB
           have b0 := hbody.c0
           have b3 := hbody.c3
           have HINS := Lib.hid hbody.code
           have hnb := hbody.code.len
           subst hnb
           have hlb := HFX.out.lb
           rw [hlb] at HLB5 HLV5
           have h50 := HLB5.out.cell 0
           have h51 := HLB5.out.lt
           simp only [List.getElem?_toArray, List.getElem?_cons_zero] at h50
           have k0 : (0 : Int) ≤ (kn : Int) := by omega
           have k1 : (kn : Int) < (n : Int) := by omega
           clear hb5 HIV1 hfx hl hrow hx1 e0 e1 HLV HLB HBL hbody)
        | fail)
      have HOWI : Hid (∀ a, AI = some a → ∃ cur, a.off = 0 ∧ a.spot = none ∧ BlkAt w5 a.block 44 cur) := Lib.hid (fun a ha => by
        rcases HOWN.out.2 with ⟨hv, _⟩ | ⟨g, cap, cur, hv, _, hh, _⟩
        · injection hv with hv
          rw [ha] at hv; cases hv
        · injection hv with hv
          rw [ha] at hv; cases hv
          exact ⟨cur, rfl, rfl, hh⟩)
      have HBC := Lib.hid ((Below.refl w5.heap.size w5).alloc (Nat.le_refl _) (.cells #[.slice Ab b.code.length cb] 49))
      have HCB := Lib.hid (BlkAt.new w5 49 #[.slice Ab b.code.length cb])
      obtain ⟨W6, hW6⟩ : ∃ W6, w5.alloc (.cells #[.slice Ab b.code.length cb] 49) = W6 := ⟨_, rfl⟩
      rw [hW6] at HBC HCB ⊢
      have HLB6 := Lib.hid (HLB5.out.below HBC.out HLB5.out.lt)
      have HLV6 := Lib.hid (lvs_below HLV5.out HBC.out)
      have HINS6 := Lib.hid (inss_below HINS.out HBC.out)
      have HRI6 := Lib.hid (HRI.out.below HBC.out)
      have HB6 := Lib.hid (HB5.out.trans (HBC.out.mono HB5.out.size))
      have HOW6 : Hid (∀ a, AI = some a → ∃ cur, a.off = 0 ∧ a.spot = none ∧ BlkAt W6 a.block 44 cur) := Lib.hid (fun a ha => by obtain ⟨cur, h1, h2, h3⟩ := HOWI.out a ha; exact ⟨cur, h1, h2, h3.below HBC.out h3.lt⟩)
      obtain ⟨Cb, hCb⟩ : ∃ Cb, w5.heap.size = Cb := ⟨_, rfl⟩
      rw [hCb] at HCB ⊢
      obtain ⟨Lb, hLb⟩ : ∃ Lb, w3.heap.size = Lb := ⟨_, rfl⟩
      rw [hLb] at HLB6 ⊢
      have HLBE := Lib.hid hlb
      have hlen : b.code.length ≤ 1000 := HLEN.out
      have hll : l.length ≤ 5000 := by
        have h1 := itv_len b.code ah' be' b.regs.toNat
        rw [HIL.out] at h1
        have := HR.out.regs
        omega
      clear hW6 hCb hLb hlb h50 h51 HBC HOWI HOWN HLB5 HLV5 HINS HRI HB5 HC5 g0 g1 b0 b3
      go_loopw [52] (fun iv wr => ∃ i : Nat, i ≤ b.code.length ∧ iv = .int .i64 i ∧ Hid (Below W6.heap.size W6 wr)) (fun iv _ => b.code.length - (intOf iv).toNat)
      case atStart => exact ⟨0, by omega, rfl, Lib.hid (Below.refl _ _)⟩
      case round =>
        obtain ⟨i, hil, rfl, HBW⟩ := hrel
        by_cases hlt : i < b.code.length
        · obtain ⟨x, hx⟩ := get_some hlt
          obtain ⟨ws, hws⟩ := get_some (xs := be') (k := i) (by rw [HLBE.out]; exact hlt)
          have HWS := Lib.hid (getD_ok HFX.out.wb (i := i) (by rw [HLBE.out]; exact hlt))
          have hwd : be'.getD i [] = ws := by rw [List.getD_eq_getElem?_getD, hws]; rfl
          rw [hwd] at HWS
          have HLIVE : Hid (∀ r : Nat, r ∈ elemsW ws ↔ LiveB b.code i (r : Int)) := Lib.hid (fun r => by rw [mem_elems HWS.out, ← hwd]; exact HFX.out.memB i r)
          obtain ⟨gi, oi, hAb, _, Ai, ni, ci, hins⟩ := (inss_below HINS6.out HBW.out).at_ i x hx
          subst hAb
          have i0 := hins.c0
          have i1 := hins.c1
          have i2 := hins.c2
          have i3 := hins.c3
          have i4 := hins.c4
          have i5 := hins.c5
          have i6 := hins.c6
          obtain ⟨gl, ol, hLv, hgl, Al, nl, cll, hcl, hrl, hnl⟩ := (lvs_below HLV6.out HBW.out).at_ i ws hws
          subst hLv
          have l0 := (HLB6.out.below HBW.out HLB6.out.lt).cell 0
          have s0 := (HCB.out.below HBW.out HCB.out.lt).cell 0
          have hLl := (HLB6.out.below HBW.out HLB6.out.lt).lt
          simp only [List.getElem?_toArray, List.getElem?_cons_zero] at l0 s0
          rw [Nat.mul_one] at hcl
          have HNX := Lib.hid (fun (r : Nat) (hr : r ∈ elemsW ws) => live_next HR.out HFX.out hx ((HLIVE.out r).1 hr))
          have HIN : Hid (∀ r ∈ elemsW ws, l.any (inB r i) = true) := Lib.hid (fun r hr => by
            have ht : tchB b.code ah' be' i r = true := (tch_live HFX.out).2 (.inr (.inr (.inr ((HLIVE.out r).1 hr))))
            obtain ⟨v, hv, e1, e2, e3⟩ := tch_itv hlt (tch_range HR.out HFX.out hlt ht) ht
            rw [HIL.out] at hv
            refine List.any_eq_true.2 ⟨v, hv, ?_⟩
            unfold inB
            rw [decide_eq_true e1, decide_eq_true e2, decide_eq_true e3]; rfl)
          have HNLE := Lib.hid hrl.len
          have hel : (natI (elemsW ws)).length = (elemsW ws).length := by unfold natI; simp
          have hzero : x.op = 22 → nl = 0 := fun h => by
            rw [HNLE.out, hel]
            rcases he2 : elemsW ws with _ | ⟨r, rest⟩
            · rfl
            · exact absurd h (HNX.out r (by rw [he2]; simp)).1
          have HBN := Lib.hid (((Below.refl wr.heap.size wr).alloc (Nat.le_refl _) (.cells #[.int .i64 i] 3)).alloc (alloc_sz (Nat.le_refl _)) (.cells #[.int .i64 x.op, .int .i64 x.a, .int .i64 x.b, .int .i64 x.c, .int .i64 x.d, .string ⟨x.text.toArray⟩, .slice Ai ni ci] 55))
          have HIB := Lib.hid ((BlkAt.new wr 3 #[.int .i64 i]).alloc (.cells #[.int .i64 x.op, .int .i64 x.a, .int .i64 x.b, .int .i64 x.c, .int .i64 x.d, .string ⟨x.text.toArray⟩, .slice Ai ni ci] 55))
          have HXB := Lib.hid (BlkAt.new (wr.alloc (.cells #[.int .i64 i] 3)) 55 #[.int .i64 x.op, .int .i64 x.a, .int .i64 x.b, .int .i64 x.c, .int .i64 x.d, .string ⟨x.text.toArray⟩, .slice Ai ni ci])
          rw [World.size_alloc] at HXB
          have HRL := Lib.hid (hrl.below HBN.out)
          have k2 : (0 : Int) ≤ (i : Int) := by omega
          have k3 : (i : Int) < (b.code.length : Int) := by omega
          have wr1 : IntKind.i64.wrap ((i : Int) + 1) = (i : Int) + 1 := IntWalk.i64_in _ (by omega)
          have HZE := Lib.hid hzero
          clear hx hws hwd hins hrl hzero hel
          by_cases ho : x.op = 22
          · have hz := HZE.out ho
            subst hz
            have g1 : (x.op == 22) = true := by simp [ho]
            have HO := Lib.hid ho
            clear ho
            go_wp2_with fail
            clear i0 i1 i2 i3 i4 i5 i6 l0 s0 hcl g1
            obtain ⟨W7, hW7⟩ : ∃ W7, (wr.alloc (.cells #[.int .i64 i] 3)).alloc (.cells #[.int .i64 x.op, .int .i64 x.a, .int .i64 x.b, .int .i64 x.c, .int .i64 x.d, .string ⟨x.text.toArray⟩, .slice Ai ni ci] 55) = W7 := ⟨_, rfl⟩
            rw [hW7] at HBN ⊢
            have HBX := Lib.hid (HBW.out.trans (HBN.out.mono HBW.out.size))
            clear hW7
            go_loopw [73] (fun jv wr => jv = .int .i64 0 ∧ Hid (Below W7.heap.size W7 wr)) (fun _ _ => 0)
            case atStart => exact ⟨rfl, Lib.hid (Below.refl _ _)⟩
            case round =>
              obtain ⟨rfl, HBJ⟩ := hrel
              have HBE := Lib.hid (HBX.out.trans (HBJ.out.mono HBX.out.size))
              go_wp2_with fail
              go_roundw
              case rel => exact ⟨i + 1, by omega, by go_num, HBE⟩
              case measure => simp [intOf]; omega
          · have g1 : (x.op == 22) = false := by simp [ho]
            have HO := Lib.hid ho
            clear ho
            go_wp2_with fail
            clear i0 i1 i2 i3 i4 i5 i6 l0 s0 hcl g1
            obtain ⟨W7, hW7⟩ : ∃ W7, (wr.alloc (.cells #[.int .i64 i] 3)).alloc (.cells #[.int .i64 x.op, .int .i64 x.a, .int .i64 x.b, .int .i64 x.c, .int .i64 x.d, .string ⟨x.text.toArray⟩, .slice Ai ni ci] 55) = W7 := ⟨_, rfl⟩
            rw [hW7] at HBN HIB HXB HRL ⊢
            have HBX := Lib.hid (HBW.out.trans (HBN.out.mono HBW.out.size))
            obtain ⟨Ib, hIb⟩ : ∃ Ib, wr.heap.size = Ib := ⟨_, rfl⟩
            rw [hIb] at HIB HXB ⊢
            clear hW7 hIb
            go_loopw [73] (fun jv wr => ∃ j : Nat, j ≤ nl ∧ jv = .int .i64 j ∧ Hid (Below W7.heap.size W7 wr)) (fun jv _ => nl - (intOf jv).toNat)
            case atStart => exact ⟨0, by omega, rfl, Lib.hid (Below.refl _ _)⟩
            case round =>
              obtain ⟨j, hjl, rfl, HBJ⟩ := hrel
              by_cases hltj : j < nl
              · obtain ⟨r, hr⟩ := get_some (xs := elemsW ws) (k := j) (by have := HNLE.out; unfold natI at this; rw [List.length_map] at this; omega)
                have hrm := List.mem_of_getElem? hr
                have hany := HIN.out r hrm
                have hnx := (HNX.out r hrm).2
                obtain ⟨ga, oa, hAl, _, hca⟩ := (HRL.out.below HBJ.out).at_ j (r : Int) (by unfold natI; rw [List.getElem?_map, hr]; rfl)
                subst hAl
                have e0 := hca 0 _ rfl
                rw [Nat.add_zero, Nat.mul_one] at e0
                have HBR := Lib.hid ((Below.refl wr.heap.size wr).alloc (Nat.le_refl _) (.cells #[.int .i64 r] 3))
                have HRB := Lib.hid (BlkAt.new wr 3 #[.int .i64 r])
                have HXJ := Lib.hid (HXB.out.below HBJ.out HXB.out.lt)
                have HIJ := Lib.hid (HIB.out.below HBJ.out HIB.out.lt)
                have HBK := Lib.hid (HBX.out.trans (HBJ.out.mono HBX.out.size))
                have hcf := itv_containsFunc 22 #[.pointer (some ⟨wr.heap.size, 0, none⟩), .pointer (some ⟨Ib, 0, none⟩)] (enters_of Tryz.func22 (by kernel_rfl) rfl) (inB r i) AI cI l (wr.alloc (.cells #[.int .i64 r] 3)) (by omega) ((HRI6.out.below HBK.out).below HBR.out)
                  (fun a ha => by obtain ⟨cur, h1, h2, h3⟩ := HOW6.out a ha; exact ⟨cur, h1, h2, (h3.below HBK.out h3.lt).below HBR.out (h3.below HBK.out h3.lt).lt⟩)
                  (fun v W _ hW => inside2_any v r i wr.heap.size Ib W ((HRB.out.below hW HRB.out.lt).cell 0) (((HIJ.out.below HBR.out HIJ.out.lt).below hW (HIJ.out.below HBR.out HIJ.out.lt).lt).cell 0))
                rw [hany] at hcf
                have HCF := Lib.hid hcf
                have HIN1 : Hid (∀ W, Below wr.heap.size wr W → ∀ nn : Int, Calls Tryz.prog 18 #[.int .i64 nn, .int .i64 r, .pointer (some ⟨Cb, 0, none⟩), .pointer (some ⟨Lb, 0, none⟩)] W fun e W' => e = .returned (.bool (aheadB b.code be' nn r)) ∧ Below W.heap.size W W') := Lib.hid (fun W hW nn => by
                  have hbw := HBK.out.trans (hW.mono HBK.out.size)
                  exact inside1_any b.code be' nn r Cb Lb _ cb _ cl W (HCB.out.below hbw HCB.out.lt) (by rw [HLBE.out]; exact HLB6.out.below hbw HLB6.out.lt) (inss_below HINS6.out hbw) (by rw [HLBE.out]; exact lvs_below HLV6.out hbw) HLBE.out HLEN.out HSH.out)
                have k5 : (0 : Int) ≤ (j : Int) := by omega
                have k6 : (j : Int) < (nl : Int) := by omega
                have wr2 : IntKind.i64.wrap ((j : Int) + 1) = (j : Int) + 1 := IntWalk.i64_in _ (by omega)
                clear hca hr hrm hany hcf
                rcases hnx with ⟨ho1, ha⟩ | ⟨ho1, ha⟩ | ⟨ho1, ho2, ha⟩
                · have g1 : (x.op != 19) = false := by simp [ho1]
                  have g2 : (x.op == 19) = true := by simp [ho1]
                  have HA := Lib.hid ha
                  clear ho1 ha
                  go_wp2_with (first
                    | (go_at_call 21
                       refine HCF.out.mono ?_
                       rintro e w9 ⟨rfl, hb9⟩
                       have HB9 := Lib.hid (HBR.out.trans (hb9.mono HBR.out.size))
                       have HN1 := Lib.hid (HIN1.out w9 HB9.out)
                       have p0 := (HXJ.out.below HB9.out HXJ.out.lt).cell 0
                       have p3 := (HXJ.out.below HB9.out HXJ.out.lt).cell 3
                       have q0 := (HIJ.out.below HB9.out HIJ.out.lt).cell 0
                       have t0 := (HRB.out.below hb9 HRB.out.lt).cell 0
                       simp only [List.getElem?_toArray, List.getElem?_cons_succ, List.getElem?_cons_zero] at p0 p3 q0 t0
                       have p0b := fun (W : World) (h : Below w9.heap.size w9 W) => cell_below h (Nat.le_refl _) p0
                       have HP0 := Lib.hid p0b
                       have HP3 := Lib.hid (fun (W : World) (h : Below w9.heap.size w9 W) => cell_below h (Nat.le_refl _) p3)
                       have HT0 := Lib.hid (fun (W : World) (h : Below w9.heap.size w9 W) => cell_below h (Nat.le_refl _) t0)
                       clear hb9 HCF p0b e0)
                    | (go_at_call 18
                       have hA1 := HN1.out x.c
                       rw [HA.out] at hA1
                       refine hA1.mono ?_
                       rintro e w10 ⟨rfl, hb10⟩
                       have HBZ := Lib.hid (HBJ.out.trans ((HB9.out.trans (hb10.mono HB9.out.size)).mono HBJ.out.size))
                       clear hb10 hA1 HN1 p0 p3 q0 t0)
                    | fail)
                  go_roundw
                  case rel => exact ⟨j + 1, by omega, by go_num, HBZ⟩
                  case measure => simp [intOf]; omega
                · have g1 : (x.op != 19) = true := by simp [ho1]
                  have g2 : (x.op == 19) = false := by simp [ho1]
                  have g3 : (x.op == 20) = true := by simp [ho1]
                  cases hq : aheadB b.code be' ((i : Int) + 1) r with
                  | true =>
                    have HA := Lib.hid hq
                    clear ho1 ha hq
                    go_wp2_with (first
                      | (go_at_call 21
                         refine HCF.out.mono ?_
                         rintro e w9 ⟨rfl, hb9⟩
                         have HB9 := Lib.hid (HBR.out.trans (hb9.mono HBR.out.size))
                         have HN1 := Lib.hid (HIN1.out w9 HB9.out)
                         have p0 := (HXJ.out.below HB9.out HXJ.out.lt).cell 0
                         have p3 := (HXJ.out.below HB9.out HXJ.out.lt).cell 3
                         have q0 := (HIJ.out.below HB9.out HIJ.out.lt).cell 0
                         have t0 := (HRB.out.below hb9 HRB.out.lt).cell 0
                         simp only [List.getElem?_toArray, List.getElem?_cons_succ, List.getElem?_cons_zero] at p0 p3 q0 t0
                         have p0b := fun (W : World) (h : Below w9.heap.size w9 W) => cell_below h (Nat.le_refl _) p0
                         have HP0 := Lib.hid p0b
                         have HP3 := Lib.hid (fun (W : World) (h : Below w9.heap.size w9 W) => cell_below h (Nat.le_refl _) p3)
                         have HT0 := Lib.hid (fun (W : World) (h : Below w9.heap.size w9 W) => cell_below h (Nat.le_refl _) t0)
                         clear hb9 HCF p0b e0)
                      | (go_at_call 18
                         have hA1 := HN1.out ((i : Int) + 1)
                         rw [HA.out] at hA1
                         refine hA1.mono ?_
                         rintro e w10 ⟨rfl, hb10⟩
                         have HBZ := Lib.hid (HBJ.out.trans ((HB9.out.trans (hb10.mono HB9.out.size)).mono HBJ.out.size))
                         clear hb10 hA1 HN1 p0 p3 q0 t0)
                      | fail)
                    go_roundw
                    case rel => exact ⟨j + 1, by omega, by go_num, HBZ⟩
                    case measure => simp [intOf]; omega
                  | false =>
                    have ha2 : aheadB b.code be' x.c r = true := by
                      rcases ha with h | h
                      · rw [hq] at h; cases h
                      · exact h
                    have HA := Lib.hid hq
                    have HA2 := Lib.hid ha2
                    clear ho1 ha hq ha2
                    go_wp2_with (first
                      | (go_at_call 21
                         refine HCF.out.mono ?_
                         rintro e w9 ⟨rfl, hb9⟩
                         have HB9 := Lib.hid (HBR.out.trans (hb9.mono HBR.out.size))
                         have HN1 := Lib.hid (HIN1.out w9 HB9.out)
                         have p0 := (HXJ.out.below HB9.out HXJ.out.lt).cell 0
                         have p3 := (HXJ.out.below HB9.out HXJ.out.lt).cell 3
                         have q0 := (HIJ.out.below HB9.out HIJ.out.lt).cell 0
                         have t0 := (HRB.out.below hb9 HRB.out.lt).cell 0
                         simp only [List.getElem?_toArray, List.getElem?_cons_succ, List.getElem?_cons_zero] at p0 p3 q0 t0
                         have p0b := fun (W : World) (h : Below w9.heap.size w9 W) => cell_below h (Nat.le_refl _) p0
                         have HP0 := Lib.hid p0b
                         have HP3 := Lib.hid (fun (W : World) (h : Below w9.heap.size w9 W) => cell_below h (Nat.le_refl _) p3)
                         have HT0 := Lib.hid (fun (W : World) (h : Below w9.heap.size w9 W) => cell_below h (Nat.le_refl _) t0)
                         clear hb9 HCF p0b e0)
                      | (go_at_call 18
                         have hA1 := HN1.out ((i : Int) + 1)
                         rw [HA.out] at hA1
                         refine hA1.mono ?_
                         rintro e w10 ⟨rfl, hb10⟩
                         have HB10 := Lib.hid (HB9.out.trans (hb10.mono HB9.out.size))
                         have HN2 := Lib.hid (HIN1.out w10 HB10.out x.c)
                         have p0x := HP0.out w10 hb10
                         have p3x := HP3.out w10 hb10
                         have t0x := HT0.out w10 hb10
                         clear hb10 hA1 HN1 p0 p3 q0 t0)
                      | (go_at_call 18
                         have hA1 := HN2.out
                         rw [HA2.out] at hA1
                         refine hA1.mono ?_
                         rintro e w11 ⟨rfl, hb11⟩
                         have HBZ := Lib.hid (HBJ.out.trans ((HB10.out.trans (hb11.mono HB10.out.size)).mono HBJ.out.size))
                         clear hb11 hA1 HN2 p0x p3x t0x)
                      | fail)
                    go_roundw
                    case rel => exact ⟨j + 1, by omega, by go_num, HBZ⟩
                    case measure => simp [intOf]; omega
                · have g1 : (x.op != 19) = true := by simp [ho1]
                  have HA := Lib.hid ha
                  clear ho1 ho2 ha
                  go_wp2_with (first
                    | (go_at_call 21
                       refine HCF.out.mono ?_
                       rintro e w9 ⟨rfl, hb9⟩
                       have HB9 := Lib.hid (HBR.out.trans (hb9.mono HBR.out.size))
                       have HN1 := Lib.hid (HIN1.out w9 HB9.out)
                       have p0 := (HXJ.out.below HB9.out HXJ.out.lt).cell 0
                       have p3 := (HXJ.out.below HB9.out HXJ.out.lt).cell 3
                       have q0 := (HIJ.out.below HB9.out HIJ.out.lt).cell 0
                       have t0 := (HRB.out.below hb9 HRB.out.lt).cell 0
                       simp only [List.getElem?_toArray, List.getElem?_cons_succ, List.getElem?_cons_zero] at p0 p3 q0 t0
                       have p0b := fun (W : World) (h : Below w9.heap.size w9 W) => cell_below h (Nat.le_refl _) p0
                       have HP0 := Lib.hid p0b
                       have HP3 := Lib.hid (fun (W : World) (h : Below w9.heap.size w9 W) => cell_below h (Nat.le_refl _) p3)
                       have HT0 := Lib.hid (fun (W : World) (h : Below w9.heap.size w9 W) => cell_below h (Nat.le_refl _) t0)
                       clear hb9 HCF p0b e0)
                    | (go_at_call 18
                       have hA1 := HN1.out ((i : Int) + 1)
                       rw [HA.out] at hA1
                       refine hA1.mono ?_
                       rintro e w10 ⟨rfl, hb10⟩
                       have HBZ := Lib.hid (HBJ.out.trans ((HB9.out.trans (hb10.mono HB9.out.size)).mono HBJ.out.size))
                       clear hb10 hA1 HN1 p0 p3 q0 t0)
                    | fail)
                  go_roundw
                  case rel => exact ⟨j + 1, by omega, by go_num, HBZ⟩
                  case measure => simp [intOf]; omega
              · obtain rfl : j = nl := by omega
                have HBE := Lib.hid (HBX.out.trans (HBJ.out.mono HBX.out.size))
                go_wp2_with fail
                go_roundw
                case rel => exact ⟨i + 1, by omega, by go_num, HBE⟩
                case measure => simp [intOf]; omega
        · obtain rfl : i = b.code.length := by omega
          have HBF := Lib.hid (HB6.out.trans (HBW.out.mono HB6.out.size))
          have HAWF := Lib.hid (HAW.out wr HBF.out)
          go_wp2_with (first
            | (go_at_call 10
               refine HAWF.out.mono ?_
               rintro e w2 ⟨rfl, hb2⟩
               have HB2 := Lib.hid (HBF.out.trans (hb2.mono HBF.out.size))
               clear hb2 HAWF)
            | fail)
          go_ret
          exact ⟨rfl, HB0.out.trans (HB2.out.mono HB0.out.size)⟩
    · have HIE := Lib.hid (fun W (hW : Below W0.heap.size W0 W) => Intervals_err c A n cc k W (bods_below HC.out hW) hf (HV.out.below hW) he)
      have HLE := Lib.hid (fun W (hW : Below W0.heap.size W0 W) => Live_err c A n cc k W (bods_below HC.out hW) hf (HV.out.below hW) he)
      unfold codeV at HIE HLE
      have fq := errs_pos he
      generalize errOf c k = q at *
      clear hC hl hV he hf
      go_enter Tryz.func5, Tryz.ntmps5
      go_wp2_with (first
        | (go_at_call 9
           refine HSMA.out.mono ?_
           rintro e w1 ⟨rfl, hb1⟩
           have HB1 := Lib.hid hb1
           have HLE1 := Lib.hid (HLE.out w1 hb1)
           have hx1 := HX0.out.below hb1 HX0.out.lt
           have d0 := hx1.cell 0
           have d1 := hx1.cell 1
           simp only [List.getElem?_toArray, List.getElem?_cons_succ, List.getElem?_cons_zero] at d0 d1
           clear hb1 HSMA c0 c1 hx1 HLE)
        | (go_at_call 17
           refine HLE1.out.mono ?_
           rintro e w3 ⟨rfl, hb3⟩
           have HB3 := Lib.hid (HB1.out.trans (hb3.mono HB1.out.size))
           have HB4 := Lib.hid (HB3.out.alloc HB3.out.size (.cells #[.slice none 0 0] 46))
           have HIE1 := Lib.hid (HIE.out _ HB4.out)
           have hx1 := HX0.out.below HB4.out HX0.out.lt
           have e0 := hx1.cell 0
           have e1 := hx1.cell 1
           simp only [List.getElem?_toArray, List.getElem?_cons_succ, List.getElem?_cons_zero] at e0 e1
           clear hb3 HLE1 d0 d1 hx1 HIE)
        | (go_at_call 16
           refine HIE1.out.mono ?_
           rintro e w5 ⟨rfl, hb5⟩
           have HB5 := Lib.hid (HB4.out.trans (hb5.mono HB4.out.size))
           have HAW5 := Lib.hid (HAW.out w5 HB5.out)
           clear hb5 HIE1 e0 e1)
        | (go_at_call 10
           refine HAW5.out.mono ?_
           rintro e w2 ⟨rfl, hb2⟩
           have HB2 := Lib.hid (HB5.out.trans (hb2.mono HB5.out.size))
           clear hb2 HAW5)
        | fail)
      go_ret
      exact ⟨rfl, HB0.out.trans (HB2.out.mono HB0.out.size)⟩
end Go.Proofs.YtpahhcmiimllaaaGreatDoor
