/- DERIVED. The reference's 'Of'. -/
import Derived.Test.YtghjhlenkgkelaaROf0
import Derived.Deep.CutBlock
import Derived.Deep.CutRange
import Derived.Deep.DeepCutAuto
set_option linter.unusedSimpArgs false
set_option linter.unusedVariables false
namespace Go.Proofs.Ytghjhlenkgkelaa
open Go.RowKit Go.Shelf Go.Sort
attribute [local go_sem] run_store_float

def ROfRes (w : World) (xs : List Acc) (mm me : Nat) (e : Ending) (w' : World) : Prop :=
  ∃ ve vs cst, costF mm me (edgN (cA xs) (cG (gsR xs)) 64) 0 = some cst ∧ e = .returned (.tuple #[.agg #[ve, vs, .float .f32 cst], .int .i64 0]) ∧
    w'.ownsRow w.heap.size 88 4 ve (edgN (cA xs) (cG (gsR xs)) 64).length ((edgN (cA xs) (cG (gsR xs)) 64).flatMap encEL) ∧ w'.ownsRow w.heap.size 92 7 vs (refS xs).length ((refS xs).flatMap encSL) ∧ Below w.heap.size w w'

theorem RG.beside {w : World} {base b : Nat} {v : Value} {L : List GV} (h : RG w base v L) (hb : b < base) (i : Nat) (u : Value) : RG (w.setCell ⟨b, i, none⟩ u) base v L :=
  ⟨own_kept_row h.row (setCell_grown _ _ _ _) (.inl hb), fun q hq => own_kept_row (h.mem q hq) (setCell_grown _ _ _ _) (.inl hb), h.ne, h.dis⟩
theorem edgI_one {F G : Nat → Nat → Nat} {a b : Nat} (hb : b < 8) (h : F a b ≠ 0) : edgI F G (a * 8 + b) = [⟨a, b, F a b, G a b⟩] := by
  have h1 : (a * 8 + b) / 8 = a := by omega
  have h2 : (a * 8 + b) % 8 = b := by omega
  unfold edgI; rw [h1, h2, if_neg h]
theorem edgI_none {F G : Nat → Nat → Nat} {a b : Nat} (hb : b < 8) (h : F a b = 0) : edgI F G (a * 8 + b) = [] := by
  have h1 : (a * 8 + b) / 8 = a := by omega
  have h2 : (a * 8 + b) % 8 = b := by omega
  unfold edgI; rw [h1, h2, if_pos h]
theorem edg_one (x : Edg) : ∀ u ∈ encEL x, u.oneCell' = true := by
  intro u hu
  simp [encEL] at hu
  rcases hu with rfl | rfl | rfl | rfl <;> rfl
set_option maxRecDepth 100000 in
set_option maxHeartbeats 4000000 in
theorem rOf_any (A : Option Addr) (n c mm me : Nat) (xs : List Acc) (w : World) (hl : n ≤ 5000) (hr : Trace w w.heap.size A n xs) (hg : givenL xs = 0) (hpm : priceB mm = true) (hpe : priceB me = true) (hcost : (costF mm me (edgN (cA xs) (cG (gsR xs)) 64) 0).isSome = true) :
    Calls Try.prog 14 #[.slice A n c, .agg #[.float .f32 mm, .float .f32 me]] w (ROfRes w xs mm me) := by
  have HCO := Lib.hid hcost
  clear hcost
  have hgiv := fun W hb => refGiven A n c xs W hl ((hr.below hb (Nat.le_refl _)).mono (Below.size hb))
  have HN := Lib.hid hr.len
  have HR := Lib.hid hr
  have HV := Lib.hid (valid_of hg)
  have hz0 := (BlkAt.new w 47 #[.float .f32 mm, .float .f32 me]).alloc (.cells #[.slice none 0 0, .slice none 0 0, .float .f32 0] 52)
  have hz1 : BlkAt ((w.alloc (.cells #[.float .f32 mm, .float .f32 me] 47)).alloc (.cells #[.slice none 0 0, .slice none 0 0, .float .f32 0] 52)) (w.heap.size + 1) 52 #[.slice none 0 0, .slice none 0 0, .float .f32 0] := by
    have := BlkAt.new (w.alloc (.cells #[.float .f32 mm, .float .f32 me] 47)) 52 #[.slice none 0 0, .slice none 0 0, .float .f32 0]
    simpa using this
  have hbl0 : Below w.heap.size w ((w.alloc (.cells #[.float .f32 mm, .float .f32 me] 47)).alloc (.cells #[.slice none 0 0, .slice none 0 0, .float .f32 0] 52)) := ((Below.refl w.heap.size w).alloc (Nat.le_refl _) _).alloc (by simp) _
  have HZ0 := Lib.hid hz0
  have HZ1 := Lib.hid hz1
  have HBL0 := Lib.hid hbl0
  have hgiv1 := hgiv _ hbl0
  clear hz0 hz1 hbl0 hgiv
  rw [hg] at hgiv1
  clear hr hg
  have hpr1 := rprice_any mm
  have hpr2 := rprice_any me
  rw [hpm] at hpr1
  rw [hpe] at hpr2
  obtain ⟨i0, hi, hy0, hy1, hy2⟩ := info_parts redge_info
  go_enter Try.func14, Try.ntmps14
  go_wp2_with (first
    | (go_at_call 30
       refine hgiv1.mono ?_
       rintro e w1 ⟨rfl, hb1⟩
       clear hgiv1
       have HB1 : Hid (Below w.heap.size w w1) := Lib.hid (HBL0.out.trans (hb1.mono (by have := HBL0.out.size; exact this)))
       have B0 := HZ0.out.below hb1 HZ0.out.lt
       have B1 := HZ1.out.below hb1 HZ1.out.lt
       have hcb1 := B0.cell 0
       have hcb2 := B0.cell 1
       simp only [List.getElem?_toArray, List.getElem?_cons_succ, List.getElem?_cons_zero] at hcb1 hcb2
       have HB0 := Lib.hid B0
       have HB01 := Lib.hid B1
       have hsz : w.heap.size + 2 ≤ w1.heap.size := by have := hb1.size; simpa using this
       clear hb1 B0 B1)
    | (go_at_call 31; first | (refine (hpr1 _).mono ?_; rintro e w' ⟨rfl, hww⟩; obtain rfl := hww.symm; clear hpr1) | (refine (hpr2 _).mono ?_; rintro e w' ⟨rfl, hww⟩; obtain rfl := hww.symm; clear hpr2)))
  clear hcb1 hcb2
  go_loopw [9] (fun i wr => ∃ k : Nat, k ≤ n ∧ i = .int .i64 k ∧ RMem w wr w1.heap.size (w1.heap.size + 1) mm me (cA (xs.take k)) (cG [])) (fun i _ => n - (intOf i).toNat)
  case atStart => exact ⟨0, by omega, rfl, RMem.start rfl HB0.out HB01.out HB1.out hsz⟩
  case round =>
    obtain ⟨k, hk, rfl, hm⟩ := hrel
    by_cases hlt : k < n
    · as_aux_lemma =>
      obtain ⟨x, hx⟩ := get_some (xs := xs) (k := k) (by rw [← HN.out]; omega)
      obtain ⟨b, off, rfl, hb, hc⟩ := HR.out.at_ k x hx
      obtain ⟨c0, c1, c2, c3, c4, c5, c6⟩ := hc.below hm.below hb
      have hval := HV.out x (List.mem_of_getElem? hx)
      obtain ⟨f, hf8, hfe⟩ : ∃ f : Nat, f < 8 ∧ x.frm = f := ⟨x.frm.toNat, by unfold validA at hval; omega, by unfold validA at hval; omega⟩
      obtain ⟨a, ha8, hae⟩ : ∃ a : Nat, a < 8 ∧ x.at' = a := ⟨x.at'.toNat, by unfold validA at hval; omega, by unfold validA at hval; omega⟩
      have HT := Lib.hid (take_snoc hx)
      have hle := cA_le (xs.take k) f a
      have htl : (xs.take k).length ≤ k := List.length_take_le _ _
      have d1 := blk64_cell hm.t1 hf8 ha8
      have z1 := BlkAt.frozen hm.t1 (f * 8 + a)
      have HM := Lib.hid hm
      have HFE := Lib.hid hfe
      have HAE := Lib.hid hae
      rw [hfe] at c5
      rw [hae] at c6
      have hf0 : (0 : Int) ≤ (f : Int) := by omega
      have hf1 : (f : Int) < 8 := by omega
      have ha0 : (0 : Int) ≤ (a : Int) := by omega
      have ha1 : (a : Int) < 8 := by omega
      have hk0 : (0 : Int) ≤ (k : Int) := by omega
      have hk1 : (k : Int) < (n : Int) := by omega
      have hFb : (cA (xs.take k) f a : Int) ≤ 5000 := by omega
      have hF0 : (0 : Int) ≤ (cA (xs.take k) f a : Int) := by omega
      clear hval hfe hae hx hc hm hle htl hb
      by_cases hre : f = a
      · have hreb : ((f : Int) != (a : Int)) = false := by simp; omega
        have HRE := Lib.hid hre
        clear hre
        go_wp2
        go_quiet (fail)
        go_wp2
        go_roundw
        case rel => exact ⟨k + 1, by omega, by go_num, by rw [HT.out, cA_skip (by rw [HFE.out, HAE.out, HRE.out])]; exact HM.out.after (below_draw (Below.refl _ _) _)⟩
        case measure => simp [intOf]; omega
      · have hreb : ((f : Int) != (a : Int)) = true := by simp; omega
        have HRE := Lib.hid hre
        clear hre
        have HAC := Lib.hid (show AccAt wr b (off + k * 7) x from ⟨c0, c1, c2, c3, c4, by rw [HFE.out]; exact c5, by rw [HAE.out]; exact c6⟩)
        go_upto_region 10 with fail
        go_cut [51] from 35 to 67 (fun v51 wx => v51 = .bool true ∧ AccAt wx b (off + k * 7) x ∧ RMem w wx w1.heap.size (w1.heap.size + 1) mm me (cA (xs.take k)) (cG []))
        case first => as_aux_lemma =>
          go_quiet (fail)
          go_wp2_with fail
          go_meet
          exact ⟨rfl, HAC.out, HM.out.after (below_draw (Below.refl _ _) _)⟩
        case rest =>
          clear c0 c1 c2 c3 c4 c5 c6 d1 z1
          obtain ⟨rfl, ⟨c0, c1, c2, c3, c4, c5, c6⟩, hm⟩ := hcut
          have d1 := blk64_cell hm.t1 hf8 ha8
          have z1 := BlkAt.frozen hm.t1 (f * 8 + a)
          rw [HFE.out] at c5
          rw [HAE.out] at c6
          have HM := Lib.hid hm
          clear hm
          go_wp2
          go_still_tail 16, (by kernel_rfl)
          change wpList _ _ _ _ _ wc.drew
          go_wp2
          go_roundw
          case rel => exact ⟨k + 1, by omega, by go_num, by rw [HT.out, cA_snoc HFE.out HAE.out (by rw [HFE.out, HAE.out]; have := HRE.out; omega)]; exact (HM.out.after (below_draw (Below.refl _ _) 1)).set1 hf8 ha8⟩
          case measure => simp [intOf]; omega
    · obtain rfl : k = n := by omega
      have hxs : xs.take k = xs := by rw [HN.out]; exact List.take_length
      rw [hxs] at hm
      obtain ⟨wg, rfl⟩ : ∃ wg : World, wg = wr := ⟨_, rfl⟩
      have HM := Lib.hid hm
      have hgr := rgroups_any A k c xs wg hl ((HR.out.below hm.below (Nat.le_refl _)).mono hm.below.size)
      clear hm hxs hlt
      go_wp2_with
        (go_at_call 32
         refine hgr.mono ?_
         rintro e w2 ⟨v, L, rfl, hLR, hRG, hb2⟩
         clear hgr
         obtain ⟨Av, cv, rfl, _, _, _⟩ := own_slice hRG.row
         have HM2 := Lib.hid (HM.out.after hb2)
         have HRG := Lib.hid hRG
         have HLR := Lib.hid hLR
         have hgl : L.length ≤ 5000 := by
           have h1 := (inv_run xs k (by have := HN.out; omega)).len
           rw [← hLR, List.length_map] at h1; omega
         clear hRG hLR hb2)
      have hP2 : w1.heap.size + 1 < wg.heap.size := BlkAt.lt HM.out.t2
      go_loopw [11] (fun i wr => ∃ j : Nat, j ≤ L.length ∧ i = .int .i64 j ∧ RMem w wr w1.heap.size (w1.heap.size + 1) mm me (cA xs) (cG ((L.map (fun q => q.1.1)).take j)) ∧ RG wr wg.heap.size (.slice Av L.length cv) L) (fun i _ => L.length - (intOf i).toNat)
      case atStart => exact ⟨0, by omega, rfl, HM2.out, HRG.out⟩
      case round =>
        obtain ⟨j, hj, rfl, hm, hRG⟩ := hrel
        by_cases hlt : j < L.length
        · as_aux_lemma =>
          obtain ⟨⟨⟨p, o⟩, mv⟩, hq⟩ := get_some hlt
          obtain ⟨g, rfl, hg0, hg, hce⟩ := row_cells6 hRG.row hq
          have s2 := hce 2 _ rfl
          have s3 := hce 3 _ rfl
          have hpm : (p, o) ∈ runR xs k := by rw [← HLR.out]; exact List.mem_map.2 ⟨_, List.mem_of_getElem? hq, rfl⟩
          have hI := inv_run xs k (by have := HN.out; omega)
          obtain ⟨m, hm1⟩ := List.exists_mem_of_ne_nil _ (hI.ne _ hpm)
          obtain ⟨y, hy, _, _, e1, e2⟩ := hI.same _ hpm m hm1
          have hval := HV.out y (List.mem_of_getElem? hy)
          simp only at e1 e2
          obtain ⟨f, hf8, hfe⟩ : ∃ f : Nat, f < 8 ∧ p.frm = f := ⟨p.frm.toNat, by unfold validA at hval; omega, by unfold validA at hval; omega⟩
          obtain ⟨a, ha8, hae⟩ : ∃ a : Nat, a < 8 ∧ p.at' = a := ⟨p.at'.toNat, by unfold validA at hval; omega, by unfold validA at hval; omega⟩
          simp only at s2 s3
          rw [hfe] at s2
          rw [hae] at s3
          have HT : Hid ((L.map (fun q => q.1.1)).take (j + 1) = (L.map (fun q => q.1.1)).take j ++ [p]) := Lib.hid (by rw [List.take_add_one, List.getElem?_map, hq]; rfl)
          have hle := cG_le ((L.map (fun q => q.1.1)).take j) f a
          have htl : ((L.map (fun q => q.1.1)).take j).length ≤ j := List.length_take_le _ _
          have d1 := blk64_cell hm.t2 hf8 ha8
          have z1 := BlkAt.frozen hm.t2 (f * 8 + a)
          have HMJ := Lib.hid hm
          have HRGJ := Lib.hid hRG
          have HFE := Lib.hid hfe
          have HAE := Lib.hid hae
          have hf0 : (0 : Int) ≤ (f : Int) := by omega
          have hf1 : (f : Int) < 8 := by omega
          have ha0 : (0 : Int) ≤ (a : Int) := by omega
          have ha1 : (a : Int) < 8 := by omega
          have hj0 : (0 : Int) ≤ (j : Int) := by omega
          have hj1 : (j : Int) < (L.length : Int) := by omega
          have hGb : (cG ((L.map (fun q => q.1.1)).take j) f a : Int) ≤ 5000 := by omega
          have hG0 : (0 : Int) ≤ (cG ((L.map (fun q => q.1.1)).take j) f a : Int) := by omega
          clear hval hfe hae hm hle htl hce hq hpm hI hm1 hy e1 e2 hRG
          go_wp2
          go_still_tail 16, (by kernel_rfl)
          change wpList _ _ _ _ _ wr.drew
          go_wp2
          go_roundw
          case rel => exact ⟨j + 1, by omega, by go_num, by rw [HT.out, cG_snoc HFE.out HAE.out]; exact (HMJ.out.after (below_draw (Below.refl _ _) 1)).set2 hf8 ha8, (HRGJ.out.below (below_draw (Below.refl _ _) 1)).beside hP2 _ _⟩
          case measure => simp [intOf]; omega
        · obtain rfl : j = L.length := by omega
          have hgs : (L.map (fun q => q.1.1)).take L.length = gsR xs := by
            rw [List.take_of_length_le (by rw [List.length_map]; exact Nat.le_refl _)]
            unfold gsR; rw [← HN.out, ← HLR.out, List.map_map]; rfl
          rw [hgs] at hm
          obtain ⟨wh, rfl⟩ : ∃ wh : World, wh = wr := ⟨_, rfl⟩
          have HMH := Lib.hid hm
          have hsp := rspots_any A k c xs wh hl ((HR.out.below hm.below (Nat.le_refl _)).mono hm.below.size)
          have hs1 := hm.below.size
          have hP3 := BlkAt.lt hm.t2
          clear hgs hm hRG hlt
          go_wp2_with
            (go_at_call 33
             refine hsp.mono ?_
             rintro e w5 ⟨vs, rfl, hrow, hb5⟩
             clear hsp
             obtain ⟨As, cs, rfl, _, _, _⟩ := own_slice hrow
             have HM5 := Lib.hid (HMH.out.after hb5)
             have HR5 := Lib.hid (own_base hrow hs1)
             have hs5 := hb5.size
             clear hrow hb5)
          have hle1 := fun a b => cA_le xs a b
          have hle2 : ∀ a b, cG (gsR xs) a b ≤ 5000 := fun a b => by
            have h1 := cG_le (gsR xs) a b
            have h2 : (gsR xs).length ≤ xs.length := by unfold gsR; rw [List.length_map]; exact (inv_run xs xs.length (Nat.le_refl _)).len
            have := HN.out; omega
          have HLE1 : Hid (∀ a b, cA xs a b ≤ 5000) := Lib.hid (fun a b => by have := hle1 a b; have := HN.out; omega)
          have HLE2 := Lib.hid hle2
          clear hle1 hle2
          have hsl : (refS xs).length ≤ 5000 := by have := refS_len xs; have := HN.out; omega
          have HQ' : Hid (ROfRes w xs mm me = ROfRes w xs mm me) := Lib.hid rfl
          generalize hF : cA xs = F at *
          generalize hG : cG (gsR xs) = G at *
          generalize hS : refS xs = sl at *
          have HF := Lib.hid hF
          have HG := Lib.hid hG
          have HS := Lib.hid hS
          clear hF hG hS HQ'
          have hcv : ∀ (n : Int) (W : World), (convert 3 26 (.int .i64 n)).run Try.prog W = .ok (.float .f32 (cvt n)) W := fun n W => by kernel_rfl
          go_loopw [13] (fun i wr => ∃ (a ck : Nat) (ve : Value), a ≤ 8 ∧ i = .int .i64 a ∧ RSt w wr w1.heap.size (w1.heap.size + 1) mm me F G w5.heap.size (.slice As sl.length cs) sl (a * 8) (a * 8) ck ve) (fun i _ => 8 - (intOf i).toNat)
          case atStart => exact ⟨0, 0, .slice none 0 0, by omega, rfl, HM5.out.after ((Below.refl _ _).alloc (Nat.le_refl _) _), BlkAt.new w5 _ _, World.ownsRow_nil _ _ _ _, HR5.out.alloc _, rfl, by omega⟩
          case round =>
            obtain ⟨a, ck, ve, ha, rfl, hst⟩ := hrel
            by_cases hlt : a < 8
            · have HST := Lib.hid hst
              clear hst
              have ha0 : (0 : Int) ≤ (a : Int) := by omega
              have ha1 : (a : Int) < 8 := by omega
              go_wp2
              go_loopw [14] (fun i wr => ∃ (b ck : Nat) (ve : Value), b ≤ 8 ∧ i = .int .i64 b ∧ RSt w wr w1.heap.size (w1.heap.size + 1) mm me F G w5.heap.size (.slice As sl.length cs) sl (a * 8 + b) (a * 8 + b) ck ve) (fun i _ => 8 - (intOf i).toNat)
              case atStart => exact ⟨0, ck, ve, by omega, rfl, HST.out⟩
              case round =>
                obtain ⟨b, ck, ve, hb, rfl, hst⟩ := hrel
                by_cases hlt2 : b < 8
                · have d1 := blk64_cell hst.mem.t1 hlt hlt2
                  have hF0 : (0 : Int) ≤ (F a b : Int) := by omega
                  have hb0 : (0 : Int) ≤ (b : Int) := by omega
                  have hb1 : (b : Int) < 8 := by omega
                  have hab : a * 8 + b < 64 := by omega
                  by_cases hz : F a b = 0
                  · as_aux_lemma =>
                    have hzb : ((F a b : Int) == 0) = true := by simp [hz]
                    have HZ := Lib.hid hz
                    have HST := Lib.hid hst
                    clear hz hst
                    go_wp2
                    go_roundw
                    case rel => exact ⟨b + 1, ck, ve, by omega, by go_num, HST.out.skip (edgI_none hlt2 HZ.out)⟩
                    case measure => simp [intOf]; omega
                  · have hzb : ((F a b : Int) == 0) = false := by simp [hz]
                    have HED := Lib.hid (edgI_one (G := G) hlt2 hz)
                    have hcn := cost_next (F := F) (G := G) (mm := mm) (me := me) HCO.out hab HED.out hst.cost
                    obtain ⟨pa, pb, ps, pr, q1, q2, q3, q4, q5⟩ := hcn
                    have hf1 := fun W => run_float_arith (P := Try.prog) W .mul 26 .f32 (cvt (G a b : Nat)) mm pa q1
                    have hf2 := fun W => run_float_arith (P := Try.prog) W .mul 26 .f32 (cvt (F a b : Nat)) me pb q2
                    have hf3 := fun W => run_float_arith (P := Try.prog) W .add 26 .f32 pa pb ps q3
                    have hf4 := fun W => run_float_arith (P := Try.prog) W .add 26 .f32 ck ps pr q4
                    have HCR := Lib.hid q5
                    have HST := Lib.hid hst
                    clear q1 q2 q3 q4 q5 hz hst
                    go_upto_region 25 with fail
                    go_cut [125] from 99 to 152 (fun v125 wx => ∃ ve, RSt w wx w1.heap.size (w1.heap.size + 1) mm me F G w5.heap.size (.slice As sl.length cs) sl (a * 8 + b) (a * 8 + b + 1) ck ve)
                    case first =>
                      have d2 := blk64_cell HST.out.mem.t2 hlt hlt2
                      have e0 := HST.out.prof.cell 0
                      have z0 := HST.out.prof.frozen 0
                      simp only [List.getElem?_toArray, List.getElem?_cons_succ, List.getElem?_cons_zero] at e0
                      have hrow := HST.out.row
                      have hel := edgN_len F G (a * 8 + b)
                      generalize hE : edgN F G (a * 8 + b) = E at hrow hel
                      have HE := Lib.hid hE
                      obtain ⟨Ae, ce, rfl, _, _, _⟩ := own_slice hrow
                      have hbw := HST.out.mem.below.size
                      clear hE
                      have HSD0 : RSt w wr.drew w1.heap.size (w1.heap.size + 1) mm me F G w5.heap.size (.slice As sl.length cs) sl (a * 8 + b) (a * 8 + b) ck (.slice Ae E.length ce) := HST.out.after (below_draw (Below.refl _ _) 1)
                      refine wp_region_held_drew (S := fun w' => w'.cell? ⟨w1.heap.size, a * 8 + b, none⟩ = some (.int .i64 (F a b)) ∧ w'.cell? ⟨w1.heap.size + 1, a * 8 + b, none⟩ = some (.int .i64 (G a b))) (by kernel_rfl) ⟨d1, d2⟩ ?_
                      intro hHeld
                      have HSD := Lib.hid HSD0
                      have hrowd : (wr.drew).ownsRow w.heap.size 88 4 (.slice Ae E.length ce) E.length (E.flatMap encEL) := hrow
                      have e0d : (wr.drew).cell? ⟨w5.heap.size, 0, none⟩ = some (.slice Ae E.length ce) := e0
                      have d1d : (wr.drew).cell? ⟨w1.heap.size, a * 8 + b, none⟩ = some (.int .i64 (F a b)) := d1
                      have d2d : (wr.drew).cell? ⟨w1.heap.size + 1, a * 8 + b, none⟩ = some (.int .i64 (G a b)) := d2
                      have hbwd : w.heap.size ≤ (wr.drew).heap.size := hbw
                      have hlp := HST.out.lowp
                      clear HSD0 HST e0 z0 hrow d1 d2 hbw
                      generalize wr.drew = wd at *
                      have e0a := fun o => cell_alloc o e0d
                      refine take_drop 0 (v := ?_) rfl (by kernel_rfl) (by kernel_rfl) (by kernel_rfl) (fun _ _ _ h => h) (by rfl) ?_ (by assumption) ?_
                      rotate_left 1
                      · (intro w hSw; obtain ⟨hSw1, hSw2⟩ := hSw; go_simp; try with_reducible rfl)
                      try simp only [Act.put, List.setIfInBounds_toArray, List.set_cons_zero, List.set_cons_succ]
                      refine take_drop 2 (v := ?_) rfl (by kernel_rfl) (by kernel_rfl) (by kernel_rfl) (fun _ _ _ h => h) (by rfl) ?_ (by assumption) ?_
                      rotate_left 1
                      · (intro w hSw; obtain ⟨hSw1, hSw2⟩ := hSw; go_simp; try with_reducible rfl)
                      try simp only [Act.put, List.setIfInBounds_toArray, List.set_cons_zero, List.set_cons_succ]
                      refine take_drop 3 (v := ?_) rfl (by kernel_rfl) (by kernel_rfl) (by kernel_rfl) (fun _ _ _ h => h) (by rfl) ?_ (by assumption) ?_
                      rotate_left 1
                      · (intro w hSw; obtain ⟨hSw1, hSw2⟩ := hSw; go_simp; try with_reducible rfl)
                      try simp only [Act.put, List.setIfInBounds_toArray, List.set_cons_zero, List.set_cons_succ]
                      refine take_drop 4 (v := ?_) rfl (by kernel_rfl) (by kernel_rfl) (by kernel_rfl) (fun _ _ _ h => h) (by rfl) ?_ (by assumption) ?_
                      rotate_left 1
                      · (intro w hSw; obtain ⟨hSw1, hSw2⟩ := hSw; go_simp; try with_reducible rfl)
                      try simp only [Act.put, List.setIfInBounds_toArray, List.set_cons_zero, List.set_cons_succ]
                      refine take_drop 5 (v := ?_) rfl (by kernel_rfl) (by kernel_rfl) (by kernel_rfl) (fun _ _ _ h => h) (by rfl) ?_ (by assumption) ?_
                      rotate_left 1
                      · (intro w hSw; obtain ⟨hSw1, hSw2⟩ := hSw; go_simp; try with_reducible rfl)
                      try simp only [Act.put, List.setIfInBounds_toArray, List.set_cons_zero, List.set_cons_succ]
                      refine take_drop 6 (v := ?_) rfl (by kernel_rfl) (by kernel_rfl) (by kernel_rfl) (fun _ _ _ h => h) (by rfl) ?_ (by assumption) ?_
                      rotate_left 1
                      · (intro w hSw; obtain ⟨hSw1, hSw2⟩ := hSw; go_simp; try with_reducible rfl)
                      try simp only [Act.put, List.setIfInBounds_toArray, List.set_cons_zero, List.set_cons_succ]
                      refine take_drop 7 (v := ?_) rfl (by kernel_rfl) (by kernel_rfl) (by kernel_rfl) (fun _ _ _ h => h) (by rfl) ?_ (by assumption) ?_
                      rotate_left 1
                      · (intro w hSw; obtain ⟨hSw1, hSw2⟩ := hSw; go_simp; try with_reducible rfl)
                      try simp only [Act.put, List.setIfInBounds_toArray, List.set_cons_zero, List.set_cons_succ]
                      refine take_drop 8 (v := ?_) rfl (by kernel_rfl) (by kernel_rfl) (by kernel_rfl) (fun _ _ _ h => h) (by rfl) ?_ (by assumption) ?_
                      rotate_left 1
                      · (intro w hSw; obtain ⟨hSw1, hSw2⟩ := hSw; go_simp; try with_reducible rfl)
                      try simp only [Act.put, List.setIfInBounds_toArray, List.set_cons_zero, List.set_cons_succ]
                      refine take_drop 9 (v := ?_) rfl (by kernel_rfl) (by kernel_rfl) (by kernel_rfl) (fun _ _ _ h => h) (by rfl) ?_ (by assumption) ?_
                      rotate_left 1
                      · (intro w hSw; obtain ⟨hSw1, hSw2⟩ := hSw; go_simp; try with_reducible rfl)
                      try simp only [Act.put, List.setIfInBounds_toArray, List.set_cons_zero, List.set_cons_succ]
                      refine take_drop 10 (v := ?_) rfl (by kernel_rfl) (by kernel_rfl) (by kernel_rfl) (fun _ _ _ h => h) (by rfl) ?_ (by assumption) ?_
                      rotate_left 1
                      · (intro w hSw; obtain ⟨hSw1, hSw2⟩ := hSw; go_simp; try with_reducible rfl)
                      try simp only [Act.put, List.setIfInBounds_toArray, List.set_cons_zero, List.set_cons_succ]
                      refine take_drop 11 (v := ?_) rfl (by kernel_rfl) (by kernel_rfl) (by kernel_rfl) (fun _ _ _ h => h) (by rfl) ?_ (by assumption) ?_
                      rotate_left 1
                      · (intro w hSw; obtain ⟨hSw1, hSw2⟩ := hSw; go_simp; try with_reducible rfl)
                      try simp only [Act.put, List.setIfInBounds_toArray, List.set_cons_zero, List.set_cons_succ]
                      refine take_drop 12 (v := ?_) rfl (by kernel_rfl) (by kernel_rfl) (by kernel_rfl) (fun _ _ _ h => h) (by rfl) ?_ (by assumption) ?_
                      rotate_left 1
                      · (intro w hSw; obtain ⟨hSw1, hSw2⟩ := hSw; go_simp; try with_reducible rfl)
                      try simp only [Act.put, List.setIfInBounds_toArray, List.set_cons_zero, List.set_cons_succ]
                      refine take_drop 13 (v := ?_) rfl (by kernel_rfl) (by kernel_rfl) (by kernel_rfl) (fun _ _ _ h => h) (by rfl) ?_ (by assumption) ?_
                      rotate_left 1
                      · (intro w hSw; obtain ⟨hSw1, hSw2⟩ := hSw; go_simp; try with_reducible rfl)
                      try simp only [Act.put, List.setIfInBounds_toArray, List.set_cons_zero, List.set_cons_succ]
                      refine take_drop 14 (v := ?_) rfl (by kernel_rfl) (by kernel_rfl) (by kernel_rfl) (fun _ _ _ h => h) (by rfl) ?_ (by assumption) ?_
                      rotate_left 1
                      · (intro w hSw; obtain ⟨hSw1, hSw2⟩ := hSw; go_simp; try with_reducible rfl)
                      try simp only [Act.put, List.setIfInBounds_toArray, List.set_cons_zero, List.set_cons_succ]
                      refine wpAnyH_ready (rs := [1, 15]) (by kernel_rfl) (by simp) ?_
                      refine ready_drop rfl (fun K hK => ?_) (ready_drop rfl (fun K hK => ?_) AllReadyH.nil)
                      · go_simp
                        refine hK.out _ _ ⟨d1d, d2d⟩ (fun hHeld => ?_)
                        clear hK
                        try simp only [Act.put, List.setIfInBounds_toArray, List.set_cons_zero, List.set_cons_succ]
                        refine wpAnyH_ready (rs := [15]) (by kernel_rfl) (by simp) ?_
                        refine ready_drop rfl (fun K hK => ?_) AllReadyH.nil
                        go_simp
                        refine hK.out _ _ ⟨cell_alloc _ d1d, cell_alloc _ d2d⟩ (fun hHeld => ?_)
                        clear hK
                        try simp only [Act.put, List.setIfInBounds_toArray, List.set_cons_zero, List.set_cons_succ]
                        refine wpAnyH_ready (rs := [16]) (by kernel_rfl) (by simp) ?_
                        refine ready_append rfl rfl (.tmp 110) (.tmp 124) 49 rfl w.heap.size 88 i0 (.agg #[.int .i64 0, .int .i64 0, .int .i64 0, .int .i64 0]) 4 32 Try.underlying49 hi hy0 hy1 hy2 rfl (by decide) (.slice Ae E.length ce) _ _ rfl (hrowd.alloc _) ⟨wd.heap.size, 0, none⟩ 1 1 (encEL ⟨a, b, F a b, G a b⟩) rfl rfl (cells_new' _ (encEL ⟨a, b, F a b, G a b⟩) _ _ rfl) (edg_one _) (by unfold maxLen; omega) (by omega) (by simp; omega) ?_ AllReadyH.nil
                        intro v9 w9 hrow9 hg9 hob9
                        have HAL := Lib.hid (HSD.out.after ((Below.refl _ _).alloc (Nat.le_refl _) (.cells (encEL ⟨a, b, F a b, G a b⟩).toArray 88)))
                        have HADD := Lib.hid (HAL.out.addEdge HED.out hg9 (by rw [HE.out]; exact hrow9))
                        have d19 := blk64_cell (HAL.out.mem.t1.kept hg9 (own_blk_ne HAL.out.row HAL.out.mem.t1 (by decide))) hlt hlt2
                        have d29 := blk64_cell (HAL.out.mem.t2.kept hg9 (own_blk_ne HAL.out.row HAL.out.mem.t2 (by decide))) hlt hlt2
                        have p9 := HAL.out.prof.kept hg9 (own_blk_ne HAL.out.row HAL.out.prof (by decide))
                        have e09 := p9.cell 0
                        have z09 := p9.frozen 0
                        simp only [List.getElem?_toArray, List.getElem?_cons_succ, List.getElem?_cons_zero] at e09
                        obtain ⟨A9, c9, rfl, _, _, _⟩ := own_slice hrow9
                        clear hrow9 hg9 hob9 p9
                        refine ⟨⟨d19, d29⟩, fun hHeld => ?_⟩
                        try simp only [Act.put, List.setIfInBounds_toArray, List.set_cons_zero, List.set_cons_succ]
                        refine wpAnyH_ready (rs := [17]) (by kernel_rfl) (by simp) ?_
                        refine ready_drop rfl (fun K hK => ?_) AllReadyH.nil
                        go_simp
                        refine hK.out _ _ ⟨d19, d29⟩ (fun hHeld => ?_)
                        clear hK
                        try simp only [Act.put, List.setIfInBounds_toArray, List.set_cons_zero, List.set_cons_succ]
                        refine wpAnyH_ready (rs := [18]) (by kernel_rfl) (by simp) ?_
                        refine ready_drop rfl (fun K hK => ?_) AllReadyH.nil
                        go_simp
                        refine hK.out _ _ ⟨(World.cell?_setCell_other _ _ _ _ (by simp)).trans d19, (World.cell?_setCell_other _ _ _ _ (by simp)).trans d29⟩ (fun hHeld => ?_)
                        clear hK
                        try simp only [Act.put, List.setIfInBounds_toArray, List.set_cons_zero, List.set_cons_succ]
                        refine wpAnyH_done (by kernel_rfl) ?_ _
                        go_wp2_with fail
                        go_meet
                        exact ⟨_, HADD.out⟩
                      · go_simp
                        refine hK.out _ _ ⟨cell_alloc _ d1d, cell_alloc _ d2d⟩ (fun hHeld => ?_)
                        clear hK
                        try simp only [Act.put, List.setIfInBounds_toArray, List.set_cons_zero, List.set_cons_succ]
                        refine wpAnyH_ready (rs := [1]) (by kernel_rfl) (by simp) ?_
                        refine ready_drop rfl (fun K hK => ?_) AllReadyH.nil
                        go_simp
                        refine hK.out _ _ ⟨cell_alloc _ d1d, cell_alloc _ d2d⟩ (fun hHeld => ?_)
                        clear hK
                        try simp only [Act.put, List.setIfInBounds_toArray, List.set_cons_zero, List.set_cons_succ]
                        refine wpAnyH_ready (rs := [16]) (by kernel_rfl) (by simp) ?_
                        refine ready_append rfl rfl (.tmp 110) (.tmp 124) 49 rfl w.heap.size 88 i0 (.agg #[.int .i64 0, .int .i64 0, .int .i64 0, .int .i64 0]) 4 32 Try.underlying49 hi hy0 hy1 hy2 rfl (by decide) (.slice Ae E.length ce) _ _ rfl (hrowd.alloc _) ⟨wd.heap.size, 0, none⟩ 1 1 (encEL ⟨a, b, F a b, G a b⟩) rfl rfl (cells_new' _ (encEL ⟨a, b, F a b, G a b⟩) _ _ rfl) (edg_one _) (by unfold maxLen; omega) (by omega) (by simp; omega) ?_ AllReadyH.nil
                        intro v9 w9 hrow9 hg9 hob9
                        have HAL := Lib.hid (HSD.out.after ((Below.refl _ _).alloc (Nat.le_refl _) (.cells (encEL ⟨a, b, F a b, G a b⟩).toArray 88)))
                        have HADD := Lib.hid (HAL.out.addEdge HED.out hg9 (by rw [HE.out]; exact hrow9))
                        have d19 := blk64_cell (HAL.out.mem.t1.kept hg9 (own_blk_ne HAL.out.row HAL.out.mem.t1 (by decide))) hlt hlt2
                        have d29 := blk64_cell (HAL.out.mem.t2.kept hg9 (own_blk_ne HAL.out.row HAL.out.mem.t2 (by decide))) hlt hlt2
                        have p9 := HAL.out.prof.kept hg9 (own_blk_ne HAL.out.row HAL.out.prof (by decide))
                        have e09 := p9.cell 0
                        have z09 := p9.frozen 0
                        simp only [List.getElem?_toArray, List.getElem?_cons_succ, List.getElem?_cons_zero] at e09
                        obtain ⟨A9, c9, rfl, _, _, _⟩ := own_slice hrow9
                        clear hrow9 hg9 hob9 p9
                        refine ⟨⟨d19, d29⟩, fun hHeld => ?_⟩
                        try simp only [Act.put, List.setIfInBounds_toArray, List.set_cons_zero, List.set_cons_succ]
                        refine wpAnyH_ready (rs := [17]) (by kernel_rfl) (by simp) ?_
                        refine ready_drop rfl (fun K hK => ?_) AllReadyH.nil
                        go_simp
                        refine hK.out _ _ ⟨d19, d29⟩ (fun hHeld => ?_)
                        clear hK
                        try simp only [Act.put, List.setIfInBounds_toArray, List.set_cons_zero, List.set_cons_succ]
                        refine wpAnyH_ready (rs := [18]) (by kernel_rfl) (by simp) ?_
                        refine ready_drop rfl (fun K hK => ?_) AllReadyH.nil
                        go_simp
                        refine hK.out _ _ ⟨(World.cell?_setCell_other _ _ _ _ (by simp)).trans d19, (World.cell?_setCell_other _ _ _ _ (by simp)).trans d29⟩ (fun hHeld => ?_)
                        clear hK
                        try simp only [Act.put, List.setIfInBounds_toArray, List.set_cons_zero, List.set_cons_succ]
                        refine wpAnyH_done (by kernel_rfl) ?_ _
                        go_wp2_with fail
                        go_meet
                        exact ⟨_, HADD.out⟩
                    case rest =>
                      obtain ⟨ve2, hst⟩ := hcut
                      have d1 := blk64_cell hst.mem.t1 hlt hlt2
                      have d2 := blk64_cell hst.mem.t2 hlt hlt2
                      have x1 := hst.mem.box.cell 0
                      have x2 := hst.mem.box.cell 1
                      have e2 := hst.prof.cell 2
                      have z2 := hst.prof.frozen 2
                      simp only [List.getElem?_toArray, List.getElem?_cons_succ, List.getElem?_cons_zero] at x1 x2 e2
                      have HSTN := Lib.hid hst
                      clear hst
                      go_wp2
                      go_quiet (fail)
                      go_wp2
                      go_quiet (fail)
                      go_wp2
                      go_roundw
                      case rel => exact ⟨b + 1, pr, ve2, by omega, by go_num, (HSTN.out.after (below_draw (Below.refl _ _) _)).setCost HCR.out⟩
                      case measure => simp [intOf]; omega
                · obtain rfl : b = 8 := by omega
                  have HST := Lib.hid hst
                  clear hst
                  go_wp2
                  go_roundw
                  case rel => exact ⟨a + 1, ck, ve, by omega, by go_num, by rw [show (a + 1) * 8 = a * 8 + 8 by omega]; exact HST.out⟩
                  case measure => simp [intOf]; omega
            · obtain rfl : a = 8 := by omega
              have hres := hst.mem.res
              have hr0 := hres.cell 0
              have hr1 := hres.cell 1
              have hr2 := hres.cell 2
              have hf0 := hres.frozen 0
              have hf1 := hres.frozen 1
              have hf2 := hres.frozen 2
              have e0 := hst.prof.cell 0
              have e1 := hst.prof.cell 1
              have e2 := hst.prof.cell 2
              simp only [List.getElem?_toArray, List.getElem?_cons_succ, List.getElem?_cons_zero] at hr0 hr1 hr2 e0 e1 e2
              obtain ⟨Ae, ce, rfl, _, _, _⟩ := own_slice hst.row
              have HRES := Lib.hid hres
              have HST := Lib.hid hst
              have hwz := hst.mem.below.size
              clear hres hst
              go_wp2
              have B3 := ((HRES.out.set 0 (.slice Ae (edgN F G (8 * 8)).length ce)).set 1 (.slice As sl.length cs)).set 2 (.float .f32 ck)
              have q0 := B3.cell 0
              have q1 := B3.cell 1
              have q2 := B3.cell 2
              simp only [List.setIfInBounds_toArray, List.set_cons_zero, List.set_cons_succ, List.getElem?_toArray, List.getElem?_cons_succ, List.getElem?_cons_zero] at q0 q1 q2
              refine bodyPost_ret (v := .tuple #[.agg #[.slice Ae (edgN F G (8 * 8)).length ce, .slice As sl.length cs, .float .f32 ck], .int .i64 0]) (by simp [results, Try.results14, go_sem, q0, q1, q2]) rfl ?_
              have hne1 := own_blk_ne HST.out.row HRES.out (by decide)
              have hne2 := own_blk_ne HST.out.spt HRES.out (by decide)
              have k1 := own_set (own_set (own_set HST.out.row hne1 0 (.slice Ae (edgN F G (8 * 8)).length ce)) hne1 1 (.slice As sl.length cs)) hne1 2 (.float .f32 ck)
              have k2 := own_set (own_set (own_set HST.out.spt hne2 0 (.slice Ae (edgN F G (8 * 8)).length ce)) hne2 1 (.slice As sl.length cs)) hne2 2 (.float .f32 ck)
              unfold ROfRes
              rw [HF.out, HG.out, HS.out]
              refine ⟨_, _, ck, HST.out.cost, rfl, k1, k2, ?_⟩
              exact ((HST.out.mem.below.setCell (p := ⟨w.heap.size + 1, 0, none⟩) (by simp) _).setCell (p := ⟨w.heap.size + 1, 1, none⟩) (by simp) _).setCell (p := ⟨w.heap.size + 1, 2, none⟩) (by simp) _
end Go.Proofs.Ytghjhlenkgkelaa
