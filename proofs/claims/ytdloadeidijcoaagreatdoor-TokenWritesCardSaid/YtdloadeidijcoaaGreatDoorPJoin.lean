/- DERIVED. The program's Join. -/
import Derived.Test.YtdloadeidijcoaaGreatDoorPApart
import Derived.Test.YtdloadeidijcoaaGreatDoorPWrt
import Derived.Test.YtdloadeidijcoaaGreatDoorPConv
import Derived.Lib.QuietBelow
set_option linter.unusedSimpArgs false
set_option linter.unusedVariables false
namespace Go.Proofs.YtdloadeidijcoaaGreatDoor
open Go.RowKit Go.Shelf Go.Sort

theorem str_info : (Tryz.prog.info? 9).map (fun i => (i.zero, i.size, i.bytes)) = some (some (.string ⟨#[]⟩), 1, 16) := by kernel_rfl
/-- what Join tells -/
def joinR (l : List Tok) : Value := if l.all rightB then (if (joinL l).length ≤ 40000 then .tuple #[strV (joinL l), .int .i64 0] else .tuple #[strV [], .int .i64 7]) else .tuple #[strV [], .int .i64 2]
def encSt (x : Tok) : List Value := [strV (writeL x)]
theorem encSt_len (x : Tok) : (encSt x).length = 1 := rfl
theorem bs_len (w0 : World) (b : Nat) (l : List UInt8) (w : World) (h : BS w0 b l w) : Calls Tryz.prog 29 #[.pointer (some ⟨b, 0, none⟩)] w fun e w' => e = .returned (.int .i64 l.length) ∧ w = w' := by
  obtain ⟨p, hB, v, hbk, hown, hne⟩ : ∃ p, Lib.BuilderAt TB U8 w0.heap.size b p (Lib.byteCells l) w := by
    rcases h.bld with h | h
    · exact ⟨_, h⟩
    · exact ⟨_, h⟩
  rw [Lib.byteCells_length] at hown
  obtain ⟨A, c, rfl, _, _, _⟩ := own_slice hown
  have c1 : w.cell? ⟨b, 1, none⟩ = some (.slice A l.length c) := by rw [Lib.cell_of_heap hbk]; rfl
  clear hbk hown hne h
  go_enter Tryz.func29, Tryz.ntmps29
  go_wp2_with fail
  go_ret
  exact ⟨rfl, rfl⟩
set_option maxRecDepth 100000 in
set_option maxHeartbeats 16000000 in
theorem join_any (A : Option Addr) (n c : Nat) (l : List Tok) (w : World) (hR : Rd encTL 4 w A n l) (hn : n ≤ 10000) (hs : ∀ y ∈ l, y.text.length ≤ 3000) (hV : Vars w) :
    Calls Tryz.prog 10 #[.slice A n c] w fun e w' => e = .returned (joinR l) ∧ Below w.heap.size w w' := by
  obtain ⟨i0, hi, hy0, hy1, hy2⟩ := info_parts str_info
  have HI := Lib.hid hi
  have HR := Lib.hid hR
  have HV := Lib.hid hV
  have HLN := Lib.hid hR.len
  have HS := Lib.hid hs
  clear hR hV hs hi
  go_enter Tryz.func10, Tryz.ntmps10
  go_wp2_with fail
  go_loopw [4, 14] (fun v a wr => ∃ i : Nat, i ≤ n ∧ a = .int .i64 i ∧ Hid (∀ y ∈ l.take i, rightB y = true) ∧ Hid (wr.ownsRow w.heap.size 9 1 v i ((l.take i).flatMap encSt)) ∧ Hid (Below w.heap.size w wr)) (fun _ a _ => n - (intOf a).toNat)
  case atStart => exact ⟨0, by omega, rfl, Lib.hid (by simp), Lib.hid ⟨rfl, .inl ⟨rfl, rfl⟩⟩, Lib.hid (Below.refl _ _)⟩
  case round =>
    obtain ⟨i, hin, rfl, HRT, HO, HW⟩ := hrel
    by_cases hlt : i < n
    · obtain ⟨x, hx⟩ := get_some (xs := l) (k := i) (by have := HLN.out; omega)
      have hxs := HS.out x (List.mem_of_getElem? hx)
      have HTL : Hid ((l.take i).flatMap encSt ++ encSt x = (l.take (i + 1)).flatMap encSt) := Lib.hid (by rw [List.take_add_one, hx]; simp)
      have HRN : rightB x = true → Hid (∀ y ∈ l.take (i + 1), rightB y = true) := fun h => Lib.hid (fun y hy => by
        rw [List.take_add_one, hx] at hy
        rcases List.mem_append.1 hy with hy | hy
        · exact HRT.out y hy
        · simp at hy; rw [hy]; exact h)
      have HNO : rightB x = false → Hid (joinR l = .tuple #[strV [], .int .i64 2]) := fun h => Lib.hid (by
        unfold joinR
        rw [if_neg]
        intro hall
        have := List.all_eq_true.1 hall x (List.mem_of_getElem? hx)
        rw [h] at this; cases this)
      obtain ⟨b, o, rfl, _, hc⟩ := (HR.out.below HW.out).at_ i x hx
      have c0 := hc 0 _ rfl
      have c1 := hc 1 _ rfl
      have c2 := hc 2 _ rfl
      have c3 := hc 3 _ rfl
      rw [Nat.add_zero] at c0
      unfold strV at c1
      have hk0 : (0 : Int) ≤ (i : Int) := by omega
      have hk1 : (i : Int) < (n : Int) := by omega
      have HW1 := Lib.hid (HW.out.alloc HW.out.size (.cells #[.int .i64 x.kind, .string ⟨x.text.toArray⟩, .int .i64 x.value, .int .i64 x.at_] PT))
      have hwr := write_any x (wr.alloc (.cells #[.int .i64 x.kind, .string ⟨x.text.toArray⟩, .int .i64 x.value, .int .i64 x.at_] PT)) (by omega) (HV.out.below HW1.out)
      have HO1 := Lib.hid (own_below HO.out ((Below.refl wr.heap.size wr).alloc (Nat.le_refl _) (.cells #[.int .i64 x.kind, .string ⟨x.text.toArray⟩, .int .i64 x.value, .int .i64 x.at_] PT)))
      obtain ⟨AA, cc, rfl, _, _, _⟩ := own_slice HO.out
      unfold wrtV chkI encT strV at hwr
      clear hx hc
      cases hrt : rightB x with
      | false =>
        rw [hrt] at hwr
        have HNO2 := HNO hrt
        clear HRN HNO
        simp only [Bool.false_eq_true, if_false] at hwr
        go_wp2_with (go_at_call 6
                     refine hwr.mono ?_
                     rintro e w4 ⟨rfl, hb4⟩
                     have HB4 := Lib.hid (HW1.out.trans (hb4.mono HW1.out.size))
                     clear hb4 hwr)
        go_ret2
        exact ⟨congrArg Ending.returned HNO2.out.symm, HB4.out⟩
      | true =>
        rw [hrt] at hwr
        have HRN2 := HRN hrt
        clear HRN HNO hrt
        simp only [if_true] at hwr
        have wr1 : IntKind.i64.wrap ((i : Int) + 1) = (i : Int) + 1 := IntWalk.i64_in _ (by omega)
        have HI2 := HI.out
        have HES : Hid (encSt x = [.string ⟨(writeL x).toArray⟩]) := Lib.hid rfl
        rw [HES.out] at HTL
        generalize writeL x = X at *
        go_wp2_with (first
          | (go_at_call 6
             refine hwr.mono ?_
             rintro e w4 ⟨rfl, hb4⟩
             have HB4 := Lib.hid (HW1.out.trans (hb4.mono HW1.out.size))
             have HO4 := Lib.hid (own_below HO1.out hb4)
             clear hb4 hwr)
          | (at_builtin
             refine wpList_append_own_at _ rfl _ _ 53 rfl w.heap.size 9 i0 (.string ⟨#[]⟩) 1 16 Tryz.underlying53 HI2 hy0 hy1 hy2 rfl (by decide) (.slice AA i cc) _ _ rfl (HO4.out.alloc _) ⟨w4.heap.size, 0, none⟩ 1 1 [.string ⟨X.toArray⟩] rfl rfl (cells_new' _ [.string ⟨X.toArray⟩] _ _ rfl) (by simp [Value.oneCell']) (by unfold maxLen; omega) (by omega) (alloc_szc HB4.out.size) ?_
             intro v' w6 hrow' hgrow _ hob
             have HO6 := Lib.hid hrow'
             have HB6 := Lib.hid ((HB4.out.alloc HB4.out.size (.cells #[.string ⟨X.toArray⟩] 9)).grown hgrow (alloc_szc HB4.out.size) (fun j e => (own_lt HO4.out e).1))
             clear hrow' hgrow hob))
        go_roundw
        case rel => exact ⟨i + 1, by omega, by go_num, HRN2, Lib.hid (by rw [← HTL.out]; exact HO6.out), HB6⟩
        case measure => simp [intOf]; omega
    · obtain rfl : i = n := by omega
      have htk : l.take i = l := List.take_of_length_le (by have := HLN.out; omega)
      rw [htk] at HRT HO
      have HALL : Hid (l.all rightB = true) := Lib.hid (List.all_eq_true.2 HRT.out)
      obtain ⟨wo, hwo⟩ : ∃ wo : World, wo = wr := ⟨_, rfl⟩
      subst hwo
      have ho := HO.out
      rw [HLN.out] at ho
      obtain ⟨At, ct, rfl, hrt, _⟩ := rd_own (enc := encSt) (k := 1) encSt_len ho
      rw [← HLN.out] at hrt
      have HT := Lib.hid hrt
      have HVO := Lib.hid (HV.out.below HW.out)
      have HRO := Lib.hid (HR.out.below HW.out)
      have HBS0 := Lib.hid (bs_new wo wo (Below.refl _ _))
      rw [← HLN.out]
      clear htk ho hrt hlt HO HRT HR HV
      go_wp2_with fail
      go_loopw [33] (fun a wi => ∃ k : Nat, k ≤ i ∧ a = .int .i64 k ∧ Hid (BS wo wo.heap.size (joinL (l.take k)) wi) ∧ Hid ((joinL (l.take k)).length ≤ 40000)) (fun a _ => i - (intOf a).toNat)
      case atStart => exact ⟨0, by omega, rfl, HBS0, Lib.hid (by simp [joinL])⟩
      case round =>
        obtain ⟨k, hk, rfl, HB, HL⟩ := hrel
        have HBL := Lib.hid HB.out.below
        by_cases hlt2 : k < i
        · obtain ⟨x, hx⟩ := get_some (xs := l) (k := k) (by have := HLN.out; omega)
          have hxs := HS.out x (List.mem_of_getElem? hx)
          have hwl := write_len x
          have hJ := joinL_take l k x hx
          have hmono := joinL_mono l (i - (k + 1)) (k + 1) (by have := HLN.out; omega)
          have HBIG : 40000 < (joinL (l.take (k + 1))).length → Hid (joinR l = .tuple #[strV [], .int .i64 7]) := fun h => Lib.hid (by
            unfold joinR
            rw [if_pos HALL.out, if_neg (by omega)])
          obtain ⟨bt, ot, rfl, _, hct⟩ := (HT.out.below HBL.out).at_ k x hx
          have ct0 := hct 0 _ rfl
          rw [Nat.mul_one, Nat.add_zero] at ct0
          unfold strV at ct0
          have hk0 : (0 : Int) ≤ (k : Int) := by omega
          have hk1 : (k : Int) < (i : Int) := by omega
          have wr1 : IntKind.i64.wrap ((k : Int) + 1) = (k : Int) + 1 := IntWalk.i64_in _ (by omega)
          have hjl := HL.out
          have HBR := Lib.hid (fun d os => HB.out.after (below_regrown wr d os))
          by_cases hz : k = 0
          · have f0 : ¬ 0 < k := by omega
            have hg : gapJ (l.take k) x = [] := by rw [hz]; rfl
            rw [hg, List.nil_append] at hJ
            have HJ := Lib.hid hJ
            clear hJ hg hz hct hx
            generalize hJN : joinL (l.take (k + 1)) = JN at *
            have HJNE := Lib.hid hJN
            clear hJN
            generalize joinL (l.take k) = J at *
            generalize writeL x = X at *
            have HLE : Hid (J.length + X.length ≤ 140737488355328) := Lib.hid (by omega)
            go_wp2_with fail
            refine wp_region_quiet_below (by kernel_rfl) (by kernel_rfl) ?_
            repeat (any_goals (first | go_big_quiet_step ((fail)) | quiet_step ((fail)) | (refine wpQuiet_step (fun K hK => ?_); go_simp; split <;> (refine hK _ ?_; clear hK K))))
            all_goals (refine wpQuiet_nil ?_; intro _ hw'; obtain ⟨⟨dq, osq⟩, hw''⟩ := hw'; subst hw'')
            have HQ5 := Lib.hid (HBR.out dq osq)
            clear HBR
            generalize grow (redrawn wr dq) osq = wq at *
            by_cases hbig : 40000 < JN.length
            · have f40 : decide ((40000 : Int) < (JN.length : Int)) = true := decide_eq_true (by omega)
              have HBG2 := HBIG hbig
              clear HBIG hbig
              go_wp2_with (first
                | (fail)
                | (go_at_call 15
                   refine (bs_str wo wo.heap.size J X _ HQ5.out HLE.out).mono ?_
                   rintro e w6 ⟨rfl, hs6, _⟩
                   have HB6 : Hid (BS wo wo.heap.size JN w6) := Lib.hid (by rw [HJ.out]; exact hs6)
                   clear hs6)
                | (go_at_call 29
                   refine (bs_len wo wo.heap.size JN w6 HB6.out).mono ?_
                   rintro e w7 ⟨rfl, rfl⟩
                   skip))
              go_ret2
              exact ⟨congrArg Ending.returned HBG2.out.symm, HW.out.trans (HB6.out.below.mono HW.out.size)⟩
            · have f40 : decide ((40000 : Int) < (JN.length : Int)) = false := decide_eq_false (by omega)
              have HLN2 : Hid (JN.length ≤ 40000) := Lib.hid (by omega)
              clear HBIG hbig
              go_wp2_with (first
                | (fail)
                | (go_at_call 15
                   refine (bs_str wo wo.heap.size J X _ HQ5.out HLE.out).mono ?_
                   rintro e w6 ⟨rfl, hs6, _⟩
                   have HB6 : Hid (BS wo wo.heap.size JN w6) := Lib.hid (by rw [HJ.out]; exact hs6)
                   clear hs6)
                | (go_at_call 29
                   refine (bs_len wo wo.heap.size JN w6 HB6.out).mono ?_
                   rintro e w7 ⟨rfl, rfl⟩
                   skip))
              go_round
              case rel => exact ⟨k + 1, by omega, by go_num, by rw [HJNE.out]; exact HB6, by rw [HJNE.out]; exact HLN2⟩
              case measure => simp [intOf]; omega
          · have f0 : 0 < k := by omega
            obtain ⟨j, hj⟩ : ∃ j, k = j + 1 := ⟨k - 1, by omega⟩
            have wj : IntKind.i64.wrap ((k : Int) - 1) = (j : Int) := by rw [show (k : Int) - 1 = (j : Int) by omega]; exact IntWalk.i64_in _ (by omega)
            have hj0 : (0 : Int) ≤ (j : Int) := by omega
            have hj1 : (j : Int) < (i : Int) := by omega
            obtain ⟨a, ha⟩ := get_some (xs := l) (k := j) (by have := HLN.out; omega)
            have has_ := HS.out a (List.mem_of_getElem? ha)
            have hal := write_len a
            have hg : gapJ (l.take k) x = if apartB a x then [32] else [] := by rw [hj]; exact gapJ_some l j a x ha
            rw [hg] at hJ
            obtain ⟨bt', ot', hgt, _, hca⟩ := (HT.out.below HBL.out).at_ j a ha
            injection hgt with hgt
            injection hgt with hgt hot
            subst hgt; subst hot
            obtain ⟨bl, ol, rfl, _, hcl⟩ := (HRO.out.below HBL.out).at_ k x hx
            obtain ⟨bl', ol', hgl, _, hcm⟩ := (HRO.out.below HBL.out).at_ j a ha
            injection hgl with hgl
            injection hgl with hgl hol
            subst hgl; subst hol
            have at0 := hca 0 _ rfl
            rw [Nat.mul_one, Nat.add_zero] at at0
            have lx0 := hcl 0 _ rfl
            have lx1 := hcl 1 _ rfl
            have lx2 := hcl 2 _ rfl
            have lx3 := hcl 3 _ rfl
            have la0 := hcm 0 _ rfl
            have la1 := hcm 1 _ rfl
            have la2 := hcm 2 _ rfl
            have la3 := hcm 3 _ rfl
            rw [Nat.add_zero] at lx0 la0
            unfold strV at at0 lx1 la1
            have hap := fun d os => apart_any a x (writeL a) (writeL x) (grow (redrawn wr d) os) (by omega) ((HVO.out.below HBL.out).below (below_regrown wr d os))
            have HAP : Hid (apA a x (writeL a) (writeL x) = apartB a x) := Lib.hid rfl
            rw [HAP.out] at hap
            unfold encT strV at hap
            clear hct hcl hcm hca ha hx hg hz HAP hj
            have ct1 := cell_regrown ct0
            have at0 := cell_regrown at0
            have lx0 := cell_regrown lx0
            have lx1 := cell_regrown lx1
            have lx2 := cell_regrown lx2
            have lx3 := cell_regrown lx3
            have la0 := cell_regrown la0
            have la1 := cell_regrown la1
            have la2 := cell_regrown la2
            have la3 := cell_regrown la3
            generalize hJN : joinL (l.take (k + 1)) = JN at *
            have HJNE := Lib.hid hJN
            clear hJN
            generalize joinL (l.take k) = J at *
            cases hab : apartB a x with
            | false =>
              rw [hab] at hap hJ
              have HJ : Hid (JN = J ++ writeL x) := Lib.hid (by rw [hJ]; rfl)
              clear hab hJ
              generalize writeL x = X at *
              generalize writeL a = Y at *
              have HLE : Hid (J.length + X.length ≤ 140737488355328) := Lib.hid (by omega)
              go_wp2_with fail
              refine wp_region_quiet_below (by kernel_rfl) (by kernel_rfl) ?_
              repeat (any_goals (first | go_big_quiet_step ((go_at_call 28; exact Calls.regrown_of (hap _ _))) | quiet_step ((go_at_call 28; exact Calls.regrown_of (hap _ _))) | (refine wpQuiet_step (fun K hK => ?_); go_simp; split <;> (refine hK _ ?_; clear hK K))))
              all_goals (refine wpQuiet_nil ?_; intro _ hw'; obtain ⟨⟨dq, osq⟩, hw''⟩ := hw'; subst hw'')
              have HQ5 := Lib.hid (HBR.out dq osq)
              clear HBR
              generalize grow (redrawn wr dq) osq = wq at *
              by_cases hbig : 40000 < JN.length
              · have f40 : decide ((40000 : Int) < (JN.length : Int)) = true := decide_eq_true (by omega)
                have HBG2 := HBIG hbig
                clear HBIG hbig
                go_wp2_with (first
                  | (fail)
                  | (go_at_call 15
                     refine (bs_str wo wo.heap.size J X _ HQ5.out HLE.out).mono ?_
                     rintro e w6 ⟨rfl, hs6, _⟩
                     have HB6 : Hid (BS wo wo.heap.size JN w6) := Lib.hid (by rw [HJ.out]; exact hs6)
                     clear hs6)
                  | (go_at_call 29
                     refine (bs_len wo wo.heap.size JN w6 HB6.out).mono ?_
                     rintro e w7 ⟨rfl, rfl⟩
                     skip))
                go_ret2
                exact ⟨congrArg Ending.returned HBG2.out.symm, HW.out.trans (HB6.out.below.mono HW.out.size)⟩
              · have f40 : decide ((40000 : Int) < (JN.length : Int)) = false := decide_eq_false (by omega)
                have HLN2 : Hid (JN.length ≤ 40000) := Lib.hid (by omega)
                clear HBIG hbig
                go_wp2_with (first
                  | (fail)
                  | (go_at_call 15
                     refine (bs_str wo wo.heap.size J X _ HQ5.out HLE.out).mono ?_
                     rintro e w6 ⟨rfl, hs6, _⟩
                     have HB6 : Hid (BS wo wo.heap.size JN w6) := Lib.hid (by rw [HJ.out]; exact hs6)
                     clear hs6)
                  | (go_at_call 29
                     refine (bs_len wo wo.heap.size JN w6 HB6.out).mono ?_
                     rintro e w7 ⟨rfl, rfl⟩
                     skip))
                go_round
                case rel => exact ⟨k + 1, by omega, by go_num, by rw [HJNE.out]; exact HB6, by rw [HJNE.out]; exact HLN2⟩
                case measure => simp [intOf]; omega
            | true =>
              rw [hab] at hap hJ
              have HJ : Hid (JN = (J ++ [32]) ++ writeL x) := Lib.hid (by rw [hJ, List.append_assoc]; rfl)
              clear hab hJ
              generalize writeL x = X at *
              generalize writeL a = Y at *
              have HLE : Hid ((J ++ [32]).length + X.length ≤ 140737488355328) := Lib.hid (by rw [List.length_append]; simp; omega)
              have HLE1 : Hid (J.length + 1 ≤ 140737488355328) := Lib.hid (by omega)
              go_wp2_with fail
              refine wp_region_quiet_below (by kernel_rfl) (by kernel_rfl) ?_
              repeat (any_goals (first | go_big_quiet_step ((go_at_call 28; exact Calls.regrown_of (hap _ _))) | quiet_step ((go_at_call 28; exact Calls.regrown_of (hap _ _))) | (refine wpQuiet_step (fun K hK => ?_); go_simp; split <;> (refine hK _ ?_; clear hK K))))
              all_goals (refine wpQuiet_nil ?_; intro _ hw'; obtain ⟨⟨dq, osq⟩, hw''⟩ := hw'; subst hw'')
              have HQ5 := Lib.hid (HBR.out dq osq)
              clear HBR
              generalize grow (redrawn wr dq) osq = wq at *
              by_cases hbig : 40000 < JN.length
              · have f40 : decide ((40000 : Int) < (JN.length : Int)) = true := decide_eq_true (by omega)
                have HBG2 := HBIG hbig
                clear HBIG hbig
                go_wp2_with (first
                  | (go_at_call 14; refine (bs_byte wo wo.heap.size J 32 _ HQ5.out HLE1.out).mono ?_; rintro e w5 ⟨rfl, hs5, _⟩; have HQ5 := Lib.hid hs5; clear hs5)
                  | (go_at_call 15
                     refine (bs_str wo wo.heap.size (J ++ [32]) X _ HQ5.out HLE.out).mono ?_
                     rintro e w6 ⟨rfl, hs6, _⟩
                     have HB6 : Hid (BS wo wo.heap.size JN w6) := Lib.hid (by rw [HJ.out]; exact hs6)
                     clear hs6)
                  | (go_at_call 29
                     refine (bs_len wo wo.heap.size JN w6 HB6.out).mono ?_
                     rintro e w7 ⟨rfl, rfl⟩
                     skip))
                go_ret2
                exact ⟨congrArg Ending.returned HBG2.out.symm, HW.out.trans (HB6.out.below.mono HW.out.size)⟩
              · have f40 : decide ((40000 : Int) < (JN.length : Int)) = false := decide_eq_false (by omega)
                have HLN2 : Hid (JN.length ≤ 40000) := Lib.hid (by omega)
                clear HBIG hbig
                go_wp2_with (first
                  | (go_at_call 14; refine (bs_byte wo wo.heap.size J 32 _ HQ5.out HLE1.out).mono ?_; rintro e w5 ⟨rfl, hs5, _⟩; have HQ5 := Lib.hid hs5; clear hs5)
                  | (go_at_call 15
                     refine (bs_str wo wo.heap.size (J ++ [32]) X _ HQ5.out HLE.out).mono ?_
                     rintro e w6 ⟨rfl, hs6, _⟩
                     have HB6 : Hid (BS wo wo.heap.size JN w6) := Lib.hid (by rw [HJ.out]; exact hs6)
                     clear hs6)
                  | (go_at_call 29
                     refine (bs_len wo wo.heap.size JN w6 HB6.out).mono ?_
                     rintro e w7 ⟨rfl, rfl⟩
                     skip))
                go_round
                case rel => exact ⟨k + 1, by omega, by go_num, by rw [HJNE.out]; exact HB6, by rw [HJNE.out]; exact HLN2⟩
                case measure => simp [intOf]; omega
        · obtain rfl : k = i := by omega
          have htk : l.take k = l := List.take_of_length_le (by have := HLN.out; omega)
          rw [htk] at HB HL
          have HOK : Hid (joinR l = .tuple #[strV (joinL l), .int .i64 0]) := Lib.hid (by
            unfold joinR
            rw [if_pos HALL.out, if_pos HL.out])
          clear htk
          generalize joinL l = J at *
          go_wp2_with (go_at_call 17
                       refine (bs_end wo wo.heap.size J _ HB.out).mono ?_
                       rintro e w6 ⟨rfl, hb6⟩
                       have HB6 := Lib.hid hb6
                       clear hb6)
          go_ret2
          exact ⟨congrArg Ending.returned HOK.out.symm, HW.out.trans (HB6.out.mono HW.out.size)⟩
end Go.Proofs.YtdloadeidijcoaaGreatDoor
