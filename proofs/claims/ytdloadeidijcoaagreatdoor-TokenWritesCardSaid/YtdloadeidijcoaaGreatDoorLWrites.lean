/- DERIVED. The law TokenWrites, walked. -/
import Derived.Test.YtdloadeidijcoaaGreatDoorRJoin
import Derived.Test.YtdloadeidijcoaaGreatDoorPConv
import Derived.Test.YtdloadeidijcoaaGreatDoorAwake
set_option linter.unusedSimpArgs false
set_option linter.unusedVariables false
namespace Go.Proofs.YtdloadeidijcoaaGreatDoor
open Go.RowKit Go.Shelf Go.Sort

theorem joinR_form (l : List Tok) : ∃ (S : List UInt8) (E : Int), joinR l = .tuple #[.string ⟨S.toArray⟩, .int .i64 E] := by
  unfold joinR strV
  split
  · split
    · exact ⟨_, _, rfl⟩
    · exact ⟨_, _, rfl⟩
  · exact ⟨_, _, rfl⟩
set_option maxRecDepth 100000 in
set_option maxHeartbeats 16000000 in
theorem tokenWrites_any (A : Option Addr) (n c : Nat) (l : List Tok) (w : World) (hV : Vars w) (hR : Rd encTL 4 w A n l) (hq : n ≤ 10000000000000 ∧ ∀ y ∈ l, y.text.length ≤ 140737488355328) :
    Calls Tryz.prog 3 #[.slice A n c] w fun e w' => e = .returned (.bool true) ∧ Below w.heap.size w w' := by
  have HAW : Hid (∀ W, Vars W → Calls Tryz.prog 5 #[] W fun e w' => e = .returned (.bool true) ∧ Below W.heap.size W w') := Lib.hid awake_any
  have HV := Lib.hid hV
  have HR := Lib.hid hR
  have hfew := few_any A n c l w hR hq.1 hq.2
  have HLN := Lib.hid hR.len
  clear hV hR
  cases hfw : fewB l with
  | false =>
    rw [hfw] at hfew
    clear hfw hq
    go_enter Tryz.func3, Tryz.ntmps3
    go_wp2_with (first
      |
        (go_at_call 4
         refine hfew.mono ?_
         rintro e w2 ⟨rfl, hb2⟩
         have HB2 := Lib.hid hb2
         have HV2 := Lib.hid (HV.out.below hb2)
         have HR2 := Lib.hid (HR.out.below hb2)
         clear hfew hb2)
      |
        (go_at_call 5; refine (HAW.out w2 HV2.out).mono ?_; rintro e w11 ⟨rfl, hb11⟩; have HB11 := Lib.hid (HB2.out.trans (hb11.mono HB2.out.size)); clear hb11)
      | fail)
    go_ret
    exact ⟨rfl, HB11.out⟩
  | true =>
  rw [hfw] at hfew
  have hf2 : l.length ≤ 300 ∧ sumT l ≤ 2000 := by
    unfold fewB at hfw
    simpa using hfw
  have HX3 : Hid (∀ y ∈ l, y.text.length ≤ 3000) := Lib.hid (fun x hx => by have := mem_len l x hx hf2.2; omega)
  have hn3 : n ≤ 300 := by have := HLN.out; omega
  clear hfw hq hf2
  obtain ⟨JS, JE, hjr⟩ := joinR_form l
  have HJR := Lib.hid hjr
  clear hjr
  go_enter Tryz.func3, Tryz.ntmps3
  go_wp2_with (first
    |
      (go_at_call 4
       refine hfew.mono ?_
       rintro e w2 ⟨rfl, hb2⟩
       have HB2 := Lib.hid hb2
       have HV2 := Lib.hid (HV.out.below hb2)
       have HR2 := Lib.hid (HR.out.below hb2)
       clear hfew hb2)
    | fail)
  go_loopw [19] (fun a wr => ∃ i : Nat, i ≤ n ∧ a = .int .i64 i ∧ Hid (Below w2.heap.size w2 wr)) (fun a _ => n - (intOf a).toNat)
  case atStart => exact ⟨0, by omega, rfl, Lib.hid (Below.refl _ _)⟩
  case round =>
    obtain ⟨i, hin, rfl, HW⟩ := hrel
    by_cases hlt : i < n
    · obtain ⟨x, hx⟩ := get_some (xs := l) (k := i) (by have := HLN.out; omega)
      have hxs := HX3.out x (List.mem_of_getElem? hx)
      obtain ⟨bl, ol, rfl, _, hcl⟩ := (HR2.out.below HW.out).at_ i x hx
      have c0 := hcl 0 _ rfl
      have c1 := hcl 1 _ rfl
      have c2 := hcl 2 _ rfl
      have c3 := hcl 3 _ rfl
      rw [Nat.add_zero] at c0
      unfold strV at c1
      have hk0 : (0 : Int) ≤ (i : Int) := by omega
      have hk1 : (i : Int) < (n : Int) := by omega
      have wr1 : IntKind.i64.wrap ((i : Int) + 1) = (i : Int) + 1 := IntWalk.i64_in _ (by omega)
      have HW1 := Lib.hid (HW.out.alloc HW.out.size (.cells #[.int .i64 x.kind, .string ⟨x.text.toArray⟩, .int .i64 x.value, .int .i64 x.at_] RT))
      have HT1 := Lib.hid (BlkAt.new wr RT #[.int .i64 x.kind, .string ⟨x.text.toArray⟩, .int .i64 x.value, .int .i64 x.at_])
      have hwr := write_any x (wr.alloc (.cells #[.int .i64 x.kind, .string ⟨x.text.toArray⟩, .int .i64 x.value, .int .i64 x.at_] RT)) (by omega) (HV2.out.below HW1.out)
      have hrw := fun W => rwrite_any x W (by omega)
      have hck := fun W (hV : Vars W) => check_any x W (by omega) hV
      have hrk := fun W => rcheck_any x W (by omega)
      unfold wrtV at hwr hrw
      generalize (if rightB x then writeL x else []) = S at *
      generalize chkI x = K at *
      unfold encT strV at hwr hrw hck hrk
      have hss : (S == S) = true := beq_self_eq_true S
      have hkk : (K != K) = false := bne_self_eq_false K
      clear hcl hx hxs
      go_wp2_with (first
        | (go_at_call 6
           refine hwr.mono ?_
           rintro e w4 ⟨rfl, hb4⟩
           have HB4 := Lib.hid (HW1.out.trans (hb4.mono HW1.out.size))
           have HT4 := Lib.hid (HT1.out.below hb4 HT1.out.lt)
           clear hb4 hwr
           have e0 := HT4.out.cell 0
           have e1 := HT4.out.cell 1
           have e2 := HT4.out.cell 2
           have e3 := HT4.out.cell 3
           simp only [List.getElem?_toArray, List.getElem?_cons_succ, List.getElem?_cons_zero] at e0 e1 e2 e3
           skip)
        | (go_at_call 7
           refine (hrw w4).mono ?_
           rintro e w5 ⟨rfl, hb5⟩
           have HB5 := Lib.hid (HB4.out.trans (hb5.mono HB4.out.size))
           have HT5 := Lib.hid (HT4.out.below hb5 HT4.out.lt)
           have HV5 : Hid (∀ d os, Vars (grow (redrawn w5 d) os)) := Lib.hid (fun d os => (HV2.out.below HB5.out).below (below_regrown w5 d os))
           clear hb5 hrw e0 e1 e2 e3
           have e0 := HT5.out.cell 0
           have e1 := HT5.out.cell 1
           have e2 := HT5.out.cell 2
           have e3 := HT5.out.cell 3
           simp only [List.getElem?_toArray, List.getElem?_cons_succ, List.getElem?_cons_zero] at e0 e1 e2 e3
           have e0 := cell_regrown e0
           have e1 := cell_regrown e1
           have e2 := cell_regrown e2
           have e3 := cell_regrown e3))
      refine wp_region_quiet_below (by kernel_rfl) (by kernel_rfl) ?_
      repeat (any_goals (first | go_big_quiet_step (first | (go_at_call 8; exact Calls.regrown_of (hck _ (HV5.out _ _))) | (go_at_call 9; exact Calls.regrown_of (hrk _))) | quiet_step (first | (go_at_call 8; exact Calls.regrown_of (hck _ (HV5.out _ _))) | (go_at_call 9; exact Calls.regrown_of (hrk _))) | (refine wpQuiet_step (fun K hK => ?_); go_simp; split <;> (refine hK _ ?_; clear hK K))))
      all_goals (refine wpQuiet_nil ?_; intro _ hw'; obtain ⟨⟨dq, osq⟩, hw''⟩ := hw'; subst hw'')
      have HB6 := Lib.hid (HB5.out.trans ((below_regrown w5 dq osq).mono HB5.out.size))
      generalize grow (redrawn w5 dq) osq = wq at *
      go_wp2_with fail
      go_round
      case rel => exact ⟨i + 1, by omega, by go_num, HB6⟩
      case measure => simp [intOf]; omega
    · obtain rfl : i = n := by omega
      have HVR := Lib.hid (HV2.out.below HW.out)
      have HRR := Lib.hid (HR2.out.below HW.out)
      have HBR := Lib.hid (HB2.out.trans (HW.out.mono HB2.out.size))
      have HX4 := Lib.hid HX3.out
      go_wp2_with (first
        | (go_at_call 11
           refine (convert_any A i c l wr HRR.out (by omega)).mono ?_
           rintro e w3 ⟨v3, rfl, hr3, hb3⟩
           rw [HLN.out] at hr3
           obtain ⟨A3, c3, rfl, hrd3, _⟩ := rd_own (enc := encTL) (k := 4) encTL_len hr3
           have HRD3 := Lib.hid hrd3
           have HRR3 := Lib.hid (HRR.out.below hb3)
           have HB3 := Lib.hid (HBR.out.trans (hb3.mono HBR.out.size))
           have HV3 := Lib.hid (HVR.out.below hb3)
           clear hr3 hb3 hrd3)
        | (go_at_call 10
           refine (join_any A3 l.length c3 l w3 HRD3.out (by rw [← HLN.out]; omega) HX3.out HV3.out).mono ?_
           rw [HJR.out]
           rintro e w4 ⟨rfl, hb4⟩
           have HRR4 := Lib.hid (HRR3.out.below hb4)
           have HB4 := Lib.hid (HB3.out.trans (hb4.mono HB3.out.size))
           have HV4 := Lib.hid (HV3.out.below hb4)
           clear hb4)
        | (go_at_call 12
           refine (rjoin_any A i c l w4 HRR4.out (by omega) HX4.out).mono ?_
           rw [HJR.out]
           rintro e w5 ⟨rfl, hb5⟩
           have HB5 := Lib.hid (HB4.out.trans (hb5.mono HB4.out.size))
           have HV5 := Lib.hid (HV4.out.below hb5)
           have hss : (JS == JS) = true := beq_self_eq_true JS
           clear hb5)
        |
          (go_at_call 5; refine (HAW.out w5 HV5.out).mono ?_; rintro e w11 ⟨rfl, hb11⟩; have HB11 := Lib.hid (HB5.out.trans (hb11.mono HB5.out.size)); clear hb11)
        | fail)
      go_ret
      exact ⟨rfl, HB11.out⟩
end Go.Proofs.YtdloadeidijcoaaGreatDoor
