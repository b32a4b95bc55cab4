/- DERIVED. The reference's Same, together and Join. -/
import Derived.Test.YtdloadeidijcoaaGreatDoorRWrt
import Derived.Test.YtdloadeidijcoaaGreatDoorPJoin
import Derived.Test.YtdloadeidijcoaaGreatDoorTog
import Derived.Test.YtdloadeidijcoaaGreatDoorRScan
set_option linter.unusedSimpArgs false
set_option linter.unusedVariables false
namespace Go.Proofs.YtdloadeidijcoaaGreatDoor
open Go.RowKit Go.Shelf Go.Sort

set_option maxRecDepth 100000 in
set_option maxHeartbeats 4000000 in
theorem rsame1_any (x y : Tok) (w : World) : Calls Tryz.prog 44 #[encT x, encT y] w fun e w' => e = .returned (.bool (alikeT x y)) ∧ Below w.heap.size w w' := by
  have HB := Lib.hid (((Below.refl w.heap.size w).alloc (Nat.le_refl _) (.cells #[.int .i64 x.kind, .string ⟨x.text.toArray⟩, .int .i64 x.value, .int .i64 x.at_] RT)).alloc (by simp) (.cells #[.int .i64 y.kind, .string ⟨y.text.toArray⟩, .int .i64 y.value, .int .i64 y.at_] RT))
  have HE : Hid (alikeT x y = ((x.kind == y.kind && x.text == y.text) && x.value == y.value)) := Lib.hid rfl
  unfold encT strV
  cases h1 : (x.kind == y.kind) <;> cases h2 : (x.text == y.text) <;> cases h3 : (x.value == y.value) <;> rw [h1, h2, h3] at HE <;>
  · go_enter Tryz.func44, Tryz.ntmps44
    go_wp2_with fail
    go_ret
    exact ⟨ret_bool (by rw [HE.out]; rfl), HB.out⟩
theorem two_list {ts : List Tok} (h : ts.length = 2) : ∃ p q, ts = [p, q] := by
  match ts, h with
  | [p, q], _ => exact ⟨p, q, rfl⟩
set_option maxRecDepth 100000 in
set_option maxHeartbeats 8000000 in
theorem rtog_any (x y : Tok) (s t : List UInt8) (w : World) (hl : s.length + t.length ≤ 40000) :
    Calls Tryz.prog 30 #[encT x, encT y, strV s, strV t] w fun e w' => e = .returned (.bool (togB x y s t)) ∧ Below w.heap.size w w' := by
  have hb0 : Below w.heap.size w ((w.alloc (.cells #[.int .i64 x.kind, .string ⟨x.text.toArray⟩, .int .i64 x.value, .int .i64 x.at_] RT)).alloc (.cells #[.int .i64 y.kind, .string ⟨y.text.toArray⟩, .int .i64 y.value, .int .i64 y.at_] RT)) :=
    ((Below.refl w.heap.size w).alloc (Nat.le_refl _) _).alloc (by simp) _
  have HX0 : Hid (BlkAt ((w.alloc (.cells #[.int .i64 x.kind, .string ⟨x.text.toArray⟩, .int .i64 x.value, .int .i64 x.at_] RT)).alloc (.cells #[.int .i64 y.kind, .string ⟨y.text.toArray⟩, .int .i64 y.value, .int .i64 y.at_] RT)) w.heap.size RT #[.int .i64 x.kind, .string ⟨x.text.toArray⟩, .int .i64 x.value, .int .i64 x.at_]) := Lib.hid ((BlkAt.new w RT _).alloc _)
  have HY0 : Hid (BlkAt ((w.alloc (.cells #[.int .i64 x.kind, .string ⟨x.text.toArray⟩, .int .i64 x.value, .int .i64 x.at_] RT)).alloc (.cells #[.int .i64 y.kind, .string ⟨y.text.toArray⟩, .int .i64 y.value, .int .i64 y.at_] RT)) (w.heap.size + 1) RT #[.int .i64 y.kind, .string ⟨y.text.toArray⟩, .int .i64 y.value, .int .i64 y.at_]) := Lib.hid (by
    have := BlkAt.new (w.alloc (.cells #[.int .i64 x.kind, .string ⟨x.text.toArray⟩, .int .i64 x.value, .int .i64 x.at_] RT)) RT #[.int .i64 y.kind, .string ⟨y.text.toArray⟩, .int .i64 y.value, .int .i64 y.at_]
    rwa [show (w.alloc (.cells #[.int .i64 x.kind, .string ⟨x.text.toArray⟩, .int .i64 x.value, .int .i64 x.at_] RT)).heap.size = w.heap.size + 1 from Array.size_push _] at this)
  have hsc := rscan_any (s ++ t) ((w.alloc (.cells #[.int .i64 x.kind, .string ⟨x.text.toArray⟩, .int .i64 x.value, .int .i64 x.at_] RT)).alloc (.cells #[.int .i64 y.kind, .string ⟨y.text.toArray⟩, .int .i64 y.value, .int .i64 y.at_] RT)) (by rw [List.length_append]; omega)
  have HB0 := Lib.hid hb0
  have HAP : Hid (togB x y s t = match scanL (s ++ t).length (s ++ t) with | .ok [p, q] => alikeT p x && alikeT q y | _ => false) := Lib.hid rfl
  have hcat : (⟨s.toArray⟩ : ByteArray) ++ ⟨t.toArray⟩ = ⟨(s ++ t).toArray⟩ := ba_app2 _ _
  have hn1 : (9223372036854775807 < s.length + t.length) = False := by simp; omega
  clear hb0 hl
  generalize togB x y s t = AP at *
  generalize hst : s ++ t = S at *
  clear hst
  unfold strV at hsc
  rcases hS : scanL S.length S with ts | ⟨i, er⟩
  · rw [hS] at hsc
    by_cases h2 : ts.length = 2
    · obtain ⟨p, q, rfl⟩ := two_list h2
      have HR : Hid (AP = (alikeT p x && alikeT q y)) := Lib.hid (by rw [HAP.out, hS])
      have hsm : ∀ (u v : Tok) (W : World), Calls Tryz.prog 44 #[.agg #[.int .i64 u.kind, .string ⟨u.text.toArray⟩, .int .i64 u.value, .int .i64 u.at_], .agg #[.int .i64 v.kind, .string ⟨v.text.toArray⟩, .int .i64 v.value, .int .i64 v.at_]] W fun e w' => e = .returned (.bool (alikeT u v)) ∧ Below W.heap.size W w' := fun u v W => rsame1_any u v W
      have HSM := Lib.hid hsm
      clear hS HAP h2 hsm
      unfold encT strV
      cases hA1 : alikeT p x <;> cases hA2 : alikeT q y <;> rw [hA1, hA2] at HR <;>
      · go_enter Tryz.func30, Tryz.ntmps30
        go_wp2_with (first
          | (go_at_call 43
             refine hsc.mono ?_
             rintro e w2 ⟨⟨v, rfl, hr⟩, hb2⟩
             obtain ⟨A2', c2, rfl, _, _, hg⟩ := own_slice hr
             obtain ⟨g, rfl, _, _, hcs⟩ := hg (by simp)
             have HB2 := Lib.hid (HB0.out.trans (hb2.mono HB0.out.size))
             have HX2 := Lib.hid (HX0.out.below hb2 HX0.out.lt)
             have HY2 := Lib.hid (HY0.out.below hb2 HY0.out.lt)
             have k0 := HX2.out.cell 0
             have k1 := HX2.out.cell 1
             have k2 := HX2.out.cell 2
             have k3 := HX2.out.cell 3
             have m0 := HY2.out.cell 0
             have m1 := HY2.out.cell 1
             have m2 := HY2.out.cell 2
             have m3 := HY2.out.cell 3
             simp only [List.getElem?_toArray, List.getElem?_cons_succ, List.getElem?_cons_zero] at k0 k1 k2 k3 m0 m1 m2 m3
             have k0 := cell_regrown k0
             have k1 := cell_regrown k1
             have k2 := cell_regrown k2
             have k3 := cell_regrown k3
             have m0 := cell_regrown m0
             have m1 := cell_regrown m1
             have m2 := cell_regrown m2
             have m3 := cell_regrown m3
             have p0 := cell_regrown (hcs 0 _ rfl)
             have p1 := cell_regrown (hcs 1 _ rfl)
             have p2 := cell_regrown (hcs 2 _ rfl)
             have p3 := cell_regrown (hcs 3 _ rfl)
             have q0 := cell_regrown (hcs 4 _ rfl)
             have q1 := cell_regrown (hcs 5 _ rfl)
             have q2 := cell_regrown (hcs 6 _ rfl)
             have q3 := cell_regrown (hcs 7 _ rfl)
             unfold strV at p1 q1
             clear hr hb2 hsc hcs))
        refine wp_region_quiet_below (by kernel_rfl) (by kernel_rfl) ?_
        repeat (any_goals (first | go_big_quiet_step ((go_at_call 44; exact Calls.regrown_of (HSM.out _ _ _))) | quiet_step ((go_at_call 44; exact Calls.regrown_of (HSM.out _ _ _))) | (refine wpQuiet_step (fun K hK => ?_); go_simp; split <;> (refine hK _ ?_; clear hK K))))
        all_goals (refine wpQuiet_nil ?_; intro _ hw'; obtain ⟨⟨dq, osq⟩, hw''⟩ := hw'; subst hw'')
        go_wp2_with fail
        go_ret
        exact ⟨ret_bool (by rw [HR.out]; rfl), HB2.out.trans ((below_regrown w2 dq osq).mono HB2.out.size)⟩
    · have HR : Hid (AP = false) := Lib.hid (by
        rw [HAP.out, hS]
        split
        · rename_i h; cases h; exact absurd rfl h2
        · rfl)
      have hn2 : ((ts.length : Int) == 2) = false := by simp; omega
      clear hS HAP h2
      unfold encT strV
      go_enter Tryz.func30, Tryz.ntmps30
      go_wp2_with (first
        | (go_at_call 43
           refine hsc.mono ?_
           rintro e w2 ⟨⟨v, rfl, hr⟩, hb2⟩
           obtain ⟨A2', c2, rfl, _, _, _⟩ := own_slice hr
           have HB2 := Lib.hid (HB0.out.trans (hb2.mono HB0.out.size))
           clear hr hb2 hsc))
      refine wp_region_quiet_below (by kernel_rfl) (by kernel_rfl) ?_
      repeat (any_goals (first | go_big_quiet_step ((fail)) | quiet_step ((fail)) | (refine wpQuiet_step (fun K hK => ?_); go_simp; split <;> (refine hK _ ?_; clear hK K))))
      all_goals (refine wpQuiet_nil ?_; intro _ hw'; obtain ⟨⟨dq, osq⟩, hw''⟩ := hw'; subst hw'')
      go_wp2_with fail
      go_ret
      exact ⟨ret_bool HR.out.symm, HB2.out.trans ((below_regrown w2 dq osq).mono HB2.out.size)⟩
  · rw [hS] at hsc
    have HR : Hid (AP = false) := Lib.hid (by rw [HAP.out, hS])
    have hne : (er == 0) = false := by simp; exact scan_err _ _ _ _ _ (Nat.le_refl _) hS
    clear hS HAP
    unfold encT strV
    go_enter Tryz.func30, Tryz.ntmps30
    go_wp2_with (first
      | (go_at_call 43
         refine hsc.mono ?_
         rintro e w2 ⟨rfl, hb2⟩
         have HB2 := Lib.hid (HB0.out.trans (hb2.mono HB0.out.size))
         clear hb2 hsc))
    refine wp_region_quiet_below (by kernel_rfl) (by kernel_rfl) ?_
    repeat (any_goals (first | go_big_quiet_step ((fail)) | quiet_step ((fail)) | (refine wpQuiet_step (fun K hK => ?_); go_simp; split <;> (refine hK _ ?_; clear hK K))))
    all_goals (refine wpQuiet_nil ?_; intro _ hw'; obtain ⟨⟨dq, osq⟩, hw''⟩ := hw'; subst hw'')
    go_wp2_with fail
    go_ret
    exact ⟨ret_bool HR.out.symm, HB2.out.trans ((below_regrown w2 dq osq).mono HB2.out.size)⟩
theorem joinL_len (l : List Tok) (h : ∀ y ∈ l, y.text.length ≤ 3000) (hn : l.length ≤ 10000) : (joinL l).length ≤ 1000000000 := by
  have h1 := join_len l
  have h2 : sumW l ≤ l.length * 12002 := by
    clear h1 hn
    induction l with
    | nil => simp [sumW]
    | cons x r ih =>
      have h3 := ih (fun y hy => h y (List.mem_cons_of_mem _ hy))
      have h4 := h x List.mem_cons_self
      have h5 := write_len x
      rw [sumW, List.length_cons, Nat.add_mul, Nat.one_mul]; omega
  omega
set_option maxRecDepth 100000 in
set_option maxHeartbeats 16000000 in
theorem rjoin_any (A : Option Addr) (n c : Nat) (l : List Tok) (w : World) (hR : Rd encTL 4 w A n l) (hn : n ≤ 10000) (hs : ∀ y ∈ l, y.text.length ≤ 3000) :
    Calls Tryz.prog 12 #[.slice A n c] w fun e w' => e = .returned (joinR l) ∧ Below w.heap.size w w' := by
  have HR := Lib.hid hR
  have HLN := Lib.hid hR.len
  have HS := Lib.hid hs
  clear hR hs
  go_enter Tryz.func12, Tryz.ntmps12
  go_wp2_with fail
  go_loopw [4, 5, 6] (fun sv bv a wr => ∃ (i : Nat) (Bf : List UInt8), i ≤ n ∧ a = .int .i64 i ∧ sv = .string ⟨(joinL (l.take i)).toArray⟩ ∧ bv = .string ⟨Bf.toArray⟩ ∧ Hid (∀ y ∈ l.take i, rightB y = true) ∧ Hid (∀ j y, i = j + 1 → l[j]? = some y → Bf = writeL y) ∧ Hid (Below w.heap.size w wr)) (fun _ _ a _ => n - (intOf a).toNat)
  case atStart => exact ⟨0, [], by omega, rfl, rfl, rfl, Lib.hid (by simp), Lib.hid (by simp), Lib.hid (Below.refl _ _)⟩
  case round =>
    obtain ⟨i, Bf, hin, rfl, rfl, rfl, HRT, HBF, HW⟩ := hrel
    have hjl : (joinL (l.take i)).length ≤ 1000000000 := joinL_len _ (fun y hy => HS.out y (List.mem_of_mem_take hy)) (by rw [List.length_take]; have := HLN.out; omega)
    by_cases hlt : i < n
    · obtain ⟨x, hx⟩ := get_some (xs := l) (k := i) (by have := HLN.out; omega)
      have hxs := HS.out x (List.mem_of_getElem? hx)
      have hwl := write_len x
      have hJ := joinL_take l i x hx
      have HRN : rightB x = true → Hid (∀ y ∈ l.take (i + 1), rightB y = true) := fun h => Lib.hid (fun y hy => by
        rw [List.take_add_one, hx] at hy
        rcases List.mem_append.1 hy with hy | hy
        · exact HRT.out y hy
        · simp at hy; rw [hy]; exact h)
      have HNO : rightB x = false → Hid (joinR l = .tuple #[strV [], .int .i64 2]) := fun h => Lib.hid (by
        unfold joinR
        rw [if_neg]
        intro hall
        have := List.all_eq_true.1 hall x (List.mem_of_getElem? hx)
        rw [h] at this; cases this)
      have HBN : Hid (∀ j y, i + 1 = j + 1 → l[j]? = some y → writeL x = writeL y) := Lib.hid (fun j y hj hy => by
        obtain rfl : i = j := by omega
        rw [hx] at hy; cases hy; rfl)
      obtain ⟨bl, ol, rfl, _, hcl⟩ := (HR.out.below HW.out).at_ i x hx
      have c0 := hcl 0 _ rfl
      have c1 := hcl 1 _ rfl
      have c2 := hcl 2 _ rfl
      have c3 := hcl 3 _ rfl
      rw [Nat.add_zero] at c0
      unfold strV at c1
      have hk0 : (0 : Int) ≤ (i : Int) := by omega
      have hk1 : (i : Int) < (n : Int) := by omega
      have wr1 : IntKind.i64.wrap ((i : Int) + 1) = (i : Int) + 1 := IntWalk.i64_in _ (by omega)
      have hwr := rwrite_any x wr (by omega)
      unfold wrtV chkI encT strV at hwr
      cases hrt : rightB x with
      | false =>
        rw [hrt] at hwr
        have HNO2 := HNO hrt
        clear HRN HNO hJ hx hcl
        simp only [Bool.false_eq_true, if_false] at hwr
        go_wp2_with (go_at_call 7
                     refine hwr.mono ?_
                     rintro e w4 ⟨rfl, hb4⟩
                     have HB4 := Lib.hid (HW.out.trans (hb4.mono HW.out.size))
                     clear hb4 hwr)
        go_ret2
        exact ⟨congrArg Ending.returned HNO2.out.symm, HB4.out⟩
      | true =>
        rw [hrt] at hwr
        have HRN2 := HRN hrt
        clear HRN HNO
        simp only [if_true] at hwr
        by_cases hz : i = 0
        · have f0 : ¬ 0 < i := by omega
          have hg : gapJ (l.take i) x = [] := by rw [hz]; rfl
          rw [hg, List.nil_append] at hJ
          have HJ := Lib.hid hJ
          clear hJ hg hz hcl hx hrt
          have hcat : (⟨(joinL (l.take i)).toArray⟩ : ByteArray) ++ ⟨(writeL x).toArray⟩ = ⟨(joinL (l.take i) ++ writeL x).toArray⟩ := ba_app2 _ _
          have hn1 : (9223372036854775807 < (joinL (l.take i)).length + (writeL x).length) = False := by simp; omega
          generalize joinL (l.take i) = J at *
          generalize writeL x = X at *
          go_wp2_with (go_at_call 7
                       refine hwr.mono ?_
                       rintro e w4 ⟨rfl, hb4⟩
                       have HB4 := Lib.hid (HW.out.trans (hb4.mono HW.out.size))
                       clear hb4 hwr)
          refine wp_region_quiet_below (by kernel_rfl) (by kernel_rfl) ?_
          repeat (any_goals (first | go_big_quiet_step ((fail)) | quiet_step ((fail)) | (refine wpQuiet_step (fun K hK => ?_); go_simp; split <;> (refine hK _ ?_; clear hK K))))
          all_goals (refine wpQuiet_nil ?_; intro _ hw'; obtain ⟨⟨dq, osq⟩, hw''⟩ := hw'; subst hw'')
          have HB5 := Lib.hid (HB4.out.trans ((below_regrown w4 dq osq).mono HB4.out.size))
          generalize grow (redrawn w4 dq) osq = wq at *
          go_wp2_with fail
          go_roundw
          case rel => exact ⟨i + 1, X, by omega, by go_num, by rw [HJ.out], rfl, HRN2, HBN, HB5⟩
          case measure => simp [intOf]; omega
        · have f0 : 0 < i := by omega
          obtain ⟨j, hj⟩ : ∃ j, i = j + 1 := ⟨i - 1, by omega⟩
          have wj : IntKind.i64.wrap ((i : Int) - 1) = (j : Int) := by rw [show (i : Int) - 1 = (j : Int) by omega]; exact IntWalk.i64_in _ (by omega)
          have hj0 : (0 : Int) ≤ (j : Int) := by omega
          have hj1 : (j : Int) < (n : Int) := by omega
          obtain ⟨a, ha⟩ := get_some (xs := l) (k := j) (by have := HLN.out; omega)
          have has_ := HS.out a (List.mem_of_getElem? ha)
          have hal := write_len a
          have har : rightB a = true := HRT.out a (List.mem_iff_getElem?.2 ⟨j, by rw [List.getElem?_take_of_lt (by omega)]; exact ha⟩)
          have hg : gapJ (l.take i) x = if apartB a x then [32] else [] := by rw [hj]; exact gapJ_some l j a x ha
          rw [hg] at hJ
          obtain rfl : Bf = writeL a := HBF.out j a hj ha
          obtain ⟨bl', ol', hgl, _, hcm⟩ := (HR.out.below HW.out).at_ j a ha
          injection hgl with hgl
          injection hgl with hgl hol
          subst hgl; subst hol
          have la0 := hcm 0 _ rfl
          have la1 := hcm 1 _ rfl
          have la2 := hcm 2 _ rfl
          have la3 := hcm 3 _ rfl
          rw [Nat.add_zero] at la0
          unfold strV at la1
          have hap := fun W => rtog_any a x (writeL a) (writeL x) W (by omega)
          rw [tog_apart har hrt] at hap
          have HLOW : Hid (∀ W, Below wr.heap.size wr W → ∀ p v, wr.cell? p = some v → W.cell? p = some v) := Lib.hid (fun W hb p v h => cell_below hb (Nat.le_refl _) h)
          unfold encT strV at hap
          have HJ : Hid (joinL (l.take (i + 1)) = joinL (l.take i) ++ ((if apartB a x then [32] else []) ++ writeL x)) := Lib.hid hJ
          clear hcl hcm ha hx hg hz hj har hrt hJ HBF
          have hcat : ∀ q : List UInt8, (⟨(joinL (l.take i)).toArray⟩ : ByteArray) ++ ⟨q.toArray⟩ = ⟨(joinL (l.take i) ++ q).toArray⟩ := fun q => ba_app2 _ q
          have hcat2 : (⟨(joinL (l.take i) ++ [32]).toArray⟩ : ByteArray) ++ ⟨(writeL x).toArray⟩ = ⟨(joinL (l.take i) ++ [32] ++ writeL x).toArray⟩ := ba_app2 _ _
          have hcat3 : (⟨(joinL (l.take i)).toArray⟩ : ByteArray) ++ ⟨#[32]⟩ = ⟨(joinL (l.take i) ++ [32]).toArray⟩ := bcat2 _ [32]
          have hn1 : (9223372036854775807 < (joinL (l.take i)).length + (writeL x).length) = False := by simp; omega
          have hn2 : (9223372036854775807 < (joinL (l.take i)).length + 1) = False := by simp; omega
          have hn3 : (9223372036854775807 < (joinL (l.take i)).length + 1 + (writeL x).length) = False := by simp; omega
          generalize joinL (l.take i) = J at *
          generalize writeL x = X at *
          generalize writeL a = Y at *
          cases hab : apartB a x with
          | false =>
            rw [hab] at hap HJ
            have HJ2 : Hid (joinL (l.take (i + 1)) = J ++ X) := Lib.hid (by rw [HJ.out]; rfl)
            clear hab HJ
            go_wp2_with (go_at_call 7
                         refine hwr.mono ?_
                         rintro e w4 ⟨rfl, hb4⟩
                         have HB4 := Lib.hid (HW.out.trans (hb4.mono HW.out.size))
                         have d0 := cell_regrown (HLOW.out _ hb4 _ _ c0)
                         have d1 := cell_regrown (HLOW.out _ hb4 _ _ c1)
                         have d2 := cell_regrown (HLOW.out _ hb4 _ _ c2)
                         have d3 := cell_regrown (HLOW.out _ hb4 _ _ c3)
                         have e0 := cell_regrown (HLOW.out _ hb4 _ _ la0)
                         have e1 := cell_regrown (HLOW.out _ hb4 _ _ la1)
                         have e2 := cell_regrown (HLOW.out _ hb4 _ _ la2)
                         have e3 := cell_regrown (HLOW.out _ hb4 _ _ la3)
                         clear hb4 hwr)
            refine wp_region_quiet_below (by kernel_rfl) (by kernel_rfl) ?_
            repeat (any_goals (first | go_big_quiet_step ((go_at_call 30; exact Calls.regrown_of (hap _))) | quiet_step ((go_at_call 30; exact Calls.regrown_of (hap _))) | (refine wpQuiet_step (fun K hK => ?_); go_simp; split <;> (refine hK _ ?_; clear hK K))))
            all_goals (refine wpQuiet_nil ?_; intro _ hw'; obtain ⟨⟨dq, osq⟩, hw''⟩ := hw'; subst hw'')
            have HB5 := Lib.hid (HB4.out.trans ((below_regrown w4 dq osq).mono HB4.out.size))
            generalize grow (redrawn w4 dq) osq = wq at *
            go_wp2_with fail
            go_roundw
            case rel => exact ⟨i + 1, X, by omega, by go_num, by rw [HJ2.out], rfl, HRN2, HBN, HB5⟩
            case measure => simp [intOf]; omega
          | true =>
            rw [hab] at hap HJ
            have HJ2 : Hid (joinL (l.take (i + 1)) = J ++ 32 :: X) := Lib.hid (by rw [HJ.out]; rfl)
            clear hab HJ
            go_wp2_with (go_at_call 7
                         refine hwr.mono ?_
                         rintro e w4 ⟨rfl, hb4⟩
                         have HB4 := Lib.hid (HW.out.trans (hb4.mono HW.out.size))
                         have d0 := cell_regrown (HLOW.out _ hb4 _ _ c0)
                         have d1 := cell_regrown (HLOW.out _ hb4 _ _ c1)
                         have d2 := cell_regrown (HLOW.out _ hb4 _ _ c2)
                         have d3 := cell_regrown (HLOW.out _ hb4 _ _ c3)
                         have e0 := cell_regrown (HLOW.out _ hb4 _ _ la0)
                         have e1 := cell_regrown (HLOW.out _ hb4 _ _ la1)
                         have e2 := cell_regrown (HLOW.out _ hb4 _ _ la2)
                         have e3 := cell_regrown (HLOW.out _ hb4 _ _ la3)
                         clear hb4 hwr)
            refine wp_region_quiet_below (by kernel_rfl) (by kernel_rfl) ?_
            repeat (any_goals (first | go_big_quiet_step ((go_at_call 30; exact Calls.regrown_of (hap _))) | quiet_step ((go_at_call 30; exact Calls.regrown_of (hap _))) | (refine wpQuiet_step (fun K hK => ?_); go_simp; split <;> (refine hK _ ?_; clear hK K))))
            all_goals (refine wpQuiet_nil ?_; intro _ hw'; obtain ⟨⟨dq, osq⟩, hw''⟩ := hw'; subst hw'')
            have HB5 := Lib.hid (HB4.out.trans ((below_regrown w4 dq osq).mono HB4.out.size))
            generalize grow (redrawn w4 dq) osq = wq at *
            go_wp2_with fail
            go_roundw
            case rel => exact ⟨i + 1, X, by omega, by go_num, by rw [HJ2.out], rfl, HRN2, HBN, HB5⟩
            case measure => simp [intOf]; omega
    · obtain rfl : i = n := by omega
      have htk : l.take i = l := List.take_of_length_le (by have := HLN.out; omega)
      rw [htk] at HRT hjl
      rw [htk]
      have HOK : Hid (joinR l = if (joinL l).length ≤ 40000 then .tuple #[strV (joinL l), .int .i64 0] else .tuple #[strV [], .int .i64 7]) := Lib.hid (by
        unfold joinR
        rw [if_pos (List.all_eq_true.2 HRT.out)])
      clear htk
      generalize joinL l = J at *
      by_cases hbig : 40000 < J.length
      · have f40 : decide ((40000 : Int) < (J.length : Int)) = true := decide_eq_true (by omega)
        rw [if_neg (by omega)] at HOK
        go_wp2_with fail
        go_ret2
        exact ⟨congrArg Ending.returned HOK.out.symm, HW.out⟩
      · have f40 : decide ((40000 : Int) < (J.length : Int)) = false := decide_eq_false (by omega)
        rw [if_pos (by omega)] at HOK
        go_wp2_with fail
        go_ret2
        exact ⟨congrArg Ending.returned HOK.out.symm, HW.out⟩
end Go.Proofs.YtdloadeidijcoaaGreatDoor
