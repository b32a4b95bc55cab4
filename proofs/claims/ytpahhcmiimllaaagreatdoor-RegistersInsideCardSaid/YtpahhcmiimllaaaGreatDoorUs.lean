/- DERIVED. The program's Uses. -/
import Derived.Test.YtpahhcmiimllaaaGreatDoorDel2
import Derived.Test.YtpahhcmiimllaaaGreatDoorCd
import Derived.Laws.AppendOwnNone
set_option linter.unusedSimpArgs false
set_option linter.unusedVariables false
namespace Go.Proofs.YtpahhcmiimllaaaGreatDoor
open Go.RowKit Go.Shelf

theorem alloc_szc {W : World} {o : Obj} {k : Nat} (h : k ≤ W.heap.size) : k ≤ (W.alloc o).heap.size := Nat.le_trans h (by rw [show (W.alloc o).heap.size = W.heap.size + 1 from Array.size_push _]; omega)

theorem int_info28 : (Tryz.prog.info? 3).map (fun i => (i.zero, i.size, i.bytes)) = some (some (.int .i64 0), 1, 8) := by kernel_rfl
def readsK (x : InsL) (k : Nat) : List Int := (((fieldsOf x).take k).filter (fun f => kindRead f.1)).map (·.2)
def writeK (x : InsL) (k : Nat) : Int := ((((fieldsOf x).take k).filter (fun f => kindWrite f.1)).map (·.2)).getLast?.getD (-1)
theorem readsK_succ (x : InsL) (k : Nat) (f : Int × Int) (h : (fieldsOf x)[k]? = some f) : readsK x (k + 1) = readsK x k ++ (if kindRead f.1 then [f.2] else []) := by
  unfold readsK
  rw [List.take_add_one, h, List.filter_append, List.map_append]
  cases hk : kindRead f.1 <;> simp [hk]
theorem writeK_succ (x : InsL) (k : Nat) (f : Int × Int) (h : (fieldsOf x)[k]? = some f) : writeK x (k + 1) = if kindWrite f.1 then f.2 else writeK x k := by
  unfold writeK
  rw [List.take_add_one, h, List.filter_append, List.map_append]
  cases hk : kindWrite f.1 <;> simp [hk]
theorem fields_len (x : InsL) : (fieldsOf x).length = 4 := rfl
theorem fieldsC_at (x : InsL) (k : Nat) (f : Int × Int) (h : (fieldsOf x)[k]? = some f) : (fieldsC x.op x).extract (k * 2) (k * 2 + 2) = #[.int .i64 f.1, .int .i64 f.2] := by
  match k, h with
  | 0, h => cases h; rfl
  | 1, h => cases h; rfl
  | 2, h => cases h; rfl
  | 3, h => cases h; rfl
  | k + 4, h => simp [fieldsOf] at h
theorem pair_sz (w : World) : (sizeOf 103).run Tryz.prog w = .ok 2 w := Tryz.sizeOf103 w
theorem pair_agg (w : World) : (isAgg 103).run Tryz.prog w = .ok true w := Tryz.isAgg103 w
set_option maxRecDepth 100000 in
set_option maxHeartbeats 8000000 in
theorem uses_any (x : InsL) (Ai : Option Addr) (ni ci : Nat) (w : World) (hI : Rd encI 1 w Ai ni x.list) (hn : ni ≤ 100000) (hnil : Ai = none → ci = 0) :
    Calls Tryz.prog 19 #[insV x Ai ni ci] w fun e w' => (∃ A n c, e = .returned (.tuple #[.slice A n c, .int .i64 (usesW x)]) ∧ Rd encI 1 w' A n (usesR x) ∧ ∀ a, A = some a → ∃ cs, BlkAt w' a.block 3 cs) ∧ Below w.heap.size w w' := by
  have HB0 := Lib.hid ((Below.refl w.heap.size w).alloc (Nat.le_refl _) (.cells #[.int .i64 x.op, .int .i64 x.a, .int .i64 x.b, .int .i64 x.c, .int .i64 x.d, .string ⟨x.text.toArray⟩, .slice Ai ni ci] 55))
  have HX0 := Lib.hid (BlkAt.new w 55 #[.int .i64 x.op, .int .i64 x.a, .int .i64 x.b, .int .i64 x.c, .int .i64 x.d, .string ⟨x.text.toArray⟩, .slice Ai ni ci])
  have hru := fun W => ruleOf_any x.op W
  cases hop : opOK x.op with
  | false =>
    rw [hop] at hru
    have HW1 : Hid (usesW x = -1) := Lib.hid (by unfold usesW; rw [hop]; rfl)
    have HR1 : Hid (usesR x = []) := Lib.hid (by unfold usesR; rw [hop]; rfl)
    simp only [Bool.false_eq_true, if_false] at hru
    unfold rule0V at hru
    have HRU := Lib.hid hru
    clear hru hop hI
    unfold insV
    go_enter Tryz.func19, Tryz.ntmps19
    go_wp2_with (first
      | (go_at_call 52
         refine (HRU.out _).mono ?_
         rintro e w2 ⟨rfl, hb2⟩
         have HB2 := Lib.hid (HB0.out.trans (hb2.mono HB0.out.size))
         have HB3 := Lib.hid (HB2.out.alloc HB2.out.size (.cells #[.string ⟨#[]⟩, .int .i64 0, .int .i64 0, .int .i64 0, .int .i64 0, .string ⟨#[]⟩] 100))
         clear hb2 HRU)
      | fail)
    go_ret2
    exact ⟨⟨none, 0, 0, by rw [HW1.out]; rfl, by rw [HR1.out]; exact ⟨⟨rfl, by simp⟩, fun a h => by cases h⟩⟩, HB3.out⟩
  | true =>
    rw [hop] at hru
    have HRW : Hid (usesR x = (readsK x 4 ++ x.list).filter (· != -1)) := Lib.hid (by unfold usesR; rw [hop, if_pos rfl]; rfl)
    have HWW : Hid (usesW x = writeK x 4) := Lib.hid (by unfold usesW; rw [hop, if_pos rfl]; rfl)
    simp only [if_true] at hru
    have hfi := fun W => fields_any x.op x Ai ni ci W
    have hix : ∀ (k : Nat) (f : Int × Int), (fieldsOf x)[k]? = some f → ∀ W, (Instr.index 104 (.agg (fieldsC x.op x)) (.int .i64 k)).run Tryz.prog W = .ok (.agg #[.int .i64 f.1, .int .i64 f.2]) W := fun k f hf W => by
      have hk : k < 4 := (List.getElem?_eq_some_iff.1 hf).1
      rw [run_index_arr 104 103 4 2 _ .i64 k W Tryz.underlying104 (pair_sz W) (pair_agg W) (by omega) (by omega), Int.toNat_natCast, fieldsC_at x k f hf]
    unfold ruleV at hru hfi
    unfold insV at hfi
    have HRU := Lib.hid hru
    have HFI := Lib.hid hfi
    have HIX := Lib.hid hix
    have HI := Lib.hid hI
    clear hru hfi hix hI hop
    generalize fieldsC x.op x = FC at *
    generalize (wordT.getD x.op.toNat []).toArray = W0 at *
    generalize (textT x.op).toArray = T0 at *
    generalize (kindsOf x.op).1 = k1 at *
    generalize (kindsOf x.op).2.1 = k2 at *
    generalize (kindsOf x.op).2.2.1 = k3 at *
    generalize (kindsOf x.op).2.2.2 = k4 at *
    unfold insV
    go_enter Tryz.func19, Tryz.ntmps19
    go_wp2_with (first
      | (go_at_call 52
         refine (HRU.out _).mono ?_
         rintro e w2 ⟨rfl, hb2⟩
         have HB2 := Lib.hid (HB0.out.trans (hb2.mono HB0.out.size))
         have HX2 := Lib.hid (HX0.out.below hb2 HX0.out.lt)
         have HRA := Lib.hid ((Below.refl w2.heap.size w2).alloc (Nat.le_refl _) (.cells #[.string ⟨W0⟩, .int .i64 k1, .int .i64 k2, .int .i64 k3, .int .i64 k4, .string ⟨T0⟩] 100))
         have HX3 := Lib.hid (HX2.out.below HRA.out HX2.out.lt)
         have HB3 := Lib.hid (HB2.out.trans (HRA.out.mono HB2.out.size))
         have c0 := HX3.out.cell 0
         have c1 := HX3.out.cell 1
         have c2 := HX3.out.cell 2
         have c3 := HX3.out.cell 3
         have c4 := HX3.out.cell 4
         have c5 := HX3.out.cell 5
         have c6 := HX3.out.cell 6
         simp only [List.getElem?_toArray, List.getElem?_cons_succ, List.getElem?_cons_zero] at c0 c1 c2 c3 c4 c5 c6
         clear hb2 HRU)
      | (go_at_call 53
         refine (HFI.out _).mono ?_
         rintro e w4 ⟨rfl, hb4⟩
         have HB4 := Lib.hid (HB3.out.trans (hb4.mono HB3.out.size))
         have HX4 := Lib.hid (HX3.out.below hb4 HX3.out.lt)
         clear hb4 HFI)
      | fail)
    clear c0 c1 c2 c3 c4 c5 c6
    obtain ⟨i0, hi0, hy0, hy1, hy2⟩ := info_parts int_info28
    have HI0 := Lib.hid hi0
    clear hi0
    go_loopw [2, 3, 19] (fun r wv k wr => ∃ i : Nat, i ≤ 4 ∧ k = .int .i64 i ∧ wv = .int .i64 (writeK x i) ∧ Hid (wr.ownsRow w4.heap.size 3 1 r (readsK x i).length ((readsK x i).map (Value.int .i64))) ∧ Hid (Below w4.heap.size w4 wr)) (fun _ _ k _ => 4 - (intOf k).toNat)
    case atStart => exact ⟨0, by omega, rfl, rfl, Lib.hid ⟨rfl, .inl ⟨rfl, rfl⟩⟩, Lib.hid (Below.refl _ _)⟩
    case round =>
      obtain ⟨i, hin, rfl, rfl, HO, HW⟩ := hrel
      by_cases hlt : i < 4
      · obtain ⟨⟨kd, v⟩, hf⟩ := get_some (xs := fieldsOf x) (k := i) (by rw [fields_len]; omega)
        have hix := HIX.out i _ hf
        have hk1 : (i : Int) < 4 := by omega
        have wr1 : IntKind.i64.wrap ((i : Int) + 1) = (i : Int) + 1 := IntWalk.i64_in _ (by omega)
        obtain ⟨AA, cc, rfl, hLc, _, _⟩ := own_slice HO.out
        have HBP := Lib.hid (HW.out.alloc HW.out.size (.cells #[.int .i64 kd, .int .i64 v] 103))
        have HO1 := Lib.hid (own_below HO.out ((Below.refl wr.heap.size wr).alloc (Nat.le_refl _) (.cells #[.int .i64 kd, .int .i64 v] 103)))
        obtain ⟨L, hL⟩ : ∃ L, L = (readsK x i).length := ⟨_, rfl⟩
        have HLL := Lib.hid hL
        have hL4 : L ≤ 4 := by
          rw [hL]; unfold readsK
          rw [List.length_map]
          refine Nat.le_trans (List.length_filter_le _ _) ?_
          rw [List.length_take, fields_len]; omega
        rw [← hL] at HO1 HO ⊢
        clear hL HO
        simp only at hix
        by_cases k1' : kd = 1
        · subst k1'
          have HR2 : Hid (readsK x (i + 1) = readsK x i ++ [v]) := Lib.hid (by rw [readsK_succ x i _ hf]; rfl)
          have HW2 : Hid (writeK x (i + 1) = writeK x i) := Lib.hid (by rw [writeK_succ x i _ hf]; rfl)
          clear hf
          go_wp2_with (first
            | (at_builtin
               refine wpList_append_own_at _ rfl _ _ 27 rfl w4.heap.size 3 i0 (.int .i64 0) 1 8 Tryz.underlying27 HI0.out hy0 hy1 hy2 rfl (by decide) (.slice AA L cc) _ _ rfl (HO1.out.alloc _) ⟨wr.heap.size + 1, 0, none⟩ 1 1 [.int .i64 v] rfl rfl (cells_new' _ [.int .i64 v] _ _ (Array.size_push _)) (by simp [Value.oneCell']) (by unfold maxLen; omega) (by omega) (alloc_szc HBP.out.size) ?_
               intro v' w6 hrow' hgrow _ hob
               have HO6 := Lib.hid hrow'
               have HB6 := Lib.hid ((HBP.out.alloc HBP.out.size (.cells #[.int .i64 v] 3)).grown hgrow (alloc_szc HBP.out.size) (fun j e => (own_lt HO1.out e).1))
               clear hrow' hgrow hob)
            | fail)
          go_roundw
          case rel => exact ⟨i + 1, by omega, by go_num, by rw [HW2.out], Lib.hid (by rw [HR2.out, List.length_append, List.map_append, ← HLL.out]; exact HO6.out), HB6⟩
          case measure => simp [intOf]; omega
        by_cases k2' : kd = 2
        · subst k2'
          have HR2 : Hid (readsK x (i + 1) = readsK x i ++ [v]) := Lib.hid (by rw [readsK_succ x i _ hf]; rfl)
          have HW2 : Hid (writeK x (i + 1) = writeK x i) := Lib.hid (by rw [writeK_succ x i _ hf]; rfl)
          clear hf
          go_wp2_with (first
            | (at_builtin
               refine wpList_append_own_at _ rfl _ _ 27 rfl w4.heap.size 3 i0 (.int .i64 0) 1 8 Tryz.underlying27 HI0.out hy0 hy1 hy2 rfl (by decide) (.slice AA L cc) _ _ rfl (HO1.out.alloc _) ⟨wr.heap.size + 1, 0, none⟩ 1 1 [.int .i64 v] rfl rfl (cells_new' _ [.int .i64 v] _ _ (Array.size_push _)) (by simp [Value.oneCell']) (by unfold maxLen; omega) (by omega) (alloc_szc HBP.out.size) ?_
               intro v' w6 hrow' hgrow _ hob
               have HO6 := Lib.hid hrow'
               have HB6 := Lib.hid ((HBP.out.alloc HBP.out.size (.cells #[.int .i64 v] 3)).grown hgrow (alloc_szc HBP.out.size) (fun j e => (own_lt HO1.out e).1))
               clear hrow' hgrow hob)
            | fail)
          go_roundw
          case rel => exact ⟨i + 1, by omega, by go_num, by rw [HW2.out], Lib.hid (by rw [HR2.out, List.length_append, List.map_append, ← HLL.out]; exact HO6.out), HB6⟩
          case measure => simp [intOf]; omega
        have g1 : (kd == 1) = false := by simp [k1']
        have g2 : (kd == 2) = false := by simp [k2']
        have hkr : kindRead kd = false := by unfold kindRead; rw [g1, g2]; rfl
        by_cases k3' : kd = 3
        · subst k3'
          have HR2 : Hid (readsK x (i + 1) = readsK x i) := Lib.hid (by rw [readsK_succ x i _ hf]; simp [kindRead])
          have HW2 : Hid (writeK x (i + 1) = v) := Lib.hid (by rw [writeK_succ x i _ hf]; rfl)
          clear hf
          go_wp2_with fail
          go_roundw
          case rel => exact ⟨i + 1, by omega, by go_num, by rw [HW2.out], Lib.hid (by rw [HR2.out, ← HLL.out]; exact HO1.out), HBP⟩
          case measure => simp [intOf]; omega
        by_cases k4' : kd = 4
        · subst k4'
          have HR2 : Hid (readsK x (i + 1) = readsK x i) := Lib.hid (by rw [readsK_succ x i _ hf]; simp [kindRead])
          have HW2 : Hid (writeK x (i + 1) = v) := Lib.hid (by rw [writeK_succ x i _ hf]; rfl)
          clear hf
          go_wp2_with fail
          go_roundw
          case rel => exact ⟨i + 1, by omega, by go_num, by rw [HW2.out], Lib.hid (by rw [HR2.out, ← HLL.out]; exact HO1.out), HBP⟩
          case measure => simp [intOf]; omega
        have g3 : (kd == 3) = false := by simp [k3']
        have g4 : (kd == 4) = false := by simp [k4']
        have HR2 : Hid (readsK x (i + 1) = readsK x i) := Lib.hid (by rw [readsK_succ x i _ hf]; simp [hkr])
        have HW2 : Hid (writeK x (i + 1) = writeK x i) := Lib.hid (by rw [writeK_succ x i _ hf, if_neg]; unfold kindWrite; rw [g3, g4]; decide)
        clear k1' k2' k3' k4' hkr
        clear hf
        go_wp2_with fail
        go_roundw
        case rel => exact ⟨i + 1, by omega, by go_num, by rw [HW2.out], Lib.hid (by rw [HR2.out, ← HLL.out]; exact HO1.out), HBP⟩
        case measure => simp [intOf]; omega
      · obtain rfl : i = 4 := by omega
        have HX5 := Lib.hid (HX4.out.below HW.out HX4.out.lt)
        have c6 := HX5.out.cell 6
        simp only [List.getElem?_toArray, List.getElem?_cons_succ, List.getElem?_cons_zero] at c6
        have HIW := Lib.hid ((HI.out.below HB4.out).below HW.out)
        have HLI := Lib.hid HI.out.len
        obtain ⟨AA, cc, rfl, hLc, _, _⟩ := own_slice HO.out
        have hL4 : (readsK x 4).length ≤ 4 := by
          unfold readsK
          rw [List.length_map]
          refine Nat.le_trans (List.length_filter_le _ _) ?_
          rw [List.length_take, fields_len]; omega
        clear hlt
        cases hAi : Ai with
        | none =>
          subst hAi
          have HLE : Hid (x.list = []) := Lib.hid (by
            rw [← List.length_eq_zero_iff]
            cases hl : x.list with
            | nil => rfl
            | cons y r =>
              obtain ⟨b, o, e, _⟩ := HI.out.at_ 0 y (by rw [hl]; rfl)
              cases e)
          have HN0 : Hid (ni = 0) := Lib.hid (by rw [HLI.out, HLE.out]; rfl)
          have HO7 : Hid (wr.ownsRow w4.heap.size 3 1 (.slice AA (readsK x 4).length cc) (readsK x 4 ++ x.list).length ((readsK x 4 ++ x.list).map (Value.int .i64))) := Lib.hid (by rw [HLE.out, List.append_nil]; exact HO.out)
          have HB7 := HW
          obtain rfl := HN0.out
          obtain rfl := hnil rfl
          go_wp2_with (first
            | (at_builtin
               refine wpList_append_own_none rfl _ _ 27 rfl w4.heap.size 3 i0 1 Tryz.underlying27 HI0.out (.slice AA (readsK x 4).length cc) _ _ rfl HO.out rfl ?_)
            |
              (go_at_call 54
               refine (delOwn_any (readsK x 4 ++ x.list) w4.heap.size _ _ HO7.out HB7.out.size).mono ?_
               rintro e w8 ⟨⟨A8, n8, c8, rfl, hr8⟩, hb8⟩
               have HR8 := Lib.hid hr8
               have HB8 := Lib.hid (HB4.out.trans ((HB7.out.trans hb8).mono HB4.out.size))
               clear hr8 hb8)
            | fail)
          go_ret2
          exact ⟨⟨A8, n8, c8, by rw [HWW.out]; rfl, by rw [HRW.out]; exact HR8.out⟩, HB8.out⟩
        | some a =>
          subst hAi
          have hcl : ∀ j u, (x.list.map (Value.int .i64))[j]? = some u → wr.cell? (a.add j) = some u := fun j u hu => by
            rw [List.getElem?_map] at hu
            cases hy : x.list[j]? with
            | none => rw [hy] at hu; cases hu
            | some y =>
              rw [hy] at hu
              obtain ⟨b, o, e, _, hc⟩ := HIW.out.at_ j y hy
              cases e
              cases hu
              have := hc 0 _ rfl
              rw [Nat.add_zero, Nat.mul_one] at this
              by_cases e0 : j = 0 <;> simpa [Addr.add, e0] using this
          have HCL := Lib.hid hcl
          have HNI : Hid ((x.list.map (Value.int .i64)).length = ni * 1) := Lib.hid (by rw [List.length_map, Nat.mul_one]; exact HLI.out.symm)
          have HLL : Hid ((readsK x 4).length + ni = (readsK x 4 ++ x.list).length) := Lib.hid (by rw [List.length_append, HLI.out])
          clear hcl
          go_wp2_with (first
            | (at_builtin
               refine wpList_append_own_at _ rfl _ _ 27 rfl w4.heap.size 3 i0 (.int .i64 0) 1 8 Tryz.underlying27 HI0.out hy0 hy1 hy2 rfl (by decide) (.slice AA (readsK x 4).length cc) _ _ rfl HO.out a ni ci (x.list.map (Value.int .i64)) rfl HNI.out HCL.out (by intro u hu; obtain ⟨y, _, rfl⟩ := List.mem_map.1 hu; rfl) (by unfold maxLen; omega) (by omega) HW.out.size ?_
               intro v' w6 hrow' hgrow _ hob
               have HO7 : Hid (w6.ownsRow w4.heap.size 3 1 v' (readsK x 4 ++ x.list).length ((readsK x 4 ++ x.list).map (Value.int .i64))) := Lib.hid (by rw [← HLL.out, List.map_append]; exact hrow')
               have HB7 := Lib.hid (HW.out.grown hgrow HW.out.size (fun j e => (own_lt HO.out e).1))
               clear hrow' hgrow hob)
            |
              (go_at_call 54
               refine (delOwn_any (readsK x 4 ++ x.list) w4.heap.size _ _ HO7.out HB7.out.size).mono ?_
               rintro e w8 ⟨⟨A8, n8, c8, rfl, hr8⟩, hb8⟩
               have HR8 := Lib.hid hr8
               have HB8 := Lib.hid (HB4.out.trans ((HB7.out.trans hb8).mono HB4.out.size))
               clear hr8 hb8)
            | fail)
          go_ret2
          exact ⟨⟨A8, n8, c8, by rw [HWW.out]; rfl, by rw [HRW.out]; exact HR8.out⟩, HB8.out⟩
end Go.Proofs.YtpahhcmiimllaaaGreatDoor
