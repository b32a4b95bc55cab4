/- DERIVED. The reference's Write. -/
import Derived.Test.YtdloadeidijcoaaGreatDoorRChk
import Derived.Test.YtdloadeidijcoaaGreatDoorPWrt
set_option linter.unusedSimpArgs false
set_option linter.unusedVariables false
namespace Go.Proofs.YtdloadeidijcoaaGreatDoor
open Go.RowKit Go.Shelf

set_option maxRecDepth 100000 in
set_option maxHeartbeats 16000000 in
theorem rwrite_any (x : Tok) (w : World) (hs : x.text.length ≤ 1000000) : Calls Tryz.prog 7 #[encT x] w fun e w' => e = .returned (wrtV x) ∧ Below w.heap.size w w' := by
  have HB1 := Lib.hid ((Below.refl w.heap.size w).alloc (Nat.le_refl _) (.cells #[.int .i64 x.kind, .string ⟨x.text.toArray⟩, .int .i64 x.value, .int .i64 x.at_] RT))
  have HT1 := Lib.hid (BlkAt.new w RT #[.int .i64 x.kind, .string ⟨x.text.toArray⟩, .int .i64 x.value, .int .i64 x.at_])
  have hchk := rcheck_any x (w.alloc (.cells #[.int .i64 x.kind, .string ⟨x.text.toArray⟩, .int .i64 x.value, .int .i64 x.at_] RT)) hs
  have HR : Hid (wrtV x = .tuple #[strV (if rightB x then writeL x else []), .int .i64 (chkI x)]) := Lib.hid rfl
  have hci : (rightB x = true ∧ chkI x = 0) ∨ (rightB x = false ∧ chkI x = 2) := by
    unfold chkI
    cases rightB x <;> simp
  unfold encT strV at hchk
  rcases hci with ⟨hr, hc⟩ | ⟨hr, hc⟩
  · rw [hc] at hchk
    have HR2 : Hid (wrtV x = .tuple #[strV (writeL x), .int .i64 0]) := Lib.hid (by rw [HR.out, hr, hc]; rfl)
    clear hr hc HR
    by_cases h4 : x.kind = 4
    · have f4 : (x.kind != 4) = false := by simp [h4]
      have HW : Hid (writeL x = 34 :: (x.text.flatMap escB ++ [34])) := Lib.hid (by unfold writeL; rw [if_pos h4])
      clear h4
      unfold encT strV
      go_enter Tryz.func7, Tryz.ntmps7
      go_wp2_with (go_at_call 9
                   refine hchk.mono ?_
                   rintro e w2 ⟨rfl, hb2⟩
                   have HB2 := Lib.hid (HB1.out.trans (hb2.mono HB1.out.size))
                   have HT2 := Lib.hid (HT1.out.below hb2 HT1.out.lt)
                   clear hchk hb2
                   have e0 := HT2.out.cell 0
                   have e1 := HT2.out.cell 1
                   have e2 := HT2.out.cell 2
                   have e3 := HT2.out.cell 3
                   simp only [List.getElem?_toArray, List.getElem?_cons_succ, List.getElem?_cons_zero] at e0 e1 e2 e3
                   skip)
      clear e0 e1 e2 e3
      go_loopw [6, 7] (fun sv a wr => ∃ i : Nat, i ≤ x.text.length ∧ a = .int .i64 i ∧ sv = .string ⟨(34 :: (x.text.take i).flatMap escB).toArray⟩ ∧ Hid (BlkAt wr w.heap.size RT #[.int .i64 x.kind, .string ⟨x.text.toArray⟩, .int .i64 x.value, .int .i64 x.at_]) ∧ Hid (Below w.heap.size w wr)) (fun _ a _ => x.text.length - (intOf a).toNat)
      case atStart => exact ⟨0, by omega, rfl, rfl, HT2, HB2⟩
      case round =>
        obtain ⟨i, hi, rfl, rfl, HT, HB⟩ := hrel
        have hpl : (34 :: (x.text.take i).flatMap escB).length ≤ 4000001 := by
          have h1 := flat_len4 (x.text.take i)
          rw [List.length_take] at h1
          rw [List.length_cons]; omega
        have e0 := HT.out.cell 0
        have e1 := HT.out.cell 1
        have e2 := HT.out.cell 2
        have e3 := HT.out.cell 3
        simp only [List.getElem?_toArray, List.getElem?_cons_succ, List.getElem?_cons_zero] at e0 e1 e2 e3
        by_cases hlt : i < x.text.length
        · obtain ⟨c, hc⟩ := get_some hlt
          have hidx := idx_str x.text i c hc
          have HTK : Hid (34 :: (x.text.take (i + 1)).flatMap escB = (34 :: (x.text.take i).flatMap escB) ++ escB c) := Lib.hid (by rw [List.take_add_one, hc]; simp)
          generalize hP : 34 :: (x.text.take i).flatMap escB = P at *
          clear hP hc
          have hcv := fun W => conv_one c W
          have hwr : IntKind.i64.wrap ((i : Int) + 1) = (i : Int) + 1 := IntWalk.i64_in _ (by omega)
          have b92 : ∀ (p : List UInt8), (⟨p.toArray⟩ : ByteArray) ++ ⟨#[92]⟩ = ⟨(p ++ [92]).toArray⟩ := fun p => bcat2 p [92]
          by_cases h1 : c = 92
          · subst h1
            clear hcv
            have hcv92 : ∀ W : World, (convert 41 9 (.slice (some ⟨W.heap.size, 0, none⟩) 1 1)).run Tryz.prog (W.alloc (.cells #[.int .u8 92] 5)) = .ok (.string ⟨#[92]⟩) (W.alloc (.cells #[.int .u8 92] 5)) := fun W => conv_one 92 W
            have HE : Hid (P ++ [92, 92] = P ++ escB 92) := Lib.hid (by simp [escB])
            go_wp2_with fail
            go_roundw
            case rel => exact ⟨i + 1, by omega, by go_num, by rw [HTK.out, ← HE.out], Lib.hid (HT.out.alloc _), Lib.hid (HB.out.alloc HB.out.size _)⟩
            case measure => simp [intOf]; omega
          have f1 : ((c.toNat : Int) == 92) = false := u8_ne h1
          by_cases h2 : c = 34
          · subst h2
            clear hcv
            have hcv34 : ∀ W : World, (convert 41 9 (.slice (some ⟨W.heap.size, 0, none⟩) 1 1)).run Tryz.prog (W.alloc (.cells #[.int .u8 34] 5)) = .ok (.string ⟨#[34]⟩) (W.alloc (.cells #[.int .u8 34] 5)) := fun W => conv_one 34 W
            have b34 : ∀ (p : List UInt8), (⟨p.toArray⟩ : ByteArray) ++ ⟨#[34]⟩ = ⟨(p ++ [34]).toArray⟩ := fun p => bcat2 p [34]
            have HE : Hid (P ++ [92, 34] = P ++ escB 34) := Lib.hid (by simp [escB])
            clear h1 f1
            go_wp2_with fail
            go_roundw
            case rel => exact ⟨i + 1, by omega, by go_num, by rw [HTK.out, ← HE.out], Lib.hid (HT.out.alloc _), Lib.hid (HB.out.alloc HB.out.size _)⟩
            case measure => simp [intOf]; omega
          have f2 : ((c.toNat : Int) == 34) = false := u8_ne h2
          by_cases h3 : c = 10
          · subst h3
            have bn : ∀ (p : List UInt8), (⟨p.toArray⟩ : ByteArray) ++ ⟨#[92, 110]⟩ = ⟨(p ++ [92, 110]).toArray⟩ := fun p => bcat2 p [92, 110]
            have HE : Hid (P ++ [92, 110] = P ++ escB 10) := Lib.hid (by simp [escB])
            clear h1 f1 h2 f2
            go_wp2_with fail
            go_roundw
            case rel => exact ⟨i + 1, by omega, by go_num, by rw [HTK.out, ← HE.out], HT, HB⟩
            case measure => simp [intOf]; omega
          have f3 : ((c.toNat : Int) == 10) = false := u8_ne h3
          by_cases h5 : c = 9
          · subst h5
            have bn : ∀ (p : List UInt8), (⟨p.toArray⟩ : ByteArray) ++ ⟨#[92, 116]⟩ = ⟨(p ++ [92, 116]).toArray⟩ := fun p => bcat2 p [92, 116]
            have HE : Hid (P ++ [92, 116] = P ++ escB 9) := Lib.hid (by simp [escB])
            clear h1 f1 h2 f2 h3 f3
            go_wp2_with fail
            go_roundw
            case rel => exact ⟨i + 1, by omega, by go_num, by rw [HTK.out, ← HE.out], HT, HB⟩
            case measure => simp [intOf]; omega
          have f5 : ((c.toNat : Int) == 9) = false := u8_ne h5
          by_cases h6 : c < 32 ∨ 126 < c
          · have HE : Hid (P ++ [92, 120, hexD (c.toNat / 16), hexD (c.toNat % 16)] = P ++ escB c) := Lib.hid (by unfold escB; rw [if_neg (by simp [h1, h2]), if_neg h3, if_neg h5, if_pos h6])
            have hor : decide ((c.toNat : Int) < 32) = true ∨ (decide ((c.toNat : Int) < 32) = false ∧ decide ((126 : Int) < (c.toNat : Int)) = true) := by
              by_cases h : c < 32
              · left; have := UInt8.lt_iff_toNat_lt.1 h; simp at this; simp; omega
              · right
                have h8 := UInt8.lt_iff_toNat_lt.1 (h6.resolve_left h)
                have h9 : ¬ c.toNat < 32 := fun h' => h (UInt8.lt_iff_toNat_lt.2 (by simpa using h'))
                simp at h8
                exact ⟨by simp; omega, by simp; omega⟩
            clear h1 h2 h3 h5 h6
            have hd1 : (c.toNat : Int) / 16 = ((c.toNat / 16 : Nat) : Int) := by omega
            have hd2 : (c.toNat : Int) % 16 = ((c.toNat % 16 : Nat) : Int) := by omega
            have hq1 : Int.tdiv (c.toNat : Int) 16 = ((c.toNat / 16 : Nat) : Int) := by rw [Int.tdiv_eq_ediv_of_nonneg (by omega)]; exact hd1
            have hq2 : Int.tmod (c.toNat : Int) 16 = ((c.toNat % 16 : Nat) : Int) := by rw [Int.tmod_eq_emod_of_nonneg (by omega)]; exact hd2
            have hl1 : c.toNat / 16 < 16 := by have := c.toNat_lt; omega
            have hl2 : c.toNat % 16 < 16 := by omega
            generalize c.toNat / 16 = d1 at *
            generalize c.toNat % 16 = d2 at *
            have hw1 : IntKind.u8.wrap ((d1 : Int) + 1) = (d1 : Int) + 1 := wrap_low hl1
            have hw2 : IntKind.u8.wrap ((d2 : Int) + 1) = (d2 : Int) + 1 := wrap_low hl2
            have hw3 : IntKind.u8.wrap (d1 : Int) = (d1 : Int) := by
              have h' : ∀ n : Fin 16, IntKind.u8.wrap (n.val : Int) = (n.val : Int) := by decide +kernel
              exact h' ⟨d1, hl1⟩
            have hw4 : IntKind.u8.wrap (d2 : Int) = (d2 : Int) := by
              have h' : ∀ n : Fin 16, IntKind.u8.wrap (n.val : Int) = (n.val : Int) := by decide +kernel
              exact h' ⟨d2, hl2⟩
            have hm1 : ((d1 : Int) + 1) % 256 = (d1 : Int) + 1 := by omega
            have hm2 : ((d2 : Int) + 1) % 256 = (d2 : Int) + 1 := by omega
            have ht1 : ((d1 : Int) + 1).toNat = d1 + 1 := by omega
            have ht2 : ((d2 : Int) + 1).toNat = d2 + 1 := by omega
            have hx1 := hex_cut hl1
            have hx2 := hex_cut hl2
            have hb1 : (d1 : Int) + 1 ≤ 16 := by omega
            have hb2 : (d2 : Int) + 1 ≤ 16 := by omega
            have bx : ∀ (p : List UInt8), (⟨p.toArray⟩ : ByteArray) ++ ⟨#[92, 120]⟩ = ⟨(p ++ [92, 120]).toArray⟩ := fun p => bcat2 p [92, 120]
            have by1 : ∀ (p : List UInt8), (⟨p.toArray⟩ : ByteArray) ++ ⟨#[hexD d1]⟩ = ⟨(p ++ [hexD d1]).toArray⟩ := fun p => bcat2 p [hexD d1]
            have by2 : ∀ (p : List UInt8), (⟨p.toArray⟩ : ByteArray) ++ ⟨#[hexD d2]⟩ = ⟨(p ++ [hexD d2]).toArray⟩ := fun p => bcat2 p [hexD d2]
            clear hl1 hl2
            rcases hor with f6 | ⟨f6, f7⟩
            · go_wp2_with fail
              go_quiet (fail)
              go_wp2_with fail
              go_roundw
              case rel => exact ⟨i + 1, by omega, by go_num, by rw [HTK.out, ← HE.out], HT, Lib.hid (below_draw HB.out _)⟩
              case measure => simp [intOf]; omega
            · go_wp2_with fail
              go_quiet (fail)
              go_wp2_with fail
              go_roundw
              case rel => exact ⟨i + 1, by omega, by go_num, by rw [HTK.out, ← HE.out], HT, Lib.hid (below_draw HB.out _)⟩
              case measure => simp [intOf]; omega
          · have HE : Hid (P ++ [c] = P ++ escB c) := Lib.hid (by unfold escB; rw [if_neg (by simp [h1, h2]), if_neg h3, if_neg h5, if_neg h6])
            have h7 : ¬ c < 32 := fun h => h6 (.inl h)
            have h8 : ¬ 126 < c := fun h => h6 (.inr h)
            rw [UInt8.lt_iff_toNat_lt] at h7 h8
            simp at h7 h8
            have f6 : decide ((c.toNat : Int) < 32) = false := by simp; omega
            have f7 : decide ((126 : Int) < (c.toNat : Int)) = false := by simp; omega
            have bc : ∀ (p : List UInt8), (⟨p.toArray⟩ : ByteArray) ++ ⟨#[c]⟩ = ⟨(p ++ [c]).toArray⟩ := fun p => bcat2 p [c]
            clear h1 h2 h3 h5 h6 h7 h8
            go_wp2_with fail
            go_roundw
            case rel => exact ⟨i + 1, by omega, by go_num, by rw [HTK.out, ← HE.out], Lib.hid (HT.out.alloc _), Lib.hid (HB.out.alloc HB.out.size _)⟩
            case measure => simp [intOf]; omega
        · obtain rfl : i = x.text.length := by omega
          have b34 : ∀ (p : List UInt8), (⟨p.toArray⟩ : ByteArray) ++ ⟨#[34]⟩ = ⟨(p ++ [34]).toArray⟩ := fun p => bcat2 p [34]
          have HE : Hid ((34 :: (x.text.take x.text.length).flatMap escB) ++ [34] = writeL x) := Lib.hid (by rw [HW.out, List.take_length]; simp)
          generalize 34 :: (x.text.take x.text.length).flatMap escB = P at *
          go_wp2_with fail
          go_ret2
          exact ⟨congrArg Ending.returned (by rw [HR2.out, ← HE.out]; rfl), HB.out⟩
    · have f4 : (x.kind != 4) = true := by simp [h4]
      have HW : Hid (writeL x = x.text) := Lib.hid (by unfold writeL; rw [if_neg h4])
      clear h4
      unfold encT strV
      go_enter Tryz.func7, Tryz.ntmps7
      go_wp2_with (go_at_call 9
                   refine hchk.mono ?_
                   rintro e w2 ⟨rfl, hb2⟩
                   have HB2 := Lib.hid (HB1.out.trans (hb2.mono HB1.out.size))
                   have HT2 := Lib.hid (HT1.out.below hb2 HT1.out.lt)
                   clear hchk hb2
                   have e0 := HT2.out.cell 0
                   have e1 := HT2.out.cell 1
                   have e2 := HT2.out.cell 2
                   have e3 := HT2.out.cell 3
                   simp only [List.getElem?_toArray, List.getElem?_cons_succ, List.getElem?_cons_zero] at e0 e1 e2 e3
                   skip)
      go_ret2
      exact ⟨congrArg Ending.returned (by rw [HR2.out, HW.out]; rfl), HB2.out⟩
  · rw [hc] at hchk
    have HR2 : Hid (wrtV x = .tuple #[strV [], .int .i64 2]) := Lib.hid (by rw [HR.out, hr, hc]; rfl)
    clear hr hc HR
    unfold encT strV
    go_enter Tryz.func7, Tryz.ntmps7
    go_wp2_with (go_at_call 9
                 refine hchk.mono ?_
                 rintro e w2 ⟨rfl, hb2⟩
                 have HB2 := Lib.hid (HB1.out.trans (hb2.mono HB1.out.size))
                 clear hchk hb2)
    go_ret2
    exact ⟨congrArg Ending.returned (by rw [HR2.out]; rfl), HB2.out⟩
end Go.Proofs.YtdloadeidijcoaaGreatDoor
