/- DERIVED. The law TokenGaps, walked. -/
import Derived.Test.YtdloadeidijcoaaDoorPGap
import Derived.Test.YtdloadeidijcoaaDoorPEqs
import Derived.Test.YtdloadeidijcoaaDoorLScans
set_option linter.unusedSimpArgs false
set_option linter.unusedVariables false
namespace Go.Proofs.YtdloadeidijcoaaDoor
open Go.RowKit Go.Shelf

theorem gapL_snoc (gap : Nat → List UInt8) (t : Tok) : ∀ (l : List Tok) (i : Nat), gapL gap (l ++ [t]) i = gapL gap l i ++ (writeL t ++ gap (i + l.length + 1))
  | [], i => by simp [gapL]
  | a :: r, i => by
    rw [List.cons_append, gapL, gapL, gapL_snoc gap t r (i + 1), List.length_cons, show i + 1 + r.length + 1 = i + (r.length + 1) + 1 by omega]
    simp [List.append_assoc]
theorem gapT_snoc (gap : Nat → List UInt8) (t : Tok) : ∀ (l : List Tok) (i o : Nat), gapT gap (l ++ [t]) i o = gapT gap l i o ++ [t.put ((o + (gapL gap l i).length : Nat) : Int)]
  | [], i, o => by simp [gapT, gapL]
  | a :: r, i, o => by
    rw [List.cons_append, gapT, gapT, gapT_snoc gap t r (i + 1), gapL]
    simp only [List.cons_append, List.length_append]
    rw [show o + (gap i).length + (writeL a).length + (gapL gap r (i + 1)).length = o + ((gap i).length + ((writeL a).length + (gapL gap r (i + 1)).length)) by omega]
theorem gapT_len (gap : Nat → List UInt8) : ∀ (l : List Tok) (i o : Nat), (gapT gap l i o).length = l.length
  | [], i, o => by simp [gapT]
  | a :: r, i, o => by rw [gapT, List.length_cons, gapT_len gap r, List.length_cons]
theorem gapF_len (bs : List UInt8) (i : Nat) : (gapF bs i).length ≤ 20 := by
  unfold gapF
  split
  · decide
  · rw [List.length_cons, List.length_append, List.length_singleton]
    have := betw_len ((bs.getD (i % bs.length) 0).toNat % 7)
    omega
theorem writeL_len (x : Tok) : (writeL x).length ≤ 4 * x.text.length + 2 := by
  unfold writeL
  split
  · have := flat_len4 x.text
    rw [List.length_cons, List.length_append, List.length_singleton]; omega
  · omega
theorem alloc_sz {W : World} {o : Obj} {k : Nat} (h : k ≤ W.heap.size) : k ≤ (W.alloc o).heap.size := Nat.le_trans h (by rw [show (W.alloc o).heap.size = W.heap.size + 1 from Array.size_push _]; omega)
theorem gap_bel (w : World) : Below w.heap.size w ((w.alloc (.cells #[.string ⟨#[32]⟩, .string ⟨#[10]⟩, .string ⟨#[9, 13, 32]⟩, .string ⟨#[47, 42, 42, 47]⟩, .string ⟨#[32, 47, 47, 32, 120, 32, 34, 32, 47, 42, 10]⟩, .string ⟨#[47, 42, 32, 97, 32, 47, 42, 32, 34, 32, 42, 47, 32, 47, 47, 32, 42, 47]⟩, .string ⟨#[10, 10]⟩] 9)).alloc (.cells #[.slice (some ⟨w.heap.size, 0, none⟩) 7 7] 34)) :=
  ((Below.refl w.heap.size w).alloc (Nat.le_refl _) _).alloc (by rw [show (w.alloc _).heap.size = w.heap.size + 1 from Array.size_push _]; omega) _
theorem gap_new {A : Option Addr} {n c : Nat} {bs : List UInt8} {gb : Nat} {w : World} (h : Rd encBL 1 w A n bs) (hx : BlkAt w gb 32 #[.slice A n c]) :
    GapAt A n c bs gb (w.heap.size + 1) w.heap.size ((w.alloc (.cells #[.string ⟨#[32]⟩, .string ⟨#[10]⟩, .string ⟨#[9, 13, 32]⟩, .string ⟨#[47, 42, 42, 47]⟩, .string ⟨#[32, 47, 47, 32, 120, 32, 34, 32, 47, 42, 10]⟩, .string ⟨#[47, 42, 32, 97, 32, 47, 42, 32, 34, 32, 42, 47, 32, 47, 47, 32, 42, 47]⟩, .string ⟨#[10, 10]⟩] 9)).alloc (.cells #[.slice (some ⟨w.heap.size, 0, none⟩) 7 7] 34)) := by
  have hs : (w.alloc (.cells betw 9)).heap.size = w.heap.size + 1 := Array.size_push _
  have hb : Below w.heap.size w ((w.alloc (.cells betw 9)).alloc (.cells #[.slice (some ⟨w.heap.size, 0, none⟩) 7 7] 34)) := ((Below.refl w.heap.size w).alloc (Nat.le_refl _) _).alloc (by rw [hs]; omega) _
  have h2 := BlkAt.new (w.alloc (.cells betw 9)) 34 #[.slice (some ⟨w.heap.size, 0, none⟩) 7 7]
  rw [hs] at h2
  exact (⟨h.below hb, hx.below hb hx.lt, h2, (BlkAt.new w _ _).alloc _⟩ : GapAt A n c bs gb (w.heap.size + 1) w.heap.size ((w.alloc (.cells betw 9)).alloc (.cells #[.slice (some ⟨w.heap.size, 0, none⟩) 7 7] 34)))
set_option maxRecDepth 100000 in
set_option maxHeartbeats 16000000 in
theorem tokenGaps_any (A : Option Addr) (n c : Nat) (l : List Tok) (B : Option Addr) (m d : Nat) (bs : List UInt8) (w : World) (hV : Vars w) (hR : Rd encTL 4 w A n l) (hq : n ≤ 10000000000000 ∧ ∀ y ∈ l, y.text.length ≤ 140737488355328) (hS : Rd encBL 1 w B m bs) (hm : m ≤ 140737488355328) :
    Calls Tryd.prog 4 #[.slice A n c, .slice B m d] w fun e w' => e = .returned (.bool true) ∧ Below w.heap.size w w' := by
  obtain ⟨i0, hi, hy0, hy1, hy2⟩ := info_parts ptok_info
  have HI := Lib.hid hi
  have HAW : Hid (∀ W, Vars W → Calls Tryd.prog 8 #[] W fun e w' => e = .returned (.bool true) ∧ Below W.heap.size W w') := Lib.hid awake_any
  have HB1 := Lib.hid ((Below.refl w.heap.size w).alloc (Nat.le_refl _) (.cells #[.slice B m d] 32))
  have HBX := Lib.hid (BlkAt.new w 32 #[.slice B m d])
  have HV := Lib.hid (hV.below HB1.out)
  have HR1 := Lib.hid (hR.below HB1.out)
  have HS1 := Lib.hid (hS.below HB1.out)
  have hfew := few_any A n c l _ HR1.out hq.1 hq.2
  have HLN := Lib.hid hR.len
  clear hV hR hS hi
  cases hfw : fewB l with
  | false =>
    rw [hfw] at hfew
    clear hfw hq
    go_enter Tryd.func4, Tryd.ntmps4
    go_wp2_with (first
      | (go_at_call 12; refine hfew.mono ?_; rintro e w2 ⟨rfl, hb2⟩; have HB2 := Lib.hid (HB1.out.trans (hb2.mono HB1.out.size)); have HV2 := Lib.hid (HV.out.below hb2); clear hfew hb2)
      | (go_at_call 8; refine (HAW.out w2 HV2.out).mono ?_; rintro e w5 ⟨rfl, hb5⟩; have HB5 := Lib.hid (HB2.out.trans (hb5.mono HB2.out.size)); clear hb5))
    go_ret
    exact ⟨rfl, HB5.out⟩
  | true =>
    rw [hfw] at hfew
    have hf2 : l.length ≤ 300 ∧ sumT l ≤ 2000 := by
      unfold fewB at hfw
      simpa using hfw
    have hn3 : n ≤ 300 := by have := HLN.out; omega
    have HX : Hid (∀ x ∈ l, x.text.length ≤ 2000) := Lib.hid (fun x hx => mem_len l x hx hf2.2)
    have HG0 : Hid (gapL (gapF bs) (l.take 0) 0 = gapF bs 0) := Lib.hid (by simp [gapL])
    clear hfw hq hf2
    go_enter Tryd.func4, Tryd.ntmps4
    go_wp2_with (first
      | (go_at_call 12
         refine hfew.mono ?_
         rintro e w2 ⟨rfl, hb2⟩
         have HB2 := Lib.hid (HB1.out.trans (hb2.mono HB1.out.size))
         have HV2 := Lib.hid (HV.out.below hb2)
         have HR2 := Lib.hid (HR1.out.below hb2)
         have HS2 := Lib.hid (HS1.out.below hb2)
         have HBX2 := Lib.hid (HBX.out.below hb2 HBX.out.lt)
         have HB3 := Lib.hid (((Below.refl w2.heap.size w2).alloc (Nat.le_refl _) (.cells betw 9)).alloc (by simp) (.cells #[.slice (some ⟨w2.heap.size, 0, none⟩) 7 7] 34))
         have HB3 : Hid (Below w2.heap.size w2 _) := Lib.hid (gap_bel w2)
         have HGP := Lib.hid (gap_new HS2.out HBX2.out)
         clear hfew hb2)
      | (go_at_call 13
         refine (gap_any B m d bs _ _ _ 0 _ HGP.out (by decide) hm).mono ?_
         rintro e ws ⟨rfl, hbs⟩
         have HBS := Lib.hid hbs
         clear hbs))
    have HVS : Hid (Vars ws) := Lib.hid ((HV2.out.below HB3.out).below HBS.out)
    have HRS : Hid (Rd encTL 4 ws A n l) := Lib.hid ((HR2.out.below HB3.out).below HBS.out)
    have HGS := Lib.hid (HGP.out.below HBS.out)
    have HBW : Hid (Below w.heap.size w ws) := Lib.hid ((HB2.out.trans (HB3.out.mono HB2.out.size)).trans (HBS.out.mono (HB2.out.trans (HB3.out.mono HB2.out.size)).size))
    clear HGP HB3 HBS HBX2 HS2 HR2 HR1 HS1 HBX
    have HL0 : Hid ((gapF bs 0).length ≤ 20) := Lib.hid (gapF_len bs 0)
    unfold strV
    go_loopw [7, 8, 27] (fun sv v a wr => ∃ i : Nat, i ≤ n ∧ a = .int .i64 i ∧ sv = .string ⟨(gapL (gapF bs) (l.take i) 0).toArray⟩ ∧ Hid (∀ y ∈ l.take i, rightB y = true) ∧ Hid ((gapL (gapF bs) (l.take i) 0).length ≤ 20 + 10000 * i) ∧ Hid (wr.ownsRow ws.heap.size PT 4 v i ((gapT (gapF bs) (l.take i) 0 0).flatMap encTL)) ∧ Hid (Below ws.heap.size ws wr)) (fun _ _ a _ => n - (intOf a).toNat)
    case atStart => exact ⟨0, by omega, rfl, by rw [HG0.out], Lib.hid (by simp), Lib.hid (by rw [HG0.out]; exact HL0.out), Lib.hid ⟨rfl, .inl ⟨rfl, rfl⟩⟩, Lib.hid (Below.refl _ _)⟩
    case round =>
      obtain ⟨i, hin, rfl, rfl, HRT, HSL, HO, HW⟩ := hrel
      by_cases hlt : i < n
      · obtain ⟨x, hx⟩ := get_some (xs := l) (k := i) (by have := HLN.out; omega)
        have hxm := List.mem_of_getElem? hx
        have hx2 := HX.out x hxm
        have htk : l.take (i + 1) = l.take i ++ [x] := by rw [List.take_add_one, hx]; rfl
        have hli : (l.take i).length = i := by rw [List.length_take]; have := HLN.out; omega
        have HSN : Hid (gapL (gapF bs) (l.take (i + 1)) 0 = gapL (gapF bs) (l.take i) 0 ++ (writeL x ++ gapF bs (i + 1))) := Lib.hid (by rw [htk, gapL_snoc, hli, Nat.zero_add])
        have HTN : Hid (gapT (gapF bs) (l.take (i + 1)) 0 0 = gapT (gapF bs) (l.take i) 0 0 ++ [x.put ((gapL (gapF bs) (l.take i) 0).length : Int)]) := Lib.hid (by rw [htk, gapT_snoc, Nat.zero_add])
        have HRN : rightB x = true → Hid (∀ y ∈ l.take (i + 1), rightB y = true) := fun h => Lib.hid (fun y hy => by
          rw [htk] at hy
          rcases List.mem_append.1 hy with hy | hy
          · exact HRT.out y hy
          · rw [List.mem_singleton.1 hy]; exact h)
        have hwl := writeL_len x
        have hgl := gapF_len bs (i + 1)
        have hsl := HSL.out
        have HLN2 : Hid ((gapL (gapF bs) (l.take (i + 1)) 0).length ≤ 20 + 10000 * (i + 1)) := Lib.hid (by rw [HSN.out, List.length_append, List.length_append]; omega)
        obtain ⟨b, o, rfl, _, hc⟩ := (HRS.out.below HW.out).at_ i x hx
        have c0 := hc 0 _ rfl
        have c1 := hc 1 _ rfl
        have c2 := hc 2 _ rfl
        have c3 := hc 3 _ rfl
        rw [Nat.add_zero] at c0
        unfold strV at c1
        have hk0 : (0 : Int) ≤ (i : Int) := by omega
        have hk1 : (i : Int) < (n : Int) := by omega
        have HW1 := Lib.hid (HW.out.alloc HW.out.size (.cells #[.int .i64 x.kind, .string ⟨x.text.toArray⟩, .int .i64 x.value, .int .i64 x.at_] 37))
        have HT1 := Lib.hid (BlkAt.new wr 37 #[.int .i64 x.kind, .string ⟨x.text.toArray⟩, .int .i64 x.value, .int .i64 x.at_])
        have hwr := write_any x (wr.alloc (.cells #[.int .i64 x.kind, .string ⟨x.text.toArray⟩, .int .i64 x.value, .int .i64 x.at_] 37)) (by omega) (HVS.out.below HW1.out)
        have HO1 := Lib.hid (own_below HO.out ((Below.refl wr.heap.size wr).alloc (Nat.le_refl _) (.cells #[.int .i64 x.kind, .string ⟨x.text.toArray⟩, .int .i64 x.value, .int .i64 x.at_] 37)))
        obtain ⟨AA, cc, rfl, _, _, _⟩ := own_slice HO.out
        unfold wrtV chkI encT strV at hwr
        clear hx hc htk hli hxm
        cases hrt : rightB x with
        | false =>
          rw [hrt] at hwr
          clear HRN
          simp only [Bool.false_eq_true, if_false] at hwr
          go_wp2_with (first
            | (go_at_call 14
               refine hwr.mono ?_
               rintro e w4 ⟨rfl, hb4⟩
               have HB4 := Lib.hid (HBW.out.trans ((HW1.out.trans (hb4.mono HW1.out.size)).mono HBW.out.size))
               have HV4 := Lib.hid ((HVS.out.below HW1.out).below hb4)
               clear hb4 hwr)
            | (go_at_call 8; refine (HAW.out w4 HV4.out).mono ?_; rintro e w5 ⟨rfl, hb5⟩; have HB5 := Lib.hid (HB4.out.trans (hb5.mono HB4.out.size)); clear hb5))
          go_ret
          exact ⟨rfl, HB5.out⟩
        | true =>
          rw [hrt] at hwr
          have HRN2 := HRN hrt
          clear HRN hrt
          simp only [if_true] at hwr
          have wr1 : IntKind.i64.wrap ((i : Int) + 1) = (i : Int) + 1 := IntWalk.i64_in _ (by omega)
          have HI2 := HI.out
          have HTL : Hid ((gapT (gapF bs) (l.take i) 0 0).flatMap encTL ++ encTL (x.put ((gapL (gapF bs) (l.take i) 0).length : Int)) = (gapT (gapF bs) (l.take (i + 1)) 0 0).flatMap encTL) := Lib.hid (by rw [HTN.out]; simp)
          generalize hTE : (gapT (gapF bs) (l.take (i + 1)) 0 0).flatMap encTL = TN at *
          have HTE := Lib.hid hTE
          clear hTE
          generalize (gapT (gapF bs) (l.take i) 0 0).flatMap encTL = T0 at *
          generalize hSE : gapL (gapF bs) (l.take (i + 1)) 0 = SN at *
          have HSE := Lib.hid hSE
          clear hSE
          generalize gapL (gapF bs) (l.take i) 0 = S at *
          have hgap : ∀ W, GapAt B m d bs w.heap.size (w2.heap.size + 1) w2.heap.size W → Calls Tryd.prog 13 #[.int .i64 ((i : Int) + 1), .pointer (some ⟨w.heap.size, 0, none⟩), .pointer (some ⟨w2.heap.size + 1, 0, none⟩)] W fun e w' => e = .returned (.string ⟨(gapF bs (i + 1)).toArray⟩) ∧ Below W.heap.size W w' := fun W hW => gap_any B m d bs _ _ _ (i + 1) W hW (by omega) hm
          have HGC := Lib.hid hgap
          clear hgap
          generalize gapF bs (i + 1) = G at *
          generalize writeL x = X at *
          have hcat : (⟨S.toArray⟩ : ByteArray) ++ ((⟨X.toArray⟩ : ByteArray) ++ ⟨G.toArray⟩) = ⟨SN.toArray⟩ := by rw [ba_app, ba_app, HSN.out]
          have hn1 : (9223372036854775807 < X.length + G.length) = False := by simp; omega
          have hn2 : (9223372036854775807 < S.length + (X.length + G.length)) = False := by simp; omega
          go_wp2_with (first
            | (go_at_call 14
               refine hwr.mono ?_
               rintro e w4 ⟨rfl, hb4⟩
               have HB4 := Lib.hid (HW1.out.trans (hb4.mono HW1.out.size))
               have HT4 := Lib.hid (HT1.out.below hb4 HT1.out.lt)
               have HO4 := Lib.hid (own_below HO1.out hb4)
               have hb45 := (Below.refl w4.heap.size w4).alloc (Nat.le_refl _) (.cells #[.int .i64 x.kind, .string ⟨x.text.toArray⟩, .int .i64 x.value, .int .i64 S.length] PT)
               have HO5 := Lib.hid (own_below HO4.out hb45)
               have HB5 := Lib.hid (HB4.out.trans (hb45.mono HB4.out.size))
               clear hb4 hb45 hwr
               have e0 := HT4.out.cell 0
               have e1 := HT4.out.cell 1
               have e2 := HT4.out.cell 2
               have e3 := HT4.out.cell 3
               simp only [List.getElem?_toArray, List.getElem?_cons_succ, List.getElem?_cons_zero] at e0 e1 e2 e3
               skip)
            | (go_at_call 13
               refine (HGC.out w6 (HGS.out.below HB6.out)).mono ?_
               rintro e w7 ⟨rfl, hb7⟩
               have HB7 := Lib.hid (HB6.out.trans (hb7.mono HB6.out.size))
               have HO7 := Lib.hid (own_below HO6.out hb7)
               clear hb7)
            | (at_builtin
               refine wpList_append_own_at _ rfl _ _ 23 rfl ws.heap.size PT i0 (.agg #[.int .i64 0, .string ⟨#[]⟩, .int .i64 0, .int .i64 0]) 4 40 Tryd.underlying23 HI2 hy0 hy1 hy2 rfl (by decide) (.slice AA i cc) _ _ rfl (HO5.out.alloc _) ⟨w4.heap.size + 1, 0, none⟩ 1 1 (encTL (x.put (S.length : Int))) rfl rfl (cells_new' _ (encTL (x.put (S.length : Int))) _ _ (by simp)) (tok_one (x.put (S.length : Int))) (by unfold maxLen; omega) (by omega) (alloc_sz HB5.out.size) ?_
               intro v' w6 hrow' hgrow _ hob
               have HO6 := Lib.hid hrow'
               have HB6 := Lib.hid ((HB5.out.alloc HB5.out.size (.cells (encTL (x.put (S.length : Int))).toArray PT)).grown hgrow (alloc_sz HB5.out.size) (fun j e => (own_lt HO5.out e).1))
               clear hrow' hgrow hob))
          go_roundw
          case rel => exact ⟨i + 1, by omega, by go_num, by rw [HSE.out], HRN2, Lib.hid (by rw [HSE.out]; exact HLN2.out), Lib.hid (by rw [HTE.out, ← HTL.out]; exact HO7.out), HB7⟩
          case measure => simp [intOf]; omega
      · obtain rfl : i = n := by omega
        have htk : l.take i = l := List.take_of_length_le (by have := HLN.out; omega)
        rw [htk] at HRT HSL HO
        rw [htk]
        have HSC : Hid (scanL (gapL (gapF bs) l 0).length (gapL (gapF bs) l 0) = .ok (gapT (gapF bs) l 0 0)) := Lib.hid (scan_gaps (gapF_is bs) l 0 0 _ HRT.out (by omega))
        have HTL : Hid (i = (gapT (gapF bs) l 0 0).length) := Lib.hid (by rw [gapT_len]; exact HLN.out)
        have HVR := Lib.hid (HVS.out.below HW.out)
        have HBR := Lib.hid (HBW.out.trans (HW.out.mono HBW.out.size))
        have hsl := HSL.out
        clear htk
        generalize gapL (gapF bs) l 0 = S at *
        generalize gapT (gapF bs) l 0 0 = T at *
        by_cases h4 : 40000 < S.length
        · have f4 : decide ((40000 : Int) < (S.length : Int)) = true := decide_eq_true (by omega)
          clear h4
          go_wp2_with (go_at_call 8; refine (HAW.out wr HVR.out).mono ?_; rintro e w5 ⟨rfl, hb5⟩; have HB5 := Lib.hid (HBR.out.trans (hb5.mono HBR.out.size)); clear hb5)
          go_ret
          exact ⟨rfl, HB5.out⟩
        · have f4 : decide ((40000 : Int) < (S.length : Int)) = false := decide_eq_false (by omega)
          have hsc := pscan_any S wr (by omega) HVR.out
          rw [HSC.out] at hsc
          have ho := HO.out
          rw [HTL.out] at ho
          obtain ⟨A2, c2, rfl, hrd2, _⟩ := rd_own (enc := encTL) (k := 4) encTL_len ho
          have HRD2 := Lib.hid hrd2
          have HT3 : Hid (T.length ≤ 1000000) := Lib.hid (by have := HTL.out; omega)
          clear h4 ho hrd2 HO
          unfold strV at hsc
          go_wp2_with (first
            | (go_at_call 9
               refine hsc.mono ?_
               rintro e w3 ⟨⟨v3, rfl, hr3⟩, hb3⟩
               obtain ⟨A3, c3', rfl, hrd3, _⟩ := rd_own (enc := encTL) (k := 4) encTL_len hr3
               have HRD3 := Lib.hid hrd3
               have HRD4 := Lib.hid (HRD2.out.below hb3)
               have HB3 := Lib.hid (HBR.out.trans (hb3.mono HBR.out.size))
               have HV3 := Lib.hid (HVR.out.below hb3)
               clear hr3 hb3 hsc hrd3)
            | (go_at_call 15
               refine (eqs2_any _ _ _ _ _ _ T T w3 HRD3.out HRD4.out HT3.out HT3.out).mono ?_
               rw [decide_eq_true rfl]
               rintro e w4 ⟨rfl, hb4⟩
               have HB4 := Lib.hid (HB3.out.trans (hb4.mono HB3.out.size))
               have HV4 := Lib.hid (HV3.out.below hb4)
               clear hb4)
            | (go_at_call 8; refine (HAW.out w4 HV4.out).mono ?_; rintro e w5 ⟨rfl, hb5⟩; have HB5 := Lib.hid (HB4.out.trans (hb5.mono HB4.out.size)); clear hb5))
          go_ret
          exact ⟨rfl, HB5.out⟩
end Go.Proofs.YtdloadeidijcoaaDoor
