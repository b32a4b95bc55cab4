/- DERIVED. The law TokenBack, walked. -/
import Derived.Test.YtdloadeidijcoaaDoorPJoin
import Derived.Test.YtdloadeidijcoaaDoorPAlike
import Derived.Test.YtdloadeidijcoaaDoorLScans
set_option linter.unusedSimpArgs false
set_option linter.unusedVariables false
namespace Go.Proofs.YtdloadeidijcoaaDoor
open Go.RowKit Go.Shelf

theorem sumW_le {m : Nat} : ∀ (l : List Tok), (∀ y ∈ l, y.text.length ≤ m) → sumW l ≤ l.length * (4 * m + 2)
  | [], _ => by simp [sumW]
  | x :: r, h => by
    have := sumW_le r fun y hy => h y (List.mem_cons_of_mem _ hy)
    have h1 := h x List.mem_cons_self
    have h2 := write_len x
    rw [sumW, List.length_cons, Nat.add_mul, Nat.one_mul]; omega
/-- what Join tells is scanned to the same tokens -/
theorem join_back (l : List Tok) (h : l.all rightB = true) : ∃ l', scanL (joinL l).length (joinL l) = .ok l' ∧ l'.map (·.put 0) = l.map (·.put 0) :=
  scan_join l (fun t ht => List.all_eq_true.1 h t ht) _
/-- the second half of the law, of what was scanned -/
theorem text_back {t : List UInt8} {ts : List Tok} (h : scanL t.length t = .ok ts) (ht : t.length ≤ 3000) :
    ts.all rightB = true ∧ (joinL ts).length ≤ 40000 ∧ ts.length ≤ 3000 ∧ (∀ y ∈ ts, y.text.length ≤ 3000) ∧ ∃ ts', scanL (joinL ts).length (joinL ts) = .ok ts' ∧ ts'.map (·.put 0) = ts.map (·.put 0) := by
  obtain ⟨h1, h2⟩ := scan_back h (Nat.le_refl _)
  have h3 := scan_at t.length t.length t ts (Nat.le_refl _) (Nat.le_refl _) h
  refine ⟨List.all_eq_true.2 fun y hy => (h3 y hy).2.2, by omega, ?_, fun y hy => ?_, h2 _⟩
  · have := (scan_sum t.length t.length t ts (Nat.le_refl _) h).2; omega
  · have := text_len t.length t.length t ts (Nat.le_refl _) h y hy; omega
where
  text_len (n : Nat) : ∀ (k : Nat) (l : List UInt8) (ts : List Tok), l.length ≤ k → scanL n l = .ok ts → ∀ y ∈ ts, y.text.length ≤ l.length
  | _, [], ts, _, h, y, hy => by rw [scanL] at h; cases h; simp at hy
  | 0, _ :: _, _, hk, _, _, _ => by simp at hk
  | k + 1, c :: r, ts, hk, h, y, hy => by
    rcases scan_cases n c r with ⟨l', h1, _, h3⟩ | ⟨_, _, _, h3⟩ | ⟨_, _, ⟨e, _, h3⟩ | ⟨t, r', ho, h2, h3⟩⟩
    · rw [h3] at h
      have := text_len n k l' ts (by simp only [List.length_cons] at h1 hk; omega) h y hy
      omega
    · rw [h3] at h; cases h
    · rw [h3] at h; cases h
    · rw [h3] at h
      obtain ⟨l', h4, rfl⟩ := cons_ok h
      have h5 := one_len ho (by omega)
      rcases List.mem_cons.1 hy with rfl | hy
      · exact h5.2
      · have := text_len n k r' l' (by simp only [List.length_cons] at h2 hk; omega) h4 y hy
        simp only [List.length_cons] at *
        omega
set_option maxRecDepth 100000 in
set_option maxHeartbeats 16000000 in
theorem tokenBack_any (A : Option Addr) (n c : Nat) (l : List Tok) (t : List UInt8) (w : World) (hV : Vars w) (hR : Rd encTL 4 w A n l) (hq : n ≤ 10000000000000 ∧ ∀ y ∈ l, y.text.length ≤ 140737488355328) :
    Calls Tryd.prog 5 #[.slice A n c, strV t] w fun e w' => e = .returned (.bool true) ∧ Below w.heap.size w w' := by
  have HAW : Hid (∀ W, Vars W → Calls Tryd.prog 8 #[] W fun e w' => e = .returned (.bool true) ∧ Below W.heap.size W w') := Lib.hid awake_any
  have HV := Lib.hid hV
  have HR := Lib.hid hR
  have hfew := few_any A n c l w hR hq.1 hq.2
  have HLN := Lib.hid hR.len
  clear hV hR
  cases hfw : fewB l with
  | false =>
    rw [hfw] at hfew
    clear hfw hq
    unfold strV
    go_enter Tryd.func5, Tryd.ntmps5
    go_wp2_with (first
      |
        (go_at_call 12
         refine hfew.mono ?_
         rintro e w2 ⟨rfl, hb2⟩
         have HB2 := Lib.hid hb2
         have HV2 := Lib.hid (HV.out.below hb2)
         have HR2 := Lib.hid (HR.out.below hb2)
         clear hfew hb2)
      |
        (go_at_call 8; refine (HAW.out w2 HV2.out).mono ?_; rintro e w11 ⟨rfl, hb11⟩; have HB11 := Lib.hid (HB2.out.trans (hb11.mono HB2.out.size)); clear hb11)
      | fail)
    go_ret
    exact ⟨rfl, HB11.out⟩
  | true =>
  rw [hfw] at hfew
  have hf2 : l.length ≤ 300 ∧ sumT l ≤ 2000 := by
    unfold fewB at hfw
    simpa using hfw
  have HL3 : Hid (l.length ≤ 10000) := Lib.hid (by omega)
  have HL32 : Hid (l.length ≤ 1000000) := Lib.hid (by omega)
  have HX3 : Hid (∀ y ∈ l, y.text.length ≤ 3000) := Lib.hid (fun x hx => by have := mem_len l x hx hf2.2; omega)
  clear hfw hq
  by_cases h3 : 3000 < t.length
  · have f3 : decide ((3000 : Int) < (t.length : Int)) = true := decide_eq_true (by omega)
    clear h3 hf2
    unfold strV
    go_enter Tryd.func5, Tryd.ntmps5
    go_wp2_with (first
      |
        (go_at_call 12
         refine hfew.mono ?_
         rintro e w2 ⟨rfl, hb2⟩
         have HB2 := Lib.hid hb2
         have HV2 := Lib.hid (HV.out.below hb2)
         have HR2 := Lib.hid (HR.out.below hb2)
         clear hfew hb2)
      |
        (go_at_call 8; refine (HAW.out w2 HV2.out).mono ?_; rintro e w11 ⟨rfl, hb11⟩; have HB11 := Lib.hid (HB2.out.trans (hb11.mono HB2.out.size)); clear hb11)
      | fail)
    go_ret
    exact ⟨rfl, HB11.out⟩
  have f3 : decide ((3000 : Int) < (t.length : Int)) = false := decide_eq_false (by omega)
  have ht3 : t.length ≤ 3000 := by omega
  have hn3 : n ≤ 300 := by have := HLN.out; omega
  clear h3 hf2
  have hcase : (∃ J l1, joinR l = .tuple #[.string ⟨J.toArray⟩, .int .i64 0] ∧ J.length ≤ 40000 ∧ scanL J.length J = .ok l1 ∧ l.map (·.put 0) = l1.map (·.put 0)) ∨ (∃ E : Int, (E == 0) = false ∧ joinR l = .tuple #[.string ⟨#[]⟩, .int .i64 E]) := by
    unfold joinR
    by_cases h1 : l.all rightB = true
    · rw [if_pos h1]
      by_cases h2 : (joinL l).length ≤ 40000
      · rw [if_pos h2]
        obtain ⟨l1, h3, h4⟩ := join_back l h1
        exact .inl ⟨_, l1, rfl, h2, h3, h4.symm⟩
      · rw [if_neg h2]; exact .inr ⟨7, rfl, rfl⟩
    · rw [if_neg h1]; exact .inr ⟨2, rfl, rfl⟩
  have hscan : (∃ ts K ts', scanL t.length t = .ok ts ∧ joinR ts = .tuple #[.string ⟨K.toArray⟩, .int .i64 0] ∧ ts.length ≤ 10000 ∧ (∀ y ∈ ts, y.text.length ≤ 3000) ∧ K.length ≤ 40000 ∧ scanL K.length K = .ok ts' ∧ ts.map (·.put 0) = ts'.map (·.put 0)) ∨ (∃ i er, (er != 0) = true ∧ scanL t.length t = .bad i er) := by
    rcases hs : scanL t.length t with ts | ⟨i, er⟩
    · obtain ⟨h1, h2, h3, h4, ts', h5, h6⟩ := text_back hs ht3
      refine .inl ⟨ts, joinL ts, ts', rfl, ?_, by omega, h4, h2, h5, h6.symm⟩
      unfold joinR
      rw [if_pos h1, if_pos h2]; rfl
    · exact .inr ⟨i, er, bne_iff_ne.2 (scan_err _ _ _ _ _ (Nat.le_refl _) hs), rfl⟩
  have hpt := fun (W : World) (hV : Vars W) => pscan_any t W (by omega) hV
  unfold strV at hpt
  unfold strV
  rcases hscan with ⟨ts, K, ts', hs1, hjt, htl, htx, hkl, hsk, hal2⟩ | ⟨i, er, hne, hs1⟩
  · rw [hs1] at hpt
    have HST := Lib.hid hpt
    have HJT := Lib.hid hjt
    have HTL := Lib.hid htl
    have HTL2 : Hid (ts.length ≤ 1000000) := Lib.hid (by omega)
    have HTX := Lib.hid htx
    have HAL2 := Lib.hid hal2
    have HSK : Hid (∀ W, Vars W → Calls Tryd.prog 9 #[.string ⟨K.toArray⟩] W fun e w' => ScanRes PT W w' e (.ok ts') ∧ Below W.heap.size W w') := Lib.hid (fun W hV => by
      have := pscan_any K W hkl hV
      rwa [hsk] at this)
    clear hpt hjt htl htx hal2 hkl hsk hs1
    rcases hcase with ⟨J, l1, hjr, hjl, hsj, hal1⟩ | ⟨E, hE, hjr⟩
    · have HJR := Lib.hid hjr
      have HAL1 := Lib.hid hal1
      have HSJ : Hid (∀ W, Vars W → Calls Tryd.prog 9 #[.string ⟨J.toArray⟩] W fun e w' => ScanRes PT W w' e (.ok l1) ∧ Below W.heap.size W w') := Lib.hid (fun W hV => by
        have := pscan_any J W hjl hV
        rwa [hsj] at this)
      clear hjr hjl hsj hal1
      go_enter Tryd.func5, Tryd.ntmps5
      go_wp2_with (first
        |
          (go_at_call 12
           refine hfew.mono ?_
           rintro e w2 ⟨rfl, hb2⟩
           have HB2 := Lib.hid hb2
           have HV2 := Lib.hid (HV.out.below hb2)
           have HR2 := Lib.hid (HR.out.below hb2)
           clear hfew hb2)
        |
          (go_at_call 16
           refine (convert_any A n c l w2 HR2.out (by omega)).mono ?_
           rintro e w3 ⟨v3, rfl, hr3, hb3⟩
           rw [HLN.out] at hr3
           obtain ⟨A3, c3, rfl, hrd3, _⟩ := rd_own (enc := encTL) (k := 4) encTL_len hr3
           have HRD3 := Lib.hid hrd3
           have HB3 := Lib.hid (HB2.out.trans (hb3.mono HB2.out.size))
           have HV3 := Lib.hid (HV2.out.below hb3)
           clear hr3 hb3 hrd3)
        |
          (go_at_call 17
           refine (join_any A3 l.length c3 l w3 HRD3.out HL3.out HX3.out HV3.out).mono ?_
           rw [HJR.out]
           rintro e w4 ⟨rfl, hb4⟩
           have HRD4 := Lib.hid (HRD3.out.below hb4)
           have HB4 := Lib.hid (HB3.out.trans (hb4.mono HB3.out.size))
           have HV4 := Lib.hid (HV3.out.below hb4)
           clear hb4 HX3)
        |
          (go_at_call 9
           refine (HSJ.out w4 HV4.out).mono ?_
           rintro e w5 ⟨⟨v5, rfl, hr5⟩, hb5⟩
           obtain ⟨A5, c5, rfl, hrd5, _⟩ := rd_own (enc := encTL) (k := 4) encTL_len hr5
           have HRD5 := Lib.hid hrd5
           have HRD45 := Lib.hid (HRD4.out.below hb5)
           have HB5 := Lib.hid (HB4.out.trans (hb5.mono HB4.out.size))
           have HV5 := Lib.hid (HV4.out.below hb5)
           clear hr5 hb5 hrd5 HSJ)
        |
          (go_at_call 18
           refine (alike_any A3 A5 l.length l1.length c3 c5 l l1 w5 HRD45.out HRD5.out HL32.out HAL1.out).mono ?_
           rintro e w6 ⟨rfl, hb6⟩
           have HB6 := Lib.hid (HB5.out.trans (hb6.mono HB5.out.size))
           have HV6 := Lib.hid (HV5.out.below hb6)
           clear hb6 HAL1)
        |
          (go_at_call 9
           refine (HST.out w6 HV6.out).mono ?_
           rintro e w7 ⟨⟨v7, rfl, hr7⟩, hb7⟩
           obtain ⟨A7, c7, rfl, hrd7, _⟩ := rd_own (enc := encTL) (k := 4) encTL_len hr7
           have HRD7 := Lib.hid hrd7
           have HB7 := Lib.hid (HB6.out.trans (hb7.mono HB6.out.size))
           have HV7 := Lib.hid (HV6.out.below hb7)
           clear hr7 hb7 hrd7 HST)
        |
          (go_at_call 17
           refine (join_any A7 ts.length c7 ts w7 HRD7.out HTL.out HTX.out HV7.out).mono ?_
           rw [HJT.out]
           rintro e w8 ⟨rfl, hb8⟩
           have HRD8 := Lib.hid (HRD7.out.below hb8)
           have HB8 := Lib.hid (HB7.out.trans (hb8.mono HB7.out.size))
           have HV8 := Lib.hid (HV7.out.below hb8)
           clear hb8)
        |
          (go_at_call 9
           refine (HSK.out w8 HV8.out).mono ?_
           rintro e w9 ⟨⟨v9, rfl, hr9⟩, hb9⟩
           obtain ⟨A9, c9, rfl, hrd9, _⟩ := rd_own (enc := encTL) (k := 4) encTL_len hr9
           have HRD9 := Lib.hid hrd9
           have HRD89 := Lib.hid (HRD8.out.below hb9)
           have HB9 := Lib.hid (HB8.out.trans (hb9.mono HB8.out.size))
           have HV9 := Lib.hid (HV8.out.below hb9)
           clear hr9 hb9 hrd9)
        |
          (go_at_call 18
           refine (alike_any A7 A9 ts.length ts'.length c7 c9 ts ts' w9 HRD89.out HRD9.out HTL2.out HAL2.out).mono ?_
           rintro e w10 ⟨rfl, hb10⟩
           have HB10 := Lib.hid (HB9.out.trans (hb10.mono HB9.out.size))
           have HV10 := Lib.hid (HV9.out.below hb10)
           clear hb10)
        |
          (go_at_call 8; refine (HAW.out w10 HV10.out).mono ?_; rintro e w11 ⟨rfl, hb11⟩; have HB11 := Lib.hid (HB10.out.trans (hb11.mono HB10.out.size)); clear hb11)
        | fail)
      go_ret
      exact ⟨rfl, HB11.out⟩
    · have HJR := Lib.hid hjr
      clear hjr
      go_enter Tryd.func5, Tryd.ntmps5
      go_wp2_with (first
        |
          (go_at_call 12
           refine hfew.mono ?_
           rintro e w2 ⟨rfl, hb2⟩
           have HB2 := Lib.hid hb2
           have HV2 := Lib.hid (HV.out.below hb2)
           have HR2 := Lib.hid (HR.out.below hb2)
           clear hfew hb2)
        |
          (go_at_call 16
           refine (convert_any A n c l w2 HR2.out (by omega)).mono ?_
           rintro e w3 ⟨v3, rfl, hr3, hb3⟩
           rw [HLN.out] at hr3
           obtain ⟨A3, c3, rfl, hrd3, _⟩ := rd_own (enc := encTL) (k := 4) encTL_len hr3
           have HRD3 := Lib.hid hrd3
           have HB3 := Lib.hid (HB2.out.trans (hb3.mono HB2.out.size))
           have HV3 := Lib.hid (HV2.out.below hb3)
           clear hr3 hb3 hrd3)
        |
          (go_at_call 17
           refine (join_any A3 l.length c3 l w3 HRD3.out HL3.out HX3.out HV3.out).mono ?_
           rw [HJR.out]
           rintro e w4 ⟨rfl, hb4⟩
           have HRD4 := Lib.hid (HRD3.out.below hb4)
           have HB4 := Lib.hid (HB3.out.trans (hb4.mono HB3.out.size))
           have HV4 := Lib.hid (HV3.out.below hb4)
           clear hb4 HX3)
        |
          (go_at_call 9
           refine (HST.out w4 HV4.out).mono ?_
           rintro e w7 ⟨⟨v7, rfl, hr7⟩, hb7⟩
           obtain ⟨A7, c7, rfl, hrd7, _⟩ := rd_own (enc := encTL) (k := 4) encTL_len hr7
           have HRD7 := Lib.hid hrd7
           have HB7 := Lib.hid (HB4.out.trans (hb7.mono HB4.out.size))
           have HV7 := Lib.hid (HV4.out.below hb7)
           clear hr7 hb7 hrd7 HST)
        |
          (go_at_call 17
           refine (join_any A7 ts.length c7 ts w7 HRD7.out HTL.out HTX.out HV7.out).mono ?_
           rw [HJT.out]
           rintro e w8 ⟨rfl, hb8⟩
           have HRD8 := Lib.hid (HRD7.out.below hb8)
           have HB8 := Lib.hid (HB7.out.trans (hb8.mono HB7.out.size))
           have HV8 := Lib.hid (HV7.out.below hb8)
           clear hb8)
        |
          (go_at_call 9
           refine (HSK.out w8 HV8.out).mono ?_
           rintro e w9 ⟨⟨v9, rfl, hr9⟩, hb9⟩
           obtain ⟨A9, c9, rfl, hrd9, _⟩ := rd_own (enc := encTL) (k := 4) encTL_len hr9
           have HRD9 := Lib.hid hrd9
           have HRD89 := Lib.hid (HRD8.out.below hb9)
           have HB9 := Lib.hid (HB8.out.trans (hb9.mono HB8.out.size))
           have HV9 := Lib.hid (HV8.out.below hb9)
           clear hr9 hb9 hrd9)
        |
          (go_at_call 18
           refine (alike_any A7 A9 ts.length ts'.length c7 c9 ts ts' w9 HRD89.out HRD9.out HTL2.out HAL2.out).mono ?_
           rintro e w10 ⟨rfl, hb10⟩
           have HB10 := Lib.hid (HB9.out.trans (hb10.mono HB9.out.size))
           have HV10 := Lib.hid (HV9.out.below hb10)
           clear hb10)
        |
          (go_at_call 8; refine (HAW.out w10 HV10.out).mono ?_; rintro e w11 ⟨rfl, hb11⟩; have HB11 := Lib.hid (HB10.out.trans (hb11.mono HB10.out.size)); clear hb11)
        | fail)
      go_ret
      exact ⟨rfl, HB11.out⟩
  · rw [hs1] at hpt
    have HST := Lib.hid hpt
    clear hpt hs1
    rcases hcase with ⟨J, l1, hjr, hjl, hsj, hal1⟩ | ⟨E, hE, hjr⟩
    · have HJR := Lib.hid hjr
      have HAL1 := Lib.hid hal1
      have HSJ : Hid (∀ W, Vars W → Calls Tryd.prog 9 #[.string ⟨J.toArray⟩] W fun e w' => ScanRes PT W w' e (.ok l1) ∧ Below W.heap.size W w') := Lib.hid (fun W hV => by
        have := pscan_any J W hjl hV
        rwa [hsj] at this)
      clear hjr hjl hsj hal1
      go_enter Tryd.func5, Tryd.ntmps5
      go_wp2_with (first
        |
          (go_at_call 12
           refine hfew.mono ?_
           rintro e w2 ⟨rfl, hb2⟩
           have HB2 := Lib.hid hb2
           have HV2 := Lib.hid (HV.out.below hb2)
           have HR2 := Lib.hid (HR.out.below hb2)
           clear hfew hb2)
        |
          (go_at_call 16
           refine (convert_any A n c l w2 HR2.out (by omega)).mono ?_
           rintro e w3 ⟨v3, rfl, hr3, hb3⟩
           rw [HLN.out] at hr3
           obtain ⟨A3, c3, rfl, hrd3, _⟩ := rd_own (enc := encTL) (k := 4) encTL_len hr3
           have HRD3 := Lib.hid hrd3
           have HB3 := Lib.hid (HB2.out.trans (hb3.mono HB2.out.size))
           have HV3 := Lib.hid (HV2.out.below hb3)
           clear hr3 hb3 hrd3)
        |
          (go_at_call 17
           refine (join_any A3 l.length c3 l w3 HRD3.out HL3.out HX3.out HV3.out).mono ?_
           rw [HJR.out]
           rintro e w4 ⟨rfl, hb4⟩
           have HRD4 := Lib.hid (HRD3.out.below hb4)
           have HB4 := Lib.hid (HB3.out.trans (hb4.mono HB3.out.size))
           have HV4 := Lib.hid (HV3.out.below hb4)
           clear hb4 HX3)
        |
          (go_at_call 9
           refine (HSJ.out w4 HV4.out).mono ?_
           rintro e w5 ⟨⟨v5, rfl, hr5⟩, hb5⟩
           obtain ⟨A5, c5, rfl, hrd5, _⟩ := rd_own (enc := encTL) (k := 4) encTL_len hr5
           have HRD5 := Lib.hid hrd5
           have HRD45 := Lib.hid (HRD4.out.below hb5)
           have HB5 := Lib.hid (HB4.out.trans (hb5.mono HB4.out.size))
           have HV5 := Lib.hid (HV4.out.below hb5)
           clear hr5 hb5 hrd5 HSJ)
        |
          (go_at_call 18
           refine (alike_any A3 A5 l.length l1.length c3 c5 l l1 w5 HRD45.out HRD5.out HL32.out HAL1.out).mono ?_
           rintro e w6 ⟨rfl, hb6⟩
           have HB6 := Lib.hid (HB5.out.trans (hb6.mono HB5.out.size))
           have HV6 := Lib.hid (HV5.out.below hb6)
           clear hb6 HAL1)
        |
          (go_at_call 9
           refine (HST.out w6 HV6.out).mono ?_
           rintro e w7 ⟨rfl, hb7⟩
           have HB7 := Lib.hid (HB6.out.trans (hb7.mono HB6.out.size))
           have HV7 := Lib.hid (HV6.out.below hb7)
           clear hb7 HST)
        |
          (go_at_call 8; refine (HAW.out w7 HV7.out).mono ?_; rintro e w11 ⟨rfl, hb11⟩; have HB11 := Lib.hid (HB7.out.trans (hb11.mono HB7.out.size)); clear hb11)
        | fail)
      go_ret
      exact ⟨rfl, HB11.out⟩
    · have HJR := Lib.hid hjr
      clear hjr
      go_enter Tryd.func5, Tryd.ntmps5
      go_wp2_with (first
        |
          (go_at_call 12
           refine hfew.mono ?_
           rintro e w2 ⟨rfl, hb2⟩
           have HB2 := Lib.hid hb2
           have HV2 := Lib.hid (HV.out.below hb2)
           have HR2 := Lib.hid (HR.out.below hb2)
           clear hfew hb2)
        |
          (go_at_call 16
           refine (convert_any A n c l w2 HR2.out (by omega)).mono ?_
           rintro e w3 ⟨v3, rfl, hr3, hb3⟩
           rw [HLN.out] at hr3
           obtain ⟨A3, c3, rfl, hrd3, _⟩ := rd_own (enc := encTL) (k := 4) encTL_len hr3
           have HRD3 := Lib.hid hrd3
           have HB3 := Lib.hid (HB2.out.trans (hb3.mono HB2.out.size))
           have HV3 := Lib.hid (HV2.out.below hb3)
           clear hr3 hb3 hrd3)
        |
          (go_at_call 17
           refine (join_any A3 l.length c3 l w3 HRD3.out HL3.out HX3.out HV3.out).mono ?_
           rw [HJR.out]
           rintro e w4 ⟨rfl, hb4⟩
           have HRD4 := Lib.hid (HRD3.out.below hb4)
           have HB4 := Lib.hid (HB3.out.trans (hb4.mono HB3.out.size))
           have HV4 := Lib.hid (HV3.out.below hb4)
           clear hb4 HX3)
        |
          (go_at_call 9
           refine (HST.out w4 HV4.out).mono ?_
           rintro e w7 ⟨rfl, hb7⟩
           have HB7 := Lib.hid (HB4.out.trans (hb7.mono HB4.out.size))
           have HV7 := Lib.hid (HV4.out.below hb7)
           clear hb7 HST)
        |
          (go_at_call 8; refine (HAW.out w7 HV7.out).mono ?_; rintro e w11 ⟨rfl, hb11⟩; have HB11 := Lib.hid (HB7.out.trans (hb11.mono HB7.out.size)); clear hb11)
        | fail)
      go_ret
      exact ⟨rfl, HB11.out⟩
end Go.Proofs.YtdloadeidijcoaaDoor
