/- DERIVED. The law TokenPlaces, walked. -/
import Derived.Test.YtdloadeidijcoaaDoorLPl0
import Derived.Test.YtdloadeidijcoaaDoorPCheck
import Derived.Test.YtdloadeidijcoaaDoorLNames
set_option linter.unusedSimpArgs false
set_option linter.unusedVariables false
namespace Go.Proofs.YtdloadeidijcoaaDoor
open Go.RowKit Go.Shelf

/-- where the last token stood: its line and column -/
def LastAt (t : List UInt8) (k : Nat) (L C : Int) : Prop := (L = 1 ∧ C = 0 ∧ k = 0) ∨ ∃ p, p < k ∧ p ≤ t.length ∧ L = ((plL (t.take p)).1 : Int) ∧ C = ((plL (t.take p)).2 : Int)
theorem LastAt.next {t : List UInt8} {k p : Nat} {L C : Int} (h : LastAt t k L C) (hk : k ≤ p) (hp : p ≤ t.length) : L < ((plL (t.take p)).1 : Int) ∨ (L = ((plL (t.take p)).1 : Int) ∧ C < ((plL (t.take p)).2 : Int)) := by
  rcases h with ⟨rfl, rfl, rfl⟩ | ⟨q, hq, hqn, rfl, rfl⟩
  · have := pl_pos (t.take p); omega
  · have := pl_asc t q p (by omega) hp
    unfold lexLt at this; omega
theorem endQ_step {c : UInt8} {r : List UInt8} : endQ (c :: r) = if c = 34 then 0 else if c = 92 then 2 + endQ (r.drop 1) else 1 + endQ r := by rw [endQ]
set_option maxRecDepth 100000 in
set_option maxHeartbeats 8000000 in
theorem tokenPlaces_any (t : List UInt8) (w : World) (hV : Vars w) : Calls Tryd.prog 7 #[strV t] w fun e w' => e = .returned (.bool true) ∧ Below w.heap.size w w' := by
  have HV := Lib.hid hV
  have HAW : Hid (∀ W, Vars W → Calls Tryd.prog 8 #[] W fun e w' => e = .returned (.bool true) ∧ Below W.heap.size W w') := Lib.hid awake_any
  by_cases h1 : 3000 < t.length
  · have f1 : decide ((3000 : Int) < (t.length : Int)) = true := decide_eq_true (by omega)
    clear hV h1
    unfold strV
    go_enter Tryd.func7, Tryd.ntmps7
    go_wp2_with (go_at_call 8; refine (HAW.out w HV.out).mono ?_; rintro e w2 ⟨rfl, hb2⟩; have HB2 := Lib.hid hb2; clear hb2)
    go_ret
    exact ⟨rfl, HB2.out⟩
  have f1 : decide ((3000 : Int) < (t.length : Int)) = false := decide_eq_false (by omega)
  have hl3 : t.length ≤ 3000 := by omega
  have hp := pscan_any t w (by omega) hV
  clear hV h1
  rcases hsc : scanL t.length t with ts | ⟨i, er⟩
  · have hts : ts.length ≤ t.length := (scan_sum t.length t.length t ts (Nat.le_refl _) hsc).2
    rw [hsc] at hp
    have HSC0 : Hid (scanL t.length (t.drop 0) = .ok (ts.drop 0)) := Lib.hid hsc
    clear hsc
    unfold strV at *
    go_enter Tryd.func7, Tryd.ntmps7
    go_wp2_with (go_at_call 9
                 refine hp.mono ?_
                 rintro e w1 ⟨⟨v, rfl, hr⟩, hb1⟩
                 obtain ⟨A, c, rfl, hrd, _⟩ := rd_own (enc := encTL) (k := 4) encTL_len hr
                 have HRD := Lib.hid hrd
                 have HB1 := Lib.hid hb1
                 clear hr hb1 hrd hp)
    have HV1 : Hid (Vars w1) := Lib.hid (HV.out.below HB1.out)
    go_loopw [6, 7, 8, 45] (fun a b cc v wr => ∃ (k i : Nat) (L C : Int), k ≤ t.length ∧ i ≤ ts.length ∧ a = .int .i64 k ∧ b = .int .i64 L ∧ cc = .int .i64 C ∧ v = .int .i64 i ∧ Hid (scanL t.length (t.drop k) = .ok (ts.drop i)) ∧ Hid (LastAt t k L C) ∧ Hid (Below w1.heap.size w1 wr)) (fun _ _ _ v _ => ts.length - (intOf v).toNat)
    case atStart => exact ⟨0, 0, 1, 0, by omega, by omega, rfl, rfl, rfl, rfl, HSC0, Lib.hid (.inl ⟨rfl, rfl, rfl⟩), Lib.hid (Below.refl _ _)⟩
    case round =>
      obtain ⟨k, i, L, C, hk, hi, rfl, rfl, rfl, rfl, HS, HL, HWR⟩ := hrel
      by_cases hlt : i < ts.length
      · obtain ⟨x, hx⟩ := get_some hlt
        obtain ⟨p, hpl⟩ := places_step (rest := ts.drop (i + 1)) hk (by rw [HS.out, drop_cons hx])
        obtain ⟨b, o, rfl, _, hc⟩ := (HRD.out.below HWR.out).at_ i x hx
        have c0 := hc 0 _ rfl
        have c1 := hc 1 _ rfl
        have c2 := hc 2 _ rfl
        have c3 := hc 3 _ rfl
        rw [Nat.add_zero] at c0
        unfold strV at c1
        have hi0 : (0 : Int) ≤ (i : Int) := by omega
        have hi1 : (i : Int) < (ts.length : Int) := by omega
        have HW1 := Lib.hid (HWR.out.alloc HWR.out.size (.cells #[.int .i64 x.kind, .string ⟨x.text.toArray⟩, .int .i64 x.value, .int .i64 x.at_] PT))
        have HT1 := Lib.hid (BlkAt.new wr PT #[.int .i64 x.kind, .string ⟨x.text.toArray⟩, .int .i64 x.value, .int .i64 x.at_])
        have hxl : x.text.length ≤ 1000000 := by have := hpl.len; omega
        have hchk := check_any x (wr.alloc (.cells #[.int .i64 x.kind, .string ⟨x.text.toArray⟩, .int .i64 x.value, .int .i64 x.at_] PT)) hxl (HV1.out.below HW1.out)
        have hci : chkI x = 0 := by unfold chkI; rw [if_pos hpl.right]
        rw [hci] at hchk
        unfold encT strV at hchk
        have HSG : Hid (∀ W, Vars W → Calls Tryd.prog 9 #[.string ⟨((t.drop k).take (p - k)).toArray⟩] W fun e w' => ScanRes PT W w' e (.ok []) ∧ Below W.heap.size W w') := Lib.hid (fun W hV => by
          have := pscan_any ((t.drop k).take (p - k)) W (by rw [List.length_take, List.length_drop]; omega) hV
          rwa [hpl.gap] at this)
        have hext := ext_str t k p
        have HPL : Hid (∀ W, Calls Tryd.prog 19 #[.string ⟨t.toArray⟩, .int .i64 p] W fun e w' => e = .returned (.tuple #[.int .i64 ((plL (t.take p)).1 : Int), .int .i64 ((plL (t.take p)).2 : Int), .int .i64 0]) ∧ W = w') := Lib.hid (fun W => by
          have := place_any t p W (by omega)
          unfold PlaceR at this
          rw [if_pos ⟨by omega, by have := hpl.lt; omega⟩] at this
          unfold strV at this
          simpa using this)
        have hat := hpl.at_
        have hkp := hpl.le
        have hpn := hpl.lt
        have hnx := hpl.next
        have hlx := HL.out.next hkp (Nat.le_of_lt hpn)
        have HLN : Hid (∀ k', p < k' → LastAt t k' ((plL (t.take p)).1 : Int) ((plL (t.take p)).2 : Int)) := Lib.hid (fun k' h => .inr ⟨p, h, Nat.le_of_lt hpn, rfl, rfl⟩)
        have hq1 := (pl_le (t.take p)).1
        have hq2 := (pl_le (t.take p)).2
        have hq3 : (t.take p).length ≤ 3000 := by rw [List.length_take]; omega
        generalize (plL (t.take p)).1 = L' at *
        generalize (plL (t.take p)).2 = C' at *
        generalize (t.drop k).take (p - k) = G at *
        have g1 : decide ((p : Int) < (k : Int)) = false := decide_eq_false (by omega)
        have g2 : decide ((t.length : Int) ≤ (p : Int)) = false := decide_eq_false (by omega)
        have g3 : decide ((L' : Int) < L) = false := decide_eq_false (by omega)
        have HLX : Hid (((L' : Int) == L) = false ∨ (((L' : Int) == L) = true ∧ decide ((C' : Int) ≤ C) = false)) := Lib.hid (by
          rcases hlx with h | ⟨h, h2⟩
          · exact .inl (by simp; omega)
          · exact .inr ⟨by simp [h], by simp; omega⟩)
        clear hx hc hpl hci hxl hlx
        rw [hat] at c3 HW1 HT1 hchk
        clear hat
        rcases hnx with ⟨h4, htx, hle, htk, hs2⟩ | ⟨h4, E, hE, hEn, hs2⟩
        · have f4 : (x.kind == 4) = false := by simp [h4]
          have HS2 := Lib.hid hs2
          have hpos := List.length_pos_iff.2 htx
          have f5 : ((x.text.length : Int) == 0) = false := by simp; omega
          have f6 : decide ((t.length : Int) < (p : Int) + (x.text.length : Int)) = false := decide_eq_false (by omega)
          have wr1 : IntKind.i64.wrap ((p : Int) + (x.text.length : Int)) = (p : Int) + (x.text.length : Int) := IntWalk.i64_in _ (by omega)
          have hex2 := ext_str t p (p + x.text.length)
          rw [Nat.add_sub_cancel_left, htk] at hex2
          have htn : ((p : Int) + (x.text.length : Int)).toNat = p + x.text.length := by omega
          have hb1 : (p : Int) ≤ (p : Int) + (x.text.length : Int) := by omega
          have hb2 : (p : Int) + (x.text.length : Int) ≤ (t.length : Int) := by omega
          have hb0 : (0 : Int) ≤ (p : Int) := by omega
          clear h4 htx htk hs2
          rcases HLX.out with g4 | ⟨g4, g5⟩
          · clear HLX
            go_wp2_with (first
              | (go_at_call 28
                 refine hchk.mono ?_
                 rintro e w2 ⟨rfl, hb2⟩
                 have HB2 := Lib.hid (HW1.out.trans (hb2.mono HW1.out.size))
                 have HT2 := Lib.hid (HT1.out.below hb2 HT1.out.lt)
                 clear hchk hb2
                 have e0 := HT2.out.cell 0
                 have e1 := HT2.out.cell 1
                 have e2 := HT2.out.cell 2
                 have e3 := HT2.out.cell 3
                 simp only [List.getElem?_toArray, List.getElem?_cons_succ, List.getElem?_cons_zero] at e0 e1 e2 e3
                 skip)
              | (go_at_call 9
                 refine (HSG.out w2 (HV1.out.below HB2.out)).mono ?_
                 rintro e w3 ⟨⟨v3, rfl, hr3⟩, hb3⟩
                 obtain ⟨A3, c3', rfl, _, _⟩ := rd_own (enc := encTL) (k := 4) encTL_len hr3
                 have HB3 := Lib.hid (HB2.out.trans (hb3.mono HB2.out.size))
                 have HT3 := Lib.hid (HT2.out.below hb3 HT2.out.lt)
                 clear hr3 hb3 e0 e1 e2 e3
                 have e0 := HT3.out.cell 0
                 have e1 := HT3.out.cell 1
                 have e2 := HT3.out.cell 2
                 have e3 := HT3.out.cell 3
                 simp only [List.getElem?_toArray, List.getElem?_cons_succ, List.getElem?_cons_zero] at e0 e1 e2 e3
                 skip)
              | (go_at_call 19; refine (HPL.out w3).mono ?_; rintro e w' ⟨rfl, rfl⟩))

            go_quiet (fail)
            go_wp2_with fail
            go_round
            case rel => exact ⟨p + x.text.length, i + 1, L', C', by omega, by omega, by go_num, rfl, rfl, by go_num, HS2, Lib.hid (HLN.out _ (by omega)), Lib.hid (below_draw HB3.out _)⟩
            case measure => simp [intOf]; omega
          · clear HLX
            go_wp2_with (first
              | (go_at_call 28
                 refine hchk.mono ?_
                 rintro e w2 ⟨rfl, hb2⟩
                 have HB2 := Lib.hid (HW1.out.trans (hb2.mono HW1.out.size))
                 have HT2 := Lib.hid (HT1.out.below hb2 HT1.out.lt)
                 clear hchk hb2
                 have e0 := HT2.out.cell 0
                 have e1 := HT2.out.cell 1
                 have e2 := HT2.out.cell 2
                 have e3 := HT2.out.cell 3
                 simp only [List.getElem?_toArray, List.getElem?_cons_succ, List.getElem?_cons_zero] at e0 e1 e2 e3
                 skip)
              | (go_at_call 9
                 refine (HSG.out w2 (HV1.out.below HB2.out)).mono ?_
                 rintro e w3 ⟨⟨v3, rfl, hr3⟩, hb3⟩
                 obtain ⟨A3, c3', rfl, _, _⟩ := rd_own (enc := encTL) (k := 4) encTL_len hr3
                 have HB3 := Lib.hid (HB2.out.trans (hb3.mono HB2.out.size))
                 have HT3 := Lib.hid (HT2.out.below hb3 HT2.out.lt)
                 clear hr3 hb3 e0 e1 e2 e3
                 have e0 := HT3.out.cell 0
                 have e1 := HT3.out.cell 1
                 have e2 := HT3.out.cell 2
                 have e3 := HT3.out.cell 3
                 simp only [List.getElem?_toArray, List.getElem?_cons_succ, List.getElem?_cons_zero] at e0 e1 e2 e3
                 skip)
              | (go_at_call 19; refine (HPL.out w3).mono ?_; rintro e w' ⟨rfl, rfl⟩))

            go_quiet (fail)
            go_wp2_with fail
            go_round
            case rel => exact ⟨p + x.text.length, i + 1, L', C', by omega, by omega, by go_num, rfl, rfl, by go_num, HS2, Lib.hid (HLN.out _ (by omega)), Lib.hid (below_draw HB3.out _)⟩
            case measure => simp [intOf]; omega
        · have f4 : (x.kind == 4) = true := by simp [h4]
          have HS2 := Lib.hid hs2
          have HE : Hid (p + 1 + endQ (t.drop (p + 1)) = E) := Lib.hid hE.symm
          have wr1 : IntKind.i64.wrap ((p : Int) + 1) = (p : Int) + 1 := IntWalk.i64_in _ (by omega)
          have hpE : p + 1 ≤ E := by omega
          clear h4 hE hs2
          rcases HLX.out with g4 | ⟨g4, g5⟩
          · clear HLX
            go_wp2_with (first
              | (go_at_call 28
                 refine hchk.mono ?_
                 rintro e w2 ⟨rfl, hb2⟩
                 have HB2 := Lib.hid (HW1.out.trans (hb2.mono HW1.out.size))
                 have HT2 := Lib.hid (HT1.out.below hb2 HT1.out.lt)
                 clear hchk hb2
                 have e0 := HT2.out.cell 0
                 have e1 := HT2.out.cell 1
                 have e2 := HT2.out.cell 2
                 have e3 := HT2.out.cell 3
                 simp only [List.getElem?_toArray, List.getElem?_cons_succ, List.getElem?_cons_zero] at e0 e1 e2 e3
                 skip)
              | (go_at_call 9
                 refine (HSG.out w2 (HV1.out.below HB2.out)).mono ?_
                 rintro e w3 ⟨⟨v3, rfl, hr3⟩, hb3⟩
                 obtain ⟨A3, c3', rfl, _, _⟩ := rd_own (enc := encTL) (k := 4) encTL_len hr3
                 have HB3 := Lib.hid (HB2.out.trans (hb3.mono HB2.out.size))
                 have HT3 := Lib.hid (HT2.out.below hb3 HT2.out.lt)
                 clear hr3 hb3 e0 e1 e2 e3
                 have e0 := HT3.out.cell 0
                 have e1 := HT3.out.cell 1
                 have e2 := HT3.out.cell 2
                 have e3 := HT3.out.cell 3
                 simp only [List.getElem?_toArray, List.getElem?_cons_succ, List.getElem?_cons_zero] at e0 e1 e2 e3
                 skip)
              | (go_at_call 19; refine (HPL.out w3).mono ?_; rintro e w' ⟨rfl, rfl⟩))

            obtain ⟨wo, hwo⟩ : ∃ wo : World, wo = w3 := ⟨_, rfl⟩
            rw [← hwo] at HB3
            clear HB2 HT2 e0 e1 e2 e3 HSG HPL
            subst hwo
            go_loopw [6] (fun a wi => ∃ q : Nat, p + 1 ≤ q ∧ q ≤ E ∧ a = .int .i64 q ∧ Hid (q + endQ (t.drop q) = E) ∧ wi = wo) (fun a _ => E - (intOf a).toNat)
            case atStart => exact ⟨p + 1, by omega, by omega, by go_num, HE, rfl⟩
            case round =>
              obtain ⟨q, hpq, hqE, rfl, HQ, rfl⟩ := hrel
              obtain ⟨d, hd⟩ := get_some (xs := t) (k := q) (by omega)
              have hidx := idx_str t q d hd
              have hqt : q < t.length := by omega
              have hstep : q + endQ (d :: t.drop (q + 1)) = E := by rw [← drop_cons hd]; exact HQ.out
              rw [endQ_step] at hstep
              clear hd HQ
              by_cases h34 : d = 34
              · have f34 : ((d.toNat : Int) == 34) = true := by rw [h34]; rfl
                rw [if_pos h34] at hstep
                obtain rfl : q = E := by omega
                have wrq : IntKind.i64.wrap ((q : Int) + 1) = (q : Int) + 1 := IntWalk.i64_in _ (by omega)
                clear h34 hstep
                go_wp2_with fail
                go_round
                case rel => exact ⟨q + 1, i + 1, L', C', by omega, by omega, by go_num, rfl, rfl, by go_num, HS2, Lib.hid (HLN.out _ (by omega)), HB3⟩
                case measure => simp [intOf]; omega
              · have f34 : ((d.toNat : Int) == 34) = false := u8_ne h34
                rw [if_neg h34] at hstep
                have wrq : IntKind.i64.wrap ((q : Int) + 1) = (q : Int) + 1 := IntWalk.i64_in _ (by omega)
                clear h34
                by_cases h92 : d = 92
                · have f92 : ((d.toNat : Int) == 92) = true := by rw [h92]; rfl
                  rw [if_pos h92] at hstep
                  have wrq2 : IntKind.i64.wrap ((q : Int) + 1 + 1) = (q : Int) + 1 + 1 := IntWalk.i64_in _ (by omega)
                  have HQ2 : Hid ((q + 2) + endQ (t.drop (q + 2)) = E) := Lib.hid (by rw [List.drop_drop, show q + 1 + 1 = q + 2 from rfl] at hstep; omega)
                  have hq2E : q + 2 ≤ E := by omega
                  clear h92 hstep
                  go_wp2_with fail
                  go_round
                  case rel => exact ⟨q + 2, by omega, hq2E, by go_num, HQ2, trivial⟩
                  case measure => simp [intOf]; omega
                · have f92 : ((d.toNat : Int) == 92) = false := u8_ne h92
                  rw [if_neg h92] at hstep
                  have HQ2 : Hid ((q + 1) + endQ (t.drop (q + 1)) = E) := Lib.hid (by omega)
                  have hq2E : q + 1 ≤ E := by omega
                  clear h92 hstep
                  go_wp2_with fail
                  go_round
                  case rel => exact ⟨q + 1, by omega, hq2E, by go_num, HQ2, trivial⟩
                  case measure => simp [intOf]; omega
            skip
          · clear HLX
            go_wp2_with (first
              | (go_at_call 28
                 refine hchk.mono ?_
                 rintro e w2 ⟨rfl, hb2⟩
                 have HB2 := Lib.hid (HW1.out.trans (hb2.mono HW1.out.size))
                 have HT2 := Lib.hid (HT1.out.below hb2 HT1.out.lt)
                 clear hchk hb2
                 have e0 := HT2.out.cell 0
                 have e1 := HT2.out.cell 1
                 have e2 := HT2.out.cell 2
                 have e3 := HT2.out.cell 3
                 simp only [List.getElem?_toArray, List.getElem?_cons_succ, List.getElem?_cons_zero] at e0 e1 e2 e3
                 skip)
              | (go_at_call 9
                 refine (HSG.out w2 (HV1.out.below HB2.out)).mono ?_
                 rintro e w3 ⟨⟨v3, rfl, hr3⟩, hb3⟩
                 obtain ⟨A3, c3', rfl, _, _⟩ := rd_own (enc := encTL) (k := 4) encTL_len hr3
                 have HB3 := Lib.hid (HB2.out.trans (hb3.mono HB2.out.size))
                 have HT3 := Lib.hid (HT2.out.below hb3 HT2.out.lt)
                 clear hr3 hb3 e0 e1 e2 e3
                 have e0 := HT3.out.cell 0
                 have e1 := HT3.out.cell 1
                 have e2 := HT3.out.cell 2
                 have e3 := HT3.out.cell 3
                 simp only [List.getElem?_toArray, List.getElem?_cons_succ, List.getElem?_cons_zero] at e0 e1 e2 e3
                 skip)
              | (go_at_call 19; refine (HPL.out w3).mono ?_; rintro e w' ⟨rfl, rfl⟩))

            obtain ⟨wo, hwo⟩ : ∃ wo : World, wo = w3 := ⟨_, rfl⟩
            rw [← hwo] at HB3
            clear HB2 HT2 e0 e1 e2 e3 HSG HPL
            subst hwo
            go_loopw [6] (fun a wi => ∃ q : Nat, p + 1 ≤ q ∧ q ≤ E ∧ a = .int .i64 q ∧ Hid (q + endQ (t.drop q) = E) ∧ wi = wo) (fun a _ => E - (intOf a).toNat)
            case atStart => exact ⟨p + 1, by omega, by omega, by go_num, HE, rfl⟩
            case round =>
              obtain ⟨q, hpq, hqE, rfl, HQ, rfl⟩ := hrel
              obtain ⟨d, hd⟩ := get_some (xs := t) (k := q) (by omega)
              have hidx := idx_str t q d hd
              have hqt : q < t.length := by omega
              have hstep : q + endQ (d :: t.drop (q + 1)) = E := by rw [← drop_cons hd]; exact HQ.out
              rw [endQ_step] at hstep
              clear hd HQ
              by_cases h34 : d = 34
              · have f34 : ((d.toNat : Int) == 34) = true := by rw [h34]; rfl
                rw [if_pos h34] at hstep
                obtain rfl : q = E := by omega
                have wrq : IntKind.i64.wrap ((q : Int) + 1) = (q : Int) + 1 := IntWalk.i64_in _ (by omega)
                clear h34 hstep
                go_wp2_with fail
                go_round
                case rel => exact ⟨q + 1, i + 1, L', C', by omega, by omega, by go_num, rfl, rfl, by go_num, HS2, Lib.hid (HLN.out _ (by omega)), HB3⟩
                case measure => simp [intOf]; omega
              · have f34 : ((d.toNat : Int) == 34) = false := u8_ne h34
                rw [if_neg h34] at hstep
                have wrq : IntKind.i64.wrap ((q : Int) + 1) = (q : Int) + 1 := IntWalk.i64_in _ (by omega)
                clear h34
                by_cases h92 : d = 92
                · have f92 : ((d.toNat : Int) == 92) = true := by rw [h92]; rfl
                  rw [if_pos h92] at hstep
                  have wrq2 : IntKind.i64.wrap ((q : Int) + 1 + 1) = (q : Int) + 1 + 1 := IntWalk.i64_in _ (by omega)
                  have HQ2 : Hid ((q + 2) + endQ (t.drop (q + 2)) = E) := Lib.hid (by rw [List.drop_drop, show q + 1 + 1 = q + 2 from rfl] at hstep; omega)
                  have hq2E : q + 2 ≤ E := by omega
                  clear h92 hstep
                  go_wp2_with fail
                  go_round
                  case rel => exact ⟨q + 2, by omega, hq2E, by go_num, HQ2, trivial⟩
                  case measure => simp [intOf]; omega
                · have f92 : ((d.toNat : Int) == 92) = false := u8_ne h92
                  rw [if_neg h92] at hstep
                  have HQ2 : Hid ((q + 1) + endQ (t.drop (q + 1)) = E) := Lib.hid (by omega)
                  have hq2E : q + 1 ≤ E := by omega
                  clear h92 hstep
                  go_wp2_with fail
                  go_round
                  case rel => exact ⟨q + 1, by omega, hq2E, by go_num, HQ2, trivial⟩
                  case measure => simp [intOf]; omega
            skip
      · obtain rfl : i = ts.length := by omega
        have HSK : Hid (scanL (t.drop k).length (t.drop k) = .ok []) := Lib.hid (scan_none (by have := HS.out; rwa [List.drop_length] at this) _)
        have hsr := pscan_any (t.drop k) wr (by rw [List.length_drop]; omega) (HV1.out.below HWR.out)
        rw [HSK.out] at hsr
        have hext := ext_str t k t.length
        rw [List.take_of_length_le (by simp)] at hext
        have hk0 : (0 : Int) ≤ (k : Int) := by omega
        have hkn : (k : Int) ≤ (t.length : Int) := by omega
        have f2 : decide ((t.length : Int) < (k : Int)) = false := decide_eq_false (by omega)
        unfold strV at hsr
        generalize t.drop k = R at *
        go_wp2_with (first
          | (go_at_call 9
             refine hsr.mono ?_
             rintro e w3 ⟨⟨v3, rfl, hr3⟩, hb3⟩
             obtain ⟨A3, c3', rfl, _, _⟩ := rd_own (enc := encTL) (k := 4) encTL_len hr3
             have HB3 := Lib.hid (HB1.out.trans ((HWR.out.trans (hb3.mono HWR.out.size)).mono HB1.out.size))
             clear hr3 hb3 hsr)
          | (go_at_call 8; refine (HAW.out w3 (HV.out.below HB3.out)).mono ?_; rintro e w5 ⟨rfl, hb5⟩; have HB5 := Lib.hid (HB3.out.trans (hb5.mono HB3.out.size)); clear hb5))
        go_ret
        exact ⟨rfl, HB5.out⟩
  · obtain ⟨hi, hne⟩ := scan_bad_le t.length t.length t i er (Nat.le_refl _) hsc
    rw [hsc] at hp
    have hneb : (er != 0) = true := bne_iff_ne.2 hne
    have g1 : decide ((0 : Int) ≤ (i : Int)) = true := decide_eq_true (by omega)
    have g2 : decide ((i : Int) ≤ (t.length : Int)) = true := decide_eq_true (by omega)
    clear hsc hne
    unfold strV at *
    go_enter Tryd.func7, Tryd.ntmps7
    go_wp2_with (first
      | (go_at_call 9; refine hp.mono ?_; rintro e w2 ⟨rfl, hb2⟩; have HB2 := Lib.hid hb2; clear hb2 hp)
      | (go_at_call 8; refine (HAW.out w2 (HV.out.below HB2.out)).mono ?_; rintro e w5 ⟨rfl, hb5⟩; have HB5 := Lib.hid (HB2.out.trans (hb5.mono HB2.out.size)); clear hb5))
    go_ret
    exact ⟨rfl, HB5.out⟩
end Go.Proofs.YtdloadeidijcoaaDoor
