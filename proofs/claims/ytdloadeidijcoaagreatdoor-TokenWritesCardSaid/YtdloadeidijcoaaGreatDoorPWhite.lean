/- DERIVED. The program's white: over white space and comments. -/
import Derived.Test.YtdloadeidijcoaaGreatDoorPComm
import Derived.Test.YtdloadeidijcoaaGreatDoorPRune
import Derived.Test.YtdloadeidijcoaaGreatDoorPSpan
import Derived.Test.YtdloadeidijcoaaGreatDoorRScan
import Derived.Test.YtdloadeidijcoaaGreatDoorQTail
set_option linter.unusedSimpArgs false
set_option linter.unusedVariables false
namespace Go.Proofs.YtdloadeidijcoaaGreatDoor
open Go.RowKit Go.Shelf Go.Sort

theorem hp_any (s p : List UInt8) (w : World) : Calls Tryz.prog 63 #[.string ⟨s.toArray⟩, .string ⟨p.toArray⟩] w fun e w' => e = .returned (.bool (p.isPrefixOf s)) ∧ w = w' := by
  refine (Tryz.strings_HasPrefix ⟨s.toArray⟩ ⟨p.toArray⟩ w).mono ?_
  rintro e w' ⟨rfl, rfl⟩
  exact ⟨rfl, rfl⟩
theorem tw_len' {p : UInt8 → Bool} (s : List UInt8) : (s.takeWhile p).length ≤ s.length ∧ True := ⟨(List.takeWhile_prefix p).length_le, trivial⟩
theorem drop_tw {p : UInt8 → Bool} (l : List UInt8) : l.drop (l.takeWhile p).length = l.dropWhile p := by
  conv => lhs; rw [← List.takeWhile_append_dropWhile (p := p) (l := l)]
  rw [List.takeWhile_append_dropWhile]
  conv => lhs; arg 2; rw [← List.takeWhile_append_dropWhile (p := p) (l := l)]
  exact List.drop_left
/-- a token begins at k, or the text ends there -/
def Begins (t : List UInt8) (k : Nat) : Prop := k = t.length ∨ ∃ c, t[k]? = some c ∧ whiteB c = false ∧ ¬ (c = 47 ∧ ((t.drop (k + 1)).head? = some 47 ∨ (t.drop (k + 1)).head? = some 42))
def SameScan (t : List UInt8) (k0 k : Nat) : Prop := scanL t.length (t.drop k0) = scanL t.length (t.drop k)
/-- how white leaves the scanner -/
def WhiteEnd (t : List UInt8) (X k0 : Nat) (w w' : World) : Prop :=
  w.grownBy w' (some X) ∧ ((∃ k : Nat, ScAt w' X t k 112 ∧ scanL t.length (t.drop k0) = .bad k 112 ∧ k ≤ t.length) ∨
    (∃ k : Nat, k ≤ t.length ∧ k0 ≤ k ∧ ScAt w' X t k 0 ∧ scanL t.length (t.drop k0) = scanL t.length (t.drop k) ∧ Begins t k))
set_option maxRecDepth 100000 in
set_option maxHeartbeats 8000000 in
theorem white_any (X k0 : Nat) (t : List UInt8) (w : World) (ht : t.length ≤ 1000000) (hk0 : k0 ≤ t.length) (h : ScAt w X t k0 0) :
    Calls Tryz.prog 47 #[pX X] w fun e w' => e = .returned (.tuple #[]) ∧ WhiteEnd t X k0 w w' := by
  have HRE : Hid (∀ (k : Nat) (W : World), k ≤ t.length → ScAt W X t k 0 → Calls Tryz.prog 61 #[pX X] W fun e w' => e = .returned (strV (t.drop k)) ∧ Below W.heap.size W w') := Lib.hid (fun k W hk h => rest_any X t k 0 W ht hk h)
  have HCO : Hid (∀ (k : Nat) (r : List UInt8) (W : World), t.drop k = 47 :: 42 :: r → ScAt W X t k 0 → Calls Tryz.prog 65 #[pX X] W fun e w' => e = .returned (.bool (skipC 1 r).isSome) ∧ CommEnd t k X (skipC 1 r) W w') := Lib.hid (fun k r W hr h => comment_any X t r k W ht hr h)
  have HSP : Hid (∀ (s : List UInt8) (W : World), s.length ≤ 1000000 → Calls Tryz.prog 37 #[strV s, .func (.func 64) #[] #[]] W fun e w' => e = .returned (.int .i64 ((s.takeWhile lineB).length : Int)) ∧ W = w') := Lib.hid (fun s W h => span_line s W h)
  have HS0 := Lib.hid h
  have HG0 := Lib.hid (grown_refl w (some X))
  clear h
  unfold pX strV at *
  go_enter Tryz.func47, Tryz.ntmps47
  go_wp2
  go_loopw [2] (fun _ wr => ∃ k : Nat, k ≤ t.length ∧ k0 ≤ k ∧ Hid (ScAt wr X t k 0) ∧ Hid (scanL t.length (t.drop k0) = scanL t.length (t.drop k)) ∧ Hid (w.grownBy wr (some X))) (fun _ wr => t.length - (match wr.cell? ⟨X, 1, none⟩ with | some v => intOf v | none => 0).toNat)
  case atStart => exact ⟨k0, hk0, Nat.le_refl _, HS0, Lib.hid rfl, HG0⟩
  case round =>
    obtain ⟨k, hk, hkk, HS, HK, HG⟩ := hrel
    have hm := HS.out.c1
    have HM : Hid (∀ wn (j : Int), ScAt wn X t j 0 → (k : Int) < j → j ≤ t.length → t.length - (match wn.cell? ⟨X, 1, none⟩ with | some v => intOf v | none => 0).toNat < t.length - (match wr.cell? ⟨X, 1, none⟩ with | some v => intOf v | none => 0).toNat) := Lib.hid (fun wn j h h1 h2 => by
      rw [hm, h.c1]; simp only [intOf]; omega)
    clear hm
    have hc0 := HS.out.c0
    have hc1 := HS.out.c1
    by_cases hlt : k < t.length
    · obtain ⟨c, hc⟩ := get_some hlt
      have hdc := drop_cons hc
      have hre := HRE.out k (wr.drewN 1) hk (HS.out.drew 1)
      have hwh := fun W => contains_white c W
      have hqi := idx_str (t.drop k) 0 c (by rw [List.getElem?_drop]; simpa using hc)
      have hql : 0 < (t.drop k).length := by rw [List.length_drop]; omega
      have hq1 := fun W => hp_any (t.drop k) [47, 47] W
      have hq2 := fun W => hp_any (t.drop k) [47, 42] W
      have hcc0 : (0 : Int) ≤ (c.toNat : Int) := by omega
      have hcc1 : (c.toNat : Int) ≤ 255 := by have := c.toNat_lt; omega
      cases hwb : whiteB c with
      | true =>
        have HK2 : Hid (scanL t.length (t.drop k0) = scanL t.length (t.drop (k + 1))) := Lib.hid (by rw [HK.out, hdc, scan_white hwb])
        rw [hwb] at hwh
        clear hc hdc hwb hq1 hq2
        generalize t.drop k = q at *
        go_wp2_with fail
        go_region
        go_wp2_with (first
          | (go_at_call 61
             refine hre.mono ?_
             rintro e w2 ⟨rfl, hb2⟩
             have HB2 := Lib.hid hb2
             clear hb2 hre)
          | (go_at_call 62
             refine (hwh w2).mono ?_
             rintro e w3 ⟨rfl, hb3⟩
             have HB3 := Lib.hid (HB2.out.trans (hb3.mono HB2.out.size))
             have HS3 := Lib.hid ((HS.out.drew 1).below HB3.out)
             have HG3 := Lib.hid (grown_below (grown_draw HG.out 1) HB3.out)
             have hc1' := HS3.out.c1
             have hf1' := HS3.out.fr 1
             clear hb3 hwh))
        go_roundw
        case rel => exact ⟨k + 1, by omega, by omega, Lib.hid (HS3.out.set1 _), HK2, Lib.hid (grown_set HG3.out _ _)⟩
        case measure => exact HM.out _ _ (HS3.out.set1 _) (by omega) (by omega)
      | false =>
        rw [hwb] at hwh
        cases h1 : List.isPrefixOf [47, 47] (t.drop k) with
        | true =>
          rw [h1] at hq1
          obtain ⟨r, hr⟩ := two_pre h1
          have hsp := fun W => HSP.out (t.drop k) W (by rw [List.length_drop]; omega)
          have hL : ((t.drop k).takeWhile lineB).length ≤ (t.drop k).length ∧ 1 ≤ ((t.drop k).takeWhile lineB).length := ⟨(tw_len' _).1, by
            rw [hr]; exact takeWhile_pos (p := lineB) (by decide)⟩
          rw [List.length_drop] at hL
          have HK2 : Hid (scanL t.length (t.drop k0) = scanL t.length (t.drop (k + ((t.drop k).takeWhile lineB).length))) := Lib.hid (by
            rw [HK.out, ← List.drop_drop, drop_tw]
            conv => lhs; rw [hr]
            rw [scan_line, ← hr]; rfl)
          generalize ((t.drop k).takeWhile lineB).length = L at *
          obtain ⟨hL1, hL2⟩ := hL
          have hkL : k + L ≤ t.length := by omega
          have hwr : IntKind.i64.wrap ((k : Int) + (L : Int)) = (k : Int) + (L : Int) := IntWalk.i64_in _ (by omega)
          clear hc hdc hwb h1 hr hq2 hL1
          generalize t.drop k = q at *
          go_wp2_with fail
          go_region
          go_wp2_with (first
            | (go_at_call 61
               refine hre.mono ?_
               rintro e w2 ⟨rfl, hb2⟩
               have HB2 := Lib.hid hb2
               clear hb2 hre)
            | (go_at_call 62
               refine (hwh w2).mono ?_
               rintro e w3 ⟨rfl, hb3⟩
               have HB3 := Lib.hid (HB2.out.trans (hb3.mono HB2.out.size))
               have HS3 := Lib.hid ((HS.out.drew 1).below HB3.out)
               have HG3 := Lib.hid (grown_below (grown_draw HG.out 1) HB3.out)
               have hc1' := HS3.out.c1
               have hf1' := HS3.out.fr 1
               clear hb3 hwh)
            | (go_at_call 63
               first
                 | (refine (hq1 _).mono ?_; rintro e w' ⟨rfl, rfl⟩; clear hq1)
                 | (refine (hq2 _).mono ?_; rintro e w' ⟨rfl, rfl⟩; clear hq2))
            | fail)
          have hcr := cell_regrown hc1'
          have hspb : ∀ W, Calls Tryz.prog 37 #[.string ⟨q.toArray⟩, .func (.func 64) #[] #[]] W fun e w' => e = .returned (.int .i64 (L : Int)) ∧ Below W.heap.size W w' := fun W => (hsp W).mono fun e w' ⟨he, hw⟩ => ⟨he, hw ▸ Below.refl _ _⟩
          have HSR := Lib.hid (fun d os => HS3.out.below (below_regrown w3 d os))
          have HGR := Lib.hid (fun d os => grown_below HG3.out (below_regrown w3 d os))
          clear hc1' hf1' hc0 hc1 hsp
          refine wp_region_below_tail 9 (by kernel_rfl) (by kernel_rfl) ?_
          simp only [List.take_succ_cons, List.take_zero, List.drop_succ_cons, List.drop_zero]
          repeat (any_goals (first | go_big_quiet_step ((go_at_call 37; exact Calls.regrown_of (hspb _))) | quiet_step ((go_at_call 37; exact Calls.regrown_of (hspb _))) | (refine wpQuiet_step (fun K hK => ?_); go_simp; split <;> (refine hK _ ?_; clear hK K))))
          all_goals (refine wpQuiet_nil ?_; intro _ hw'; obtain ⟨⟨dq, osq⟩, hw''⟩ := hw'; subst hw'')
          have hf4 := (HSR.out dq osq).fr 1
          have hc4 := (HSR.out dq osq).c1
          have HS4 := Lib.hid (HSR.out dq osq)
          have HG4 := Lib.hid (HGR.out dq osq)
          clear HSR HGR hcr hspb
          generalize grow (redrawn w3 dq) osq = W4 at *
          go_wp2
          go_roundw
          case rel => exact ⟨k + L, by omega, by omega, Lib.hid (by have := HS4.out.set1 ((k : Int) + (L : Int)); simpa using this), HK2, Lib.hid (grown_set HG4.out _ _)⟩
          case measure => exact HM.out _ _ (HS4.out.set1 _) (by omega) (by omega)
        | false =>
          rw [h1] at hq1
          cases h2 : List.isPrefixOf [47, 42] (t.drop k) with
          | true =>
            rw [h2] at hq2
            obtain ⟨r, hr⟩ := two_pre h2
            have hco := fun W => HCO.out k r W hr
            have hkn : ((skipC 1 r).all (fun q => decide (q.length < t.length - k))) = true := by
              rcases hs : skipC 1 r with _ | q
              · rfl
              · have := skipC_len _ _ _ hs
                have h3 := congrArg List.length hr
                rw [List.length_drop] at h3
                simp at h3 ⊢; omega
            rcases hs : skipC 1 r with _ | q
            · have HE : Hid (scanL t.length (t.drop k0) = .bad k 112) := Lib.hid (by
                rw [HK.out, hr, scan_block_none hs, ← hr, List.length_drop]; congr 1; omega)
              rw [hs] at hco
              simp only [CommEnd, Option.isSome_none] at hco
              clear hc hdc hwb h1 h2 hr hs hkn
              generalize t.drop k = q at *
              go_wp2_with fail
              go_region
              go_wp2_with (first
                | (go_at_call 61
                   refine hre.mono ?_
                   rintro e w2 ⟨rfl, hb2⟩
                   have HB2 := Lib.hid hb2
                   clear hb2 hre)
                | (go_at_call 62
                   refine (hwh w2).mono ?_
                   rintro e w3 ⟨rfl, hb3⟩
                   have HB3 := Lib.hid (HB2.out.trans (hb3.mono HB2.out.size))
                   have HS3 := Lib.hid ((HS.out.drew 1).below HB3.out)
                   have HG3 := Lib.hid (grown_below (grown_draw HG.out 1) HB3.out)
                   have hc1' := HS3.out.c1
                   have hf1' := HS3.out.fr 1
                   clear hb3 hwh)
                | (go_at_call 63
                   first
                     | (refine (hq1 _).mono ?_; rintro e w' ⟨rfl, rfl⟩; clear hq1)
                     | (refine (hq2 _).mono ?_; rintro e w' ⟨rfl, rfl⟩; clear hq2))
                | (go_at_call 65; refine (hco _ HS3.out).mono ?_; rintro e w4 ⟨rfl, hs4, hg4⟩; have HS4 := Lib.hid hs4; have HG4 := Lib.hid (grown_trans HG3.out hg4); clear hs4 hg4 hco))
              try simp only [Exit.inBlock, Exit.then]
              refine bodyPost_ret (results_none rfl _ _ _) rfl ?_
              exact ⟨rfl, HG4.out, .inl ⟨k, HS4.out, HE.out, hk⟩⟩
            · have HK2 : Hid (scanL t.length (t.drop k0) = scanL t.length (t.drop (t.length - q.length))) := Lib.hid (by
                rw [HK.out, hr, scan_block hs, ← suf_drop (t := t) (k := k) (r := q) (by
                  obtain ⟨g, hg⟩ := gap_suffix.skip_suffix _ _ _ hs
                  rw [hr, hg]; exact ⟨47 :: 42 :: g, rfl⟩)])
              rw [hs] at hco hkn
              simp only [CommEnd, Option.isSome_some] at hco
              have hqn : q.length < t.length - k := by simpa using hkn
              clear hc hdc hwb h1 h2 hr hs hkn
              generalize t.drop k = q' at *
              generalize hJ : t.length - q.length = J at *
              go_wp2_with fail
              go_region
              go_wp2_with (first
                | (go_at_call 61
                   refine hre.mono ?_
                   rintro e w2 ⟨rfl, hb2⟩
                   have HB2 := Lib.hid hb2
                   clear hb2 hre)
                | (go_at_call 62
                   refine (hwh w2).mono ?_
                   rintro e w3 ⟨rfl, hb3⟩
                   have HB3 := Lib.hid (HB2.out.trans (hb3.mono HB2.out.size))
                   have HS3 := Lib.hid ((HS.out.drew 1).below HB3.out)
                   have HG3 := Lib.hid (grown_below (grown_draw HG.out 1) HB3.out)
                   have hc1' := HS3.out.c1
                   have hf1' := HS3.out.fr 1
                   clear hb3 hwh)
                | (go_at_call 63
                   first
                     | (refine (hq1 _).mono ?_; rintro e w' ⟨rfl, rfl⟩; clear hq1)
                     | (refine (hq2 _).mono ?_; rintro e w' ⟨rfl, rfl⟩; clear hq2))
                | (go_at_call 65; refine (hco _ HS3.out).mono ?_; rintro e w4 ⟨rfl, hs4, hg4⟩; have HS4 := Lib.hid hs4; have HG4 := Lib.hid (grown_trans HG3.out hg4); clear hs4 hg4 hco))
              go_roundw
              case rel => exact ⟨J, by omega, by omega, HS4, HK2, HG4⟩
              case measure => exact HM.out _ _ HS4.out (by omega) (by omega)
          | false =>
            rw [h2] at hq2
            have HBG : Hid (Begins t k) := Lib.hid (.inr ⟨c, hc, hwb, by
              rw [hdc] at h1 h2
              rintro ⟨e, h | h⟩
              · exact two_not h1 ⟨e, h⟩
              · exact two_not h2 ⟨e, h⟩⟩)
            have HKK : Hid (SameScan t k0 k) := HK
            clear hc hdc hwb h1 h2 HK
            generalize t.drop k = q at *
            go_wp2_with fail
            go_region
            go_wp2_with (first
              | (go_at_call 61
                 refine hre.mono ?_
                 rintro e w2 ⟨rfl, hb2⟩
                 have HB2 := Lib.hid hb2
                 clear hb2 hre)
              | (go_at_call 62
                 refine (hwh w2).mono ?_
                 rintro e w3 ⟨rfl, hb3⟩
                 have HB3 := Lib.hid (HB2.out.trans (hb3.mono HB2.out.size))
                 have HS3 := Lib.hid ((HS.out.drew 1).below HB3.out)
                 have HG3 := Lib.hid (grown_below (grown_draw HG.out 1) HB3.out)
                 have hc1' := HS3.out.c1
                 have hf1' := HS3.out.fr 1
                 clear hb3 hwh)
              | (go_at_call 63
                 first
                   | (refine (hq1 _).mono ?_; rintro e w' ⟨rfl, rfl⟩; clear hq1)
                   | (refine (hq2 _).mono ?_; rintro e w' ⟨rfl, rfl⟩; clear hq2))
              | fail)
            try simp only [Exit.inBlock, Exit.then]
            refine bodyPost_ret (results_none rfl _ _ _) rfl ?_
            exact ⟨rfl, HG3.out, .inr ⟨k, hk, hkk, HS3.out, HKK.out, HBG.out⟩⟩
    · have hge : ¬ (k : Int) < (t.length : Int) := by omega
      go_wp2_with fail
      go_region
      go_wp2_with fail
      go_end0
      exact ⟨rfl, grown_draw HG.out 1, .inr ⟨k, hk, hkk, HS.out.drew 1, HK.out, .inl (by omega)⟩⟩
end Go.Proofs.YtdloadeidijcoaaGreatDoor
