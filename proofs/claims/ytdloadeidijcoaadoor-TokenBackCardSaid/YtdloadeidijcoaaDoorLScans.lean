/- DERIVED. The law TokenScans, walked. -/
import Derived.Test.YtdloadeidijcoaaDoorAwake
set_option linter.unusedSimpArgs false
set_option linter.unusedVariables false
namespace Go.Proofs.YtdloadeidijcoaaDoor
open Go.RowKit Go.Shelf

theorem rd_nil (w : World) : Rd encTL 4 w none 0 [] := ⟨rfl, by simp⟩
set_option maxRecDepth 100000 in
set_option maxHeartbeats 2000000 in
theorem tokenScans_any (t : List UInt8) (w : World) (hV : Vars w) : Calls Tryd.prog 3 #[strV t] w fun e w' => e = .returned (.bool true) ∧ Below w.heap.size w w' := by
  have HV := Lib.hid hV
  have HAW : Hid (∀ W, Vars W → Calls Tryd.prog 8 #[] W fun e w' => e = .returned (.bool true) ∧ Below W.heap.size W w') := Lib.hid awake_any
  by_cases h1 : 3000 < t.length
  · have f1 : decide ((3000 : Int) < (t.length : Int)) = true := decide_eq_true (by omega)
    by_cases h2 : t.length ≤ 40000
    · have f2 : decide ((t.length : Int) ≤ 40000) = true := decide_eq_true (by omega)
      clear hV h1 h2
      unfold strV
      go_enter Tryd.func3, Tryd.ntmps3
      go_wp2_with (go_at_call 8; refine (HAW.out w HV.out).mono ?_; rintro e w2 ⟨rfl, hb2⟩; have HB2 := Lib.hid hb2; clear hb2)
      go_ret
      exact ⟨rfl, HB2.out⟩
    · have f2 : decide ((t.length : Int) ≤ 40000) = false := decide_eq_false (by omega)
      have hp := pscan_large t w (by omega)
      have hr := rscan_large t w (by omega)
      have hs := same_any none none 0 0 0 0 [] [] w (rd_nil w) (rd_nil w) (by omega) (by omega)
      rw [show decide (([] : List Tok) = []) = true from rfl] at hs
      clear hV h1 h2
      unfold strV at *
      go_enter Tryd.func3, Tryd.ntmps3
      go_wp2_with (first
        | (go_at_call 9; refine hp.mono ?_; rintro e w' ⟨rfl, rfl⟩; clear hp)
        | (go_at_call 10; refine hr.mono ?_; rintro e w' ⟨rfl, rfl⟩; clear hr)
        | (go_at_call 11; refine hs.mono ?_; rintro e w2 ⟨rfl, hb2⟩; have HB2 := Lib.hid hb2; have HV2 := Lib.hid (HV.out.below hb2); clear hb2 hs)
        | (go_at_call 8; refine (HAW.out w2 HV2.out).mono ?_; rintro e w3 ⟨rfl, hb3⟩; have HB3 := Lib.hid (HB2.out.trans (hb3.mono HB2.out.size)); clear hb3))
      go_ret
      exact ⟨rfl, HB3.out⟩
  · have f1 : decide ((3000 : Int) < (t.length : Int)) = false := decide_eq_false (by omega)
    have hp := pscan_any t w (by omega) hV
    have HR : Hid (∀ W, Calls Tryd.prog 10 #[strV t] W fun e w' => ScanRes RT W w' e (scanL t.length t) ∧ Below W.heap.size W w') := Lib.hid (fun W => rscan_any t W (by omega))
    have hlen : ∀ ts, scanL t.length t = .ok ts → ts.length ≤ t.length := fun ts h => (scan_sum t.length t.length t ts (Nat.le_refl _) h).2
    have hl3 : t.length ≤ 3000 := by omega
    clear hV h1
    rcases hsc : scanL t.length t with ts | ⟨i, er⟩
    · rw [hsc] at hp HR
      have hts := hlen ts hsc
      clear hlen hsc
      unfold strV at *
      go_enter Tryd.func3, Tryd.ntmps3
      go_wp2_with (first
        | (go_at_call 9
           refine hp.mono ?_
           rintro e w2 ⟨⟨v, rfl, hr⟩, hb2⟩
           obtain ⟨A, c, rfl, hrd, _⟩ := rd_own (enc := encTL) (k := 4) encTL_len hr
           have HRD := Lib.hid hrd
           have HB2 := Lib.hid hb2
           clear hr hb2 hrd hp)
        | (go_at_call 10
           refine (HR.out w2).mono ?_
           rintro e w3 ⟨⟨v, rfl, hr⟩, hb3⟩
           obtain ⟨B, d, rfl, hrd, _⟩ := rd_own (enc := encTL) (k := 4) encTL_len hr
           have hs := same_any A B ts.length ts.length c d ts ts w3 (HRD.out.below hb3) hrd (by omega) (by omega)
           rw [show decide (ts = ts) = true from decide_eq_true rfl] at hs
           have HB3 := Lib.hid (HB2.out.trans (hb3.mono HB2.out.size))
           clear hr hb3 hrd)
        | (go_at_call 11; refine hs.mono ?_; rintro e w4 ⟨rfl, hb4⟩; have HB4 := Lib.hid (HB3.out.trans (hb4.mono HB3.out.size)); clear hb4 hs)
        | (go_at_call 8; refine (HAW.out w4 (HV.out.below HB4.out)).mono ?_; rintro e w5 ⟨rfl, hb5⟩; have HB5 := Lib.hid (HB4.out.trans (hb5.mono HB4.out.size)); clear hb5))
      go_ret
      exact ⟨rfl, HB5.out⟩
    · rw [hsc] at hp HR
      clear hlen hsc
      have hs := fun W => same_any none none 0 0 0 0 [] [] W (rd_nil W) (rd_nil W) (by omega) (by omega)
      rw [show decide (([] : List Tok) = []) = true from rfl] at hs
      unfold strV at *
      go_enter Tryd.func3, Tryd.ntmps3
      go_wp2_with (first
        | (go_at_call 9; refine hp.mono ?_; rintro e w2 ⟨rfl, hb2⟩; have HB2 := Lib.hid hb2; clear hb2 hp)
        | (go_at_call 10; refine (HR.out w2).mono ?_; rintro e w3 ⟨rfl, hb3⟩; have HB3 := Lib.hid (HB2.out.trans (hb3.mono HB2.out.size)); clear hb3)
        | (go_at_call 11; refine (hs _).mono ?_; rintro e w4 ⟨rfl, hb4⟩; have HB4 := Lib.hid (HB3.out.trans (hb4.mono HB3.out.size)); clear hb4 hs)
        | (go_at_call 8; refine (HAW.out w4 (HV.out.below HB4.out)).mono ?_; rintro e w5 ⟨rfl, hb5⟩; have HB5 := Lib.hid (HB4.out.trans (hb5.mono HB4.out.size)); clear hb5))
      go_ret
      exact ⟨rfl, HB5.out⟩
end Go.Proofs.YtdloadeidijcoaaDoor
