/- DERIVED. The program's comment that has an end of its own. -/
import Derived.Test.YtdloadeidijcoaaGreatDoorPSc
import Derived.WalkMore
import Derived.Test.YtdloadeidijcoaaGreatDoorRTxt
import Derived.Test.YtdloadeidijcoaaGreatDoorSpecAll
set_option linter.unusedSimpArgs false
set_option linter.unusedVariables false
namespace Go.Proofs.YtdloadeidijcoaaGreatDoor
open Go.RowKit

theorem ext_strP (t : List UInt8) (a b : Nat) : (⟨t.toArray⟩ : ByteArray).extract a b = ⟨((t.drop a).take (b - a)).toArray⟩ := by
  have h := ext_list t a b
  rw [← h, Lib.toList_data]
theorem skip_short {d : Nat} {l : List UInt8} (h : l.length ≤ 1) : skipC d l = none := by
  match l, h with
  | [], _ => simp [skipC]
  | [_], _ => simp [skipC]
/-- how comment leaves the scanner -/
def CommEnd (t : List UInt8) (k0 X : Nat) (o : Option (List UInt8)) (w w' : World) : Prop :=
  match o with
  | some q => ScAt w' X t ((t.length - q.length : Nat) : Int) 0 ∧ w.grownBy w' (some X)
  | none => ScAt w' X t k0 112 ∧ w.grownBy w' (some X)
set_option maxRecDepth 100000 in
set_option maxHeartbeats 4000000 in
theorem comment_any (X : Nat) (t r : List UInt8) (i : Nat) (w : World) (ht : t.length ≤ 1000000) (hr : t.drop i = 47 :: 42 :: r) (h : ScAt w X t i 0) :
    Calls Tryz.prog 65 #[pX X] w fun e w' => e = .returned (.bool (skipC 1 r).isSome) ∧ CommEnd t i X (skipC 1 r) w w' := by
  have hi : i + 1 < t.length := by have := congrArg List.length hr; simp at this; omega
  have hc0 := h.c0
  have hc1 := h.c1
  have HI := Lib.hid hi
  have HS0 := Lib.hid h
  have HR := Lib.hid hr
  have HG := Lib.hid (grown_refl w (some X))
  obtain ⟨Y, hY⟩ : ∃ Y, skipC 1 r = Y := ⟨_, rfl⟩
  have HX := Lib.hid hY
  have HF : Hid (∀ (k : Int) (W : World), ScAt W X t k 0 → Calls Tryz.prog 66 #[pX X, .int .i64 i, .int .i64 112] W fun e w' => e = .returned (.tuple #[]) ∧ ScAt w' X t i 112 ∧ W.grownBy w' (some X)) := Lib.hid (fun k W h => fail_any X t k 0 i 112 W h)
  rw [hY]
  clear hr hY h hi
  unfold pX at *
  go_enter Tryz.func65, Tryz.ntmps65
  go_wp2
  go_step3
  go_wp2
  go_step3
  go_wp2
  clear hc0 hc1
  go_loopw [4] (fun x wr => ∃ k d : Nat, k ≤ t.length ∧ d ≤ k ∧ x = .int .i64 d ∧ Hid (CommAt t i Y k d) ∧ Hid (ScAt wr X t k 0) ∧ Hid (w.grownBy wr (some X))) (fun _ wr => t.length - (match wr.cell? ⟨X, 1, none⟩ with | some v => intOf v | none => 0).toNat)
  case atStart => exact ⟨i, 0, by have := HI.out; omega, by omega, rfl, Lib.hid (.inl ⟨rfl, rfl⟩), HS0, HG⟩
  case round =>
    obtain ⟨k, d, hk, hdk, rfl, HK, HS, HG⟩ := hrel
    have hm := HS.out.c1
    have HM : Hid (∀ wn (j : Int), ScAt wn X t j 0 → (k : Int) < j → j ≤ t.length → t.length - (match wn.cell? ⟨X, 1, none⟩ with | some v => intOf v | none => 0).toNat < t.length - (match wr.cell? ⟨X, 1, none⟩ with | some v => intOf v | none => 0).toNat) := Lib.hid (fun wn j h h1 h2 => by
      rw [hm, h.c1]; simp only [intOf]; omega)
    have hc0 := HS.out.c0
    have hc1 := HS.out.c1
    have hf1 := HS.out.fr 1
    clear hm
    by_cases hlt : k + 1 < t.length
    · have hk1 : (k : Int) + 1 < (t.length : Int) := by omega
      have hext := ext_strP t k (k + 2)
      have hlen : (t.drop k).length = t.length - k := List.length_drop
      obtain ⟨S, hS⟩ : ∃ S, (t.drop k).take (k + 2 - k) = S := ⟨_, rfl⟩
      rw [hS] at hext
      rcases pre_cases (t.drop k) with ⟨q, hq⟩ | ⟨h1, ⟨q, hq⟩ | h2⟩
      · have hb1 : (S == [47, 42]) = true := by rw [← hS, hq, show k + 2 - k = 2 by omega]; rfl
        have hk2 : k + 2 ≤ t.length := by rw [hq] at hlen; simp at hlen; omega
        have hq2 : t.drop (k + 2) = q := by rw [← List.drop_drop, hq]; rfl
        have HN : Hid (CommAt t i Y (k + 2) (d + 1)) := Lib.hid (.inr ⟨by omega, by
          rw [hq2]
          rcases HK.out with ⟨rfl, rfl⟩ | ⟨hd1, hs⟩
          · rw [HR.out] at hq; cases hq; exact HX.out
          · rw [hq, skipC, if_pos ⟨rfl, rfl⟩] at hs; exact hs⟩)
        clear hq hq2 hlen hS
        go_wp2_with fail
        go_region
        go_wp2_with fail
        go_region
        go_wp2_with fail
        go_roundw
        case rel => exact ⟨k + 2, d + 1, by omega, by omega, by go_num, HN, Lib.hid ((HS.out.drew 2).set1 _), Lib.hid (grown_set (grown_draw HG.out 2) _ _)⟩
        case measure => exact HM.out _ _ ((HS.out.drew 2).set1 _) (by omega) (by omega)
      · have hb1 : (S == [47, 42]) = false := by rw [← hS, hq, show k + 2 - k = 2 by omega]; rfl
        have hb2 : (S == [42, 47]) = true := by rw [← hS, hq, show k + 2 - k = 2 by omega]; rfl
        have hk2 : k + 2 ≤ t.length := by rw [hq] at hlen; simp at hlen; omega
        have hq2 : t.drop (k + 2) = q := by rw [← List.drop_drop, hq]; rfl
        have hs : 1 ≤ d ∧ skipC d (42 :: 47 :: q) = Y := by
          rcases HK.out with ⟨rfl, rfl⟩ | ⟨hd1, hs⟩
          · rw [HR.out] at hq; cases hq
          · rw [hq] at hs; exact ⟨hd1, hs⟩
        obtain ⟨hd1, hs⟩ := hs
        rw [skipC, if_neg (by decide), if_pos ⟨rfl, rfl⟩] at hs
        have HY := Lib.hid hs
        have HQ := Lib.hid hq2
        clear hq hq2 hlen hs hS
        by_cases h1 : d = 1
        · subst h1
          have HE : Hid (Y = some q) := Lib.hid (by have := HY.out; rw [if_pos (by omega)] at this; exact this.symm)
          have HL : Hid (((k : Int) + 2) = ((t.length - q.length : Nat) : Int)) := Lib.hid (by rw [← HQ.out]; simp only [List.length_drop]; omega)
          go_wp2_with fail
          go_region
          go_wp2_with fail
          go_region
          go_wp2_with fail
          rw [Exit.noGoto_ret]
          go_ret
          rw [HE.out]
          refine ⟨rfl, ?_, grown_set (grown_draw HG.out 2) _ _⟩
          rw [← HL.out]
          exact (HS.out.drew 2).set1 _
        · have HN : Hid (CommAt t i Y (k + 2) (d - 1)) := Lib.hid (.inr ⟨by omega, by
            have := HY.out
            rw [if_neg (by omega)] at this
            rw [HQ.out]; exact this⟩)
          have hd2 : ((d : Int) - 1 == 0) = false := by simp; omega
          go_wp2_with fail
          go_region
          go_wp2_with fail
          go_region
          go_wp2_with fail
          go_roundw
          case rel => exact ⟨k + 2, d - 1, by omega, by omega, by (congr 1; omega), HN, Lib.hid ((HS.out.drew 2).set1 _), Lib.hid (grown_set (grown_draw HG.out 2) _ _)⟩
          case measure => exact HM.out _ _ ((HS.out.drew 2).set1 _) (by omega) (by omega)
      · obtain ⟨c, hc⟩ := get_some (xs := t) (k := k) (by omega)
        have hd := drop_cons hc
        have hb1 : (S == [47, 42]) = false := by
          rw [beq_eq_false_iff_ne]; rintro rfl
          rw [show k + 2 - k = 2 by omega] at hS
          rw [← List.take_append_drop 2 (t.drop k), hS] at h1
          simp [List.isPrefixOf] at h1
        have hb2 : (S == [42, 47]) = false := by
          rw [beq_eq_false_iff_ne]; rintro rfl
          rw [show k + 2 - k = 2 by omega] at hS
          rw [← List.take_append_drop 2 (t.drop k), hS] at h2
          simp [List.isPrefixOf] at h2
        have HN : Hid (CommAt t i Y (k + 1) d) := Lib.hid (.inr (by
          rcases HK.out with ⟨rfl, rfl⟩ | ⟨hd1, hs⟩
          · rw [HR.out] at h1; simp [List.isPrefixOf] at h1
          · rw [hd] at hs h1 h2
            rw [skip_other h1 h2] at hs
            exact ⟨hd1, hs⟩))
        clear hc hd hlen h1 h2 hS
        go_wp2_with fail
        go_region
        go_wp2_with fail
        go_region
        go_wp2_with fail
        go_roundw
        case rel => exact ⟨k + 1, d, by omega, by omega, by go_num, HN, Lib.hid ((HS.out.drew 2).set1 _), Lib.hid (grown_set (grown_draw HG.out 2) _ _)⟩
        case measure => exact HM.out _ _ ((HS.out.drew 2).set1 _) (by omega) (by omega)
    · have hk1 : ¬ (k : Int) + 1 < (t.length : Int) := by omega
      have HE : Hid (Y = none) := Lib.hid (by
        rcases HK.out with ⟨rfl, rfl⟩ | ⟨hd1, hs⟩
        · have := HI.out; omega
        · rw [← hs]; exact skip_short (by rw [List.length_drop]; omega))
      have hf := HF.out k (wr.drewN 1) (HS.out.drew 1)
      go_wp2_with fail
      go_region
      go_wp2_with (go_at_call 66; refine hf.mono ?_; rintro e w3 ⟨rfl, hs3, hg3⟩; have HS3 := Lib.hid hs3; have HG3 := Lib.hid (grown_trans (grown_draw HG.out 1) hg3); clear hf hs3 hg3)
      try rw [Exit.noGoto_ret]
      go_ret
      rw [HE.out]
      exact ⟨rfl, HS3.out, HG3.out⟩
end Go.Proofs.YtdloadeidijcoaaGreatDoor
