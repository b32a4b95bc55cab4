/- DERIVED. The program's span. -/
import Derived.Test.YtdloadeidijcoaaGreatDoorPSc
set_option linter.unusedSimpArgs false
set_option linter.unusedVariables false
namespace Go.Proofs.YtdloadeidijcoaaGreatDoor
open Go.RowKit

set_option maxHeartbeats 1000000 in
theorem notLine_any (c : UInt8) (w : World) : Calls Tryz.prog 64 #[u8V c] w fun e w' => e = .returned (.bool (c != 10)) ∧ w = w' := by
  have HB := Lib.hid (ten_iff c)
  unfold u8V
  go_enter Tryz.func64, Tryz.ntmps64
  go_wp2
  go_ret
  exact ⟨ret_bool HB.out, rfl⟩
set_option maxRecDepth 100000 in
set_option maxHeartbeats 2000000 in
theorem span_word (s : List UInt8) (w : World) (hs : s.length ≤ 1000000) :
    Calls Tryz.prog 37 #[strV s, .func (.func 51) #[] #[]] w fun e w' => e = .returned (.int .i64 ((s.takeWhile wordB).length : Int)) ∧ w = w' := by
  have HD : Hid (∀ (c : UInt8) (w : World), Calls Tryz.prog 51 #[u8V c] w fun e w' => e = .returned (.bool (wordB c)) ∧ w = w') := Lib.hid wordByte_any
  unfold u8V strV at *
  go_enter Tryz.func37, Tryz.ntmps37
  go_wp2
  go_loop [5] (fun v => ∃ k : Nat, k ≤ s.length ∧ v = .int .i64 k ∧ Hid ((s.takeWhile wordB).length = k + ((s.drop k).takeWhile wordB).length)) (fun v => s.length - (intOf v).toNat)
  case atStart => exact ⟨0, by omega, rfl, Lib.hid (by simp)⟩
  case round =>
    obtain ⟨k, hk, rfl, HK⟩ := hrel
    by_cases hlt : k < s.length
    · obtain ⟨c, hc⟩ := get_some hlt
      have hidx := idx_str s k c hc
      have hd := HD.out c w
      have HC := Lib.hid (drop_cons hc)
      clear hc
      cases hb : wordB c with
      | true =>
        rw [hb] at hd
        have HK2 : Hid ((s.takeWhile wordB).length = (k + 1) + ((s.drop (k + 1)).takeWhile wordB).length) := Lib.hid (by
          rw [HK.out, HC.out, List.takeWhile_cons_of_pos hb, List.length_cons]; omega)
        clear hb
        go_wp2_with (go_at_call 51; refine hd.mono ?_; rintro e w' ⟨rfl, rfl⟩; clear hd)
        go_round
        case rel => exact ⟨k + 1, by omega, by go_num, HK2⟩
        case measure => simp [intOf]; omega
      | false =>
        rw [hb] at hd
        have HK2 : Hid ((s.takeWhile wordB).length = k) := Lib.hid (by
          rw [HK.out, HC.out, List.takeWhile_cons_of_neg (by simp [hb])]; rfl)
        clear hb
        go_wp2_with (go_at_call 51; refine hd.mono ?_; rintro e w' ⟨rfl, rfl⟩; clear hd)
        go_ret
        exact ⟨ret_int (by rw [HK2.out]), rfl⟩
    · obtain rfl : k = s.length := by omega
      have HK2 : Hid ((s.takeWhile wordB).length = s.length) := Lib.hid (by rw [HK.out, List.drop_length]; rfl)
      go_wp2
      go_ret
      exact ⟨ret_int (by rw [HK2.out]), rfl⟩
set_option maxRecDepth 100000 in
set_option maxHeartbeats 2000000 in
theorem span_digit (s : List UInt8) (w : World) (hs : s.length ≤ 1000000) :
    Calls Tryz.prog 37 #[strV s, .func (.func 38) #[] #[]] w fun e w' => e = .returned (.int .i64 ((s.takeWhile digB).length : Int)) ∧ w = w' := by
  have HD : Hid (∀ (c : UInt8) (w : World), Calls Tryz.prog 38 #[u8V c] w fun e w' => e = .returned (.bool (digB c)) ∧ w = w') := Lib.hid digit_any
  unfold u8V strV at *
  go_enter Tryz.func37, Tryz.ntmps37
  go_wp2
  go_loop [5] (fun v => ∃ k : Nat, k ≤ s.length ∧ v = .int .i64 k ∧ Hid ((s.takeWhile digB).length = k + ((s.drop k).takeWhile digB).length)) (fun v => s.length - (intOf v).toNat)
  case atStart => exact ⟨0, by omega, rfl, Lib.hid (by simp)⟩
  case round =>
    obtain ⟨k, hk, rfl, HK⟩ := hrel
    by_cases hlt : k < s.length
    · obtain ⟨c, hc⟩ := get_some hlt
      have hidx := idx_str s k c hc
      have hd := HD.out c w
      have HC := Lib.hid (drop_cons hc)
      clear hc
      cases hb : digB c with
      | true =>
        rw [hb] at hd
        have HK2 : Hid ((s.takeWhile digB).length = (k + 1) + ((s.drop (k + 1)).takeWhile digB).length) := Lib.hid (by
          rw [HK.out, HC.out, List.takeWhile_cons_of_pos hb, List.length_cons]; omega)
        clear hb
        go_wp2_with (go_at_call 38; refine hd.mono ?_; rintro e w' ⟨rfl, rfl⟩; clear hd)
        go_round
        case rel => exact ⟨k + 1, by omega, by go_num, HK2⟩
        case measure => simp [intOf]; omega
      | false =>
        rw [hb] at hd
        have HK2 : Hid ((s.takeWhile digB).length = k) := Lib.hid (by
          rw [HK.out, HC.out, List.takeWhile_cons_of_neg (by simp [hb])]; rfl)
        clear hb
        go_wp2_with (go_at_call 38; refine hd.mono ?_; rintro e w' ⟨rfl, rfl⟩; clear hd)
        go_ret
        exact ⟨ret_int (by rw [HK2.out]), rfl⟩
    · obtain rfl : k = s.length := by omega
      have HK2 : Hid ((s.takeWhile digB).length = s.length) := Lib.hid (by rw [HK.out, List.drop_length]; rfl)
      go_wp2
      go_ret
      exact ⟨ret_int (by rw [HK2.out]), rfl⟩
def lineB (c : UInt8) : Bool := c != 10
set_option maxRecDepth 100000 in
set_option maxHeartbeats 2000000 in
theorem span_line (s : List UInt8) (w : World) (hs : s.length ≤ 1000000) :
    Calls Tryz.prog 37 #[strV s, .func (.func 64) #[] #[]] w fun e w' => e = .returned (.int .i64 ((s.takeWhile lineB).length : Int)) ∧ w = w' := by
  have HD : Hid (∀ (c : UInt8) (w : World), Calls Tryz.prog 64 #[u8V c] w fun e w' => e = .returned (.bool (lineB c)) ∧ w = w') := Lib.hid notLine_any
  unfold u8V strV at *
  go_enter Tryz.func37, Tryz.ntmps37
  go_wp2
  go_loop [5] (fun v => ∃ k : Nat, k ≤ s.length ∧ v = .int .i64 k ∧ Hid ((s.takeWhile lineB).length = k + ((s.drop k).takeWhile lineB).length)) (fun v => s.length - (intOf v).toNat)
  case atStart => exact ⟨0, by omega, rfl, Lib.hid (by simp)⟩
  case round =>
    obtain ⟨k, hk, rfl, HK⟩ := hrel
    by_cases hlt : k < s.length
    · obtain ⟨c, hc⟩ := get_some hlt
      have hidx := idx_str s k c hc
      have hd := HD.out c w
      have HC := Lib.hid (drop_cons hc)
      clear hc
      cases hb : lineB c with
      | true =>
        rw [hb] at hd
        have HK2 : Hid ((s.takeWhile lineB).length = (k + 1) + ((s.drop (k + 1)).takeWhile lineB).length) := Lib.hid (by
          rw [HK.out, HC.out, List.takeWhile_cons_of_pos hb, List.length_cons]; omega)
        clear hb
        go_wp2_with (go_at_call 64; refine hd.mono ?_; rintro e w' ⟨rfl, rfl⟩; clear hd)
        go_round
        case rel => exact ⟨k + 1, by omega, by go_num, HK2⟩
        case measure => simp [intOf]; omega
      | false =>
        rw [hb] at hd
        have HK2 : Hid ((s.takeWhile lineB).length = k) := Lib.hid (by
          rw [HK.out, HC.out, List.takeWhile_cons_of_neg (by simp [hb])]; rfl)
        clear hb
        go_wp2_with (go_at_call 64; refine hd.mono ?_; rintro e w' ⟨rfl, rfl⟩; clear hd)
        go_ret
        exact ⟨ret_int (by rw [HK2.out]), rfl⟩
    · obtain rfl : k = s.length := by omega
      have HK2 : Hid ((s.takeWhile lineB).length = s.length) := Lib.hid (by rw [HK.out, List.drop_length]; rfl)
      go_wp2
      go_ret
      exact ⟨ret_int (by rw [HK2.out]), rfl⟩
end Go.Proofs.YtdloadeidijcoaaGreatDoor
