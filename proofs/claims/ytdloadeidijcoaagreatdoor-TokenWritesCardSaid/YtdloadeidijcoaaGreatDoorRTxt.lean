/- DERIVED. The reference's number. -/
import Derived.Test.YtdloadeidijcoaaGreatDoorBase
import Derived.Test.YtdloadeidijcoaaGreatDoorSpecAll
import Derived.Laws.IdiomStrings
set_option linter.unusedSimpArgs false
set_option linter.unusedVariables false
namespace Go.Proofs.YtdloadeidijcoaaGreatDoor
open Go.RowKit

def u8V (c : UInt8) : Value := .int .u8 (c.toNat : Int)
theorem let_iff (c : UInt8) : letB c = decide ((97 ≤ (c.toNat : Int) ∧ (c.toNat : Int) ≤ 122) ∨ (65 ≤ (c.toNat : Int) ∧ (c.toNat : Int) ≤ 90) ∨ (c.toNat : Int) = 95) := by
  have := u8_all (p := fun c => letB c = decide ((97 ≤ (c.toNat : Int) ∧ (c.toNat : Int) ≤ 122) ∨ (65 ≤ (c.toNat : Int) ∧ (c.toNat : Int) ≤ 90) ∨ (c.toNat : Int) = 95)) (by decide +kernel) c
  exact this
theorem dig_iff (c : UInt8) : digB c = decide (48 ≤ (c.toNat : Int) ∧ (c.toNat : Int) ≤ 57) := by
  have := u8_all (p := fun c => digB c = decide (48 ≤ (c.toNat : Int) ∧ (c.toNat : Int) ≤ 57)) (by decide +kernel) c
  exact this
theorem white_iff (c : UInt8) : whiteB c = decide ((c.toNat : Int) = 32 ∨ (c.toNat : Int) = 9 ∨ (c.toNat : Int) = 10 ∨ (c.toNat : Int) = 13) := by
  have := u8_all (p := fun c => whiteB c = decide ((c.toNat : Int) = 32 ∨ (c.toNat : Int) = 9 ∨ (c.toNat : Int) = 10 ∨ (c.toNat : Int) = 13)) (by decide +kernel) c
  exact this
set_option maxHeartbeats 1000000 in
theorem rletter_any (c : UInt8) (w : World) : Calls Tryz.prog 56 #[u8V c] w fun e w' => e = .returned (.bool (letB c)) ∧ w = w' := by
  have HB := Lib.hid (let_iff c)
  generalize letB c = B at *
  unfold u8V
  have h0 : (0 : Int) ≤ (c.toNat : Int) := by omega
  have h1 : (c.toNat : Int) ≤ 255 := by have := c.toNat_lt; omega
  generalize (c.toNat : Int) = n at *
  go_enter Tryz.func56, Tryz.ntmps56
  go_wp2
  all_goals
    go_ret
    refine ⟨ret_bool ?_, rfl⟩
    rw [HB.out, Bool.eq_iff_iff]
    first
      | (simp; done)
      | (simp; omega)
set_option maxHeartbeats 1000000 in
theorem rdigit_any (c : UInt8) (w : World) : Calls Tryz.prog 41 #[u8V c] w fun e w' => e = .returned (.bool (digB c)) ∧ w = w' := by
  have HB := Lib.hid (dig_iff c)
  generalize digB c = B at *
  unfold u8V
  have h0 : (0 : Int) ≤ (c.toNat : Int) := by omega
  have h1 : (c.toNat : Int) ≤ 255 := by have := c.toNat_lt; omega
  generalize (c.toNat : Int) = n at *
  go_enter Tryz.func41, Tryz.ntmps41
  go_wp2
  all_goals
    go_ret
    refine ⟨ret_bool ?_, rfl⟩
    rw [HB.out, Bool.eq_iff_iff]
    first
      | (simp; done)
      | (simp; omega)
set_option maxHeartbeats 1000000 in
theorem rwhite_any (c : UInt8) (w : World) : Calls Tryz.prog 57 #[u8V c] w fun e w' => e = .returned (.bool (whiteB c)) ∧ w = w' := by
  have HB := Lib.hid (white_iff c)
  generalize whiteB c = B at *
  unfold u8V
  have h0 : (0 : Int) ≤ (c.toNat : Int) := by omega
  have h1 : (c.toNat : Int) ≤ 255 := by have := c.toNat_lt; omega
  generalize (c.toNat : Int) = n at *
  go_enter Tryz.func57, Tryz.ntmps57
  go_wp2
  all_goals
    go_ret
    refine ⟨ret_bool ?_, rfl⟩
    rw [HB.out, Bool.eq_iff_iff]
    first
      | (simp; done)
      | (simp; omega)
set_option maxHeartbeats 1000000 in
theorem letter_any (c : UInt8) (w : World) : Calls Tryz.prog 50 #[u8V c] w fun e w' => e = .returned (.bool (letB c)) ∧ w = w' := by
  have HB := Lib.hid (let_iff c)
  generalize letB c = B at *
  unfold u8V
  have h0 : (0 : Int) ≤ (c.toNat : Int) := by omega
  have h1 : (c.toNat : Int) ≤ 255 := by have := c.toNat_lt; omega
  generalize (c.toNat : Int) = n at *
  go_enter Tryz.func50, Tryz.ntmps50
  go_wp2
  all_goals
    go_ret
    refine ⟨ret_bool ?_, rfl⟩
    rw [HB.out, Bool.eq_iff_iff]
    first
      | (simp; done)
      | (simp; omega)
set_option maxHeartbeats 1000000 in
theorem digit_any (c : UInt8) (w : World) : Calls Tryz.prog 38 #[u8V c] w fun e w' => e = .returned (.bool (digB c)) ∧ w = w' := by
  have HB := Lib.hid (dig_iff c)
  generalize digB c = B at *
  unfold u8V
  have h0 : (0 : Int) ≤ (c.toNat : Int) := by omega
  have h1 : (c.toNat : Int) ≤ 255 := by have := c.toNat_lt; omega
  generalize (c.toNat : Int) = n at *
  go_enter Tryz.func38, Tryz.ntmps38
  go_wp2
  all_goals
    go_ret
    refine ⟨ret_bool ?_, rfl⟩
    rw [HB.out, Bool.eq_iff_iff]
    first
      | (simp; done)
      | (simp; omega)
end Go.Proofs.YtdloadeidijcoaaGreatDoor
namespace Go.Proofs.YtdloadeidijcoaaGreatDoor
open Go.RowKit

set_option maxHeartbeats 1000000 in
theorem wordByte_any (c : UInt8) (w : World) : Calls Tryz.prog 51 #[u8V c] w fun e w' => e = .returned (.bool (wordB c)) ∧ w = w' := by
  have hl := letter_any c w
  have hd := digit_any c w
  have HW : Hid (wordB c = (letB c || digB c)) := Lib.hid rfl
  generalize wordB c = W at *
  unfold u8V at *
  generalize (c.toNat : Int) = n at *
  generalize digB c = D at *
  generalize letB c = L at *
  cases L with
  | true =>
    go_enter Tryz.func51, Tryz.ntmps51
    go_wp2_with (go_at_call 50; refine hl.mono ?_; rintro e w' ⟨rfl, rfl⟩; clear hl)
    go_ret
    exact ⟨ret_bool (by rw [HW.out]; rfl), rfl⟩
  | false =>
    go_enter Tryz.func51, Tryz.ntmps51
    go_wp2_with (first
      | (go_at_call 50; refine hl.mono ?_; rintro e w' ⟨rfl, rfl⟩; clear hl)
      | (go_at_call 38; refine hd.mono ?_; rintro e w' ⟨rfl, rfl⟩; clear hd))
    go_ret
    exact ⟨ret_bool (by rw [HW.out]; rfl), rfl⟩
def hexI (c : UInt8) : Int := match hexV c with | some n => n | none => -1
theorem hexI_iff (c : UInt8) : hexI c = if 48 ≤ (c.toNat : Int) ∧ (c.toNat : Int) ≤ 57 then (c.toNat : Int) - 48 else if 97 ≤ (c.toNat : Int) ∧ (c.toNat : Int) ≤ 102 then (c.toNat : Int) - 97 + 10 else if 65 ≤ (c.toNat : Int) ∧ (c.toNat : Int) ≤ 70 then (c.toNat : Int) - 65 + 10 else -1 := by
  have := u8_all (p := fun c => hexI c = if 48 ≤ (c.toNat : Int) ∧ (c.toNat : Int) ≤ 57 then (c.toNat : Int) - 48 else if 97 ≤ (c.toNat : Int) ∧ (c.toNat : Int) ≤ 102 then (c.toNat : Int) - 97 + 10 else if 65 ≤ (c.toNat : Int) ∧ (c.toNat : Int) ≤ 70 then (c.toNat : Int) - 65 + 10 else -1) (by decide +kernel) c
  exact this
set_option maxHeartbeats 1000000 in
theorem hexadecimal_any (c : UInt8) (w : World) : Calls Tryz.prog 94 #[u8V c] w fun e w' => e = .returned (.int .i64 (hexI c)) ∧ w = w' := by
  have hd := rdigit_any c w
  rw [dig_iff] at hd
  have HX := Lib.hid (hexI_iff c)
  generalize hexI c = X at *
  unfold u8V at *
  have h0 : (0 : Int) ≤ (c.toNat : Int) := by omega
  have h1 : (c.toNat : Int) ≤ 255 := by have := c.toNat_lt; omega
  generalize (c.toNat : Int) = n at *
  by_cases hc : 48 ≤ n ∧ n ≤ 57
  · obtain ⟨a, b⟩ := hc
    rw [decide_eq_true ⟨a, b⟩] at hd
    go_enter Tryz.func94, Tryz.ntmps94
    go_wp2_with (go_at_call 41; refine hd.mono ?_; rintro e w' ⟨rfl, rfl⟩; clear hd)
    go_ret
    exact ⟨ret_int (by rw [HX.out, if_pos ⟨a, b⟩]), rfl⟩
  · rw [decide_eq_false hc] at hd
    have HC := Lib.hid hc
    clear hc
    go_enter Tryz.func94, Tryz.ntmps94
    go_wp2_with (go_at_call 41; refine hd.mono ?_; rintro e w' ⟨rfl, rfl⟩; clear hd)
    all_goals
      go_ret
      refine ⟨ret_int ?_, rfl⟩
      rw [HX.out, if_neg HC.out]
      first
        | rw [if_pos ⟨by omega, by omega⟩]
        | (rw [if_neg (by omega), if_pos ⟨by omega, by omega⟩])
        | (rw [if_neg (by omega), if_neg (by omega)])
end Go.Proofs.YtdloadeidijcoaaGreatDoor
namespace Go.Proofs.YtdloadeidijcoaaGreatDoor
open Go.RowKit

def strV (l : List UInt8) : Value := .string ⟨l.toArray⟩
theorem ext_list (t : List UInt8) (a b : Nat) : ((⟨t.toArray⟩ : ByteArray).extract a b).toList = (t.drop a).take (b - a) := by
  rw [Lib.toList_data, Lib.extract_data]
theorem pre_eq (s l : List UInt8) : (l.take s.length == s) = s.isPrefixOf l := by
  rw [Bool.eq_iff_iff, beq_iff_eq, List.isPrefixOf_iff_prefix, List.prefix_iff_eq_take]
  exact ⟨fun h => h.symm, fun h => h.symm⟩
set_option maxHeartbeats 1000000 in
theorem at_any (t s : List UInt8) (i : Nat) (w : World) (hi : i ≤ t.length) (ht : t.length ≤ 1000000) (hs : s.length ≤ 1000) :
    Calls Tryz.prog 58 #[strV t, .int .i64 i, strV s] w fun e w' => e = .returned (.bool (s.isPrefixOf (t.drop i))) ∧ w = w' := by
  unfold strV
  have e1 : (⟨t.toArray⟩ : ByteArray).size = t.length := rfl
  have e2 : (⟨s.toArray⟩ : ByteArray).size = s.length := rfl
  by_cases h : i + s.length ≤ t.length
  · have HE : Hid ((((⟨t.toArray⟩ : ByteArray).extract i (i + s.length)).toList == s) = s.isPrefixOf (t.drop i)) := Lib.hid (by rw [ext_list, Nat.add_sub_cancel_left, pre_eq])
    generalize s.isPrefixOf (t.drop i) = B at *
    go_enter Tryz.func58, Tryz.ntmps58
    go_wp2
    go_ret
    exact ⟨ret_bool HE.out, rfl⟩
  · have HE : Hid (s.isPrefixOf (t.drop i) = false) := Lib.hid (by
      cases hp : s.isPrefixOf (t.drop i) with
      | false => rfl
      | true => have := (List.isPrefixOf_iff_prefix.1 hp).length_le; simp at this; omega)
    generalize s.isPrefixOf (t.drop i) = B at *
    go_enter Tryz.func58, Tryz.ntmps58
    go_wp2
    go_ret
    exact ⟨ret_bool HE.out.symm, rfl⟩
end Go.Proofs.YtdloadeidijcoaaGreatDoor
namespace Go.Proofs.YtdloadeidijcoaaGreatDoor
open Go.RowKit

/-- a slice that reads as strings -/
structure Strs (w : World) (A : Option Addr) (n : Nat) (ws : List (List UInt8)) : Prop where
  len : n = ws.length
  at_ : ∀ (i : Nat) (x : List UInt8), ws[i]? = some x → ∃ b o, A = some ⟨b, o, none⟩ ∧ b < w.heap.size ∧ w.cell? ⟨b, o + i, none⟩ = some (strV x)
theorem Strs.below {w w' : World} {A : Option Addr} {n : Nat} {ws : List (List UInt8)} (h : Strs w A n ws) (hb : Below w.heap.size w w') : Strs w' A n ws :=
  ⟨h.len, fun i x hx => by
    obtain ⟨b, o, e, hl, hc⟩ := h.at_ i x hx
    have := hb.size
    exact ⟨b, o, e, by omega, cell_below hb (Nat.le_refl _) hc⟩⟩
set_option maxHeartbeats 1000000 in
theorem has_any (A : Option Addr) (n c : Nat) (ws : List (List UInt8)) (s : List UInt8) (w : World) (hR : Strs w A n ws) (hn : n ≤ 1000) :
    Calls Tryz.prog 24 #[.slice A n c, strV s] w fun e w' => e = .returned (.bool (decide (s ∈ ws))) ∧ w = w' := by
  have HR := Lib.hid hR
  have HL := Lib.hid hR.len
  clear hR
  go_enter Tryz.func24, Tryz.ntmps24
  go_wp2
  go_loop [5] (fun i => ∃ k : Nat, k ≤ n ∧ i = .int .i64 k ∧ Hid (s ∉ ws.take k)) (fun i => n - (intOf i).toNat)
  case atStart => exact ⟨0, by omega, rfl, Lib.hid (by simp)⟩
  case round =>
    obtain ⟨k, hk, rfl, HK⟩ := hrel
    by_cases hlt : k < n
    · obtain ⟨x, hx⟩ := get_some (xs := ws) (k := k) (by rw [← HL.out]; omega)
      obtain ⟨b, o, rfl, _, hc⟩ := HR.out.at_ k x hx
      have HX := Lib.hid hx
      have hk0 : (0 : Int) ≤ (k : Int) := by omega
      have hk1 : (k : Int) < (n : Int) := by omega
      clear hx
      unfold strV at hc ⊢
      by_cases he : x = s
      · have hb : (x == s) = true := by simp [he]
        have HM : Hid (decide (s ∈ ws) = true) := Lib.hid (decide_eq_true (by rw [← he]; exact List.mem_of_getElem? HX.out))
        clear he
        go_wp2
        go_ret
        exact ⟨ret_bool HM.out.symm, rfl⟩
      · have hb : (x == s) = false := by simp [he]
        have HE := Lib.hid he
        clear he
        go_wp2
        go_round
        case rel => exact ⟨k + 1, by omega, by go_num, Lib.hid (by
          rw [List.take_add_one, HX.out]
          intro h
          rcases List.mem_append.1 h with h | h
          · exact HK.out h
          · simp at h; exact HE.out h.symm)⟩
        case measure => simp [intOf]; omega
    · obtain rfl : n = k := by omega
      have HM : Hid (decide (s ∈ ws) = false) := Lib.hid (decide_eq_false (by have := HK.out; rwa [List.take_of_length_le (by rw [← HL.out]; exact Nat.le_refl _)] at this))
      go_wp2
      go_ret
      exact ⟨ret_bool HM.out.symm, rfl⟩
end Go.Proofs.YtdloadeidijcoaaGreatDoor
namespace Go.Proofs.YtdloadeidijcoaaGreatDoor
open Go.RowKit

theorem idx_str (t : List UInt8) (k : Nat) (c : UInt8) (h : t[k]? = some c) : ∀ h', (⟨t.toArray⟩ : ByteArray)[k]'h' = c := by
  intro h'
  obtain ⟨hk, e⟩ := List.getElem?_eq_some_iff.1 h
  rw [← e]; rfl
theorem ten_iff (c : UInt8) : ((c.toNat : Int) != 10) = (c != 10) := by
  have := u8_all (p := fun c => ((c.toNat : Int) != 10) = (c != 10)) (by decide +kernel) c
  exact this
set_option maxHeartbeats 2000000 in
theorem comment_line (t r : List UInt8) (i : Nat) (w : World) (ht : t.length ≤ 1000000) (hr : t.drop i = 47 :: 47 :: r) :
    Calls Tryz.prog 59 #[strV t, .int .i64 i] w fun e w' => e = .returned (.int .i64 ((t.length - ((t.drop i).dropWhile (fun c => c != 10)).length : Nat) : Int)) ∧ w = w' := by
  have hi : i < t.length := by have := congrArg List.length hr; simp at this; omega
  have hat := at_any t [47, 47] i w (by omega) ht (by simp)
  rw [hr] at hat
  rw [show List.isPrefixOf [47, 47] (47 :: 47 :: r) = true by simp [List.isPrefixOf]] at hat
  have HI := Lib.hid hi
  obtain ⟨D, hD⟩ : ∃ D, (t.drop i).dropWhile (fun c => c != 10) = D := ⟨_, rfl⟩
  have HD := Lib.hid hD
  rw [hD]
  clear hr hD
  unfold strV at *
  go_enter Tryz.func59, Tryz.ntmps59
  go_wp2_with (go_at_call 58; refine hat.mono ?_; rintro e w' ⟨rfl, rfl⟩; clear hat)
  go_loop [1] (fun v => ∃ k : Nat, k ≤ t.length ∧ v = .int .i64 k ∧ Hid ((t.drop k).dropWhile (fun c => c != 10) = D)) (fun v => t.length - (intOf v).toNat)
  case atStart => exact ⟨i, by have := HI.out; omega, rfl, HD⟩
  case round =>
    obtain ⟨k, hk, rfl, HK⟩ := hrel
    by_cases hlt : k < t.length
    · obtain ⟨c, hc⟩ := get_some hlt
      have hidx := idx_str t k c hc
      have hd := drop_cons hc
      have HC := Lib.hid hd
      have hten := ten_iff c
      clear hd hc
      by_cases h10 : (c != 10) = true
      · rw [h10] at hten
        have H10 := Lib.hid h10
        clear h10
        go_wp2
        go_round
        case rel => exact ⟨k + 1, by omega, by go_num, Lib.hid (by have := HK.out; rwa [HC.out, List.dropWhile_cons_of_pos (p := fun c : UInt8 => c != 10) H10.out] at this)⟩
        case measure => simp [intOf]; omega
      · have h10' : (c != 10) = false := by simpa using h10
        rw [h10'] at hten
        have H10 := Lib.hid h10
        clear h10 h10'
        have HL : Hid ((k : Int) = ((t.length - D.length : Nat) : Int)) := Lib.hid (by
          have := HK.out
          rw [HC.out, List.dropWhile_cons_of_neg (p := fun c : UInt8 => c != 10) H10.out, ← HC.out] at this
          rw [← this, List.length_drop]; omega)
        go_wp2
        go_ret
        exact ⟨ret_int HL.out, rfl⟩
    · obtain rfl : k = t.length := by omega
      have HL : Hid (D.length = 0) := Lib.hid (by have := HK.out; rw [List.drop_length] at this; rw [← this]; rfl)
      go_wp2
      go_ret
      exact ⟨ret_int (by rw [HL.out]; omega), rfl⟩
end Go.Proofs.YtdloadeidijcoaaGreatDoor
namespace Go.Proofs.YtdloadeidijcoaaGreatDoor
open Go.RowKit

def commI (n : Nat) (o : Option (List UInt8)) : Int := match o with | some r => ((n - r.length : Nat) : Int) | none => -1
def CommAt (t : List UInt8) (i : Nat) (X : Option (List UInt8)) (k d : Nat) : Prop := (d = 0 ∧ k = i) ∨ (1 ≤ d ∧ skipC d (t.drop k) = X)
theorem pre_cases (l : List UInt8) : (∃ r, l = 47 :: 42 :: r) ∨ (List.isPrefixOf [47, 42] l = false ∧ ((∃ r, l = 42 :: 47 :: r) ∨ List.isPrefixOf [42, 47] l = false)) := by
  cases h1 : List.isPrefixOf [47, 42] l with
  | true => obtain ⟨z, hz⟩ := List.isPrefixOf_iff_prefix.1 h1; exact .inl ⟨z, hz.symm⟩
  | false =>
    refine .inr ⟨rfl, ?_⟩
    cases h2 : List.isPrefixOf [42, 47] l with
    | true => obtain ⟨z, hz⟩ := List.isPrefixOf_iff_prefix.1 h2; exact .inl ⟨z, hz.symm⟩
    | false => exact .inr rfl
theorem skip_other {d : Nat} {a : UInt8} {l : List UInt8} (h1 : List.isPrefixOf [47, 42] (a :: l) = false) (h2 : List.isPrefixOf [42, 47] (a :: l) = false) : skipC d (a :: l) = skipC d l := by
  cases l with
  | nil => simp [skipC]
  | cons b l =>
    rw [skipC, if_neg, if_neg]
    · rintro ⟨rfl, rfl⟩; simp [List.isPrefixOf] at h2
    · rintro ⟨rfl, rfl⟩; simp [List.isPrefixOf] at h1
set_option maxHeartbeats 2000000 in
theorem comment_block (t r : List UInt8) (i : Nat) (w : World) (ht : t.length ≤ 1000000) (hr : t.drop i = 47 :: 42 :: r) :
    Calls Tryz.prog 59 #[strV t, .int .i64 i] w fun e w' => e = .returned (.int .i64 (commI t.length (skipC 1 r))) ∧ w = w' := by
  have hi : i < t.length := by have := congrArg List.length hr; simp at this; omega
  have hat := at_any t [47, 47] i w (by omega) ht (by simp)
  rw [hr] at hat
  rw [show List.isPrefixOf [47, 47] (47 :: 42 :: r) = false by simp [List.isPrefixOf]] at hat
  have HI := Lib.hid hi
  have HR := Lib.hid hr
  obtain ⟨X, hX⟩ : ∃ X, skipC 1 r = X := ⟨_, rfl⟩
  have HX := Lib.hid hX
  rw [hX]
  have HA : Hid (∀ k, k ≤ t.length → Calls Tryz.prog 58 #[strV t, .int .i64 k, strV [47, 42]] w fun e w' => e = .returned (.bool (List.isPrefixOf [47, 42] (t.drop k))) ∧ w = w') := Lib.hid (fun k hk => at_any t [47, 42] k w hk ht (by simp))
  have HB : Hid (∀ k, k ≤ t.length → Calls Tryz.prog 58 #[strV t, .int .i64 k, strV [42, 47]] w fun e w' => e = .returned (.bool (List.isPrefixOf [42, 47] (t.drop k))) ∧ w = w') := Lib.hid (fun k hk => at_any t [42, 47] k w hk ht (by simp))
  clear hr hX
  unfold strV at *
  go_enter Tryz.func59, Tryz.ntmps59
  go_wp2_with (go_at_call 58; refine hat.mono ?_; rintro e w' ⟨rfl, rfl⟩; clear hat)
  go_loop [1, 5] (fun v x => ∃ k d : Nat, k ≤ t.length ∧ d ≤ k ∧ v = .int .i64 k ∧ x = .int .i64 d ∧ Hid (CommAt t i X k d)) (fun v _ => t.length - (intOf v).toNat)
  case atStart => exact ⟨i, 0, by have := HI.out; omega, by omega, rfl, rfl, Lib.hid (.inl ⟨rfl, rfl⟩)⟩
  case round =>
    obtain ⟨k, d, hk, hdk, rfl, rfl, HK⟩ := hrel
    by_cases hlt : k < t.length
    · have ha := HA.out k hk
      have hb := HB.out k hk
      have hlen : (t.drop k).length = t.length - k := List.length_drop
      rcases pre_cases (t.drop k) with ⟨q, hq⟩ | ⟨h1, ⟨q, hq⟩ | h2⟩
      · rw [hq] at ha
        rw [show List.isPrefixOf [47, 42] (47 :: 42 :: q) = true by simp [List.isPrefixOf]] at ha
        have hk2 : k + 2 ≤ t.length := by rw [hq] at hlen; simp at hlen; omega
        have hq2 : t.drop (k + 2) = q := by rw [← List.drop_drop, hq]; rfl
        have HN : Hid (CommAt t i X (k + 2) (d + 1)) := Lib.hid (.inr ⟨by omega, by
          rw [hq2]
          rcases HK.out with ⟨rfl, rfl⟩ | ⟨hd1, hs⟩
          · rw [HR.out] at hq; cases hq; exact HX.out
          · rw [hq, skipC, if_pos ⟨rfl, rfl⟩] at hs; exact hs⟩)
        clear hq hq2 hlen hb
        go_wp2_with (go_at_call 58; refine ha.mono ?_; rintro e w' ⟨rfl, rfl⟩; clear ha)
        go_round
        case rel => exact ⟨k + 2, d + 1, by omega, by omega, by go_num, by go_num, HN⟩
        case measure => simp [intOf]; omega
      · rw [hq] at ha hb
        rw [show List.isPrefixOf [47, 42] (42 :: 47 :: q) = false by simp [List.isPrefixOf]] at ha
        rw [show List.isPrefixOf [42, 47] (42 :: 47 :: q) = true by simp [List.isPrefixOf]] at hb
        have hk2 : k + 2 ≤ t.length := by rw [hq] at hlen; simp at hlen; omega
        have hq2 : t.drop (k + 2) = q := by rw [← List.drop_drop, hq]; rfl
        have hs : 1 ≤ d ∧ skipC d (42 :: 47 :: q) = X := by
          rcases HK.out with ⟨rfl, rfl⟩ | ⟨hd1, hs⟩
          · rw [HR.out] at hq; cases hq
          · rw [hq] at hs; exact ⟨hd1, hs⟩
        obtain ⟨hd1, hs⟩ := hs
        rw [skipC, if_neg (by decide), if_pos ⟨rfl, rfl⟩] at hs
        have HS := Lib.hid hs
        have HQ := Lib.hid hq2
        clear hq hq2 hlen hs
        by_cases h1 : d = 1
        · subst h1
          have HE : Hid (((k : Int) + 2) = commI t.length X) := Lib.hid (by
            have := HS.out
            rw [if_pos (by omega)] at this
            rw [← this, ← HQ.out]; unfold commI; simp only [List.length_drop]; omega)
          go_wp2_with (go_at_call 58; first | (refine ha.mono ?_; rintro e w' ⟨rfl, rfl⟩; clear ha) | (refine hb.mono ?_; rintro e w' ⟨rfl, rfl⟩; clear hb))
          go_ret
          exact ⟨ret_int HE.out, rfl⟩
        · have HN : Hid (CommAt t i X (k + 2) (d - 1)) := Lib.hid (.inr ⟨by omega, by
            have := HS.out
            rw [if_neg (by omega)] at this
            rw [HQ.out]; exact this⟩)
          have hd2 : ((d : Int) - 1 == 0) = false := by simp; omega
          go_wp2_with (go_at_call 58; first | (refine ha.mono ?_; rintro e w' ⟨rfl, rfl⟩; clear ha) | (refine hb.mono ?_; rintro e w' ⟨rfl, rfl⟩; clear hb))
          go_round
          case rel => exact ⟨k + 2, d - 1, by omega, by omega, by go_num, by (congr 1; omega), HN⟩
          case measure => simp [intOf]; omega
      · rw [h1] at ha
        rw [h2] at hb
        obtain ⟨c, hc⟩ := get_some hlt
        have hd := drop_cons hc
        have HN : Hid (CommAt t i X (k + 1) d) := Lib.hid (.inr (by
          rcases HK.out with ⟨rfl, rfl⟩ | ⟨hd1, hs⟩
          · rw [HR.out] at h1; simp [List.isPrefixOf] at h1
          · rw [hd] at hs h1 h2
            rw [skip_other h1 h2] at hs
            exact ⟨hd1, hs⟩))
        clear hc hd hlen h1 h2
        go_wp2_with (go_at_call 58; first | (refine ha.mono ?_; rintro e w' ⟨rfl, rfl⟩; clear ha) | (refine hb.mono ?_; rintro e w' ⟨rfl, rfl⟩; clear hb))
        go_round
        case rel => exact ⟨k + 1, d, by omega, by omega, by go_num, rfl, HN⟩
        case measure => simp [intOf]; omega
    · obtain rfl : k = t.length := by omega
      have HE : Hid ((-1 : Int) = commI t.length X) := Lib.hid (by
        rcases HK.out with ⟨rfl, rfl⟩ | ⟨hd1, hs⟩
        · have := HI.out; omega
        · rw [List.drop_length] at hs; rw [← hs]; unfold commI; simp [skipC])
      go_wp2
      go_ret
      exact ⟨ret_int HE.out, rfl⟩
end Go.Proofs.YtdloadeidijcoaaGreatDoor
namespace Go.Proofs.YtdloadeidijcoaaGreatDoor
open Go.RowKit

/-- what escaped tells: the byte and the length; zeros, if it is none -/
def escI (n : Nat) (o : Option (UInt8 × List UInt8)) : Value := match o with | some (b, r) => .tuple #[u8V b, .int .i64 ((n - r.length : Nat) : Int)] | none => .tuple #[.int .u8 0, .int .i64 0]
set_option maxHeartbeats 2000000 in
theorem esc_end (t : List UInt8) (i : Nat) (w : World) (ht : t.length ≤ 1000000) (hi : t.length = i + 1) :
    Calls Tryz.prog 84 #[strV t, .int .i64 i] w fun e w' => e = .returned (.tuple #[.int .u8 0, .int .i64 0]) ∧ w = w' := by
  unfold strV
  have h1 : t.length ≤ i + 1 := by omega
  have h2 : i ≤ 1000000 := by omega
  clear hi
  go_enter Tryz.func84, Tryz.ntmps84
  go_wp2
  go_ret2
  exact ⟨rfl, rfl⟩
set_option maxHeartbeats 2000000 in
theorem esc_plain (t : List UInt8) (i : Nat) (c : UInt8) (w : World) (ht : t.length ≤ 1000000) (hc : t[i + 1]? = some c) (h : c = 92 ∨ c = 34 ∨ c = 110 ∨ c = 116) :
    Calls Tryz.prog 84 #[strV t, .int .i64 i] w fun e w' => e = .returned (.tuple #[u8V (if c = 110 then 10 else if c = 116 then 9 else c), .int .i64 2]) ∧ w = w' := by
  unfold strV u8V
  have hidx := idx_str t (i + 1) c hc
  have hl : i + 1 < t.length := (List.getElem?_eq_some_iff.1 hc).1
  have hn : ((i : Int) + 1).toNat = i + 1 := by omega
  clear hc
  rcases h with rfl | rfl | rfl | rfl
  all_goals
    go_enter Tryz.func84, Tryz.ntmps84
    go_wp2
    go_ret2
    exact ⟨rfl, rfl⟩
theorem u8_ne {c d : UInt8} (h : c ≠ d) : ((c.toNat : Int) == (d.toNat : Int)) = false := by
  rw [beq_eq_false_iff_ne]
  intro e
  exact h (UInt8.toNat_inj.1 (by omega))
set_option maxHeartbeats 2000000 in
theorem esc_bad (t : List UInt8) (i : Nat) (c : UInt8) (w : World) (ht : t.length ≤ 1000000) (hc : t[i + 1]? = some c) (h : ¬ (c = 92 ∨ c = 34 ∨ c = 110 ∨ c = 116 ∨ c = 120)) :
    Calls Tryz.prog 84 #[strV t, .int .i64 i] w fun e w' => e = .returned (.tuple #[.int .u8 0, .int .i64 0]) ∧ w = w' := by
  unfold strV
  have hidx := idx_str t (i + 1) c hc
  have hl : i + 1 < t.length := (List.getElem?_eq_some_iff.1 hc).1
  have hn : ((i : Int) + 1).toNat = i + 1 := by omega
  simp only [not_or] at h
  obtain ⟨g1, g2, g3, g4, g5⟩ := h
  have f1 : ((c.toNat : Int) == 92) = false := u8_ne g1
  have f2 : ((c.toNat : Int) == 34) = false := u8_ne g2
  have f3 : ((c.toNat : Int) == 110) = false := u8_ne g3
  have f4 : ((c.toNat : Int) == 116) = false := u8_ne g4
  have f5 : ((c.toNat : Int) == 120) = false := u8_ne g5
  clear hc g1 g2 g3 g4 g5
  go_enter Tryz.func84, Tryz.ntmps84
  go_wp2
  go_ret2
  exact ⟨rfl, rfl⟩
set_option maxHeartbeats 2000000 in
theorem esc_hex_end (t : List UInt8) (i : Nat) (w : World) (ht : t.length ≤ 1000000) (hc : t[i + 1]? = some 120) (h : t.length ≤ i + 3) :
    Calls Tryz.prog 84 #[strV t, .int .i64 i] w fun e w' => e = .returned (.tuple #[.int .u8 0, .int .i64 0]) ∧ w = w' := by
  unfold strV
  have hidx := idx_str t (i + 1) 120 hc
  have hl : i + 1 < t.length := (List.getElem?_eq_some_iff.1 hc).1
  have hn : ((i : Int) + 1).toNat = i + 1 := by omega
  clear hc
  go_enter Tryz.func84, Tryz.ntmps84
  go_wp2
  go_ret2
  exact ⟨rfl, rfl⟩
end Go.Proofs.YtdloadeidijcoaaGreatDoor
namespace Go.Proofs.YtdloadeidijcoaaGreatDoor
open Go.RowKit

theorem hex_hi (c : UInt8) : -1 ≤ hexI c ∧ hexI c ≤ 15 := by
  have := u8_all (p := fun c => -1 ≤ hexI c ∧ hexI c ≤ 15) (by decide +kernel) c
  exact this
set_option maxRecDepth 100000 in
set_option maxHeartbeats 4000000 in
theorem esc_hex (t : List UInt8) (i : Nat) (a b : UInt8) (w : World) (ht : t.length ≤ 1000000) (hc : t[i + 1]? = some 120) (hc2 : t[i + 2]? = some a) (hc3 : t[i + 3]? = some b) :
    Calls Tryz.prog 84 #[strV t, .int .i64 i] w fun e w' => e = .returned (if 0 ≤ hexI a ∧ 0 ≤ hexI b then .tuple #[.int .u8 (16 * hexI a + hexI b), .int .i64 4] else .tuple #[.int .u8 0, .int .i64 0]) ∧ Below w.heap.size w w' := by
  unfold strV
  have hidx := idx_str t (i + 1) 120 hc
  have hidx2 := idx_str t (i + 2) a hc2
  have hidx3 := idx_str t (i + 3) b hc3
  have hl : i + 3 < t.length := (List.getElem?_eq_some_iff.1 hc3).1
  have hn : ((i : Int) + 1).toNat = i + 1 := by omega
  have hn2 : ((i : Int) + 2).toNat = i + 2 := by omega
  have hn3 : ((i : Int) + 3).toNat = i + 3 := by omega
  have hw2 : IntKind.i64.wrap ((i : Int) + 2) = (i : Int) + 2 := IntWalk.i64_in _ (by omega)
  have hw3 : IntKind.i64.wrap ((i : Int) + 3) = (i : Int) + 3 := IntWalk.i64_in _ (by omega)
  have hp2 : (0 : Int) ≤ (i : Int) + 2 := by omega
  have hp3 : (0 : Int) ≤ (i : Int) + 3 := by omega
  have hq2 : (i : Int) + 2 < (t.length : Int) := by omega
  have hq3 : (i : Int) + 3 < (t.length : Int) := by omega
  obtain ⟨ha1, ha2⟩ := hex_hi a
  obtain ⟨hb1, hb2⟩ := hex_hi b
  have hop : ∀ (c : UInt8) (w : World), Calls Tryz.prog 94 #[.int .u8 (c.toNat : Int)] w fun e w' => e = .returned (.int .i64 (hexI c)) ∧ w' = w := fun c w => (hexadecimal_any c w).mono fun e w' h => ⟨h.1, h.2.symm⟩
  have HOP := Lib.hid hop
  clear hc hc2 hc3 hop
  by_cases hx : 0 ≤ hexI a
  · by_cases hy : 0 ≤ hexI b
    · rw [if_pos ⟨hx, hy⟩]
      go_enter Tryz.func84, Tryz.ntmps84
      go_wp2_with fail
      go_quiet ((go_at_call 94; exact Calls.quiet_of_same (HOP.out _ _)))
      go_wp2
      go_ret2
      exact ⟨rfl, below_draw (Below.refl _ _) _⟩
    · rw [if_neg (by omega)]
      go_enter Tryz.func84, Tryz.ntmps84
      go_wp2_with fail
      go_quiet ((go_at_call 94; exact Calls.quiet_of_same (HOP.out _ _)))
      go_wp2
      go_ret2
      exact ⟨rfl, below_draw (Below.refl _ _) _⟩
  · rw [if_neg (by omega)]
    go_enter Tryz.func84, Tryz.ntmps84
    go_wp2_with fail
    go_quiet ((go_at_call 94; exact Calls.quiet_of_same (HOP.out _ _)))
    go_wp2
    go_ret2
    exact ⟨rfl, below_draw (Below.refl _ _) _⟩
end Go.Proofs.YtdloadeidijcoaaGreatDoor
namespace Go.Proofs.YtdloadeidijcoaaGreatDoor
open Go.RowKit

def escR (q : List UInt8) : Value := match escL q with | some (b, r) => .tuple #[u8V b, .int .i64 ((q.length + 1 - r.length : Nat) : Int)] | none => .tuple #[.int .u8 0, .int .i64 0]
theorem hexI_some {c : UInt8} {n : Nat} (h : hexV c = some n) : hexI c = n := by simp [hexI, h]
theorem hexI_none {c : UInt8} (h : hexV c = none) : hexI c = -1 := by simp [hexI, h]
theorem escaped_any (t q : List UInt8) (i : Nat) (w : World) (ht : t.length ≤ 1000000) (hq : t.drop i = 92 :: q) :
    Calls Tryz.prog 84 #[strV t, .int .i64 i] w fun e w' => e = .returned (escR q) ∧ Below w.heap.size w w' := by
  have hl : t.length - i = q.length + 1 := by have := congrArg List.length hq; simpa using this
  have hg : ∀ j, t[i + 1 + j]? = q[j]? := fun j => by
    have : (t.drop i)[j + 1]? = q[j]? := by rw [hq]; rfl
    rw [List.getElem?_drop] at this
    rw [← this]; congr 1; omega
  have same : ∀ {v : Value} {e : Ending} {w' : World}, (e = .returned v ∧ w = w') → v = escR q → e = .returned (escR q) ∧ Below w.heap.size w w' := fun h hv => by
    obtain ⟨rfl, rfl⟩ := h; exact ⟨by rw [hv], Below.refl _ _⟩
  cases q with
  | nil => exact (esc_end t i w ht (by simp at hl; omega)).mono fun e w' h => same h rfl
  | cons c r =>
    have h0 : t[i + 1]? = some c := by simpa using hg 0
    by_cases hp : c = 92 ∨ c = 34 ∨ c = 110 ∨ c = 116
    · refine (esc_plain t i c w ht h0 hp).mono fun e w' h => same h ?_
      have e2 : ((c :: r).length + 1 - r.length : Nat) = 2 := by simp; omega
      unfold escR escL
      rcases hp with rfl | rfl | rfl | rfl <;> simp [u8V] <;> omega
    · by_cases hx : c = 120
      · subst hx
        match r, hg, hl with
        | [], hg, hl => exact (esc_hex_end t i w ht h0 (by simp at hl; omega)).mono fun e w' h => same h (by simp [escR, escL])
        | [a], hg, hl => exact (esc_hex_end t i w ht h0 (by simp at hl; omega)).mono fun e w' h => same h (by simp [escR, escL])
        | a :: b :: r, hg, hl =>
          have h1 : t[i + 2]? = some a := by simpa using hg 1
          have h2 : t[i + 3]? = some b := by simpa using hg 2
          refine (esc_hex t i a b w ht h0 h1 h2).mono fun e w' h => ⟨?_, h.2⟩
          rw [h.1]
          congr 1
          rcases ha : hexV a with _ | x
          · rw [hexI_none ha, if_neg (by omega)]; simp [escR, escL, ha]
          · rcases hb : hexV b with _ | y
            · rw [hexI_none hb, if_neg (by omega)]; simp [escR, escL, ha, hb]
            · rw [hexI_some ha, hexI_some hb, if_pos ⟨by omega, by omega⟩]
              have b1 := (hex_hi a).2
              have b2 := (hex_hi b).2
              rw [hexI_some ha] at b1
              rw [hexI_some hb] at b2
              have e1 : ((UInt8.ofNat (16 * x + y)).toNat : Int) = 16 * (x : Int) + y := by
                rw [UInt8.toNat_ofNat', Nat.mod_eq_of_lt (by omega)]; omega
              have e2 : ((120 :: a :: b :: r).length + 1 - r.length : Nat) = 4 := by simp; omega
              have e3 : escL (120 :: a :: b :: r) = some (UInt8.ofNat (16 * x + y), r) := by simp [escL, ha, hb]
              show _ = escR _
              unfold escR
              rw [e3]
              simp only [u8V, e1, e2]
              rfl
      · refine (esc_bad t i c w ht h0 (by simp only [not_or] at hp ⊢; exact ⟨hp.1, hp.2.1, hp.2.2.1, hp.2.2.2, hx⟩)).mono fun e w' h => same h ?_
        simp only [not_or] at hp
        simp [escR, escL, hp.1, hp.2.1, hp.2.2.1, hp.2.2.2, hx]
end Go.Proofs.YtdloadeidijcoaaGreatDoor
namespace Go.Proofs.YtdloadeidijcoaaGreatDoor
open Go.RowKit

theorem conv_one (c : UInt8) (w : World) : (convert 41 9 (.slice (some ⟨w.heap.size, 0, none⟩) 1 1)).run Tryz.prog (w.alloc (.cells #[.int .u8 (c.toNat : Int)] 5)) = .ok (.string ⟨#[c]⟩) (w.alloc (.cells #[.int .u8 (c.toNat : Int)] 5)) :=
  run_convert_bytes_back _ _ _ 5 ⟨w.heap.size, 0, none⟩ 1 [c] Tryz.underlying41 Tryz.underlying5 Tryz.underlying9 (fun j hj => by
    have : j = 0 := by simpa using hj
    subst this
    show (w.alloc (.cells #[.int .u8 (c.toNat : Int)] 5)).cell? ⟨w.heap.size, 0, none⟩ = _
    unfold World.cell?
    rw [heap_alloc_new]
    rfl)
def quoR (n : Nat) (o : Option (List UInt8 × List UInt8)) : Value := match o with | some (s, r) => .tuple #[strV s, .int .i64 ((n - r.length : Nat) : Int)] | none => .tuple #[strV [], .int .i64 (-1)]
theorem quo_step (c : UInt8) (r : List UInt8) : quoL (c :: r) = if c = 34 then some ([], r) else if c = 92 then (match escL r with | none => none | some (b, r') => (quoL r').map (fun x => (b :: x.1, x.2))) else if c < 32 ∨ 126 < c then none else (quoL r).map (fun x => (c :: x.1, x.2)) := by
  rw [quoL]
  split
  · rfl
  · split
    · split
      · rename_i h; rw [h]
      · rename_i h; rw [h]
    · rfl
end Go.Proofs.YtdloadeidijcoaaGreatDoor
namespace Go.Proofs.YtdloadeidijcoaaGreatDoor
open Go.RowKit

def QuoAt (t : List UInt8) (X : Option (List UInt8 × List UInt8)) (k : Nat) (p : List UInt8) : Prop := (quoL (t.drop k)).map (fun x => (p ++ x.1, x.2)) = X
theorem escL_drop {l r : List UInt8} {b : UInt8} (h : escL l = some (b, r)) : ∃ j, 1 ≤ j ∧ j ≤ l.length ∧ r = l.drop j := by
  unfold escL at h
  split at h
  · cases h
  · rename_i c t
    split at h
    · cases h; exact ⟨1, by omega, by simp, rfl⟩
    · split at h
      · cases h; exact ⟨1, by omega, by simp, rfl⟩
      · split at h
        · cases h; exact ⟨1, by omega, by simp, rfl⟩
        · split at h
          · split at h
            · split at h
              · cases h; exact ⟨3, by omega, by simp, rfl⟩
              · cases h
            · cases h
          · cases h
theorem bcat2 (a b : List UInt8) : (⟨a.toArray⟩ : ByteArray) ++ ⟨b.toArray⟩ = ⟨(a ++ b).toArray⟩ := by
  apply ByteArray.ext; simp
set_option maxRecDepth 100000 in
set_option maxHeartbeats 4000000 in
theorem quoted_any (t q : List UInt8) (i : Nat) (w : World) (ht : t.length ≤ 1000000) (hq : t.drop i = 34 :: q) :
    Calls Tryz.prog 74 #[strV t, .int .i64 i] w fun e w' => e = .returned (quoR t.length (quoL q)) ∧ Below w.heap.size w w' := by
  have hi : i < t.length := by have := congrArg List.length hq; simp at this; omega
  have hq1 : t.drop (i + 1) = q := by rw [← List.drop_drop, hq]; rfl
  obtain ⟨X, hX⟩ : ∃ X, quoL q = X := ⟨_, rfl⟩
  have H0 : Hid (QuoAt t X (i + 1) []) := Lib.hid (by unfold QuoAt; rw [hq1, hX]; cases X <;> rfl)
  rw [hX]
  have HE : Hid (∀ (k : Nat) (q : List UInt8) (W : World), t.drop k = 92 :: q → Calls Tryz.prog 84 #[strV t, .int .i64 k] W fun e w' => e = .returned (escR q) ∧ Below W.heap.size W w') := Lib.hid (fun k q W h => escaped_any t q k W ht h)
  clear hq hq1 hX
  unfold strV at *
  go_enter Tryz.func74, Tryz.ntmps74
  go_wp2
  go_loopw [6, 1] (fun s v wr => ∃ (k : Nat) (p : List UInt8), k ≤ t.length ∧ p.length ≤ k ∧ s = .string ⟨p.toArray⟩ ∧ v = .int .i64 k ∧ Hid (QuoAt t X k p) ∧ Below w.heap.size w wr) (fun _ v _ => t.length - (intOf v).toNat)
  case atStart => exact ⟨i + 1, [], by omega, by simp, rfl, by go_num, H0, Below.refl _ _⟩
  case round =>
    obtain ⟨k, p, hk, hp, rfl, rfl, HK, hb⟩ := hrel
    have HB := Lib.hid hb
    clear hb
    by_cases hlt : k < t.length
    · obtain ⟨c, hc⟩ := get_some hlt
      have hidx := idx_str t k c hc
      have HC := Lib.hid (drop_cons hc)
      have HS : Hid (quoL (t.drop k) = if c = 34 then some ([], t.drop (k + 1)) else if c = 92 then (match escL (t.drop (k + 1)) with | none => none | some (b, r') => (quoL r').map (fun x => (b :: x.1, x.2))) else if c < 32 ∨ 126 < c then none else (quoL (t.drop (k + 1))).map (fun x => (c :: x.1, x.2))) := Lib.hid (by rw [HC.out, quo_step]; first | done | rfl)
      clear hc
      by_cases h34 : c = 34
      · have f1 : ((c.toNat : Int) == 34) = true := by rw [h34]; rfl
        have HR : Hid (quoR t.length X = .tuple #[.string ⟨p.toArray⟩, .int .i64 ((k : Int) + 1)]) := Lib.hid (by
          have := HK.out
          unfold QuoAt at this
          rw [HS.out, if_pos h34] at this
          rw [← this]
          simp [quoR, strV]; omega)
        clear h34
        go_wp2
        go_ret2
        exact ⟨congrArg Ending.returned HR.out.symm, HB.out⟩
      · have f1 : ((c.toNat : Int) == 34) = false := u8_ne h34
        by_cases h92 : c = 92
        · have f2 : ((c.toNat : Int) == 92) = true := by rw [h92]; rfl
          have he := HE.out k (t.drop (k + 1)) wr (by rw [HC.out, h92])
          have HN : Hid (QuoAt t X k p → (match escL (t.drop (k + 1)) with | none => X = none | some (b, r') => (quoL r').map (fun x => (p ++ b :: x.1, x.2)) = X)) := Lib.hid (fun h => by
            unfold QuoAt at h
            rw [HS.out, if_neg h34, if_pos h92] at h
            revert h
            rcases escL (t.drop (k + 1)) with _ | ⟨b, r'⟩
            · exact fun h => h.symm
            · intro h; simpa [Option.map_map, Function.comp_def] using h)
          clear h34 h92
          rcases hE : escL (t.drop (k + 1)) with _ | ⟨b, r'⟩
          · have HR : Hid (quoR t.length X = .tuple #[.string ⟨#[]⟩, .int .i64 (-1)]) := Lib.hid (by
              have := HN.out HK.out
              rw [hE] at this
              simp only [this]; rfl)
            rw [show escR (t.drop (k + 1)) = .tuple #[.int .u8 0, .int .i64 0] by unfold escR; rw [hE]] at he
            clear hE
            go_wp2_with (go_at_call 84; refine he.mono ?_; rintro e w2 ⟨rfl, hb2⟩; have HB2 := Lib.hid (HB.out.trans (hb2.mono HB.out.size)); clear he hb2)
            go_ret2
            exact ⟨congrArg Ending.returned HR.out.symm, HB2.out⟩
          · obtain ⟨j, hj1, hj2, rfl⟩ := escL_drop hE
            have hjl : j ≤ t.length - (k + 1) := by simpa using hj2
            have hjn : ((t.drop (k + 1)).length + 1 - ((t.drop (k + 1)).drop j).length : Nat) = j + 1 := by simp; omega
            rw [show escR (t.drop (k + 1)) = .tuple #[u8V b, .int .i64 ((j + 1 : Nat) : Int)] by unfold escR; rw [hE]; simp only [hjn]] at he
            have HN2 : Hid (QuoAt t X (k + (j + 1)) (p ++ [b])) := Lib.hid (by
              have := HN.out HK.out
              rw [hE] at this
              unfold QuoAt
              simp only [List.drop_drop] at this
              rw [show k + (j + 1) = k + 1 + j by omega]
              simpa using this)
            clear hE hj2 hjn
            have hcv := fun W => conv_one b W
            have hj0 : (((j + 1 : Nat) : Int) == 0) = false := by simp; omega
            unfold u8V at he
            have hbc : ∀ (p : List UInt8), (⟨p.toArray⟩ : ByteArray) ++ ⟨#[b]⟩ = ⟨(p ++ [b]).toArray⟩ := fun p => bcat2 p [b]
            go_wp2_with (go_at_call 84; refine he.mono ?_; rintro e w2 ⟨rfl, hb2⟩; have HB2 := Lib.hid (HB.out.trans (hb2.mono HB.out.size)); clear he hb2)
            go_roundw
            case rel => exact ⟨k + (j + 1), p ++ [b], by omega, by simp; omega, rfl, by go_num, HN2, HB2.out.alloc HB2.out.size _⟩
            case measure => simp [intOf]; omega
        · have f2 : ((c.toNat : Int) == 92) = false := u8_ne h92
          have h0 : (0 : Int) ≤ (c.toNat : Int) := by omega
          have h255 : (c.toNat : Int) ≤ 255 := by have := c.toNat_lt; omega
          by_cases hbad : c < 32 ∨ 126 < c
          · have HR : Hid (quoR t.length X = .tuple #[.string ⟨#[]⟩, .int .i64 (-1)]) := Lib.hid (by
              have := HK.out
              unfold QuoAt at this
              rw [HS.out, if_neg h34, if_neg h92, if_pos hbad] at this
              rw [← this]; rfl)
            by_cases hlo : c < 32
            · have f3 : decide ((c.toNat : Int) < 32) = true := decide_eq_true (by have := UInt8.lt_iff_toNat_lt.1 hlo; simp at this; omega)
              clear h34 h92 hbad hlo
              go_wp2
              go_ret2
              exact ⟨congrArg Ending.returned HR.out.symm, HB.out⟩
            · have f3 : decide ((c.toNat : Int) < 32) = false := decide_eq_false (by have := fun h => hlo (UInt8.lt_iff_toNat_lt.2 h); simp at this; omega)
              have f4 : decide ((c.toNat : Int) > 126) = true := decide_eq_true (by have := UInt8.lt_iff_toNat_lt.1 (hbad.resolve_left hlo); simp at this; omega)
              clear h34 h92 hbad hlo
              go_wp2
              go_ret2
              exact ⟨congrArg Ending.returned HR.out.symm, HB.out⟩
          · have f3 : decide ((c.toNat : Int) < 32) = false := decide_eq_false (by have := fun h => hbad (.inl (UInt8.lt_iff_toNat_lt.2 h)); simp at this; omega)
            have f4 : decide ((c.toNat : Int) > 126) = false := decide_eq_false (by have := fun h => hbad (.inr (UInt8.lt_iff_toNat_lt.2 h)); simp at this; omega)
            have HN2 : Hid (QuoAt t X (k + 1) (p ++ [c])) := Lib.hid (by
              have := HK.out
              unfold QuoAt at this ⊢
              rw [HS.out, if_neg h34, if_neg h92, if_neg hbad] at this
              rw [← this]
              cases quoL (t.drop (k + 1)) <;> simp)
            clear h34 h92 hbad
            have hcv := fun W => conv_one c W
            have hbc : ∀ (p : List UInt8), (⟨p.toArray⟩ : ByteArray) ++ ⟨#[c]⟩ = ⟨(p ++ [c]).toArray⟩ := fun p => bcat2 p [c]
            go_wp2
            go_roundw
            case rel => exact ⟨k + 1, p ++ [c], by omega, by simp; omega, rfl, by go_num, HN2, HB.out.alloc HB.out.size _⟩
            case measure => simp [intOf]; omega
    · obtain rfl : k = t.length := by omega
      have HR : Hid (quoR t.length X = .tuple #[.string ⟨#[]⟩, .int .i64 (-1)]) := Lib.hid (by
        have := HK.out
        unfold QuoAt at this
        rw [List.drop_length, quoL] at this
        rw [← this]; rfl)
      go_wp2
      go_ret2
      exact ⟨congrArg Ending.returned HR.out.symm, HB.out⟩
end Go.Proofs.YtdloadeidijcoaaGreatDoor
namespace Go.Proofs.YtdloadeidijcoaaGreatDoor
open Go.RowKit

theorem digits_snoc (l : List UInt8) (c : UInt8) : digitsV (l ++ [c]) = 10 * digitsV l + (c.toNat - 48) := by simp [digitsV]
theorem dig_val {c : UInt8} (h : digB c = true) : 48 ≤ (c.toNat : Int) ∧ (c.toNat : Int) ≤ 57 := by
  have := dig_iff c
  rw [h] at this
  exact of_decide_eq_true this.symm
theorem fold_ge : ∀ (r : List UInt8) (n : Nat), n * 10 ^ r.length ≤ r.foldl (fun n c => 10 * n + (c.toNat - 48)) n
  | [], n => by simp
  | c :: r, n => by
    have := fold_ge r (10 * n + (c.toNat - 48))
    simp only [List.foldl_cons, List.length_cons]
    refine Nat.le_trans ?_ this
    rw [Nat.pow_succ, Nat.mul_comm (10 ^ r.length) 10, ← Nat.mul_assoc]
    exact Nat.mul_le_mul_right _ (by omega)
theorem fold_lt : ∀ (r : List UInt8) (n m : Nat), r.all digB = true → n < m → r.foldl (fun n c => 10 * n + (c.toNat - 48)) n < m * 10 ^ r.length
  | [], n, m, _, h => by simpa using h
  | c :: r, n, m, h, hn => by
    rw [List.all_cons, Bool.and_eq_true] at h
    have h1 := dig_val h.1
    have := fold_lt r (10 * n + (c.toNat - 48)) (10 * m) h.2 (by omega)
    simp only [List.foldl_cons, List.length_cons]
    refine Nat.lt_of_lt_of_le this ?_
    rw [Nat.pow_succ, Nat.mul_comm (10 ^ r.length) 10, ← Nat.mul_assoc, Nat.mul_comm 10 m]
    exact Nat.le_refl _
theorem digits_lt {l : List UInt8} (h : l.all digB = true) : digitsV l < 10 ^ l.length := by
  have := fold_lt l 0 1 h (by omega)
  simpa [digitsV] using this
theorem num_long {s : List UInt8} (h : 19 < s.length) : numL s = none := by
  unfold numL
  split
  · rfl
  · rename_i h1
    simp only [not_or] at h1
    obtain ⟨h2, h3, h4⟩ := h1
    rw [if_neg]
    cases s with
    | nil => simp at h
    | cons c r =>
      have hc : c ≠ 48 := fun e => h4 ⟨by rw [e]; rfl, by simp at h; simp; omega⟩
      have hd : digB c = true := by
        simp only [List.all_cons] at h3
        cases hh : digB c with
        | true => rfl
        | false => simp [hh] at h3
      have hv := dig_val hd
      have hne : (c.toNat : Int) ≠ 48 := fun e => hc (UInt8.toNat_inj.1 (by have : (48 : UInt8).toNat = 48 := rfl; omega))
      have h5 := fold_ge r (10 * 0 + (c.toNat - 48))
      have h6 : 10 ^ 19 ≤ 10 ^ r.length := Nat.pow_le_pow_right (by omega) (by simp at h; omega)
      have h7 : 1 * 10 ^ r.length ≤ (10 * 0 + (c.toNat - 48)) * 10 ^ r.length := Nat.mul_le_mul_right _ (by omega)
      have h8 : (10 : Nat) ^ 19 = 10000000000000000000 := by decide
      rw [show digitsV (c :: r) = r.foldl (fun n c => 10 * n + (c.toNat - 48)) (10 * 0 + (c.toNat - 48)) from rfl]
      omega
/-- what number tells -/
def NumRes (s : List UInt8) (e : Ending) : Prop := ∃ v, e = .returned (.tuple #[.int .i64 v, .bool (numL s).isSome]) ∧ ∀ n, numL s = some n → v = n
theorem NumRes.none {s : List UInt8} (h : numL s = none) : NumRes s (.returned (.tuple #[.int .i64 0, .bool false])) := ⟨0, by rw [h]; rfl, fun n hn => by rw [h] at hn; cases hn⟩
def NumAt (s : List UInt8) (k N : Nat) : Prop := N = digitsV (s.take k) ∧ (s.take k).all digB = true ∧ N < 10 ^ k
theorem NumAt.step {s : List UInt8} {k N : Nat} {c : UInt8} (h : NumAt s k N) (hc : s[k]? = some c) (hd : digB c = true) : NumAt s (k + 1) (10 * N + (c.toNat - 48)) := by
  obtain ⟨h1, h2, h3⟩ := h
  have e : s.take (k + 1) = s.take k ++ [c] := by rw [List.take_add_one, hc]; rfl
  have := dig_val hd
  refine ⟨by rw [e, digits_snoc, h1], by rw [e, List.all_append, h2]; simp [hd], ?_⟩
  rw [Nat.pow_succ]; omega
set_option maxRecDepth 100000 in
set_option maxHeartbeats 2000000 in
theorem number_any (s : List UInt8) (w : World) (hs : s.length ≤ 1000000) :
    Calls Tryz.prog 26 #[strV s] w fun e w' => NumRes s e ∧ w = w' := by
  unfold strV
  by_cases h0 : s = []
  · subst h0
    have hn : NumRes [] (.returned (.tuple #[.int .i64 0, .bool false])) := NumRes.none (by simp [numL])
    have HN := Lib.hid hn
    clear hn
    go_enter Tryz.func26, Tryz.ntmps26
    go_wp2
    go_ret2
    exact ⟨HN.out, rfl⟩
  obtain ⟨c, hc⟩ : ∃ c, s[0]? = some c := get_some (List.length_pos_iff.2 h0)
  have hl : 0 < s.length := List.length_pos_iff.2 h0
  have hidx := idx_str s 0 c hc
  clear h0
  have f0 : ((s.length : Int) == 0) = false := beq_eq_false_iff_ne.2 (by omega)
  by_cases h19 : 19 < s.length
  · have HN := Lib.hid (NumRes.none (num_long h19))
    have f9 : decide ((19 : Int) < (s.length : Int)) = true := decide_eq_true (by omega)
    clear hc
    go_enter Tryz.func26, Tryz.ntmps26
    go_wp2
    go_ret2
    exact ⟨HN.out, rfl⟩
  by_cases hz : c = 48 ∧ 1 < s.length
  · obtain ⟨rfl, h1⟩ := hz
    have f2 : decide ((1 : Int) < (s.length : Int)) = true := decide_eq_true (by omega)
    have HN := Lib.hid (NumRes.none (s := s) (by
      unfold numL
      rw [if_pos (.inr (.inr ⟨by rw [List.head?_eq_getElem?]; exact hc, h1⟩))]))
    clear hc
    go_enter Tryz.func26, Tryz.ntmps26
    go_wp2
    go_ret2
    exact ⟨HN.out, rfl⟩
  have HZ : Hid (¬ (s.head? = some 48 ∧ 1 < s.length)) := Lib.hid (fun h => hz ⟨by have := h.1; rw [List.head?_eq_getElem?, hc] at this; exact Option.some.inj this, h.2⟩)
  have HD : Hid (∀ (c : UInt8) (w : World), Calls Tryz.prog 41 #[u8V c] w fun e w' => e = .returned (.bool (digB c)) ∧ w = w') := Lib.hid rdigit_any
  unfold u8V at HD
  have hloop : Hid (∀ (c0 : Bool), True) := Lib.hid (fun _ => trivial)
  clear hloop
  have HL := Lib.hid h19
  have hl19 : s.length ≤ 19 := by omega
  have f9 : decide ((19 : Int) < (s.length : Int)) = false := decide_eq_false (by omega)
  clear h19
  by_cases h48 : c = 48
  · have f1 : ((c.toNat : Int) == 48) = true := by rw [h48]; rfl
    have hl1 : s.length = 1 := Nat.le_antisymm (Nat.le_of_not_lt fun h => hz ⟨h48, h⟩) hl
    have f2 : decide ((1 : Int) < (s.length : Int)) = false := decide_eq_false (by omega)
    clear hz h48 hc
    go_enter Tryz.func26, Tryz.ntmps26
    go_wp2
    clear hidx f1
    go_loop [4, 5] (fun v x => ∃ k N : Nat, k ≤ s.length ∧ v = .int .u64 N ∧ x = .int .i64 k ∧ Hid (NumAt s k N) ∧ N < 10000000000000000000) (fun _ x => s.length - (intOf x).toNat)
    case atStart => exact ⟨0, 0, by omega, rfl, rfl, Lib.hid ⟨rfl, rfl, by decide⟩, by decide⟩
    case round =>
      obtain ⟨k, N, hk, rfl, rfl, HK, hN⟩ := hrel
      by_cases hlt : k < s.length
      · obtain ⟨c, hc⟩ := get_some hlt
        have hidx := idx_str s k c hc
        have hd := HD.out c w
        cases hdc : digB c with
        | true =>
          rw [hdc] at hd
          have HS := Lib.hid (HK.out.step hc hdc)
          have hN10 : N < 1000000000000000000 := by
            have h1 := HK.out.2.2
            have h2 : (10 : Nat) ^ k ≤ 10 ^ 18 := Nat.pow_le_pow_right (by omega) (by omega)
            have h3 : (10 : Nat) ^ 18 = 1000000000000000000 := by decide
            omega
          obtain ⟨d1, d2⟩ := dig_val hdc
          clear hc hdc
          go_wp2_with (go_at_call 41; refine hd.mono ?_; rintro e w' ⟨rfl, rfl⟩; clear hd)
          go_round
          case rel => exact ⟨k + 1, 10 * N + (c.toNat - 48), by omega, by (congr 1; omega), by go_num, HS, by omega⟩
          case measure => simp [intOf]; omega
        | false =>
          rw [hdc] at hd
          have HN := Lib.hid (NumRes.none (s := s) (by
            unfold numL
            rw [if_pos (.inr (.inl (by
              rw [Bool.eq_false_iff]
              intro h
              have := List.all_eq_true.1 h c (List.mem_of_getElem? hc)
              rw [hdc] at this; cases this)))]))
          clear hc hdc
          go_wp2_with (go_at_call 41; refine hd.mono ?_; rintro e w' ⟨rfl, rfl⟩; clear hd)
          go_ret2
          exact ⟨HN.out, rfl⟩
      · obtain rfl : k = s.length := by omega
        have HN : Hid (numL s = if N ≤ 9223372036854775807 then some (N : Int) else none) := Lib.hid (by
          have h := HK.out
          unfold NumAt at h
          rw [List.take_length] at h
          unfold numL
          rw [if_neg, ← h.1]
          simp only [not_or]
          exact ⟨by intro e; rw [e] at hl; simp at hl, by simp [h.2.1], HZ.out⟩)
        by_cases hmx : N ≤ 9223372036854775807
        · have f3 : decide ((N : Int) ≤ 9223372036854775807) = true := decide_eq_true (by omega)
          have HR : Hid (NumRes s (.returned (.tuple #[.int .i64 (N : Int), .bool true]))) := Lib.hid ⟨N, by rw [HN.out, if_pos hmx]; rfl, fun n hn => by rw [HN.out, if_pos hmx] at hn; exact Option.some.inj hn⟩
          go_wp2
          go_ret2
          exact ⟨HR.out, rfl⟩
        · have f3 : decide ((N : Int) ≤ 9223372036854775807) = false := decide_eq_false (by omega)
          have HR : Hid (∀ v, NumRes s (.returned (.tuple #[.int .i64 v, .bool false]))) := Lib.hid (fun v => ⟨v, by rw [HN.out, if_neg hmx]; rfl, fun n hn => by rw [HN.out, if_neg hmx] at hn; cases hn⟩)
          go_wp2
          go_ret2
          exact ⟨HR.out _, rfl⟩
  · have f1 : ((c.toNat : Int) == 48) = false := u8_ne h48
    clear hz h48 hc
    go_enter Tryz.func26, Tryz.ntmps26
    go_wp2
    clear hidx f1
    go_loop [4, 5] (fun v x => ∃ k N : Nat, k ≤ s.length ∧ v = .int .u64 N ∧ x = .int .i64 k ∧ Hid (NumAt s k N) ∧ N < 10000000000000000000) (fun _ x => s.length - (intOf x).toNat)
    case atStart => exact ⟨0, 0, by omega, rfl, rfl, Lib.hid ⟨rfl, rfl, by decide⟩, by decide⟩
    case round =>
      obtain ⟨k, N, hk, rfl, rfl, HK, hN⟩ := hrel
      by_cases hlt : k < s.length
      · obtain ⟨c, hc⟩ := get_some hlt
        have hidx := idx_str s k c hc
        have hd := HD.out c w
        cases hdc : digB c with
        | true =>
          rw [hdc] at hd
          have HS := Lib.hid (HK.out.step hc hdc)
          have hN10 : N < 1000000000000000000 := by
            have h1 := HK.out.2.2
            have h2 : (10 : Nat) ^ k ≤ 10 ^ 18 := Nat.pow_le_pow_right (by omega) (by omega)
            have h3 : (10 : Nat) ^ 18 = 1000000000000000000 := by decide
            omega
          obtain ⟨d1, d2⟩ := dig_val hdc
          clear hc hdc
          go_wp2_with (go_at_call 41; refine hd.mono ?_; rintro e w' ⟨rfl, rfl⟩; clear hd)
          go_round
          case rel => exact ⟨k + 1, 10 * N + (c.toNat - 48), by omega, by (congr 1; omega), by go_num, HS, by omega⟩
          case measure => simp [intOf]; omega
        | false =>
          rw [hdc] at hd
          have HN := Lib.hid (NumRes.none (s := s) (by
            unfold numL
            rw [if_pos (.inr (.inl (by
              rw [Bool.eq_false_iff]
              intro h
              have := List.all_eq_true.1 h c (List.mem_of_getElem? hc)
              rw [hdc] at this; cases this)))]))
          clear hc hdc
          go_wp2_with (go_at_call 41; refine hd.mono ?_; rintro e w' ⟨rfl, rfl⟩; clear hd)
          go_ret2
          exact ⟨HN.out, rfl⟩
      · obtain rfl : k = s.length := by omega
        have HN : Hid (numL s = if N ≤ 9223372036854775807 then some (N : Int) else none) := Lib.hid (by
          have h := HK.out
          unfold NumAt at h
          rw [List.take_length] at h
          unfold numL
          rw [if_neg, ← h.1]
          simp only [not_or]
          exact ⟨by intro e; rw [e] at hl; simp at hl, by simp [h.2.1], HZ.out⟩)
        by_cases hmx : N ≤ 9223372036854775807
        · have f3 : decide ((N : Int) ≤ 9223372036854775807) = true := decide_eq_true (by omega)
          have HR : Hid (NumRes s (.returned (.tuple #[.int .i64 (N : Int), .bool true]))) := Lib.hid ⟨N, by rw [HN.out, if_pos hmx]; rfl, fun n hn => by rw [HN.out, if_pos hmx] at hn; exact Option.some.inj hn⟩
          go_wp2
          go_ret2
          exact ⟨HR.out, rfl⟩
        · have f3 : decide ((N : Int) ≤ 9223372036854775807) = false := decide_eq_false (by omega)
          have HR : Hid (∀ v, NumRes s (.returned (.tuple #[.int .i64 v, .bool false]))) := Lib.hid (fun v => ⟨v, by rw [HN.out, if_neg hmx]; rfl, fun n hn => by rw [HN.out, if_neg hmx] at hn; cases hn⟩)
          go_wp2
          go_ret2
          exact ⟨HR.out _, rfl⟩
end Go.Proofs.YtdloadeidijcoaaGreatDoor
