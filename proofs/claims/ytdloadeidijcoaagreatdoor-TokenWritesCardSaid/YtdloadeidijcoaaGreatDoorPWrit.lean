/- DERIVED. How a byte is written. -/
import Derived.Test.YtdloadeidijcoaaGreatDoorPCheck
import Derived.Test.YtdloadeidijcoaaGreatDoorPBld
set_option linter.unusedSimpArgs false
set_option linter.unusedVariables false
namespace Go.Proofs.YtdloadeidijcoaaGreatDoor
open Go.RowKit Go.Shelf

theorem enc_one (c : UInt8) (h : c < 128) : Utf8.encode (c.toNat : Int) = ⟨#[c]⟩ := by
  have h : ∀ n : Fin 256, UInt8.ofNat n.val < 128 → Utf8.encode ((UInt8.ofNat n.val).toNat : Int) = ⟨#[UInt8.ofNat n.val]⟩ := by decide +kernel
  have := h ⟨c.toNat, c.toNat_lt⟩
  simpa using this (by simpa)
theorem and_low (c : UInt8) : bits BinOp.and IntKind.u8 (c.toNat : Int) 15 = ((c.toNat % 16 : Nat) : Int) := by
  have h : ∀ n : Fin 256, bits BinOp.and IntKind.u8 ((UInt8.ofNat n.val).toNat : Int) 15 = (((UInt8.ofNat n.val).toNat % 16 : Nat) : Int) := by decide +kernel
  have := h ⟨c.toNat, c.toNat_lt⟩
  simpa using this
theorem wrap_low {d : Nat} (h : d < 16) : IntKind.u8.wrap ((d : Int) + 1) = (d : Int) + 1 := by
  have h' : ∀ n : Fin 16, IntKind.u8.wrap ((n.val : Int) + 1) = (n.val : Int) + 1 := by decide +kernel
  exact h' ⟨d, h⟩
theorem hex_cut {d : Nat} (h : d < 16) : (⟨#[48, 49, 50, 51, 52, 53, 54, 55, 56, 57, 97, 98, 99, 100, 101, 102]⟩ : ByteArray).extract d (d + 1) = ⟨#[hexD d]⟩ := by
  have h' : ∀ n : Fin 16, (⟨#[48, 49, 50, 51, 52, 53, 54, 55, 56, 57, 97, 98, 99, 100, 101, 102]⟩ : ByteArray).extract n.val (n.val + 1) = ⟨#[hexD n.val]⟩ := by decide +kernel
  exact h' ⟨d, h⟩
set_option maxRecDepth 100000 in
set_option maxHeartbeats 4000000 in
theorem written_any (c : UInt8) (w : World) : Calls Tryz.prog 16 #[.int .u8 (c.toNat : Int)] w fun e w' => e = .returned (strV (escB c)) ∧ Below w.heap.size w w' := by
  by_cases h1 : c = 92
  · subst h1
    have hU : Utf8.encode 92 = ⟨#[92]⟩ := by decide +kernel
    go_enter Tryz.func16, Tryz.ntmps16
    go_wp2_with fail
    go_ret
    exact ⟨rfl, Below.refl _ _⟩
  have f1 : ((c.toNat : Int) == 92) = false := u8_ne h1
  by_cases h2 : c = 34
  · subst h2
    clear h1 f1
    have hU : Utf8.encode 34 = ⟨#[34]⟩ := by decide +kernel
    go_enter Tryz.func16, Tryz.ntmps16
    go_wp2_with fail
    go_ret
    exact ⟨rfl, Below.refl _ _⟩
  have f2 : ((c.toNat : Int) == 34) = false := u8_ne h2
  by_cases h3 : c = 10
  · subst h3
    clear h1 f1 h2 f2
    go_enter Tryz.func16, Tryz.ntmps16
    go_wp2_with fail
    go_ret
    exact ⟨rfl, Below.refl _ _⟩
  have f3 : ((c.toNat : Int) == 10) = false := u8_ne h3
  by_cases h4 : c = 9
  · subst h4
    clear h1 f1 h2 f2 h3 f3
    go_enter Tryz.func16, Tryz.ntmps16
    go_wp2_with fail
    go_ret
    exact ⟨rfl, Below.refl _ _⟩
  have f4 : ((c.toNat : Int) == 9) = false := u8_ne h4
  by_cases h5 : c < 32 ∨ 126 < c
  · have HE : Hid (escB c = [92, 120, hexD (c.toNat / 16), hexD (c.toNat % 16)]) := Lib.hid (by unfold escB; rw [if_neg (by simp [h1, h2]), if_neg h3, if_neg h4, if_pos h5])
    have hor : decide ((c.toNat : Int) < 32) = true ∨ (decide ((c.toNat : Int) < 32) = false ∧ decide ((126 : Int) < (c.toNat : Int)) = true) := by
      by_cases h : c < 32
      · left; have := UInt8.lt_iff_toNat_lt.1 h; simp at this; simp; omega
      · right
        rcases h5 with h5 | h5
        · exact absurd h5 h
        · have h6 := UInt8.lt_iff_toNat_lt.1 h5
          have h7 : ¬ c.toNat < 32 := fun h' => h (UInt8.lt_iff_toNat_lt.2 (by simpa using h'))
          simp at h6
          exact ⟨by simp; omega, by simp; omega⟩
    clear h1 h2 h3 h4 h5
    have hd1 : (c.toNat : Int) / 16 = ((c.toNat / 16 : Nat) : Int) := by omega
    have hd2 : bits BinOp.and IntKind.u8 (c.toNat : Int) 15 = ((c.toNat % 16 : Nat) : Int) := and_low c
    have hl1 : c.toNat / 16 < 16 := by have := c.toNat_lt; omega
    have hl2 : c.toNat % 16 < 16 := by omega
    generalize c.toNat / 16 = d1 at *
    generalize c.toNat % 16 = d2 at *
    have hw1 : IntKind.u8.wrap ((d1 : Int) + 1) = (d1 : Int) + 1 := wrap_low hl1
    have hw2 : IntKind.u8.wrap ((d2 : Int) + 1) = (d2 : Int) + 1 := wrap_low hl2
    have hm1 : ((d1 : Int) + 1) % 256 = (d1 : Int) + 1 := by omega
    have hm2 : ((d2 : Int) + 1) % 256 = (d2 : Int) + 1 := by omega
    have ht1 : ((d1 : Int) + 1).toNat = d1 + 1 := by omega
    have ht2 : ((d2 : Int) + 1).toNat = d2 + 1 := by omega
    have hx1 := hex_cut hl1
    have hx2 := hex_cut hl2
    have hb1 : (d1 : Int) + 1 ≤ 16 := by omega
    have hb2 : (d2 : Int) + 1 ≤ 16 := by omega
    clear hl1 hl2
    rcases hor with f5 | ⟨f5, f6⟩
    · go_enter Tryz.func16, Tryz.ntmps16
      go_wp2_with fail
      go_region
      go_wp2_with fail
      go_ret
      exact ⟨by rw [HE.out]; rfl, Below.drew (Below.refl _ _)⟩
    · go_enter Tryz.func16, Tryz.ntmps16
      go_wp2_with fail
      go_region
      go_wp2_with fail
      go_ret
      exact ⟨by rw [HE.out]; rfl, Below.drew (Below.refl _ _)⟩
  · have HE : Hid (escB c = [c]) := Lib.hid (by unfold escB; rw [if_neg (by simp [h1, h2]), if_neg h3, if_neg h4, if_neg h5])
    have h6 : ¬ c < 32 := fun h => h5 (.inl h)
    have h7 : ¬ 126 < c := fun h => h5 (.inr h)
    rw [UInt8.lt_iff_toNat_lt] at h6 h7
    simp at h6 h7
    have hU := enc_one c (UInt8.lt_iff_toNat_lt.2 (by simp; omega))
    have f5 : decide ((c.toNat : Int) < 32) = false := by simp; omega
    have f6 : decide ((126 : Int) < (c.toNat : Int)) = false := by simp; omega
    clear h1 h2 h3 h4 h5 h6 h7
    go_enter Tryz.func16, Tryz.ntmps16
    go_wp2_with fail
    go_ret
    exact ⟨by rw [HE.out]; rfl, Below.refl _ _⟩
end Go.Proofs.YtdloadeidijcoaaGreatDoor
