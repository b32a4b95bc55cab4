/- DERIVED. strconv.ParseUint at two bytes, base 16, 8 bits. -/
import Derived.Test.YtdloadeidijcoaaGreatDoorPVars
import Derived.Test.YtdloadeidijcoaaGreatDoorRTxt
import Derived.Lib.ConvBytes
import Derived.Lib.AtoiErrMem
import Derived.BigCall
import Derived.BigGuard
import Derived.Laws.Strings3
import Derived.Laws.Closers25
import Derived.Laws.Closers25b
import Derived.Shelf.Strconv.ParseUint10
set_option linter.unusedSimpArgs false
set_option linter.unusedVariables false
namespace Go.Proofs.YtdloadeidijcoaaGreatDoor
open Go.RowKit Go.Shelf

def hx : Nat → List UInt8 → Option Nat
  | n, [] => some n
  | n, c :: r => match hexV c with | some d => hx (16 * n + d) r | none => none
def puR (o : Option Nat) : Value := match o with | some n => .tuple #[.int .u64 n, .nilIface] | none => .tuple #[.int .u64 0, .iface 102 (.int .i64 2)]
def lowI (c : UInt8) : Int := bits .or .u8 (c.toNat : Int) 32
theorem low_facts (c : UInt8) : 0 ≤ lowI c ∧ lowI c ≤ 255 ∧ (97 ≤ lowI c → ¬ (48 ≤ (c.toNat : Int) ∧ (c.toNat : Int) ≤ 57)) ∧
    hexV c = if 48 ≤ (c.toNat : Int) ∧ (c.toNat : Int) ≤ 57 then some (c.toNat - 48) else if 97 ≤ lowI c ∧ lowI c ≤ 102 then some (lowI c - 87).toNat else none := by
  have := u8_all (p := fun c => 0 ≤ lowI c ∧ lowI c ≤ 255 ∧ (97 ≤ lowI c → ¬ (48 ≤ (c.toNat : Int) ∧ (c.toNat : Int) ≤ 57)) ∧ hexV c = if 48 ≤ (c.toNat : Int) ∧ (c.toNat : Int) ≤ 57 then some (c.toNat - 48) else if 97 ≤ lowI c ∧ lowI c ≤ 102 then some (lowI c - 87).toNat else none) (by decide +kernel) c
  exact this
def HxAt (a b : UInt8) (k n : Nat) : Prop := hx 0 [a, b] = hx n ([a, b].drop k) ∧ (k = 0 → n = 0) ∧ (k ≤ 1 → n < 16) ∧ n < 256
theorem HxAt.step {a b c : UInt8} {k n d : Nat} (h : HxAt a b k n) (hc : [a, b][k]? = some c) (hd : hexV c = some d) (h16 : d < 16) : HxAt a b (k + 1) (16 * n + d) ∧ n < 16 := by
  obtain ⟨h1, h2, h3, h4⟩ := h
  have hk : k < 2 := (List.getElem?_eq_some_iff.1 hc).1
  have := h3 (by omega)
  refine ⟨⟨?_, by omega, fun hk1 => ?_, by omega⟩, this⟩
  · rw [h1, drop_cons hc, hx, hd]
  · have := h2 (by omega); omega
theorem HxAt.stop {a b c : UInt8} {k n : Nat} (h : HxAt a b k n) (hc : [a, b][k]? = some c) (hd : hexV c = none) : hx 0 [a, b] = none := by
  rw [h.1, drop_cons hc, hx, hd]
set_option maxHeartbeats 32000000 in
set_option maxRecDepth 100000 in
theorem parse16_in (a b : UInt8) (w : World) : Calls Tryz.prog 80 #[.string ⟨#[a, b]⟩, .int .i64 16, .int .i64 8] w fun e w' => e = .returned (puR (hx 0 [a, b])) ∧ Below w.heap.size w w' := by
  have hcv := Lib.run_convert_string_bytes (P := Tryz.prog) w 9 41 5 ⟨#[a, b]⟩ (u := .string) Tryz.underlying9 Tryz.underlying41 Tryz.underlying5
  have hB : ∀ j, j < 2 → (Lib.bytesWorld w 5 ⟨#[a, b]⟩).cell? ⟨w.heap.size, j, none⟩ = some (.int .u8 ([a, b].getD j 0).toNat) := fun j hj => Lib.bytesWorld_cell w 5 ⟨#[a, b]⟩ j hj
  have HBL := Lib.hid (Lib.bytesWorld_below w 5 ⟨#[a, b]⟩)
  have HLO : Hid (∀ (c : UInt8) (w : World), Calls Tryz.prog 91 #[.int .u8 (c.toNat : Int)] w fun e w' => e = .returned (.int .u8 (lowI c)) ∧ w' = w) := Lib.hid (fun c w => Tryz.internal_strconv_lower (c.toNat : Int) w)
  have hsz : (⟨#[a, b]⟩ : ByteArray).size = 2 := rfl
  rw [hsz] at hcv
  clear hsz
  obtain ⟨W1, hW1⟩ : ∃ W1, W1 = Lib.bytesWorld w 5 ⟨#[a, b]⟩ := ⟨_, rfl⟩
  rw [← hW1] at hcv hB HBL
  clear hW1
  have HB2 := Lib.hid hB
  clear hB
  go_enter Tryz.func80, Tryz.ntmps80
  go_wp2
  go_loop [12, 13, 101] (fun vu vn vi => ∃ (k n : Nat) (m : Int), vu = .bool false ∧ vn = .int .u64 m ∧ vi = .int .i64 k ∧ k ≤ 2 ∧ Hid (m = (n : Int) ∧ HxAt a b k n)) (fun _ _ vi => 2 - (intOf vi).toNat)
  case atStart => exact ⟨0, 0, 0, rfl, rfl, rfl, by omega, Lib.hid ⟨rfl, rfl, fun _ => rfl, fun _ => by omega, by omega⟩⟩
  case round =>
    obtain ⟨k, n, m, rfl, rfl, rfl, hk, HH⟩ := hrel
    by_cases hkn : k < 2
    · obtain ⟨c, hc⟩ : ∃ c, [a, b][k]? = some c := get_some (by simpa using hkn)
      have hcell := HB2.out k hkn
      rw [List.getD_eq_getElem?_getD, hc] at hcell
      simp only [Option.getD_some] at hcell
      obtain ⟨l0, l1, l2, hhex⟩ := low_facts c
      have hc0 : 0 ≤ (c.toNat : Int) := by omega
      have hc1 : (c.toNat : Int) ≤ 255 := by have := c.toNat_lt; omega
      have hm : m = (n : Int) := HH.out.1
      have hn16 : n < 16 := HH.out.2.2.2.1 (by omega)
      have hm0 : 0 ≤ m := by omega
      have hm16 : m < 16 := by omega
      by_cases hdig : 48 ≤ (c.toNat : Int) ∧ (c.toNat : Int) ≤ 57
      · obtain ⟨hd0, hd1⟩ := hdig
        have hf : hexV c = some (c.toNat - 48) := by rw [hhex, if_pos ⟨hd0, hd1⟩]
        have HN : Hid (m * 16 + ((c.toNat : Int) - 48) = ((16 * n + (c.toNat - 48) : Nat) : Int) ∧ HxAt a b (k + 1) (16 * n + (c.toNat - 48))) := Lib.hid ⟨by omega, (HH.out.2.step hc hf (by omega)).1⟩
        clear hhex hf hc hm hn16 l0 l1 l2
        go_wp2
        refine ⟨⟨k + 1, 16 * n + (c.toNat - 48), m * 16 + ((c.toNat : Int) - 48), rfl, (by first | rfl | (congr 1; omega)), (by first | rfl | (congr 1; omega)), by omega, HN⟩, by simp [intOf]; omega⟩
      · have hlo := HLO.out c W1
        by_cases hlow : 97 ≤ lowI c ∧ lowI c ≤ 102
        · obtain ⟨hd0, hd1⟩ := hlow
          have hf : hexV c = some (lowI c - 87).toNat := by rw [hhex, if_neg hdig, if_pos ⟨hd0, hd1⟩]
          have HN : Hid (m * 16 + (lowI c - 97 + 10) = ((16 * n + (lowI c - 87).toNat : Nat) : Int) ∧ HxAt a b (k + 1) (16 * n + (lowI c - 87).toNat)) := Lib.hid ⟨by omega, (HH.out.2.step hc hf (by omega)).1⟩
          have f5 : ((c.toNat : Int) == 95) = false := u8_ne (d := 95) (by intro e; rw [e] at hd1; revert hd1; decide)
          generalize lowI c = LW at *
          clear hhex hf hc hm hn16 l2
          go_wp2_with (go_at_call 91; refine hlo.mono ?_; rintro e w' ⟨rfl, rfl⟩)
          all_goals first
            | refine ⟨⟨k + 1, 16 * n + (LW - 87).toNat, m * 16 + (LW - 97 + 10), rfl, (by first | rfl | (congr 1; omega)), (by first | rfl | (congr 1; omega)), by omega, HN⟩, by simp [intOf]; omega⟩
            | (exfalso; omega)
        · have hf : hexV c = none := by rw [hhex, if_neg hdig, if_neg hlow]
          have HS : Hid (hx 0 [a, b] = none) := Lib.hid (HH.out.2.stop hc hf)
          by_cases h95 : c = 95
          · subst h95
            have hlo2 := Tryz.internal_strconv_lower 95 W1
            rw [show bits .or .u8 95 32 = 127 by decide] at hlo2
            clear hhex hf hc hm hn16 l2 l0 l1 hlo hdig hlow hc0 hc1
            go_wp2_with (go_at_call 91; refine hlo2.mono ?_; rintro e w' ⟨rfl, rfl⟩)
            go_ret2
            exact ⟨by rw [HS.out]; rfl, HBL.out⟩
          have f5 : ((c.toNat : Int) == 95) = false := u8_ne h95
          clear h95
          generalize lowI c = LW at *
          clear hhex hf hc hm hn16 l2
          go_wp2_with (go_at_call 91; refine hlo.mono ?_; rintro e w' ⟨rfl, rfl⟩)
          all_goals first
            | (exfalso; omega)
            | (go_ret2; exact ⟨by rw [HS.out]; rfl, HBL.out⟩)
    · obtain rfl : k = 2 := by omega
      have HS : Hid (hx 0 [a, b] = some n) := Lib.hid (HH.out.2.1)
      have HM : Hid (m = (n : Int)) := Lib.hid HH.out.1
      go_wp2
      go_ret2
      exact ⟨by rw [HS.out]; exact congrArg (fun m => Ending.returned (.tuple #[.int .u64 m, .nilIface])) HM.out, HBL.out⟩
end Go.Proofs.YtdloadeidijcoaaGreatDoor
