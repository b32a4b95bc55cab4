/- DERIVED. The reference's decimal numeral of a number. -/
import Derived.Test.YtghjhlenkgkelaaGreatDoorKeys
import Derived.Lib.ItoaNum
import Derived.Laws.IdiomStrings
set_option linter.unusedSimpArgs false
set_option linter.unusedVariables false
namespace Go.Proofs.YtghjhlenkgkelaaGreatDoor
open Go.RowKit Go.Shelf

theorem w64_in {n : Int} (h0 : -9223372036854775808 ≤ n) (h1 : n ≤ 9223372036854775807) : wrap64 n = n := by
  unfold wrap64; omega
theorem conv_one (b : UInt8) (w : World) : (convert 67 9 (.slice (some ⟨w.heap.size, 0, none⟩) 1 1)).run Tryz.prog (w.alloc (.cells #[.int .u8 (b.toNat : Int)] 5)) = .ok (.string ⟨#[b]⟩) (w.alloc (.cells #[.int .u8 (b.toNat : Int)] 5)) :=
  run_convert_bytes_back _ _ _ 5 ⟨w.heap.size, 0, none⟩ 1 [b] Tryz.underlying67 Tryz.underlying5 Tryz.underlying9 (fun j hj => by
    have : j = 0 := by simpa using hj
    subst this
    exact (BlkAt.new w 5 #[.int .u8 (b.toNat : Int)]).cell 0)
/-- what is written of n, when l is written and m is left -/
def DecAt (n m : Int) (l : List UInt8) : Prop := (m = 0 → n ≠ 0 → l = Lib.decDigits n.natAbs) ∧ (m ≠ 0 → Lib.decDigits n.natAbs = Lib.decDigits m.natAbs ++ l) ∧ (m ≠ 0 → 10 ^ l.length * m.natAbs ≤ 9223372036854775808) ∧ l.length ≤ 20
theorem DecAt.start (n : Int) (h0 : -9223372036854775808 ≤ n) (h1 : n ≤ 9223372036854775807) : DecAt n n [] := ⟨fun h g => absurd h g, fun _ => by simp, fun _ => by simp; omega, by simp⟩
theorem DecAt.step {n m : Int} {l : List UInt8} (h : DecAt n m l) (hm : m ≠ 0) : DecAt n (m.tdiv 10) (UInt8.ofNat (48 + m.natAbs % 10) :: l) := by
  have e := h.2.1 hm
  have hpow := h.2.2.1 hm
  have hpos : 0 < m.natAbs := Int.natAbs_pos.2 hm
  have hlen : l.length ≤ 18 := by
    refine Nat.le_of_not_lt fun hh => ?_
    have h1 : 10 ^ 19 ≤ 10 ^ l.length := Nat.pow_le_pow_right (by omega) hh
    have h2 : 10 ^ l.length * 1 ≤ 10 ^ l.length * m.natAbs := Nat.mul_le_mul_left _ hpos
    have h3 : (10 : Nat) ^ 19 = 10000000000000000000 := by decide
    omega
  have hq : (m.tdiv 10).natAbs = m.natAbs / 10 := by rw [Int.natAbs_tdiv]; rfl
  have e2 : Lib.decDigits m.natAbs = if h : m.natAbs < 10 then [UInt8.ofNat (48 + m.natAbs)] else Lib.decDigits (m.natAbs / 10) ++ [UInt8.ofNat (48 + m.natAbs % 10)] := by
    conv => lhs; rw [Lib.decDigits]
  rw [e2] at e
  refine ⟨?_, ?_, fun _ => ?_, by rw [List.length_cons]; omega⟩
  · intro h0 _
    have h10 : m.natAbs < 10 := by have : (m.tdiv 10).natAbs = 0 := by rw [h0]; rfl
                                   omega
    rw [dif_pos h10] at e
    rw [e, Nat.mod_eq_of_lt h10]; rfl
  · intro h0
    have h10 : ¬ m.natAbs < 10 := fun hlt => h0 (by have : (m.tdiv 10).natAbs = 0 := by omega
                                                    exact Int.natAbs_eq_zero.1 this)
    rw [dif_neg h10] at e
    rw [hq, e, List.append_assoc]; rfl
  · rw [hq, List.length_cons, Nat.pow_succ, Nat.mul_assoc]
    exact Nat.le_trans (Nat.mul_le_mul_left _ (Nat.mul_div_le _ _)) hpow

theorem dec_facts (m : Int) (g0 : -9223372036854775808 ≤ m) (g1 : m ≤ 9223372036854775807) (hm : m ≠ 0) : ∃ (q r : Int) (d : Nat), m.tdiv 10 = q ∧ m.tmod 10 = r ∧ d = m.natAbs % 10 ∧ d < 10 ∧ ((¬ r < 0 → r = (d : Int)) ∧ (r < 0 → r = -(d : Int) ∧ 0 < d)) ∧ (-9223372036854775808 ≤ q ∧ q ≤ 9223372036854775807) ∧ q.natAbs < m.natAbs := by
  have hq : (m.tdiv 10).natAbs = m.natAbs / 10 := Int.natAbs_tdiv m 10
  have hr : (m.tmod 10).natAbs = m.natAbs % 10 := Int.natAbs_tmod m 10
  have hm1 : 0 < m.natAbs := Int.natAbs_pos.2 hm
  have hm2 : m.natAbs ≤ 9223372036854775808 := by omega
  generalize m.tdiv 10 = q at *
  generalize m.tmod 10 = r at *
  generalize m.natAbs = a at *
  clear hm g0 g1
  refine ⟨q, r, a % 10, rfl, rfl, rfl, Nat.mod_lt _ (by omega), ?_, ?_, ?_⟩
  · generalize a % 10 = d at *
    clear hq hm1 hm2
    refine ⟨fun h => by omega, fun h => ⟨by omega, by omega⟩⟩
  · have : q.natAbs ≤ 922337203685477580 := by rw [hq]; exact (Nat.div_le_iff_le_mul_add_pred (by omega)).2 (by omega)
    clear hq hr hm1 hm2
    constructor <;> omega
  · rw [hq]; exact Nat.div_lt_self hm1 (by omega)
theorem dec_byte {d : Nat} (h : d < 10) : ((UInt8.ofNat (48 + d)).toNat : Int) = 48 + (d : Int) := by rw [UInt8.toNat_ofNat']; omega
theorem dec_wraps {d : Nat} (h : d < 10) : wrap64 (48 + (d : Int)) = 48 + (d : Int) ∧ (48 + (d : Int)) % 256 = 48 + (d : Int) ∧ wrap64 (d : Int) = (d : Int) :=
  ⟨w64_in (by omega) (by omega), by omega, w64_in (by omega) (by omega)⟩
theorem str_cat (a b : List UInt8) : (⟨a.toArray⟩ : ByteArray) ++ ⟨b.toArray⟩ = ⟨(a ++ b).toArray⟩ := by
  apply ByteArray.ext; simp
theorem val_cat {c : UInt8} {l : List UInt8} : Value.string ((⟨#[c]⟩ : ByteArray) ++ ⟨l.toArray⟩) = .string ⟨(c :: l).toArray⟩ := congrArg Value.string (str_cat [c] l)
theorem ret_str {a b : List UInt8} (h : a = b) : Ending.returned (.string ⟨a.toArray⟩) = .returned (.string ⟨b.toArray⟩) := by rw [h]
set_option maxRecDepth 100000 in
set_option maxHeartbeats 1000000 in
theorem dec_any (n : Int) (w : World) (h0 : -9223372036854775808 ≤ n) (h1 : n ≤ 9223372036854775807) :
    Calls Tryz.prog 23 #[.int .i64 n] w fun e w' => e = .returned (.string ⟨(Lib.itoa n).toArray⟩) ∧ Below w.heap.size w w' := by
  go_enter Tryz.func23, Tryz.ntmps23
  go_wp2
  go_loopw [3, 4] (fun s v wr => ∃ (l : List UInt8) (m : Int), s = .string ⟨l.toArray⟩ ∧ v = .int .i64 m ∧ -9223372036854775808 ≤ m ∧ m ≤ 9223372036854775807 ∧ Hid (DecAt n m l) ∧ Below w.heap.size w wr) (fun _ v _ => (intOf v).natAbs)
  case atStart => exact ⟨[], n, rfl, rfl, h0, h1, Lib.hid (DecAt.start n h0 h1), Below.refl _ _⟩
  case round =>
    obtain ⟨l, m, rfl, rfl, g0, g1, HD, hb⟩ := hrel
    have hl20 : l.length ≤ 20 := HD.out.2.2.2
    by_cases hm : m = 0
    · subst hm
      by_cases hn : n = 0
      · subst hn
        go_wp2
        go_ret
        exact ⟨ret_str (a := [48]) (by rw [Lib.itoa, if_neg (by omega), Lib.decDigits]; rfl), hb⟩
      · have hnb : (n == 0) = false := by simpa using hn
        have hd := HD.out.1 rfl hn
        have HDD := Lib.hid hd
        clear hd
        by_cases hneg : n < 0
        · have HNG := Lib.hid hneg
          clear hn
          go_wp2
          go_ret
          refine ⟨?_, hb⟩
          rw [Lib.itoa, if_pos HNG.out, ← HDD.out]
          exact congrArg Ending.returned val_cat
        · have HNG := Lib.hid hneg
          clear hn
          go_wp2
          go_ret
          exact ⟨ret_str (a := l) (by have := HNG.out; rw [Lib.itoa, if_neg (by omega), HDD.out, show n.natAbs = n.toNat by omega]), hb⟩
    · have hmb : (m != 0) = true := by simpa using hm
      have HST := Lib.hid (HD.out.step hm)
      obtain ⟨q, r, d, hqd, hrd, hd, hd9, hrc, hqb, hqm⟩ := dec_facts m g0 g1 hm
      rw [hqd, ← hd] at HST
      have hcv := fun W => conv_one (UInt8.ofNat (48 + d)) W
      rw [dec_byte hd9] at hcv
      have hw4 : wrap64 q = q := w64_in hqb.1 hqb.2
      have hw5 : wrap64 (48 + (d : Int)) = 48 + (d : Int) := (dec_wraps hd9).1
      have hw6 : (48 + (d : Int)) % 256 = 48 + (d : Int) := (dec_wraps hd9).2.1
      have hw2 : wrap64 (d : Int) = (d : Int) := (dec_wraps hd9).2.2
      have HB := Lib.hid hb
      have HLT := Lib.hid hqm
      have HB1 := Lib.hid hqb
      have HHD := Lib.hid hd9
      by_cases hr0 : r < 0
      · obtain ⟨rfl, hd0⟩ := hrc.2 hr0
        clear hm hb HD hd hr0 hrc hqb hqm hd9 g0 g1 h0 h1
        go_wp2
        go_roundw
        case rel => exact ⟨UInt8.ofNat (48 + d) :: l, q, by (try rw [show UInt8.ofNat (48 + d) = 48 + UInt8.ofNat d by rw [UInt8.ofNat_add]; rfl]); exact val_cat, by rw [hw4], HB1.out.1, HB1.out.2, HST, HB.out.alloc HB.out.size _⟩
        case measure => simp [intOf, hw4]; exact HLT.out
      · obtain rfl : r = (d : Int) := hrc.1 hr0
        have hneg : decide ((d : Int) < 0) = false := decide_eq_false hr0
        clear hm hb HD hd hr0 hrc hqb hqm hd9 g0 g1 h0 h1
        go_wp2
        go_roundw
        case rel => exact ⟨UInt8.ofNat (48 + d) :: l, q, by (try rw [show UInt8.ofNat (48 + d) = 48 + UInt8.ofNat d by rw [UInt8.ofNat_add]; rfl]); exact val_cat, by rw [hw4], HB1.out.1, HB1.out.2, HST, HB.out.alloc HB.out.size _⟩
        case measure => simp [intOf, hw4]; exact HLT.out
end Go.Proofs.YtghjhlenkgkelaaGreatDoor
