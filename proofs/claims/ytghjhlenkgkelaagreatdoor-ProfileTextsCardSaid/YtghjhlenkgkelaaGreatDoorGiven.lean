/- DERIVED. The walks of 'given' in the program and in the reference. -/
import Derived.Test.YtghjhlenkgkelaaGreatDoorBase
set_option linter.unusedSimpArgs false
set_option linter.unusedVariables false
namespace Go.Proofs.YtghjhlenkgkelaaGreatDoor
open Go.RowKit

theorem given_any (A : Option Addr) (n c : Nat) (xs : List Acc) (w : World) (hl : n ≤ 5000) (hr : Trace w w.heap.size A n xs) :
    Calls Tryz.prog 24 #[.slice A n c] w fun e w' => e = .returned (.int .i64 (givenL xs)) ∧ Below w.heap.size w w' := by
  have hn := hr.len
  have HL : Hid (givenL xs = givenFrom xs) := Lib.hid (by unfold givenL; rw [if_neg (by omega)])
  have HN := Lib.hid hn
  clear hn
  go_enter Tryz.func24, Tryz.ntmps24
  go_wp2
  go_loopw [11] (fun i wr => ∃ k : Nat, k ≤ n ∧ i = .int .i64 k ∧ givenFrom (xs.drop k) = givenFrom xs ∧ Below w.heap.size w wr) (fun i _ => n - (intOf i).toNat)
  case atStart => exact ⟨0, by omega, rfl, rfl, Below.refl _ _⟩
  case round =>
    obtain ⟨k, hk, rfl, hg, hbw⟩ := hrel
    by_cases hlt : k < n
    · obtain ⟨x, hx⟩ := get_some (xs := xs) (k := k) (by rw [← HN.out]; omega)
      obtain ⟨b, off, rfl, hb, hc⟩ := hr.at_ k x hx
      obtain ⟨c0, c1, c2, c3, c4, c5, c6⟩ := hc.below hbw hb
      clear hc
      rw [drop_cons hx] at hg
      have HQ : Hid (givenFrom xs = if x.task < 0 ∨ x.frm < 0 ∨ x.frm ≥ 8 ∨ x.at' < 0 ∨ x.at' ≥ 8 then 4 else if x.kind < 1 ∨ x.kind > 4 then 1 else givenFrom (xs.drop (k+1))) := Lib.hid hg.symm
      clear hg hx hr
      go_wp2
      case roundEnd => 
        go_roundw
        case rel =>
          (try simp only [Bool.not_eq_true', Bool.not_eq_false', decide_eq_false_iff_not, decide_eq_true_eq] at *)
          exact ⟨k+1, by omega, by go_num, by rw [HQ.out]; rw [if_neg (by omega), if_neg (by omega)], hbw.alloc (hbw.size) _⟩
        case measure => simp [intOf]; omega
      all_goals
        go_ret
        refine ⟨ret_int ?_, hbw.alloc (hbw.size) _⟩
        rw [HL.out, HQ.out]
        (try simp only [Bool.not_eq_true', Bool.not_eq_false', decide_eq_false_iff_not, decide_eq_true_eq] at *)
        first
        | rw [if_pos (by omega)]
        | rw [if_neg (by omega), if_pos (by omega)]
    · go_wp2
      go_ret
      refine ⟨ret_int ?_, hbw⟩
      have hn := HN.out
      rw [HL.out, ← hg, List.drop_of_length_le (by omega)]; rfl

/-- too many accesses -/
theorem given_many (v : Option Addr) (n c : Nat) (w : World) (hl : 5000 < n) (hm : n ≤ 9223372036854775807) :
    Calls Tryz.prog 24 #[.slice v n c] w fun e w' => e = .returned (.int .i64 5) ∧ w' = w := by
  go_enter Tryz.func24, Tryz.ntmps24
  go_wp2
  go_ret
  exact ⟨rfl, rfl⟩
end Go.Proofs.YtghjhlenkgkelaaGreatDoor
