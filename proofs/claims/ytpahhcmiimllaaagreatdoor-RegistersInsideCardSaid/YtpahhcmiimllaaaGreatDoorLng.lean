/- DERIVED. The program's lengths: how long an instruction's list must be. -/
import Derived.Test.YtpahhcmiimllaaaGreatDoorCd
import Derived.Test.YtpahhcmiimllaaaGreatDoorShelf
set_option linter.unusedSimpArgs false
set_option linter.unusedVariables false
namespace Go.Proofs.YtpahhcmiimllaaaGreatDoor
open Go.RowKit

set_option maxRecDepth 100000 in
set_option maxHeartbeats 4000000 in
theorem field_any (c : CodeL) (b : BodyL) (k n : Int) (A : Option Addr) (nb cc : Nat) (Ab : Option Addr) (lb cb : Nat) (w : World) (hnb : nb = c.bodies.length) (hlb : lb = b.code.length) (hk : 0 ≤ k ∧ k ≤ 10) :
    Calls Tryz.prog 115 #[codeV c A nb cc, bodyV b Ab lb cb, .int .i64 k, .int .i64 n] w fun e w' => e = .returned (.bool (fieldB c b k n)) ∧ Below w.heap.size w w' := by
  have HB := Lib.hid (((Below.refl w.heap.size w).alloc (Nat.le_refl _) (.cells #[.int .i64 c.globals, .slice A nb cc] 24)).alloc (by simp) (.cells #[.string ⟨b.name.toArray⟩, .int .i64 b.regs, .int .i64 b.args, .slice Ab lb cb] 51))
  unfold codeV bodyV
  have HNB := Lib.hid hnb
  have HLB := Lib.hid hlb
  clear hnb hlb
  have hkk : k = 0 ∨ k = 1 ∨ k = 2 ∨ k = 3 ∨ k = 4 ∨ k = 5 ∨ k = 6 ∨ k = 7 ∨ k = 8 ∨ k = 9 ∨ k = 10 := by omega
  clear hk
  rcases hkk with rfl | rfl | rfl | rfl | rfl | rfl | rfl | rfl | rfl | rfl | rfl
  · have HF : Hid (fieldB c b 0 n = (n == 0)) := Lib.hid (by unfold fieldB; simp; rfl)
    go_enter Tryz.func115, Tryz.ntmps115
    go_wp2_with fail
    go_ret
    exact ⟨ret_bool HF.out.symm, HB.out⟩
  · have HF : Hid (fieldB c b 1 n = (decide (0 ≤ n) && decide (n < b.regs))) := Lib.hid (by unfold fieldB; simp)
    cases h1 : decide (0 ≤ n) <;> cases h2 : decide (n < b.regs) <;> rw [h1, h2] at HF <;>
    · go_enter Tryz.func115, Tryz.ntmps115
      go_wp2_with fail
      go_ret
      exact ⟨ret_bool HF.out.symm, HB.out⟩
  · have HF : Hid (fieldB c b 2 n = (decide (-1 ≤ n) && decide (n < b.regs))) := Lib.hid (by unfold fieldB; simp)
    cases h1 : decide (-1 ≤ n) <;> cases h2 : decide (n < b.regs) <;> rw [h1, h2] at HF <;>
    · go_enter Tryz.func115, Tryz.ntmps115
      go_wp2_with fail
      go_ret
      exact ⟨ret_bool HF.out.symm, HB.out⟩
  · have HF : Hid (fieldB c b 3 n = (decide (0 ≤ n) && decide (n < b.regs))) := Lib.hid (by unfold fieldB; simp)
    cases h1 : decide (0 ≤ n) <;> cases h2 : decide (n < b.regs) <;> rw [h1, h2] at HF <;>
    · go_enter Tryz.func115, Tryz.ntmps115
      go_wp2_with fail
      go_ret
      exact ⟨ret_bool HF.out.symm, HB.out⟩
  · have HF : Hid (fieldB c b 4 n = (decide (-1 ≤ n) && decide (n < b.regs))) := Lib.hid (by unfold fieldB; simp)
    cases h1 : decide (-1 ≤ n) <;> cases h2 : decide (n < b.regs) <;> rw [h1, h2] at HF <;>
    · go_enter Tryz.func115, Tryz.ntmps115
      go_wp2_with fail
      go_ret
      exact ⟨ret_bool HF.out.symm, HB.out⟩
  · have HF : Hid (fieldB c b 5 n = true) := Lib.hid (by unfold fieldB; simp)
    go_enter Tryz.func115, Tryz.ntmps115
    go_wp2_with fail
    go_ret
    exact ⟨ret_bool HF.out.symm, HB.out⟩
  · have HF : Hid (fieldB c b 6 n = (decide (0 ≤ n) && decide (n < c.globals))) := Lib.hid (by unfold fieldB; simp)
    cases h1 : decide (0 ≤ n) <;> cases h2 : decide (n < c.globals) <;> rw [h1, h2] at HF <;>
    · go_enter Tryz.func115, Tryz.ntmps115
      go_wp2_with fail
      go_ret
      exact ⟨ret_bool HF.out.symm, HB.out⟩
  · have HF : Hid (fieldB c b 7 n = (decide (0 ≤ n) && decide (n < (lb : Int)))) := Lib.hid (by unfold fieldB; rw [HLB.out]; simp)
    cases h1 : decide (0 ≤ n) <;> cases h2 : decide (n < (lb : Int)) <;> rw [h1, h2] at HF <;>
    · go_enter Tryz.func115, Tryz.ntmps115
      go_wp2_with fail
      go_ret
      exact ⟨ret_bool HF.out.symm, HB.out⟩
  · have HF : Hid (fieldB c b 8 n = (decide (0 ≤ n) && decide (n < (nb : Int)))) := Lib.hid (by unfold fieldB; rw [HNB.out]; simp)
    cases h1 : decide (0 ≤ n) <;> cases h2 : decide (n < (nb : Int)) <;> rw [h1, h2] at HF <;>
    · go_enter Tryz.func115, Tryz.ntmps115
      go_wp2_with fail
      go_ret
      exact ⟨ret_bool HF.out.symm, HB.out⟩
  · have HF : Hid (fieldB c b 9 n = ((n == 0) || (n == 1))) := Lib.hid (by unfold fieldB; simp; rfl)
    cases h1 : (n == 0) <;> cases h2 : (n == 1) <;> rw [h1, h2] at HF <;>
    · go_enter Tryz.func115, Tryz.ntmps115
      go_wp2_with fail
      go_ret
      exact ⟨ret_bool HF.out.symm, HB.out⟩
  · have HF : Hid (fieldB c b 10 n = (decide (1 ≤ n) && decide (n ≤ 4))) := Lib.hid (by unfold fieldB; simp)
    cases h1 : decide (1 ≤ n) <;> cases h2 : decide (n ≤ 4) <;> rw [h1, h2] at HF <;>
    · go_enter Tryz.func115, Tryz.ntmps115
      go_wp2_with fail
      go_ret
      exact ⟨ret_bool HF.out.symm, HB.out⟩
end Go.Proofs.YtpahhcmiimllaaaGreatDoor
namespace Go.Proofs.YtpahhcmiimllaaaGreatDoor
open Go.RowKit

theorem ret_two {a b c d : Int} (h : a = c) (g : b = d) : Ending.returned (.tuple #[.int .i64 a, .int .i64 b]) = .returned (.tuple #[.int .i64 c, .int .i64 d]) := by rw [h, g]
def lngV (c : CodeL) (i : InsL) : Value := .tuple #[.int .i64 (lengthsOf c i).1, .int .i64 (lengthsOf c i).2]
set_option maxRecDepth 100000 in
set_option maxHeartbeats 8000000 in
theorem lengths_any (c : CodeL) (i : InsL) (A : Option Addr) (nb cc : Nat) (Ai : Option Addr) (ni ci : Nat) (w : World) (hC : Bods w A nb c.bodies) (hb : i.op = 21 ∨ i.op = 27 → 0 ≤ i.b ∧ i.b < nb) :
    Calls Tryz.prog 118 #[codeV c A nb cc, insV i Ai ni ci] w fun e w' => e = .returned (lngV c i) ∧ Below w.heap.size w w' := by
  have HB := Lib.hid (((Below.refl w.heap.size w).alloc (Nat.le_refl _) (.cells #[.int .i64 c.globals, .slice A nb cc] 24)).alloc (by simp) (.cells #[.int .i64 i.op, .int .i64 i.a, .int .i64 i.b, .int .i64 i.c, .int .i64 i.d, .string ⟨i.text.toArray⟩, .slice Ai ni ci] 55))
  have HL : Hid (lngV c i = .tuple #[.int .i64 (lengthsOf c i).1, .int .i64 (lengthsOf c i).2]) := Lib.hid rfl
  have HLN := Lib.hid hC.len
  obtain ⟨op, a, b, cf, d, text, list⟩ := i
  simp only at hb HB
  unfold codeV insV
  simp only
  by_cases h10 : op = 10
  · subst h10; clear hb hC
    go_enter Tryz.func118, Tryz.ntmps118
    go_wp2_with fail
    go_ret2
    exact ⟨by rw [HL.out]; simp [lengthsOf], HB.out⟩
  by_cases h17 : op = 17
  · subst h17; clear hb hC
    go_enter Tryz.func118, Tryz.ntmps118
    go_wp2_with fail
    go_ret2
    exact ⟨by rw [HL.out]; simp [lengthsOf], HB.out⟩
  by_cases h18 : op = 18
  · subst h18; clear hb hC
    go_enter Tryz.func118, Tryz.ntmps118
    go_wp2_with fail
    go_ret2
    exact ⟨by rw [HL.out]; simp [lengthsOf], HB.out⟩
  by_cases h2 : op = 21 ∨ op = 27
  · obtain ⟨hb0, hb1⟩ := hb h2
    obtain ⟨k, rfl⟩ : ∃ k : Nat, b = k := ⟨b.toNat, by omega⟩
    obtain ⟨y, hy⟩ := get_some (xs := c.bodies) (k := k) (by have := HLN.out; omega)
    obtain ⟨bb, ob, rfl, hlt, Ay, ny, cy, hyc⟩ := hC.at_ k y hy
    have c2 := hyc.c2
    have HLY : Hid (lengthsOf c ⟨op, a, k, cf, d, text, list⟩ = (y.args, y.args)) := Lib.hid (by
      unfold lengthsOf
      simp only
      rw [if_neg (by omega), if_pos h2]
      simp only [Int.toNat_natCast]
      rw [List.getD_eq_getElem?_getD, hy]; rfl)
    clear hyc hy hC hb HLN
    rcases h2 with rfl | rfl
    · go_enter Tryz.func118, Tryz.ntmps118
      go_wp2_with fail
      go_ret2
      exact ⟨congrArg Ending.returned (by rw [HL.out, HLY.out]; rfl), HB.out⟩
    · go_enter Tryz.func118, Tryz.ntmps118
      go_wp2_with fail
      go_ret2
      exact ⟨congrArg Ending.returned (by rw [HL.out, HLY.out]; rfl), HB.out⟩
  clear hb hC
  by_cases h33 : op = 33
  · subst h33
    go_enter Tryz.func118, Tryz.ntmps118
    go_wp2_with fail
    go_ret2
    exact ⟨by rw [HL.out]; simp [lengthsOf], HB.out⟩
  by_cases h35 : op = 35
  · subst h35
    by_cases hr : text = readW
    · subst hr
      have HE : Hid (lengthsOf c ⟨35, a, b, cf, d, readW, list⟩ = (0, 0)) := Lib.hid (by simp [lengthsOf])
      generalize lengthsOf c ⟨35, a, b, cf, d, readW, list⟩ = P at *
      unfold readW at *
      go_enter Tryz.func118, Tryz.ntmps118
      go_wp2_with fail
      go_ret2
      exact ⟨congrArg Ending.returned (by rw [HL.out, HE.out]; rfl), HB.out⟩
    · have hr2 : (text == readW) = false := by simp [hr]
      by_cases hs : text = casW
      · subst hs
        have HE : Hid (lengthsOf c ⟨35, a, b, cf, d, casW, list⟩ = (2, 2)) := Lib.hid (by simp [lengthsOf, hr])
        generalize lengthsOf c ⟨35, a, b, cf, d, casW, list⟩ = P at *
        unfold casW readW at *
        clear hr hr2
        go_enter Tryz.func118, Tryz.ntmps118
        go_wp2_with fail
        go_ret2
        exact ⟨congrArg Ending.returned (by rw [HL.out, HE.out]; rfl), HB.out⟩
      · have hs2 : (text == casW) = false := by simp [hs]
        have HE : Hid (lengthsOf c ⟨35, a, b, cf, d, text, list⟩ = (1, 1)) := Lib.hid (by simp [lengthsOf, hr, hs])
        generalize lengthsOf c ⟨35, a, b, cf, d, text, list⟩ = P at *
        unfold casW readW at *
        clear hr hs
        go_enter Tryz.func118, Tryz.ntmps118
        go_wp2_with fail
        go_ret2
        exact ⟨congrArg Ending.returned (by rw [HL.out, HE.out]; rfl), HB.out⟩
  by_cases h36 : op = 36
  · subst h36
    clear h10 h17 h18 h2 h33 h35
    have HE : Hid (lengthsOf c ⟨36, a, b, cf, d, text, list⟩ = (((text.count 0 : Nat) : Int), ((text.count 0 : Nat) : Int))) := Lib.hid (by simp [lengthsOf])
    generalize lengthsOf c ⟨36, a, b, cf, d, text, list⟩ = P at *
    have hcnt := fun W => Tryz.strings_Count_one ⟨text.toArray⟩ 0 W
    simp only [Lib.countByte] at hcnt
    go_enter Tryz.func118, Tryz.ntmps118
    go_wp2_with (go_at_call 139; refine (hcnt _).mono ?_; rintro e w' ⟨rfl, rfl⟩)
    go_ret2
    exact ⟨congrArg Ending.returned (by rw [HL.out, HE.out]; rfl), HB.out⟩
  have f10 : (op == 10) = false := beq_eq_false_iff_ne.2 h10
  have f17 : (op == 17) = false := beq_eq_false_iff_ne.2 h17
  have f18 : (op == 18) = false := beq_eq_false_iff_ne.2 h18
  have f21 : (op == 21) = false := beq_eq_false_iff_ne.2 (fun e => h2 (.inl e))
  have f27 : (op == 27) = false := beq_eq_false_iff_ne.2 (fun e => h2 (.inr e))
  have f33 : (op == 33) = false := beq_eq_false_iff_ne.2 h33
  have f35 : (op == 35) = false := beq_eq_false_iff_ne.2 h35
  have f36 : (op == 36) = false := beq_eq_false_iff_ne.2 h36
  have HE : Hid (lengthsOf c ⟨op, a, b, cf, d, text, list⟩ = (0, 0)) := Lib.hid (by unfold lengthsOf; simp only; rw [if_neg (by omega), if_neg h2, if_neg h33, if_neg h35, if_neg h36])
  generalize lengthsOf c ⟨op, a, b, cf, d, text, list⟩ = P at *
  clear h10 h17 h18 h2 h33 h35 h36
  go_enter Tryz.func118, Tryz.ntmps118
  go_wp2_with fail
  go_ret2
  exact ⟨congrArg Ending.returned (by rw [HL.out, HE.out]; rfl), HB.out⟩
end Go.Proofs.YtpahhcmiimllaaaGreatDoor
