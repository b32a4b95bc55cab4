/- DERIVED. The key types of the program's maps: arrays of two and of three ints. -/
import Derived.Test.YtghjhlenkgkelaaGreatDoorSortK
set_option linter.unusedSimpArgs false
set_option linter.unusedVariables false
namespace Go.Proofs.YtghjhlenkgkelaaGreatDoor
open Go.RowKit
attribute [local go_sem] Oper.semAt_some

theorem eqArr2 (a b c d : Int) (w : World) : (Op.equalIn 10000 55 (.agg #[.int .i64 a, .int .i64 b]) (.agg #[.int .i64 c, .int .i64 d])).run Tryz.prog w = .ok (a == c && b == d) w := by
  have u3 := Tryz.underlying3
  have a3 := Tryz.isAgg3
  have z3 := Tryz.sizeOf3
  rw [show (10000 : Nat) = 9999 + 1 from rfl, Op.equalIn]
  simp only [Sem.run_bind, run_underlying Tryz.underlying55, Result.andThen_ok]
  simp only [Std.Legacy.Range.forIn_eq_forIn_range', Std.Legacy.Range.size, Nat.sub_zero, Nat.add_sub_cancel, Nat.div_one, List.range'_succ, List.range'_zero, List.forIn_cons, List.forIn_nil]
  go_simp
  by_cases h1 : a = c <;> by_cases h2 : b = d <;> simp [h1, h2]
theorem eqArr3 (a b e c d f : Int) (w : World) : (Op.equalIn 10000 43 (.agg #[.int .i64 a, .int .i64 b, .int .i64 e]) (.agg #[.int .i64 c, .int .i64 d, .int .i64 f])).run Tryz.prog w = .ok (a == c && b == d && e == f) w := by
  have u3 := Tryz.underlying3
  have a3 := Tryz.isAgg3
  have z3 := Tryz.sizeOf3
  rw [show (10000 : Nat) = 9999 + 1 from rfl, Op.equalIn]
  simp only [Sem.run_bind, run_underlying Tryz.underlying43, Result.andThen_ok]
  simp only [Std.Legacy.Range.forIn_eq_forIn_range', Std.Legacy.Range.size, Nat.sub_zero, Nat.add_sub_cancel, Nat.div_one, List.range'_succ, List.range'_zero, List.forIn_cons, List.forIn_nil]
  go_simp
  by_cases h1 : a = c <;> by_cases h2 : b = d <;> by_cases h3 : e = f <;> simp [h1, h2, h3]
theorem chkArr2 (em : Bool) (a b : Int) (w : World) : (Instr.checkKey em 10000 55 (.agg #[.int .i64 a, .int .i64 b])).run Tryz.prog w = .ok () w := by
  have u3 := Tryz.underlying3
  have a3 := Tryz.isAgg3
  have z3 := Tryz.sizeOf3
  have c3 : ∀ (n : Int) (w : World), (Instr.checkKey em 9999 3 (.int .i64 n)).run Tryz.prog w = .ok () w := fun n w => by
    rw [show (9999 : Nat) = 9998 + 1 from rfl, Instr.checkKey]; simp [Sem.run_bind, run_underlying u3]
  rw [show (10000 : Nat) = 9999 + 1 from rfl, Instr.checkKey]
  simp only [Sem.run_bind, run_underlying Tryz.underlying55, Result.andThen_ok]
  simp only [Std.Legacy.Range.forIn_eq_forIn_range', Std.Legacy.Range.size, Nat.sub_zero, Nat.add_sub_cancel, Nat.div_one, List.range'_succ, List.range'_zero, List.forIn_cons, List.forIn_nil]
  go_simp
theorem chkArr3 (em : Bool) (a b c : Int) (w : World) : (Instr.checkKey em 10000 43 (.agg #[.int .i64 a, .int .i64 b, .int .i64 c])).run Tryz.prog w = .ok () w := by
  have u3 := Tryz.underlying3
  have a3 := Tryz.isAgg3
  have z3 := Tryz.sizeOf3
  have c3 : ∀ (n : Int) (w : World), (Instr.checkKey em 9999 3 (.int .i64 n)).run Tryz.prog w = .ok () w := fun n w => by
    rw [show (9999 : Nat) = 9998 + 1 from rfl, Instr.checkKey]; simp [Sem.run_bind, run_underlying u3]
  rw [show (10000 : Nat) = 9999 + 1 from rfl, Instr.checkKey]
  simp only [Sem.run_bind, run_underlying Tryz.underlying43, Result.andThen_ok]
  simp only [Std.Legacy.Range.forIn_eq_forIn_range', Std.Legacy.Range.size, Nat.sub_zero, Nat.add_sub_cancel, Nat.div_one, List.range'_succ, List.range'_zero, List.forIn_cons, List.forIn_nil]
  go_simp

theorem mkey2 : MKey Tryz.prog 55 enc2 :=
  MKey.asks Tryz.underlying55 (fun _ _ => rfl) (fun {x y} h => by cases x; cases y; simp [enc2] at h; simp [h])
    (fun w x y => ⟨_, eqArr2 _ _ _ _ w, by cases x; cases y; simp⟩) (fun w em x => chkArr2 em _ _ w)
    (fun w x => by simp [Instr.keyThatStays, enc2, Instr.sameBits])
theorem mkey3 : MKey Tryz.prog 43 enc3 :=
  MKey.asks Tryz.underlying43 (fun _ _ => rfl) (fun {x y} h => by cases x; cases y; simp [enc3] at h; simp [h])
    (fun w x y => ⟨_, eqArr3 _ _ _ _ _ _ w, by cases x; cases y; simp [and_assoc]⟩) (fun w em x => chkArr3 em _ _ _ w)
    (fun w x => by simp [Instr.keyThatStays, enc3, Instr.sameBits])
end Go.Proofs.YtghjhlenkgkelaaGreatDoor
