/- DERIVED. Two tokens are equal. -/
import Derived.Test.YtdloadeidijcoaaGreatDoorPScan
import Derived.Laws.StructEq
set_option linter.unusedSimpArgs false
set_option linter.unusedVariables false
namespace Go.Proofs.YtdloadeidijcoaaGreatDoor
open Go.RowKit Go.Shelf

def eqT (x y : Tok) : Bool := x.kind == y.kind && x.text == y.text && x.value == y.value && x.at_ == y.at_
theorem eqT_iff (x y : Tok) : eqT x y = decide (x = y) := by
  rw [Bool.eq_iff_iff, decide_eq_true_eq]
  unfold eqT
  obtain ⟨a, b, c, d⟩ := x
  obtain ⟨a', b', c', d'⟩ := y
  simp [and_assoc]
set_option maxRecDepth 100000 in
theorem eql_ptok (x y : Tok) (w : World) : (binOp .eql 30 (encT x) (encT y)).run Tryz.prog w = .ok (.bool (eqT x y)) w := by
  have u3 := Tryz.underlying3
  have a3 := Tryz.isAgg3
  have z3 := Tryz.sizeOf3
  have u9 := Tryz.underlying9
  have a9 := Tryz.isAgg9
  have z9 := Tryz.sizeOf9
  unfold encT strV
  rw [run_eql_struct, show (10000 : Nat) = 9999 + 1 from rfl, run_equalIn_agg _ _ _ _ _ (by kernel_rfl) (by kernel_rfl)]
  unfold Program.fieldsOf
  rw [Tryz.underlying30]
  simp only [Op.eqFields]
  go_simp
  unfold eqT
  obtain ⟨a, b, c, d⟩ := x
  obtain ⟨a', b', c', d'⟩ := y
  by_cases h1 : a = a' <;> by_cases h2 : b = b' <;> by_cases h3 : c = c' <;> by_cases h4 : d = d' <;> simp [h1, h2, h3, h4]
set_option maxRecDepth 100000 in
theorem eql_rtok (x y : Tok) (w : World) : (binOp .eql 26 (encT x) (encT y)).run Tryz.prog w = .ok (.bool (eqT x y)) w := by
  have u3 := Tryz.underlying3
  have a3 := Tryz.isAgg3
  have z3 := Tryz.sizeOf3
  have u9 := Tryz.underlying9
  have a9 := Tryz.isAgg9
  have z9 := Tryz.sizeOf9
  unfold encT strV
  rw [run_eql_struct, show (10000 : Nat) = 9999 + 1 from rfl, run_equalIn_agg _ _ _ _ _ (by kernel_rfl) (by kernel_rfl)]
  unfold Program.fieldsOf
  rw [Tryz.underlying26]
  simp only [Op.eqFields]
  go_simp
  unfold eqT
  obtain ⟨a, b, c, d⟩ := x
  obtain ⟨a', b', c', d'⟩ := y
  by_cases h1 : a = a' <;> by_cases h2 : b = b' <;> by_cases h3 : c = c' <;> by_cases h4 : d = d' <;> simp [h1, h2, h3, h4]
end Go.Proofs.YtdloadeidijcoaaGreatDoor
