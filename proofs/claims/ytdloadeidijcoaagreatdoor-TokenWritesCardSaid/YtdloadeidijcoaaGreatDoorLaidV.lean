/- DERIVED. What the listed variables hold at the start. -/
import Derived.Test.YtdloadeidijcoaaGreatDoorPVars
import Derived.Test.YtdloadeidijcoaaGreatDoorRows
import Derived.Lib.LaidTab
import Derived.Stop.LaidErr
import Derived.ProofKit
set_option linter.unusedSimpArgs false
set_option linter.unusedVariables false
namespace Go.Proofs.YtdloadeidijcoaaGreatDoor
open Go.RowKit Go

theorem space_datum : (Rows.laid_strings_asciiSpace : DataW Unit) = Lib.tabData .u8 Lib.asciiSpaceTab := by kernel_rfl
theorem cells256 : Tryz.prog.cellsOf 83 = 256 := by kernel_rfl
theorem cellsU8 : Tryz.prog.cellsOf 5 = 1 := by kernel_rfl
theorem cellsES : Tryz.prog.cellsOf 141 = 1 := by kernel_rfl
theorem cellsStr : Tryz.prog.cellsOf 9 = 1 := by kernel_rfl
theorem star_es : "*" ++ "errors.errorString" = "*errors.errorString" := by decide
theorem row_es (u : TypeId) (h : Tryz.prog.typeName? 3 u = some "*errors.errorString") : u = 139 :=
  typeName_ptr_named (nm := "errors.errorString") (by rw [star_es]; kernel_rfl) (by kernel_rfl) (by decide) u (by rw [star_es]; exact h)
theorem und_es : ∃ f : Field, Tryz.prog.underlying 141 = some (.struct #[f]) ∧ f.type = 9 ∧ f.offset = 0 := ⟨_, Tryz.underlying141, rfl, rfl⟩
theorem glob_syn : ∃ g, Tryz.prog.globalNamed "strconv.ErrSyntax" = some g ∧ (Tryz.prog.globals[g]?).map (·.type) = some 45 := ⟨2, by kernel_rfl, by kernel_rfl⟩
theorem glob_rng : ∃ g, Tryz.prog.globalNamed "strconv.ErrRange" = some g ∧ (Tryz.prog.globals[g]?).map (·.type) = some 45 := ⟨3, by kernel_rfl, by kernel_rfl⟩
theorem glob_tab : ∃ g, Tryz.prog.globalNamed "strings.asciiSpace" = some g ∧ (Tryz.prog.globals[g]?).map (·.type) = some 83 := ⟨0, by kernel_rfl, by kernel_rfl⟩
theorem vars_of_laid {W : World} (h : laidMetH Tryz.prog Rows.tokenWritesRow.laid W) : Vars W := by
  have h' : laidMet Tryz.prog Rows.tokenWritesRow.laid W := h
  obtain ⟨f, hu, hf1, hf2⟩ := und_es
  obtain ⟨g1, hg1, ht1⟩ := glob_rng
  obtain ⟨g2, hg2, ht2⟩ := glob_syn
  obtain ⟨g3, hg3, ht3⟩ := glob_tab
  have h3 := h'.tail.tail.tail
  obtain ⟨a0, s0, e0, _⟩ := laid_sentinel h3 hg1 ht1 Tryz.underlying45 row_es Tryz.underlying139 hu hf1 hf2 Tryz.underlying9 cellsES cellsStr
  obtain ⟨a1, s1, e1, _⟩ := laid_sentinel h3.tail hg2 ht2 Tryz.underlying45 row_es Tryz.underlying139 hu hf1 hf2 Tryz.underlying9 cellsES cellsStr
  obtain ⟨ps, ⟨g0, t0, cs0, f0, p0, q0, hg0, ht0, hv0, hd0, _, _⟩, _⟩ := h3.tail.tail.tail
  obtain rfl := Option.some.inj (hg3.symm.trans hg0)
  obtain rfl := Option.some.inj (ht3.symm.trans ht0)
  refine ⟨⟨_, _, e1⟩, ⟨_, _, e0⟩, ?_⟩
  unfold Lib.TabIs
  rw [hv0]
  rw [space_datum] at hd0
  rw [← Lib.cells_of_tab Tryz.underlying83 Tryz.underlying5 cellsU8 cells256 hd0]
end Go.Proofs.YtdloadeidijcoaaGreatDoor
