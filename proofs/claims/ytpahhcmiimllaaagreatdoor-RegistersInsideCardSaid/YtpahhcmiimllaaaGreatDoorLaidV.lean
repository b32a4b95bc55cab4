/- DERIVED. What the listed variables hold at the start. -/
import Derived.Test.YtpahhcmiimllaaaGreatDoorVarR
import Derived.Test.YtpahhcmiimllaaaGreatDoorRows
import Derived.Lib.LaidTab
import Derived.Stop.LaidErr
import Derived.ProofKit
set_option linter.unusedSimpArgs false
set_option linter.unusedVariables false
namespace Go.Proofs.YtpahhcmiimllaaaGreatDoor
open Go.RowKit Go

theorem space_datum : (Rows.laid_strings_asciiSpace : DataW Unit) = Lib.tabData .u8 Lib.asciiSpaceTab := by kernel_rfl
theorem deb_datum : (Rows.laid_math_bits_deBruijn64tab : DataW Unit) = Lib.tabData .u8 (Lib.deBruijn64tab.map Int.ofNat) := by kernel_rfl
theorem cells256 : Tryz.prog.cellsOf 187 = 256 := by kernel_rfl
theorem cells64 : Tryz.prog.cellsOf 167 = 64 := by kernel_rfl
theorem cellsU8 : Tryz.prog.cellsOf 5 = 1 := by kernel_rfl
theorem glob_deb : ∃ g, Tryz.prog.globalNamed "math/bits.deBruijn64tab" = some g ∧ (Tryz.prog.globals[g]?).map (·.type) = some 167 := ⟨0, by kernel_rfl, by kernel_rfl⟩
theorem glob_tab : ∃ g, Tryz.prog.globalNamed "strings.asciiSpace" = some g ∧ (Tryz.prog.globals[g]?).map (·.type) = some 187 := ⟨1, by kernel_rfl, by kernel_rfl⟩
theorem vars_of_laid {W : World} (h : laidMetH Tryz.prog Rows.registersEnoughRow.laid W) : VarsR W := by
  have h' : laidMet Tryz.prog Rows.registersEnoughRow.laid W := h
  obtain ⟨g1, hg1, ht1⟩ := glob_deb
  obtain ⟨g3, hg3, ht3⟩ := glob_tab
  have h3 := h'.tail.tail
  obtain ⟨_, ⟨g4, t4, cs4, f4, p4, q4, hg4, ht4, hv4, hd4, _, _⟩, _⟩ := h'
  obtain ⟨_, ⟨g0, t0, cs0, f0, p0, q0, hg0, ht0, hv0, hd0, _, _⟩, _⟩ := h3
  obtain rfl := Option.some.inj (hg3.symm.trans hg0)
  obtain rfl := Option.some.inj (ht3.symm.trans ht0)
  obtain rfl := Option.some.inj (hg1.symm.trans hg4)
  obtain rfl := Option.some.inj (ht1.symm.trans ht4)
  refine ⟨?_, ?_⟩
  · unfold Lib.TabIs
    rw [hv0]
    rw [space_datum] at hd0
    rw [← Lib.cells_of_tab Tryz.underlying187 Tryz.underlying5 cellsU8 cells256 hd0]
  · unfold Lib.TabIs
    rw [hv4]
    rw [deb_datum] at hd4
    rw [← Lib.cells_of_tab Tryz.underlying167 Tryz.underlying5 cellsU8 cells64 hd4]
end Go.Proofs.YtpahhcmiimllaaaGreatDoor
