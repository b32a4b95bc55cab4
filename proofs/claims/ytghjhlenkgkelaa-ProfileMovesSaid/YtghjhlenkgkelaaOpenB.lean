/- DERIVED. A slice of bytes, or of ints, that came in, opened. -/
import Derived.Test.YtghjhlenkgkelaaOpen
import Derived.Test.YtghjhlenkgkelaaOwn
import Derived.ChangeSlices
set_option linter.unusedSimpArgs false
set_option linter.unusedVariables false
namespace Go.Proofs.Ytghjhlenkgkelaa
open Go.RowKit Go.ChangeShapes Go.WideShapes Go.Deep
section
variable {H : Type} {enc : TypeId × Value → H} {w : World} {base : Nat} {held : Bool}
theorem open_nums {t e : TypeId} {k : IntKind} (ht : Try.prog.underlying t = some (.slice e)) (he : Try.prog.underlying e = some (.int k)) (hC : Try.prog.cellsOf e = 1) {fuel : Nat} {cs : List Value} {x : DataW H × List MemPlace} (h : DataW.trod enc Try.prog w base (fun _ => true) held fuel t cs = some x) :
    ∃ A n c, ∃ bs : List Int, cs = [.slice A n c] ∧ n ≤ maxLen ∧ Sl w (fun b : Int => .int k b) A n bs ∧ ∀ b ∈ bs, (Lit.int k b).wf = true := by
  rcases open_ints ht he hC h with ⟨hcs, _⟩ | ⟨a, l, c, zs, hcs, _, hl, hm, hz, _, hcell, hwz⟩
  · exact ⟨none, 0, 0, [], hcs, Nat.zero_le _, ⟨rfl, by simp⟩, by simp⟩
  · have hzl : zs.length = c := by simpa using hz
    refine ⟨some a, l, c, zs.take l, hcs, by omega, ⟨by rw [List.length_take]; omega, fun i b hb => ?_⟩, fun b hb => hwz b (List.mem_of_mem_take hb)⟩
    rw [List.getElem?_take] at hb
    split at hb
    · rename_i hil
      have h0 := hcell 0 (by omega)
      simp only [Addr.add, if_true] at h0
      have hsp : a.spot = none := by
        cases hs : a.spot with
        | none => rfl
        | some k =>
          exfalso
          unfold World.cell? at h0
          split at h0
          · simp [hs] at h0
          · cases h0
      have ha : a = ⟨a.block, a.off, none⟩ := by rw [← hsp]
      have hadd : a.add i = ⟨a.block, a.off + i, none⟩ := by
        by_cases hk : i = 0
        · subst hk; simp only [Addr.add, if_true, Nat.add_zero]; exact ha
        · simp [Addr.add, hk]
      have hi := hcell i (by omega)
      rw [hadd] at hi
      refine ⟨a.block, a.off, by rw [← ha], cell_lt (a := a) h0, ?_⟩
      rw [hi, List.getD_eq_getElem?_getD, hb]; rfl
    · cases hb
end
end Go.Proofs.Ytghjhlenkgkelaa
