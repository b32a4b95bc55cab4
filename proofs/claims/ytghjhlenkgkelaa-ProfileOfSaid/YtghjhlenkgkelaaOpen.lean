/- DERIVED. A trace that came in, opened. -/
import Derived.Test.YtghjhlenkgkelaaBase
import Derived.Test.YtghjhlenkgkelaaRows
import Derived.ProofKit
import Derived.Deep.Slices
import Derived.Deep.Fields
import Derived.ChangeSame
import Derived.Laws.IdiomArrays
set_option linter.unusedSimpArgs false
set_option linter.unusedVariables false
namespace Go.Proofs.Ytghjhlenkgkelaa
open Go.RowKit Go.ChangeShapes Go.WideShapes Go.Deep

theorem some_underlying_acc : ∃ f0 f1 f2 f3 f4 : Field, Try.prog.underlying 46 = some (.struct #[f0, f1, f2, f3, f4]) ∧ f0.type = 3 ∧ f1.type = 39 ∧ f2.type = 3 ∧ f3.type = 3 ∧ f4.type = 3 ∧ f0.offset = 0 ∧ f1.offset = 1 ∧ f2.offset = 4 ∧ f3.offset = 5 ∧ f4.offset = 6 := by
  refine ⟨_, _, _, _, _, Try.underlying46, ?_⟩
  exact ⟨rfl, rfl, rfl, rfl, rfl, rfl, rfl, rfl, rfl, rfl⟩
instance : Inhabited Acc := ⟨⟨0, 0, 0, 0, 0, 0, 0⟩⟩
section
variable {H : Type} {enc : TypeId × Value → H} {w : World} {base : Nat} {spare : Nat → Bool} {held : Bool}
set_option maxRecDepth 100000 in
theorem open_access {fuel : Nat} {cs : List Value} {x : DataW H × List MemPlace} (h : DataW.trod enc Try.prog w base spare held fuel 46 cs = some x) : ∃ y : Acc, cs = y.cells.toList := by
  obtain ⟨f0, f1, f2, f3, f4, hu, t0, t1, t2, t3, t4, o0, o1, o2, o3, o4⟩ := some_underlying_acc
  obtain ⟨ys, n, _, _, hlen, hyl, hf⟩ := DataW.trod_struct hu h
  have hC : Try.prog.cellsOf 46 = 7 := by kernel_rfl
  have hI : Try.prog.cellsOf 3 = 1 := by kernel_rfl
  have hA : Try.prog.cellsOf 39 = 3 := by kernel_rfl
  rw [hC] at hlen
  match cs, hlen with
  | [c0, c1, c2, c3, c4, c5, c6], _ =>
    match ys, hyl with
    | [y0, y1, y2, y3, y4], _ =>
      have g0 := hf 0 f0 rfl
      have g1 := hf 1 f1 rfl
      have g2 := hf 2 f2 rfl
      have g3 := hf 3 f3 rfl
      have g4 := hf 4 f4 rfl
      rw [t0, o0, hI] at g0; rw [t1, o1, hA] at g1; rw [t2, o2, hI] at g2; rw [t3, o3, hI] at g3; rw [t4, o4, hI] at g4
      simp only [List.drop_zero, List.drop_succ_cons, List.take_succ_cons, List.take_zero, List.getElem?_cons_zero, List.getElem?_cons_succ] at g0 g1 g2 g3 g4
      obtain ⟨a0, a1, a2, m, _, q0, q1, q2⟩ := trod_array3 Try.underlying39 hI g1
      obtain ⟨n0, e0, _, _⟩ := DataW.trod_int Try.underlying3 g0
      obtain ⟨n1, e1, _, _⟩ := DataW.trod_int Try.underlying3 q0
      obtain ⟨n2, e2, _, _⟩ := DataW.trod_int Try.underlying3 q1
      obtain ⟨n3, e3, _, _⟩ := DataW.trod_int Try.underlying3 q2
      obtain ⟨n4, e4, _, _⟩ := DataW.trod_int Try.underlying3 g2
      obtain ⟨n5, e5, _, _⟩ := DataW.trod_int Try.underlying3 g3
      obtain ⟨n6, e6, _, _⟩ := DataW.trod_int Try.underlying3 g4
      simp only [List.cons.injEq, and_true] at e0 e1 e2 e3 e4 e5 e6
      exact ⟨⟨n0, n1, n2, n3, n4, n5, n6⟩, by rw [e0, e1, e2, e3, e4, e5, e6]; rfl⟩
set_option maxRecDepth 100000 in
theorem open_trace {fuel : Nat} {cs : List Value} {x : DataW H × List MemPlace} (h : DataW.trod enc Try.prog w base spare held fuel 22 cs = some x) :
    ∃ A n c xs, cs = [.slice A n c] ∧ n ≤ c ∧ c ≤ maxLen ∧ Trace w w.heap.size A n xs := by
  rcases open_slice Try.underlying22 h with ⟨rfl, _⟩ | ⟨a, len, cap, m, n, D, Pl, rfl, _, hl, hm, hmm, _, hx⟩
  · exact ⟨none, 0, 0, [], rfl, Nat.le_refl _, Nat.zero_le _, rfl, by simp⟩
  · have hC : Try.prog.cellsOf 46 = 7 := by kernel_rfl
    rw [hC] at hx
    obtain ⟨F, hF⟩ := choose_lt (n := len) (p := fun i (y : Acc) => ∀ j u, y.cells.toList[j]? = some u → w.cell? ((a.add (i * 7)).add j) = some u) (fun i hi => by
      obtain ⟨cs', h1, h2⟩ := hx i (by rw [hmm]; split <;> omega)
      obtain ⟨y, rfl⟩ := open_access h2
      obtain ⟨_, hln, hat⟩ := World.cells?_some h1
      refine ⟨y, fun j u hu => ?_⟩
      have hj := (List.getElem?_eq_some_iff.1 hu).1
      rw [hat j (by rw [hln] at hj; exact hj)]; exact hu)
    refine ⟨some a, len, cap, (List.range len).map F, rfl, hl, hm, by simp, fun i x hx' => ?_⟩
    obtain ⟨hi, rfl⟩ := List.getElem?_eq_some_iff.1 hx'
    have hil : i < len := by simpa using hi
    rw [List.getElem_map, List.getElem_range]
    have h0 := hF 0 (by omega) 0 _ rfl
    rw [Nat.zero_mul] at h0
    simp only [Addr.add, if_true] at h0
    have hsp : a.spot = none := by
      cases hs : a.spot with
      | none => rfl
      | some k =>
        exfalso
        unfold World.cell? at h0
        split at h0
        · simp [hs] at h0
        · cases h0
    have ha : a = ⟨a.block, a.off, none⟩ := by rw [← hsp]
    have hadd : ∀ k, a.add k = ⟨a.block, a.off + k, none⟩ := fun k => by
      by_cases hk : k = 0
      · subst hk; simp only [Addr.add, if_true, Nat.add_zero]; exact ha
      · simp [Addr.add, hk]
    have hadd2 : ∀ k j, (a.add k).add j = ⟨a.block, a.off + k + j, none⟩ := fun k j => by
      rw [hadd]
      by_cases hj : j = 0
      · subst hj; simp [Addr.add]
      · simp [Addr.add, hj]
    have hc := hF i hil
    simp only [hadd2] at hc
    refine ⟨a.block, a.off, by rw [← ha], ?_, hc 0 _ rfl, hc 1 _ rfl, hc 2 _ rfl, hc 3 _ rfl, hc 4 _ rfl, hc 5 _ rfl, hc 6 _ rfl⟩
    exact cell_lt (a := a) h0
end
end Go.Proofs.Ytghjhlenkgkelaa
