/- The accesses of all edges, and the remote accesses of all spots, are the remote accesses of the trace; all counts of spots are the accesses; messages are groups: for every trace. -/
import Derived.Test.YtghjhlenkgkelaaCounts
import Derived.Test.YtghjhlenkgkelaaOpen
import Derived.WalkKit
import Derived.ProofKit
import Derived.OpenShut
import Derived.ChangeOld
import Derived.Below
namespace Go.Proofs.Ytghjhlenkgkelaa
open Go.ChangeShapes Go.WideShapes Go.ChangeAt Go.RowKit

theorem counts_walk (A : Option Addr) (n c : Nat) (xs : List Acc) (w : World) (hr : Trace w w.heap.size A n xs) (hm : n ≤ maxLen) :
    Calls Try.prog 3 #[.slice A n c] w (True1 w) := by
  by_cases hn : 300 < n
  · exact counts_big A n c w hn (by unfold maxLen at hm; omega)
  · by_cases hg : givenL xs = 0
    · exact counts_ok A n c xs w (by omega) hr hg
    · exact counts_err A n c xs w (by omega) hr hg
theorem own : ownKnob Try.prog.godebug = none := by kernel_rfl
theorem laidOut : laidOutB Try.prog = true := by kernel_rfl
set_option maxRecDepth 100000 in
theorem profileCounts_lifted (os : Os) (started : os.Started) (H : Type) (enc : TypeId × Value → H) :
    ReturnsInHanded {} Try.checked os 3 .any (Rows.profileCountsSpec.pre6 enc Try.prog Try.f3 Rows.profileCountsRow.domain false) (Rows.profileCountsSpec.post enc Try.prog Try.f3 false true false false) := by
  refine returnsInHanded_of_change (C := Try.checked) own started (by kernel_rfl) Try.func3
    (ChangeSpec.witness6 (enc := enc) (C := Try.checked) false ⟨#[], #[.slice none 0 0], []⟩ 8 (by kernel_rfl) (by kernel_rfl) (by kernel_rfl) (by kernel_rfl)) ?_
  intro W base args ds gs before hval0 hW hcnd _
  have hval : ∀ (j : Nat) t v, Try.f3.params[j]? = some t → args[j]? = some v → Value.okWide Try.prog W .any base t v := hval0
  have hW' := hW
  obtain ⟨p, q, hA0, hV, rfl, hfz, hnd⟩ := hW
  have hA : DataW.TrodAll enc Try.prog W 0 (fun _ => true) true Try.f3.params.toList args.toList ds p := hA0
  rw [Try.params3] at hA hval
  obtain ⟨v0, vs0, d0, ds0, p0, q0, hargs, rfl, rfl, h0, r0⟩ := trodAll_cons hA
  obtain ⟨rfl, rfl, rfl⟩ := trodAll_nil r0
  obtain rfl : args = #[v0] := by cases args; simp_all
  obtain ⟨rfl, rfl⟩ := trodVars_none hV
  obtain ⟨a0, len0, cap0, rfl⟩ := okWide_slice Try.underlying22 (hval 0 22 v0 rfl rfl)
  have k0 := h0
  have lt0 : ∀ x ∈ p0, x.block < W.heap.size := by obtain ⟨m, hm⟩ := k0; exact DataW.trod_lt m _ _ _ hm
  obtain ⟨xs0, w0, m0⟩ : ∃ xs, Trace W W.heap.size a0 len0 xs ∧ len0 ≤ maxLen := by
    obtain ⟨fuel, hf⟩ := h0
    obtain ⟨A, n, c, xs, hcs, h1, h2, h3⟩ := open_trace hf
    simp [Value.cells] at hcs
    obtain ⟨rfl, rfl, rfl⟩ := hcs
    exact ⟨xs, h3, by omega⟩
  clear hA0 hval0
  refine (counts_walk a0 len0 cap0 xs0 W w0 m0).mono fun e W' ⟨he, bel⟩ => ?_
  subst he
  exact ⟨_, rfl, _, _, _, [], _, [], hW', trodAll_mk1 (shut_bool Try.underlying4 _), (trodAll_cons_mk (Below.trod laidOut (by kernel_rfl) (of_decide_eq_true (by kernel_rfl)) k0 bel lt0) trodAll_mk0), rfl, bel.frame _, fun h => by cases h⟩
theorem profileCounts_holds : Rows.ProfileCountsSaid :=
  OpenClaim.holds_of_wide 3 Try.f3 rfl rfl rfl rfl rfl rfl rfl ⟨rfl, rfl, rfl, rfl, rfl⟩ rfl rfl rfl rfl rfl (by kernel_rfl) Try.func3 (by kernel_rfl)
    (of_decide_eq_true (by kernel_rfl)) (by unfold Func.isWrapper; first | (rw [if_pos (by decide +kernel)]; kernel_rfl) | (rw [if_neg (by decide +kernel)]; exact ⟨rfl, rfl⟩))
    (fun os started H enc _ => profileCounts_lifted os started H enc)

#print axioms profileCounts_holds
end Go.Proofs.Ytghjhlenkgkelaa
