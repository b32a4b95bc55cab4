/- With the homes that Homes tells a trace has at most as many remote accesses as with any other homes: for every trace and all other homes. -/
import Derived.Test.YtghjhlenkgkelaaHLaw
import Derived.Test.YtghjhlenkgkelaaOpenB
import Derived.WalkKit
import Derived.ProofKit
import Derived.OpenShut
import Derived.ChangeOld
import Derived.Below
set_option linter.unusedSimpArgs false
set_option linter.unusedVariables false
namespace Go.Proofs.Ytghjhlenkgkelaa
open Go.ChangeShapes Go.WideShapes Go.ChangeAt Go.RowKit

theorem homes_walk (A : Option Addr) (n c : Nat) (xs : List Acc) (AO : Option Addr) (m mc : Nat) (bs : List Int) (w : World) (hr : Trace w w.heap.size A n xs) (hm : n ≤ maxLen) (hO : Sl w (fun b : Int => .int .u8 b) AO m bs) (hmm : m ≤ maxLen) (hb : ∀ b ∈ bs, (Lit.int .u8 b).wf = true) :
    Calls Try.prog 8 #[.slice A n c, .slice AO m mc] w (True1 w) := by
  unfold maxLen at hm hmm
  by_cases hn : 150 < n
  · exact hlaw_big A AO n c m mc w hn (by omega)
  · by_cases hg : givenL xs = 0
    · refine hlaw_ok A AO n c m mc xs bs w (by omega) hr hg hO (fun b hb' => ?_) (by omega)
      have := hb b hb'
      have h8 : IntKind.u8.min ≤ b ∧ b ≤ IntKind.u8.max := by simpa [Lit.wf] using this
      have e1 : IntKind.u8.min = 0 := rfl
      have e2 : IntKind.u8.max = 255 := rfl
      omega
    · exact hlaw_err A AO n c m mc xs w (by omega) hr hg
theorem own : ownKnob Try.prog.godebug = none := by kernel_rfl
theorem laidOut : laidOutB Try.prog = true := by kernel_rfl
set_option maxRecDepth 100000 in
theorem profileHomes_lifted (os : Os) (started : os.Started) (H : Type) (enc : TypeId × Value → H) :
    ReturnsInHanded {} Try.checked os 8 .any (Rows.profileHomesSpec.pre6 enc Try.prog Try.f8 Rows.profileHomesRow.domain false) (Rows.profileHomesSpec.post enc Try.prog Try.f8 false true false false) := by
  refine returnsInHanded_of_change (C := Try.checked) own started (by kernel_rfl) Try.func8
    (ChangeSpec.witness6 (enc := enc) (C := Try.checked) false ⟨#[], #[.slice none 0 0, .slice none 0 0], []⟩ 8 (by kernel_rfl) (by kernel_rfl) (by kernel_rfl) (by kernel_rfl)) ?_
  intro W base args ds gs before hval0 hW hcnd _
  have hval : ∀ (j : Nat) t v, Try.f8.params[j]? = some t → args[j]? = some v → Value.okWide Try.prog W .any base t v := hval0
  have hW' := hW
  obtain ⟨p, q, hA0, hV, rfl, hfz, hnd⟩ := hW
  have hA : DataW.TrodAll enc Try.prog W 0 (fun _ => true) true Try.f8.params.toList args.toList ds p := hA0
  rw [Try.params8] at hA hval
  obtain ⟨v0, vs0, d0, ds0, p0, q0, hargs, rfl, rfl, h0, r0⟩ := trodAll_cons hA
  obtain ⟨v1, vs1, d1, ds1, p1, q1, rfl, rfl, rfl, h1, r1⟩ := trodAll_cons r0
  obtain ⟨rfl, rfl, rfl⟩ := trodAll_nil r1
  obtain rfl : args = #[v0, v1] := by cases args; simp_all
  obtain ⟨rfl, rfl⟩ := trodVars_none hV
  obtain ⟨a0, len0, cap0, rfl⟩ := okWide_slice Try.underlying22 (hval 0 22 v0 rfl rfl)
  have k0 := h0
  have lt0 : ∀ x ∈ p0, x.block < W.heap.size := by obtain ⟨m, hm⟩ := k0; exact DataW.trod_lt m _ _ _ hm
  obtain ⟨xs0, w0, m0⟩ : ∃ xs, Trace W W.heap.size a0 len0 xs ∧ len0 ≤ maxLen := by
    obtain ⟨fuel, hf⟩ := h0
    obtain ⟨A, n, c, xs, hcs, h1, h2, h3⟩ := open_trace hf
    simp [Value.cells] at hcs
    obtain ⟨rfl, rfl, rfl⟩ := hcs
    exact ⟨xs, h3, by omega⟩
  obtain ⟨a1, len1, cap1, rfl⟩ := okWide_slice Try.underlying65 (hval 1 65 v1 rfl rfl)
  have k1 := h1
  have lt1 : ∀ x ∈ p1, x.block < W.heap.size := by obtain ⟨m, hm⟩ := k1; exact DataW.trod_lt m _ _ _ hm
  obtain ⟨bs1, w1, m1, f1⟩ : ∃ bs, Sl W (fun b : Int => .int .u8 b) a1 len1 bs ∧ len1 ≤ maxLen ∧ ∀ b ∈ bs, (Lit.int .u8 b).wf = true := by
    obtain ⟨fuel, hf⟩ := h1
    obtain ⟨A, n, c, bs, hcs, h1, h2, h3⟩ := open_nums Try.underlying65 Try.underlying5 (by kernel_rfl) hf
    simp [Value.cells] at hcs
    obtain ⟨rfl, rfl, rfl⟩ := hcs
    exact ⟨bs, h2, h1, h3⟩
  clear hA0 hval0
  refine (homes_walk a0 len0 cap0 xs0 a1 len1 cap1 bs1 W w0 m0 w1 m1 f1).mono fun e W' ⟨he, bel⟩ => ?_
  subst he
  exact ⟨_, rfl, _, _, _, [], _, [], hW', trodAll_mk1 (shut_bool Try.underlying4 _), (trodAll_cons_mk (Below.trod laidOut (by kernel_rfl) (of_decide_eq_true (by kernel_rfl)) k0 bel lt0) (trodAll_cons_mk (Below.trod laidOut (by kernel_rfl) (of_decide_eq_true (by kernel_rfl)) k1 bel lt1) trodAll_mk0)), rfl, bel.frame _, fun h => by cases h⟩
theorem profileHomes_holds : Rows.ProfileHomesSaid :=
  OpenClaim.holds_of_wide 8 Try.f8 rfl rfl rfl rfl rfl rfl rfl ⟨rfl, rfl, rfl, rfl, rfl⟩ rfl rfl rfl rfl rfl (by kernel_rfl) Try.func8 (by kernel_rfl)
    (of_decide_eq_true (by kernel_rfl)) (by unfold Func.isWrapper; first | (rw [if_pos (by decide +kernel)]; kernel_rfl) | (rw [if_neg (by decide +kernel)]; exact ⟨rfl, rfl⟩))
    (fun os started H enc _ => profileHomes_lifted os started H enc)

#print axioms profileHomes_holds
end Go.Proofs.Ytghjhlenkgkelaa
