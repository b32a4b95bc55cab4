/- Homes and Moved of any trace, of at most 100 accesses or of too many, and of any homes are what the reference tells: for every trace and all homes. -/
import Derived.Test.YtghjhlenkgkelaaMvLaw
import Derived.Test.YtghjhlenkgkelaaOpenB
import Derived.WalkKit
import Derived.ProofKit
import Derived.OpenShut
import Derived.ChangeOld
import Derived.Below
set_option linter.unusedSimpArgs false
set_option linter.unusedVariables false
namespace Go.Proofs.Ytghjhlenkgkelaa
open Go.ChangeShapes Go.WideShapes Go.ChangeAt Go.RowKit

theorem hoOut_len (xs : List Acc) : (hoOut xs).length ≤ xs.length := by
  unfold hoOut; split
  · rw [List.length_map]; unfold refH; rw [List.length_map]; exact refS_len xs
  · simp
theorem mvOut_len (xs : List Acc) (hs : List Int) : (mvOut xs hs).length ≤ xs.length := by
  unfold mvOut; split
  · simp
  · simp
theorem moves_walk (A : Option Addr) (n c : Nat) (xs : List Acc) (AH : Option Addr) (m mc : Nat) (hs : List Int) (w : World) (hr : Trace w w.heap.size A n xs) (hn : n ≤ maxLen) (hh : Sl w (fun b : Int => .int .i64 b) AH m hs) (hm : m ≤ maxLen) (_hb : ∀ b ∈ hs, (Lit.int .i64 b).wf = true) :
    Calls Try.prog 7 #[.slice A n c, .slice AH m mc] w (True1 w) := by
  unfold maxLen at hn hm
  by_cases h1 : (n : Int) ≤ 100 ∨ (5000 < n ∧ n ≤ 5002)
  · by_cases h2 : m ≤ 120
    · by_cases h3 : n ≤ 5000
      · have hT := fun (W : World) (hb : Below w.heap.size w W) => (hr.below hb (Nat.le_refl _)).mono hb.size
        have hx : xs.length ≤ 5000 := by have := hr.len; omega
        exact mlaw_core A AH n c m mc w (by omega) h1 h2 (givenL xs) (hoOut xs) (mvErr xs) (mvOut xs) (Nat.le_trans (hoOut_len xs) hx) (fun hs => Nat.le_trans (mvOut_len xs hs) hx) hs hh
          (fun W hb => Homes_all A n c xs W h3 (hT W hb)) (fun W hb => rHomes_all A n c xs W h3 (hT W hb))
          (fun W hb AH m ch hs hs' hm' => Moved_all A AH n c m ch xs hs W h3 (hT W hb) hs' (by omega))
          (fun W hb AH m ch hs hs' hm' => rMoved_all A AH n c m ch xs hs W h3 (hT W hb) hs' (by omega))
      · have h3' : 5000 < n := by omega
        exact mlaw_core A AH n c m mc w (by omega) h1 h2 5 [] (fun _ => 5) (fun _ => []) (by simp) (fun hs => by simp) hs hh
          (fun W hb => (Homes_many A n c W h3' (by omega)).mono (by rintro e w' ⟨rfl, hb⟩; exact ⟨_, rfl, World.ownsRow_nil _ _ _ _, hb⟩))
          (fun W hb => (rHomes_many A n c W h3' (by omega)).mono (by rintro e w' ⟨rfl, hb⟩; exact ⟨_, rfl, World.ownsRow_nil _ _ _ _, hb⟩))
          (fun W hb AH m ch hs hs' hm' => (Moved_many A AH n c m ch W h3' (by omega)).mono (by rintro e w' ⟨rfl, hb⟩; exact ⟨_, rfl, World.ownsRow_nil _ _ _ _, hb⟩))
          (fun W hb AH m ch hs hs' hm' => (rMoved_many A AH n c m ch W h3' (by omega)).mono (by rintro e w' ⟨rfl, hb⟩; exact ⟨_, rfl, World.ownsRow_nil _ _ _ _, hb⟩))
    · exact mlaw_out A AH n c m mc w (by omega) (by omega) (.inr (by omega))
  · exact mlaw_out A AH n c m mc w (by omega) (by omega) (.inl h1)
theorem own : ownKnob Try.prog.godebug = none := by kernel_rfl
theorem laidOut : laidOutB Try.prog = true := by kernel_rfl
set_option maxRecDepth 100000 in
theorem profileMoves_lifted (os : Os) (started : os.Started) (H : Type) (enc : TypeId × Value → H) :
    ReturnsInHanded {} Try.checked os 7 .any (Rows.profileMovesSpec.pre6 enc Try.prog Try.f7 Rows.profileMovesRow.domain false) (Rows.profileMovesSpec.post enc Try.prog Try.f7 false true false false) := by
  refine returnsInHanded_of_change (C := Try.checked) own started (by kernel_rfl) Try.func7
    (ChangeSpec.witness6 (enc := enc) (C := Try.checked) false ⟨#[], #[.slice none 0 0, .slice none 0 0], []⟩ 8 (by kernel_rfl) (by kernel_rfl) (by kernel_rfl) (by kernel_rfl)) ?_
  intro W base args ds gs before hval0 hW hcnd _
  have hval : ∀ (j : Nat) t v, Try.f7.params[j]? = some t → args[j]? = some v → Value.okWide Try.prog W .any base t v := hval0
  have hW' := hW
  obtain ⟨p, q, hA0, hV, rfl, hfz, hnd⟩ := hW
  have hA : DataW.TrodAll enc Try.prog W 0 (fun _ => true) true Try.f7.params.toList args.toList ds p := hA0
  rw [Try.params7] at hA hval
  obtain ⟨v0, vs0, d0, ds0, p0, q0, hargs, rfl, rfl, h0, r0⟩ := trodAll_cons hA
  obtain ⟨v1, vs1, d1, ds1, p1, q1, rfl, rfl, rfl, h1, r1⟩ := trodAll_cons r0
  obtain ⟨rfl, rfl, rfl⟩ := trodAll_nil r1
  obtain rfl : args = #[v0, v1] := by cases args; simp_all
  obtain ⟨rfl, rfl⟩ := trodVars_none hV
  obtain ⟨a0, len0, cap0, rfl⟩ := okWide_slice Try.underlying22 (hval 0 22 v0 rfl rfl)
  have k0 := h0
  have lt0 : ∀ x ∈ p0, x.block < W.heap.size := by obtain ⟨m, hm⟩ := k0; exact DataW.trod_lt m _ _ _ hm
  obtain ⟨xs0, w0, m0⟩ : ∃ xs, Trace W W.heap.size a0 len0 xs ∧ len0 ≤ maxLen := by
    obtain ⟨fuel, hf⟩ := h0
    obtain ⟨A, n, c, xs, hcs, h1, h2, h3⟩ := open_trace hf
    simp [Value.cells] at hcs
    obtain ⟨rfl, rfl, rfl⟩ := hcs
    exact ⟨xs, h3, by omega⟩
  obtain ⟨a1, len1, cap1, rfl⟩ := okWide_slice Try.underlying44 (hval 1 44 v1 rfl rfl)
  have k1 := h1
  have lt1 : ∀ x ∈ p1, x.block < W.heap.size := by obtain ⟨m, hm⟩ := k1; exact DataW.trod_lt m _ _ _ hm
  obtain ⟨bs1, w1, m1, f1⟩ : ∃ bs, Sl W (fun b : Int => .int .i64 b) a1 len1 bs ∧ len1 ≤ maxLen ∧ ∀ b ∈ bs, (Lit.int .i64 b).wf = true := by
    obtain ⟨fuel, hf⟩ := h1
    obtain ⟨A, n, c, bs, hcs, h1, h2, h3⟩ := open_nums Try.underlying44 Try.underlying3 (by kernel_rfl) hf
    simp [Value.cells] at hcs
    obtain ⟨rfl, rfl, rfl⟩ := hcs
    exact ⟨bs, h2, h1, h3⟩
  clear hA0 hval0
  refine (moves_walk a0 len0 cap0 xs0 a1 len1 cap1 bs1 W w0 m0 w1 m1 f1).mono fun e W' ⟨he, bel⟩ => ?_
  subst he
  exact ⟨_, rfl, _, _, _, [], _, [], hW', trodAll_mk1 (shut_bool Try.underlying4 _), (trodAll_cons_mk (Below.trod laidOut (by kernel_rfl) (of_decide_eq_true (by kernel_rfl)) k0 bel lt0) (trodAll_cons_mk (Below.trod laidOut (by kernel_rfl) (of_decide_eq_true (by kernel_rfl)) k1 bel lt1) trodAll_mk0)), rfl, bel.frame _, fun h => by cases h⟩
theorem profileMoves_holds : Rows.ProfileMovesSaid :=
  OpenClaim.holds_of_wide 7 Try.f7 rfl rfl rfl rfl rfl rfl rfl ⟨rfl, rfl, rfl, rfl, rfl⟩ rfl rfl rfl rfl rfl (by kernel_rfl) Try.func7 (by kernel_rfl)
    (of_decide_eq_true (by kernel_rfl)) (by unfold Func.isWrapper; first | (rw [if_pos (by decide +kernel)]; kernel_rfl) | (rw [if_neg (by decide +kernel)]; exact ⟨rfl, rfl⟩))
    (fun os started H enc _ => profileMoves_lifted os started H enc)

#print axioms profileMoves_holds
end Go.Proofs.Ytghjhlenkgkelaa
