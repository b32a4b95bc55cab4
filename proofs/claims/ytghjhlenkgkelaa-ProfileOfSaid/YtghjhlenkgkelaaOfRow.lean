/- Of and Groups of any trace, of at most 200 accesses or of too many, and of any model are what the reference tells: for every trace and every model. -/
import Derived.Test.YtghjhlenkgkelaaOfLaw
import Derived.Test.YtghjhlenkgkelaaOpen
import Derived.WalkKit
import Derived.ProofKit
import Derived.OpenShut
import Derived.ChangeOld
import Derived.Below
set_option linter.unusedSimpArgs false
set_option linter.unusedVariables false
namespace Go.Proofs.Ytghjhlenkgkelaa
open Go.ChangeShapes Go.WideShapes Go.ChangeAt Go.RowKit

/-- whether Of tells a profile -/
def ofOk (xs : List Acc) (mm me : Nat) : Bool := decide (givenL xs = 0) && (priceB mm && priceB me)
def ofErr (xs : List Acc) : Int := if givenL xs = 0 then 1 else givenL xs
def ofE (xs : List Acc) : List Edg := edgN (cA xs) (cG (gsR xs)) 64
theorem of_cost (xs : List Acc) (mm me : Nat) (hn : xs.length ≤ 300) (hg : givenL xs = 0) (h1 : priceB mm = true) (h2 : priceB me = true) (es : List Edg) (he : IsEdges xs es) : (costF mm me es 0).isSome = true := by
  obtain ⟨_, h⟩ := edges_facts he hn
  exact cost_some (price_fin h1) (price_fin h2) es 0 (by decide +kernel) (fun y hy => by have := h y hy; omega)
instance (x y : K2) : Decidable (lt2 x y) := by unfold lt2; exact inferInstance
theorem ofE_is {xs : List Acc} (hg : givenL xs = 0) : IsEdges xs (ofE xs) := by
  have h2 : ∀ a b : K2, (decide (¬ lt2 b a) || decide (¬ lt2 a b)) = true := fun a b => by
    simp only [Bool.or_eq_true, decide_eq_true_eq]
    unfold lt2; omega
  have h3 : ∀ a b c : K2, decide (¬ lt2 b a) = true → decide (¬ lt2 c b) = true → decide (¬ lt2 c a) = true := fun a b c => by
    simp only [decide_eq_true_eq]
    unfold lt2; omega
  have hs : IsEdges xs ((((edgesR xs).map (·.1)).mergeSort (fun a b => decide (¬ lt2 b a))).map (fun x => (look (edgesR xs) x).getD ⟨0, 0, 0, 0⟩)) :=
    ⟨_, List.mergeSort_perm _ _, (List.pairwise_mergeSort h3 h2 _).imp (fun h => by simpa using h), rfl⟩
  have e := edges_ref (valid_of hg) hs
  rw [e] at hs
  exact hs
theorem of_walk (A : Option Addr) (n c : Nat) (xs : List Acc) (mm me : Nat) (w : World) (hr : Trace w w.heap.size A n xs) (hn : n ≤ maxLen) :
    Calls Try.prog 5 #[.slice A n c, .agg #[.float .f32 mm, .float .f32 me]] w (True1 w) := by
  unfold maxLen at hn
  by_cases h1 : (n : Int) ≤ 200 ∨ (5000 < n ∧ n ≤ 5002)
  · by_cases h3 : n ≤ 5000
    · have h200 : n ≤ 200 := by omega
      have hT := fun (W : World) (hb : Below w.heap.size w W) => (hr.below hb (Nat.le_refl _)).mono hb.size
      have hx : xs.length ≤ 200 := by have := hr.len; omega
      have hgl : ((if givenL xs = 0 then (runR xs xs.length).map (·.1.mem) else []) : List (List Nat)).length ≤ 10000 := by
        split
        · rw [List.length_map]; have := (inv_run xs xs.length (Nat.le_refl _)).len; omega
        · simp
      have hgm : ∀ l ∈ ((if givenL xs = 0 then (runR xs xs.length).map (·.1.mem) else []) : List (List Nat)), l.length ≤ 10000 := by
        intro l hl
        split at hl
        · obtain ⟨p, hp, rfl⟩ := List.mem_map.1 hl
          have := (inv_run xs xs.length (Nat.le_refl _)).le64 p hp; omega
        · cases hl
      have hG1 := fun W hb => (Groups_any A n c xs W h3 (hT W hb)).mono (fun e w' (h : _) => by
        obtain ⟨v, rfl, h2, h3⟩ := h
        exact grp_c h2 h3)
      have hG2 := fun W hb => (rGroups_any A n c xs W h3 (hT W hb)).mono (fun e w' (h : _) => by
        obtain ⟨v, rfl, h2, h3⟩ := h
        exact grp_c h2 h3)
      by_cases hg : givenL xs = 0
      · have hsl : (refS xs).length ≤ 10000 := by have := refS_len xs; omega
        have hel : (ofE xs).length ≤ 10000 := by have := edgN_len (cA xs) (cG (gsR xs)) 64; unfold ofE; omega
        cases hp : (priceB mm && priceB me) with
        | true =>
          obtain ⟨p1, p2⟩ : priceB mm = true ∧ priceB me = true := by simpa using hp
          have hco := of_cost xs mm me (by omega) hg p1 p2
          obtain ⟨cst, hcst⟩ := Option.isSome_iff_exists.1 (hco _ (ofE_is hg))
          refine oflaw_core A n c mm me w (by omega) h1 0 _ (ofE xs) (refS xs) cst _ hel hsl hgl hgm (fun W hb => ?_) (fun W hb => ?_) hG1 hG2
          · refine (Of_any A n c mm me xs W h3 (hT W hb) hg p1 p2 hco).mono ?_
            rintro e w' ⟨es, sl, ve, vs, cst', q1, q2, q3, rfl, q4, q5, q6⟩
            obtain rfl := edges_ref (valid_of hg) q1
            obtain rfl := spots_ref q2
            have e1 : cst' = cst := by
              have e2 : costF mm me (ofE xs) 0 = some cst' := q3
              rw [hcst] at e2; injection e2 with e2; exact e2.symm
            subst e1
            exact ⟨ve, vs, rfl, q4, q5, q6⟩
          · refine (rOf_any A n c mm me xs W h3 (hT W hb) hg p1 p2 (hco _ (ofE_is hg))).mono ?_
            rintro e w' ⟨ve, vs, cst', q3, rfl, q4, q5, q6⟩
            have e1 : cst' = cst := by
              have e2 : costF mm me (ofE xs) 0 = some cst' := q3
              rw [hcst] at e2; injection e2 with e2; exact e2.symm
            subst e1
            exact ⟨ve, vs, rfl, q4, q5, q6⟩
        | false =>
          refine oflaw_core A n c mm me w (by omega) h1 1 _ [] [] 0 _ (by simp) (by simp) hgl hgm (fun W hb => ?_) (fun W hb => ?_) hG1 hG2
          · refine (Ofp_price A n c mm me xs W h3 (hT W hb) hg hp).mono ?_
            rintro e w' ⟨rfl, q⟩
            exact ⟨_, _, rfl, World.ownsRow_nil _ _ _ _, World.ownsRow_nil _ _ _ _, q⟩
          · refine (rOf_price A n c mm me xs W h3 (hT W hb) hg hp).mono ?_
            rintro e w' ⟨rfl, q⟩
            exact ⟨_, _, rfl, World.ownsRow_nil _ _ _ _, World.ownsRow_nil _ _ _ _, q⟩
      · refine oflaw_core A n c mm me w (by omega) h1 (givenL xs) _ [] [] 0 _ (by simp) (by simp) hgl hgm (fun W hb => ?_) (fun W hb => ?_) hG1 hG2
        · refine (Ofp_err A n c mm me xs W h3 (hT W hb) hg).mono ?_
          rintro e w' ⟨rfl, q⟩
          exact ⟨_, _, rfl, World.ownsRow_nil _ _ _ _, World.ownsRow_nil _ _ _ _, q⟩
        · refine (rOf_err A n c mm me xs W h3 (hT W hb) hg).mono ?_
          rintro e w' ⟨rfl, q⟩
          exact ⟨_, _, rfl, World.ownsRow_nil _ _ _ _, World.ownsRow_nil _ _ _ _, q⟩
    · have h3' : 5000 < n := by omega
      refine oflaw_core A n c mm me w (by omega) h1 5 5 [] [] 0 [] (by simp) (by simp) (by simp) (by simp) (fun W hb => ?_) (fun W hb => ?_) (fun W hb => ?_) (fun W hb => ?_)
      · refine (Ofp_many A n c mm me W h3' (by omega)).mono ?_
        rintro e w' ⟨rfl, q⟩
        exact ⟨_, _, rfl, World.ownsRow_nil _ _ _ _, World.ownsRow_nil _ _ _ _, q⟩
      · refine (rOf_many A n c mm me W h3' (by omega)).mono ?_
        rintro e w' ⟨rfl, q⟩
        exact ⟨_, _, rfl, World.ownsRow_nil _ _ _ _, World.ownsRow_nil _ _ _ _, q⟩
      · refine (Groups_many A n c W h3' (by omega)).mono ?_
        rintro e w' ⟨rfl, q⟩
        exact ⟨_, [], rfl, World.ownsRow_nil _ _ _ _, ⟨rfl, by simp⟩, q⟩
      · refine (rGroups_many A n c W h3' (by omega)).mono ?_
        rintro e w' ⟨rfl, q⟩
        exact ⟨_, [], rfl, World.ownsRow_nil _ _ _ _, ⟨rfl, by simp⟩, q⟩
  · exact oflaw_out A n c mm me w (by omega) h1
section
variable {H : Type} {enc : TypeId × Value → H} {w : World} {base : Nat} {spare : Nat → Bool} {held : Bool}
theorem trod_float {t : TypeId} {k : FloatKind} {fuel : Nat} {cs : List Value} {x : DataW H × List MemPlace} (ht : Try.prog.underlying t = some (.float k)) (h : DataW.trod enc Try.prog w base spare held fuel t cs = some x) : ∃ b, cs = [.float k b] := by
  cases fuel with
  | zero => simp [DataW.trod] at h
  | succ n =>
    unfold DataW.trod at h
    rw [ht] at h
    split at h <;> simp_all
theorem some_underlying_model : ∃ f0 f1 : Field, Try.prog.underlying 47 = some (.struct #[f0, f1]) ∧ f0.type = 26 ∧ f1.type = 26 ∧ f0.offset = 0 ∧ f1.offset = 1 := by
  refine ⟨_, _, Try.underlying47, ?_⟩
  exact ⟨rfl, rfl, rfl, rfl⟩
set_option maxRecDepth 100000 in
theorem open_model {fuel : Nat} {cs : List Value} {x : DataW H × List MemPlace} (h : DataW.trod enc Try.prog w base spare held fuel 47 cs = some x) : ∃ mm me : Nat, cs = [.float .f32 mm, .float .f32 me] := by
  obtain ⟨f0, f1, hu, t0, t1, o0, o1⟩ := some_underlying_model
  obtain ⟨ys, n, _, _, hlen, hyl, hf⟩ := DataW.trod_struct hu h
  have hC : Try.prog.cellsOf 47 = 2 := by kernel_rfl
  have hI : Try.prog.cellsOf 26 = 1 := by kernel_rfl
  rw [hC] at hlen
  match cs, hlen with
  | [c0, c1], _ =>
    match ys, hyl with
    | [y0, y1], _ =>
      have g0 := hf 0 f0 rfl
      have g1 := hf 1 f1 rfl
      rw [t0, o0, hI] at g0; rw [t1, o1, hI] at g1
      simp only [List.drop_zero, List.drop_succ_cons, List.take_succ_cons, List.take_zero, List.getElem?_cons_zero, List.getElem?_cons_succ] at g0 g1
      obtain ⟨n0, e0⟩ := trod_float Try.underlying26 g0
      obtain ⟨n1, e1⟩ := trod_float Try.underlying26 g1
      simp only [List.cons.injEq, and_true] at e0 e1
      exact ⟨n0, n1, by rw [e0, e1]⟩
end
theorem own : ownKnob Try.prog.godebug = none := by kernel_rfl
theorem laidOut : laidOutB Try.prog = true := by kernel_rfl
set_option maxRecDepth 100000 in
theorem profileOf_lifted (os : Os) (started : os.Started) (H : Type) (enc : TypeId × Value → H) :
    ReturnsInHanded {} Try.checked os 5 .any (Rows.profileOfSpec.pre6 enc Try.prog Try.f5 Rows.profileOfRow.domain false) (Rows.profileOfSpec.post enc Try.prog Try.f5 false true false false) := by
  refine returnsInHanded_of_change (C := Try.checked) own started (by kernel_rfl) Try.func5
    (ChangeSpec.witness6 (enc := enc) (C := Try.checked) false ⟨#[], #[.slice none 0 0, .agg #[.float .f32 0, .float .f32 0]], []⟩ 8 (by kernel_rfl) (by kernel_rfl) (by kernel_rfl) (by kernel_rfl)) ?_
  intro W base args ds gs before hval0 hW hcnd _
  have hval : ∀ (j : Nat) t v, Try.f5.params[j]? = some t → args[j]? = some v → Value.okWide Try.prog W .any base t v := hval0
  have hW' := hW
  obtain ⟨p, q, hA0, hV, rfl, hfz, hnd⟩ := hW
  have hA : DataW.TrodAll enc Try.prog W 0 (fun _ => true) true Try.f5.params.toList args.toList ds p := hA0
  rw [Try.params5] at hA hval
  obtain ⟨v0, vs0, d0, ds0, p0, q0, hargs, rfl, rfl, h0, r0⟩ := trodAll_cons hA
  obtain ⟨v1, vs1, d1, ds1, p1, q1, rfl, rfl, rfl, h1, r1⟩ := trodAll_cons r0
  obtain ⟨rfl, rfl, rfl⟩ := trodAll_nil r1
  obtain rfl : args = #[v0, v1] := by cases args; simp_all
  obtain ⟨rfl, rfl⟩ := trodVars_none hV
  obtain ⟨a0, len0, cap0, rfl⟩ := okWide_slice Try.underlying22 (hval 0 22 v0 rfl rfl)
  have k0 := h0
  have lt0 : ∀ x ∈ p0, x.block < W.heap.size := by obtain ⟨m, hm⟩ := k0; exact DataW.trod_lt m _ _ _ hm
  obtain ⟨xs0, w0, m0⟩ : ∃ xs, Trace W W.heap.size a0 len0 xs ∧ len0 ≤ maxLen := by
    obtain ⟨fuel, hf⟩ := h0
    obtain ⟨A, n, c, xs, hcs, h1, h2, h3⟩ := open_trace hf
    simp [Value.cells] at hcs
    obtain ⟨rfl, rfl, rfl⟩ := hcs
    exact ⟨xs, h3, by omega⟩
  obtain ⟨cs1, rfl, _⟩ := okWide_struct Try.underlying47 (hval 1 47 v1 rfl rfl)
  have k1 := h1
  have lt1 : ∀ x ∈ p1, x.block < W.heap.size := by obtain ⟨m, hm⟩ := k1; exact DataW.trod_lt m _ _ _ hm
  obtain ⟨mm, me, hcs1⟩ : ∃ mm me : Nat, cs1 = #[.float .f32 mm, .float .f32 me] := by
    obtain ⟨fuel, hf⟩ := h1
    obtain ⟨mm, me, hcs⟩ := open_model hf
    exact ⟨mm, me, Array.toList_inj.1 hcs⟩
  subst hcs1
  clear hA0 hval0
  refine (of_walk a0 len0 cap0 xs0 mm me W w0 m0).mono fun e W' ⟨he, bel⟩ => ?_
  subst he
  exact ⟨_, rfl, _, _, _, [], _, [], hW', trodAll_mk1 (shut_bool Try.underlying4 _), (trodAll_cons_mk (Below.trod laidOut (by kernel_rfl) (of_decide_eq_true (by kernel_rfl)) k0 bel lt0) (trodAll_cons_mk (Below.trod laidOut (by kernel_rfl) (of_decide_eq_true (by kernel_rfl)) k1 bel lt1) trodAll_mk0)), rfl, bel.frame _, fun h => by cases h⟩
theorem profileOf_holds : Rows.ProfileOfSaid :=
  OpenClaim.holds_of_wide 5 Try.f5 rfl rfl rfl rfl rfl rfl rfl ⟨rfl, rfl, rfl, rfl, rfl⟩ rfl rfl rfl rfl rfl (by kernel_rfl) Try.func5 (by kernel_rfl)
    (of_decide_eq_true (by kernel_rfl)) (by unfold Func.isWrapper; first | (rw [if_pos (by decide +kernel)]; kernel_rfl) | (rw [if_neg (by decide +kernel)]; exact ⟨rfl, rfl⟩))
    (fun os started H enc _ => profileOf_lifted os started H enc)

#print axioms profileOf_holds
end Go.Proofs.Ytghjhlenkgkelaa
