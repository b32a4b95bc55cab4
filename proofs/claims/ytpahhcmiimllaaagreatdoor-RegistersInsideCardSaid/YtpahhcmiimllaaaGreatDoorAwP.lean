/- DERIVED. The chapter's example: plain words. -/
import Derived.Test.YtpahhcmiimllaaaGreatDoorSpecAll
import Derived.Test.YtpahhcmiimllaaaGreatDoorChk
set_option linter.unusedSimpArgs false
set_option linter.unusedVariables false
namespace Go.Proofs.YtpahhcmiimllaaaGreatDoor

theorem fix_uniq {nw : Nat} {code : List InsL} {ah be ah' be' : List (List Nat)} (h : FixL nw code ah be) (h' : FixL nw code ah' be') : ah = ah' ∧ be = be' := by
  have key : ∀ (l l' : List (List Nat)), l.length = code.length → l'.length = code.length → (∀ a ∈ l, WOK nw a) → (∀ a ∈ l', WOK nw a) → (∀ k r, memW (l.getD k []) r = memW (l'.getD k []) r) → l = l' := fun l l' hl hl' hw hw' hm => by
    refine List.ext_getElem? fun k => ?_
    rcases Nat.lt_or_ge k code.length with hk | hk
    · have h1 : l[k]? = some (l.getD k []) := by rw [List.getD_eq_getElem?_getD, List.getElem?_eq_getElem (by omega)]; rfl
      have h2 : l'[k]? = some (l'.getD k []) := by rw [List.getD_eq_getElem?_getD, List.getElem?_eq_getElem (by omega)]; rfl
      rw [h1, h2, words_ext (getD_ok hw (by omega)) (getD_ok hw' (by omega)) (hm k)]
    · rw [List.getElem?_eq_none (by omega), List.getElem?_eq_none (by omega)]
  refine ⟨key _ _ h.la h'.la h.wa h'.wa fun k r => ?_, key _ _ h.lb h'.lb h.wb h'.wb fun k r => ?_⟩
  · rw [Bool.eq_iff_iff, h.memA, h'.memA]
  · rw [Bool.eq_iff_iff, h.memB, h'.memB]
def awB : BodyL := ⟨[97], 3, 0, [⟨1, 0, 1, 0, 0, [], []⟩, ⟨1, 1, 2, 0, 0, [], []⟩, ⟨4, 2, 0, 1, 0, [43], []⟩, ⟨36, 0, 0, 0, 0, [0], [2]⟩, ⟨22, -1, 0, 0, 0, [], []⟩]⟩
def awC : CodeL := ⟨0, [awB]⟩
theorem aw_chk : chkC awC = 0 := by decide +kernel
theorem aw_few : FewC awC := by
  refine ⟨by decide, fun b hb => ?_, fun b hb x hx => ?_⟩
  · simp only [awC, List.mem_singleton] at hb; subst hb; decide
  · simp only [awC, List.mem_singleton] at hb; subst hb
    simp only [awB, List.mem_cons, List.not_mem_nil, or_false] at hx
    rcases hx with rfl | rfl | rfl | rfl | rfl <;> exact ⟨by decide, by decide⟩
def awS : LS := passL awB.code (passL awB.code (start 1 awB.code.length))
theorem aw_fix : FixL 1 awB.code awS.ah awS.be := by
  have hb : BodyRight awC awB := chk_right aw_chk (by simp [awC])
  have hco : CodeOK 1 awB.code := code_ok hb
  have h1 := pass_inv hco (start_inv 1 awB.code)
  have h2 := pass_inv hco h1.1
  exact stable_fix hco h2.1 (h2.2.2 (by decide +kernel))
theorem aw_itv {ah be : List (List Nat)} (h : FixL 1 awB.code ah be) : itvL awB.code ah be 3 = [⟨0, 0, 2⟩, ⟨1, 1, 2⟩, ⟨2, 2, 3⟩] := by
  obtain ⟨rfl, rfl⟩ := fix_uniq h aw_fix
  decide +kernel
theorem aw_plan : planOf 3 0 2 [⟨0, 0, 2⟩, ⟨1, 1, 2⟩, ⟨2, 2, 3⟩] = ⟨[0, 1, -1], [-1, -1, 0], 1⟩ := by decide +kernel
end Go.Proofs.YtpahhcmiimllaaaGreatDoor
