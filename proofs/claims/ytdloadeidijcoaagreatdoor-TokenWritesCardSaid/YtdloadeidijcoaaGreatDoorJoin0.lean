/- DERIVED. Joined tokens, one more at the end. -/
import Derived.Test.YtdloadeidijcoaaGreatDoorSpecAll
set_option linter.unusedSimpArgs false
set_option linter.unusedVariables false
namespace Go.Proofs.YtdloadeidijcoaaGreatDoor

/-- what stands ahead of token b behind the tokens l -/
def gapJ (l : List Tok) (b : Tok) : List UInt8 := match l.getLast? with | none => [] | some a => if apartB a b then [32] else []
theorem joinL_snoc (b : Tok) : ∀ (l : List Tok), joinL (l ++ [b]) = joinL l ++ (gapJ l b ++ writeL b)
  | [] => by simp [joinL, gapJ]
  | [a] => by simp [joinL, gapJ]
  | a :: c :: r => by
    have ih := joinL_snoc b (c :: r)
    rw [List.cons_append, List.cons_append, joinL, ← List.cons_append, ih, joinL]
    have : gapJ (a :: c :: r) b = gapJ (c :: r) b := by simp [gapJ]
    rw [this]
    simp [List.append_assoc]
theorem gapJ_len (l : List Tok) (b : Tok) : (gapJ l b).length ≤ 1 := by
  unfold gapJ
  split
  · simp
  · split <;> simp
theorem joinL_take (l : List Tok) (i : Nat) (x : Tok) (h : l[i]? = some x) : joinL (l.take (i + 1)) = joinL (l.take i) ++ (gapJ (l.take i) x ++ writeL x) := by
  rw [List.take_add_one, h]; exact joinL_snoc x (l.take i)
theorem joinL_mono (l : List Tok) : ∀ (k i : Nat), i + k = l.length → (joinL (l.take i)).length ≤ (joinL l).length
  | 0, i, h => by rw [List.take_of_length_le (by omega)]; exact Nat.le_refl _
  | k + 1, i, h => by
    have ih := joinL_mono l k (i + 1) (by omega)
    obtain ⟨x, hx⟩ : ∃ x, l[i]? = some x := ⟨l[i]'(by omega), List.getElem?_eq_getElem (by omega)⟩
    rw [joinL_take l i x hx, List.length_append] at ih
    omega
theorem gapJ_none (x : Tok) : gapJ [] x = [] := rfl
theorem gapJ_some (l : List Tok) (i : Nat) (a x : Tok) (h : l[i]? = some a) : gapJ (l.take (i + 1)) x = if apartB a x then [32] else [] := by
  unfold gapJ
  rw [List.take_add_one, h]
  simp
/-- equal but for places -/
theorem alike_put {xs ys : List Tok} (h : xs.map (·.put 0) = ys.map (·.put 0)) : xs.length = ys.length ∧ ∀ (i : Nat) (x y : Tok), xs[i]? = some x → ys[i]? = some y → x.kind = y.kind ∧ x.text = y.text ∧ x.value = y.value := by
  refine ⟨by have := congrArg List.length h; simpa using this, fun i x y hx hy => ?_⟩
  have e := congrArg (·[i]?) h
  simp only [List.getElem?_map, hx, hy, Option.map_some] at e
  have e := Option.some.inj e
  obtain ⟨a, b, c, d⟩ := x
  obtain ⟨a', b', c', d'⟩ := y
  simp only [Tok.put, Tok.mk.injEq] at e
  exact ⟨e.1, e.2.1, e.2.2.1⟩
end Go.Proofs.YtdloadeidijcoaaGreatDoor
