/- DERIVED. append of nothing, as a step of a region that draws its order; lists of spots as cells. -/
import Derived.Test.YtghjhlenkgkelaaBef
import Derived.Test.YtghjhlenkgkelaaHeld
set_option linter.unusedSimpArgs false
set_option linter.unusedVariables false
namespace Go.Proofs.Ytghjhlenkgkelaa
open Go.RowKit Go.Shelf Go.Sort

theorem run_append_none {P : Program} (w : World) (t ty e : TypeId) (ti : TypeInfo) (ht : P.underlying t = some (.slice e)) (hi : P.info? e = some ti) (A : Option Addr) (n c : Nat) (hn : n ≤ c) :
    (Builtin.append_ #[t, t] ty #[.slice A n c, .slice none 0 0]).run P w = .ok (.slice A n c) w := by
  cases A with
  | none => simp [Builtin.append_, run_underlying ht, sizeOf, typeInfo, hi, Builtin.lenOf, Builtin.firstCells, loadCells, loadCellsFrom, hn]
  | some a => simp [Builtin.append_, run_underlying ht, sizeOf, typeInfo, hi, Builtin.lenOf, Builtin.firstCells, loadCells, loadCellsFrom, hn, storeCells]
theorem ready_append0 {P : Program} {md : Region.Mode} {ops : Array Oper} {Q : Exit → Act → World → Prop} {S : World → Prop} {fuel : Nat} {listed : Array Bool} {a : Act} {w : World} {i : Nat} {rs : List Nat} {o : Oper} {tl : List Oper} (ho : ops.toList.drop i = o :: tl)
    (hgd : o.guard = none) (s x : Operand) (t : TypeId)
    (hop : o.op = .call { callee := .builtin .append, args := #[s, x], argTypes := #[t, t] })
    (e : TypeId) (ti : TypeInfo) (ht : P.underlying t = some (.slice e)) (hi : P.info? e = some ti)
    (A : Option Addr) (n c : Nat) (hn : n ≤ c) (hsv : a.eval s = .slice A n c) (hx : a.eval x = .slice none 0 0)
    (h : S w ∧ (S w → wpAnyH P md ops Q S fuel (listed.setIfInBounds i true) (a.put o.dst (.slice A n c)) w))
    (hs : AllReadyH P md ops Q S fuel listed a w rs) : AllReadyH P md ops Q S fuel listed a w (i :: rs) :=
  AllReadyH.cons (at_of_drop ho) (fun K hK => by
    have hw : Region.wanted o (yielded ops a.tmps) = true := by simp [Region.wanted, hgd]
    rw [if_pos hw]
    have hrun := run_append_none (P := P) w t o.type e ti ht hi A n c hn
    unfold Oper.wp execOp
    simp only [hop, resolve, invoke, builtin, Sem.run_bind, Sem.run_pure, Result.andThen_ok, List.map_toArray, List.map_cons, List.map_nil, hsv, hx, hrun]
    exact hK.out _ _ h.1 h.2) hs

theorem spt_len (l : List Spt) : (l.flatMap encSL).length = l.length * 7 := flat_len (enc := encSL) (k := 7) (fun _ => rfl) l
theorem spt_one (l : List Spt) : ∀ u ∈ l.flatMap encSL, u.oneCell' = true := by
  intro u hu
  obtain ⟨s, _, h⟩ := List.mem_flatMap.1 hu
  simp [encSL] at h
  rcases h with rfl | rfl | rfl | rfl | rfl | rfl | rfl <;> rfl
theorem spt_take {sl : List Spt} {j i : Nat} {u : Value} (h : ((sl.take j).flatMap encSL)[i]? = some u) : (sl.flatMap encSL)[i]? = some u := by
  conv => lhs; rw [← List.take_append_drop j sl, List.flatMap_append]
  rw [List.getElem?_append_left (List.getElem?_eq_some_iff.1 h).1]; exact h
theorem spt_drop {sl : List Spt} {j i : Nat} {u : Value} (hj : j ≤ sl.length) (h : ((sl.drop j).flatMap encSL)[i]? = some u) : (sl.flatMap encSL)[j * 7 + i]? = some u := by
  conv => lhs; rw [← List.take_append_drop j sl, List.flatMap_append]
  have hl : ((sl.take j).flatMap encSL).length = j * 7 := by rw [spt_len, List.length_take]; congr 1; omega
  rw [List.getElem?_append_right (by omega), hl]
  rw [show j * 7 + i - j * 7 = i by omega]; exact h
theorem own_empty0 {w : World} {X base : Nat} {e : TypeId} (h : BlkAt w X e #[]) (hb : base ≤ X) (size : Nat) : w.ownsRow base e size (.slice (some ⟨X, 0, none⟩) 0 0) 0 [] :=
  ⟨by simp, .inr ⟨X, 0, #[], rfl, hb, h, Nat.le_refl _, Nat.zero_le _, by simp, by simp⟩⟩
end Go.Proofs.Ytghjhlenkgkelaa
