/- DERIVED. A region whose order is drawn: the step that is a call of a Go function, by its contract; the step that is an append. -/
import Derived.Test.YtghjhlenkgkelaaGreatDoorApp
import Derived.Deep.RegionHeldLaw
set_option linter.unusedSimpArgs false
set_option linter.unusedVariables false
namespace Go.Proofs.YtghjhlenkgkelaaGreatDoor
open Go.RowKit Go.Shelf Go.Sort
theorem step_call_at {P : Program} {w : World} {ops : Array Oper} {o : Oper} {a : Act} {K : Act → World → Prop} {Q : Exit → Act → World → Prop} {E : Prop} (hgd : o.guard = none) (f : Nat) (hen : Enters P f) (ar : List Operand) (ts : Array TypeId)
    (ho : o.op = .call { callee := .value (.func f), args := ar.toArray, argTypes := ts }) (args : List Value) (hargs : ar.map a.eval = args)
    {R : Ending → World → Prop} (hc : Calls P f args.toArray w R)
    (h : ∀ e w', R e w' → ∃ v, e = .returned v ∧ K (a.put o.dst v) w') :
    if Region.wanted o (yielded ops a.tmps) = true then Oper.wp P o a w K Q else E := by
  have hw : Region.wanted o (yielded ops a.tmps) = true := by simp [Region.wanted, hgd]
  rw [if_pos hw]
  have he : (execOp a.eval o).run P w = .ok (.enter f args.toArray) w := by
    subst hargs
    unfold execOp
    simp [ho, resolve, invoke, Act.eval, Sem.run_bind, Sem.run_pure, Deferred.ofValue, hen (List.map a.eval ar).toArray w]
  unfold Oper.wp
  rw [he]
  show Calls P f args.toArray w _
  refine hc.mono ?_
  intro e w' hr
  obtain ⟨v, rfl, hk⟩ := h e w' hr
  exact hk
theorem at_of_drop {ops : Array Oper} {i : Nat} {o : Oper} {tl : List Oper} (ho : ops.toList.drop i = o :: tl) : ops[i]? = some o := by
  have : ops.toList[i]? = some o := by rw [← List.head?_drop, ho]; rfl
  simpa using this
theorem ready_call {P : Program} {md : Region.Mode} {ops : Array Oper} {Q : Exit → Act → World → Prop} {S : World → Prop} {fuel : Nat} {listed : Array Bool} {a : Act} {w : World} {i : Nat} {rs : List Nat} {o : Oper} {tl : List Oper} (ho : ops.toList.drop i = o :: tl)
    (hgd : o.guard = none) (f : Nat) (hen : Enters P f) (ar : List Operand) (ts : Array TypeId)
    (hop : o.op = .call { callee := .value (.func f), args := ar.toArray, argTypes := ts }) (args : List Value) (hargs : ar.map a.eval = args)
    {R : Ending → World → Prop} (hc : Calls P f args.toArray w R)
    (h : ∀ e w', R e w' → ∃ v, e = .returned v ∧ S w' ∧ (S w' → wpAnyH P md ops Q S fuel (listed.setIfInBounds i true) (a.put o.dst v) w'))
    (hs : AllReadyH P md ops Q S fuel listed a w rs) : AllReadyH P md ops Q S fuel listed a w (i :: rs) :=
  AllReadyH.cons (at_of_drop ho) (fun K hK => step_call_at hgd f hen ar ts hop args hargs hc (fun e w' hr => by
    obtain ⟨v, rfl, hS, hW⟩ := h e w' hr
    exact ⟨v, rfl, hK.out _ _ hS hW⟩)) hs
theorem ready_append {P : Program} {md : Region.Mode} {ops : Array Oper} {Q : Exit → Act → World → Prop} {S : World → Prop} {fuel : Nat} {listed : Array Bool} {a : Act} {w : World} {i : Nat} {rs : List Nat} {o : Oper} {tl : List Oper} (ho : ops.toList.drop i = o :: tl)
    (hgd : o.guard = none) (s x : Operand) (t : TypeId)
    (hop : o.op = .call { callee := .builtin .append, args := #[s, x], argTypes := #[t, t] })
    (base : Nat) (e : TypeId) (ti : TypeInfo) (z : Value) (size bytes : Nat) (ht : P.underlying t = some (.slice e)) (hi : P.info? e = some ti) (hz : ti.zero = some z)
    (hsize : ti.size = size) (hby : ti.bytes = bytes) (hzs : z.cells.size = size) (hsz : 0 < size)
    (v : Value) (n : Nat) (xs : List Value) (hsv : a.eval s = v) (hown : w.ownsRow base e size v n xs)
    (ad : Addr) (m c : Nat) (news : List Value) (hx : a.eval x = .slice (some ad) m c) (hl : news.length = m * size) (hnews : ∀ j u, news[j]? = some u → w.cell? (ad.add j) = some u) (h1 : ∀ u ∈ news, u.oneCell' = true)
    (h63 : n + m ≤ maxLen) (hbytes : (n + m) * bytes ≤ 140737488355328) (hbase : base ≤ w.heap.size)
    (h : ∀ v' w', w'.ownsRow base e size v' (n + m) (xs ++ news) → w.grownBy w' v.ownBlock → (v'.ownBlock = v.ownBlock ∨ v'.ownBlock = some w.heap.size) → S w' ∧ (S w' → wpAnyH P md ops Q S fuel (listed.setIfInBounds i true) (a.put o.dst v') w'))
    (hs : AllReadyH P md ops Q S fuel listed a w rs) : AllReadyH P md ops Q S fuel listed a w (i :: rs) :=
  AllReadyH.cons (at_of_drop ho) (fun K hK => step_append_at hgd s x t hop base e ti z size bytes ht hi hz hsize hby hzs hsz v n xs hsv hown ad m c news hx hl hnews h1 h63 hbytes hbase (fun v' w' r1 r2 r3 => by
    obtain ⟨hS, hW⟩ := h v' w' r1 r2 r3
    exact hK.out _ _ hS hW)) hs
theorem take_drop {P : Program} {md : Region.Mode} {ops : Array Oper} {Q : Exit → Act → World → Prop} {S : World → Prop} (i : Nat) {oi : Oper} {tl : List Oper} {v : Value} {fuel : Nat} {listed : Array Bool} {a : Act} {w : World} (ho : ops.toList.drop i = oi :: tl)
    (hs : Region.noSelect ops = true) (hf : Region.free md ops listed i = true) (hr : (Region.ready md ops listed).contains i = true)
    (hQ : ∀ c a w, Q (.panic c) (a.put oi.dst v) w → Q (.panic c) a w) (hw : Region.wanted oi (yielded ops a.tmps) = true) (hy : ∀ w, S w → (execOp a.eval oi).run P w = .ok (.value v) w) (hS : S w)
    (h : wpAnyH P md ops Q S fuel (listed.setIfInBounds i true) (a.put oi.dst v) w) : wpAnyH P md ops Q S (fuel + 1) listed a w :=
  wpAnyH_take (at_of_drop ho) hs hf hr hQ (Or.inl ⟨hw, hy⟩) hS h
theorem ready_drop {P : Program} {md : Region.Mode} {ops : Array Oper} {Q : Exit → Act → World → Prop} {S : World → Prop} {fuel : Nat} {listed : Array Bool} {a : Act} {w : World} {i : Nat} {o : Oper} {tl : List Oper} {rs : List Nat} (ho : ops.toList.drop i = o :: tl)
    (h : ∀ K' : Act → World → Prop, Shut (∀ a w, S w → (S w → wpAnyH P md ops Q S fuel (listed.setIfInBounds i true) a w) → K' a w) → if Region.wanted o (yielded ops a.tmps) = true then Oper.wp P o a w K' Q else K' (a.put o.dst undef) w)
    (hs : AllReadyH P md ops Q S fuel listed a w rs) : AllReadyH P md ops Q S fuel listed a w (i :: rs) := AllReadyH.cons (at_of_drop ho) h hs
end Go.Proofs.YtghjhlenkgkelaaGreatDoor
