/- DERIVED. A region whose order is drawn: what is held may lessen when its last operation, a store, has come up. -/
import Derived.Test.YtpahhcmiimllaaaGreatDoorCd
import Derived.Deep.RegionHeldLaw
import Derived.Deep.RegionLaw
import Derived.Test.YtpahhcmiimllaaaGreatDoorItr
set_option linter.unusedSimpArgs false
set_option linter.unusedVariables false
namespace Go.Proofs.YtpahhcmiimllaaaGreatDoor
open Go.RowKit

theorem at_of_drop {ops : Array Oper} {i : Nat} {o : Oper} {tl : List Oper} (ho : ops.toList.drop i = o :: tl) : ops[i]? = some o := by
  have : ops.toList[i]? = some o := by rw [← List.head?_drop, ho]; rfl
  simpa using this
theorem take_drop {P : Program} {md : Region.Mode} {ops : Array Oper} {Q : Exit → Act → World → Prop} {S : World → Prop} (i : Nat) {oi : Oper} {tl : List Oper} {v : Value} {fuel : Nat} {listed : Array Bool} {a : Act} {w : World} (ho : ops.toList.drop i = oi :: tl)
    (hs : Region.noSelect ops = true) (hf : Region.free md ops listed i = true) (hr : (Region.ready md ops listed).contains i = true)
    (hQ : ∀ c a w, Q (.panic c) (a.put oi.dst v) w → Q (.panic c) a w) (hw : Region.wanted oi (yielded ops a.tmps) = true) (hy : ∀ w, S w → (execOp a.eval oi).run P w = .ok (.value v) w) (hS : S w)
    (h : wpAnyH P md ops Q S fuel (listed.setIfInBounds i true) (a.put oi.dst v) w) : wpAnyH P md ops Q S (fuel + 1) listed a w :=
  wpAnyH_take (at_of_drop ho) hs hf hr hQ (Or.inl ⟨hw, hy⟩) hS h
theorem ready_drop {P : Program} {md : Region.Mode} {ops : Array Oper} {Q : Exit → Act → World → Prop} {S : World → Prop} {fuel : Nat} {listed : Array Bool} {a : Act} {w : World} {i : Nat} {o : Oper} {tl : List Oper} {rs : List Nat} (ho : ops.toList.drop i = o :: tl)
    (h : ∀ K' : Act → World → Prop, Shut (∀ a w, S w → (S w → wpAnyH P md ops Q S fuel (listed.setIfInBounds i true) a w) → K' a w) → if Region.wanted o (yielded ops a.tmps) = true then Oper.wp P o a w K' Q else K' (a.put o.dst undef) w)
    (hs : AllReadyH P md ops Q S fuel listed a w rs) : AllReadyH P md ops Q S fuel listed a w (i :: rs) := AllReadyH.cons (at_of_drop ho) h hs
end Go.Proofs.YtpahhcmiimllaaaGreatDoor
namespace Go.Proofs.YtpahhcmiimllaaaGreatDoor
open Go.RowKit Go.Shelf Go.Sort
theorem step_append_at {P : Program} {w : World} {ops : Array Oper} {o : Oper} {a : Act} {K : Act → World → Prop} {Q : Exit → Act → World → Prop} {E : Prop} (hgd : o.guard = none) (s x : Operand) (t : TypeId)
    (ho : o.op = .call { callee := .builtin .append, args := #[s, x], argTypes := #[t, t] })
    (base : Nat) (e : TypeId) (i : TypeInfo) (z : Value) (size bytes : Nat) (ht : P.underlying t = some (.slice e)) (hi : P.info? e = some i) (hz : i.zero = some z)
    (hsize : i.size = size) (hby : i.bytes = bytes) (hzs : z.cells.size = size) (hsz : 0 < size)
    (v : Value) (n : Nat) (xs : List Value) (hs : a.eval s = v) (hown : w.ownsRow base e size v n xs)
    (ad : Addr) (m c : Nat) (news : List Value) (hx : a.eval x = .slice (some ad) m c) (hl : news.length = m * size) (hnews : ∀ j u, news[j]? = some u → w.cell? (ad.add j) = some u) (h1 : ∀ u ∈ news, u.oneCell' = true)
    (h63 : n + m ≤ maxLen) (hbytes : (n + m) * bytes ≤ 140737488355328) (hbase : base ≤ w.heap.size)
    (h : ∀ v' w', w'.ownsRow base e size v' (n + m) (xs ++ news) → w.grownBy w' v.ownBlock → (v'.ownBlock = v.ownBlock ∨ v'.ownBlock = some w.heap.size) → K (a.put o.dst v') w') :
    if Region.wanted o (yielded ops a.tmps) = true then Oper.wp P o a w K Q else E := by
  have hw : Region.wanted o (yielded ops a.tmps) = true := by simp [Region.wanted, hgd]
  rw [if_pos hw]
  obtain ⟨v', w', hrun, h2, h3, _, h4⟩ := run_append_own_at (P := P) w base t o.type e i z size bytes ht hi hz hsize hby hzs hsz v n xs hown ad m c news hl hnews h1 h63 hbytes hbase
  unfold Oper.wp execOp
  simp only [ho, resolve, invoke, builtin, Sem.run_bind, Sem.run_pure, Result.andThen_ok, List.map_toArray, List.map_cons, List.map_nil, hs, hx, hrun]
  exact h v' w' h2 h3 h4

theorem step_call_at {P : Program} {w : World} {ops : Array Oper} {o : Oper} {a : Act} {K : Act → World → Prop} {Q : Exit → Act → World → Prop} {E : Prop} (hgd : o.guard = none) (f : Nat) (hen : Enters P f) (ar : List Operand) (ts : Array TypeId)
    (ho : o.op = .call { callee := .value (.func f), args := ar.toArray, argTypes := ts }) (args : List Value) (hargs : ar.map a.eval = args)
    {R : Ending → World → Prop} (hc : Calls P f args.toArray w R)
    (h : ∀ e w', R e w' → ∃ v, e = .returned v ∧ K (a.put o.dst v) w') :
    if Region.wanted o (yielded ops a.tmps) = true then Oper.wp P o a w K Q else E := by
  have hw : Region.wanted o (yielded ops a.tmps) = true := by simp [Region.wanted, hgd]
  rw [if_pos hw]
  have he : (execOp a.eval o).run P w = .ok (.enter f args.toArray) w := by
    subst hargs
    unfold execOp
    simp [ho, resolve, invoke, Act.eval, Sem.run_bind, Sem.run_pure, Deferred.ofValue, hen (List.map a.eval ar).toArray w]
  unfold Oper.wp
  rw [he]
  show Calls P f args.toArray w _
  refine hc.mono ?_
  intro e w' hr
  obtain ⟨v, rfl, hk⟩ := h e w' hr
  exact hk
theorem ready_call {P : Program} {md : Region.Mode} {ops : Array Oper} {Q : Exit → Act → World → Prop} {S : World → Prop} {fuel : Nat} {listed : Array Bool} {a : Act} {w : World} {i : Nat} {rs : List Nat} {o : Oper} {tl : List Oper} (ho : ops.toList.drop i = o :: tl)
    (hgd : o.guard = none) (f : Nat) (hen : Enters P f) (ar : List Operand) (ts : Array TypeId)
    (hop : o.op = .call { callee := .value (.func f), args := ar.toArray, argTypes := ts }) (args : List Value) (hargs : ar.map a.eval = args)
    {R : Ending → World → Prop} (hc : Calls P f args.toArray w R)
    (h : ∀ e w', R e w' → ∃ v, e = .returned v ∧ S w' ∧ (S w' → wpAnyH P md ops Q S fuel (listed.setIfInBounds i true) (a.put o.dst v) w'))
    (hs : AllReadyH P md ops Q S fuel listed a w rs) : AllReadyH P md ops Q S fuel listed a w (i :: rs) :=
  AllReadyH.cons (at_of_drop ho) (fun K hK => step_call_at hgd f hen ar ts hop args hargs hc (fun e w' hr => by
    obtain ⟨v, rfl, hS, hW⟩ := h e w' hr
    exact ⟨v, rfl, hK.out _ _ hS hW⟩)) hs
theorem ready_append {P : Program} {md : Region.Mode} {ops : Array Oper} {Q : Exit → Act → World → Prop} {S : World → Prop} {fuel : Nat} {listed : Array Bool} {a : Act} {w : World} {i : Nat} {rs : List Nat} {o : Oper} {tl : List Oper} (ho : ops.toList.drop i = o :: tl)
    (hgd : o.guard = none) (s x : Operand) (t : TypeId)
    (hop : o.op = .call { callee := .builtin .append, args := #[s, x], argTypes := #[t, t] })
    (base : Nat) (e : TypeId) (ti : TypeInfo) (z : Value) (size bytes : Nat) (ht : P.underlying t = some (.slice e)) (hi : P.info? e = some ti) (hz : ti.zero = some z)
    (hsize : ti.size = size) (hby : ti.bytes = bytes) (hzs : z.cells.size = size) (hsz : 0 < size)
    (v : Value) (n : Nat) (xs : List Value) (hsv : a.eval s = v) (hown : w.ownsRow base e size v n xs)
    (ad : Addr) (m c : Nat) (news : List Value) (hx : a.eval x = .slice (some ad) m c) (hl : news.length = m * size) (hnews : ∀ j u, news[j]? = some u → w.cell? (ad.add j) = some u) (h1 : ∀ u ∈ news, u.oneCell' = true)
    (h63 : n + m ≤ maxLen) (hbytes : (n + m) * bytes ≤ 140737488355328) (hbase : base ≤ w.heap.size)
    (h : ∀ v' w', w'.ownsRow base e size v' (n + m) (xs ++ news) → w.grownBy w' v.ownBlock → (v'.ownBlock = v.ownBlock ∨ v'.ownBlock = some w.heap.size) → S w' ∧ (S w' → wpAnyH P md ops Q S fuel (listed.setIfInBounds i true) (a.put o.dst v') w'))
    (hs : AllReadyH P md ops Q S fuel listed a w rs) : AllReadyH P md ops Q S fuel listed a w (i :: rs) :=
  AllReadyH.cons (at_of_drop ho) (fun K hK => step_append_at hgd s x t hop base e ti z size bytes ht hi hz hsize hby hzs hsz v n xs hsv hown ad m c news hx hl hnews h1 h63 hbytes hbase (fun v' w' r1 r2 r3 => by
    obtain ⟨hS, hW⟩ := h v' w' r1 r2 r3
    exact hK.out _ _ hS hW)) hs
end Go.Proofs.YtpahhcmiimllaaaGreatDoor
namespace Go.Proofs.YtpahhcmiimllaaaGreatDoor
open Go.RowKit Go

/-- held: S always; T till operation t has come up -/
def HS (S T : World → Prop) (t : Nat) (L : Array Bool) (w : World) : Prop := S w ∧ (L.getD t true = false → T w)
section
variable {P : Program} {ops : Array Oper} {Q : Exit → Act → World → Prop} {md : Region.Mode} {S T : World → Prop} {t : Nat}
def wpAnyL (P : Program) (md : Region.Mode) (ops : Array Oper) (Q : Exit → Act → World → Prop) (S T : World → Prop) (t : Nat) : Nat → Array Bool → Act → World → Prop
  | 0, listed, a, w => Region.ready md ops listed = [] ∧ Q .normal a w
  | fuel + 1, listed, a, w =>
    (Region.ready md ops listed = [] → Q .normal a w) ∧
    ∀ i ∈ Region.ready md ops listed, wpOp P ops Q i (fun a' w' => HS S T t (listed.setIfInBounds i true) w' ∧ wpAnyL P md ops Q S T t fuel (listed.setIfInBounds i true) a' w') a w
theorem wpAny_of_L : ∀ (fuel : Nat) (listed : Array Bool) (a : Act) (w : World), wpAnyL P md ops Q S T t fuel listed a w → wpAny P md ops Q fuel listed a w
  | 0, _, _, _, h => h
  | fuel + 1, _, _, _, h => ⟨h.1, fun i hi => wpOp_mono (fun a' w' h' => wpAny_of_L fuel _ a' w' h'.2) (h.2 i hi)⟩
theorem wpAnyL_first {i : Nat} {oi : Oper} {v : Value} (hi : ops[i]? = some oi) (hsel : ∀ (j : Nat) (o : Oper) cs b, ops[j]? = some o → o.op ≠ .select cs b)
    (hQ : ∀ c a w, Q (.panic c) (a.put oi.dst v) w → Q (.panic c) a w) (hit : i ≠ t) (ht : ∃ ot, ops[t]? = some ot ∧ ∃ e ∈ ot.after, Region.binds md e = true ∧ e.on = i) :
    ∀ (fuel : Nat) (listed : Array Bool) (a : Act) (w : World), listed.getD t true = false →
      (∀ j oj, ops[j]? = some oj → j ≠ i → listed.getD j true = false → (∀ e ∈ oj.after, Region.binds md e = true → e.on ≠ i) → oi.apart ops oj = true) →
      i ∈ Region.ready md ops listed → YieldsIf P ops (fun w => S w ∧ T w) oi v a → S w ∧ T w →
      wpAnyL P md ops Q S T t fuel (listed.setIfInBounds i true) (a.put oi.dst v) w → wpAnyL P md ops Q S T t (fuel + 1) listed a w := by
  intro fuel
  induction fuel with
  | zero =>
    intro listed a w _ _ hr hy hS H
    refine ⟨fun h => (by rw [h] at hr; cases hr), fun j hj => ?_⟩
    by_cases hji : j = i
    · subst hji; exact hy.wpOp hi hS ⟨⟨hS.1, fun _ => hS.2⟩, H⟩
    · have := ready_mono hj hji
      rw [H.1] at this
      cases this
  | succ fuel ih =>
    intro listed a w hlt hfree hr hy hS H
    refine ⟨fun h => (by rw [h] at hr; cases hr), fun j hj => ?_⟩
    by_cases hji : j = i
    · subst hji; exact hy.wpOp hi hS ⟨⟨hS.1, fun _ => hS.2⟩, H⟩
    · have h1 := H.2 j (ready_mono hj hji)
      obtain ⟨hjun, oj, hoj, hall⟩ := mem_ready.1 hj
      have hnot : ∀ e ∈ oj.after, Region.binds md e = true → e.on ≠ i := fun e he hb heq => by
        have h1 := hall e he hb
        have h0 := (mem_ready.1 hr).1
        rw [heq] at h1
        rcases Nat.lt_or_ge i listed.size with h' | h'
        · simp [h'] at h0 h1; rw [h0] at h1; cases h1
        · simp [Array.getElem?_eq_none h'] at h1
      have hjt : j ≠ t := fun e => by
        subst e
        obtain ⟨ot, hot, e, he, hb, hon⟩ := ht
        rw [hoj] at hot; cases hot
        exact hnot e he hb hon
      have h2 := wpOp_putIf hoj (hfree j oj hoj hji hjun hnot) (fun cs b => hsel i oi cs b hi) (fun cs b => hsel j oj cs b hoj) hQ hy h1
      have hfree' : ∀ k ok, ops[k]? = some ok → k ≠ i → (listed.setIfInBounds j true).getD k true = false →
          (∀ e ∈ ok.after, Region.binds md e = true → e.on ≠ i) → oi.apart ops ok = true := fun k ok hk hki hun hno => by
        refine hfree k ok hk hki ?_ hno
        by_cases hjk : j = k
        · subst hjk; exact hjun
        · rw [Go.getD_set_ne true hjk] at hun; exact hun
      have hlt' : (listed.setIfInBounds j true).getD t true = false := by rw [Go.getD_set_ne true hjt]; exact hlt
      have hlt2 : ((listed.setIfInBounds i true).setIfInBounds j true).getD t true = false := by rw [Go.getD_set_ne true hjt, Go.getD_set_ne true hit]; exact hlt
      refine wpOp_mono (fun a' w' h3 => ?_) h2
      have hT := h3.2.1.2 hlt2
      refine ⟨⟨h3.2.1.1, fun _ => hT⟩, ih (listed.setIfInBounds j true) a' w' hlt' hfree' (ready_mono hr (Ne.symm hji)) h3.1 ⟨h3.2.1.1, hT⟩ ?_⟩
      rw [Array.setIfInBounds_comm _ _ hji]
      exact h3.2.2
theorem wpAnyL_pure {i : Nat} {oi : Oper} {v : Value} (hi : ops[i]? = some oi) (hsel : ∀ (j : Nat) (o : Oper) cs b, ops[j]? = some o → o.op ≠ .select cs b)
    (hQ : ∀ c a w, Q (.panic c) (a.put oi.dst v) w → Q (.panic c) a w) (hit : i ≠ t) :
    ∀ (fuel : Nat) (listed : Array Bool) (a : Act) (w : World),
      (∀ j oj, ops[j]? = some oj → j ≠ i → listed.getD j true = false → (∀ e ∈ oj.after, Region.binds md e = true → e.on ≠ i) → oi.apart ops oj = true) →
      i ∈ Region.ready md ops listed → YieldsIf P ops S oi v a → HS S T t listed w →
      wpAnyL P md ops Q S T t fuel (listed.setIfInBounds i true) (a.put oi.dst v) w → wpAnyL P md ops Q S T t (fuel + 1) listed a w := by
  intro fuel
  induction fuel with
  | zero =>
    intro listed a w _ hr hy hS H
    refine ⟨fun h => (by rw [h] at hr; cases hr), fun j hj => ?_⟩
    by_cases hji : j = i
    · subst hji; exact hy.wpOp hi hS.1 ⟨⟨hS.1, fun h => hS.2 (by rw [Go.getD_set_ne true hit] at h; exact h)⟩, H⟩
    · have := ready_mono hj hji
      rw [H.1] at this
      cases this
  | succ fuel ih =>
    intro listed a w hfree hr hy hS H
    refine ⟨fun h => (by rw [h] at hr; cases hr), fun j hj => ?_⟩
    by_cases hji : j = i
    · subst hji; exact hy.wpOp hi hS.1 ⟨⟨hS.1, fun h => hS.2 (by rw [Go.getD_set_ne true hit] at h; exact h)⟩, H⟩
    · have h1 := H.2 j (ready_mono hj hji)
      obtain ⟨hjun, oj, hoj, hall⟩ := mem_ready.1 hj
      have hnot : ∀ e ∈ oj.after, Region.binds md e = true → e.on ≠ i := fun e he hb heq => by
        have h1 := hall e he hb
        have h0 := (mem_ready.1 hr).1
        rw [heq] at h1
        rcases Nat.lt_or_ge i listed.size with h' | h'
        · simp [h'] at h0 h1; rw [h0] at h1; cases h1
        · simp [Array.getElem?_eq_none h'] at h1
      have h2 := wpOp_putIf hoj (hfree j oj hoj hji hjun hnot) (fun cs b => hsel i oi cs b hi) (fun cs b => hsel j oj cs b hoj) hQ hy h1
      have hfree' : ∀ k ok, ops[k]? = some ok → k ≠ i → (listed.setIfInBounds j true).getD k true = false →
          (∀ e ∈ ok.after, Region.binds md e = true → e.on ≠ i) → oi.apart ops ok = true := fun k ok hk hki hun hno => by
        refine hfree k ok hk hki ?_ hno
        by_cases hjk : j = k
        · subst hjk; exact hjun
        · rw [Go.getD_set_ne true hjk] at hun; exact hun
      refine wpOp_mono (fun a' w' h3 => ?_) h2
      have hS' : HS S T t (listed.setIfInBounds j true) w' := ⟨h3.2.1.1, fun h => h3.2.1.2 (by
        by_cases hjt : j = t
        · subst hjt
          rcases Nat.lt_or_ge j listed.size with h' | h'
          · simp [h'] at h
          · rw [Array.setIfInBounds_eq_of_size_le h'] at h
            simp [Array.getElem?_eq_none h'] at h
        · rw [Go.getD_set_ne true hjt] at h
          rw [Go.getD_set_ne true hjt, Go.getD_set_ne true hit]; exact h)⟩
      refine ⟨hS', ih (listed.setIfInBounds j true) a' w' hfree' (ready_mono hr (Ne.symm hji)) h3.1 hS' ?_⟩
      rw [Array.setIfInBounds_comm _ _ hji]
      exact h3.2.2
/-- does operation t wait for operation i? -/
def waitsB (md : Region.Mode) (ops : Array Oper) (t i : Nat) : Bool := match ops[t]? with
  | some o => o.after.any fun e => Region.binds md e && e.on == i
  | none => false
theorem waits_spec {i : Nat} (h : waitsB md ops t i = true) : ∃ ot, ops[t]? = some ot ∧ ∃ e ∈ ot.after, Region.binds md e = true ∧ e.on = i := by
  unfold waitsB at h
  split at h
  · rename_i o ho
    rw [Array.any_eq_true'] at h
    obtain ⟨e, he, hb⟩ := h
    rw [Bool.and_eq_true, beq_iff_eq] at hb
    exact ⟨o, ho, e, he, hb.1, hb.2⟩
  · cases h
theorem takeL (i : Nat) {oi : Oper} {tl : List Oper} {v : Value} {fuel : Nat} {listed : Array Bool} {a : Act} {w : World} (ho : ops.toList.drop i = oi :: tl)
    (hs : Region.noSelect ops = true) (hf : Region.free md ops listed i = true) (hr : (Region.ready md ops listed).contains i = true) (hw2 : (!(i == t) && !(listed.getD t true) && waitsB md ops t i) = true)
    (hQ : ∀ c a w, Q (.panic c) (a.put oi.dst v) w → Q (.panic c) a w) (hw : Region.wanted oi (yielded ops a.tmps) = true) (hy : ∀ w, S w ∧ T w → (execOp a.eval oi).run P w = .ok (.value v) w) (hS : S w ∧ T w)
    (h : wpAnyL P md ops Q S T t fuel (listed.setIfInBounds i true) (a.put oi.dst v) w) : wpAnyL P md ops Q S T t (fuel + 1) listed a w := by
  rw [Bool.and_eq_true, Bool.and_eq_true, Bool.not_eq_true', Bool.not_eq_true', beq_eq_false_iff_ne] at hw2
  exact wpAnyL_first (at_of_drop ho) (Region.noSelect_spec hs) hQ hw2.1.1 (waits_spec hw2.2) fuel listed a w hw2.1.2 (Region.free_spec (at_of_drop ho) hf) (by simpa using hr) (Or.inl ⟨hw, hy⟩) hS h
/-- an operation that reads nothing that is lost -/
theorem takeP (i : Nat) {oi : Oper} {tl : List Oper} {v : Value} {fuel : Nat} {listed : Array Bool} {a : Act} {w : World} (ho : ops.toList.drop i = oi :: tl)
    (hs : Region.noSelect ops = true) (hf : Region.free md ops listed i = true) (hr : (Region.ready md ops listed).contains i = true) (hw2 : (!(i == t)) = true)
    (hQ : ∀ c a w, Q (.panic c) (a.put oi.dst v) w → Q (.panic c) a w) (hw : Region.wanted oi (yielded ops a.tmps) = true) (hy : ∀ w, S w → (execOp a.eval oi).run P w = .ok (.value v) w) (hS : S w ∧ T w)
    (h : wpAnyL P md ops Q S T t fuel (listed.setIfInBounds i true) (a.put oi.dst v) w) : wpAnyL P md ops Q S T t (fuel + 1) listed a w := by
  rw [Bool.not_eq_true', beq_eq_false_iff_ne] at hw2
  exact wpAnyL_pure (at_of_drop ho) (Region.noSelect_spec hs) hQ hw2 fuel listed a w (Region.free_spec (at_of_drop ho) hf) (by simpa using hr) (Or.inl ⟨hw, hy⟩) ⟨hS.1, fun _ => hS.2⟩ h
/-- one operation alone may come up -/
theorem oneL {fuel : Nat} {listed : Array Bool} {a : Act} {w : World} (i : Nat) {o : Oper} {tl : List Oper} (hr : Region.ready md ops listed = [i]) (ho : ops.toList.drop i = o :: tl)
    (h : ∀ K' : Act → World → Prop, Shut (∀ a w, HS S T t (listed.setIfInBounds i true) w → wpAnyL P md ops Q S T t fuel (listed.setIfInBounds i true) a w → K' a w) → if Region.wanted o (yielded ops a.tmps) = true then Oper.wp P o a w K' Q else K' (a.put o.dst undef) w) : wpAnyL P md ops Q S T t (fuel + 1) listed a w :=
  ⟨fun h0 => (by rw [hr] at h0; cases h0), fun j hj => by
    rw [hr] at hj
    obtain rfl := List.mem_singleton.1 hj
    exact wpOp_step (at_of_drop ho) (fun K' hK => h K' (fun a w hS hW => hK a w ⟨hS, hW⟩))⟩
theorem doneL {listed : Array Bool} {a : Act} {w : World} (hr : Region.ready md ops listed = []) (h : Q .normal a w) : ∀ fuel, wpAnyL P md ops Q S T t fuel listed a w
  | 0 => ⟨hr, h⟩
  | _ + 1 => ⟨fun _ => h, by rw [hr]; simp⟩
theorem heldL {id : Nat} {a : Act} {w : World} (S T : World → Prop) (t : Nat) (hm : P.follows .mixedOrders = true)
    (h : wpAnyL P .any ops Q S T t ops.size (Array.replicate ops.size false) a (w.drewN 1)) : (Code.region id ops true).wp P Q a w :=
  wp_region_any hm (wpAny_of_L _ _ _ _ h)
theorem callL {fuel : Nat} {listed : Array Bool} {a : Act} {w : World} (i : Nat) {o : Oper} {tl : List Oper} (hr : Region.ready md ops listed = [i]) (ho : ops.toList.drop i = o :: tl)
    (hgd : o.guard = none) (f : Nat) (hen : Enters P f) (ar : List Operand) (ts : Array TypeId)
    (hop : o.op = .call { callee := .value (.func f), args := ar.toArray, argTypes := ts }) (args : List Value) (hargs : ar.map a.eval = args)
    {R : Ending → World → Prop} (hc : Calls P f args.toArray w R)
    (h : ∀ e w', R e w' → ∃ v, e = .returned v ∧ (S w' ∧ T w') ∧ wpAnyL P md ops Q S T t fuel (listed.setIfInBounds i true) (a.put o.dst v) w') : wpAnyL P md ops Q S T t (fuel + 1) listed a w :=
  oneL i hr ho fun K hK => step_call_at hgd f hen ar ts hop args hargs hc (fun e w' hr => by
    obtain ⟨v, rfl, hS, hW⟩ := h e w' hr
    exact ⟨v, rfl, hK.out _ _ ⟨hS.1, fun _ => hS.2⟩ hW⟩)
theorem appendL {fuel : Nat} {listed : Array Bool} {a : Act} {w : World} (i : Nat) {o : Oper} {tl : List Oper} (hr : Region.ready md ops listed = [i]) (ho : ops.toList.drop i = o :: tl)
    (hgd : o.guard = none) (s x : Operand) (t' : TypeId)
    (hop : o.op = .call { callee := .builtin .append, args := #[s, x], argTypes := #[t', t'] })
    (base : Nat) (e : TypeId) (ti : TypeInfo) (z : Value) (size bytes : Nat) (ht : P.underlying t' = some (.slice e)) (hi : P.info? e = some ti) (hz : ti.zero = some z)
    (hsize : ti.size = size) (hby : ti.bytes = bytes) (hzs : z.cells.size = size) (hsz : 0 < size)
    (v : Value) (n : Nat) (xs : List Value) (hsv : a.eval s = v) (hown : w.ownsRow base e size v n xs)
    (ad : Addr) (m c : Nat) (news : List Value) (hx : a.eval x = .slice (some ad) m c) (hl : news.length = m * size) (hnews : ∀ j u, news[j]? = some u → w.cell? (ad.add j) = some u) (h1 : ∀ u ∈ news, u.oneCell' = true)
    (h63 : n + m ≤ maxLen) (hbytes : (n + m) * bytes ≤ 140737488355328) (hbase : base ≤ w.heap.size)
    (h : ∀ v' w', w'.ownsRow base e size v' (n + m) (xs ++ news) → w.grownBy w' v.ownBlock → (v'.ownBlock = v.ownBlock ∨ v'.ownBlock = some w.heap.size) → (S w' ∧ T w') ∧ wpAnyL P md ops Q S T t fuel (listed.setIfInBounds i true) (a.put o.dst v') w') : wpAnyL P md ops Q S T t (fuel + 1) listed a w :=
  oneL i hr ho fun K hK => step_append_at hgd s x t' hop base e ti z size bytes ht hi hz hsize hby hzs hsz v n xs hsv hown ad m c news hx hl hnews h1 h63 hbytes hbase (fun v' w' r1 r2 r3 => by
    obtain ⟨hS, hW⟩ := h v' w' r1 r2 r3
    exact hK.out _ _ ⟨hS.1, fun _ => hS.2⟩ hW)
end
end Go.Proofs.YtpahhcmiimllaaaGreatDoor
