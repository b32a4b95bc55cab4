/- DERIVED. Iteration over maps as association lists; the laws at the walk's operations. -/
import Derived.Test.YtghjhlenkgkelaaGreatDoorMp
import Derived.Maps.RangeWalk
import Derived.Maps.OwnIn
import Derived.Sort.MapsRangeIn
import Derived.RangeFuncGives
set_option linter.unusedSimpArgs false
set_option linter.unusedVariables false
namespace Go.Proofs.YtghjhlenkgkelaaGreatDoor
open Go.RowKit Go.ChangeMaps

section iter
variable {P : Program} {k : TypeId} {κ ν : Type} {enc : κ → Value} {encV : ν → Value}

/-- 'for k, v := range m' under way: rest is what is still to come (of the entries R of block b), the iterator is block r. -/
def IterOf (enc : κ → Value) (encV : ν → Value) (w : World) (r b : Nat) (R rest : List (κ × ν)) : Prop :=
  ∃ es clock since seen c0, w.heap[b]? = some (.map es clock) ∧ es.toList.map (fun e => (e.key, e.val)) = R.map (fun p => (enc p.1, encV p.2)) ∧
    (∀ e ∈ es.toList, e.born < clock) ∧ (es.toList.map (·.born)).Nodup ∧ (R.map (·.1)).Nodup ∧
    w.heap[r]? = some (.mapIter (some b) since seen c0) ∧ (∀ e ∈ es.toList, e.born < since) ∧ since ≤ c0 ∧ since ≤ clock ∧
    (es.toList.filter (fun e => !seen.contains e.born)).map (fun e => (e.key, e.val)) = rest.map (fun p => (enc p.1, encV p.2)) ∧ rest.Sublist R

theorem IterOf.map {w : World} {r b : Nat} {R rest : List (κ × ν)} (h : IterOf enc encV w r b R rest) : MapOf enc encV w b R := by
  obtain ⟨es, c, _, _, _, hb, he, h1, h2, h3, _⟩ := h
  exact ⟨es, c, hb, he, h1, h2, h3⟩
theorem IterOf.ltR {w : World} {r b : Nat} {R rest : List (κ × ν)} (h : IterOf enc encV w r b R rest) : r < w.heap.size := by
  obtain ⟨es, c, _, _, _, _, _, _, _, _, hr, _⟩ := h
  rcases Nat.lt_or_ge r w.heap.size with h1 | h1
  · exact h1
  · rw [Array.getElem?_eq_none h1] at hr; cases hr
theorem IterOf.ne {w : World} {r b : Nat} {R rest : List (κ × ν)} (h : IterOf enc encV w r b R rest) : r ≠ b := by
  obtain ⟨es, c, _, _, _, hb, _, _, _, _, hr, _⟩ := h
  rintro rfl; rw [hb] at hr; cases hr
theorem IterOf.walk {w : World} {r b : Nat} {R rest : List (κ × ν)} (h : IterOf enc encV w r b R rest) : ∃ o : Obj, w.heap[r]? = some o ∧ o.isWalk = true := by
  obtain ⟨es, c, _, _, _, _, _, _, _, _, hr, _⟩ := h
  exact ⟨_, hr, rfl⟩
theorem IterOf.blocks {w w' : World} {r b : Nat} {R rest : List (κ × ν)} (h : IterOf enc encV w r b R rest) (eb : w'.heap[b]? = w.heap[b]?) (er : w'.heap[r]? = w.heap[r]?) : IterOf enc encV w' r b R rest := by
  obtain ⟨es, c, s, sn, c0, hb, he, h1, h2, h3, hr, rr⟩ := h
  exact ⟨es, c, s, sn, c0, eb.trans hb, he, h1, h2, h3, er.trans hr, rr⟩
theorem IterOf.kept {w w' : World} {r b : Nat} {R rest : List (κ × ν)} {row : Option Nat} (h : IterOf enc encV w r b R rest) (hg : w.grownBy w' row) (hb : some b ≠ row) (hr : some r ≠ row) : IterOf enc encV w' r b R rest :=
  h.blocks (hg.block b h.map.lt hb) (hg.block r h.ltR hr)
theorem IterOf.alloc {w : World} {r b : Nat} {R rest : List (κ × ν)} (h : IterOf enc encV w r b R rest) (o : Obj) : IterOf enc encV (w.alloc o) r b R rest := h.blocks (Below.heap_alloc w o b h.map.lt) (Below.heap_alloc w o r h.ltR)

theorem MapOf.range {w : World} {b : Nat} {R : List (κ × ν)} {t e : TypeId} (h : MapOf enc encV w b R) (ht : P.underlying t = some (.map k e)) :
    ∃ w', (Instr.range t (.map (some b))).run P w = .ok (.pointer (some ⟨w.heap.size, 0, none⟩)) w' ∧ IterOf enc encV w' w.heap.size b R R ∧ w.grownBy w' none ∧ w'.heap.size = w.heap.size + 1 := by
  have hlt := h.lt
  obtain ⟨es, clock, hb, he, h1, h2, h3⟩ := h
  refine ⟨_, run_range_map w t k e b es clock ht hb, ⟨es, clock, clock, #[], clock, (Below.heap_alloc w _ b hlt).trans hb, he, h1, h2, h3, heap_alloc_new w _, h1, Nat.le_refl _, Nat.le_refl _, ?_, List.Sublist.refl _⟩, World.grownBy_alloc w _ none, by simp⟩
  rw [List.filter_eq_self.2 (by simp)]; exact he

theorem split_kv {l : List MapEntry} {S : List (κ × ν)} (h : l.map (fun e => (e.key, e.val)) = S.map (fun p => (enc p.1, encV p.2))) {e : MapEntry} {l1 l2 : List MapEntry} (hl : l = l1 ++ e :: l2) :
    ∃ S1 p S2, S = S1 ++ p :: S2 ∧ e.key = enc p.1 ∧ e.val = encV p.2 ∧ (l1 ++ l2).map (fun e => (e.key, e.val)) = (S1 ++ S2).map (fun p => (enc p.1, encV p.2)) := by
  subst hl
  rw [List.map_append, List.map_cons] at h
  obtain ⟨S1, S', rfl, h1, h2⟩ := List.map_eq_append_iff.1 h.symm
  obtain ⟨p, S2, rfl, h3, h4⟩ := List.map_eq_cons_iff.1 h2
  refine ⟨S1, p, S2, rfl, (congrArg Prod.fst h3).symm, (congrArg Prod.snd h3).symm, by simp [h1, h4]⟩

theorem setBlock_same {w : World} {r : Nat} {o : Obj} (h : w.heap[r]? = some o) (o' : Obj) : (setBlock w r o').heap[r]? = some o' := by
  have := (Array.getElem?_eq_some_iff.1 h).1
  simp [setBlock, Array.getElem?_setIfInBounds, this]
theorem setBlock_other {w : World} {r i : Nat} (o' : Obj) (h : i ≠ r) : (setBlock w r o').heap[i]? = w.heap[i]? := by
  simp [setBlock, Array.getElem?_setIfInBounds, Ne.symm h]
theorem filter_push {l : List MapEntry} (hn : (l.map (·.born)).Nodup) {seen : Array Nat} {e : MapEntry} {l1 l2 : List MapEntry} (hl : l.filter (fun e => !seen.contains e.born) = l1 ++ e :: l2) :
    l.filter (fun x => !(seen.push e.born).contains x.born) = l1 ++ l2 := by
  have h1 : l.filter (fun x => !(seen.push e.born).contains x.born) = (l.filter (fun e => !seen.contains e.born)).filter (fun x => decide (x.born ≠ e.born)) := by
    rw [List.filter_filter]
    apply List.filter_congr
    intro x _
    by_cases hx : x.born = e.born <;> simp [hx]
  rw [h1, hl]
  have hs : ((l1 ++ e :: l2).map (·.born)).Nodup := (hl ▸ List.filter_sublist.map _ : ((l1 ++ e :: l2).map (·.born)).Sublist (l.map (·.born))).nodup hn
  rw [List.map_append, List.map_cons, List.nodup_append] at hs
  obtain ⟨_, hs2, hs3⟩ := hs
  rw [List.nodup_cons] at hs2
  rw [List.filter_append, List.filter_cons]
  simp only [ne_eq, not_true_eq_false, decide_false, Bool.false_eq_true, if_false]
  rw [List.filter_eq_self.2, List.filter_eq_self.2]
  · intro x hx; simp only [decide_eq_true_eq]; intro e'; exact hs2.1 (e' ▸ List.mem_map_of_mem (f := MapEntry.born) hx)
  · intro x hx; simp only [decide_eq_true_eq]; intro e'; exact hs3 x.born (List.mem_map_of_mem hx) e.born (by simp) e'

theorem IterOf.next {w : World} {r b : Nat} {R rest : List (κ × ν)} (h : IterOf enc encV w r b R rest) (ty : TypeId) :
    (rest = [] ∧ (Instr.next (.pointer (some ⟨r, 0, none⟩)) false ty).run P w = .ok (.tuple #[.bool false]) w) ∨
    ∃ p rest' w', rest.Perm (p :: rest') ∧ (Instr.next (.pointer (some ⟨r, 0, none⟩)) false ty).run P w = .ok (.tuple #[.bool true, enc p.1, encV p.2]) w' ∧
      IterOf enc encV w' r b R rest' ∧ w.grownBy w' (some r) ∧ w'.heap.size = w.heap.size ∧ (Instr.entry (.pointer (some ⟨r, 0, none⟩))).run P w' = .ok (.tuple #[enc p.1, encV p.2]) w' := by
  have hne := h.ne
  obtain ⟨es, clock, since, seen, c0, hb, he, h1, h2, h3, hr, h4, h5, h6, h7, h8⟩ := h
  rcases run_next_at (P := P) w ty r b since c0 seen es clock hr hb h4 h5 with ⟨h0, hrun⟩ | ⟨e, hem, w1, hal, hrun⟩
  · left
    refine ⟨?_, hrun⟩
    have : (leftOf es seen).toList = es.toList.filter (fun e => !seen.contains e.born) := by simp [leftOf]
    have hl : (es.toList.filter (fun e => !seen.contains e.born)) = [] := by
      rw [← this]; exact List.eq_nil_of_length_eq_zero (by simpa using h0)
    rw [hl] at h7
    exact (List.map_eq_nil_iff.1 h7.symm)
  · right
    have hem' : e ∈ es.toList.filter (fun e => !seen.contains e.born) := by simpa [leftOf] using hem
    have hees : e ∈ es.toList := (List.mem_filter.1 hem').1
    obtain ⟨l1, l2, hl⟩ := List.append_of_mem hem'
    obtain ⟨S1, p, S2, rfl, hk, hv, hmap⟩ := split_kv h7 hl
    have hw1 : ∀ i : Nat, w1.heap[i]? = w.heap[i]? := by rcases hal with rfl | rfl <;> intro i <;> rfl
    have hr1 : w1.heap[r]? = some (.mapIter (some b) since seen c0) := (hw1 r).trans hr
    have hr2 := setBlock_same hr1 (.mapIter (some b) since (seen.push e.born) clock)
    have hb2 : (setBlock w1 r (.mapIter (some b) since (seen.push e.born) clock)).heap[b]? = some (.map es clock) := (setBlock_other _ (Ne.symm hne)).trans ((hw1 b).trans hb)
    refine ⟨p, S1 ++ S2, _, List.perm_middle, by rw [hrun, hk, hv], ⟨es, clock, since, seen.push e.born, clock, hb2, he, h1, h2, h3, hr2, h4, h6, h6, ?_, ?_⟩, ?_, ?_, ?_⟩
    · rw [filter_push h2 hl]; exact hmap
    · exact (List.Sublist.append (List.Sublist.refl S1) (List.sublist_cons_self p S2)).trans h8
    · refine ⟨?_, ?_, ?_, ?_, ?_⟩
      · rcases hal with rfl | rfl <;> rfl
      · rcases hal with rfl | rfl <;> rfl
      · rcases hal with rfl | rfl <;> rfl
      · rcases hal with rfl | rfl <;> simp [setBlock]
      · intro i hi hir
        exact (setBlock_other _ (fun e => hir (by rw [e]))).trans (hw1 i)
    · rcases hal with rfl | rfl <;> simp [setBlock]
    · rw [← hk, ← hv]; exact run_entry_at _ r b since seen es clock e hr2 hb2 hees h2

end iter

section walk
variable {P : Program} {k : TypeId} {κ ν : Type} {enc : κ → Value} {encV : ν → Value}

theorem wpList_lookup_of [DecidableEq κ] (w : World) {ops : Array Oper} {rest : List Oper} {o : Oper} {a : Act} {Q : Exit → Act → World → Prop} (hg : o.guard = none) (m x : Operand) (t : TypeId) (hop : o.op = Op.lookup t m x false)
    (e : TypeId) (K : MKey P k enc) (ht : P.underlying t = some (.map k e)) (z : ν) (hz : (zeroValue e).run P w = .ok (encV z) w) (b : Nat) (R : List (κ × ν)) (hm : a.eval m = .map (some b)) (h : MapOf enc encV w b R) (y : κ) (hx : a.eval x = enc y)
    (hK : wpList P ops Q rest (a.put o.dst (encV ((look R y).getD z))) w) : wpList P ops Q (o :: rest) a w := by
  refine wpList_plain hg fun K' hK' => ?_
  have hrun := h.lookup K ht hz y
  unfold Oper.wp
  simp [execOp, hop, hm, hx, hrun, Result.andThen]
  exact hK' _ _ hK
theorem wpList_lookup_ok_of [DecidableEq κ] (w : World) {ops : Array Oper} {rest : List Oper} {o : Oper} {a : Act} {Q : Exit → Act → World → Prop} (hg : o.guard = none) (m x : Operand) (t : TypeId) (hop : o.op = Op.lookup t m x true)
    (e : TypeId) (K : MKey P k enc) (ht : P.underlying t = some (.map k e)) (z : ν) (hz : (zeroValue e).run P w = .ok (encV z) w) (b : Nat) (R : List (κ × ν)) (hm : a.eval m = .map (some b)) (h : MapOf enc encV w b R) (y : κ) (hx : a.eval x = enc y)
    (hK : wpList P ops Q rest (a.put o.dst (.tuple #[encV ((look R y).getD z), .bool (look R y).isSome])) w) : wpList P ops Q (o :: rest) a w := by
  refine wpList_plain hg fun K' hK' => ?_
  have hrun := h.lookup_ok K ht hz y
  unfold Oper.wp
  simp [execOp, hop, hm, hx, hrun, Result.andThen]
  exact hK' _ _ hK
theorem wpList_mapUpdate_of [DecidableEq κ] (w : World) {ops : Array Oper} {rest : List Oper} {o : Oper} {a : Act} {Q : Exit → Act → World → Prop} (hg : o.guard = none) (m x v : Operand) (t : TypeId) (hop : o.op = Op.mapUpdate t m x v)
    (e : TypeId) (K : MKey P k enc) (ht : P.underlying t = some (.map k e)) (b : Nat) (R : List (κ × ν)) (hm : a.eval m = .map (some b)) (h : MapOf enc encV w b R) (y : κ) (hx : a.eval x = enc y) (u : ν) (hv : a.eval v = encV u)
    (hK : ∀ w', MapOf enc encV w' b (upd R y u) → w.grownBy w' (some b) → w'.heap.size = w.heap.size → wpList P ops Q rest (a.put o.dst undef) w') : wpList P ops Q (o :: rest) a w := by
  refine wpList_plain hg fun K' hK' => ?_
  obtain ⟨w', hrun, r1, r2, r3⟩ := h.update K ht y u
  unfold Oper.wp
  simp [execOp, hop, hm, hx, hv, hrun, Result.andThen]
  exact hK' _ _ (hK w' r1 r2 r3)
theorem wpListIn_range_of {F : Fence} {n : Nat} (w : World) {ops : Array Oper} {rest : List Oper} {o : Oper} {a : Act} {Q : Exit → Act → World → Prop} (hg : o.guard = none) (m : Operand) (t : TypeId) (hop : o.op = Op.range t m)
    (e : TypeId) (ht : P.underlying t = some (.map k e)) (b : Nat) (R : List (κ × ν)) (hm : a.eval m = .map (some b)) (h : MapOf enc encV w b R)
    (hK : ∀ w', IterOf enc encV w' w.heap.size b R R → w.grownBy w' none → w'.heap.size = w.heap.size + 1 → wpListIn F n P ops Q rest (a.put o.dst (.pointer (some ⟨w.heap.size, 0, none⟩))) w') :
    wpListIn F n P ops Q (o :: rest) a w := by
  refine wpListIn_plain hg fun K' hK' => ?_
  obtain ⟨w', hrun, r1, r2, r3⟩ := h.range (P := P) ht
  unfold Oper.wpIn
  refine ⟨?_, ?_⟩
  · simp [Oper.about, hop]
  · rw [Oper.semAt_plain F _ _ (by rw [hop]; intro c hc'; cases hc')]
    simp [execOp, hop, hm, hrun, Result.andThen]
    exact hK' _ _ (hK w' r1 r2 r3)
theorem wpListIn_next_of {F : Fence} {n : Nat} (w : World) {ops : Array Oper} {rest : List Oper} {o : Oper} {a : Act} {Q : Exit → Act → World → Prop} (hg : o.guard = none) (it : Operand) (hop : o.op = Op.next it false)
    (r b : Nat) (R left : List (κ × ν)) (hit : a.eval it = .pointer (some ⟨r, 0, none⟩)) (h : IterOf enc encV w r b R left)
    (hDone : left = [] → wpListIn F n P ops Q rest (a.put o.dst (.tuple #[.bool false])) w)
    (hMore : ∀ (x : κ) (v : ν) (left' : List (κ × ν)) (w' : World), left.Perm ((x, v) :: left') → IterOf enc encV w' r b R left' → w.grownBy w' (some r) → w'.heap.size = w.heap.size →
      (Instr.entry (.pointer (some ⟨r, 0, none⟩))).run P w' = .ok (.tuple #[enc x, encV v]) w' → wpListIn F n P ops Q rest (a.put o.dst (.tuple #[.bool true, enc x, encV v])) w') :
    wpListIn F n P ops Q (o :: rest) a w := by
  refine wpListIn_plain hg fun K' hK' => ?_
  unfold Oper.wpIn
  refine ⟨by simp [Oper.about, hop], ?_⟩
  rw [Oper.semAt_plain F _ _ (by rw [hop]; intro c hc'; cases hc')]
  rcases h.next (P := P) o.type with ⟨h0, hrun⟩ | ⟨p, left', w', hp, hrun, hi, hgr, hsz, hen⟩
  · simp [execOp, hop, hit, hrun, Result.andThen]
    exact hK' _ _ (hDone h0)
  · simp [execOp, hop, hit, hrun, Result.andThen]
    exact hK' _ _ (hMore p.1 p.2 left' w' hp hi hgr hsz hen)
end walk
end Go.Proofs.YtghjhlenkgkelaaGreatDoor
