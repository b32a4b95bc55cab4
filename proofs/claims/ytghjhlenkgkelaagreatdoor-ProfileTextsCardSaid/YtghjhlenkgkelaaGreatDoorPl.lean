/- DERIVED. The groups of a trace, as plain lists: the collector's steps as steps over groups with a mark 'open'; what holds of them. -/
import Derived.Test.YtghjhlenkgkelaaGreatDoorPut2
set_option linter.unusedSimpArgs false
set_option linter.unusedVariables false
namespace Go.Proofs.YtghjhlenkgkelaaGreatDoor

abbrev GO := Grp × Bool
def dataB (x : Acc) : Bool := x.kind == 1 || x.kind == 2
def qB (x : Acc) (p : GO) : Bool := p.2 && (alikeB p.1 x && p.1.kind == x.kind)
def cutB (xs : List Acc) (x : Acc) (p : GO) : Bool := alikeB p.1 x && (p.1.kind != x.kind && p.1.mem.any (hitB xs x.place))
def shutIf (f : GO → Bool) (p : GO) : GO := (p.1, p.2 && !f p)
def addIf (x : Acc) (i : Nat) (p : GO) : GO := if qB x p then ({ p.1 with mem := p.1.mem ++ [i] }, p.2) else p
def stepR (xs : List Acc) (i : Nat) (x : Acc) (R : List GO) : List GO :=
  if dataB x then
    let R1 := R.map (shutIf (cutB xs x))
    if x.frm = x.at' then R1 else
    if R1.any (fun p => qB x p && decide (p.1.mem.length < 64)) then R1.map (addIf x i)
    else R1.map (shutIf (qB x)) ++ [(newG x i, true)]
  else
    let R1 := R.map (shutIf (fun p => p.1.task == x.task))
    if x.frm = x.at' then R1 else R1 ++ [(newG x i, false)]

/-- the groups as the collector holds them, and as marked groups -/
structure Sim (gs : List (Nat × Grp)) (op : List Nat) (R : List GO) : Prop where
  eq : R = gs.map (fun p => (p.2, decide (p.1 ∈ op)))
  nod : op.Nodup
  ids : (gs.map (·.1)).Nodup
  sub : ∀ g ∈ op, g ∈ gs.map (·.1)
  uniq : ∀ p ∈ gs, ∀ q ∈ gs, p.1 ∈ op → q.1 ∈ op → p.2.task = q.2.task → p.2.frm = q.2.frm → p.2.at' = q.2.at' → p.2.kind = q.2.kind → p.1 = q.1

section
variable {xs : List Acc} {i : Nat} {x : Acc} {gs : List (Nat × Grp)} {op : List Nat} {R : List GO}

theorem Sim.grp (h : Sim gs op R) {p : Nat × Grp} (hp : p ∈ gs) : grpOf gs p.1 = p.2 := grpOf_mem h.ids hp
theorem Sim.filter (h : Sim gs op R) (f : Nat → Bool) (F : GO → Bool) (hf : ∀ p ∈ gs, p.1 ∈ op → f p.1 = F (p.2, true)) : Sim gs (op.filter (fun g => !f g)) (R.map (shutIf F)) where
  eq := by
    rw [h.eq, List.map_map]
    apply List.map_congr_left
    intro p hp
    by_cases ho : p.1 ∈ op
    · simp [shutIf, ho, hf p hp ho]
    · simp [shutIf, ho]
  nod := h.nod.filter _
  ids := h.ids
  sub g hg := h.sub g (List.mem_filter.1 hg).1
  uniq p hp q hq h1 h2 := h.uniq p hp q hq (List.mem_filter.1 h1).1 (List.mem_filter.1 h2).1
theorem Sim.snoc (h : Sim gs op R) {g0 : Nat} (hg : ∀ p ∈ gs, p.1 ≠ g0) (y : Grp) : Sim (gs ++ [(g0, y)]) op (R ++ [(y, false)]) where
  eq := by
    rw [h.eq, List.map_append]
    have : g0 ∉ op := fun ho => by
      obtain ⟨p, hp, e⟩ := List.mem_map.1 (h.sub g0 ho)
      exact hg p hp e
    simp [this]
  nod := h.nod
  ids := by
    rw [List.map_append]
    refine List.nodup_append.2 ⟨h.ids, by simp, ?_⟩
    intro a ha b hb e
    simp at hb
    obtain ⟨p, hp, rfl⟩ := List.mem_map.1 ha
    exact hg p hp (e.trans hb)
  sub g ho := by rw [List.map_append]; exact List.mem_append_left _ (h.sub g ho)
  uniq p hp q hq h1 h2 := by
    have no : ∀ r ∈ gs ++ [(g0, y)], r.1 ∈ op → r ∈ gs := by
      intro r hr ho
      rcases List.mem_append.1 hr with hr | hr
      · exact hr
      · simp at hr; subst hr
        obtain ⟨p, hp, e⟩ := List.mem_map.1 (h.sub _ ho)
        exact absurd e (hg p hp)
    exact h.uniq p (no p hp h1) q (no q hq h2) h1 h2
theorem Sim.open_ (h : Sim gs op R) {g0 : Nat} {y : Grp} (hn : g0 ∉ op) (hu : ∀ p ∈ gs, p.1 ∈ op → ¬ (p.2.task = y.task ∧ p.2.frm = y.frm ∧ p.2.at' = y.at' ∧ p.2.kind = y.kind)) (hy : (g0, y) ∈ gs) (R' : List GO) (hR : R' = gs.map (fun p => (p.2, decide (p.1 ∈ op ++ [g0])))) : Sim gs (op ++ [g0]) R' where
  eq := hR
  nod := List.nodup_append.2 ⟨h.nod, by simp, by intro a ha b hb e; simp at hb; subst hb; subst e; exact hn ha⟩
  ids := h.ids
  sub g ho := by
    rcases List.mem_append.1 ho with ho | ho
    · exact h.sub g ho
    · simp at ho; subst ho; exact List.mem_map_of_mem (f := Prod.fst) hy
  uniq p hp q hq h1 h2 e1 e2 e3 e4 := by
    have hy' : ∀ r ∈ gs, r.1 = g0 → r.2 = y := fun r hr e => by rw [← h.grp hr, e]; exact h.grp hy
    rcases List.mem_append.1 h1 with h1 | h1
    · rcases List.mem_append.1 h2 with h2 | h2
      · exact h.uniq p hp q hq h1 h2 e1 e2 e3 e4
      · simp at h2; rw [hy' q hq h2] at e1 e2 e3 e4
        exact absurd ⟨e1, e2, e3, e4⟩ (hu p hp h1)
    · simp at h1
      rcases List.mem_append.1 h2 with h2 | h2
      · rw [hy' p hp h1] at e1 e2 e3 e4
        exact absurd ⟨e1.symm, e2.symm, e3.symm, e4.symm⟩ (hu q hq h2)
      · simp at h2; rw [h1, h2]

theorem addMem_keys (gs : List (Nat × Grp)) (g i : Nat) : (addMem gs g i).map (·.1) = gs.map (·.1) := by
  unfold addMem; rw [List.map_map]
  apply List.map_congr_left
  intro p _
  by_cases e : p.1 = g <;> simp [e]
theorem putN_sync (g0 : Nat) (hk : dataB x = false) : putN xs i x g0 gs op = if x.frm = x.at' then (gs, op.filter (fun g => !p1 gs x g)) else (gs ++ [(g0, newG x i)], op.filter (fun g => !p1 gs x g)) := by
  unfold dataB at hk
  simp at hk
  unfold putN; rw [if_pos hk]
theorem kinds_of (hk : dataB x = true) : ¬ (x.kind ≠ 1 ∧ x.kind ≠ 2) := by
  unfold dataB at hk; simp at hk; omega

theorem Sim.add (h : Sim gs op R) {g : Nat} (hg : g ∈ op) (hp : p3 gs x g = true) (i : Nat) : Sim (addMem gs g i) op (R.map (addIf x i)) where
  eq := by
    rw [h.eq, addMem, List.map_map, List.map_map]
    apply List.map_congr_left
    intro p hp'
    by_cases e : p.1 = g
    · have : qB x (p.2, true) = true := by
        unfold p3 at hp; rw [← e, h.grp hp'] at hp
        unfold qB; simpa using hp
      simp [addIf, e, hg, this]
    · have : qB x (p.2, decide (p.1 ∈ op)) = false := by
        by_cases ho : p.1 ∈ op
        · cases hq : qB x (p.2, true) with
          | false => simp [ho, hq]
          | true =>
            exfalso; apply e
            obtain ⟨r, hr, rfl⟩ := List.mem_map.1 (h.sub g hg)
            unfold p3 at hp; rw [h.grp hr] at hp
            unfold qB at hq
            simp only [alikeB, Bool.true_and, Bool.and_eq_true, beq_iff_eq] at hp hq
            exact h.uniq p hp' r hr ho hg (by rw [hq.1.1.1, hp.1.1.1]) (by rw [hq.1.1.2, hp.1.1.2]) (by rw [hq.1.2, hp.1.2]) (by rw [hq.2, hp.2])
        · simp [qB, ho]
      simp [addIf, e, this]
  nod := h.nod
  ids := by rw [addMem_keys]; exact h.ids
  sub g' ho := by rw [addMem_keys]; exact h.sub g' ho
  uniq p hp q hq h1 h2 e1 e2 e3 e4 := by
    obtain ⟨p', hp', rfl⟩ := List.mem_map.1 hp
    obtain ⟨q', hq', rfl⟩ := List.mem_map.1 hq
    have k : ∀ p : Nat × Grp, ((if p.1 = g then (g, { p.2 with mem := p.2.mem ++ [i] }) else p) : Nat × Grp).1 = p.1 ∧ ((if p.1 = g then (g, { p.2 with mem := p.2.mem ++ [i] }) else p) : Nat × Grp).2.task = p.2.task ∧ ((if p.1 = g then (g, { p.2 with mem := p.2.mem ++ [i] }) else p) : Nat × Grp).2.frm = p.2.frm ∧ ((if p.1 = g then (g, { p.2 with mem := p.2.mem ++ [i] }) else p) : Nat × Grp).2.at' = p.2.at' ∧ ((if p.1 = g then (g, { p.2 with mem := p.2.mem ++ [i] }) else p) : Nat × Grp).2.kind = p.2.kind := by
      intro p; by_cases e : p.1 = g <;> simp [e]
    obtain ⟨a1, a2, a3, a4, a5⟩ := k p'
    obtain ⟨b1, b2, b3, b4, b5⟩ := k q'
    rw [a1] at h1 ⊢; rw [b1] at h2 ⊢
    rw [a2, b2] at e1; rw [a3, b3] at e2; rw [a4, b4] at e3; rw [a5, b5] at e4
    exact h.uniq p' hp' q' hq' h1 h2 e1 e2 e3 e4

theorem Sim.put (h : Sim gs op R) (g0 : Nat) (hg : ∀ p ∈ gs, p.1 ≠ g0) : Sim (putN xs i x g0 gs op).1 (putN xs i x g0 gs op).2 (stepR xs i x R) := by
  unfold stepR
  by_cases hk : dataB x = true
  · rw [if_pos hk]
    have h1 := h.filter (p2 gs xs x) (cutB xs x) (fun p hp _ => by unfold p2 cutB; rw [h.grp hp])
    unfold putN
    rw [if_neg (kinds_of hk)]
    by_cases hr : x.frm = x.at'
    · rw [if_pos hr, if_pos hr]; exact h1
    · rw [if_neg hr, if_neg hr]
      generalize op.filter (fun g => !p2 gs xs x g) = op1 at h1 ⊢
      generalize R.map (shutIf (cutB xs x)) = R1 at h1 ⊢
      have anyEq : ∀ (f : Grp → Bool), R1.any (fun p => qB x p && f p.1) = op1.any (fun g => p3 gs x g && f (grpOf gs g)) := by
        intro f
        rw [Bool.eq_iff_iff, List.any_eq_true, List.any_eq_true]
        constructor
        · rintro ⟨p, hp, hq⟩
          rw [h1.eq] at hp
          obtain ⟨r, hr, rfl⟩ := List.mem_map.1 hp
          simp only [Bool.and_eq_true] at hq
          have ho : r.1 ∈ op1 := by have := hq.1; unfold qB at this; simp at this; exact this.1
          refine ⟨r.1, ho, ?_⟩
          have := hq.1
          unfold qB at this
          unfold p3; rw [h1.grp hr]
          simp only [Bool.and_eq_true] at this ⊢
          exact ⟨this.2, hq.2⟩
        · rintro ⟨g, ho, hq⟩
          obtain ⟨r, hr, rfl⟩ := List.mem_map.1 (h1.sub g ho)
          refine ⟨(r.2, decide (r.1 ∈ op1)), by rw [h1.eq]; exact List.mem_map_of_mem hr, ?_⟩
          unfold p3 at hq; rw [h1.grp hr] at hq
          unfold qB
          simpa [ho] using hq
      have fresh : g0 ∉ op1 := fun ho => by
        obtain ⟨p, hp, e⟩ := List.mem_map.1 (h1.sub g0 ho)
        exact hg p hp e
      have new : Sim (gs ++ [(g0, newG x i)]) (op1.filter (fun g => !p3 gs x g) ++ [g0]) (R1.map (shutIf (qB x)) ++ [(newG x i, true)]) := by
        have h2 := h1.filter (p3 gs x) (qB x) (fun p hp _ => by unfold p3 qB; rw [h1.grp hp]; simp)
        have h3 := h2.snoc hg (newG x i)
        refine h3.open_ (y := newG x i) (fun ho => fresh (List.mem_filter.1 ho).1) ?_ (by simp) _ ?_
        · rintro p hp ho ⟨e1, e2, e3, e4⟩
          have ho' := List.mem_filter.1 ho
          rcases List.mem_append.1 hp with hp | hp
          · have := ho'.2
            unfold p3 alikeB at this
            rw [h1.grp hp, e1, e2, e3, e4] at this
            simp [newG] at this
          · simp at hp; subst hp; exact fresh ho'.1
        · have e := h3.eq
          rw [List.map_append] at e
          have e' := List.append_inj_left' e (by simp)
          rw [List.map_append, e']
          congr 1
          · apply List.map_congr_left
            intro p hp
            have : p.1 ≠ g0 := hg p hp
            simp [this]
          · simp
      cases hf : op1.find? (p3 gs x) with
      | none =>
        have : R1.any (fun p => qB x p && decide (p.1.mem.length < 64)) = false := by
          rw [anyEq (fun g => decide (g.mem.length < 64)), List.any_eq_false]
          intro g hg'
          have := List.find?_eq_none.1 hf g hg'
          simp only [Bool.not_eq_true] at this
          simp [this]
        rw [if_neg (by rw [this]; decide)]
        exact new
      | some g =>
        have hgm := List.mem_of_find?_eq_some hf
        have hgp := List.find?_some hf
        have same : ∀ g' ∈ op1, p3 gs x g' = true → g' = g := by
          intro g' hg' hp'
          obtain ⟨r, hr, rfl⟩ := List.mem_map.1 (h1.sub g' hg')
          obtain ⟨s, hs, rfl⟩ := List.mem_map.1 (h1.sub g hgm)
          unfold p3 at hp' hgp
          rw [h1.grp hr] at hp'; rw [h1.grp hs] at hgp
          simp only [alikeB, Bool.and_eq_true, beq_iff_eq] at hp' hgp
          exact h1.uniq r hr s hs hg' hgm (by rw [hp'.1.1.1, hgp.1.1.1]) (by rw [hp'.1.1.2, hgp.1.1.2]) (by rw [hp'.1.2, hgp.1.2]) (by rw [hp'.2, hgp.2])
        dsimp only
        by_cases hl : (grpOf gs g).mem.length < 64
        · rw [if_pos hl, if_pos]
          · exact h1.add hgm hgp i
          · rw [anyEq (fun g => decide (g.mem.length < 64)), List.any_eq_true]
            exact ⟨g, hgm, by simp [hgp, hl]⟩
        · rw [if_neg hl, if_neg]
          · exact new
          · rw [anyEq (fun g => decide (g.mem.length < 64)), List.any_eq_true]
            rintro ⟨g', hg', hq⟩
            simp only [Bool.and_eq_true, decide_eq_true_eq] at hq
            rw [same g' hg' hq.1] at hq
            exact hl hq.2
  · rw [if_neg hk]
    have hk' : dataB x = false := by simpa using hk
    rw [putN_sync g0 hk']
    have h1 := h.filter (p1 gs x) (fun p => p.1.task == x.task) (fun p hp _ => by unfold p1; rw [h.grp hp])
    by_cases hr : x.frm = x.at'
    · rw [if_pos hr, if_pos hr]; exact h1
    · rw [if_neg hr, if_neg hr]; exact h1.snoc hg _
end
end Go.Proofs.YtghjhlenkgkelaaGreatDoor
