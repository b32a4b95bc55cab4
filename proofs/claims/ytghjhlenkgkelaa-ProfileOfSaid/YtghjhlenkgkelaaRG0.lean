/- DERIVED. The reference's groups on their way: the row of groups, and each group's row of members. -/
import Derived.Test.YtghjhlenkgkelaaRSp2
import Derived.Test.YtghjhlenkgkelaaGrps
set_option linter.unusedSimpArgs false
set_option linter.unusedVariables false
namespace Go.Proofs.Ytghjhlenkgkelaa
open Go.RowKit Go.Shelf Go.Sort

abbrev GV := GO × Value
def encRG (q : GV) : List Value := [.int .i64 q.1.1.task, .int .i64 q.1.1.kind, .int .i64 q.1.1.frm, .int .i64 q.1.1.at', q.2, .bool q.1.2]
theorem rgrp_info : (Try.prog.info? 86).map (fun i => (i.zero, i.size, i.bytes)) = some (some (.agg #[.int .i64 0, .int .i64 0, .int .i64 0, .int .i64 0, .slice none 0 0, .bool false]), 6, 64) := by kernel_rfl

structure RG (w : World) (base : Nat) (v : Value) (L : List GV) : Prop where
  row : w.ownsRow base 86 6 v L.length (L.flatMap encRG)
  mem : ∀ q ∈ L, w.ownsRow base 3 1 q.2 q.1.1.mem.length (q.1.1.mem.map intV)
  ne : ∀ q ∈ L, q.1.1.mem ≠ []
  dis : (L.map (fun q => q.2.ownBlock)).Nodup

section
variable {w w' : World} {base : Nat} {v : Value} {L : List GV}
theorem rg_len (L : List GV) : (L.flatMap encRG).length = L.length * 6 := flat_len (enc := encRG) (k := 6) (fun _ => rfl) L
theorem RG.nil (w : World) (base : Nat) : RG w base (.slice none 0 0) [] := ⟨World.ownsRow_nil _ _ _ _, by simp, by simp, by simp⟩
theorem RG.below (h : RG w base v L) (hb : Below w.heap.size w w') : RG w' base v L :=
  ⟨h.row.kept (grown_of_below (row := none) hb) (none_or _), fun q hq => (h.mem q hq).kept (grown_of_below (row := none) hb) (none_or _), h.ne, h.dis⟩
theorem RG.alloc (h : RG w base v L) (o : Obj) : RG (w.alloc o) base v L := h.below ((Below.refl _ w).alloc (Nat.le_refl _) o)
theorem own_some {e : TypeId} {size : Nat} {u : Value} {n : Nat} {xs : List Value} (h : w.ownsRow base e size u n xs) (hn : 0 < n) : ∃ b, u.ownBlock = some b := by
  rcases h.2 with ⟨rfl, h0⟩ | ⟨g, cap, cur, rfl, _⟩
  · omega
  · exact ⟨g, rfl⟩
theorem RG.mem_some (h : RG w base v L) {q : GV} (hq : q ∈ L) : ∃ b, q.2.ownBlock = some b :=
  own_some (h.mem q hq) (List.length_pos_iff.2 (h.ne q hq))
theorem RG.row_ne (h : RG w base v L) {q : GV} (hq : q ∈ L) : q.2.ownBlock ≠ v.ownBlock := by
  obtain ⟨b, hb⟩ := h.mem_some hq
  rcases own_own_ne (h.mem q hq) h.row (by decide) with h1 | h1
  · rw [hb] at h1; cases h1
  · exact h1
theorem nodup_at {α : Type} {f : GV → α} {i j : Nat} {p q : GV} (hd : (L.map f).Nodup) (hi : L[i]? = some p) (hj : L[j]? = some q) (hne : i ≠ j) : f p ≠ f q := by
  intro e
  have hi' : (L.map f)[i]? = some (f p) := by rw [List.getElem?_map, hi]; rfl
  have hj' : (L.map f)[j]? = some (f q) := by rw [List.getElem?_map, hj]; rfl
  obtain ⟨l1, e1⟩ := List.getElem?_eq_some_iff.1 hi'
  obtain ⟨l2, e2⟩ := List.getElem?_eq_some_iff.1 hj'
  have hp := List.pairwise_iff_getElem.1 (List.nodup_iff_pairwise_ne.1 hd)
  rcases Nat.lt_or_gt_of_ne hne with h | h
  · exact hp i j l1 l2 h (by rw [e1, e2, e])
  · exact hp j i l2 l1 h (by rw [e1, e2, e])
theorem rg_set {n c g j f : Nat} {q q' : GV} {u : Value} (h : w.ownsRow base 86 6 (.slice (some ⟨g, 0, none⟩) n c) n (L.flatMap encRG)) (hq : L[j]? = some q) (hf : f < 6) (he : encRG q' = (encRG q).set f u) :
    (w.setCell ⟨g, j * 6 + f, none⟩ u).ownsRow base 86 6 (.slice (some ⟨g, 0, none⟩) n c) n ((L.set j q').flatMap encRG) := by
  have hjl := (List.getElem?_eq_some_iff.1 hq).1
  have := own_row_set h (j := j * 6 + f) (u := u) (by rw [rg_len]; omega)
  rwa [flat_set (k := 6) (fun _ => rfl) hq hf he] at this
/-- a group closed -/
theorem RG.shut {n c g j : Nat} {q : GV} (h : RG w base (.slice (some ⟨g, 0, none⟩) n c) L) (hq : L[j]? = some q) : RG (w.setCell ⟨g, j * 6 + 5, none⟩ (.bool false)) base (.slice (some ⟨g, 0, none⟩) n c) (L.set j ((q.1.1, false), q.2)) := by
  have hn : n = L.length := by
    obtain ⟨A, c', hv, _⟩ := own_slice h.row
    injection hv
  have hrow := h.row
  rw [← hn] at hrow
  have hjl := (List.getElem?_eq_some_iff.1 hq).1
  have hsub : ∀ p ∈ L.set j ((q.1.1, false), q.2), ∃ p0 ∈ L, p.2 = p0.2 ∧ p.1.1 = p0.1.1 := by
    intro p hp
    rcases List.mem_or_eq_of_mem_set hp with hp | rfl
    · exact ⟨p, hp, rfl, rfl⟩
    · exact ⟨q, List.mem_of_getElem? hq, rfl, rfl⟩
  refine ⟨by rw [List.length_set, ← hn]; exact rg_set hrow hq (by omega) rfl, fun p hp => ?_, fun p hp => ?_, ?_⟩
  · obtain ⟨p0, hp0, e1, e2⟩ := hsub p hp
    rw [e1, e2]
    exact own_set (h.mem p0 hp0) (fun e => h.row_ne hp0 (by rw [← e]; rfl)) _ _
  · obtain ⟨p0, hp0, _, e2⟩ := hsub p hp
    rw [e2]; exact h.ne p0 hp0
  · have : (L.set j ((q.1.1, false), q.2)).map (fun q => q.2.ownBlock) = L.map (fun q => q.2.ownBlock) := by
      apply List.ext_getElem?
      intro i
      rw [List.getElem?_map, List.getElem?_map, List.getElem?_set]
      split
      · rename_i e; subst e; have := (List.getElem?_eq_some_iff.1 hq).2; simp [hjl, this]
      · rfl
    rw [this]; exact h.dis
/-- a new group -/
theorem RG.push {q : GV} {w1 : World} {v' : Value} (h : RG w base v L) (hm : w.ownsRow base 3 1 q.2 q.1.1.mem.length (q.1.1.mem.map intV)) (hne : q.1.1.mem ≠ []) (hnew : ∀ p ∈ L, p.2.ownBlock ≠ q.2.ownBlock)
    (hg : w.grownBy w1 v.ownBlock) (hrow : w1.ownsRow base 86 6 v' (L.length + 1) (L.flatMap encRG ++ encRG q)) : RG w1 base v' (L ++ [q]) := by
  refine ⟨by rw [List.length_append, List.flatMap_append]; simpa using hrow, fun p hp => ?_, fun p hp => ?_, ?_⟩
  · rcases List.mem_append.1 hp with hp | hp
    · exact (h.mem p hp).kept hg (.inr (h.row_ne hp))
    · simp at hp; subst hp
      exact hm.kept hg (by
        rcases own_own_ne hm h.row (by decide) with h1 | h1
        · exact .inl h1
        · exact .inr h1)
  · rcases List.mem_append.1 hp with hp | hp
    · exact h.ne p hp
    · simp at hp; subst hp; exact hne
  · rw [List.map_append]
    refine List.nodup_append.2 ⟨h.dis, by simp, ?_⟩
    intro a ha b hb e
    simp at hb
    obtain ⟨p, hp, rfl⟩ := List.mem_map.1 ha
    exact hnew p hp (e.trans hb)
/-- a member more -/
theorem RG.addMem {n c g j i : Nat} {q : GV} {w1 : World} {v' : Value} (h : RG w base (.slice (some ⟨g, 0, none⟩) n c) L) (hq : L[j]? = some q) (hg : w.grownBy w1 q.2.ownBlock) (hrow : w1.ownsRow base 3 1 v' (q.1.1.mem.length + 1) (q.1.1.mem.map intV ++ [intV i])) (hob : v'.ownBlock = q.2.ownBlock ∨ v'.ownBlock = some w.heap.size) :
    RG (w1.setCell ⟨g, j * 6 + 4, none⟩ v') base (.slice (some ⟨g, 0, none⟩) n c) (L.set j (({ q.1.1 with mem := q.1.1.mem ++ [i] }, q.1.2), v')) := by
  have hn : n = L.length := by
    obtain ⟨A, c', hv, _⟩ := own_slice h.row
    injection hv
  have hqm := List.mem_of_getElem? hq
  have hjl := (List.getElem?_eq_some_iff.1 hq).1
  have hrow1 := h.row.kept hg (.inr (Ne.symm (h.row_ne hqm)))
  rw [← hn] at hrow1
  have hgl : g < w.heap.size := (own_lt h.row rfl).2
  have hv'g : some g ≠ v'.ownBlock := by
    rcases hob with e | e
    · rw [e]; exact fun e' => h.row_ne hqm (by rw [← e']; rfl)
    · rw [e]; intro e'; injection e' with e'; omega
  have key : ∀ p ∈ L.set j (({ q.1.1 with mem := q.1.1.mem ++ [i] }, q.1.2), v'), (p = (({ q.1.1 with mem := q.1.1.mem ++ [i] }, q.1.2), v')) ∨ ∃ k, k ≠ j ∧ L[k]? = some p := by
    intro p hp
    obtain ⟨k, hk⟩ := List.getElem?_of_mem hp
    rw [List.getElem?_set] at hk
    split at hk
    · rename_i e; subst e
      simp [hjl] at hk
      exact .inl hk.symm
    · rename_i e; exact .inr ⟨k, fun e' => e e'.symm, hk⟩
  have hdis : ∀ k p, k ≠ j → L[k]? = some p → p.2.ownBlock ≠ q.2.ownBlock := fun k p hkj hk => nodup_at (f := fun q => q.2.ownBlock) h.dis hk hq hkj
  refine ⟨by rw [List.length_set, ← hn]; exact rg_set hrow1 hq (by omega) rfl, fun p hp => ?_, fun p hp => ?_, ?_⟩
  · rcases key p hp with rfl | ⟨k, hkj, hk⟩
    · have := own_set hrow hv'g (j * 6 + 4) v'
      simpa using this
    · have hpm := List.mem_of_getElem? hk
      have h1 := (h.mem p hpm).kept hg (.inr (hdis k p hkj hk))
      exact own_set h1 (fun e => h.row_ne hpm (by rw [← e]; rfl)) _ _
  · rcases key p hp with rfl | ⟨k, _, hk⟩
    · simp
    · exact h.ne p (List.mem_of_getElem? hk)
  · have e : (L.set j (({ q.1.1 with mem := q.1.1.mem ++ [i] }, q.1.2), v')).map (fun q => q.2.ownBlock) = (L.map (fun q => q.2.ownBlock)).set j v'.ownBlock := by rw [List.map_set]
    rw [e, List.nodup_iff_pairwise_ne, List.pairwise_iff_getElem]
    intro a b ha hb hab
    rw [List.length_set, List.length_map] at ha hb
    rw [List.getElem_set, List.getElem_set]
    have old : ∀ k (hk : k < L.length), k ≠ j → v'.ownBlock ≠ (L[k]).2.ownBlock := by
      intro k hk hkj e
      rcases hob with e1 | e1
      · exact hdis k _ hkj (List.getElem?_eq_getElem hk) (by rw [← e, e1])
      · obtain ⟨b', hb'⟩ := h.mem_some (List.getElem_mem hk)
        have := (own_lt (h.mem _ (List.getElem_mem hk)) hb').2
        rw [e1, hb'] at e; injection e with e; omega
    split
    · rename_i e1; subst e1
      rw [if_neg (by omega), List.getElem_map]
      exact old b hb (by omega)
    · split
      · rename_i _ e1; subst e1
        rw [List.getElem_map]
        exact (old a ha (by omega)).symm
      · have := List.pairwise_iff_getElem.1 (List.nodup_iff_pairwise_ne.1 h.dis) a b (by simpa using ha) (by simpa using hb) hab
        simpa using this
end

/-- a step over the groups, the values of the members kept -/
def mapG (f : GO → GO) (L : List GV) : List GV := L.map (fun q => (f q.1, q.2))
theorem mapG_fst (f : GO → GO) (L : List GV) : (mapG f L).map (·.1) = (L.map (·.1)).map f := by simp [mapG]
theorem mapG_len (f : GO → GO) (L : List GV) : (mapG f L).length = L.length := by simp [mapG]
/-- the first j of the groups changed -/
def upto (f : GO → GO) (L : List GV) (j : Nat) : List GV := (mapG f L).take j ++ L.drop j
theorem upto_zero (f : GO → GO) (L : List GV) : upto f L 0 = L := by simp [upto]
theorem upto_all (f : GO → GO) (L : List GV) : upto f L L.length = mapG f L := by
  unfold upto
  rw [List.take_of_length_le (by rw [mapG_len]; exact Nat.le_refl _), List.drop_of_length_le (Nat.le_refl _), List.append_nil]
theorem upto_len (f : GO → GO) (L : List GV) (j : Nat) (hj : j ≤ L.length) : (upto f L j).length = L.length := by
  unfold upto; rw [List.length_append, List.length_take, mapG_len, List.length_drop]; omega
theorem upto_at (f : GO → GO) (L : List GV) {j : Nat} {q : GV} (hq : L[j]? = some q) : (upto f L j)[j]? = some q := by
  have hj := (List.getElem?_eq_some_iff.1 hq).1
  unfold upto
  rw [List.getElem?_append_right (by rw [List.length_take, mapG_len]; omega), List.length_take, mapG_len, List.getElem?_drop]
  rw [show j + (j - min j L.length) = j by omega]; exact hq
theorem upto_succ (f : GO → GO) (L : List GV) {j : Nat} {q : GV} (hq : L[j]? = some q) : upto f L (j + 1) = (upto f L j).set j (f q.1, q.2) := by
  have hj := (List.getElem?_eq_some_iff.1 hq).1
  unfold upto
  rw [List.set_append_right _ _ (by rw [List.length_take, mapG_len]; omega), List.length_take, mapG_len]
  have e : (mapG f L)[j]? = some (f q.1, q.2) := by unfold mapG; rw [List.getElem?_map, hq]; rfl
  rw [List.take_add_one, e, drop_cons hq, show j - min j L.length = 0 by omega, List.set_cons_zero]
  simp
theorem set_self {α : Type} {l : List α} {j : Nat} {a : α} (h : l[j]? = some a) : l.set j a = l := by
  obtain ⟨hl, rfl⟩ := List.getElem?_eq_some_iff.1 h
  exact List.set_getElem_self hl
theorem upto_keep (f : GO → GO) (L : List GV) {j : Nat} {q : GV} (hq : L[j]? = some q) (hf : f q.1 = q.1) : upto f L (j + 1) = upto f L j := by
  rw [upto_succ f L hq, hf]; exact set_self (upto_at f L hq)

/-- the number of the last group for x -/
def fndUp (x : Acc) (R : List GO) : Nat → Int
  | 0 => -1
  | k + 1 => match R[k]? with | some p => if qB x p then (k : Int) else fndUp x R k | none => fndUp x R k
theorem fnd_spec (x : Acc) (R : List GO) : ∀ k, k ≤ R.length → (fndUp x R k = -1 ∧ ∀ j p, j < k → R[j]? = some p → qB x p = false) ∨ ∃ j p, j < k ∧ fndUp x R k = (j : Int) ∧ R[j]? = some p ∧ qB x p = true
  | 0, _ => .inl ⟨rfl, by intro j p h; omega⟩
  | k + 1, hk => by
    obtain ⟨p, hp⟩ := get_some (xs := R) (k := k) (by omega)
    unfold fndUp
    rw [hp]
    cases hq : qB x p with
    | true => right; exact ⟨k, p, by omega, by simp [hq], hp, hq⟩
    | false =>
      simp only [hq, Bool.false_eq_true, if_false]
      rcases fnd_spec x R k (by omega) with ⟨h1, h2⟩ | ⟨j, p', h1, h2, h3, h4⟩
      · left
        refine ⟨h1, fun j p' hj hp' => ?_⟩
        rcases Nat.lt_or_ge j k with h | h
        · exact h2 j p' h hp'
        · obtain rfl : j = k := by omega
          rw [hp] at hp'; injection hp' with hp'; subst hp'; exact hq
      · right; exact ⟨j, p', by omega, h2, h3, h4⟩
theorem map_at {R : List GO} {f : GO → GO} {j : Nat} {p : GO} (hp : R[j]? = some p) (h : ∀ k q, k ≠ j → R[k]? = some q → f q = q) : R.map f = R.set j (f p) := by
  apply List.ext_getElem?
  intro k
  rw [List.getElem?_map, List.getElem?_set]
  have hj := (List.getElem?_eq_some_iff.1 hp).1
  by_cases e : j = k
  · subst e; have := (List.getElem?_eq_some_iff.1 hp).2; simp [hj, this]
  · rw [if_neg e]
    cases hk : R[k]? with
    | none => rfl
    | some q => simp [h k q (fun e' => e e'.symm) hk]
section
variable {xs : List Acc} {i m : Nat} {x : Acc} {R : List GO}
theorem Inv.only (h : Inv xs i m R) {j k : Nat} {p q : GO} (hp : R[j]? = some p) (hq : R[k]? = some q) (hb : qB x p = true) (hkj : k ≠ j) : qB x q = false := by
  cases hc : qB x q with
  | false => rfl
  | true =>
    exfalso
    obtain ⟨a0, a1, a2, a3, a4⟩ := qB_key hb
    obtain ⟨b0, b1, b2, b3, b4⟩ := qB_key hc
    obtain ⟨l1, e1⟩ := List.getElem?_eq_some_iff.1 hp
    obtain ⟨l2, e2⟩ := List.getElem?_eq_some_iff.1 hq
    have hu := List.pairwise_iff_getElem.1 h.uq
    rcases Nat.lt_or_gt_of_ne hkj with hlt | hlt
    · have := hu k j l2 l1 hlt
      rw [e1, e2] at this
      exact this b0 a0 ⟨b1.trans a1.symm, b2.trans a2.symm, b3.trans a3.symm, b4.trans a4.symm⟩
    · have := hu j k l1 l2 hlt
      rw [e1, e2] at this
      exact this a0 b0 ⟨a1.trans b1.symm, a2.trans b2.symm, a3.trans b3.symm, a4.trans b4.symm⟩
/-- the groups behind a read or a write, by the number found -/
theorem step_local (hd : dataB x = true) (hl : x.frm = x.at') : stepR xs i x R = R.map (shutIf (cutB xs x)) := by
  unfold stepR; rw [if_pos hd]; simp only [if_pos hl]
theorem step_sync (hd : dataB x = false) : stepR xs i x R = if x.frm = x.at' then R.map (shutIf (fun p => p.1.task == x.task)) else R.map (shutIf (fun p => p.1.task == x.task)) ++ [(newG x i, false)] := by
  unfold stepR; rw [if_neg (by rw [hd]; decide)]
theorem step_none (hd : dataB x = true) (hl : x.frm ≠ x.at') (hn : ∀ p ∈ R.map (shutIf (cutB xs x)), qB x p = false) : stepR xs i x R = R.map (shutIf (cutB xs x)) ++ [(newG x i, true)] := by
  unfold stepR; rw [if_pos hd]; simp only [if_neg hl]
  rw [if_neg]
  · congr 1
    conv => rhs; rw [← List.map_id (R.map (shutIf (cutB xs x)))]
    apply List.map_congr_left
    intro p hp
    simp [shutIf, hn p hp]
  · intro h
    obtain ⟨p, hp, hb⟩ := List.any_eq_true.1 h
    rw [hn p hp] at hb; simp at hb
theorem step_add {R1 : List GO} (hd : dataB x = true) (hl : x.frm ≠ x.at') (hR : R1 = R.map (shutIf (cutB xs x))) (hI : Inv xs i m R1) {f : Nat} {p : GO} (hp : R1[f]? = some p) (hq : qB x p = true) (h64 : p.1.mem.length < 64) : stepR xs i x R = R1.set f ({ p.1 with mem := p.1.mem ++ [i] }, p.2) := by
  unfold stepR; rw [if_pos hd]; simp only [if_neg hl]
  rw [← hR, if_pos (List.any_eq_true.2 ⟨p, List.mem_of_getElem? hp, by simp [hq, h64]⟩), map_at hp (fun k q hk hkq => by simp [addIf, hI.only hp hkq hq hk])]
  simp [addIf, hq]
theorem step_full {R1 : List GO} (hd : dataB x = true) (hl : x.frm ≠ x.at') (hR : R1 = R.map (shutIf (cutB xs x))) (hI : Inv xs i m R1) {f : Nat} {p : GO} (hp : R1[f]? = some p) (hq : qB x p = true) (h64 : ¬ p.1.mem.length < 64) : stepR xs i x R = R1.set f (p.1, false) ++ [(newG x i, true)] := by
  unfold stepR; rw [if_pos hd]; simp only [if_neg hl]
  rw [← hR, if_neg]
  · rw [map_at hp (fun k q hk hkq => by simp [shutIf, hI.only hp hkq hq hk])]
    simp [shutIf, hq]
  · intro h
    obtain ⟨q, hqm, hb⟩ := List.any_eq_true.1 h
    obtain ⟨k, hk⟩ := List.getElem?_of_mem hqm
    simp only [Bool.and_eq_true, decide_eq_true_eq] at hb
    by_cases e : k = f
    · subst e; rw [hp] at hk; injection hk with hk; subst hk; omega
    · rw [hI.only hp hk hq e] at hb; exact absurd hb.1 (by decide)
end
end Go.Proofs.Ytghjhlenkgkelaa
