/- DERIVED. The reference's spots are the program's. -/
import Derived.Test.YtghjhlenkgkelaaRSp
set_option linter.unusedSimpArgs false
set_option linter.unusedVariables false
namespace Go.Proofs.Ytghjhlenkgkelaa
open Go.RowKit Go.Shelf Go.Sort

theorem lt3_trans {x y z : K3} (h : lt3 x y) (g : lt3 y z) : lt3 x z := by unfold lt3 at *; omega
theorem lt3_irr (x : K3) : ¬ lt3 x x := by unfold lt3; omega
/-- sl is the map R in order -/
structure Ord3 (sl : List Spt) (R : List (K3 × Spt)) : Prop where
  asc : (sl.map (·.place)).Pairwise lt3
  val : ∀ s ∈ sl, look R s.place = some s
  all_ : ∀ p, look R p ≠ none → p ∈ sl.map (·.place)
theorem pos_cons (a : Spt) (sl : List Spt) (p : K3) : posOf (a :: sl) p = if lt3 a.place p then posOf sl p + 1 else 0 := by
  unfold posOf
  rw [List.takeWhile_cons]
  by_cases h : lt3 a.place p <;> simp [h]
theorem pos_before : ∀ {sl : List Spt} {p : K3} {s : Spt}, s ∈ sl.take (posOf sl p) → lt3 s.place p
  | [], _, _, h => by simp at h
  | a :: sl, p, s, h => by
    rw [pos_cons] at h
    split at h
    · rename_i ha
      rw [List.take_succ_cons, List.mem_cons] at h
      rcases h with rfl | h
      · exact ha
      · exact pos_before h
    · simp at h
theorem pos_after {sl : List Spt} {p : K3} {s : Spt} (h : sl[posOf sl p]? = some s) : ¬ lt3 s.place p := by
  induction sl with
  | nil => simp at h
  | cons a sl ih =>
    by_cases ha : lt3 a.place p
    · have e : posOf (a :: sl) p = posOf sl p + 1 := by unfold posOf; rw [List.takeWhile_cons]; simp [ha]
      rw [e] at h
      exact ih (by simpa using h)
    · have e : posOf (a :: sl) p = 0 := by unfold posOf; rw [List.takeWhile_cons]; simp [ha]
      rw [e] at h
      simp at h; subst h; exact ha
theorem sorted_after : ∀ {sl : List Spt} {p : K3}, (sl.map (·.place)).Pairwise lt3 → (∀ s, sl[posOf sl p]? = some s → s.place ≠ p) → ∀ s ∈ sl.drop (posOf sl p), lt3 p s.place
  | [], _, _, _ => by simp
  | a :: sl, p, hp, hn => by
    rw [List.map_cons, List.pairwise_cons] at hp
    rw [pos_cons] at hn ⊢
    split at hn
    · rename_i ha
      rw [if_pos ha, List.drop_succ_cons]
      exact sorted_after hp.2 (fun s hs => hn s (by simpa using hs))
    · rename_i ha
      rw [if_neg ha, List.drop_zero]
      have h1 : lt3 p a.place := by
        have h2 := hn a rfl
        refine Classical.byContradiction fun h3 => h2 (lt3_tri ha h3)
      intro s hs
      rcases List.mem_cons.1 hs with rfl | hs
      · exact h1
      · exact lt3_trans h1 (hp.1 _ (List.mem_map.2 ⟨s, hs, rfl⟩))
theorem pos_hit {sl : List Spt} {p : K3} (hp : (sl.map (·.place)).Pairwise lt3) (h : p ∈ sl.map (·.place)) : (sl[posOf sl p]?).map (·.place) = some p := by
  refine Classical.byContradiction fun hn => ?_
  obtain ⟨s, hs, rfl⟩ := List.mem_map.1 h
  have ha := sorted_after (p := s.place) hp (fun s' hs' e => hn (by rw [hs']; simp [e]))
  rw [← List.take_append_drop (posOf sl s.place) sl, List.mem_append] at hs
  rcases hs with hs | hs
  · exact lt3_irr _ (pos_before hs)
  · exact lt3_irr _ (ha _ hs)
theorem putS_sorted {sl : List Spt} {p : K3} (hp : (sl.map (·.place)).Pairwise lt3) : ((putS sl p).map (·.place)).Pairwise lt3 := by
  unfold putS
  split
  · exact hp
  · rename_i hn
    have ha := sorted_after (p := p) hp (fun s hs e => hn (by rw [hs]; simp [e]))
    have hb := fun s (hs : s ∈ sl.take (posOf sl p)) => pos_before hs
    have h1 : ((sl.take (posOf sl p)).map (·.place)).Pairwise lt3 := by rw [List.map_take]; exact hp.sublist (List.take_sublist _ _)
    have h2 : ((sl.drop (posOf sl p)).map (·.place)).Pairwise lt3 := by rw [List.map_drop]; exact hp.sublist (List.drop_sublist _ _)
    rw [List.map_append, List.map_cons, List.pairwise_append, List.pairwise_cons]
    refine ⟨h1, ⟨fun q hq => ?_, h2⟩, fun a ha' b hb' => ?_⟩
    · obtain ⟨s, hs, rfl⟩ := List.mem_map.1 hq
      exact ha s hs
    · obtain ⟨s, hs, rfl⟩ := List.mem_map.1 ha'
      rcases List.mem_cons.1 hb' with rfl | hb'
      · exact hb s hs
      · obtain ⟨t, ht, rfl⟩ := List.mem_map.1 hb'
        exact lt3_trans (hb s hs) (ha t ht)
theorem putS_mem {sl : List Spt} {p : K3} {s : Spt} (h : s ∈ putS sl p) : s ∈ sl ∨ s = ⟨p, 0, 0, 0, 0⟩ := by
  unfold putS at h
  split at h
  · exact .inl h
  · rcases List.mem_append.1 h with h | h
    · exact .inl (List.mem_of_mem_take h)
    · rcases List.mem_cons.1 h with h | h
      · exact .inr h
      · exact .inl (List.mem_of_mem_drop h)
theorem putS_sub {sl : List Spt} {p : K3} {s : Spt} (h : s ∈ sl) : s ∈ putS sl p := by
  unfold putS
  split
  · exact h
  · rw [← List.take_append_drop (posOf sl p) sl, List.mem_append] at h
    rcases h with h | h
    · exact List.mem_append_left _ h
    · exact List.mem_append_right _ (List.mem_cons_of_mem _ h)
theorem insS_places (sl : List Spt) (x : Acc) : (insS sl x).map (·.place) = (putS sl x.place).map (·.place) := by
  obtain ⟨s, hs, hp⟩ := putS_at sl x.place
  rw [insS_eq hs, List.map_set]
  apply List.ext_getElem?
  intro i
  rw [List.getElem?_set]
  split
  · rename_i e; subst e
    have hl := (List.getElem?_eq_some_iff.1 hs).1
    simp only [List.length_map, hl, if_true, List.getElem?_map, hs, Option.map_some, spotAdd, hp]
  · rfl
theorem Ord3.step {sl : List Spt} {R : List (K3 × Spt)} (h : Ord3 sl R) (x : Acc) : Ord3 (insS sl x) (spotStep R x) := by
  obtain ⟨s, hs, hp⟩ := putS_at sl x.place
  have hso := putS_sorted (p := x.place) h.asc
  have hsv : spotAdd s x = spotAdd ((look R x.place).getD spot0) x := by
    rcases putS_mem (List.mem_of_getElem? hs) with hm | rfl
    · have := h.val s hm; rw [hp] at this; rw [this]; rfl
    · have hn : look R x.place = none ∨ look R x.place ≠ none := by cases look R x.place <;> simp
      rcases hn with hn | hn
      · rw [hn]; rfl
      · have hit := pos_hit h.asc (h.all_ _ hn)
        have e : putS sl x.place = sl := by unfold putS; rw [if_pos hit]
        rw [e] at hs
        have := h.val _ (List.mem_of_getElem? hs)
        rw [this]; rfl
  refine ⟨by rw [insS_places]; exact hso, fun y hy => ?_, fun q hq => ?_⟩
  · rw [insS_eq hs] at hy
    unfold spotStep
    rw [look_upd]
    obtain ⟨i, hi⟩ := List.getElem?_of_mem hy
    rw [List.getElem?_set] at hi
    split at hi
    · split at hi
      · injection hi with hi; subst hi
        rw [if_pos (show x.place = (spotAdd s x).place from rfl), ← hsv]
      · cases hi
    · rename_i hne
      have hpw := List.pairwise_iff_getElem.1 hso
      have hl1 := (List.getElem?_eq_some_iff.1 hi).1
      have hl2 := (List.getElem?_eq_some_iff.1 hs).1
      have g1 := (List.getElem?_eq_some_iff.1 hi).2
      have g2 := (List.getElem?_eq_some_iff.1 hs).2
      have hpn : x.place ≠ y.place := by
        intro e
        have e2 : ((putS sl x.place)[posOf sl x.place]'hl2).place = ((putS sl x.place)[i]'hl1).place := by rw [g2, g1, hp]; exact e
        rcases Nat.lt_or_gt_of_ne hne with hlt | hlt
        · have := hpw _ _ (by simpa using hl2) (by simpa using hl1) hlt
          rw [List.getElem_map, List.getElem_map, e2] at this
          exact lt3_irr _ this
        · have := hpw _ _ (by simpa using hl1) (by simpa using hl2) hlt
          rw [List.getElem_map, List.getElem_map, e2] at this
          exact lt3_irr _ this
      rw [if_neg hpn]
      rcases putS_mem (List.mem_of_getElem? hi) with hm | rfl
      · exact h.val y hm
      · exact absurd rfl hpn
  · rw [insS_places]
    unfold spotStep at hq
    rw [look_upd] at hq
    split at hq
    · rename_i e; subst e
      exact List.mem_map.2 ⟨s, List.mem_of_getElem? hs, hp⟩
    · obtain ⟨y, hy, e⟩ := List.mem_map.1 (h.all_ q hq)
      exact List.mem_map.2 ⟨y, putS_sub hy, e⟩
theorem foldS_ord : ∀ (l : List Acc) {sl : List Spt} {R : List (K3 × Spt)}, Ord3 sl R → Ord3 (l.foldl insS sl) (l.foldl spotStep R)
  | [], _, _, h => h
  | x :: l, _, _, h => foldS_ord l (h.step x)
theorem refS_ord (xs : List Acc) : Ord3 (refS xs) (spotsR xs) := foldS_ord xs ⟨List.Pairwise.nil, by simp, by intro p h; simp [look] at h⟩
theorem spots_ref {xs : List Acc} {sl : List Spt} (h : IsSpots xs sl) : sl = refS xs := by
  obtain ⟨ts, h1, h2, rfl⟩ := h
  have ho := refS_ord xs
  have hnd : ((refS xs).map (·.place)).Nodup := ho.asc.imp (fun h e => by rw [e] at h; exact lt3_irr _ h)
  have hk : ((refS xs).map (·.place)).Perm ((spotsR xs).map (·.1)) := by
    rw [List.perm_ext_iff_of_nodup hnd (spot_sum xs).2.2]
    intro p
    constructor
    · intro hp
      obtain ⟨s, hs, rfl⟩ := List.mem_map.1 hp
      have hv := ho.val s hs
      exact List.mem_map.2 ⟨_, mem_of_look hv, rfl⟩
    · intro hp
      obtain ⟨q, hq, rfl⟩ := List.mem_map.1 hp
      exact ho.all_ _ (by rw [look_mem (spot_sum xs).2.2 hq]; simp)
  have e : ts = (refS xs).map (·.place) := sorted_eq (fun _ _ => lt3_tri) (h1.trans hk.symm) h2 (ho.asc.imp (fun {a b} h g => lt3_irr _ (lt3_trans h g)))
  subst e
  rw [List.map_map]
  conv => rhs; rw [← List.map_id (refS xs)]
  apply List.map_congr_left
  intro s hs
  simp [ho.val s hs]
end Go.Proofs.Ytghjhlenkgkelaa
