/- DERIVED. Compare in plain words: the merging of two lists of edges tells the changes that the map tells. -/
import Derived.Test.YtghjhlenkgkelaaGreatDoorPCmp2
set_option linter.unusedSimpArgs false
set_option linter.unusedVariables false
namespace Go.Proofs.YtghjhlenkgkelaaGreatDoor
open Go.RowKit Go.Shelf Go.Sort

def posE (y : Edg) : Edg := ⟨y.frm, y.at', wrap64 (0 + y.acc), wrap64 (0 + y.msg)⟩
def bothE (x y : Edg) : Edg := ⟨y.frm, y.at', wrap64 (wrap64 (-x.acc) + y.acc), wrap64 (wrap64 (-x.msg) + y.msg)⟩
def findK (xs : List Edg) (p : K2) : Option Edg := xs.find? (fun x => decide (x.key = p))
theorem findK_cons (x : Edg) (xs : List Edg) (p : K2) : findK (x :: xs) p = if x.key = p then some x else findK xs p := by
  unfold findK; rw [List.find?_cons]; by_cases h : x.key = p <;> simp [h]
theorem findK_none {xs : List Edg} {p : K2} (h : ∀ x ∈ xs, x.key ≠ p) : findK xs p = none := by
  unfold findK; rw [List.find?_eq_none]; intro x hx; simpa using h x hx
theorem findK_key {xs : List Edg} {p : K2} {x : Edg} (h : findK xs p = some x) : x ∈ xs ∧ x.key = p := by
  unfold findK at h
  exact ⟨List.mem_of_find?_eq_some h, by simpa using List.find?_some h⟩
theorem look_A : ∀ (xs : List Edg) (R : List (K2 × Edg)) (p : K2), (xs.map Edg.key).Nodup → look (xs.foldl chgA R) p = match findK xs p with | some x => some (negE x) | none => look R p
  | [], R, p, _ => rfl
  | x :: xs, R, p, h => by
    rw [List.map_cons, List.nodup_cons] at h
    rw [List.foldl_cons, look_A xs _ p h.2, findK_cons]
    by_cases e : x.key = p
    · have hn : findK xs p = none := findK_none (fun y hy hk => h.1 (by rw [e, ← hk]; exact List.mem_map.2 ⟨y, hy, rfl⟩))
      rw [if_pos e, hn]
      simp only
      unfold chgA
      rw [look_upd, if_pos (show (⟨_, _⟩ : K2) = p from e)]
    · rw [if_neg e]
      have e2 : look (chgA R x) p = look R p := by unfold chgA; rw [look_upd, if_neg (show ¬ (⟨_, _⟩ : K2) = p from e)]
      rw [e2]
theorem look_B : ∀ (ys : List Edg) (R : List (K2 × Edg)) (p : K2), (ys.map Edg.key).Nodup → look (ys.foldl chgB R) p = match findK ys p with | some y => some ⟨y.frm, y.at', wrap64 ((((look R p).getD edg0)).acc + y.acc), wrap64 ((((look R p).getD edg0)).msg + y.msg)⟩ | none => look R p
  | [], R, p, _ => rfl
  | y :: ys, R, p, h => by
    rw [List.map_cons, List.nodup_cons] at h
    rw [List.foldl_cons, look_B ys _ p h.2, findK_cons]
    by_cases e : y.key = p
    · have hn : findK ys p = none := findK_none (fun z hz hk => h.1 (by rw [e, ← hk]; exact List.mem_map.2 ⟨z, hz, rfl⟩))
      rw [if_pos e, hn]
      simp only
      unfold chgB
      rw [look_upd, if_pos (show (⟨_, _⟩ : K2) = p from e)]
      unfold edgAt
      rw [show (⟨y.frm, y.at'⟩ : K2) = p from e]
    · rw [if_neg e]
      have e2 : look (chgB R y) p = look R p := by unfold chgB; rw [look_upd, if_neg (show ¬ (⟨_, _⟩ : K2) = p from e)]
      rw [e2]
/-- what the changes hold at p -/
def chgV (xs ys : List Edg) (p : K2) : Option Edg :=
  match findK xs p, findK ys p with
  | some x, some y => some (bothE x y)
  | some x, none => some (negE x)
  | none, some y => some (posE y)
  | none, none => none
theorem look_chg {xs ys : List Edg} (hx : (xs.map Edg.key).Nodup) (hy : (ys.map Edg.key).Nodup) (p : K2) : look (chgR xs ys) p = chgV xs ys p := by
  unfold chgR chgV
  rw [look_B ys _ p hy, look_A xs [] p hx]
  cases findK xs p <;> cases findK ys p <;> rfl
instance decLt2 (x y : K2) : Decidable (lt2 x y) := by unfold lt2; exact inferInstance
theorem k2_tri {x y : K2} (h1 : ¬ lt2 x y) (h2 : ¬ lt2 y x) : x = y := by
  obtain ⟨a, b⟩ := x
  obtain ⟨c, d⟩ := y
  simp only [lt2] at h1 h2
  have e1 : a = c := by omega
  have e2 : b = d := by omega
  rw [e1, e2]
theorem k2_irr (x : K2) : ¬ lt2 x x := by unfold lt2; omega
theorem k2_trans {x y z : K2} (h : lt2 x y) (g : lt2 y z) : lt2 x z := by unfold lt2 at *; omega
/-- the merging, ahead of the sieve -/
def mrgAll : List Edg → List Edg → List Edg
  | [], ys => ys.map posE
  | x :: xs, [] => (x :: xs).map negE
  | x :: xs, y :: ys => if lt2 x.key y.key then negE x :: mrgAll xs (y :: ys) else if lt2 y.key x.key then posE y :: mrgAll (x :: xs) ys else bothE x y :: mrgAll xs ys
termination_by xs ys => xs.length + ys.length
def Asc2 (xs : List Edg) : Prop := (xs.map Edg.key).Pairwise lt2
theorem mrg_keys : ∀ (xs ys : List Edg) (p : K2), p ∈ (mrgAll xs ys).map Edg.key ↔ p ∈ xs.map Edg.key ∨ p ∈ ys.map Edg.key
  | [], ys, p => by
    rw [mrgAll, List.map_map]; simp; constructor <;> (rintro ⟨y, h1, h2⟩; exact ⟨y, h1, h2⟩)
  | x :: xs, [], p => by
    rw [mrgAll, List.map_map]; simp only [List.map_nil, List.not_mem_nil, or_false]; rfl
  | x :: xs, y :: ys, p => by
    rw [mrgAll]
    split
    · rw [List.map_cons, List.mem_cons, mrg_keys xs (y :: ys) p, List.map_cons (l := xs), List.mem_cons]
      rw [show (negE x).key = x.key from rfl, or_assoc]
    · split
      · rw [List.map_cons, List.mem_cons, mrg_keys (x :: xs) ys p, List.map_cons (l := ys), List.mem_cons]
        rw [show (posE y).key = y.key from rfl]
        constructor
        · rintro (h | h | h)
          · exact .inr (.inl h)
          · exact .inl h
          · exact .inr (.inr h)
        · rintro (h | h | h)
          · exact .inr (.inl h)
          · exact .inl h
          · exact .inr (.inr h)
      · rename_i h1 h2
        have e := k2_tri h1 h2
        rw [List.map_cons, List.mem_cons, mrg_keys xs ys p, List.map_cons (l := xs), List.map_cons (l := ys), List.mem_cons, List.mem_cons]
        rw [show (bothE x y).key = y.key from rfl, e]
        constructor
        · rintro (h | h | h)
          · exact .inr (.inl h)
          · exact .inl (.inr h)
          · exact .inr (.inr h)
        · rintro ((h | h) | h | h)
          · exact .inl h
          · exact .inr (.inl h)
          · exact .inl h
          · exact .inr (.inr h)
termination_by xs ys => xs.length + ys.length
theorem mrg_sorted : ∀ (xs ys : List Edg), Asc2 xs → Asc2 ys → Asc2 (mrgAll xs ys)
  | [], ys, _, hy => by
    rw [mrgAll]; unfold Asc2; rw [List.map_map]; exact hy
  | x :: xs, [], hx, _ => by
    rw [mrgAll]; unfold Asc2; rw [List.map_map]; exact hx
  | x :: xs, y :: ys, hx, hy => by
    have hx' := hx
    have hy' := hy
    unfold Asc2 at hx' hy'
    rw [List.map_cons, List.pairwise_cons] at hx' hy'
    rw [mrgAll]
    split
    · rename_i h1
      unfold Asc2
      rw [List.map_cons, List.pairwise_cons]
      refine ⟨fun p hp => ?_, mrg_sorted xs (y :: ys) hx'.2 hy⟩
      rcases (mrg_keys _ _ _).1 hp with h | h
      · exact hx'.1 p h
      · rw [List.map_cons, List.mem_cons] at h
        rcases h with rfl | h
        · exact h1
        · exact k2_trans h1 (hy'.1 p h)
    · split
      · rename_i h1 h2
        unfold Asc2
        rw [List.map_cons, List.pairwise_cons]
        refine ⟨fun p hp => ?_, mrg_sorted (x :: xs) ys hx hy'.2⟩
        rcases (mrg_keys _ _ _).1 hp with h | h
        · rw [List.map_cons, List.mem_cons] at h
          rcases h with rfl | h
          · exact h2
          · exact k2_trans h2 (hx'.1 p h)
        · exact hy'.1 p h
      · rename_i h1 h2
        have e := k2_tri h1 h2
        unfold Asc2
        rw [List.map_cons, List.pairwise_cons]
        refine ⟨fun p hp => ?_, mrg_sorted xs ys hx'.2 hy'.2⟩
        rcases (mrg_keys _ _ _).1 hp with h | h
        · have := hx'.1 p h; rw [e] at this; exact this
        · exact hy'.1 p h
termination_by xs ys => xs.length + ys.length
theorem sorted_eqK {α : Type} {lt : α → α → Prop} (tri : ∀ x y, ¬ lt x y → ¬ lt y x → x = y) : ∀ {l m : List α}, l.Perm m → l.Pairwise (fun x y => ¬ lt y x) → m.Pairwise (fun x y => ¬ lt y x) → l = m
  | [], m, h, _, _ => (List.nil_perm.1 h).symm
  | a :: l, [], h, _, _ => absurd h.length_eq (by simp)
  | a :: l, b :: m, h, h1, h2 => by
    have p1 := List.pairwise_cons.1 h1
    have p2 := List.pairwise_cons.1 h2
    have e : a = b := by
      rcases List.mem_cons.1 (h.mem_iff.1 (List.mem_cons_self (a := a) (l := l))) with e | ha
      · exact e
      · rcases List.mem_cons.1 (h.mem_iff.2 (List.mem_cons_self (a := b) (l := m))) with e | hb
        · exact e.symm
        · exact tri a b (p2.1 a ha) (p1.1 b hb)
    subst e
    rw [sorted_eqK tri (List.Perm.cons_inv h) p1.2 p2.2]
theorem asc_not {xs : List Edg} {x : Edg} (hx : ∀ p ∈ xs.map Edg.key, lt2 x.key p) {q : K2} (hq : ¬ lt2 x.key q) : findK xs q = none :=
  findK_none (fun y hy e => hq (by rw [← e]; exact hx _ (List.mem_map.2 ⟨y, hy, rfl⟩)))
theorem mrg_val : ∀ (xs ys : List Edg), Asc2 xs → Asc2 ys → ∀ e ∈ mrgAll xs ys, chgV xs ys e.key = some e
  | [], ys, _, hy, e, he => by
    rw [mrgAll] at he
    obtain ⟨y, hym, rfl⟩ := List.mem_map.1 he
    have hf : findK ys y.key = some y := by
      unfold Asc2 at hy
      clear he
      induction ys with
      | nil => cases hym
      | cons z ys ih =>
        rw [List.map_cons, List.pairwise_cons] at hy
        rw [findK_cons]
        rcases List.mem_cons.1 hym with rfl | hm
        · rw [if_pos rfl]
        · rw [if_neg (fun e => by have := hy.1 _ (List.mem_map.2 ⟨y, hm, rfl⟩); rw [e] at this; exact k2_irr _ this)]
          exact ih hy.2 hm
    show chgV [] ys y.key = _
    unfold chgV; rw [hf]; rfl
  | x :: xs, [], hx, _, e, he => by
    rw [mrgAll] at he
    obtain ⟨y, hym, rfl⟩ := List.mem_map.1 he
    have hf : findK (x :: xs) y.key = some y := by
      unfold Asc2 at hx
      clear he
      generalize x :: xs = zs at *
      induction zs with
      | nil => cases hym
      | cons z ys ih =>
        rw [List.map_cons, List.pairwise_cons] at hx
        rw [findK_cons]
        rcases List.mem_cons.1 hym with rfl | hm
        · rw [if_pos rfl]
        · rw [if_neg (fun e => by have := hx.1 _ (List.mem_map.2 ⟨y, hm, rfl⟩); rw [e] at this; exact k2_irr _ this)]
          exact ih hx.2 hm
    show chgV (x :: xs) [] y.key = _
    unfold chgV; rw [hf]; rfl
  | x :: xs, y :: ys, hx, hy, e, he => by
    have hx' := hx
    have hy' := hy
    unfold Asc2 at hx' hy'
    rw [List.map_cons, List.pairwise_cons] at hx' hy'
    have later : ∀ (zs ws : List Edg) (e : Edg), e ∈ mrgAll zs ws → e.key ∈ zs.map Edg.key ∨ e.key ∈ ws.map Edg.key := fun zs ws e h => (mrg_keys zs ws e.key).1 (List.mem_map.2 ⟨e, h, rfl⟩)
    rw [mrgAll] at he
    split at he
    · rename_i h1
      rcases List.mem_cons.1 he with rfl | hm
      · show chgV (x :: xs) (y :: ys) x.key = _
        have e1 : findK (y :: ys) x.key = none := by
          rw [findK_cons, if_neg (fun e => by rw [e] at h1; exact k2_irr _ h1)]
          exact asc_not hy'.1 (fun h => k2_irr _ (k2_trans h h1))
        unfold chgV; rw [findK_cons, if_pos rfl, e1]
      · have hv := mrg_val xs (y :: ys) hx'.2 hy e hm
        have hne : x.key ≠ e.key := fun e' => by
          rcases later _ _ _ hm with h | h
          · have := hx'.1 _ h; rw [e'] at this; exact k2_irr _ this
          · rw [List.map_cons, List.mem_cons] at h
            rcases h with h | h
            · rw [e', h] at h1; exact k2_irr _ h1
            · have := k2_trans h1 (hy'.1 _ h); rw [e'] at this; exact k2_irr _ this
        unfold chgV at hv ⊢
        rw [findK_cons, if_neg hne]; exact hv
    · split at he
      · rename_i h1 h2
        rcases List.mem_cons.1 he with rfl | hm
        · show chgV (x :: xs) (y :: ys) y.key = _
          have e1 : findK (x :: xs) y.key = none := by
            rw [findK_cons, if_neg (fun e => by rw [e] at h2; exact k2_irr _ h2)]
            exact asc_not hx'.1 (fun h => k2_irr _ (k2_trans h h2))
          unfold chgV; rw [e1, findK_cons, if_pos rfl]
        · have hv := mrg_val (x :: xs) ys hx hy'.2 e hm
          have hne : y.key ≠ e.key := fun e' => by
            rcases later _ _ _ hm with h | h
            · rw [List.map_cons, List.mem_cons] at h
              rcases h with h | h
              · rw [e', h] at h2; exact k2_irr _ h2
              · have := k2_trans h2 (hx'.1 _ h); rw [e'] at this; exact k2_irr _ this
            · have := hy'.1 _ h; rw [e'] at this; exact k2_irr _ this
          unfold chgV at hv ⊢
          rw [findK_cons (x := y), if_neg hne]; exact hv
      · rename_i h1 h2
        have ek := k2_tri h1 h2
        rcases List.mem_cons.1 he with rfl | hm
        · show chgV (x :: xs) (y :: ys) y.key = _
          unfold chgV; rw [findK_cons, if_pos ek, findK_cons, if_pos rfl]
        · have hv := mrg_val xs ys hx'.2 hy'.2 e hm
          have hne : y.key ≠ e.key := fun e' => by
            rcases later _ _ _ hm with h | h
            · have := hx'.1 _ h; rw [ek, e'] at this; exact k2_irr _ this
            · have := hy'.1 _ h; rw [e'] at this; exact k2_irr _ this
          unfold chgV at hv ⊢
          rw [findK_cons, if_neg (by rw [ek]; exact hne), findK_cons (x := y), if_neg hne]; exact hv
termination_by xs ys => xs.length + ys.length
theorem asc_nodup {xs : List Edg} (h : Asc2 xs) : (xs.map Edg.key).Nodup := h.imp (fun h e => by rw [e] at h; exact k2_irr _ h)
theorem asc2_of {es : List Edg} (h : AscL es) : Asc2 es := by
  unfold Asc2
  induction es with
  | nil => simp
  | cons x es ih =>
    have ht : AscL es := fun k y z hy hz => h (k + 1) y z (by simpa using hy) (by simpa using hz)
    have ih' := ih ht
    rw [List.map_cons, List.pairwise_cons]
    refine ⟨fun p hp => ?_, ih'⟩
    cases es with
    | nil => simp at hp
    | cons y es =>
      have h1 : lt2 x.key y.key := h 0 x y rfl rfl
      rw [List.map_cons, List.mem_cons] at hp
      rcases hp with rfl | hp
      · exact h1
      · rw [List.map_cons, List.pairwise_cons] at ih'
        exact k2_trans h1 (ih'.1 p hp)
theorem chgA_nodup : ∀ (xs : List Edg) {R : List (K2 × Edg)}, (R.map (·.1)).Nodup → ((xs.foldl chgA R).map (·.1)).Nodup
  | [], _, h => h
  | x :: xs, R, h => chgA_nodup xs (upd_nodup h _ _)
theorem chgB_nodup : ∀ (xs : List Edg) {R : List (K2 × Edg)}, (R.map (·.1)).Nodup → ((xs.foldl chgB R).map (·.1)).Nodup
  | [], _, h => h
  | x :: xs, R, h => chgB_nodup xs (upd_nodup h _ _)
theorem key_iff (R : List (K2 × Edg)) (p : K2) : p ∈ R.map (·.1) ↔ look R p ≠ none := by
  constructor
  · intro h hn
    obtain ⟨q, hq, e⟩ := List.mem_map.1 h
    exact look_none_iff.1 hn q hq e
  · intro h
    refine Classical.byContradiction fun hc => h (look_none_iff.2 (fun q hq e => hc (List.mem_map.2 ⟨q, hq, e⟩)))
theorem findK_iff (xs : List Edg) (p : K2) : p ∈ xs.map Edg.key ↔ findK xs p ≠ none := by
  constructor
  · intro h hn
    obtain ⟨x, hx, e⟩ := List.mem_map.1 h
    unfold findK at hn
    rw [List.find?_eq_none] at hn
    exact hn x hx (by simpa using e)
  · intro h
    cases hf : findK xs p with
    | none => exact absurd hf h
    | some x =>
      obtain ⟨h1, h2⟩ := findK_key hf
      exact List.mem_map.2 ⟨x, h1, h2⟩
/-- what Compare tells is the merging without what is nothing -/
theorem chg_mrg {xs ys out : List Edg} (h : IsChg xs ys out) (hx : Asc2 xs) (hy : Asc2 ys) : out = (mrgAll xs ys).filter (fun x => !nilE x) := by
  obtain ⟨ss, h1, h2, rfl⟩ := h
  have hl := look_chg (asc_nodup hx) (asc_nodup hy)
  have hm := mrg_sorted xs ys hx hy
  have hperm : ((mrgAll xs ys).map Edg.key).Perm ((chgR xs ys).map (·.1)) := by
    have hnd : ((chgR xs ys).map (·.1)).Nodup := chgB_nodup ys (chgA_nodup xs (R := []) List.nodup_nil)
    rw [List.perm_ext_iff_of_nodup (asc_nodup hm) hnd]
    intro p
    rw [mrg_keys, key_iff, hl p, findK_iff, findK_iff]
    unfold chgV
    cases findK xs p <;> cases findK ys p <;> simp
  have e : ss = (mrgAll xs ys).map Edg.key := sorted_eqK (fun _ _ => k2_tri) (h1.trans hperm.symm) h2 (hm.imp (fun {a b} h g => k2_irr _ (k2_trans h g)))
  subst e
  congr 1
  rw [List.map_map]
  conv => rhs; rw [← List.map_id (mrgAll xs ys)]
  apply List.map_congr_left
  intro y hy'
  simp only [Function.comp, hl, mrg_val xs ys hx hy y hy', Option.getD_some, id]
end Go.Proofs.YtghjhlenkgkelaaGreatDoor
