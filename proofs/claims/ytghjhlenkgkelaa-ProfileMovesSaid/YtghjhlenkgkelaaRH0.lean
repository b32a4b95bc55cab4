/- DERIVED. The reference's homes and moved traces in plain words: they are the program's. -/
import Derived.Test.YtghjhlenkgkelaaRSp2
set_option linter.unusedSimpArgs false
set_option linter.unusedVariables false
namespace Go.Proofs.Ytghjhlenkgkelaa
open Go.RowKit Go.Shelf Go.Sort

theorem places_ref {xs : List Acc} {ts : List K3} (h1 : ts.Perm ((spotsR xs).map (·.1))) (h2 : ts.Pairwise (fun x y => ¬ lt3 y x)) : ts = (refS xs).map (·.place) := by
  have h := spots_ref (xs := xs) (sl := ts.map (fun x => (look (spotsR xs) x).getD spot0)) ⟨ts, h1, h2, rfl⟩
  rw [← h, List.map_map]
  conv => lhs; rw [← List.map_id ts]
  apply List.map_congr_left
  intro p hp
  obtain ⟨s, hs⟩ := look_of_key (h1.mem_iff.1 hp)
  have := spot_place xs p s hs
  simp [hs, this]
/-- what the reference counts at a place -/
def cnt8 (xs : List Acc) (p : K3) : K8 := xs.foldl (fun v x => if x.place = p then v.inc x.frm.toNat else v) k80
theorem cnt8_snoc (l : List Acc) (a : Acc) (p : K3) : cnt8 (l ++ [a]) p = if a.place = p then (cnt8 l p).inc a.frm.toNat else cnt8 l p := by simp [cnt8]
theorem homes_cnt (xs : List Acc) (p : K3) : (look (homesR xs) p).getD k80 = cnt8 xs p := by
  suffices ∀ (l : List Acc) (R : List (K3 × K8)), (look (l.foldl homeStep R) p).getD k80 = l.foldl (fun v x => if x.place = p then v.inc x.frm.toNat else v) ((look R p).getD k80) from this xs []
  intro l
  induction l with
  | nil => intro R; rfl
  | cons a l ih =>
    intro R
    rw [List.foldl_cons, List.foldl_cons, ih]
    congr 1
    unfold homeStep
    rw [look_upd]
    split
    · rename_i e; subst e; rfl
    · rfl
def refH (xs : List Acc) : List Nat := (refS xs).map (fun s => bestOf (cnt8 xs s.place))
theorem homes_ref {xs : List Acc} {hs : List Nat} (h : IsHomes xs hs) : hs = refH xs := by
  obtain ⟨ss, h1, h2, rfl⟩ := h
  rw [home_keys] at h1
  obtain rfl := places_ref h1 h2
  unfold refH
  rw [List.map_map]
  apply List.map_congr_left
  intro s _
  simp only [Function.comp, homes_cnt]
theorem cnt8_le (xs : List Acc) (hv : ∀ x ∈ xs, validA x) (p : K3) : (cnt8 xs p).le xs.length := by
  rw [← homes_cnt]; exact (homesR_le xs hv).at_ p
/-- the place of an access when spots from the k-th on are looked at -/
def setAt (R : List (K3 × Int)) (p : K3) (cur : Int) : Int := R.foldl (fun c e => if e.1 = p then e.2 else c) cur
theorem setAt_none : ∀ (R : List (K3 × Int)) (p : K3) (cur : Int), (∀ e ∈ R, e.1 ≠ p) → setAt R p cur = cur
  | [], _, _, _ => rfl
  | e :: R, p, cur, h => by
    unfold setAt
    rw [List.foldl_cons, if_neg (h e (by simp))]
    exact setAt_none R p cur (fun e' he => h e' (by simp [he]))
theorem setAt_look : ∀ (R : List (K3 × Int)) (p : K3) (cur : Int), (R.map (·.1)).Nodup → p ∈ R.map (·.1) → setAt R p cur = (look R p).getD 0
  | [], _, _, _, h => by simp at h
  | e :: R, p, cur, hd, hp => by
    rw [List.map_cons, List.nodup_cons] at hd
    unfold setAt
    rw [List.foldl_cons]
    by_cases he : e.1 = p
    · rw [if_pos he]
      have h1 := setAt_none R p e.2 (fun e' he' h => hd.1 (by rw [he, ← h]; exact List.mem_map.2 ⟨e', he', rfl⟩))
      unfold setAt at h1
      rw [h1]
      have h2 : look (e :: R) p = some e.2 := look_mem (p := (p, e.2)) (by simpa using hd) (by rw [← he]; simp)
      rw [h2]; rfl
    · rw [if_neg he]
      have h1 := setAt_look R p cur hd.2 (by
        rw [List.map_cons, List.mem_cons] at hp
        rcases hp with h | h
        · exact absurd h.symm he
        · exact h)
      unfold setAt at h1
      rw [h1]
      cases hl : look R p with
      | none =>
        obtain ⟨q, hq, e2⟩ := List.mem_map.1 (show p ∈ R.map (·.1) from by
          rw [List.map_cons, List.mem_cons] at hp
          rcases hp with h | h
          · exact absurd h.symm he
          · exact h)
        exact absurd e2 (look_none_iff.1 hl q hq)
      | some v =>
        have h2 : look (e :: R) p = some v := look_mem (p := (p, v)) (by simpa using hd) (List.mem_cons_of_mem _ (mem_of_look hl))
        rw [h2]
def refM (xs : List Acc) (hs : List Int) (x : Acc) : Acc := { x with at' := setAt (((refS xs).map (·.place)).zip hs) x.place x.at' }
theorem moved_ref {xs ys : List Acc} {hs : List Int} (h : IsMoved xs hs ys) (hl : hs.length = (refS xs).length) : ys = xs.map (refM xs hs) := by
  obtain ⟨ss, h1, h2, rfl⟩ := h
  have hk := fun x hx => h1.mem_iff.2 (place_key xs x hx)
  have hd : ss.Nodup := h1.nodup_iff.2 (spots_nodup xs)
  obtain rfl := places_ref h1 h2
  apply List.map_congr_left
  intro x hx
  have hkeys : (((refS xs).map (·.place)).zip hs).map (·.1) = (refS xs).map (·.place) := by
    rw [List.map_fst_zip]; rw [List.length_map]; omega
  unfold moveTo refM
  rw [setAt_look _ _ _ (by rw [hkeys]; exact hd) (by rw [hkeys]; exact hk x hx)]
theorem refS_spots (xs : List Acc) : (refS xs).length = (spotsR xs).length := by
  have ho := refS_ord xs
  have hnd : ((refS xs).map (·.place)).Nodup := ho.asc.imp (fun h e => by rw [e] at h; exact lt3_irr _ h)
  have hk : ((refS xs).map (·.place)).Perm ((spotsR xs).map (·.1)) := by
    rw [List.perm_ext_iff_of_nodup hnd (spot_sum xs).2.2]
    intro p
    constructor
    · intro hp
      obtain ⟨s, hs, rfl⟩ := List.mem_map.1 hp
      have hv := ho.val s hs
      exact List.mem_map.2 ⟨_, mem_of_look hv, rfl⟩
    · intro hp
      obtain ⟨q, hq, rfl⟩ := List.mem_map.1 hp
      exact ho.all_ _ (by rw [look_mem (spot_sum xs).2.2 hq]; simp)
  have := hk.length_eq
  simpa using this
end Go.Proofs.Ytghjhlenkgkelaa
