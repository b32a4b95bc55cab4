/- DERIVED. The homes that Homes tells are best. -/
import Derived.Test.YtghjhlenkgkelaaMoved
import Derived.Test.YtghjhlenkgkelaaCounts0
set_option linter.unusedSimpArgs false
set_option linter.unusedVariables false
namespace Go.Proofs.Ytghjhlenkgkelaa
open Go.RowKit Go.Shelf Go.Sort

theorem lt3_tri {x y : K3} (h1 : ¬ lt3 x y) (h2 : ¬ lt3 y x) : x = y := by
  obtain ⟨a, b, c⟩ := x
  obtain ⟨d, e, f⟩ := y
  unfold lt3 at h1 h2
  simp only [K3.mk.injEq] at *
  omega
theorem sorted_eq {α : Type} {lt : α → α → Prop} (tri : ∀ x y, ¬ lt x y → ¬ lt y x → x = y) : ∀ {l m : List α}, l.Perm m → l.Pairwise (fun x y => ¬ lt y x) → m.Pairwise (fun x y => ¬ lt y x) → l = m
  | [], m, h, _, _ => (List.nil_perm.1 h).symm
  | a :: l, [], h, _, _ => absurd h.length_eq (by simp)
  | a :: l, b :: m, h, h1, h2 => by
    have p1 := List.pairwise_cons.1 h1
    have p2 := List.pairwise_cons.1 h2
    have e : a = b := by
      rcases List.mem_cons.1 (h.mem_iff.1 (List.mem_cons_self (a := a) (l := l))) with e | ha
      · exact e
      · rcases List.mem_cons.1 (h.mem_iff.2 (List.mem_cons_self (a := b) (l := m))) with e | hb
        · exact e.symm
        · exact tri a b (p2.1 a ha) (p1.1 b hb)
    subst e
    rw [sorted_eq tri (List.Perm.cons_inv h) p1.2 p2.2]
theorem home_keys (xs : List Acc) : (homesR xs).map (·.1) = (spotsR xs).map (·.1) := by
  suffices ∀ (l : List Acc) (R : List (K3 × K8)) (S : List (K3 × Spt)), R.map (·.1) = S.map (·.1) → (l.foldl homeStep R).map (·.1) = (l.foldl spotStep S).map (·.1) from this xs [] [] rfl
  intro l
  induction l with
  | nil => intro R S h; exact h
  | cons a l ih =>
    intro R S h
    refine ih _ _ ?_
    unfold homeStep spotStep
    rw [keys_upd, keys_upd, h]
theorem homes_nodup (xs : List Acc) : ((homesR xs).map (·.1)).Nodup := by rw [home_keys]; exact spots_nodup xs
theorem sm_upd2 {κ ν : Type} [DecidableEq κ] (f : κ → ν → Int) {R : List (κ × ν)} (hd : (R.map (·.1)).Nodup) (x : κ) (v z : ν) (hz : f x z = 0) : sm (fun p => f p.1 p.2) (upd R x v) = sm (fun p => f p.1 p.2) R + (f x v - f x ((look R x).getD z)) := by
  cases hl : look R x with
  | none => rw [upd_none hl, sm_append]; simp [sm, hz]
  | some u =>
    have hm := mem_of_look hl
    have hany : R.any (fun p => p.1 = x) = true := List.any_eq_true.2 ⟨_, hm, by simp⟩
    rw [upd, if_pos hany]
    clear hany hl
    induction R with
    | nil => cases hm
    | cons q R ih =>
      rw [List.map_cons, List.nodup_cons] at hd
      simp only [List.map_cons, sm, Option.getD_some]
      rcases List.mem_cons.1 hm with rfl | hm
      · have : R.map (fun p => if p.1 = x then (x, v) else p) = R := by
          conv => rhs; rw [← List.map_id R]
          exact List.map_congr_left fun p hp => by
            have : p.1 ≠ x := fun e => by
              have hm : p.1 ∈ R.map (·.1) := List.mem_map_of_mem (f := Prod.fst) hp
              rw [e] at hm; exact hd.1 hm
            simp [this]
        rw [this]; simp only [if_true]; omega
      · have : q.1 ≠ x := fun e => hd.1 (by rw [e]; exact List.mem_map_of_mem (f := Prod.fst) hm)
        rw [if_neg this, ih hd.2 hm]; simp only [Option.getD_some]; omega

/-- how many accesses come from where h says their place is -/
def hits (h : K3 → Nat) (xs : List Acc) : Int := sm (fun x => if x.frm = ((h x.place : Nat) : Int) then 1 else 0) xs
theorem hits_homes (h : K3 → Nat) (h8 : ∀ p, h p < 8) (xs : List Acc) (hv : ∀ x ∈ xs, validA x) : sm (fun e => e.2.get (h e.1)) (homesR xs) = hits h xs := by
  suffices ∀ (l : List Acc) (R : List (K3 × K8)), (∀ x ∈ l, validA x) → (R.map (·.1)).Nodup → sm (fun e => e.2.get (h e.1)) (l.foldl homeStep R) = sm (fun e => e.2.get (h e.1)) R + hits h l by
    have := this xs [] hv (by simp)
    simpa [homesR, sm] using this
  intro l
  induction l with
  | nil => intro R _ _; simp [hits, sm]
  | cons a l ih =>
    intro R hv hd
    have ha := hv a (by simp)
    unfold validA at ha
    rw [List.foldl_cons, ih (homeStep R a) (fun x hx => hv x (by simp [hx])) (upd_nodup hd _ _)]
    unfold homeStep
    have hz : (fun (p : K3) (v : K8) => v.get (h p)) a.place k80 = 0 := by
      have := k80_le 0 (h a.place) (h8 _)
      simp only; omega
    have := sm_upd2 (f := fun (p : K3) (v : K8) => v.get (h p)) hd a.place (((look R a.place).getD k80).inc a.frm.toNat) k80 hz
    rw [this, K8.get_inc _ (by omega) (h8 _)]
    unfold hits
    simp only [sm]
    have e : (a.frm.toNat = h a.place) ↔ a.frm = ((h a.place : Nat) : Int) := by omega
    by_cases hq : a.frm = ((h a.place : Nat) : Int)
    · rw [if_pos (e.2 hq), if_pos hq]; omega
    · rw [if_neg (fun h => hq (e.1 h)), if_neg hq]; omega
theorem bestUp_max (v : K8) : ∀ k, k ≤ 8 → ∀ i, i < k → v.get i ≤ v.get (bestUp v k)
  | 0, _, i, hi => by omega
  | k + 1, h, i, hi => by
    have ih := bestUp_max v k (by omega)
    unfold bestUp
    split
    · rename_i hlt
      rcases Nat.lt_or_ge i k with hik | hik
      · have := ih i hik; omega
      · obtain rfl : i = k := by omega
        omega
    · rename_i hlt
      rcases Nat.lt_or_ge i k with hik | hik
      · exact ih i hik
      · obtain rfl : i = k := by omega
        omega
theorem sm_le {α : Type} {f g : α → Int} {l : List α} (h : ∀ x ∈ l, f x ≤ g x) : sm f l ≤ sm g l := by
  induction l with
  | nil => simp [sm]
  | cons x l ih =>
    have h1 := h x (by simp)
    have h2 := ih (fun y hy => h y (by simp [hy]))
    simp only [sm]; omega
theorem hits_best (h : K3 → Nat) (h8 : ∀ p, h p < 8) (xs : List Acc) (hv : ∀ x ∈ xs, validA x) : hits h xs ≤ hits (fun p => bestOf ((look (homesR xs) p).getD k80)) xs := by
  rw [← hits_homes h h8 xs hv, ← hits_homes (fun p => bestOf ((look (homesR xs) p).getD k80)) (fun p => bestUp_lt _ 8 (Nat.le_refl _)) xs hv]
  refine sm_le fun e he => ?_
  rw [look_mem (homes_nodup xs) he]
  exact bestUp_max e.2 8 (Nat.le_refl _) _ (h8 _)

theorem rem_hits (R : List (K3 × Int)) (h : K3 → Nat) (xs : List Acc) (hh : ∀ x ∈ xs, (look R x.place).getD 0 = ((h x.place : Nat) : Int)) : remN (xs.map (moveTo R)) = xs.length - hits h xs := by
  induction xs with
  | nil => simp [remN, hits, sm]
  | cons x xs ih =>
    have h1 := hh x (by simp)
    have h2 := ih (fun y hy => hh y (by simp [hy]))
    unfold remN hits at *
    simp only [List.map_cons, sm, List.length_cons, remB, moveTo] at *
    rw [h1, h2]
    by_cases e : x.frm = ((h x.place : Nat) : Int)
    · simp [e]; omega
    · have : (x.frm != ((h x.place : Nat) : Int)) = true := by simpa using e
      simp only [this, e, if_true, if_false]; omega
theorem look_zip {ss : List K3} {hs : List Int} {p : K3} (hl : hs.length = ss.length) (hd : ss.Nodup) (hp : p ∈ ss) : ∃ k : Nat, ss[k]? = some p ∧ ∃ h, hs[k]? = some h ∧ look (ss.zip hs) p = some h := by
  obtain ⟨k, hk⟩ := List.getElem?_of_mem hp
  have hkl := (List.getElem?_eq_some_iff.1 hk).1
  obtain ⟨h, hh⟩ := get_some (xs := hs) (k := k) (by omega)
  refine ⟨k, hk, h, hh, ?_⟩
  have hkeys : (ss.zip hs).map (·.1) = ss := by
    rw [List.map_fst_zip]; omega
  exact look_mem (p := (p, h)) (by rw [hkeys]; exact hd) (List.mem_of_getElem? (i := k) (by rw [List.getElem?_zip_eq_some]; exact ⟨hk, hh⟩))
theorem place_key (xs : List Acc) : ∀ x ∈ xs, x.place ∈ (spotsR xs).map (·.1) := by
  suffices ∀ (l : List Acc) (S : List (K3 × Spt)), (∀ p ∈ S.map (·.1), p ∈ (l.foldl spotStep S).map (·.1)) ∧ ∀ x ∈ l, x.place ∈ (l.foldl spotStep S).map (·.1) from (this xs []).2
  intro l
  induction l with
  | nil => intro S; exact ⟨fun p hp => hp, by simp⟩
  | cons a l ih =>
    intro S
    obtain ⟨h1, h2⟩ := ih (spotStep S a)
    have hk : ∀ p, p ∈ S.map (·.1) ∨ p = a.place → p ∈ (spotStep S a).map (·.1) := by
      intro p hp
      unfold spotStep
      rw [keys_upd]
      split
      · rename_i ha
        rcases hp with hp | rfl
        · exact hp
        · exact ha
      · rw [List.mem_append, List.mem_singleton]; exact hp
    refine ⟨fun p hp => h1 p (hk p (.inl hp)), fun x hx => ?_⟩
    rcases List.mem_cons.1 hx with rfl | hx
    · exact h1 _ (hk _ (.inr rfl))
    · exact h2 x hx
/-- with Homes there are at most as many remote accesses as with any other homes -/
theorem homes_best {xs : List Acc} {hs : List Nat} {gs : List Int} {ys zs : List Acc} (hv : ∀ x ∈ xs, validA x) (hH : IsHomes xs hs) (hy : IsMoved xs (hs.map (fun h : Nat => (h : Int))) ys) (hz : IsMoved xs gs zs) (hgl : gs.length = hs.length) (hg : ∀ g ∈ gs, 0 ≤ g ∧ g < 8) : remN ys ≤ remN zs := by
  obtain ⟨s1, p1, q1, rfl⟩ := hH
  obtain ⟨s2, p2, q2, rfl⟩ := hy
  obtain ⟨s3, p3, q3, rfl⟩ := hz
  rw [home_keys] at p1
  have e2 : s2 = s1 := sorted_eq (fun x y h1 h2 => lt3_tri h1 h2) (p2.trans p1.symm) q2 q1
  have e3 : s3 = s1 := sorted_eq (fun x y h1 h2 => lt3_tri h1 h2) (p3.trans p1.symm) q3 q1
  subst e2 e3
  have hd : s3.Nodup := p1.nodup_iff.2 (spots_nodup xs)
  have hgl' : gs.length = s3.length := by rw [hgl, List.length_map]
  have hin : ∀ x ∈ xs, x.place ∈ s3 := fun x hx => p1.mem_iff.2 (place_key xs x hx)
  have r1 := rem_hits (s3.zip ((s3.map (fun x => bestOf ((look (homesR xs) x).getD k80))).map (fun h : Nat => (h : Int)))) (fun p => bestOf ((look (homesR xs) p).getD k80)) xs (fun x hx => by
    obtain ⟨k, hk, h, hh, hl⟩ := look_zip (hs := (s3.map (fun x => bestOf ((look (homesR xs) x).getD k80))).map (fun h : Nat => (h : Int))) (by simp) hd (hin x hx)
    rw [hl]
    rw [List.getElem?_map, List.getElem?_map, hk] at hh
    simp at hh; simp [← hh])
  have r2 := rem_hits (s3.zip gs) (fun p => ((look (s3.zip gs) p).getD 0).toNat % 8) xs (fun x hx => by
    obtain ⟨k, hk, h, hh, hl⟩ := look_zip hgl' hd (hin x hx)
    rw [hl]
    have := hg h (List.mem_of_getElem? hh)
    simp only [Option.getD_some]
    omega)
  rw [r1, r2]
  have := hits_best (fun p => ((look (s3.zip gs) p).getD 0).toNat % 8) (fun p => Nat.mod_lt _ (by omega)) xs hv
  omega
end Go.Proofs.Ytghjhlenkgkelaa
