/- DERIVED. The sums over edges and spots; each edge's counts. -/
import Derived.Test.YtghjhlenkgkelaaOf
import Derived.Test.YtghjhlenkgkelaaPut6
set_option linter.unusedSimpArgs false
set_option linter.unusedVariables false
namespace Go.Proofs.Ytghjhlenkgkelaa

/-- the sum of f over a list -/
def sm {α : Type} (f : α → Int) : List α → Int
  | [] => 0
  | x :: l => f x + sm f l
theorem sm_append {α : Type} (f : α → Int) (l m : List α) : sm f (l ++ m) = sm f l + sm f m := by
  induction l with
  | nil => simp [sm]
  | cons x l ih => simp only [List.cons_append, sm, ih]; omega
theorem sm_map {α β : Type} (f : β → Int) (g : α → β) (l : List α) : sm f (l.map g) = sm (fun x => f (g x)) l := by
  induction l with
  | nil => rfl
  | cons x l ih => simp only [List.map_cons, sm, ih]
theorem sm_perm {α : Type} (f : α → Int) {l m : List α} (h : l.Perm m) : sm f l = sm f m := by
  induction h with
  | nil => rfl
  | cons x _ ih => simp only [sm, ih]
  | swap x y l => simp only [sm]; omega
  | trans _ _ h1 h2 => exact h1.trans h2
theorem sm_congr {α : Type} {f g : α → Int} {l : List α} (h : ∀ x ∈ l, f x = g x) : sm f l = sm g l := by
  induction l with
  | nil => rfl
  | cons x l ih => simp only [sm]; rw [h x (by simp), ih (fun y hy => h y (by simp [hy]))]
theorem sm_take {α : Type} (f : α → Int) {l : List α} {k : Nat} {x : α} (h : l[k]? = some x) : sm f (l.take (k + 1)) = sm f (l.take k) + f x := by
  rw [List.take_add_one, h, sm_append]; simp [sm]
theorem sm_bound {α : Type} {f : α → Int} {B : Int} {l : List α} (h : ∀ x ∈ l, 0 ≤ f x ∧ f x ≤ B) : 0 ≤ sm f l ∧ sm f l ≤ B * l.length := by
  induction l with
  | nil => simp [sm]
  | cons x l ih =>
    have h1 := h x (by simp)
    have h2 := ih (fun y hy => h y (by simp [hy]))
    simp only [sm, List.length_cons]
    have : B * ((l.length + 1 : Nat) : Int) = B * l.length + B := by
      rw [Int.natCast_add, Int.mul_add]; simp
    omega

section
variable {κ ν : Type} [DecidableEq κ]
theorem look_mem {R : List (κ × ν)} (hd : (R.map (·.1)).Nodup) {p : κ × ν} (hp : p ∈ R) : look R p.1 = some p.2 := by
  induction R with
  | nil => cases hp
  | cons q R ih =>
    rw [List.map_cons, List.nodup_cons] at hd
    rw [look_cons]
    rcases List.mem_cons.1 hp with rfl | hp
    · simp
    · have : q.1 ≠ p.1 := fun e => hd.1 (e ▸ List.mem_map_of_mem hp)
      rw [if_neg this]; exact ih hd.2 hp
theorem mem_of_look {R : List (κ × ν)} {x : κ} {v : ν} (h : look R x = some v) : (x, v) ∈ R := by
  unfold look at h
  cases hf : R.find? (fun p => p.1 = x) with
  | none => simp [hf] at h
  | some p =>
    simp [hf] at h
    have h1 := List.find?_some hf
    have h2 := List.mem_of_find?_eq_some hf
    simp at h1
    subst h1; subst h; exact h2
theorem sm_keys (f : ν → Int) (z : ν) {R : List (κ × ν)} (hd : (R.map (·.1)).Nodup) {ss : List κ} (hs : ss.Perm (R.map (·.1))) : sm f (ss.map (fun x => (look R x).getD z)) = sm (fun p => f p.2) R := by
  rw [sm_map, sm_perm _ hs, sm_map]
  exact sm_congr fun p hp => by rw [look_mem hd hp]; rfl
theorem upd_none {R : List (κ × ν)} {x : κ} (h : look R x = none) (v : ν) : upd R x v = R ++ [(x, v)] := by
  have : R.any (fun p => p.1 = x) = false := by
    rw [List.any_eq_false]; intro p hp; simpa using look_none_iff.1 h p hp
  simp [upd, this]
theorem sm_upd (f : ν → Int) {R : List (κ × ν)} (hd : (R.map (·.1)).Nodup) (x : κ) (v z : ν) (hz : f z = 0) : sm (fun p => f p.2) (upd R x v) = sm (fun p => f p.2) R + (f v - f ((look R x).getD z)) := by
  cases hl : look R x with
  | none => rw [upd_none hl, sm_append]; simp [sm, hz]
  | some u =>
    have hm := mem_of_look hl
    have hany : R.any (fun p => p.1 = x) = true := List.any_eq_true.2 ⟨_, hm, by simp⟩
    rw [upd, if_pos hany]
    clear hany hl
    induction R with
    | nil => cases hm
    | cons q R ih =>
      rw [List.map_cons, List.nodup_cons] at hd
      simp only [List.map_cons, sm, Option.getD_some]
      rcases List.mem_cons.1 hm with rfl | hm
      · have : R.map (fun p => if p.1 = x then (x, v) else p) = R := by
          conv => rhs; rw [← List.map_id R]
          exact List.map_congr_left fun p hp => by
            have : p.1 ≠ x := fun e => by
              have hm : p.1 ∈ R.map (·.1) := List.mem_map_of_mem (f := Prod.fst) hp
              rw [e] at hm; exact hd.1 hm
            simp [this]
        rw [this]; simp only [if_true]; omega
      · have : q.1 ≠ x := fun e => hd.1 (by rw [e]; exact List.mem_map_of_mem (f := Prod.fst) hm)
        rw [if_neg this, ih hd.2 hm]; simp only [Option.getD_some]; omega
end

def remB (x : Acc) : Bool := x.frm != x.at'
/-- the number of remote accesses -/
def remN (xs : List Acc) : Int := sm (fun x => if remB x then 1 else 0) xs

theorem edgUpd_nodup {R : List (K2 × Edg)} (h : (R.map (·.1)).Nodup) (f a p q : Int) : ((edgUpd R f a p q).map (·.1)).Nodup := upd_nodup h _ _
theorem edgA_nodup {R : List (K2 × Edg)} (h : (R.map (·.1)).Nodup) (x : Acc) : ((edgA R x).map (·.1)).Nodup := by
  unfold edgA; split
  · exact h
  · exact edgUpd_nodup h _ _ _ _
theorem edgesA_nodup : ∀ (l : List Acc) {R : List (K2 × Edg)}, (R.map (·.1)).Nodup → ((l.foldl edgA R).map (·.1)).Nodup
  | [], _, h => h
  | x :: l, _, h => edgesA_nodup l (edgA_nodup h x)
theorem edgesG_nodup : ∀ (l : List Grp) {R : List (K2 × Edg)}, (R.map (·.1)).Nodup → ((l.foldl edgG R).map (·.1)).Nodup
  | [], _, h => h
  | x :: l, _, h => edgesG_nodup l (edgUpd_nodup h _ _ _ _)
theorem edgesR_nodup (xs : List Acc) : ((edgesR xs).map (·.1)).Nodup := edgesG_nodup _ (edgesA_nodup _ (by simp))
theorem sm_edgUpd_acc {R : List (K2 × Edg)} (h : (R.map (·.1)).Nodup) (f a p q : Int) : sm (fun e => e.2.acc) (edgUpd R f a p q) = sm (fun e => e.2.acc) R + p := by
  unfold edgUpd edgAt
  rw [sm_upd (fun e : Edg => e.acc) h _ _ edg0 rfl]; simp only; omega
theorem sm_edgUpd_msg {R : List (K2 × Edg)} (h : (R.map (·.1)).Nodup) (f a p q : Int) : sm (fun e => e.2.msg) (edgUpd R f a p q) = sm (fun e => e.2.msg) R + q := by
  unfold edgUpd edgAt
  rw [sm_upd (fun e : Edg => e.msg) h _ _ edg0 rfl]; simp only; omega
theorem sm_edgesA : ∀ (l : List Acc) {R : List (K2 × Edg)}, (R.map (·.1)).Nodup → sm (fun e => e.2.acc) (l.foldl edgA R) = sm (fun e => e.2.acc) R + remN l ∧ sm (fun e => e.2.msg) (l.foldl edgA R) = sm (fun e => e.2.msg) R
  | [], R, h => by simp [remN, sm]
  | x :: l, R, h => by
    obtain ⟨h1, h2⟩ := sm_edgesA l (edgA_nodup h x)
    rw [List.foldl_cons, h1, h2]
    unfold edgA remN
    simp only [sm, remB]
    by_cases e : x.frm = x.at'
    · rw [if_pos e]; simp [e]
    · rw [if_neg e, sm_edgUpd_acc h, sm_edgUpd_msg h]
      have : (x.frm != x.at') = true := by simpa using e
      simp only [this, if_true]
      constructor <;> omega
theorem sm_edgesG : ∀ (l : List Grp) {R : List (K2 × Edg)}, (R.map (·.1)).Nodup → sm (fun e => e.2.acc) (l.foldl edgG R) = sm (fun e => e.2.acc) R ∧ sm (fun e => e.2.msg) (l.foldl edgG R) = sm (fun e => e.2.msg) R + l.length
  | [], R, h => by simp
  | x :: l, R, h => by
    obtain ⟨h1, h2⟩ := sm_edgesG l (edgUpd_nodup h x.frm x.at' 0 1)
    rw [List.foldl_cons, show edgG R x = edgUpd R x.frm x.at' 0 1 from rfl, h1, h2]
    rw [sm_edgUpd_acc h, sm_edgUpd_msg h]
    simp only [List.length_cons]; omega
theorem edges_sums {xs : List Acc} {es : List Edg} (h : IsEdges xs es) : sm (·.acc) es = remN xs ∧ sm (·.msg) es = (runR xs xs.length).length := by
  obtain ⟨ss, h1, _, rfl⟩ := h
  have hd := edgesR_nodup xs
  rw [sm_keys (fun e : Edg => e.acc) _ hd h1, sm_keys (fun e : Edg => e.msg) _ hd h1]
  have hA := edgesA_nodup xs (R := []) (by simp)
  obtain ⟨a1, a2⟩ := sm_edgesA xs (R := []) (by simp)
  obtain ⟨b1, b2⟩ := sm_edgesG ((runR xs xs.length).map (·.1)) hA
  unfold edgesR edgesA
  rw [b1, b2, a1, a2]
  simp [sm]

theorem spot_sum (xs : List Acc) : sm (fun p => p.2.reads + p.2.writes + p.2.other) (spotsR xs) = xs.length ∧ sm (fun p => p.2.remote) (spotsR xs) = remN xs ∧ ((spotsR xs).map (·.1)).Nodup := by
  suffices ∀ (l : List Acc) (R : List (K3 × Spt)), (R.map (·.1)).Nodup → sm (fun p => p.2.reads + p.2.writes + p.2.other) (l.foldl spotStep R) = sm (fun p => p.2.reads + p.2.writes + p.2.other) R + l.length ∧ sm (fun p => p.2.remote) (l.foldl spotStep R) = sm (fun p => p.2.remote) R + remN l ∧ ((l.foldl spotStep R).map (·.1)).Nodup by
    have := this xs [] (by simp)
    simpa [spotsR, sm] using this
  intro l
  induction l with
  | nil => intro R h; simp [remN, sm, h]
  | cons x l ih =>
    intro R h
    obtain ⟨h1, h2, h3⟩ := ih (spotStep R x) (upd_nodup h _ _)
    rw [List.foldl_cons]
    refine ⟨?_, ?_, h3⟩
    · rw [h1]; unfold spotStep
      rw [sm_upd (fun s : Spt => s.reads + s.writes + s.other) h _ _ spot0 rfl]
      simp only [spotAdd, List.length_cons]
      by_cases k1 : x.kind = 1
      · simp [k1]; omega
      · by_cases k2 : x.kind = 2
        · simp [k2]; omega
        · simp [k1, k2]; omega
    · rw [h2]; unfold spotStep
      rw [sm_upd (fun s : Spt => s.remote) h _ _ spot0 rfl]
      simp only [spotAdd, remN, sm, remB]
      by_cases e : x.frm = x.at'
      · simp [e]
      · have : (x.frm != x.at') = true := by simpa using e
        simp only [this, e, ne_eq, not_false_eq_true, if_true]; omega
theorem spots_sums {xs : List Acc} {sl : List Spt} (h : IsSpots xs sl) : sm (fun s => s.reads + s.writes + s.other) sl = xs.length ∧ sm (·.remote) sl = remN xs := by
  obtain ⟨ss, h1, _, rfl⟩ := h
  obtain ⟨a1, a2, hd⟩ := spot_sum xs
  rw [sm_keys (fun s : Spt => s.reads + s.writes + s.other) _ hd h1, sm_keys (fun s : Spt => s.remote) _ hd h1]
  exact ⟨a1, a2⟩

/-- how many accesses of a list go from f to a -/
def cntA (f a : Int) (l : List Acc) : Nat := (l.filter (fun x => x.frm == f && x.at' == a)).length
def cntG (f a : Int) (l : List Grp) : Nat := (l.filter (fun x => x.frm == f && x.at' == a)).length
/-- the map's entry of each pair is made of two counts -/
def CntOf (R : List (K2 × Edg)) (c g : Int → Int → Nat) : Prop := ∀ f a, look R ⟨f, a⟩ = if c f a = 0 ∧ g f a = 0 then none else some ⟨f, a, c f a, g f a⟩
theorem CntOf.at_ {R : List (K2 × Edg)} {c g : Int → Int → Nat} (h : CntOf R c g) (f a : Int) : (edgAt R f a).acc = c f a ∧ (edgAt R f a).msg = g f a := by
  unfold edgAt; rw [h f a]
  split
  · rename_i e; simp [edg0, e.1, e.2]
  · simp
theorem CntOf.upd {R : List (K2 × Edg)} {c g : Int → Int → Nat} (h : CntOf R c g) (f a : Int) (p q : Nat) (hpq : p + q ≠ 0) : CntOf (edgUpd R f a p q) (fun f' a' => c f' a' + if f' = f ∧ a' = a then p else 0) (fun f' a' => g f' a' + if f' = f ∧ a' = a then q else 0) := by
  intro f' a'
  unfold edgUpd
  rw [look_upd]
  obtain ⟨h1, h2⟩ := h.at_ f a
  by_cases e : f' = f ∧ a' = a
  · obtain ⟨rfl, rfl⟩ := e
    simp only [and_self, if_true, h1, h2]
    rw [if_neg (by omega)]
    simp
  · rw [if_neg (by intro e'; injection e' with e1 e2; exact e ⟨e1.symm, e2.symm⟩), h f' a']
    simp [e]
theorem cnt_edgesA : ∀ (l : List Acc) {R : List (K2 × Edg)} {c g : Int → Int → Nat}, CntOf R c g → CntOf (l.foldl edgA R) (fun f a => c f a + cntA f a (l.filter remB)) g
  | [], _, _, _, h => by simpa [cntA] using h
  | x :: l, R, c, g, h => by
    rw [List.foldl_cons]
    by_cases e : x.frm = x.at'
    · have hb : remB x = false := by simp [remB, e]
      have : edgA R x = R := by simp [edgA, e]
      rw [this, List.filter_cons_of_neg (by simp [hb])]
      exact cnt_edgesA l h
    · have hb : remB x = true := by simp [remB, e]
      have : edgA R x = edgUpd R x.frm x.at' (1 : Nat) (0 : Nat) := by simp [edgA, e]
      rw [this, List.filter_cons_of_pos hb]
      have := cnt_edgesA l (h.upd x.frm x.at' 1 0 (by omega))
      intro f a
      rw [this f a]
      have e1 : c f a + (if f = x.frm ∧ a = x.at' then 1 else 0) + cntA f a (l.filter remB) = c f a + cntA f a (x :: l.filter remB) := by
        unfold cntA
        by_cases k : f = x.frm ∧ a = x.at'
        · rw [if_pos k, List.filter_cons_of_pos (by simp [k.1, k.2])]; simp; omega
        · rw [if_neg k, List.filter_cons_of_neg (by simp; intro h1 h2; exact k ⟨h1.symm, h2.symm⟩)]; simp
      have e2 : g f a + (if f = x.frm ∧ a = x.at' then 0 else 0) = g f a := by simp
      simp only [e1, e2]
theorem cnt_edgesG : ∀ (l : List Grp) {R : List (K2 × Edg)} {c g : Int → Int → Nat}, CntOf R c g → CntOf (l.foldl edgG R) c (fun f a => g f a + cntG f a l)
  | [], _, _, _, h => by simpa [cntG] using h
  | x :: l, R, c, g, h => by
    rw [List.foldl_cons]
    have : edgG R x = edgUpd R x.frm x.at' (0 : Nat) (1 : Nat) := by simp [edgG]
    rw [this]
    have := cnt_edgesG l (h.upd x.frm x.at' 0 1 (by omega))
    intro f a
    rw [this f a]
    have e1 : g f a + (if f = x.frm ∧ a = x.at' then 1 else 0) + cntG f a l = g f a + cntG f a (x :: l) := by
      unfold cntG
      by_cases k : f = x.frm ∧ a = x.at'
      · rw [if_pos k, List.filter_cons_of_pos (by simp [k.1, k.2])]; simp; omega
      · rw [if_neg k, List.filter_cons_of_neg (by simp; intro h1 h2; exact k ⟨h1.symm, h2.symm⟩)]; simp
    have e2 : c f a + (if f = x.frm ∧ a = x.at' then 0 else 0) = c f a := by simp
    simp only [e1, e2]
theorem cnt_edgesR (xs : List Acc) : CntOf (edgesR xs) (fun f a => cntA f a (xs.filter remB)) (fun f a => cntG f a ((runR xs xs.length).map (·.1))) := by
  have h0 : CntOf [] (fun _ _ => 0) (fun _ _ => 0) := by intro f a; simp [look]
  have := cnt_edgesG ((runR xs xs.length).map (·.1)) (cnt_edgesA xs h0)
  simpa [edgesR, edgesA] using this

theorem range_filter {α : Type} (p : α → Bool) : ∀ (xs : List α), ((List.range xs.length).filter (fun i => (xs[i]?).any p)).length = (xs.filter p).length
  | [] => rfl
  | x :: xs => by
    have ih := range_filter p xs
    rw [List.length_cons, List.range_succ_eq_map, List.filter_cons, List.filter_map]
    have e : ((fun i => ((x :: xs)[i]?).any p) ∘ Nat.succ) = (fun i => (xs[i]?).any p) := by
      funext i; simp
    rw [e, List.filter_cons]
    by_cases h : p x = true
    · simp [h, ih]
    · simp [h, ih]
theorem heads_nodup : ∀ (gl : List Grp), (gl.flatMap (·.mem)).Nodup → (∀ g ∈ gl, g.mem ≠ []) → (gl.map (fun g => g.mem.headD 0)).Nodup ∧ ∀ m ∈ gl.map (fun g => g.mem.headD 0), m ∈ gl.flatMap (·.mem)
  | [], _, _ => by simp
  | g :: gl, h, hne => by
    rw [List.flatMap_cons] at h
    have hn := List.nodup_append.1 h
    obtain ⟨h1, h2⟩ := heads_nodup gl hn.2.1 (fun g hg => hne g (by simp [hg]))
    have hh : g.mem.headD 0 ∈ g.mem := by
      have := hne g (by simp)
      cases hm : g.mem with
      | nil => exact absurd hm this
      | cons a l => simp
    refine ⟨?_, fun m hm => ?_⟩
    · rw [List.map_cons, List.nodup_cons]
      exact ⟨fun hm => hn.2.2 _ hh _ (h2 _ hm) rfl, h1⟩
    · rw [List.map_cons] at hm
      rw [List.flatMap_cons, List.mem_append]
      rcases List.mem_cons.1 hm with rfl | hm
      · exact .inl hh
      · exact .inr (h2 m hm)
theorem edge_ok {xs : List Acc} {es : List Edg} (h : IsEdges xs es) : ∀ y ∈ es, y.frm ≠ y.at' ∧ 1 ≤ y.msg ∧ y.msg ≤ y.acc ∧ y.acc ≤ xs.length := by
  obtain ⟨ss, h1, _, rfl⟩ := h
  intro y hy
  obtain ⟨⟨f, a⟩, hx, rfl⟩ := List.mem_map.1 hy
  obtain ⟨p, hp, hpx⟩ := List.mem_map.1 (h1.mem_iff.1 hx)
  have hl := look_mem (edgesR_nodup xs) hp
  rw [hpx] at hl
  have hc := cnt_edgesR xs f a
  rw [hl] at hc
  have I := inv_run xs xs.length (Nat.le_refl _)
  have hfm : ((runR xs xs.length).map (·.1)).flatMap (·.mem) = (runR xs xs.length).flatMap (·.1.mem) := by rw [List.flatMap_map]
  obtain ⟨hn1, hn2⟩ := heads_nodup ((runR xs xs.length).map (·.1)) (by rw [hfm]; exact I.nodup) (fun g hg => by obtain ⟨q, hq, rfl⟩ := List.mem_map.1 hg; exact I.ne q hq)
  have hA : cntA f a (xs.filter remB) = ((List.range xs.length).filter (fun i => (xs[i]?).any (fun x => (x.frm == f && x.at' == a) && remB x))).length := by
    rw [range_filter]; unfold cntA; rw [List.filter_filter]
  have hle : cntG f a ((runR xs xs.length).map (·.1)) ≤ cntA f a (xs.filter remB) := by
    rw [hA]
    have := len_of_sub (l1 := (((runR xs xs.length).map (·.1)).filter (fun x => x.frm == f && x.at' == a)).map (fun g => g.mem.headD 0)) (l2 := (List.range xs.length).filter (fun i => (xs[i]?).any (fun x => (x.frm == f && x.at' == a) && remB x)))
      ((List.filter_sublist.map _).nodup hn1) (fun m hm => ?_)
    · rw [List.length_map] at this; exact this
    · obtain ⟨g, hg, rfl⟩ := List.mem_map.1 hm
      obtain ⟨hg1, hg2⟩ := List.mem_filter.1 hg
      obtain ⟨q, hq, rfl⟩ := List.mem_map.1 hg1
      have hh : q.1.mem.headD 0 ∈ q.1.mem := by
        have := I.ne q hq
        cases hm : q.1.mem with
        | nil => exact absurd hm this
        | cons a l => simp
      obtain ⟨x, hx, _, _, k3, k4⟩ := I.same q hq _ hh
      have hf := I.far q hq
      refine List.mem_filter.2 ⟨List.mem_range.2 (I.lt hq hh), ?_⟩
      simp only [hx, Option.any_some]
      simp only [Bool.and_eq_true, beq_iff_eq] at hg2 ⊢
      refine ⟨⟨by rw [k3]; exact hg2.1, by rw [k4]; exact hg2.2⟩, by simp [remB, k3, k4]; exact hf⟩
  have hpos : cntA f a (xs.filter remB) ≠ 0 := by
    intro h0
    rw [h0] at hle
    have : cntG f a ((runR xs xs.length).map (·.1)) = 0 := by omega
    simp only [h0, this, and_self, if_true] at hc
    cases hc
  have hG : 1 ≤ cntG f a ((runR xs xs.length).map (·.1)) ∧ f ≠ a := by
    obtain ⟨x, hx⟩ := List.exists_mem_of_length_pos (Nat.pos_of_ne_zero hpos)
    obtain ⟨hx1, hx2⟩ := List.mem_filter.1 hx
    obtain ⟨hx3, hx4⟩ := List.mem_filter.1 hx1
    obtain ⟨i, hi⟩ := List.getElem?_of_mem hx3
    have hr : x.frm ≠ x.at' := by simpa [remB] using hx4
    obtain ⟨q, hq, hm⟩ := List.mem_flatMap.1 ((I.mem i).2 ⟨(List.getElem?_eq_some_iff.1 hi).1, x, hi, hr⟩)
    obtain ⟨x', hx', _, _, k3, k4⟩ := I.same q hq _ hm
    rw [hi] at hx'; injection hx' with hx'; subst hx'
    simp only [Bool.and_eq_true, beq_iff_eq] at hx2
    refine ⟨?_, fun e => hr (by rw [hx2.1, hx2.2, e])⟩
    exact List.length_pos_of_mem (List.mem_filter.2 ⟨List.mem_map_of_mem (f := Prod.fst) hq, by simp [← k3, ← k4, hx2.1, hx2.2]⟩)
  rw [if_neg (fun e => hpos e.1)] at hc
  injection hc with hc
  rw [hl, hc]
  have hal : cntA f a (xs.filter remB) ≤ xs.length := Nat.le_trans (List.length_filter_le _ _) (List.length_filter_le _ _)
  exact ⟨hG.2, by simp only [Option.getD_some]; omega, by simp only [Option.getD_some]; omega, by simp only [Option.getD_some]; omega⟩
end Go.Proofs.Ytghjhlenkgkelaa
