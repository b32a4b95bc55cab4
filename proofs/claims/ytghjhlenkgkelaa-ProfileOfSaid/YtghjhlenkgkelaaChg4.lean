/- DERIVED. Compare in plain words: with itself nothing changes; the other way each change is undone. What a profile costs is never 'not a number'. -/
import Derived.Test.YtghjhlenkgkelaaChg3
import Derived.Test.YtghjhlenkgkelaaCounts0
import Derived.Test.YtghjhlenkgkelaaHPure
set_option linter.unusedSimpArgs false
set_option linter.unusedVariables false
namespace Go.Proofs.Ytghjhlenkgkelaa
open Go.RowKit Go.Shelf Go.Sort

/-! the cost -/
def goodD : Ieee.Datum → Bool
  | .infinity s => !s
  | .number s m _ => !s || m == 0
  | .nan .. => false
def finD : Ieee.Datum → Bool
  | .number s m _ => !s || m == 0
  | _ => false
theorem good_rung (r : Nat) (h : r ≤ Ieee.single.infRung) : goodD (Ieee.single.read r) = true := by
  have e1 : Ieee.single.infRung = 2139095040 := by decide +kernel
  have e2 : Ieee.single.signWeight = 2147483648 := by decide +kernel
  have e3 : Ieee.single.binade = 8388608 := by decide +kernel
  unfold Ieee.Format.read
  rw [e1] at h
  simp only [e1, e2, e3]
  have h1 : r / 2147483648 = 0 := Nat.div_eq_of_lt (by omega)
  have h2 : r % 2147483648 = r := Nat.mod_eq_of_lt (by omega)
  simp only [h1, h2]
  split
  · rfl
  · split
    · rfl
    · rw [if_pos (by omega)]; rfl
theorem near_pos (m : Nat) (e : Int) (hm : m ≠ 0) : ∃ r, Ieee.single.nearest false m e = r ∧ r ≤ Ieee.single.infRung := by
  unfold Ieee.Format.nearest
  rw [if_neg hm]
  have hw : ∀ r, Ieee.single.word false r = r := fun r => rfl
  simp only [hw]
  exact ⟨_, rfl, Nat.min_le_right _ _⟩
theorem good_near (m : Nat) (e : Int) (hm : m ≠ 0) : goodD (Ieee.single.read (Ieee.single.nearest false m e)) = true := by
  obtain ⟨r, h1, h2⟩ := near_pos m e hm
  rw [h1]; exact good_rung r h2
theorem good_zero : goodD (Ieee.single.read 0) = true := by decide +kernel
theorem good_mzero : goodD (Ieee.single.read 2147483648) = true := by decide +kernel
theorem near_zero (s : Bool) (e : Int) : Ieee.single.nearest s 0 e = Ieee.single.word s 0 := if_pos rfl
theorem word_false : Ieee.single.word false 0 = 0 := rfl
theorem good_write (d : Ieee.Datum) (h : goodD d = true) : goodD (Ieee.single.read (Ieee.single.write d)) = true := by
  have e2 : Ieee.single.word true 0 = 2147483648 := by decide +kernel
  cases d with
  | nan => simp [goodD] at h
  | infinity s =>
    simp [goodD] at h; subst h
    exact good_rung _ (Nat.le_refl _)
  | number s m e =>
    show goodD (Ieee.single.read (Ieee.single.nearest s m e)) = true
    by_cases hm : m = 0
    · subst hm
      rw [near_zero]
      cases s
      · rw [word_false]; exact good_zero
      · rw [e2]; exact good_mzero
    · have hs : s = false := by simpa [goodD, hm] using h
      subst hs
      exact good_near m e hm
theorem good_sum (a b : Ieee.Datum) (ha : goodD a = true) (hb : goodD b = true) : ∃ d, a.sum b = some d ∧ goodD d = true := by
  cases a with
  | nan => simp [goodD] at ha
  | infinity s =>
    simp [goodD] at ha; subst ha
    cases b with
    | nan => simp [goodD] at hb
    | infinity t => simp [goodD] at hb; subst hb; exact ⟨_, rfl, rfl⟩
    | number t n j => exact ⟨_, rfl, rfl⟩
  | number s m i =>
    cases b with
    | nan => simp [goodD] at hb
    | infinity t => simp [goodD] at hb; subst hb; exact ⟨_, rfl, rfl⟩
    | number t n j =>
      refine ⟨_, rfl, ?_⟩
      have sg : ∀ (s : Bool) (m k : Nat), (!s || m == 0) = true → 0 ≤ Ieee.signed s m k := by
        intro s m k h
        cases s
        · show (0 : Int) ≤ ((m <<< k : Nat) : Int)
          exact Int.natCast_nonneg _
        · simp at h; subst h; simp [Ieee.signed]
      have h1 := sg s m (i - min i j).toNat ha
      have h2 := sg t n (j - min i j).toNat hb
      simp only [goodD]
      split
      · rename_i h0; rw [h0]; simp
      · rw [decide_eq_false (by omega)]; rfl
theorem fin_mul (a b : Ieee.Datum) (ha : finD a = true) (hb : finD b = true) : ∃ d, a.product b = some d ∧ goodD d = true := by
  cases a with
  | nan => simp [finD] at ha
  | infinity s => simp [finD] at ha
  | number s m i =>
    cases b with
    | nan => simp [finD] at hb
    | infinity t => simp [finD] at hb
    | number t n j =>
      refine ⟨_, rfl, ?_⟩
      cases s <;> cases t <;> simp_all [finD, goodD]
theorem cvt_fin : ∀ n : Nat, n < 301 → finD (Ieee.single.read (cvt n)) = true := by decide +kernel
theorem step_some {mm me c : Nat} {x : Edg} (hm : finD (Ieee.single.read mm) = true) (he : finD (Ieee.single.read me) = true) (hc : goodD (Ieee.single.read c) = true) (h1 : 0 ≤ x.msg ∧ x.msg ≤ 300 ∧ 0 ≤ x.acc ∧ x.acc ≤ 300) :
    ∃ d, costStep mm me c x = some d ∧ goodD (Ieee.single.read d) = true := by
  obtain ⟨p, hp⟩ : ∃ p : Nat, x.msg = p := ⟨x.msg.toNat, by omega⟩
  obtain ⟨q, hq⟩ : ∃ q : Nat, x.acc = q := ⟨x.acc.toNat, by omega⟩
  obtain ⟨a, ha, ha'⟩ := fin_mul _ _ (cvt_fin p (by omega)) hm
  obtain ⟨b, hb, hb'⟩ := fin_mul _ _ (cvt_fin q (by omega)) he
  obtain ⟨s, hs, hs'⟩ := good_sum _ _ (good_write a ha') (good_write b hb')
  obtain ⟨r, hr, hr'⟩ := good_sum _ _ hc (good_write s hs')
  refine ⟨Ieee.single.write r, ?_, good_write r hr'⟩
  unfold costStep
  rw [hp, hq]
  show (((Ieee.single.read _).product (Ieee.single.read mm)).map Ieee.single.write).bind _ = _
  rw [ha]
  show (((Ieee.single.read _).product (Ieee.single.read me)).map Ieee.single.write).bind _ = _
  rw [hb]
  show (((Ieee.single.read _).sum (Ieee.single.read _)).map Ieee.single.write).bind _ = _
  rw [hs]
  show ((Ieee.single.read _).sum (Ieee.single.read _)).map Ieee.single.write = _
  rw [hr]; rfl
theorem cost_some {mm me : Nat} (hm : finD (Ieee.single.read mm) = true) (he : finD (Ieee.single.read me) = true) : ∀ (es : List Edg) (c : Nat), goodD (Ieee.single.read c) = true → (∀ y ∈ es, 0 ≤ y.msg ∧ y.msg ≤ 300 ∧ 0 ≤ y.acc ∧ y.acc ≤ 300) → (costF mm me es c).isSome = true
  | [], _, _, _ => rfl
  | x :: es, c, hc, h => by
    obtain ⟨d, hd, hd'⟩ := step_some hm he hc (h x (by simp))
    unfold costF
    rw [hd]
    exact cost_some hm he es d hd' (fun y hy => h y (List.mem_cons_of_mem _ hy))

/-! the edges ascend -/
theorem lt2_tri {x y : K2} (h1 : ¬ lt2 x y) (h2 : ¬ lt2 y x) : x = y := by
  obtain ⟨a, b⟩ := x
  obtain ⟨c, d⟩ := y
  simp only [lt2] at h1 h2
  have h3 : a = c := by omega
  have h4 : b = d := by omega
  rw [h3, h4]
theorem edge_key (xs : List Acc) (k : K2) (hk : k ∈ (edgesR xs).map (·.1)) : ((look (edgesR xs) k).getD ⟨0, 0, 0, 0⟩).key = k := by
  have h := cnt_edgesR xs k.a k.b
  have hk' : look (edgesR xs) ⟨k.a, k.b⟩ ≠ none := by
    rw [Ne, look_none_iff]
    intro h
    obtain ⟨p, hp, e⟩ := List.mem_map.1 hk
    exact h p hp e
  split at h
  · exact absurd h hk'
  · rw [show look (edgesR xs) k = look (edgesR xs) ⟨k.a, k.b⟩ from rfl, h]; rfl
theorem edges_keys {xs : List Acc} {es : List Edg} (h : IsEdges xs es) : (es.map Edg.key).Nodup ∧ (es.map Edg.key).Pairwise (fun x y => ¬ lt2 y x) := by
  obtain ⟨ss, h1, h2, rfl⟩ := h
  have e : (ss.map (fun x => (look (edgesR xs) x).getD ⟨0, 0, 0, 0⟩)).map Edg.key = ss := by
    rw [List.map_map]
    conv => rhs; rw [← List.map_id ss]
    exact List.map_congr_left (fun k hk => edge_key xs k (h1.mem_iff.1 hk))
  rw [e]
  exact ⟨h1.nodup_iff.2 (edgesR_nodup xs), h2⟩
theorem edges_asc {xs : List Acc} {es : List Edg} (h : IsEdges xs es) : AscE es := by
  obtain ⟨h1, h2⟩ := edges_keys h
  intro k x y hx hy
  have hl := (List.getElem?_eq_some_iff.1 hy).1
  have hx' : (es.map Edg.key)[k]? = some x.key := by simp [hx]
  have hy' : (es.map Edg.key)[k + 1]? = some y.key := by simp [hy]
  obtain ⟨hxl, hxe⟩ := List.getElem?_eq_some_iff.1 hx'
  obtain ⟨hyl, hye⟩ := List.getElem?_eq_some_iff.1 hy'
  have hp := List.pairwise_iff_getElem.1 h2 k (k + 1) hxl hyl (by omega)
  have hne : x.key ≠ y.key := by
    have := List.pairwise_iff_getElem.1 h1 k (k + 1) hxl hyl (by omega)
    rwa [hxe, hye] at this
  rw [hxe, hye] at hp
  have : lt2 x.key y.key := by
    refine Classical.byContradiction fun hn => hne (lt2_tri hn hp)
  have h3 := (cmp2_lt x.key y.key).2 this
  rw [show Go.Proofs.ltOf cmp2 x.key y.key = decide (cmp2 x.key y.key < 0) from rfl, decide_eq_true_eq] at h3
  exact h3

/-! what changed -/
def findE (xs : List Edg) (k : K2) : Option Edg := xs.find? (fun x => x.key = k)
theorem findE_cons (x : Edg) (xs : List Edg) (k : K2) : findE (x :: xs) k = if x.key = k then some x else findE xs k := by
  unfold findE; rw [List.find?_cons]; by_cases h : x.key = k <;> simp [h]
theorem findE_key {xs : List Edg} {k : K2} {x : Edg} (h : findE xs k = some x) : x.key = k := by
  have := List.find?_some h; simpa using this
theorem findE_none {xs : List Edg} {k : K2} (h : k ∉ xs.map Edg.key) : findE xs k = none := by
  unfold findE; rw [List.find?_eq_none]; intro x hx; simp; intro e; exact h (List.mem_map.2 ⟨x, hx, e⟩)
theorem look_chgA : ∀ (xs : List Edg) (R : List (K2 × Edg)) (k : K2), (xs.map Edg.key).Nodup → look (xs.foldl chgA R) k = match findE xs k with | some x => some (negE x) | none => look R k
  | [], _, _, _ => rfl
  | x :: xs, R, k, hd => by
    rw [List.map_cons, List.nodup_cons] at hd
    rw [List.foldl_cons, look_chgA xs _ k hd.2, findE_cons]
    by_cases h : x.key = k
    · rw [if_pos h, findE_none (by rw [← h]; exact hd.1)]
      show look (upd R x.key (negE x)) k = _
      rw [look_upd, if_pos h]
    · rw [if_neg h]
      have : look (chgA R x) k = look R k := by
        show look (upd R x.key (negE x)) k = _
        rw [look_upd, if_neg h]
      rw [this]
theorem look_chgB : ∀ (ys : List Edg) (R : List (K2 × Edg)) (k : K2), (ys.map Edg.key).Nodup → look (ys.foldl chgB R) k = match findE ys k with | some y => some ⟨k.a, k.b, ((look R k).getD edg0).acc + y.acc, ((look R k).getD edg0).msg + y.msg⟩ | none => look R k
  | [], _, _, _ => rfl
  | y :: ys, R, k, hd => by
    rw [List.map_cons, List.nodup_cons] at hd
    rw [List.foldl_cons, look_chgB ys _ k hd.2, findE_cons]
    by_cases h : y.key = k
    · rw [if_pos h, findE_none (by rw [← h]; exact hd.1)]
      show look (upd R y.key _) k = _
      rw [look_upd, if_pos h]
      subst h; rfl
    · rw [if_neg h]
      have : look (chgB R y) k = look R k := by
        show look (upd R y.key _) k = _
        rw [look_upd, if_neg h]
      rw [this]
theorem look_chgR (xs ys : List Edg) (k : K2) (hx : (xs.map Edg.key).Nodup) (hy : (ys.map Edg.key).Nodup) : look (chgR xs ys) k = match findE xs k, findE ys k with
    | some x, some y => some ⟨k.a, k.b, -x.acc + y.acc, -x.msg + y.msg⟩
    | none, some y => some ⟨k.a, k.b, y.acc, y.msg⟩
    | some x, none => some (negE x)
    | none, none => none := by
  unfold chgR
  rw [look_chgB ys _ k hy, look_chgA xs _ k hx]
  cases findE xs k <;> cases findE ys k <;> simp [look_nil, negE, edg0]
theorem chgA_nodup : ∀ (l : List Edg) {R : List (K2 × Edg)}, (R.map (·.1)).Nodup → ((l.foldl chgA R).map (·.1)).Nodup
  | [], _, h => h
  | x :: l, R, h => chgA_nodup l (upd_nodup h _ _)
theorem chgB_nodup : ∀ (l : List Edg) {R : List (K2 × Edg)}, (R.map (·.1)).Nodup → ((l.foldl chgB R).map (·.1)).Nodup
  | [], _, h => h
  | x :: l, R, h => chgB_nodup l (upd_nodup h _ _)
theorem chgR_nodup (xs ys : List Edg) : ((chgR xs ys).map (·.1)).Nodup := chgB_nodup ys (chgA_nodup xs (by simp))
theorem mem_keys {R : List (K2 × Edg)} {k : K2} : k ∈ R.map (·.1) ↔ look R k ≠ none := by
  rw [Ne, look_none_iff]
  constructor
  · intro h hn
    obtain ⟨p, hp, e⟩ := List.mem_map.1 h
    exact hn p hp e
  · intro h
    refine Classical.byContradiction fun hn => h (fun p hp e => hn (List.mem_map.2 ⟨p, hp, e⟩))
theorem chg_self {xs es : List Edg} (hx : (xs.map Edg.key).Nodup) (h : IsChg xs xs es) : es = [] := by
  obtain ⟨ss, h1, h2, rfl⟩ := h
  rw [List.filter_eq_nil_iff]
  intro e he
  obtain ⟨k, hk, rfl⟩ := List.mem_map.1 he
  have hk' := mem_keys.1 (h1.mem_iff.1 hk)
  rw [look_chgR xs xs k hx hx] at hk' ⊢
  cases hf : findE xs k with
  | none => rw [hf] at hk'; simp at hk'
  | some x => simp [nilE]; omega
theorem chg_swap (xs ys : List Edg) (k : K2) (hx : (xs.map Edg.key).Nodup) (hy : (ys.map Edg.key).Nodup) : look (chgR ys xs) k = (look (chgR xs ys) k).map negE := by
  rw [look_chgR ys xs k hy hx, look_chgR xs ys k hx hy]
  cases hf : findE xs k with
  | none =>
    cases hg : findE ys k with
    | none => rfl
    | some y => have := findE_key hg; subst this; rfl
  | some x =>
    have hfk := findE_key hf
    cases hg : findE ys k with
    | none => subst hfk; simp [negE, Edg.key]
    | some y => simp [negE]; omega
theorem nil_neg (x : Edg) : nilE (negE x) = nilE x := by
  simp only [nilE, negE]
  rw [Bool.eq_iff_iff]; simp
theorem filter_negE (l : List Edg) : (l.map negE).filter (fun x => !nilE x) = (l.filter (fun x => !nilE x)).map negE := by
  rw [List.filter_map]
  congr 1
  apply List.filter_congr
  intro x _
  simp [nil_neg]
theorem chg_undo {xs ys es fs : List Edg} (hx : (xs.map Edg.key).Nodup) (hy : (ys.map Edg.key).Nodup) (h : IsChg xs ys es) (h' : IsChg ys xs fs) : fs = es.map negE := by
  obtain ⟨ss, h1, h2, rfl⟩ := h
  obtain ⟨tt, g1, g2, rfl⟩ := h'
  have hk : ((chgR ys xs).map (·.1)).Perm ((chgR xs ys).map (·.1)) := by
    rw [List.perm_ext_iff_of_nodup (chgR_nodup _ _) (chgR_nodup _ _)]
    intro k
    rw [mem_keys, mem_keys, chg_swap xs ys k hx hy]
    simp
  have e : tt = ss := sorted_eq (fun _ _ => lt2_tri) ((g1.trans hk).trans h1.symm) g2 h2
  subst e
  rw [← filter_negE, List.map_map]
  congr 1
  apply List.map_congr_left
  intro k hk'
  have := mem_keys.1 (h1.mem_iff.1 hk')
  rw [chg_swap xs ys k hx hy]
  cases hl : look (chgR xs ys) k with
  | none => exact absurd hl this
  | some z => simp [hl]
end Go.Proofs.Ytghjhlenkgkelaa
