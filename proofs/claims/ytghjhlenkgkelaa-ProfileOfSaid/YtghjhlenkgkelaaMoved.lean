/- DERIVED. Moved. -/
import Derived.Test.YtghjhlenkgkelaaMoved0
set_option linter.unusedSimpArgs false
set_option linter.unusedVariables false
namespace Go.Proofs.Ytghjhlenkgkelaa
open Go.RowKit Go.Shelf Go.Sort

abbrev iv (n : Int) : Value := .int .i64 n
def moveTo (R : List (K3 × Int)) (x : Acc) : Acc := { x with at' := (look R x.place).getD 0 }
def IsMoved (xs : List Acc) (hs : List Int) (ys : List Acc) : Prop := ∃ ss : List K3, ss.Perm ((spotsR xs).map (·.1)) ∧ ss.Pairwise (fun x y => ¬ lt3 y x) ∧ ys = xs.map (moveTo (ss.zip hs))
theorem spot_place (l : List Acc) : ∀ x s, look (spotsR l) x = some s → s.place = x := by
  suffices ∀ (l : List Acc) (R : List (K3 × Spt)), (∀ x s, look R x = some s → s.place = x) → ∀ x s, look (l.foldl spotStep R) x = some s → s.place = x from this l [] (by intro x s h; simp [look] at h)
  intro l
  induction l with
  | nil => intro R h; exact h
  | cons a l ih =>
    intro R h
    refine ih _ (fun x s hs => ?_)
    unfold spotStep at hs
    rw [look_upd] at hs
    split at hs
    · rename_i e; injection hs with hs; subst hs; exact e
    · exact h x s hs
theorem spots_nodup (l : List Acc) : ((spotsR l).map (·.1)).Nodup := by
  suffices ∀ (l : List Acc) (R : List (K3 × Spt)), (R.map (·.1)).Nodup → ((l.foldl spotStep R).map (·.1)).Nodup from this l [] (by simp)
  intro l
  induction l with
  | nil => intro R h; exact h
  | cons a l ih => intro R h; exact ih _ (upd_nodup h _ _)
theorem look_of_key {R : List (K3 × Spt)} {x : K3} (h : x ∈ R.map (·.1)) : ∃ s, look R x = some s := by
  cases hl : look R x with
  | none =>
    obtain ⟨p, hp, e⟩ := List.mem_map.1 h
    exact absurd e (look_none_iff.1 hl p hp)
  | some s => exact ⟨s, rfl⟩
theorem upd_zip {ss : List K3} {hs : List Int} (hd : ss.Nodup) {k : Nat} {p : K3} {h : Int} (hp : ss[k]? = some p) (hh : hs[k]? = some h) : upd ((ss.zip hs).take k) p h = (ss.zip hs).take (k + 1) := by
  have hz : (ss.zip hs)[k]? = some (p, h) := by rw [List.getElem?_zip_eq_some]; exact ⟨hp, hh⟩
  have hno : ∀ q ∈ (ss.zip hs).take k, q.1 ≠ p := by
    intro q hq e
    obtain ⟨i, hi⟩ := List.getElem?_of_mem hq
    rw [List.getElem?_take] at hi
    split at hi
    · rename_i hik
      obtain ⟨q1, q2⟩ := q
      rw [List.getElem?_zip_eq_some] at hi
      have h1 := hi.1
      simp only at e; subst e
      obtain ⟨a1, rfl⟩ := List.getElem?_eq_some_iff.1 h1
      obtain ⟨a2, e2⟩ := List.getElem?_eq_some_iff.1 hp
      have := (List.nodup_iff_pairwise_ne.1 hd)
      exact List.pairwise_iff_getElem.1 this i k a1 a2 hik e2.symm
    · cases hi
  have hany : ((ss.zip hs).take k).any (fun q => q.1 = p) = false := by
    rw [List.any_eq_false]; intro q hq; simpa using hno q hq
  rw [upd, if_neg (by rw [hany]; decide), List.take_add_one, hz]; rfl
theorem own_frozen {w : World} {base : Nat} {e : TypeId} {size n cap g : Nat} {xs : List Value} (h : w.ownsRow base e size (.slice (some ⟨g, 0, none⟩) n cap) n xs) (j : Nat) : w.frozen? ⟨g, j, none⟩ = false := by
  rcases h.2 with ⟨hv, _⟩ | ⟨g', cap', cur, hv, hb, hh, _⟩
  · cases hv
  · injection hv with ha _ hcap
    injection ha with ha
    injection ha with ha
    subst ha
    exact BlkAt.frozen (t := e) (cs := cur) hh j
theorem move_take (R : List (K3 × Int)) (xs : List Acc) {j : Nat} {x : Acc} (hx : xs[j]? = some x) : ((xs.map (moveTo R)).take j ++ xs.drop j).set j (moveTo R x) = (xs.map (moveTo R)).take (j + 1) ++ xs.drop (j + 1) := by
  have hj := (List.getElem?_eq_some_iff.1 hx).1
  rw [List.set_append_right _ _ (by simp; omega), List.take_add_one, List.getElem?_map, hx]
  have e : j - ((xs.map (moveTo R)).take j).length = 0 := by simp; omega
  rw [e, drop_cons hx]; simp
theorem move_at (R : List (K3 × Int)) (xs : List Acc) {j : Nat} {x : Acc} (hx : xs[j]? = some x) : ((xs.map (moveTo R)).take j ++ xs.drop j)[j]? = some x := by
  have hj := (List.getElem?_eq_some_iff.1 hx).1
  rw [List.getElem?_append_right (by simp; omega)]
  have e : j - ((xs.map (moveTo R)).take j).length = 0 := by simp; omega
  rw [e, List.getElem?_drop]; simpa using hx

set_option maxRecDepth 100000 in
set_option maxHeartbeats 2000000 in
theorem Moved_any (A AH : Option Addr) (n c m ch : Nat) (xs : List Acc) (hs : List Int) (w : World) (hl : n ≤ 5000) (hr : Trace w w.heap.size A n xs) (hh : Sl w iv AH m hs) (hg : givenL xs = 0) (hlen : hs.length = (spotsR xs).length) (hrg : ∀ h ∈ hs, 0 ≤ h ∧ h < 8) :
    Calls Try.prog 20 #[.slice A n c, .slice AH m ch] w fun e w' => ∃ v ys, e = .returned (.tuple #[v, .int .i64 0]) ∧ IsMoved xs hs ys ∧ w'.ownsRow w.heap.size 46 7 v n (ys.flatMap accL) ∧ Below w.heap.size w w' := by
  have hgiv := given_any A n c xs w hl hr
  rw [hg] at hgiv
  have HN := Lib.hid hr.len
  have HR := Lib.hid hr
  have HH := Lib.hid hh
  have HL := Lib.hid hlen
  have HRG := Lib.hid hrg
  have hmm := @run_makeMap Try.prog
  clear hr hg hlen hrg hh
  go_enter Try.func20, Try.ntmps20
  go_wp2_with (first
    | (go_at_call 22; refine hgiv.mono ?_; rintro e w1 ⟨rfl, hb1⟩; clear hgiv; have HB1 := Lib.hid hb1; have hs1 := hb1.size; have hsp := spots_any A n c xs w1 hl ((HR.out.below hb1 (Nat.le_refl _)).mono hb1.size); clear hb1)
    | (go_at_call 29
       refine hsp.mono ?_
       rintro e w2 ⟨vs, ss, rfl, hp, hs2, hrow, hb2⟩
       clear hsp
       obtain ⟨As, cs, rfl, _, _, _⟩ := own_slice hrow
       have hms : m = ss.length := by
         have h1 := HH.out.len; have h2 := HL.out; have h3 := hp.length_eq; rw [List.length_map] at h3; omega
       subst hms
       have HP := Lib.hid hp
       have HS := Lib.hid hs2
       have HROW := Lib.hid hrow
       have HB2 := Lib.hid (HB1.out.trans (hb2.mono hs1))
       have hs22 : w.heap.size ≤ w2.heap.size := HB2.out.size
       clear hp hs2 hrow hb2))
  have HM0 := Lib.hid (MapOf.made (enc := enc3) (encV := iv) w2)
  have HB0 : Hid (Below w2.heap.size w2 (w2.alloc (.map #[] 0))) := Lib.hid ((Below.refl _ _).alloc (Nat.le_refl _) _)
  have HND : Hid ss.Nodup := Lib.hid (HP.out.nodup_iff.2 (spots_nodup xs))
  have hssl : ss.length ≤ 5000 := by
    have h1 := HP.out.length_eq; have h2 := spotsR_len xs; have h3 := HN.out; rw [List.length_map] at h1; omega
  go_loopw [28] (fun i wr => ∃ k : Nat, k ≤ ss.length ∧ i = .int .i64 k ∧ MapOf enc3 iv wr w2.heap.size ((ss.zip hs).take k) ∧ Below w2.heap.size w2 wr) (fun i _ => ss.length - (intOf i).toNat)
  case atStart => exact ⟨0, by omega, rfl, HM0.out, HB0.out⟩
  case round => as_aux_lemma =>
    obtain ⟨k, hk, rfl, hm, hb⟩ := hrel
    by_cases hlt : k < ss.length
    · obtain ⟨p, hp⟩ := get_some hlt
      obtain ⟨h, hh⟩ := get_some (xs := hs) (k := k) (by have := HH.out.len; omega)
      obtain ⟨hr1, hr2⟩ := HRG.out h (List.mem_of_getElem? hh)
      obtain ⟨s0, hs0⟩ := look_of_key (HP.out.mem_iff.1 (List.mem_of_getElem? hp))
      have hpl := spot_place xs p s0 hs0
      have hbw : Below w.heap.size w wr := HB2.out.trans (hb.mono hs22)
      obtain ⟨bh, oh, rfl, hbh, hch⟩ := (HH.out.below hbw).at_ k h hh
      have hrow2 := HROW.out.kept (grown_of_below (row := none) hb) (none_or _)
      have hmap : (ss.map (fun x => (look (spotsR xs) x).getD spot0))[k]? = some s0 := by rw [List.getElem?_map, hp]; simp [hs0]
      obtain ⟨gs, rfl, hgs, hcs⟩ := row_cells' hrow2 (by omega)
      have hc := fun (i : Nat) (u : Value) (hu : (encSL s0)[i]? = some u) => hcs _ _ (flat_at (enc := encSL) (k := 7) (fun _ => rfl) hmap hu)
      have d0 := hc 0 _ rfl
      have d1 := hc 1 _ rfl
      have d2 := hc 2 _ rfl
      rw [Nat.add_zero] at d0
      rw [hpl] at d0 d1 d2
      have HU := Lib.hid (upd_zip HND.out hp hh)
      have f1 : decide (h < 0) = false := decide_eq_false (by omega)
      have f2 : decide ((8 : Int) ≤ h) = false := decide_eq_false (by omega)
      have hk0 : (0 : Int) ≤ (k : Int) := by omega
      have hk1 : (k : Int) < (ss.length : Int) := by omega
      have HB := Lib.hid hb
      clear hc hcs hrow2 hmap hp hh hs0 hpl hbw hb
      unfold enc3 at hm
      go_wp2_with (at_mapUpdate; refine wpList_mapUpdate_of _ rfl _ _ _ 100 rfl 3 mkey3 Try.underlying100 w2.heap.size ((ss.zip hs).take k) rfl hm p rfl h rfl ?_; intro w5 hm5 hg5 hs5)
      go_roundw
      case rel => exact ⟨k + 1, by omega, by go_num, by rw [← HU.out]; exact hm5, HB.out.grown hg5 HB.out.size (fun j e => by cases e; exact Nat.le_refl _)⟩
      case measure => simp [intOf]; omega
    · obtain rfl : k = ss.length := by omega
      have hz : (ss.zip hs).take ss.length = ss.zip hs := by
        apply List.take_of_length_le; rw [List.length_zip]; omega
      rw [hz] at hm
      obtain ⟨wg, rfl⟩ : ∃ wg : World, wg = wr := ⟨_, rfl⟩
      have HBG : Hid (Below w.heap.size w wg) := Lib.hid (HB2.out.trans (hb.mono hs22))
      have hbg := hm.lt
      have HMG := Lib.hid hm
      have HTG := Lib.hid ((HR.out.below HBG.out (Nat.le_refl _)).mono HBG.out.size)
      clear hz hm hb hlt hk
      have hcl : Calls Try.prog 41 #[.slice A n c] wg fun e w' => ∃ Av cv, e = .returned (.slice Av n cv) ∧ w'.ownsRow wg.heap.size 46 7 (.slice Av n cv) n (xs.flatMap accL) ∧ Below wg.heap.size wg w' := by
        have hT := HTG.out
        cases A with
        | none =>
          have hx0 : xs = [] := by
            cases hx : xs with
            | nil => rfl
            | cons a l =>
              obtain ⟨b, o, e, _⟩ := hT.at_ 0 a (by rw [hx]; rfl)
              cases e
          have hn0 : n = 0 := by rw [HN.out, hx0]; rfl
          subst hn0
          refine (clone_none c wg).mono ?_
          rintro e w' ⟨rfl, rfl⟩
          exact ⟨none, 0, rfl, by rw [hx0]; exact World.ownsRow_nil _ _ _ _, Below.refl _ _⟩
        | some a =>
          refine (clone_some a n c xs wg (by omega) hT).mono ?_
          rintro e w' ⟨v, rfl, h1, h2⟩
          obtain ⟨Av, cv, rfl, _, _, _⟩ := own_slice h1
          exact ⟨Av, cv, rfl, h1, h2⟩
      go_wp2_with (go_at_call 41; refine hcl.mono ?_; rintro e w3 ⟨Av, cv, rfl, hrow3, hb3⟩; clear hcl; have HROW3 := Lib.hid hrow3; have HB3 := Lib.hid hb3; have HM3 := Lib.hid (HMG.out.below hb3 hbg); have hs3 := hb3.size; clear hrow3 hb3)
      have HBW3 : Hid (Below w.heap.size w w3) := Lib.hid (HBG.out.trans (HB3.out.mono HBG.out.size))
      go_loopw [51] (fun i wr => ∃ j : Nat, j ≤ n ∧ i = .int .i64 j ∧ wr.ownsRow wg.heap.size 46 7 (.slice Av n cv) n (((xs.map (moveTo (ss.zip hs))).take j ++ xs.drop j).flatMap accL) ∧ MapOf enc3 iv wr w2.heap.size (ss.zip hs) ∧ Below w.heap.size w wr) (fun i _ => n - (intOf i).toNat)
      case atStart => exact ⟨0, by omega, rfl, by simpa using HROW3.out, HM3.out, HBW3.out⟩
      case round => as_aux_lemma =>
        obtain ⟨j, hj, rfl, hrow, hm, hb⟩ := hrel
        by_cases hlt2 : j < n
        · obtain ⟨x, hx⟩ := get_some (xs := xs) (k := j) (by rw [← HN.out]; exact hlt2)
          obtain ⟨g, rfl, hgl, hcg⟩ := row_cells' hrow (by omega)
          have hat := move_at (ss.zip hs) xs hx
          have hc := fun (i : Nat) (u : Value) (hu : (accL x)[i]? = some u) => hcg _ _ (flat_at (enc := accL) (k := 7) (fun _ => rfl) hat hu)
          have d1 := hc 1 _ rfl
          have d2 := hc 2 _ rfl
          have d3 := hc 3 _ rfl
          have d6 := hc 6 _ rfl
          have hfz := own_frozen hrow (j * 7 + 6)
          have hgb : wg.heap.size ≤ g := (own_lt' hrow rfl).1
          have hset := fun u => own_row_set (u := u) hrow (j := j * 7 + 6) (by rw [flat_len (k := 7) (fun _ => rfl)]; simp; have := HN.out; omega)
          have hfs : ∀ h : Int, h = (moveTo (ss.zip hs) x).at' → (((xs.map (moveTo (ss.zip hs))).take j ++ xs.drop j).flatMap accL).set (j * 7 + 6) (iv h) = ((xs.map (moveTo (ss.zip hs))).take (j + 1) ++ xs.drop (j + 1)).flatMap accL := fun h e => by
            rw [← move_take _ _ hx]
            exact flat_set (k := 7) (fun _ => rfl) hat (by omega) (by rw [e]; rfl)
          have HFS := Lib.hid hfs
          have HSET := Lib.hid hset
          have HM := Lib.hid hm
          have HB := Lib.hid hb
          have hj0 : (0 : Int) ≤ (j : Int) := by omega
          have hj1 : (j : Int) < (n : Int) := by omega
          have hlk : (look (ss.zip hs) x.place).getD 0 = (moveTo (ss.zip hs) x).at' := rfl
          have HLK := Lib.hid hlk
          clear hc hcg hat hset hfs hx hrow hb hlk
          unfold enc3 at hm
          go_wp2_with (at_lookup; refine wpList_lookup_of _ rfl _ _ 100 rfl 3 mkey3 Try.underlying100 (0 : Int) (by kernel_rfl) w2.heap.size (ss.zip hs) rfl hm x.place rfl ?_; rw [HLK.out]; generalize hgen : (moveTo (ss.zip hs) x).at' = hv at *; have HGEN := Lib.hid hgen.symm; clear hgen)
          go_roundw
          case rel =>
            refine ⟨j + 1, by omega, by go_num, ?_, ?_, ?_⟩
            · have h1 := HSET.out (iv hv)
              rw [HFS.out hv rfl] at h1
              exact h1
            · exact HM.out.setCell (p := ⟨g, j * 7 + 6, none⟩) (by show w2.heap.size ≠ g; omega) _
            · exact HB.out.setCell (p := ⟨g, j * 7 + 6, none⟩) (by show w.heap.size ≤ g; have := HBG.out.size; omega) _
          case measure => simp [intOf]; omega
        · obtain rfl : j = n := by omega
          have hys : ((xs.map (moveTo (ss.zip hs))).take j ++ xs.drop j) = xs.map (moveTo (ss.zip hs)) := by
            rw [List.take_of_length_le (by simp; have := HN.out; omega), List.drop_of_length_le (by have := HN.out; omega), List.append_nil]
          rw [hys] at hrow
          have HROWF := Lib.hid hrow
          have HBF := Lib.hid hb
          clear hrow hb hm hys
          go_wp2
          go_ret2
          exact ⟨_, _, rfl, ⟨ss, HP.out, HS.out, rfl⟩, own_base HROWF.out (by have := HBG.out.size; omega), HBF.out⟩
end Go.Proofs.Ytghjhlenkgkelaa
