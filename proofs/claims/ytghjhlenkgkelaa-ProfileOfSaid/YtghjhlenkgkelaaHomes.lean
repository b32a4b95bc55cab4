/- DERIVED. Homes. -/
import Derived.Test.YtghjhlenkgkelaaHomes0
import Derived.Test.YtghjhlenkgkelaaGiven
import Derived.Test.YtghjhlenkgkelaaApp
set_option linter.unusedSimpArgs false
set_option linter.unusedVariables false
namespace Go.Proofs.Ytghjhlenkgkelaa
open Go.RowKit Go.Shelf Go.Sort

def K8.get (v : K8) : Nat → Int
  | 0 => v.c0
  | 1 => v.c1
  | 2 => v.c2
  | 3 => v.c3
  | 4 => v.c4
  | 5 => v.c5
  | 6 => v.c6
  | 7 => v.c7
  | _ => 0
def K8.inc (v : K8) : Nat → K8
  | 0 => { v with c0 := v.c0 + 1 }
  | 1 => { v with c1 := v.c1 + 1 }
  | 2 => { v with c2 := v.c2 + 1 }
  | 3 => { v with c3 := v.c3 + 1 }
  | 4 => { v with c4 := v.c4 + 1 }
  | 5 => { v with c5 := v.c5 + 1 }
  | 6 => { v with c6 := v.c6 + 1 }
  | 7 => { v with c7 := v.c7 + 1 }
  | _ => v
theorem K8.get_inc (v : K8) {i j : Nat} (hi : i < 8) (hj : j < 8) : (v.inc i).get j = v.get j + if i = j then 1 else 0 := by
  match i, hi with
  | 0, _ | 1, _ | 2, _ | 3, _ | 4, _ | 5, _ | 6, _ | 7, _ =>
    match j, hj with
    | 0, _ | 1, _ | 2, _ | 3, _ | 4, _ | 5, _ | 6, _ | 7, _ => simp [K8.inc, K8.get]
def homeStep (R : List (K3 × K8)) (x : Acc) : List (K3 × K8) := upd R x.place (((look R x.place).getD k80).inc x.frm.toNat)
def homesR (l : List Acc) : List (K3 × K8) := l.foldl homeStep []
theorem homesR_snoc (l : List Acc) (a : Acc) : homesR (l ++ [a]) = homeStep (homesR l) a := by simp [homesR]
def bestUp (v : K8) : Nat → Nat
  | 0 => 0
  | k + 1 => if v.get (bestUp v k) < v.get k then k else bestUp v k
def bestOf (v : K8) : Nat := bestUp v 8
theorem bestUp_lt (v : K8) : ∀ k, k ≤ 8 → bestUp v k < 8
  | 0, _ => by simp [bestUp]
  | k + 1, h => by
    unfold bestUp
    split
    · omega
    · exact bestUp_lt v k (by omega)
def K8.le (v : K8) (k : Nat) : Prop := ∀ i, i < 8 → 0 ≤ v.get i ∧ v.get i ≤ k
theorem K8.le_inc {v : K8} {k : Nat} (h : v.le k) (i : Nat) (hi : i < 8) : (v.inc i).le (k + 1) := by
  intro j hj
  rw [K8.get_inc v hi hj]
  have := h j hj
  split <;> omega
theorem k80_le (k : Nat) : k80.le k := by
  intro i hi
  match i, hi with
  | 0, _ | 1, _ | 2, _ | 3, _ | 4, _ | 5, _ | 6, _ | 7, _ => simp [k80, K8.get]
def HomesLe (R : List (K3 × K8)) (k : Nat) : Prop := ∀ x v, look R x = some v → v.le k
theorem HomesLe.at_ {R : List (K3 × K8)} {k : Nat} (h : HomesLe R k) (x : K3) : ((look R x).getD k80).le k := by
  cases hl : look R x with
  | none => exact k80_le k
  | some v => exact h x v hl
def validA (x : Acc) : Prop := 0 ≤ x.task ∧ 0 ≤ x.frm ∧ x.frm < 8 ∧ 0 ≤ x.at' ∧ x.at' < 8 ∧ 1 ≤ x.kind ∧ x.kind ≤ 4
theorem validFrom : ∀ {l : List Acc}, givenFrom l = 0 → ∀ x ∈ l, validA x
  | [], _, x, hx => by cases hx
  | a :: l, h, x, hx => by
    unfold givenFrom at h
    split at h
    · cases h
    · split at h
      · cases h
      · rename_i h1 h2
        rcases List.mem_cons.1 hx with rfl | hx
        · unfold validA; omega
        · exact validFrom h x hx
theorem valid_of {l : List Acc} (h : givenL l = 0) : ∀ x ∈ l, validA x := by
  unfold givenL at h
  split at h
  · cases h
  · exact validFrom h
theorem homesR_le : ∀ (l : List Acc), (∀ x ∈ l, validA x) → HomesLe (homesR l) l.length := by
  intro l h
  suffices ∀ (l : List Acc) (R : List (K3 × K8)) (k : Nat), (∀ x ∈ l, validA x) → HomesLe R k → HomesLe (l.foldl homeStep R) (k + l.length) by
    have := this l [] 0 h (by intro x v h; simp [look] at h)
    simpa [homesR] using this
  clear h l
  intro l
  induction l with
  | nil => intro R k _ h; exact h
  | cons a l ih =>
    intro R k hv h
    have ha := hv a (by simp)
    unfold validA at ha
    have h1 : HomesLe (homeStep R a) (k + 1) := by
      intro x v hx
      unfold homeStep at hx
      rw [look_upd] at hx
      split at hx
      · injection hx with hx; subst hx; exact K8.le_inc (h.at_ _) _ (by omega)
      · intro i hi; have := h x v hx i hi; omega
    have := ih _ _ (fun x hx => hv x (by simp [hx])) h1
    rw [List.foldl_cons, List.length_cons]; rwa [show k + (l.length + 1) = k + 1 + l.length by omega]
theorem homesR_len (l : List Acc) : (homesR l).length ≤ l.length := by
  suffices ∀ (l : List Acc) (R : List (K3 × K8)), (l.foldl homeStep R).length ≤ R.length + l.length by simpa [homesR] using this l []
  intro l
  induction l with
  | nil => simp
  | cons a l ih =>
    intro R
    have h1 := ih (homeStep R a)
    have h2 := upd_length_le R a.place (((look R a.place).getD k80).inc a.frm.toNat)
    simp only [List.foldl_cons, List.length_cons]
    unfold homeStep at h1 ⊢
    omega
def IsHomes (xs : List Acc) (hs : List Nat) : Prop := ∃ ss : List K3, ss.Perm ((homesR xs).map (·.1)) ∧ ss.Pairwise (fun x y => ¬ lt3 y x) ∧ hs = ss.map (fun x => bestOf ((look (homesR xs) x).getD k80))

theorem own_lt' {w : World} {base : Nat} {e : TypeId} {size n j : Nat} {v : Value} {xs : List Value} (h : w.ownsRow base e size v n xs) (hj : v.ownBlock = some j) : base ≤ j ∧ j < w.heap.size := h.lt j hj
theorem row_cells' {w : World} {base : Nat} {e : TypeId} {k n c : Nat} {A : Option Addr} {xs : List Value} (h : w.ownsRow base e k (.slice A n c) n xs) (hn : 0 < n) : ∃ g, A = some ⟨g, 0, none⟩ ∧ g < w.heap.size ∧ ∀ j u, xs[j]? = some u → w.cell? ⟨g, j, none⟩ = some u := by
  obtain ⟨A', c', hv, _, _, hA⟩ := own_slice h
  injection hv with hv
  obtain ⟨g, e, _, hl, hc⟩ := hA hn
  exact ⟨g, hv.trans e, hl, hc⟩
theorem index8 (y : K8) (j : Nat) (hj : j < 8) (W : World) : (Instr.index 81 (.agg #[.int .i64 y.c0, .int .i64 y.c1, .int .i64 y.c2, .int .i64 y.c3, .int .i64 y.c4, .int .i64 y.c5, .int .i64 y.c6, .int .i64 y.c7]) (.int .i64 j)).run Try.prog W = .ok (.int .i64 (y.get j)) W := by
  obtain rfl | rfl | rfl | rfl | rfl | rfl | rfl | rfl : j = 0 ∨ j = 1 ∨ j = 2 ∨ j = 3 ∨ j = 4 ∨ j = 5 ∨ j = 6 ∨ j = 7 := by omega
  all_goals kernel_rfl
theorem cell8 (wr : World) (y : K8) (t : TypeId) (b : Nat) (hb : b < 8) : (wr.alloc (.cells #[.int .i64 y.c0, .int .i64 y.c1, .int .i64 y.c2, .int .i64 y.c3, .int .i64 y.c4, .int .i64 y.c5, .int .i64 y.c6, .int .i64 y.c7] t)).cell? ⟨wr.heap.size, b, none⟩ = some (.int .i64 (y.get b)) := by
  rw [BlkAt.cell (BlkAt.new wr t _) b]
  match b, hb with
  | 0, _ | 1, _ | 2, _ | 3, _ | 4, _ | 5, _ | 6, _ | 7, _ => rfl

set_option maxRecDepth 100000 in
set_option maxHeartbeats 2000000 in
theorem Homes_any (A : Option Addr) (n c : Nat) (xs : List Acc) (w : World) (hl : n ≤ 5000) (hr : Trace w w.heap.size A n xs) (hg : givenL xs = 0) :
    Calls Try.prog 18 #[.slice A n c] w fun e w' => ∃ v hs, e = .returned (.tuple #[v, .int .i64 0]) ∧ IsHomes xs hs ∧ w'.ownsRow w.heap.size 3 1 v hs.length (hs.map intV) ∧ Below w.heap.size w w' := by
  have hgiv := given_any A n c xs w hl hr
  rw [hg] at hgiv
  have HN := Lib.hid hr.len
  have HR := Lib.hid hr
  have HV := Lib.hid (valid_of hg)
  have hmm := @run_makeMap Try.prog
  clear hr hg
  obtain ⟨i0, hi, hz0, hz1, hz2⟩ := info_parts int_info
  go_enter Try.func18, Try.ntmps18
  go_wp2_with (go_at_call 22; refine hgiv.mono ?_; rintro e w1 ⟨rfl, hb1⟩; clear hgiv; have HB1 := Lib.hid hb1; have hs1 := hb1.size; clear hb1)
  have HM0 := Lib.hid (MapOf.made (enc := enc3) (encV := encH) w1)
  have HBM : Hid (Below w.heap.size w (w1.alloc (.map #[] 0))) := Lib.hid (HB1.out.alloc hs1 _)
  go_loopw [23] (fun i wr => ∃ k : Nat, k ≤ n ∧ i = .int .i64 k ∧ MapOf enc3 encH wr w1.heap.size (homesR (xs.take k)) ∧ Below w.heap.size w wr) (fun i _ => n - (intOf i).toNat)
  case atStart => exact ⟨0, by omega, rfl, HM0.out, HBM.out⟩
  case round => as_aux_lemma =>
    obtain ⟨k, hk, rfl, hm, hbw⟩ := hrel
    by_cases hlt : k < n
    · obtain ⟨x, hx⟩ := get_some (xs := xs) (k := k) (by rw [← HN.out]; omega)
      obtain ⟨b, off, rfl, hb, hc⟩ := HR.out.at_ k x hx
      obtain ⟨c0, c1, c2, c3, c4, c5, c6⟩ := hc.below hbw hb
      have HS : Hid (homesR (xs.take (k + 1)) = homeStep (homesR (xs.take k)) x) := Lib.hid (by rw [take_snoc hx, homesR_snoc])
      have hval := HV.out x (List.mem_of_getElem? hx)
      have hle := (homesR_le (xs.take k) (fun y hy => HV.out y (List.mem_of_mem_take hy))).at_ x.place
      have htl : (xs.take k).length ≤ k := List.length_take_le _ _
      have hst : ∀ j, x.frm = (j : Nat) → homeStep (homesR (xs.take k)) x = upd (homesR (xs.take k)) x.place (((look (homesR (xs.take k)) x.place).getD k80).inc j) := fun j hj => by unfold homeStep; rw [hj]; rfl
      generalize homesR (xs.take k) = R at *
      generalize hyy : (look R x.place).getD k80 = y at *
      have HST := Lib.hid hst
      have HY := Lib.hid hyy
      have l0 := (hle 0 (by omega)).2
      have l1 := (hle 1 (by omega)).2
      have l2 := (hle 2 (by omega)).2
      have l3 := (hle 3 (by omega)).2
      have l4 := (hle 4 (by omega)).2
      have l5 := (hle 5 (by omega)).2
      have l6 := (hle 6 (by omega)).2
      have l7 := (hle 7 (by omega)).2
      have g0 := (hle 0 (by omega)).1
      have g1 := (hle 1 (by omega)).1
      have g2 := (hle 2 (by omega)).1
      have g3 := (hle 3 (by omega)).1
      have g4 := (hle 4 (by omega)).1
      have g5 := (hle 5 (by omega)).1
      have g6 := (hle 6 (by omega)).1
      have g7 := (hle 7 (by omega)).1
      simp only [K8.get] at l0 l1 l2 l3 l4 l5 l6 l7 g0 g1 g2 g3 g4 g5 g6 g7
      have b0 : y.c0 ≤ 5000 := by omega
      have b1 : y.c1 ≤ 5000 := by omega
      have b2 : y.c2 ≤ 5000 := by omega
      have b3 : y.c3 ≤ 5000 := by omega
      have b4 : y.c4 ≤ 5000 := by omega
      have b5 : y.c5 ≤ 5000 := by omega
      have b6 : y.c6 ≤ 5000 := by omega
      have b7 : y.c7 ≤ 5000 := by omega
      have hfr : x.frm = 0 ∨ x.frm = 1 ∨ x.frm = 2 ∨ x.frm = 3 ∨ x.frm = 4 ∨ x.frm = 5 ∨ x.frm = 6 ∨ x.frm = 7 := by unfold validA at hval; omega
      have HBW := Lib.hid hbw
      clear hst hc hx hyy htl hle hval l0 l1 l2 l3 l4 l5 l6 l7 hbw
      unfold enc3 at hm
      rcases hfr with h | h | h | h | h | h | h | h
      · have HE := Lib.hid (HST.out 0 (by rw [h]; rfl))
        rw [h] at c5
        clear h
        go_wp2_with (first
          | (at_lookup; refine wpList_lookup_of _ rfl _ _ 96 rfl 81 mkey3 Try.underlying96 k80 (by kernel_rfl) w1.heap.size R rfl (hm.alloc _) x.place rfl ?_; rw [HY.out]; unfold encH)
          | (at_mapUpdate; refine wpList_mapUpdate_of _ rfl _ _ _ 96 rfl 81 mkey3 Try.underlying96 w1.heap.size R rfl ((hm.alloc _).alloc _) x.place rfl (y.inc 0) rfl ?_; intro w2 hm2 hg2 hs2))
        go_roundw
        case rel => exact ⟨k + 1, by omega, by go_num, by rw [HS.out, HE.out]; exact hm2, ((HBW.out.alloc HBW.out.size _).alloc (by have := HBW.out.size; simp; omega) _).grown hg2 (by have := HBW.out.size; simp; omega) (fun j e => by cases e; exact hs1)⟩
        case measure => simp [intOf]; omega
      · have HE := Lib.hid (HST.out 1 (by rw [h]; rfl))
        rw [h] at c5
        clear h
        go_wp2_with (first
          | (at_lookup; refine wpList_lookup_of _ rfl _ _ 96 rfl 81 mkey3 Try.underlying96 k80 (by kernel_rfl) w1.heap.size R rfl (hm.alloc _) x.place rfl ?_; rw [HY.out]; unfold encH)
          | (at_mapUpdate; refine wpList_mapUpdate_of _ rfl _ _ _ 96 rfl 81 mkey3 Try.underlying96 w1.heap.size R rfl ((hm.alloc _).alloc _) x.place rfl (y.inc 1) rfl ?_; intro w2 hm2 hg2 hs2))
        go_roundw
        case rel => exact ⟨k + 1, by omega, by go_num, by rw [HS.out, HE.out]; exact hm2, ((HBW.out.alloc HBW.out.size _).alloc (by have := HBW.out.size; simp; omega) _).grown hg2 (by have := HBW.out.size; simp; omega) (fun j e => by cases e; exact hs1)⟩
        case measure => simp [intOf]; omega
      · have HE := Lib.hid (HST.out 2 (by rw [h]; rfl))
        rw [h] at c5
        clear h
        go_wp2_with (first
          | (at_lookup; refine wpList_lookup_of _ rfl _ _ 96 rfl 81 mkey3 Try.underlying96 k80 (by kernel_rfl) w1.heap.size R rfl (hm.alloc _) x.place rfl ?_; rw [HY.out]; unfold encH)
          | (at_mapUpdate; refine wpList_mapUpdate_of _ rfl _ _ _ 96 rfl 81 mkey3 Try.underlying96 w1.heap.size R rfl ((hm.alloc _).alloc _) x.place rfl (y.inc 2) rfl ?_; intro w2 hm2 hg2 hs2))
        go_roundw
        case rel => exact ⟨k + 1, by omega, by go_num, by rw [HS.out, HE.out]; exact hm2, ((HBW.out.alloc HBW.out.size _).alloc (by have := HBW.out.size; simp; omega) _).grown hg2 (by have := HBW.out.size; simp; omega) (fun j e => by cases e; exact hs1)⟩
        case measure => simp [intOf]; omega
      · have HE := Lib.hid (HST.out 3 (by rw [h]; rfl))
        rw [h] at c5
        clear h
        go_wp2_with (first
          | (at_lookup; refine wpList_lookup_of _ rfl _ _ 96 rfl 81 mkey3 Try.underlying96 k80 (by kernel_rfl) w1.heap.size R rfl (hm.alloc _) x.place rfl ?_; rw [HY.out]; unfold encH)
          | (at_mapUpdate; refine wpList_mapUpdate_of _ rfl _ _ _ 96 rfl 81 mkey3 Try.underlying96 w1.heap.size R rfl ((hm.alloc _).alloc _) x.place rfl (y.inc 3) rfl ?_; intro w2 hm2 hg2 hs2))
        go_roundw
        case rel => exact ⟨k + 1, by omega, by go_num, by rw [HS.out, HE.out]; exact hm2, ((HBW.out.alloc HBW.out.size _).alloc (by have := HBW.out.size; simp; omega) _).grown hg2 (by have := HBW.out.size; simp; omega) (fun j e => by cases e; exact hs1)⟩
        case measure => simp [intOf]; omega
      · have HE := Lib.hid (HST.out 4 (by rw [h]; rfl))
        rw [h] at c5
        clear h
        go_wp2_with (first
          | (at_lookup; refine wpList_lookup_of _ rfl _ _ 96 rfl 81 mkey3 Try.underlying96 k80 (by kernel_rfl) w1.heap.size R rfl (hm.alloc _) x.place rfl ?_; rw [HY.out]; unfold encH)
          | (at_mapUpdate; refine wpList_mapUpdate_of _ rfl _ _ _ 96 rfl 81 mkey3 Try.underlying96 w1.heap.size R rfl ((hm.alloc _).alloc _) x.place rfl (y.inc 4) rfl ?_; intro w2 hm2 hg2 hs2))
        go_roundw
        case rel => exact ⟨k + 1, by omega, by go_num, by rw [HS.out, HE.out]; exact hm2, ((HBW.out.alloc HBW.out.size _).alloc (by have := HBW.out.size; simp; omega) _).grown hg2 (by have := HBW.out.size; simp; omega) (fun j e => by cases e; exact hs1)⟩
        case measure => simp [intOf]; omega
      · have HE := Lib.hid (HST.out 5 (by rw [h]; rfl))
        rw [h] at c5
        clear h
        go_wp2_with (first
          | (at_lookup; refine wpList_lookup_of _ rfl _ _ 96 rfl 81 mkey3 Try.underlying96 k80 (by kernel_rfl) w1.heap.size R rfl (hm.alloc _) x.place rfl ?_; rw [HY.out]; unfold encH)
          | (at_mapUpdate; refine wpList_mapUpdate_of _ rfl _ _ _ 96 rfl 81 mkey3 Try.underlying96 w1.heap.size R rfl ((hm.alloc _).alloc _) x.place rfl (y.inc 5) rfl ?_; intro w2 hm2 hg2 hs2))
        go_roundw
        case rel => exact ⟨k + 1, by omega, by go_num, by rw [HS.out, HE.out]; exact hm2, ((HBW.out.alloc HBW.out.size _).alloc (by have := HBW.out.size; simp; omega) _).grown hg2 (by have := HBW.out.size; simp; omega) (fun j e => by cases e; exact hs1)⟩
        case measure => simp [intOf]; omega
      · have HE := Lib.hid (HST.out 6 (by rw [h]; rfl))
        rw [h] at c5
        clear h
        go_wp2_with (first
          | (at_lookup; refine wpList_lookup_of _ rfl _ _ 96 rfl 81 mkey3 Try.underlying96 k80 (by kernel_rfl) w1.heap.size R rfl (hm.alloc _) x.place rfl ?_; rw [HY.out]; unfold encH)
          | (at_mapUpdate; refine wpList_mapUpdate_of _ rfl _ _ _ 96 rfl 81 mkey3 Try.underlying96 w1.heap.size R rfl ((hm.alloc _).alloc _) x.place rfl (y.inc 6) rfl ?_; intro w2 hm2 hg2 hs2))
        go_roundw
        case rel => exact ⟨k + 1, by omega, by go_num, by rw [HS.out, HE.out]; exact hm2, ((HBW.out.alloc HBW.out.size _).alloc (by have := HBW.out.size; simp; omega) _).grown hg2 (by have := HBW.out.size; simp; omega) (fun j e => by cases e; exact hs1)⟩
        case measure => simp [intOf]; omega
      · have HE := Lib.hid (HST.out 7 (by rw [h]; rfl))
        rw [h] at c5
        clear h
        go_wp2_with (first
          | (at_lookup; refine wpList_lookup_of _ rfl _ _ 96 rfl 81 mkey3 Try.underlying96 k80 (by kernel_rfl) w1.heap.size R rfl (hm.alloc _) x.place rfl ?_; rw [HY.out]; unfold encH)
          | (at_mapUpdate; refine wpList_mapUpdate_of _ rfl _ _ _ 96 rfl 81 mkey3 Try.underlying96 w1.heap.size R rfl ((hm.alloc _).alloc _) x.place rfl (y.inc 7) rfl ?_; intro w2 hm2 hg2 hs2))
        go_roundw
        case rel => exact ⟨k + 1, by omega, by go_num, by rw [HS.out, HE.out]; exact hm2, ((HBW.out.alloc HBW.out.size _).alloc (by have := HBW.out.size; simp; omega) _).grown hg2 (by have := HBW.out.size; simp; omega) (fun j e => by cases e; exact hs1)⟩
        case measure => simp [intOf]; omega
    · obtain rfl : k = n := by omega
      have hxs : xs.take k = xs := by rw [HN.out]; exact List.take_length
      rw [hxs] at hm
      have HO := h8_ordered w1.heap.size (homesR xs) wr hm (by have := homesR_len xs; have := HN.out; omega)
      have hs := hbw.size
      have HBW := Lib.hid hbw
      clear hm hbw hxs
      go_wp2_with (go_at_call 39; refine HO.mono ?_; rintro e w4 ⟨v, ss, rfl, h1, h2, h3, h4⟩; clear HO; obtain ⟨Av, cv, rfl, _, _, _⟩ := own_slice h3; have HP4 := Lib.hid h1; have HS4 := Lib.hid h2; have HR4 := Lib.hid h3; have HB4 := Lib.hid h4; clear h1 h2 h3 h4)
      have HIH : Hid (IsHomes xs ((ss.map (fun x => (look (homesR xs) x).getD k80)).map bestOf)) := Lib.hid ⟨ss, HP4.out, HS4.out, by rw [List.map_map]; rfl⟩
      have hr4 := HR4.out
      have hle : (ss.map (fun x => (look (homesR xs) x).getD ⟨0, 0, 0, 0, 0, 0, 0, 0⟩)).length = ss.length := List.length_map _
      have hlen : (ss.map (fun x => (look (homesR xs) x).getD ⟨0, 0, 0, 0, 0, 0, 0, 0⟩)).length ≤ 5000 := by
        have h6 := HP4.out.length_eq; have h5 := homesR_len xs; have h7 := HN.out; rw [List.length_map] at h6; rw [hle]; omega
      rw [← hle] at hr4 ⊢
      change Hid (IsHomes xs ((ss.map (fun x => (look (homesR xs) x).getD ⟨0, 0, 0, 0, 0, 0, 0, 0⟩)).map bestOf)) at HIH
      clear hle
      generalize ss.map (fun x => (look (homesR xs) x).getD ⟨0, 0, 0, 0, 0, 0, 0, 0⟩) = vs at *
      have HR5 := Lib.hid hr4
      clear hr4
      go_loopw [9, 45] (fun v i wr => ∃ k : Nat, k ≤ vs.length ∧ i = .int .i64 k ∧ wr.ownsRow w4.heap.size 3 1 v k (((vs.take k).map bestOf).map intV) ∧ Below w4.heap.size w4 wr) (fun _ i _ => vs.length - (intOf i).toNat)
      case atStart => exact ⟨0, by omega, rfl, World.ownsRow_nil _ _ _ _, Below.refl _ _⟩
      case round => as_aux_lemma =>
        obtain ⟨q, hq, rfl, hrow, hb⟩ := hrel
        obtain ⟨Ao, co, rfl, _, _, _⟩ := own_slice hrow
        by_cases hlt2 : q < vs.length
        · obtain ⟨y, hy⟩ := get_some hlt2
          have hrow5 := HR5.out.kept (grown_of_below (row := none) hb) (none_or _)
          obtain ⟨ge, rfl, hge, hce⟩ := row_cells' hrow5 (by omega)
          have hc := fun (i : Nat) (u : Value) (hu : (encHL y)[i]? = some u) => hce _ _ (flat_at (enc := encHL) (k := 8) (fun _ => rfl) hy hu)
          have d0 := hc 0 _ rfl
          have d1 := hc 1 _ rfl
          have d2 := hc 2 _ rfl
          have d3 := hc 3 _ rfl
          have d4 := hc 4 _ rfl
          have d5 := hc 5 _ rfl
          have d6 := hc 6 _ rfl
          have d7 := hc 7 _ rfl
          rw [Nat.add_zero] at d0
          have HTS : Hid (((vs.take (q + 1)).map bestOf).map intV = ((vs.take q).map bestOf).map intV ++ [intV (bestOf y)]) := Lib.hid (by rw [List.take_add_one, hy]; simp)
          have HROW := Lib.hid hrow
          have HB := Lib.hid hb
          clear hc hce hrow5 hy hrow hb
          go_wp2
          go_loop [12, 50] (fun bst i => ∃ j : Nat, j ≤ 8 ∧ i = .int .i64 j ∧ bst = .int .i64 (bestUp y j)) (fun _ i => 8 - (intOf i).toNat)
          case atStart => exact ⟨0, by omega, rfl, rfl⟩
          case round => as_aux_lemma =>
            obtain ⟨j, hj, rfl, rfl⟩ := hrel
            by_cases hlt3 : j < 8
            · have hix := index8 y j hlt3
              have hb8 := bestUp_lt y j (by omega)
              have hcb := cell8 wr y 81 (bestUp y j) hb8
              have HBU : Hid (∀ g, bestUp y j = g → bestUp y (j + 1) = if y.get g < y.get j then j else g) := Lib.hid (fun g e => by rw [← e]; rfl)
              generalize hg : bestUp y j = g at *
              have HU := Lib.hid (HBU.out g rfl)
              have hg0 : (0 : Int) ≤ (g : Int) := by omega
              have hg1 : (g : Int) < 8 := by omega
              clear hg HBU
              by_cases hcmp : y.get g < y.get j
              · go_wp2
                go_round
                case rel => exact ⟨j + 1, by omega, by go_num, by rw [HU.out, if_pos hcmp]⟩
                case measure => simp [intOf]; omega
              · have hcmp2 : decide (y.get g < y.get j) = false := decide_eq_false hcmp
                have HCM := Lib.hid hcmp
                clear hcmp
                go_wp2
                go_round
                case rel => exact ⟨j + 1, by omega, by go_num, by rw [HU.out, if_neg HCM.out]⟩
                case measure => simp [intOf]; omega
            · obtain rfl : j = 8 := by omega
              have hbo : bestUp y 8 = bestOf y := rfl
              rw [hbo]
              have hbs := HB.out.size
              have hrow := HROW.out
              generalize bestOf y = g at *
              clear hbo hlt3 hj
              go_wp2_with
                (at_builtin; refine wpList_append_own_at _ rfl _ _ 44 rfl w4.heap.size 3 i0 (.int .i64 0) 1 8 Try.underlying44 hi hz0 hz1 hz2 rfl (by decide) (.slice Ao q co) _ _ rfl ((hrow.alloc _).alloc _) ⟨wr.heap.size + 1, 0, none⟩ 1 1 [intV g] rfl rfl (cells_new' _ [intV g] _ _ (by simp)) (by simp [Value.oneCell']) (by unfold maxLen; omega) (by omega) (by simp; omega) ?_; intro v' w6 hrow' hgrow _ hob)
              go_roundw
              case rel =>
                refine ⟨q + 1, by omega, by go_num, by rw [HTS.out]; exact hrow', ?_⟩
                have h1 : Below w4.heap.size w4 ((wr.alloc (.cells #[.int .i64 y.c0, .int .i64 y.c1, .int .i64 y.c2, .int .i64 y.c3, .int .i64 y.c4, .int .i64 y.c5, .int .i64 y.c6, .int .i64 y.c7] 81)).alloc (.cells #[intV g] 3)) := (HB.out.alloc hbs _).alloc (by simp; omega) _
                exact h1.grown hgrow (by simp; omega) (fun j e => (own_lt HROW.out e).1)
              case measure => simp [intOf]; omega
        · obtain rfl : q = vs.length := by omega
          rw [List.take_length] at hrow
          have HB := Lib.hid hb
          have HROW := Lib.hid hrow
          clear hb hrow
          go_wp2
          go_ret2
          have h5 := HB4.out.size
          refine ⟨_, vs.map bestOf, rfl, HIH.out, ?_, (HBW.out.trans (HB4.out.mono hs)).trans (HB.out.mono (by omega))⟩
          rw [List.length_map]
          exact own_base HROW.out (by omega)
end Go.Proofs.Ytghjhlenkgkelaa
