/- DERIVED. The reference's 'Groups'; its tables of counts, the edges that it reads out of them; what its 'Of' holds in memory. -/
import Derived.Test.YtghjhlenkgkelaaRGw
import Derived.Test.YtghjhlenkgkelaaCnt
import Derived.Test.YtghjhlenkgkelaaChg4
import Derived.StillTailTactics
set_option linter.unusedSimpArgs false
set_option linter.unusedVariables false
namespace Go.Proofs.Ytghjhlenkgkelaa
open Go.RowKit Go.Shelf Go.Sort

theorem RG.rows {w w' : World} {base : Nat} {v : Value} {L : List GV} (h : RG w base v L) (hb : Below w.heap.size w w') : RowsAt w' (L.map (·.2)) (L.map (·.1)) := by
  refine ⟨by simp, fun k p hp => ?_⟩
  rw [List.getElem?_map] at hp
  obtain ⟨q, hq, rfl⟩ := Option.map_eq_some_iff.1 hp
  have hm := h.mem q (List.mem_of_getElem? hq)
  obtain ⟨A, c, hv, _, _, _⟩ := own_slice hm
  refine ⟨A, c, by rw [List.getElem?_map, hq]; simp [hv], ?_⟩
  rw [hv] at hm
  exact (sl_own hm).below hb

set_option maxRecDepth 100000 in
set_option maxHeartbeats 1000000 in
theorem rGroups_any (A : Option Addr) (n c : Nat) (xs : List Acc) (w : World) (hl : n ≤ 5000) (hr : Trace w w.heap.size A n xs) :
    Calls Try.prog 16 #[.slice A n c] w fun e w' => ∃ v, e = .returned (.tuple #[v, .int .i64 (givenL xs)]) ∧ GrpsRes w w' v xs ∧ Below w.heap.size w w' := by
  have hgiv := refGiven A n c xs w hl hr
  have HN := Lib.hid hr.len
  have HR := Lib.hid hr
  clear hr
  by_cases h0 : givenL xs = 0
  · have h0b : (givenL xs != 0) = false := by simpa using h0
    have H0 := Lib.hid h0
    rw [h0] at hgiv
    clear h0
    obtain ⟨i0, hi, hz0, hz1, hz2⟩ := info_parts sl_info
    go_enter Try.func16, Try.ntmps16
    go_wp2_with (first
      | (go_at_call 30; refine hgiv.mono ?_; rintro e w1 ⟨rfl, hb1⟩; clear hgiv)
      | (go_at_call 32
         have hgr := rgroups_any A n c xs w1 hl ((HR.out.below hb1 (Nat.le_refl _)).mono hb1.size)
         refine hgr.mono ?_
         rintro e w2 ⟨v, L, rfl, hLR, hRG, hb2⟩
         clear hgr
         obtain ⟨Av, cv, rfl, _, _, _⟩ := own_slice hRG.row
         have HRG := Lib.hid hRG
         have HLR := Lib.hid hLR
         have HB1 := Lib.hid hb1
         have HB2 := Lib.hid hb2
         have hgl : L.length ≤ 5000 := by
           have h1 := (inv_run xs n (by have := HN.out; omega)).len
           rw [← hLR, List.length_map] at h1; omega
         clear hRG hLR hb1 hb2))
    go_loopw [5, 7] (fun v i wr => ∃ k : Nat, k ≤ L.length ∧ i = .int .i64 k ∧ wr.ownsRow w2.heap.size 44 1 v k ((L.take k).map (·.2)) ∧ Below w2.heap.size w2 wr) (fun _ i _ => L.length - (intOf i).toNat)
    case atStart => exact ⟨0, by omega, rfl, World.ownsRow_nil _ _ _ _, Below.refl _ _⟩
    case round =>
      obtain ⟨k, hk, rfl, hrow, hb⟩ := hrel
      by_cases hlt : k < L.length
      · obtain ⟨⟨p, mv⟩, hq⟩ := get_some (xs := L) hlt
        have hcr := HRG.out.below hb
        have hmr := hcr.mem _ (List.mem_of_getElem? hq)
        change wr.ownsRow w1.heap.size 3 1 mv p.1.mem.length (p.1.mem.map intV) at hmr
        obtain ⟨Am, cm, rfl, _, _, _⟩ := own_slice hmr
        obtain ⟨g, rfl, hg0, hg, hce⟩ := row_cells6 hcr.row hq
        have s4 := hce 4 _ rfl
        have hts : (L.take (k + 1)).map (·.2) = (L.take k).map (·.2) ++ [.slice Am p.1.mem.length cm] := by
          rw [List.take_add_one, hq, List.map_append]; rfl
        have HTS := Lib.hid hts
        have HB := Lib.hid hb
        have hbs := hb.size
        have hk0 : (0 : Int) ≤ (k : Int) := by omega
        have hk1 : (k : Int) < (L.length : Int) := by omega
        obtain ⟨Ao, co, rfl, _, _, _⟩ := own_slice hrow
        clear hcr hmr hts hq hb hce
        go_wp2_with
          (at_builtin; refine wpList_append_own_at _ rfl _ _ 34 rfl w2.heap.size 44 i0 (.slice none 0 0) 1 24 Try.underlying34 hi hz0 hz1 hz2 rfl (by decide) (.slice Ao k co) _ _ rfl (hrow.alloc _) ⟨wr.heap.size, 0, none⟩ 1 1 [.slice Am p.1.mem.length cm] rfl rfl (cells_new' _ [.slice Am p.1.mem.length cm] _ _ (by simp)) (by simp [Value.oneCell']) (by unfold maxLen; omega) (by omega) (by simp; omega) ?_; intro v' w3 hrow' hgrow _ hob)
        go_roundw
        case rel =>
          refine ⟨k + 1, by omega, by go_num, by rw [HTS.out]; exact hrow', ?_⟩
          have h1 : Below w2.heap.size w2 (wr.alloc (.cells #[.slice Am p.1.mem.length cm] 44)) := HB.out.alloc hbs _
          exact h1.grown hgrow (by simp; omega) (fun j e => (own_lt hrow e).1)
        case measure => simp [intOf]; omega
      · obtain rfl : k = L.length := by omega
        rw [List.take_length] at hrow
        have HB := Lib.hid hb
        clear hb
        obtain ⟨Av', cv', rfl, _, _, _⟩ := own_slice hrow
        go_wp2
        go_ret2
        refine ⟨_, by rw [H0.out]; rfl, ⟨fun h => absurd H0.out h, fun _ => ⟨L.map (·.2), ?_, ?_⟩⟩, ?_⟩
        · rw [List.length_map]
          exact own_base hrow (by have := HB1.out.size; have := HB2.out.size; omega)
        · have := HRG.out.rows HB.out
          rw [HLR.out, HN.out] at this; exact this
        · exact (HB1.out.trans (HB2.out.mono HB1.out.size)).trans (HB.out.mono (by have := HB1.out.size; have := HB2.out.size; omega))
  · have h0b : (givenL xs != 0) = true := by simpa using h0
    have H0 := Lib.hid h0
    clear h0
    go_enter Try.func16, Try.ntmps16
    go_wp2_with (go_at_call 30; refine hgiv.mono ?_; rintro e w1 ⟨rfl, hb1⟩; clear hgiv)
    go_ret2
    exact ⟨_, rfl, ⟨fun _ => rfl, fun h => absurd h H0.out⟩, hb1⟩


/-- a table of eight times eight counts -/
def arr64 (F : Nat → Nat → Nat) : Array Value := ((List.range 64).map (fun i => Value.int .i64 (F (i / 8) (i % 8)))).toArray
theorem arr64_zero : arr64 (fun _ _ => 0) = Array.replicate 64 (.int .i64 0) := by rfl
theorem arr64_get (F : Nat → Nat → Nat) {f a : Nat} (hf : f < 8) (ha : a < 8) : (arr64 F)[f * 8 + a]? = some (.int .i64 (F f a)) := by
  have h : f * 8 + a < 64 := by omega
  have h1 : (f * 8 + a) / 8 = f := by omega
  have h2 : (f * 8 + a) % 8 = a := by omega
  simp [arr64, h, h1, h2]
def bump (F : Nat → Nat → Nat) (f a : Nat) : Nat → Nat → Nat := fun f' a' => F f' a' + if f' = f ∧ a' = a then 1 else 0
theorem arr64_set (F : Nat → Nat → Nat) {f a : Nat} (hf : f < 8) (ha : a < 8) : (arr64 F).setIfInBounds (f * 8 + a) (.int .i64 ((F f a : Nat) + 1)) = arr64 (bump F f a) := by
  apply Array.ext_getElem?
  intro i
  rw [Array.getElem?_setIfInBounds]
  by_cases hi : i < 64
  · have e : ∀ G : Nat → Nat → Nat, (arr64 G)[i]? = some (.int .i64 (G (i / 8) (i % 8))) := fun G => by simp [arr64, hi]
    have hs : (arr64 F).size = 64 := by simp [arr64]
    rw [e, e]
    by_cases he : f * 8 + a = i
    · subst he
      rw [if_pos rfl, if_pos (by rw [hs]; omega)]
      have h1 : (f * 8 + a) / 8 = f := by omega
      have h2 : (f * 8 + a) % 8 = a := by omega
      simp [bump, h1, h2]
    · rw [if_neg he]
      have : ¬ (i / 8 = f ∧ i % 8 = a) := by omega
      simp [bump, this]
  · have e : ∀ G : Nat → Nat → Nat, (arr64 G)[i]? = none := fun G => by simp [arr64]; omega
    rw [if_neg (by omega), e, e]
theorem blk64_cell {w : World} {P : Nat} {t : TypeId} {F : Nat → Nat → Nat} (h : BlkAt w P t (arr64 F)) {f a : Nat} (hf : f < 8) (ha : a < 8) : w.cell? ⟨P, f * 8 + a, none⟩ = some (.int .i64 (F f a)) := by
  rw [BlkAt.cell h]; exact arr64_get F hf ha
theorem blk64_set {w : World} {P : Nat} {t : TypeId} {F : Nat → Nat → Nat} (h : BlkAt w P t (arr64 F)) {f a : Nat} (hf : f < 8) (ha : a < 8) : BlkAt (w.setCell ⟨P, f * 8 + a, none⟩ (.int .i64 ((F f a : Nat) + 1))) P t (arr64 (bump F f a)) := by
  have := BlkAt.set h (f * 8 + a) (.int .i64 ((F f a : Nat) + 1))
  rwa [arr64_set F hf ha] at this
/-- what is counted of a part of the trace -/
def cA (l : List Acc) : Nat → Nat → Nat := fun f a => cntA f a (l.filter remB)
def cG (l : List Grp) : Nat → Nat → Nat := fun f a => cntG f a l
theorem cA_nil : cA [] = fun _ _ => 0 := rfl
theorem cG_nil : cG [] = fun _ _ => 0 := rfl
theorem cA_snoc {l : List Acc} {x : Acc} {f a : Nat} (h1 : x.frm = f) (h2 : x.at' = a) (hr : x.frm ≠ x.at') : cA (l ++ [x]) = bump (cA l) f a := by
  funext f' a'
  have hb : remB x = true := by simpa [remB] using hr
  unfold cA bump cntA
  rw [List.filter_append, List.filter_append, List.length_append]
  congr 1
  simp only [List.filter_cons, hb, if_true, List.filter_nil]
  by_cases e : f' = f ∧ a' = a
  · have : (x.frm == (f' : Int) && x.at' == (a' : Int)) = true := by simp [h1, h2, e.1, e.2]
    rw [if_pos e, this]; rfl
  · have : (x.frm == (f' : Int) && x.at' == (a' : Int)) = false := by
      rw [Bool.eq_false_iff]; intro hh
      simp only [Bool.and_eq_true, beq_iff_eq] at hh
      exact e ⟨by omega, by omega⟩
    rw [if_neg e, this]; rfl
theorem cA_skip {l : List Acc} {x : Acc} (hr : x.frm = x.at') : cA (l ++ [x]) = cA l := by
  funext f' a'
  have hb : remB x = false := by simpa [remB] using hr
  unfold cA cntA
  rw [List.filter_append]
  simp [List.filter_cons, hb]
theorem cG_snoc {l : List Grp} {x : Grp} {f a : Nat} (h1 : x.frm = f) (h2 : x.at' = a) : cG (l ++ [x]) = bump (cG l) f a := by
  funext f' a'
  unfold cG bump cntG
  rw [List.filter_append, List.length_append]
  congr 1
  simp only [List.filter_cons, List.filter_nil]
  by_cases e : f' = f ∧ a' = a
  · have : (x.frm == (f' : Int) && x.at' == (a' : Int)) = true := by simp [h1, h2, e.1, e.2]
    rw [if_pos e, this]; rfl
  · have : (x.frm == (f' : Int) && x.at' == (a' : Int)) = false := by
      rw [Bool.eq_false_iff]; intro hh
      simp only [Bool.and_eq_true, beq_iff_eq] at hh
      exact e ⟨by omega, by omega⟩
    rw [if_neg e, this]; rfl
theorem cA_le (l : List Acc) (f a : Nat) : cA l f a ≤ l.length := Nat.le_trans (List.length_filter_le _ _) (List.length_filter_le _ _)
theorem cG_le (l : List Grp) (f a : Nat) : cG l f a ≤ l.length := List.length_filter_le _ _

/-- the edge at number i, where one is -/
def edgI (F G : Nat → Nat → Nat) (i : Nat) : List Edg := if F (i / 8) (i % 8) = 0 then [] else [⟨(i / 8 : Nat), (i % 8 : Nat), F (i / 8) (i % 8), G (i / 8) (i % 8)⟩]
def edgN (F G : Nat → Nat → Nat) (n : Nat) : List Edg := (List.range n).flatMap (edgI F G)
theorem edgN_succ (F G : Nat → Nat → Nat) (n : Nat) : edgN F G (n + 1) = edgN F G n ++ edgI F G n := by
  unfold edgN; rw [List.range_succ, List.flatMap_append]; simp
theorem edgN_len (F G : Nat → Nat → Nat) : ∀ n, (edgN F G n).length ≤ n
  | 0 => by simp [edgN]
  | n + 1 => by
    have := edgN_len F G n
    rw [edgN_succ, List.length_append]
    have : (edgI F G n).length ≤ 1 := by unfold edgI; split <;> simp
    omega
theorem edgN_part (F G : Nat → Nat → Nat) {i n : Nat} (h : i ≤ n) : ∃ r, edgN F G n = edgN F G i ++ r := by
  induction n with
  | zero =>
    obtain rfl : i = 0 := by omega
    exact ⟨[], by simp⟩
  | succ n ih =>
    rcases Nat.lt_or_ge n i with h1 | h1
    · obtain rfl : i = n + 1 := by omega
      exact ⟨[], by simp⟩
    · obtain ⟨r, hr⟩ := ih h1
      exact ⟨r ++ edgI F G n, by rw [edgN_succ, hr, List.append_assoc]⟩
/-- the cost of one edge more -/
theorem cost_next {mm me : Nat} {F G : Nat → Nat → Nat} (hc : (costF mm me (edgN F G 64) 0).isSome = true) {i : Nat} (hi : i < 64) {x : Edg} (hx : edgI F G i = [x]) {d : Nat} (hd : costF mm me (edgN F G i) 0 = some d) :
    ∃ p q s r, FloatKind.f32.format.mul (cvt x.msg) mm = some p ∧ FloatKind.f32.format.mul (cvt x.acc) me = some q ∧ FloatKind.f32.format.add p q = some s ∧ FloatKind.f32.format.add d s = some r ∧ costF mm me (edgN F G (i + 1)) 0 = some r := by
  obtain ⟨r, hr⟩ := edgN_part F G (i := i + 1) (n := 64) (by omega)
  rw [hr] at hc
  have hk : (edgN F G (i + 1) ++ r)[(edgN F G i).length]? = some x := by
    rw [edgN_succ, hx, List.append_assoc, List.getElem?_append_right (Nat.le_refl _)]; simp
  have hd' : costF mm me ((edgN F G (i + 1) ++ r).take (edgN F G i).length) 0 = some d := by
    rw [edgN_succ, List.append_assoc, List.take_left]; exact hd
  obtain ⟨a, b, s, r', h1, h2, h3, h4, h5⟩ := costF_take hc hk hd'
  refine ⟨a, b, s, r', h1, h2, h3, h4, ?_⟩
  have e : (edgN F G (i + 1) ++ r).take ((edgN F G i).length + 1) = edgN F G (i + 1) := by
    have hl : (edgN F G (i + 1)).length = (edgN F G i).length + 1 := by rw [edgN_succ, hx]; simp
    rw [← hl, List.take_left]
  rwa [e] at h5
theorem cost_skip {mm me : Nat} {F G : Nat → Nat → Nat} {i : Nat} (hx : edgI F G i = []) {d : Nat} (hd : costF mm me (edgN F G i) 0 = some d) : costF mm me (edgN F G (i + 1)) 0 = some d := by
  rw [edgN_succ, hx, List.append_nil]; exact hd

/-! the edges of the reference are those of the program -/
theorem edgN_mem {F G : Nat → Nat → Nat} {n : Nat} {y : Edg} : y ∈ edgN F G n ↔ ∃ i, i < n ∧ F (i / 8) (i % 8) ≠ 0 ∧ y = ⟨(i / 8 : Nat), (i % 8 : Nat), F (i / 8) (i % 8), G (i / 8) (i % 8)⟩ := by
  unfold edgN edgI
  rw [List.mem_flatMap]
  constructor
  · rintro ⟨i, hi, hy⟩
    split at hy
    · cases hy
    · rename_i hn
      exact ⟨i, List.mem_range.1 hi, hn, by simpa using hy⟩
  · rintro ⟨i, hi, hn, rfl⟩
    exact ⟨i, List.mem_range.2 hi, by rw [if_neg hn]; simp⟩
def keyE (y : Edg) : K2 := ⟨y.frm, y.at'⟩
theorem edgN_sorted (F G : Nat → Nat → Nat) : ∀ n, ((edgN F G n).map keyE).Pairwise lt2
  | 0 => by simp [edgN]
  | n + 1 => by
    rw [edgN_succ, List.map_append, List.pairwise_append]
    refine ⟨edgN_sorted F G n, ?_, ?_⟩
    · unfold edgI; split <;> simp
    · intro p hp q hq
      obtain ⟨y, hy, rfl⟩ := List.mem_map.1 hp
      obtain ⟨z, hz, rfl⟩ := List.mem_map.1 hq
      obtain ⟨i, hi, _, rfl⟩ := edgN_mem.1 hy
      unfold edgI at hz
      split at hz
      · cases hz
      · simp at hz; subst hz
        simp only [keyE, lt2]
        omega


theorem cntA_pos {f a : Int} {l : List Acc} (h : cntA f a l ≠ 0) : ∃ x ∈ l, x.frm = f ∧ x.at' = a := by
  unfold cntA at h
  obtain ⟨x, hx⟩ := List.exists_mem_of_length_pos (Nat.pos_of_ne_zero h)
  obtain ⟨h1, h2⟩ := List.mem_filter.1 hx
  simp only [Bool.and_eq_true, beq_iff_eq] at h2
  exact ⟨x, h1, h2⟩
theorem lt2_irr (x : K2) : ¬ lt2 x x := by unfold lt2; omega
theorem lt2_trans {x y z : K2} (h : lt2 x y) (g : lt2 y z) : lt2 x z := by unfold lt2 at *; omega
/-- the groups' heads -/
def gsR (xs : List Acc) : List Grp := (runR xs xs.length).map (·.1)
theorem edges_ref {xs : List Acc} {es : List Edg} (hv : ∀ x ∈ xs, validA x) (h : IsEdges xs es) : es = edgN (cA xs) (cG (gsR xs)) 64 := by
  have hok := edge_ok h
  obtain ⟨ss, h1, h2, rfl⟩ := h
  have hC := cnt_edgesR xs
  have hlk : ∀ f a : Int, cntA f a (xs.filter remB) ≠ 0 → look (edgesR xs) ⟨f, a⟩ = some ⟨f, a, cntA f a (xs.filter remB), cntG f a (gsR xs)⟩ := fun f a hn => by
    rw [hC f a, if_neg (by intro e; exact hn e.1)]; rfl
  have hkeys : ∀ p : K2, p ∈ (edgesR xs).map (·.1) ↔ p ∈ (edgN (cA xs) (cG (gsR xs)) 64).map keyE := by
    rintro ⟨f, a⟩
    constructor
    · intro hp
      have hl : look (edgesR xs) ⟨f, a⟩ ≠ none := by
        obtain ⟨q, hq, e⟩ := List.mem_map.1 hp
        have := look_mem (edgesR_nodup xs) hq
        rw [e] at this; rw [this]; simp
      have hn : cntA f a (xs.filter remB) ≠ 0 := by
        intro e0
        rw [hC f a] at hl
        split at hl
        · exact hl rfl
        · rename_i hx
          have hm := hok ((look (edgesR xs) ⟨f, a⟩).getD ⟨0, 0, 0, 0⟩) (List.mem_map.2 ⟨⟨f, a⟩, h1.mem_iff.2 hp, rfl⟩)
          rw [hC f a, if_neg hx] at hm
          simp only [Option.getD_some, e0] at hm
          omega
      obtain ⟨x, hx, e1, e2⟩ := cntA_pos hn
      have hx' := List.mem_filter.1 hx
      have hval := hv x hx'.1
      unfold validA at hval
      refine List.mem_map.2 ⟨⟨f, a, cntA f a (xs.filter remB), cntG f a (gsR xs)⟩, edgN_mem.2 ⟨f.toNat * 8 + a.toNat, by omega, ?_, ?_⟩, rfl⟩
      · have q1 : (f.toNat * 8 + a.toNat) / 8 = f.toNat := by omega
        have q2 : (f.toNat * 8 + a.toNat) % 8 = a.toNat := by omega
        rw [q1, q2]; unfold cA
        rw [show ((f.toNat : Nat) : Int) = f by omega, show ((a.toNat : Nat) : Int) = a by omega]; exact hn
      · have q1 : (f.toNat * 8 + a.toNat) / 8 = f.toNat := by omega
        have q2 : (f.toNat * 8 + a.toNat) % 8 = a.toNat := by omega
        rw [q1, q2]; unfold cA cG
        rw [show ((f.toNat : Nat) : Int) = f by omega, show ((a.toNat : Nat) : Int) = a by omega]
    · intro hp
      obtain ⟨y, hy, e⟩ := List.mem_map.1 hp
      obtain ⟨i, hi, hn, rfl⟩ := edgN_mem.1 hy
      have := hlk _ _ hn
      rw [← e]
      exact List.mem_map.2 ⟨_, mem_of_look this, rfl⟩
  have hso := edgN_sorted (cA xs) (cG (gsR xs)) 64
  have hnd : ((edgN (cA xs) (cG (gsR xs)) 64).map keyE).Nodup := hso.imp (fun h e => by rw [e] at h; exact lt2_irr _ h)
  have hperm : ((edgN (cA xs) (cG (gsR xs)) 64).map keyE).Perm ((edgesR xs).map (·.1)) := by
    rw [List.perm_ext_iff_of_nodup hnd (edgesR_nodup xs)]
    exact fun p => (hkeys p).symm
  have e : ss = (edgN (cA xs) (cG (gsR xs)) 64).map keyE := sorted_eq (fun _ _ => lt2_tri) (h1.trans hperm.symm) h2 (hso.imp (fun {a b} h g => lt2_irr _ (lt2_trans h g)))
  subst e
  rw [List.map_map]
  conv => rhs; rw [← List.map_id (edgN (cA xs) (cG (gsR xs)) 64)]
  apply List.map_congr_left
  intro y hy
  obtain ⟨i, hi, hn, rfl⟩ := edgN_mem.1 hy
  have := hlk _ _ hn
  simp only [Function.comp, keyE, this, Option.getD_some, id]
  rfl

/-- a price is a finite number -/
theorem read_zero : Ieee.single.read 0 = .number false 0 (-149) := by decide +kernel
theorem read_most : ∃ a e, Ieee.single.read 1232348160 = .number false a e := by
  have hs : (match Ieee.single.read 1232348160 with | .number s _ _ => s | _ => true) = false := by decide +kernel
  cases h : Ieee.single.read 1232348160 with
  | nan s p => rw [h] at hs; cases hs
  | infinity s => rw [h] at hs; cases hs
  | number s a e =>
    rw [h] at hs
    simp only at hs
    subst hs
    exact ⟨a, e, rfl⟩
theorem price_fin {m : Nat} (h : priceB m = true) : finD (Ieee.single.read m) = true := by
  have h' : (((Ieee.single.read m).order (Ieee.single.read 0) == some .gt || (Ieee.single.read m).order (Ieee.single.read 0) == some .eq) && ((Ieee.single.read m).order (Ieee.single.read 1232348160) == some .lt || (Ieee.single.read m).order (Ieee.single.read 1232348160) == some .eq)) = true := h
  obtain ⟨b, f, hb⟩ := read_most
  rw [read_zero, hb] at h'
  cases hd : Ieee.single.read m with
  | nan s p => rw [hd] at h'; simp [Ieee.Datum.order] at h'
  | infinity s => rw [hd] at h'; cases s <;> simp [Ieee.Datum.order] at h'
  | number s a e =>
    cases s with
    | false => rfl
    | true =>
      by_cases ha : a = 0
      · subst ha; rfl
      · exfalso
        rw [hd] at h'
        simp only [Ieee.Datum.order] at h'
        have hneg : ∀ k : Nat, Ieee.signed true a k < 0 := fun k => by
          unfold Ieee.signed
          have : 0 < a <<< k := by rw [Nat.shiftLeft_eq]; exact Nat.mul_pos (Nat.pos_of_ne_zero ha) (Nat.two_pow_pos k)
          rw [if_pos rfl]; omega
        have hz : ∀ k : Nat, Ieee.signed false 0 k = 0 := fun k => by unfold Ieee.signed; simp
        rw [hz] at h'
        have hl := Int.compare_eq_lt.2 (hneg (e - min e (-149)).toNat)
        rw [hl] at h'
        simp at h'


theorem redge_info : (Try.prog.info? 88).map (fun i => (i.zero, i.size, i.bytes)) = some (some (.agg #[.int .i64 0, .int .i64 0, .int .i64 0, .int .i64 0]), 4, 32) := by kernel_rfl
theorem rprice_any (m : Nat) (w : World) : Calls Try.prog 31 #[.float .f32 m] w fun e w' => e = .returned (.bool (priceB m)) ∧ w' = w := by
  go_enter Try.func31, Try.ntmps31
  go_wp2
  all_goals go_ret
  all_goals exact ⟨ret_bool (by unfold priceB; simp_all), rfl⟩

structure RMem (w wr : World) (P1 P2 mm me : Nat) (F G : Nat → Nat → Nat) : Prop where
  box : BlkAt wr w.heap.size 47 #[.float .f32 mm, .float .f32 me]
  res : BlkAt wr (w.heap.size + 1) 52 #[.slice none 0 0, .slice none 0 0, .float .f32 0]
  t1 : BlkAt wr P1 82 (arr64 F)
  t2 : BlkAt wr P2 82 (arr64 G)
  low1 : w.heap.size + 2 ≤ P1
  low2 : P1 < P2
  below : Below w.heap.size w wr
section
variable {w wr w' : World} {P1 P2 mm me : Nat} {F G : Nat → Nat → Nat}
theorem RMem.kept {row : Option Nat} (h : RMem w wr P1 P2 mm me F G) (hg : wr.grownBy w' row) (n0 : some w.heap.size ≠ row) (n1 : some (w.heap.size + 1) ≠ row) (n2 : some P1 ≠ row) (n3 : some P2 ≠ row) (hl : ∀ k, row = some k → w.heap.size ≤ k) : RMem w w' P1 P2 mm me F G :=
  ⟨h.box.kept hg n0, h.res.kept hg n1, h.t1.kept hg n2, h.t2.kept hg n3, h.low1, h.low2, h.below.grown hg h.below.size hl⟩
theorem RMem.after (h : RMem w wr P1 P2 mm me F G) (hb : Below wr.heap.size wr w') : RMem w w' P1 P2 mm me F G :=
  h.kept (grown_of_below (row := none) hb) (by simp) (by simp) (by simp) (by simp) (by simp)
theorem RMem.cell (h : RMem w wr P1 P2 mm me F G) {p : Nat} (hp : P2 < p) (i : Nat) (u : Value) : RMem w (wr.setCell ⟨p, i, none⟩ u) P1 P2 mm me F G := by
  have h1 := h.low1
  have h2 := h.low2
  exact h.kept (setCell_grown _ _ _ _) (by simp; omega) (by simp; omega) (by simp; omega) (by simp; omega) (fun k e => by injection e with e; omega)
theorem RMem.set1 (h : RMem w wr P1 P2 mm me F G) {f a : Nat} (hf : f < 8) (ha : a < 8) : RMem w (wr.setCell ⟨P1, f * 8 + a, none⟩ (.int .i64 ((F f a : Nat) + 1))) P1 P2 mm me (bump F f a) G := by
  have h1 := h.low1
  have h2 := h.low2
  exact ⟨h.box.kept (setCell_grown _ _ _ _) (by simp; omega), h.res.kept (setCell_grown _ _ _ _) (by simp; omega), blk64_set h.t1 hf ha, h.t2.kept (setCell_grown _ _ _ _) (by simp; omega), h.low1, h.low2, h.below.setCell (p := ⟨P1, _, none⟩) (by show w.heap.size ≤ P1; omega) _⟩
theorem RMem.set2 (h : RMem w wr P1 P2 mm me F G) {f a : Nat} (hf : f < 8) (ha : a < 8) : RMem w (wr.setCell ⟨P2, f * 8 + a, none⟩ (.int .i64 ((G f a : Nat) + 1))) P1 P2 mm me F (bump G f a) := by
  have h1 := h.low1
  have h2 := h.low2
  exact ⟨h.box.kept (setCell_grown _ _ _ _) (by simp; omega), h.res.kept (setCell_grown _ _ _ _) (by simp; omega), h.t1.kept (setCell_grown _ _ _ _) (by simp; omega), blk64_set h.t2 hf ha, h.low1, h.low2, h.below.setCell (p := ⟨P2, _, none⟩) (by show w.heap.size ≤ P2; omega) _⟩
theorem RMem.start {w1 : World} {z : Array Value} (hz : z = arr64 (fun _ _ => 0)) (h0 : BlkAt w1 w.heap.size 47 #[.float .f32 mm, .float .f32 me]) (h1 : BlkAt w1 (w.heap.size + 1) 52 #[.slice none 0 0, .slice none 0 0, .float .f32 0]) (hb : Below w.heap.size w w1) (hs : w.heap.size + 2 ≤ w1.heap.size) :
    RMem w ((w1.alloc (.cells z 82)).alloc (.cells z 82)) w1.heap.size (w1.heap.size + 1) mm me (cA []) (cG []) := by
  subst hz
  refine ⟨(h0.alloc _).alloc _, (h1.alloc _).alloc _, (BlkAt.new w1 _ _).alloc _, ?_, hs, by omega, ((hb.alloc (by omega) _).alloc (by simp; omega) _)⟩
  have := BlkAt.new (w1.alloc (.cells (arr64 fun _ _ => 0) 82)) 82 (arr64 fun _ _ => 0)
  rw [cG_nil]
  simpa using this
/-- what it holds while it reads the tables: the edges of the first j pairs, the cost of the first i -/
structure RSt (w wr : World) (P1 P2 mm me : Nat) (F G : Nat → Nat → Nat) (p : Nat) (vs : Value) (sl : List Spt) (i j ck : Nat) (ve : Value) : Prop where
  mem : RMem w wr P1 P2 mm me F G
  prof : BlkAt wr p 52 #[ve, vs, .float .f32 ck]
  row : wr.ownsRow w.heap.size 88 4 ve (edgN F G j).length ((edgN F G j).flatMap encEL)
  spt : wr.ownsRow w.heap.size 92 7 vs sl.length (sl.flatMap encSL)
  cost : costF mm me (edgN F G i) 0 = some ck
  lowp : P2 < p
variable {p : Nat} {vs : Value} {sl : List Spt} {i j ck : Nat} {ve : Value}
theorem RSt.after (h : RSt w wr P1 P2 mm me F G p vs sl i j ck ve) (hb : Below wr.heap.size wr w') : RSt w w' P1 P2 mm me F G p vs sl i j ck ve :=
  ⟨h.mem.after hb, h.prof.kept (grown_of_below (row := none) hb) (by simp), h.row.kept (grown_of_below (row := none) hb) (none_or _), h.spt.kept (grown_of_below (row := none) hb) (none_or _), h.cost, h.lowp⟩
theorem RSt.skip (h : RSt w wr P1 P2 mm me F G p vs sl i i ck ve) (he : edgI F G i = []) : RSt w wr P1 P2 mm me F G p vs sl (i + 1) (i + 1) ck ve :=
  ⟨h.mem, h.prof, by rw [edgN_succ, he, List.append_nil]; exact h.row, h.spt, cost_skip he h.cost, h.lowp⟩
theorem RSt.addEdge (h : RSt w wr P1 P2 mm me F G p vs sl i i ck ve) {x : Edg} (he : edgI F G i = [x]) {w1 : World} {v' : Value} (hg : wr.grownBy w1 ve.ownBlock) (hrow : w1.ownsRow w.heap.size 88 4 v' ((edgN F G i).length + 1) ((edgN F G i).flatMap encEL ++ encEL x)) :
    RSt w (w1.setCell ⟨p, 0, none⟩ v') P1 P2 mm me F G p vs sl i (i + 1) ck v' := by
  have hm1 : RMem w w1 P1 P2 mm me F G := h.mem.kept hg (own_blk_ne h.row h.mem.box (by decide)) (own_blk_ne h.row h.mem.res (by decide)) (own_blk_ne h.row h.mem.t1 (by decide)) (own_blk_ne h.row h.mem.t2 (by decide)) (fun k e => (own_lt h.row e).1)
  have hp1 := h.prof.kept hg (own_blk_ne h.row h.prof (by decide))
  have hs1 := h.spt.kept hg (own_own_ne h.spt h.row (by decide))
  refine ⟨hm1.cell h.lowp _ _, ?_, ?_, own_set hs1 (own_blk_ne hs1 hp1 (by decide)) _ _, h.cost, h.lowp⟩
  · have := hp1.set 0 v'; simpa using this
  · have := own_set hrow (own_blk_ne hrow hp1 (by decide)) 0 v'
    rw [edgN_succ, he]
    simpa using this
theorem RSt.setCost (h : RSt w wr P1 P2 mm me F G p vs sl i (i + 1) ck ve) {r : Nat} (hc : costF mm me (edgN F G (i + 1)) 0 = some r) : RSt w (wr.setCell ⟨p, 2, none⟩ (.float .f32 r)) P1 P2 mm me F G p vs sl (i + 1) (i + 1) r ve := by
  refine ⟨h.mem.cell h.lowp _ _, ?_, own_set h.row (own_blk_ne h.row h.prof (by decide)) _ _, own_set h.spt (own_blk_ne h.spt h.prof (by decide)) _ _, hc, h.lowp⟩
  have := h.prof.set 2 (.float .f32 r); simpa using this
end
end Go.Proofs.Ytghjhlenkgkelaa
