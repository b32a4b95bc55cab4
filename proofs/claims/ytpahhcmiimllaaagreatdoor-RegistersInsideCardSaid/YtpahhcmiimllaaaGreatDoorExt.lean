/- DERIVED. The closure that makes the interval of a register reach an instruction. -/
import Derived.Test.YtpahhcmiimllaaaGreatDoorMKI
import Derived.Test.YtpahhcmiimllaaaGreatDoorHeldL
set_option linter.unusedSimpArgs false
set_option linter.unusedVariables false
namespace Go.Proofs.YtpahhcmiimllaaaGreatDoor
open Go.RowKit Go.ChangeMaps

def encP (p : Option Nat) : Value := .pointer (p.map fun g => ⟨g, 0, none⟩)
def itvA (v : Itv) : Array Value := #[.int .i64 v.reg, .int .i64 v.frm, .int .i64 v.to]
/-- the map of the intervals, in block m -/
structure AtMap (W : World) (B0 m : Nat) (ms : List Itv) (gs : List Nat) : Prop where
  map : MapOf encK encP W m ((ms.map Itv.reg).zip (gs.map some))
  len : gs.length = ms.length
  blk : ∀ (k : Nat) (v : Itv) (g : Nat), ms[k]? = some v → gs[k]? = some g → BlkAt W g 44 (itvA v)
  nod : gs.Nodup
  low : ∀ g ∈ gs, B0 ≤ g
  lowM : B0 ≤ m
theorem AtMap.below {W W' : World} {B0 m : Nat} {ms : List Itv} {gs : List Nat} (h : AtMap W B0 m ms gs) (hb : Below W.heap.size W W') : AtMap W' B0 m ms gs :=
  ⟨h.map.below hb h.map.lt, h.len, fun k v g h1 h2 => (h.blk k v g h1 h2).below hb (h.blk k v g h1 h2).lt, h.nod, h.low, h.lowM⟩
/-- what a touch keeps -/
structure ExtK (B0 m : Nat) (W W' : World) : Prop where
  kept : KeptT 44 W W'
  bel : Below B0 W W'
  oth : ∀ (k : Nat) (o : Obj), k ≠ m → W.heap[k]? = some o → o.isCells = false → W'.heap[k]? = some o
theorem ExtK.trans {B0 m : Nat} {A B C : World} (h : ExtK B0 m A B) (k : ExtK B0 m B C) : ExtK B0 m A C :=
  ⟨⟨Nat.le_trans h.kept.size k.kept.size, fun b t cs hb ht => k.kept.blk b t cs (h.kept.blk b t cs hb ht) ht⟩, h.bel.trans k.bel, fun q o hq ho hc => k.oth q o hq (h.oth q o hq ho hc) hc⟩
theorem ExtK.below {B0 m : Nat} {W W' : World} (hb : Below W.heap.size W W') (hB : B0 ≤ W.heap.size) : ExtK B0 m W W' :=
  ⟨⟨hb.size, fun B t cs h _ => h.below hb h.lt⟩, hb.mono hB, fun k o _ ho _ => by rw [hb.block k (Array.getElem?_eq_some_iff.1 ho).1]; exact ho⟩
theorem look_zip {ms : List Itv} {gs : List Nat} (hl : gs.length = ms.length) : ∀ r : Nat, look ((ms.map Itv.reg).zip (gs.map some)) r = none ↔ r ∉ ms.map Itv.reg := fun r => by
  rw [look_none_iff]
  constructor
  · intro h hm
    obtain ⟨v, hv, rfl⟩ := List.mem_map.1 hm
    obtain ⟨k, hk⟩ := List.getElem?_of_mem hv
    obtain ⟨g, hg⟩ := get_some (xs := gs) (k := k) (by rw [hl]; exact (List.getElem?_eq_some_iff.1 hk).1)
    refine h (v.reg, some g) ?_ rfl
    exact List.mem_of_getElem? (i := k) (by rw [List.getElem?_zip_eq_some]; simp [hk, hg])
  · intro h p hp e
    have := List.of_mem_zip (show (p.1, p.2) ∈ _ from hp)
    rw [e] at this
    exact h this.1
theorem look_some {ms : List Itv} {gs : List Nat} {r : Nat} {x : Option Nat} (h : look ((ms.map Itv.reg).zip (gs.map some)) r = some x) : ∃ (k : Nat) (v : Itv) (g : Nat), ms[k]? = some v ∧ gs[k]? = some g ∧ v.reg = r ∧ x = some g := by
  unfold look at h
  rcases hf : ((ms.map Itv.reg).zip (gs.map some)).find? (fun p => p.1 = r) with _ | p
  · rw [hf] at h; cases h
  · rw [hf] at h
    have h1 := List.find?_some hf
    have h2 := List.mem_of_find?_eq_some hf
    obtain ⟨k, hk⟩ := List.getElem?_of_mem h2
    rw [List.getElem?_zip_eq_some] at hk
    simp only [List.getElem?_map, Option.map_eq_some_iff] at hk
    obtain ⟨⟨v, hv, e1⟩, g, hg, e2⟩ := hk
    simp at h
    exact ⟨k, v, g, hv, hg, by rw [e1]; simpa using h1, by rw [← h, ← e2]⟩
theorem map_ne {W : World} {m B : Nat} {R : List (Nat × Option Nat)} {t : TypeId} {cs : Array Value} (h : MapOf encK encP W m R) (hb : BlkAt W B t cs) : B ≠ m := by
  rintro rfl
  unfold MapOf at h
  obtain ⟨es, clock, hh, _⟩ := h
  unfold BlkAt at hb
  rw [hb] at hh; cases hh
theorem extK_map {B0 m : Nat} {W W' : World} {R : List (Nat × Option Nat)} (h : MapOf encK encP W m R) (hg : W.grownBy W' (some m)) (hB : B0 ≤ m) (hs : B0 ≤ W.heap.size) : ExtK B0 m W W' :=
  ⟨⟨hg.size, fun B t cs hb _ => hb.kept hg (fun e => map_ne h hb (Option.some.inj e))⟩, (Below.refl B0 W).grown hg hs (fun j e => by cases e; exact hB), fun k o hk ho _ => by
    rw [hg.block k (Array.getElem?_eq_some_iff.1 ho).1 (fun e => hk (Option.some.inj e))]; exact ho⟩
theorem extK_set {B0 m g i : Nat} {W : World} {cs : Array Value} (h : BlkAt W g 44 cs) (hB : B0 ≤ g) (v : Value) : ExtK B0 m W (W.setCell ⟨g, i, none⟩ v) :=
  ⟨keptT_row (setCell_grown W g i v) h, (Below.refl B0 W).setCell (p := ⟨g, i, none⟩) hB v, fun k o hk ho hc => (KeepsOthers.setCell W (⟨g, i, none⟩ : Addr) v).same k o ho hc⟩
theorem upd_new {ms : List Itv} {gs : List Nat} (hl : gs.length = ms.length) {r i g : Nat} (h : r ∉ ms.map Itv.reg) : upd ((ms.map Itv.reg).zip (gs.map some)) r (some g) = ((ms ++ [(⟨r, i, i⟩ : Itv)]).map Itv.reg).zip ((gs ++ [g]).map some) := by
  unfold upd
  rw [if_neg, List.map_append, List.map_append, List.zip_append (by simp [hl])]
  · rfl
  · intro ha
    rw [List.any_eq_true] at ha
    obtain ⟨p, hp, e⟩ := ha
    have := List.of_mem_zip (show (p.1, p.2) ∈ _ from hp)
    have e : p.1 = r := by simpa using e
    rw [e] at this
    exact h this.1
theorem AtMap.add {W W' : World} {B0 m : Nat} {ms : List Itv} {gs : List Nat} (h : AtMap W B0 m ms gs) (hB : B0 ≤ W.heap.size) {r i : Nat} (hr : r ∉ ms.map Itv.reg) (hm : MapOf encK encP W' m (upd ((ms.map Itv.reg).zip (gs.map some)) r (some W.heap.size))) (hg : (W.alloc (.cells (itvA ⟨r, i, i⟩) 44)).grownBy W' (some m)) : AtMap W' B0 m (ms ++ [⟨r, i, i⟩]) (gs ++ [W.heap.size]) := by
  have hne : W.heap.size ≠ m := by have := h.map.lt; omega
  refine ⟨by rw [← upd_new h.len hr]; exact hm, by simp [h.len], fun k v g h1 h2 => ?_, ?_, fun g hgm => ?_, h.lowM⟩
  · rcases Nat.lt_trichotomy k ms.length with hk | hk | hk
    · rw [List.getElem?_append_left hk] at h1
      rw [List.getElem?_append_left (by rw [h.len]; exact hk)] at h2
      have hb := h.blk k v g h1 h2
      exact (hb.alloc _).kept hg (fun e => map_ne h.map hb (Option.some.inj e))
    · subst hk
      rw [List.getElem?_append_right (Nat.le_refl _), Nat.sub_self] at h1
      rw [← h.len, List.getElem?_append_right (Nat.le_refl _), Nat.sub_self] at h2
      simp at h1 h2
      subst h1; subst h2
      exact (BlkAt.new W _ _).kept hg (fun e => hne (Option.some.inj e))
    · rw [List.getElem?_append_right (by omega), List.getElem?_eq_none (by simp; omega)] at h1; cases h1
  · refine nodup_snoc h.nod (fun hm => ?_)
    obtain ⟨k, hk⟩ := List.getElem?_of_mem hm
    obtain ⟨v, hv⟩ := get_some (xs := ms) (k := k) (by rw [← h.len]; exact (List.getElem?_eq_some_iff.1 hk).1)
    have := (h.blk k v _ hv hk).lt
    omega
  · rcases List.mem_append.1 hgm with h1 | h1
    · exact h.low g h1
    · rw [List.mem_singleton.1 h1]; exact hB
theorem zip_reg (ms : List Itv) (r i : Nat) : (ms.map (extV r i)).map Itv.reg = ms.map Itv.reg := extM_reg ms r i
/-- a touch of a register that is there -/
theorem AtMap.hit {W : World} {B0 m : Nat} {ms : List Itv} {gs : List Nat} (h : AtMap W B0 m ms gs) {k g r i : Nat} {v : Itv} (hv : ms[k]? = some v) (hg : gs[k]? = some g) (hr : v.reg = r) (hnd : (ms.map Itv.reg).Nodup) :
    AtMap ((W.setCell ⟨g, 1, none⟩ (.int .i64 ((min v.frm i : Nat) : Int))).setCell ⟨g, 2, none⟩ (.int .i64 ((max v.to i : Nat) : Int))) B0 m (extM ms r i) gs := by
  have hb := h.blk k v g hv hg
  have hgm := map_ne h.map hb
  have he : extM ms r i = ms.map (extV r i) := by unfold extM; rw [if_pos (List.mem_map.2 ⟨v, List.mem_of_getElem? hv, hr⟩)]
  rw [he]
  have huniq : ∀ (q : Nat) (y : Itv), ms[q]? = some y → y.reg = r → q = k := fun q y hy hyr => by
    have hp := List.pairwise_iff_getElem.1 hnd
    obtain ⟨lq, eq⟩ := List.getElem?_eq_some_iff.1 hy
    obtain ⟨lk, ek⟩ := List.getElem?_eq_some_iff.1 hv
    rcases Nat.lt_trichotomy q k with h1 | h1 | h1
    · have := hp q k (by simpa using lq) (by simpa using lk) h1
      simp [eq, ek, hyr, hr] at this
    · exact h1
    · have := hp k q (by simpa using lk) (by simpa using lq) h1
      simp [eq, ek, hyr, hr] at this
  refine ⟨?_, by rw [List.length_map]; exact h.len, fun q y g' h1 h2 => ?_, h.nod, h.low, h.lowM⟩
  · rw [zip_reg]; exact (h.map.setCell (Ne.symm hgm) _).setCell (Ne.symm hgm) _
  · rw [List.getElem?_map] at h1
    rcases hz : ms[q]? with _ | z
    · rw [hz] at h1; cases h1
    · rw [hz] at h1; cases h1
      by_cases hzr : z.reg = r
      · obtain rfl := huniq q z hz hzr
        rw [hv] at hz; cases hz
        rw [hg] at h2; cases h2
        have := (hb.set 1 (.int .i64 ((min v.frm i : Nat) : Int))).set 2 (.int .i64 ((max v.to i : Nat) : Int))
        unfold extV
        rw [if_pos hr]
        unfold itvA at this ⊢
        rw [← hr]
        simpa using this
      · have hne : g' ≠ g := fun e => by
          subst e
          have hp := List.pairwise_iff_getElem.1 h.nod
          obtain ⟨lq, eq⟩ := List.getElem?_eq_some_iff.1 h2
          obtain ⟨lk, ek⟩ := List.getElem?_eq_some_iff.1 hg
          rcases Nat.lt_trichotomy q k with h3 | h3 | h3
          · exact hp q k lq lk h3 (by rw [eq, ek])
          · subst h3; rw [hv] at hz; cases hz; exact hzr hr
          · exact hp k q lk lq h3 (by rw [eq, ek])
        unfold extV
        rw [if_neg hzr]
        exact ((h.blk q z g' hz h2).far (p := ⟨g, 1, none⟩) hne _).far (p := ⟨g, 2, none⟩) hne _
set_option maxRecDepth 100000 in
set_option maxHeartbeats 8000000 in
theorem ext_any (B0 Bm m r i : Nat) (ms : List Itv) (gs : List Nat) (W : World) (hA : AtMap W B0 m ms gs) (hb : W.cell? ⟨Bm, 0, none⟩ = some (.map (some m))) (hB : B0 ≤ W.heap.size) (hnd : (ms.map Itv.reg).Nodup) :
    Calls Tryz.prog 82 #[.int .i64 r, .int .i64 i, .pointer (some ⟨Bm, 0, none⟩)] W fun e w' => e = .returned (.tuple #[]) ∧ (∃ gs', AtMap w' B0 m (extM ms r i) gs') ∧ ExtK B0 m W w' := by
  have HA := Lib.hid hA
  have hz : (zeroValue 143).run Tryz.prog W = .ok (encP none) W := Tryz.zeroValue143 W
  have hm := hA.map
  have HM := Lib.hid hm
  have HZ := Lib.hid hz
  clear hA hm hz
  rcases hlk : look ((ms.map Itv.reg).zip (gs.map some)) r with _ | x
  · have HX : Hid (extM ms r i = ms ++ [⟨r, i, i⟩]) := Lib.hid (by unfold extM; rw [if_neg ((look_zip HA.out.len r).1 hlk)])
    have HL : Hid ((look ((ms.map Itv.reg).zip (gs.map some)) r).getD none = none) := Lib.hid (by rw [hlk]; rfl)
    have HNM := Lib.hid ((look_zip HA.out.len r).1 hlk)
    clear hlk
    go_enter Tryz.func82, Tryz.ntmps82
    go_wp2_with (first
      | (at_lookup; refine wpList_lookup_of _ rfl _ _ 142 rfl 143 mkeyI Tryz.underlying142 none HZ.out m _ rfl HM.out r rfl ?_; rw [HL.out]; unfold encP; simp only [Option.map_none])
      | (at_mapUpdate; refine wpList_mapUpdate_of _ rfl _ _ _ 142 rfl 143 mkeyI Tryz.underlying142 m _ rfl (HM.out.alloc _) r rfl (some W.heap.size) rfl ?_; intro w2 hm2 hg2 hs2)
      | fail)
    go_end0
    refine ⟨rfl, ⟨gs ++ [W.heap.size], ?_⟩, ?_⟩
    · rw [HX.out]; exact HA.out.add hB HNM.out hm2 hg2
    · exact (ExtK.below ((Below.refl _ W).alloc (Nat.le_refl _) _) hB).trans (extK_map (HM.out.alloc _) hg2 HA.out.lowM (by simp; omega))
  · obtain ⟨k, v, g, hv, hg, hr, rfl⟩ := look_some hlk
    have HL : Hid ((look ((ms.map Itv.reg).zip (gs.map some)) r).getD none = some g) := Lib.hid (by rw [hlk]; rfl)
    have HBG := Lib.hid (HA.out.blk k v g hv hg)
    have c1 := HBG.out.cell 1
    have c2 := HBG.out.cell 2
    unfold itvA at c1 c2
    simp only [List.getElem?_toArray, List.getElem?_cons_succ, List.getElem?_cons_zero] at c1 c2
    have HV := Lib.hid hv
    have HG := Lib.hid hg
    have HRR := Lib.hid hr
    have HRES := Lib.hid (HA.out.hit hv hg hr hnd (i := i))
    clear hlk hv hg hr
    go_enter Tryz.func82, Tryz.ntmps82
    go_wp2_with (first
      | (at_lookup; refine wpList_lookup_of _ rfl _ _ 142 rfl 143 mkeyI Tryz.underlying142 none HZ.out m _ rfl HM.out r rfl ?_; rw [HL.out]; unfold encP; simp only [Option.map_some])
      | fail)
    refine heldL (fun _ => True) (fun w' => w'.cell? ⟨g, 1, none⟩ = some (.int .i64 v.frm) ∧ w'.cell? ⟨g, 2, none⟩ = some (.int .i64 v.to)) 16 (by kernel_rfl) ?_
    have HBD := Lib.hid (HBG.out.below (below_draw (Below.refl W.heap.size W) 1) HBG.out.lt)
    have HRESD : Hid (AtMap (((W.drewN 1).setCell ⟨g, 1, none⟩ (.int .i64 ((min v.frm i : Nat) : Int))).setCell ⟨g, 2, none⟩ (.int .i64 ((max v.to i : Nat) : Int))) B0 m (extM ms r i) gs) := Lib.hid ((HA.out.below (below_draw (Below.refl W.heap.size W) 1)).hit HV.out HG.out HRR.out hnd)
    have HLOW := Lib.hid (HA.out.low g (List.mem_of_getElem? HG.out))
    have HEX : Hid (ExtK B0 m W (((W.drewN 1).setCell ⟨g, 1, none⟩ (.int .i64 ((min v.frm i : Nat) : Int))).setCell ⟨g, 2, none⟩ (.int .i64 ((max v.to i : Nat) : Int)))) := Lib.hid (((ExtK.below (below_draw (Below.refl W.heap.size W) 1) hB).trans (extK_set HBD.out HLOW.out _)).trans (extK_set (HBD.out.set 1 _) HLOW.out _))
    have hmin : min (v.frm : Int) (i : Int) = ((min v.frm i : Nat) : Int) := by omega
    have hmax : max (v.to : Int) (i : Int) = ((max v.to i : Nat) : Int) := by omega
    clear HRES HM HZ HL HA hb c1 c2
    generalize W.drewN 1 = W3 at *
    have hHeld : True ∧ (W3.cell? ⟨g, 1, none⟩ = some (.int .i64 v.frm) ∧ W3.cell? ⟨g, 2, none⟩ = some (.int .i64 v.to)) := ⟨trivial, HBD.out.cell 1, HBD.out.cell 2⟩
    refine takeP 0 (v := ?_) rfl (by kernel_rfl) (by kernel_rfl) (by kernel_rfl) (by kernel_rfl) (fun _ _ _ h => h) (by rfl) ?_ (by assumption) ?_
    rotate_left 1
    · (intro w hSw; go_simp; try with_reducible rfl)
    try simp only [Act.put, List.setIfInBounds_toArray, List.set_cons_zero, List.set_cons_succ]
    refine takeP 1 (v := ?_) rfl (by kernel_rfl) (by kernel_rfl) (by kernel_rfl) (by kernel_rfl) (fun _ _ _ h => h) (by rfl) ?_ (by assumption) ?_
    rotate_left 1
    · (intro w hSw; go_simp; try with_reducible rfl)
    try simp only [Act.put, List.setIfInBounds_toArray, List.set_cons_zero, List.set_cons_succ]
    refine takeP 2 (v := ?_) rfl (by kernel_rfl) (by kernel_rfl) (by kernel_rfl) (by kernel_rfl) (fun _ _ _ h => h) (by rfl) ?_ (by assumption) ?_
    rotate_left 1
    · (intro w hSw; go_simp; try with_reducible rfl)
    try simp only [Act.put, List.setIfInBounds_toArray, List.set_cons_zero, List.set_cons_succ]
    refine takeP 3 (v := ?_) rfl (by kernel_rfl) (by kernel_rfl) (by kernel_rfl) (by kernel_rfl) (fun _ _ _ h => h) (by rfl) ?_ (by assumption) ?_
    rotate_left 1
    · (intro w hSw; go_simp; try with_reducible rfl)
    try simp only [Act.put, List.setIfInBounds_toArray, List.set_cons_zero, List.set_cons_succ]
    refine takeP 4 (v := ?_) rfl (by kernel_rfl) (by kernel_rfl) (by kernel_rfl) (by kernel_rfl) (fun _ _ _ h => h) (by rfl) ?_ (by assumption) ?_
    rotate_left 1
    · (intro w hSw; go_simp; try with_reducible rfl)
    try simp only [Act.put, List.setIfInBounds_toArray, List.set_cons_zero, List.set_cons_succ]
    refine takeL 5 (v := ?_) rfl (by kernel_rfl) (by kernel_rfl) (by kernel_rfl) (by kernel_rfl) (fun _ _ _ h => h) (by rfl) ?_ (by assumption) ?_
    rotate_left 1
    · (intro w hSw; (try dsimp only at hSw); obtain ⟨_, hSw1, hSw2⟩ := hSw; go_simp; try with_reducible rfl)
    try simp only [Act.put, List.setIfInBounds_toArray, List.set_cons_zero, List.set_cons_succ]
    refine takeP 6 (v := ?_) rfl (by kernel_rfl) (by kernel_rfl) (by kernel_rfl) (by kernel_rfl) (fun _ _ _ h => h) (by rfl) ?_ (by assumption) ?_
    rotate_left 1
    · (intro w hSw; go_simp; try with_reducible rfl)
    try simp only [Act.put, List.setIfInBounds_toArray, List.set_cons_zero, List.set_cons_succ]
    refine takeP 7 (v := ?_) rfl (by kernel_rfl) (by kernel_rfl) (by kernel_rfl) (by kernel_rfl) (fun _ _ _ h => h) (by rfl) ?_ (by assumption) ?_
    rotate_left 1
    · (intro w hSw; go_simp; try with_reducible rfl)
    try simp only [Act.put, List.setIfInBounds_toArray, List.set_cons_zero, List.set_cons_succ]
    refine takeP 8 (v := ?_) rfl (by kernel_rfl) (by kernel_rfl) (by kernel_rfl) (by kernel_rfl) (fun _ _ _ h => h) (by rfl) ?_ (by assumption) ?_
    rotate_left 1
    · (intro w hSw; go_simp; try with_reducible rfl)
    try simp only [Act.put, List.setIfInBounds_toArray, List.set_cons_zero, List.set_cons_succ]
    refine takeP 9 (v := ?_) rfl (by kernel_rfl) (by kernel_rfl) (by kernel_rfl) (by kernel_rfl) (fun _ _ _ h => h) (by rfl) ?_ (by assumption) ?_
    rotate_left 1
    · (intro w hSw; go_simp; try with_reducible rfl)
    try simp only [Act.put, List.setIfInBounds_toArray, List.set_cons_zero, List.set_cons_succ]
    refine takeP 10 (v := ?_) rfl (by kernel_rfl) (by kernel_rfl) (by kernel_rfl) (by kernel_rfl) (fun _ _ _ h => h) (by rfl) ?_ (by assumption) ?_
    rotate_left 1
    · (intro w hSw; go_simp; try with_reducible rfl)
    try simp only [Act.put, List.setIfInBounds_toArray, List.set_cons_zero, List.set_cons_succ]
    refine takeL 11 (v := ?_) rfl (by kernel_rfl) (by kernel_rfl) (by kernel_rfl) (by kernel_rfl) (fun _ _ _ h => h) (by rfl) ?_ (by assumption) ?_
    rotate_left 1
    · (intro w hSw; (try dsimp only at hSw); obtain ⟨_, hSw1, hSw2⟩ := hSw; go_simp; try with_reducible rfl)
    try simp only [Act.put, List.setIfInBounds_toArray, List.set_cons_zero, List.set_cons_succ]
    refine takeP 12 (v := ?_) rfl (by kernel_rfl) (by kernel_rfl) (by kernel_rfl) (by kernel_rfl) (fun _ _ _ h => h) (by rfl) ?_ (by assumption) ?_
    rotate_left 1
    · (intro w hSw; go_simp; try with_reducible rfl)
    try simp only [Act.put, List.setIfInBounds_toArray, List.set_cons_zero, List.set_cons_succ]
    refine takeP 13 (v := ?_) rfl (by kernel_rfl) (by kernel_rfl) (by kernel_rfl) (by kernel_rfl) (fun _ _ _ h => h) (by rfl) ?_ (by assumption) ?_
    rotate_left 1
    · (intro w hSw; go_simp; try with_reducible rfl)
    try simp only [Act.put, List.setIfInBounds_toArray, List.set_cons_zero, List.set_cons_succ]
    refine oneL 14 (by kernel_rfl) rfl (fun K hK => ?_)
    go_simp
    refine hK.out _ _ ⟨hHeld.1, fun _ => hHeld.2⟩ ?_
    clear hK
    try simp only [Act.put, List.setIfInBounds_toArray, List.set_cons_zero, List.set_cons_succ]
    refine oneL 15 (by kernel_rfl) rfl (fun K hK => ?_)
    go_simp
    refine hK.out _ _ ⟨hHeld.1, fun _ => hHeld.2⟩ ?_
    clear hK
    try simp only [Act.put, List.setIfInBounds_toArray, List.set_cons_zero, List.set_cons_succ]
    have q1 := hHeld.2.1
    have r1 := HBD.out.frozen 1
    have r2 := HBD.out.frozen 2
    refine oneL 16 (by kernel_rfl) rfl (fun K hK => ?_)
    go_simp
    have HB4 := Lib.hid (HBD.out.set 1 (.int .i64 ((min v.frm i : Nat) : Int)))
    refine hK.out _ _ ⟨trivial, fun h => absurd h (by decide)⟩ ?_
    clear hK hHeld q1 r1
    try simp only [Act.put, List.setIfInBounds_toArray, List.set_cons_zero, List.set_cons_succ]
    have q2 := HB4.out.cell 2
    have r3 := HB4.out.frozen 2
    unfold itvA at q2
    simp only [List.setIfInBounds_toArray, List.set_cons_succ, List.set_cons_zero, List.getElem?_toArray, List.getElem?_cons_succ, List.getElem?_cons_zero] at q2
    generalize W3.setCell ⟨g, 1, none⟩ (.int .i64 ((min v.frm i : Nat) : Int)) = W4 at *
    refine oneL 17 (by kernel_rfl) rfl (fun K hK => ?_)
    go_simp
    refine hK.out _ _ ⟨trivial, fun h => absurd h (by decide)⟩ ?_
    clear hK
    try simp only [Act.put, List.setIfInBounds_toArray, List.set_cons_zero, List.set_cons_succ]
    refine oneL 18 (by kernel_rfl) rfl (fun K hK => ?_)
    go_simp
    refine hK.out _ _ ⟨trivial, fun h => absurd h (by decide)⟩ ?_
    clear hK
    try simp only [Act.put, List.setIfInBounds_toArray, List.set_cons_zero, List.set_cons_succ]
    refine oneL 19 (by kernel_rfl) rfl (fun K hK => ?_)
    go_simp
    refine hK.out _ _ ⟨trivial, fun h => absurd h (by decide)⟩ ?_
    clear hK q2 r2 r3
    try simp only [Act.put, List.setIfInBounds_toArray, List.set_cons_zero, List.set_cons_succ]
    refine doneL (by kernel_rfl) ?_ _
    go_step
    go_wp2_with fail
    refine bodyPost_ret (results_none rfl _ _ _) rfl ?_
    exact ⟨rfl, ⟨gs, HRESD.out⟩, HEX.out⟩
end Go.Proofs.YtpahhcmiimllaaaGreatDoor
