/- DERIVED. The law's 'given': a profile of the reference as the program takes it. -/
import Derived.Test.YtghjhlenkgkelaaGreatDoorTxt
import Derived.Test.YtghjhlenkgkelaaGreatDoorOf
set_option linter.unusedSimpArgs false
set_option linter.unusedVariables false
namespace Go.Proofs.YtghjhlenkgkelaaGreatDoor
open Go.RowKit Go.Shelf Go.Sort
attribute [local go_sem] run_store_float

theorem pedge_info : (Tryz.prog.info? 52).map (fun i => (i.zero, i.size, i.bytes)) = some (some (.agg #[.int .i64 0, .int .i64 0, .int .i64 0, .int .i64 0]), 4, 32) := by kernel_rfl
theorem pspot_info : (Tryz.prog.info? 63).map (fun i => (i.zero, i.size, i.bytes)) = some (some (.agg #[.int .i64 0, .int .i64 0, .int .i64 0, .int .i64 0, .int .i64 0, .int .i64 0, .int .i64 0]), 7, 56) := by kernel_rfl
theorem egv_one (x : Edg) : ∀ u ∈ encEL x, u.oneCell' = true := by
  intro u hu
  simp [encEL] at hu
  rcases hu with rfl | rfl | rfl | rfl <;> rfl
theorem sgv_one (x : Spt) : ∀ u ∈ encSL x, u.oneCell' = true := by
  intro u hu
  simp [encSL] at hu
  rcases hu with rfl | rfl | rfl | rfl | rfl | rfl | rfl <;> rfl
/-- what the law's given holds while it copies -/
structure GvSt (w wr : World) (A B : Option Addr) (n c m d f : Nat) (es : List Edg) (sl : List Spt) (ve vs : Value) : Prop where
  box : BlkAt wr w.heap.size 26 #[.slice A n c, .slice B m d, .float .f32 f]
  res : BlkAt wr (w.heap.size + 1) 34 #[.slice none 0 0, .slice none 0 0, .float .f32 0]
  out : BlkAt wr (w.heap.size + 2) 34 #[ve, vs, .float .f32 f]
  row : wr.ownsRow w.heap.size 52 4 ve es.length (es.flatMap encEL)
  spt : wr.ownsRow w.heap.size 63 7 vs sl.length (sl.flatMap encSL)
  below : Below w.heap.size w wr
section
variable {w wr w' : World} {A B : Option Addr} {n c m d f : Nat} {es : List Edg} {sl : List Spt} {ve vs : Value}
theorem GvSt.after (h : GvSt w wr A B n c m d f es sl ve vs) (hb : Below wr.heap.size wr w') : GvSt w w' A B n c m d f es sl ve vs :=
  ⟨h.box.kept (grown_of_below (row := none) hb) (by simp), h.res.kept (grown_of_below (row := none) hb) (by simp), h.out.kept (grown_of_below (row := none) hb) (by simp), h.row.kept (grown_of_below (row := none) hb) (none_or _), h.spt.kept (grown_of_below (row := none) hb) (none_or _), h.below.trans (hb.mono h.below.size)⟩
theorem GvSt.addE (h : GvSt w wr A B n c m d f es sl ve vs) {x : Edg} {w1 : World} {v' : Value} (hg : wr.grownBy w1 ve.ownBlock) (hrow : w1.ownsRow w.heap.size 52 4 v' (es.length + 1) (es.flatMap encEL ++ encEL x)) : GvSt w (w1.setCell ⟨w.heap.size + 2, 0, none⟩ v') A B n c m d f (es ++ [x]) sl v' vs := by
  have b1 := h.box.kept hg (own_blk_ne h.row h.box (by decide))
  have r1 := h.res.kept hg (own_blk_ne h.row h.res (by decide))
  have o1 := h.out.kept hg (own_blk_ne h.row h.out (by decide))
  have s1 := h.spt.kept hg (own_own_ne h.spt h.row (by decide))
  refine ⟨b1.far (by show w.heap.size ≠ w.heap.size + 2; omega) _, r1.far (by show w.heap.size + 1 ≠ w.heap.size + 2; omega) _, ?_, ?_, own_set s1 (own_blk_ne s1 o1 (by decide)) _ _, (h.below.grown hg h.below.size (fun k e => (own_lt h.row e).1)).setCell (p := ⟨w.heap.size + 2, 0, none⟩) (by simp) _⟩
  · have := o1.set 0 v'; simpa using this
  · have := own_set hrow (own_blk_ne hrow o1 (by decide)) 0 v'
    rw [List.length_append, List.flatMap_append]
    simpa using this
theorem GvSt.addS (h : GvSt w wr A B n c m d f es sl ve vs) {x : Spt} {w1 : World} {v' : Value} (hg : wr.grownBy w1 vs.ownBlock) (hrow : w1.ownsRow w.heap.size 63 7 v' (sl.length + 1) (sl.flatMap encSL ++ encSL x)) : GvSt w (w1.setCell ⟨w.heap.size + 2, 1, none⟩ v') A B n c m d f es (sl ++ [x]) ve v' := by
  have b1 := h.box.kept hg (own_blk_ne h.spt h.box (by decide))
  have r1 := h.res.kept hg (own_blk_ne h.spt h.res (by decide))
  have o1 := h.out.kept hg (own_blk_ne h.spt h.out (by decide))
  have s1 := h.row.kept hg (own_own_ne h.row h.spt (by decide))
  refine ⟨b1.far (by show w.heap.size ≠ w.heap.size + 2; omega) _, r1.far (by show w.heap.size + 1 ≠ w.heap.size + 2; omega) _, ?_, own_set s1 (own_blk_ne s1 o1 (by decide)) _ _, ?_, (h.below.grown hg h.below.size (fun k e => (own_lt h.spt e).1)).setCell (p := ⟨w.heap.size + 2, 1, none⟩) (by simp) _⟩
  · have := o1.set 1 v'; simpa using this
  · have := own_set hrow (own_blk_ne hrow o1 (by decide)) 1 v'
    rw [List.length_append, List.flatMap_append]
    simpa using this
end
/-- what the law's given tells -/
def GvRes (w : World) (f : Nat) (es : List Edg) (sl : List Spt) (e : Ending) (w' : World) : Prop :=
  ∃ ve vs, e = .returned (.agg #[ve, vs, .float .f32 f]) ∧ w'.ownsRow w.heap.size 52 4 ve es.length (es.flatMap encEL) ∧ w'.ownsRow w.heap.size 63 7 vs sl.length (sl.flatMap encSL) ∧ Below w.heap.size w w'
set_option maxRecDepth 100000 in
set_option maxHeartbeats 4000000 in
theorem gv_any (A B : Option Addr) (n c m d f : Nat) (es : List Edg) (sl : List Spt) (w : World) (hA : Rd encEL 4 w A n es) (hB : Rd encSL 7 w B m sl) (hn : n + m ≤ 10000) :
    Calls Tryz.prog 6 #[.agg #[.slice A n c, .slice B m d, .float .f32 f]] w (GvRes w f es sl) := by
  obtain ⟨i0, hi, hz0, hz1, hz2⟩ := info_parts pedge_info
  obtain ⟨j0, hj, hy0, hy1, hy2⟩ := info_parts pspot_info
  have HA := Lib.hid hA
  have HB := Lib.hid hB
  clear hA hB
  have hg0 : GvSt w (((w.alloc (.cells #[.slice A n c, .slice B m d, .float .f32 f] 26)).alloc (.cells #[.slice none 0 0, .slice none 0 0, .float .f32 0] 34)).alloc (.cells #[.slice none 0 0, .slice none 0 0, .float .f32 f] 34)) A B n c m d f [] [] (.slice none 0 0) (.slice none 0 0) := by
    refine ⟨((BlkAt.new w _ _).alloc _).alloc _, ?_, ?_, World.ownsRow_nil _ _ _ _, World.ownsRow_nil _ _ _ _, ?_⟩
    · have := (BlkAt.new (w.alloc (.cells #[.slice A n c, .slice B m d, .float .f32 f] 26)) 34 #[.slice none 0 0, .slice none 0 0, .float .f32 0]).alloc (.cells #[.slice none 0 0, .slice none 0 0, .float .f32 f] 34)
      simpa using this
    · have := BlkAt.new ((w.alloc (.cells #[.slice A n c, .slice B m d, .float .f32 f] 26)).alloc (.cells #[.slice none 0 0, .slice none 0 0, .float .f32 0] 34)) 34 #[.slice none 0 0, .slice none 0 0, .float .f32 f]
      simpa using this
    · exact (((Below.refl w.heap.size w).alloc (Nat.le_refl _) _).alloc (by simp) _).alloc (by simp; omega) _
  have HG0 := Lib.hid hg0
  have hb0 := BlkAt.new w 26 #[.slice A n c, .slice B m d, .float .f32 f]
  have x2 := (hb0.alloc (.cells #[.slice none 0 0, .slice none 0 0, .float .f32 0] 34)).cell 2
  simp only [List.getElem?_toArray, List.getElem?_cons_succ, List.getElem?_cons_zero] at x2
  clear hg0 hb0
  go_enter Tryz.func6, Tryz.ntmps6
  go_wp2
  clear x2
  go_loopw [4] (fun i wr => ∃ (k : Nat) (ve : Value), k ≤ n ∧ i = .int .i64 k ∧ GvSt w wr A B n c m d f (es.take k) [] ve (.slice none 0 0)) (fun i _ => n - (intOf i).toNat)
  case atStart => exact ⟨0, _, by omega, rfl, HG0.out⟩
  case round =>
    obtain ⟨k, ve, hk, rfl, hst⟩ := hrel
    have x0 := hst.box.cell 0
    have x1 := hst.box.cell 1
    have y0 := hst.out.cell 0
    have z0 := hst.out.frozen 0
    simp only [List.getElem?_toArray, List.getElem?_cons_succ, List.getElem?_cons_zero] at x0 x1 y0
    have hbl := BlkAt.lt hst.out
    have HST := Lib.hid hst
    have hle : (es.take k).length ≤ 10000 := by have := List.length_take_le k es; omega
    by_cases hlt : k < n
    · obtain ⟨x, hx⟩ := get_some (xs := es) (k := k) (by rw [← HA.out.len]; omega)
      obtain ⟨b, o, rfl, hbb, hc⟩ := (HA.out.below (hst.below.mono (Nat.le_refl _))).at_ k x hx
      have c0 := hc 0 _ rfl
      have c1 := hc 1 _ rfl
      have c2 := hc 2 _ rfl
      have c3 := hc 3 _ rfl
      rw [Nat.add_zero] at c0
      have HTS := Lib.hid (take_snoc hx)
      have hk0 : (0 : Int) ≤ (k : Int) := by omega
      have hk1 : (k : Int) < (n : Int) := by omega
      obtain ⟨wq, rfl⟩ : ∃ wq : World, wq = wr := ⟨_, rfl⟩
      have hst2 := hst.after (((Below.refl _ wq).alloc (Nat.le_refl _) (.cells (encEL x).toArray 60)).alloc (by simp) (.cells (encEL x).toArray 52))
      have HST2 := Lib.hid hst2
      have hrow := hst2.row
      have hlk : (es.take k).length = k := by rw [List.length_take, ← HA.out.len]; omega
      rw [hlk] at hrow
      have HLK := Lib.hid hlk
      obtain ⟨Ae, ce, rfl, _, _, _⟩ := own_slice hrow
      have hbs := hst.below.size
      clear hst hst2 hc hx hlk hle
      unfold encEL at hrow HST2
      go_wp2_with
        (at_builtin; refine wpList_append_own_at _ rfl _ _ 28 rfl w.heap.size 52 i0 (.agg #[.int .i64 0, .int .i64 0, .int .i64 0, .int .i64 0]) 4 32 Tryz.underlying28 hi hz0 hz1 hz2 rfl (by decide) (.slice Ae k ce) _ _ rfl hrow ⟨wq.heap.size + 1, 0, none⟩ 1 1 [.int .i64 x.frm, .int .i64 x.at', .int .i64 x.acc, .int .i64 x.msg] rfl rfl (cells_new' _ [.int .i64 x.frm, .int .i64 x.at', .int .i64 x.acc, .int .i64 x.msg] _ _ (by simp)) (by simp [Value.oneCell']) (by unfold maxLen; omega) (by omega) (by simp; omega) ?_
         intro v' w6 hrow' hgrow _ hob
         have HADD := Lib.hid (HST2.out.addE (x := x) hgrow (by rw [HLK.out]; exact hrow'))
         have o6 := HST2.out.out.kept hgrow (own_blk_ne HST2.out.row HST2.out.out (by decide))
         have u0 := o6.cell 0
         have v0 := o6.frozen 0
         simp only [List.getElem?_toArray, List.getElem?_cons_succ, List.getElem?_cons_zero] at u0
         obtain ⟨Av, cv, rfl, _, _, _⟩ := own_slice hrow'
         clear hrow' hgrow hob o6)
      go_roundw
      case rel => exact ⟨k + 1, _, by omega, by go_num, by rw [HTS.out]; exact HADD.out⟩
      case measure => simp [intOf]; omega
    · obtain rfl : n = k := by omega
      have hes : es.take n = es := List.take_of_length_le (by rw [HA.out.len]; exact Nat.le_refl _)
      have HST1 : Hid (GvSt w wr A B n c m d f es [] ve (.slice none 0 0)) := Lib.hid (by rw [← hes]; exact hst)
      obtain ⟨wz, rfl⟩ : ∃ wz : World, wz = wr := ⟨_, rfl⟩
      clear hst hes hle HST
      go_wp2
      clear x0 x1 y0 z0 hbl
      go_loopw [6] (fun i wr => ∃ (k : Nat) (vs : Value), k ≤ m ∧ i = .int .i64 k ∧ GvSt w wr A B n c m d f es (sl.take k) ve vs) (fun i _ => m - (intOf i).toNat)
      case atStart => exact ⟨0, _, by omega, rfl, HST1.out⟩
      case round =>
        obtain ⟨k, vs, hk, rfl, hst⟩ := hrel
        have x0 := hst.box.cell 0
        have x1 := hst.box.cell 1
        have y1 := hst.out.cell 1
        have z1 := hst.out.frozen 1
        simp only [List.getElem?_toArray, List.getElem?_cons_succ, List.getElem?_cons_zero] at x0 x1 y1
        have hbl := BlkAt.lt hst.out
        by_cases hlt : k < m
        · obtain ⟨x, hx⟩ := get_some (xs := sl) (k := k) (by rw [← HB.out.len]; omega)
          obtain ⟨b, o, rfl, hbb, hc⟩ := (HB.out.below (hst.below.mono (Nat.le_refl _))).at_ k x hx
          have c0 := hc 0 _ rfl
          have c1 := hc 1 _ rfl
          have c2 := hc 2 _ rfl
          have c3 := hc 3 _ rfl
          have c4 := hc 4 _ rfl
          have c5 := hc 5 _ rfl
          have c6 := hc 6 _ rfl
          rw [Nat.add_zero] at c0
          have HTS := Lib.hid (take_snoc hx)
          have hk0 : (0 : Int) ≤ (k : Int) := by omega
          have hk1 : (k : Int) < (m : Int) := by omega
          obtain ⟨wq, rfl⟩ : ∃ wq : World, wq = wr := ⟨_, rfl⟩
          have hst2 := hst.after (((Below.refl _ wq).alloc (Nat.le_refl _) (.cells (encSL x).toArray 62)).alloc (by simp) (.cells (encSL x).toArray 63))
          have HST2 := Lib.hid hst2
          have hrow := hst2.spt
          have hlk : (sl.take k).length = k := by rw [List.length_take, ← HB.out.len]; omega
          rw [hlk] at hrow
          have HLK := Lib.hid hlk
          obtain ⟨Ae, ce, rfl, _, _, _⟩ := own_slice hrow
          have hbs := hst.below.size
          clear hst hst2 hc hx hlk
          unfold encSL at hrow HST2
          go_wp2_with
            (at_builtin; refine wpList_append_own_at _ rfl _ _ 32 rfl w.heap.size 63 j0 (.agg #[.int .i64 0, .int .i64 0, .int .i64 0, .int .i64 0, .int .i64 0, .int .i64 0, .int .i64 0]) 7 56 Tryz.underlying32 hj hy0 hy1 hy2 rfl (by decide) (.slice Ae k ce) _ _ rfl hrow ⟨wq.heap.size + 1, 0, none⟩ 1 1 [.int .i64 x.place.a, .int .i64 x.place.b, .int .i64 x.place.c, .int .i64 x.reads, .int .i64 x.writes, .int .i64 x.other, .int .i64 x.remote] rfl rfl (cells_new' _ [.int .i64 x.place.a, .int .i64 x.place.b, .int .i64 x.place.c, .int .i64 x.reads, .int .i64 x.writes, .int .i64 x.other, .int .i64 x.remote] _ _ (by simp)) (by simp [Value.oneCell']) (by unfold maxLen; omega) (by omega) (by simp; omega) ?_
             intro v' w6 hrow' hgrow _ hob
             have HADD := Lib.hid (HST2.out.addS (x := x) hgrow (by rw [HLK.out]; exact hrow'))
             have o6 := HST2.out.out.kept hgrow (own_blk_ne HST2.out.spt HST2.out.out (by decide))
             have u1 := o6.cell 1
             have v1 := o6.frozen 1
             simp only [List.getElem?_toArray, List.getElem?_cons_succ, List.getElem?_cons_zero] at u1
             obtain ⟨Av, cv, rfl, _, _, _⟩ := own_slice hrow'
             clear hrow' hgrow hob o6)
          go_roundw
          case rel => exact ⟨k + 1, _, by omega, by go_num, by rw [HTS.out]; exact HADD.out⟩
          case measure => simp [intOf]; omega
        · obtain rfl : m = k := by omega
          have hsl : sl.take m = sl := List.take_of_length_le (by rw [HB.out.len]; exact Nat.le_refl _)
          rw [hsl] at hst
          have e0 := hst.out.cell 0
          have e1 := hst.out.cell 1
          have e2 := hst.out.cell 2
          have hr0 := hst.res.cell 0
          have hr1 := hst.res.cell 1
          have hr2 := hst.res.cell 2
          have hf0 := hst.res.frozen 0
          have hf1 := hst.res.frozen 1
          have hf2 := hst.res.frozen 2
          simp only [List.getElem?_toArray, List.getElem?_cons_succ, List.getElem?_cons_zero] at e0 e1 e2 hr0 hr1 hr2
          obtain ⟨Ae, ce, rfl, _, _, _⟩ := own_slice hst.row
          obtain ⟨As, cs, rfl, _, _, _⟩ := own_slice hst.spt
          have HST := Lib.hid hst
          clear hst hsl
          go_wp2
          have B3 := ((HST.out.res.set 0 (.slice Ae es.length ce)).set 1 (.slice As sl.length cs)).set 2 (.float .f32 f)
          have q0 := B3.cell 0
          have q1 := B3.cell 1
          have q2 := B3.cell 2
          simp only [List.setIfInBounds_toArray, List.set_cons_zero, List.set_cons_succ, List.getElem?_toArray, List.getElem?_cons_succ, List.getElem?_cons_zero] at q0 q1 q2
          refine bodyPost_ret (v := .agg #[.slice Ae es.length ce, .slice As sl.length cs, .float .f32 f]) (by simp [results, Tryz.results6, go_sem, q0, q1, q2]) rfl ?_
          have hne1 := own_blk_ne HST.out.row HST.out.res (by decide)
          have hne2 := own_blk_ne HST.out.spt HST.out.res (by decide)
          have k1 := own_set (own_set (own_set HST.out.row hne1 0 (.slice Ae es.length ce)) hne1 1 (.slice As sl.length cs)) hne1 2 (.float .f32 f)
          have k2 := own_set (own_set (own_set HST.out.spt hne2 0 (.slice Ae es.length ce)) hne2 1 (.slice As sl.length cs)) hne2 2 (.float .f32 f)
          exact ⟨_, _, rfl, k1, k2, ((HST.out.below.setCell (p := ⟨w.heap.size + 1, 0, none⟩) (by simp) _).setCell (p := ⟨w.heap.size + 1, 1, none⟩) (by simp) _).setCell (p := ⟨w.heap.size + 1, 2, none⟩) (by simp) _⟩
end Go.Proofs.YtghjhlenkgkelaaGreatDoor
