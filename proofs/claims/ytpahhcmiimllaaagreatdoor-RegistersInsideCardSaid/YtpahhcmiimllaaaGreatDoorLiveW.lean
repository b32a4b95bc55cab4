/- DERIVED. Live: the registers that are live ahead of each instruction. -/
import Derived.Test.YtpahhcmiimllaaaGreatDoorColl
import Derived.Deep.CutRange
set_option linter.unusedSimpArgs false
set_option linter.unusedVariables false
namespace Go.Proofs.YtpahhcmiimllaaaGreatDoor
open Go.RowKit Go.Shelf

theorem ints_info : (Tryz.prog.info? 27).map (fun i => (i.zero, i.size, i.bytes)) = some (some (.slice none 0 0), 1, 24) := by kernel_rfl
/-- a row of rows of ints, all of the call's own -/
def RowsI (w : World) (base : Nat) (v : Value) (xss : List (List Nat)) : Prop :=
  ∃ vs : List Value, vs.length = xss.length ∧ w.ownsRow base 27 1 v vs.length vs ∧ ∀ (i : Nat) (x : Value) (xs : List Nat), vs[i]? = some x → xss[i]? = some xs → w.ownsRow base 3 1 x xs.length (xs.flatMap encNat)
theorem RowsI.nil (w : World) (base : Nat) : RowsI w base (.slice none 0 0) [] := ⟨[], rfl, World.ownsRow_nil _ _ _ _, fun i x xs h => by cases h⟩
theorem RowsI.below {w w' : World} {base : Nat} {v : Value} {xss : List (List Nat)} (h : RowsI w base v xss) (hb : Below w.heap.size w w') : RowsI w' base v xss := by
  obtain ⟨vs, h1, h2, h3⟩ := h
  exact ⟨vs, h1, own_below h2 hb, fun i x xs hx hxs => own_below (h3 i x xs hx hxs) hb⟩
theorem rowsI_snoc {w w' : World} {base : Nat} {v v' x : Value} {xss : List (List Nat)} {xs : List Nat} {vs : List Value} (h1 : vs.length = xss.length) (h2 : w.ownsRow base 27 1 v vs.length vs) (h3 : ∀ (i : Nat) (x : Value) (xs : List Nat), vs[i]? = some x → xss[i]? = some xs → w.ownsRow base 3 1 x xs.length (xs.flatMap encNat)) (hx : w.ownsRow base 3 1 x xs.length (xs.flatMap encNat)) (hg : w.grownBy w' v.ownBlock) (hr : w'.ownsRow base 27 1 v' (vs.length + 1) (vs ++ [x])) : RowsI w' base v' (xss ++ [xs]) := by
  have hk := keptT_own hg h2
  refine ⟨vs ++ [x], by simp [h1], by simpa using hr, fun i y ys hy hys => ?_⟩
  rcases Nat.lt_trichotomy i vs.length with hi | hi | hi
  · rw [List.getElem?_append_left hi] at hy
    rw [List.getElem?_append_left (by omega)] at hys
    exact own_keptT (h3 i y ys hy hys) hk (by decide)
  · subst hi
    rw [List.getElem?_append_right (Nat.le_refl _), Nat.sub_self] at hy
    rw [h1, List.getElem?_append_right (Nat.le_refl _), Nat.sub_self] at hys
    simp at hy hys
    subst hy; subst hys
    exact own_keptT hx hk (by decide)
  · rw [List.getElem?_append_right (by omega), List.getElem?_eq_none (by simp; omega)] at hy; cases hy
set_option maxRecDepth 100000 in
set_option maxHeartbeats 4000000 in
theorem Live_err (c : CodeL) (A : Option Addr) (n cc : Nat) (k : Int) (w : World) (hC : Bods w A n c.bodies) (hf : FewC c) (hV : VarsR w) (he : errOf c k ≠ 0) :
    Calls Tryz.prog 17 #[codeV c A n cc, .int .i64 k] w fun e w' => e = .returned (.tuple #[.slice none 0 0, .int .i64 (errOf c k)]) ∧ Below w.heap.size w w' := by
  have HB0 := Lib.hid ((Below.refl w.heap.size w).alloc (Nat.le_refl _) (.cells #[.int .i64 c.globals, .slice A n cc] 24))
  have HX0 := Lib.hid (BlkAt.new w 24 #[.int .i64 c.globals, .slice A n cc])
  have HLV := Lib.hid (lives_err c A n cc k (w.alloc (.cells #[.int .i64 c.globals, .slice A n cc] 24)) (bods_below hC HB0.out) hf (hV.below HB0.out) he)
  generalize errOf c k = q at *
  have fq : ((q : Int) != 0) = true := by simp; omega
  have c0 := HX0.out.cell 0
  have c1 := HX0.out.cell 1
  simp only [List.getElem?_toArray, List.getElem?_cons_succ, List.getElem?_cons_zero] at c0 c1
  clear hC hf hV he HX0
  unfold codeV at HLV ⊢
  go_enter Tryz.func17, Tryz.ntmps17
  go_wp2_with (first
    | (go_at_call 40
       refine HLV.out.mono ?_
       rintro e w1 ⟨rfl, hb1⟩
       have HB1 := Lib.hid (HB0.out.trans (hb1.mono HB0.out.size))
       clear hb1 HLV c0 c1)
    | fail)
  go_ret2
  exact ⟨rfl, HB1.out⟩
set_option maxRecDepth 100000 in
set_option maxHeartbeats 4000000 in
theorem Live_ok (c : CodeL) (A : Option Addr) (n cc k : Nat) (b : BodyL) (w : World) (hC : Bods w A n c.bodies) (hf : FewC c) (hV : VarsR w) (hc0 : chkC c = 0) (hb : c.bodies[k]? = some b) :
    Calls Tryz.prog 17 #[codeV c A n cc, .int .i64 k] w fun e w' => (∃ ah be v, FixL (b.regs.toNat / 64 + 1) b.code ah be ∧ e = .returned (.tuple #[v, .int .i64 0]) ∧ RowsI w' w.heap.size v (be.map elemsW)) ∧ Below w.heap.size w w' := by
  have hbm := List.mem_of_getElem? hb
  have HR := Lib.hid (chk_right hc0 hbm)
  have HB0 := Lib.hid ((Below.refl w.heap.size w).alloc (Nat.le_refl _) (.cells #[.int .i64 c.globals, .slice A n cc] 24))
  have HX0 := Lib.hid (BlkAt.new w 24 #[.int .i64 c.globals, .slice A n cc])
  have HLV := Lib.hid (lives_ok c A n cc k b (w.alloc (.cells #[.int .i64 c.globals, .slice A n cc] 24)) (bods_below hC HB0.out) hf (hV.below HB0.out) hc0 hb)
  have HDB := Lib.hid (deb_of (hV.below HB0.out))
  have hlb : b.code.length ≤ 1000 := hf.len b hbm
  have hrg : b.regs.toNat / 64 + 1 ≤ 1000 := by have := HR.out.regs; omega
  have hpos := List.length_pos_iff.2 HR.out.ne
  obtain ⟨nw, hnw⟩ : ∃ nw, b.regs.toNat / 64 + 1 = nw := ⟨_, rfl⟩
  rw [hnw] at HLV hrg ⊢
  have c0 := HX0.out.cell 0
  have c1 := HX0.out.cell 1
  simp only [List.getElem?_toArray, List.getElem?_cons_succ, List.getElem?_cons_zero] at c0 c1
  clear hC hf hV hc0 hb hbm HX0 hnw
  unfold codeV at HLV ⊢
  obtain ⟨i0, hi, hz0, hz1, hz2⟩ := info_parts ints_info
  have HIN := Lib.hid hi
  clear hi
  go_enter Tryz.func17, Tryz.ntmps17
  go_wp2_with (first
    | (go_at_call 40
       refine HLV.out.mono ?_
       rintro e w1 ⟨⟨X, Ab, nb, cb, us, vU, vA, vB, gA, gB, ah, be, rfl, hL, hul, hfx⟩, hb1⟩
       have HB1 := Lib.hid (HB0.out.trans (hb1.mono HB0.out.size))
       have HFX := Lib.hid hfx
       have HDB1 := Lib.hid (HDB.out.below hb1 HDB.out.lt)
       obtain ⟨gv, cv, _, hvB, _, _, _⟩ := own_blk hL.rowB (by rw [hL.wsB.len, hfx.lb]; omega)
       subst hvB
       have HL := Lib.hid hL
       have e6 := hL.blk.cell 6
       simp only [List.getElem?_toArray, List.getElem?_cons_succ, List.getElem?_cons_zero] at e6
       have HGL : Hid (gB.length = b.code.length) := Lib.hid (by rw [hL.wsB.len, hfx.lb])
       clear hL hul hfx hb1 HLV c0 c1)
    | fail)
  clear e6
  have hgl : gB.length ≤ 1000 := by have := HGL.out; omega
  go_loopw [8, 25] (fun v ix wr => ∃ i : Nat, i ≤ gB.length ∧ ix = .int .i64 i ∧ Hid (RowsI wr w1.heap.size v ((be.take i).map elemsW)) ∧ Hid (Below w1.heap.size w1 wr)) (fun v ix _ => gB.length - (intOf ix).toNat)
  case atStart => exact ⟨0, by omega, rfl, Lib.hid (RowsI.nil _ _), Lib.hid (Below.refl _ _)⟩
  case round =>
    obtain ⟨i, hin, rfl, HROW, HBW⟩ := hrel
    by_cases hlt : i < gB.length
    · have HLr := Lib.hid (HL.out.below HBW.out)
      obtain ⟨⟨g1, g2⟩, hg⟩ := get_some (xs := gB) (k := i) hlt
      obtain ⟨b0, hb0⟩ := get_some (xs := be) (k := i) (by rw [HFX.out.lb, ← HGL.out]; exact hlt)
      have HBE := Lib.hid hb0
      have f6 := own_set_cell HLr.out.rowB hg
      have HRW := Lib.hid (HLr.out.wsB.row i _ b0 hg hb0).1
      have HOK := Lib.hid (HFX.out.wb b0 (List.mem_of_getElem? hb0))
      have hk0 : (0 : Int) ≤ (i : Int) := by omega
      have hk1 : (i : Int) < (gB.length : Int) := by omega
      have wr1 : IntKind.i64.wrap ((i : Int) + 1) = (i : Int) + 1 := IntWalk.i64_in _ (by omega)
      have HAA : Hid (AllAt (wr.alloc (.cells #[.slice (some ⟨g1, 0, none⟩) nw g2] 94)).heap.size wr.heap.size g1 0 nw g2 b0 (wr.alloc (.cells #[.slice (some ⟨g1, 0, none⟩) nw g2] 94))) := Lib.hid ⟨(BlkAt.new wr _ _).cell 0, Nat.lt_of_lt_of_le HRW.out.lt (by simp), HOK.out.1, HOK.out, fun j y hj => by rw [Nat.zero_add]; exact cell_alloc _ (HRW.out.cell j y hj), fun j hj => cell_alloc _ ((HDB1.out.below HBW.out HDB1.out.lt) j hj), Nat.lt_of_lt_of_le (HDB1.out.below HBW.out HDB1.out.lt).lt (by simp), by omega⟩
      have HCO := Lib.hid (collect_any wr.heap.size g1 0 nw g2 b0 _ HAA.out hrg)
      have HBA := Lib.hid ((Below.refl wr.heap.size wr).alloc (Nat.le_refl _) (.cells #[.slice (some ⟨g1, 0, none⟩) nw g2] 94))
      obtain ⟨vs, hvl, hvr, hvx⟩ := HROW.out
      obtain ⟨Av, cv2, hv, _, _, _⟩ := own_slice hvr
      subst hv
      have hvl2 : vs.length = i := by rw [hvl]; simp; have := HFX.out.lb; have := HGL.out; omega
      have HVL := Lib.hid hvl2
      have HVR := Lib.hid hvr
      have HVX := Lib.hid hvx
      have HVE := Lib.hid hvl
      have hvb : vs.length ≤ 1000 := by omega
      clear hg hb0 hvr hvx hvl hvl2
      go_wp2_with (first
        | (go_at_call 51
           refine (all_any g1 0 nw g2 wr).mono ?_
           rintro e w2 ⟨rfl, rfl⟩)
        | (go_at_call 50
           refine HCO.out.mono ?_
           rintro e w3 ⟨⟨x, rfl, hx⟩, hb3⟩
           obtain ⟨Ax, cx, hxv, _, _, _⟩ := own_slice hx
           subst hxv
           have HB3 := Lib.hid (HBA.out.trans (hb3.mono HBA.out.size))
           have HX3 := Lib.hid (own_low hx (show w1.heap.size ≤ _ from Nat.le_trans HBW.out.size HBA.out.size))
           clear hx hb3 HCO)
        | (at_builtin; refine wpList_append_own_at _ rfl _ _ 46 rfl w1.heap.size 27 i0 (.slice none 0 0) 1 24 Tryz.underlying46 HIN.out hz0 hz1 hz2 rfl (by decide) (.slice Av vs.length cv2) vs.length vs rfl ((own_below HVR.out HB3.out).alloc _) ⟨w3.heap.size, 0, none⟩ 1 1 [.slice Ax (elemsW b0).length cx] rfl rfl (cells_new' _ [.slice Ax (elemsW b0).length cx] _ _ rfl) (by simp [Value.oneCell']) (by unfold maxLen; omega) (by omega) (Nat.le_trans HBW.out.size (Nat.le_trans HB3.out.size (by simp))) ?_
           intro v4 w4 hrow4 hgr4 hiff4 hob4
           have HR4 := Lib.hid (rowsI_snoc HVE.out ((own_below HVR.out HB3.out).alloc _) (fun j y ys h1 h2 => (own_below (HVX.out j y ys h1 h2) HB3.out).alloc _) (HX3.out.alloc _) hgr4 hrow4)
           have HB4 := Lib.hid (((HBW.out.trans (HB3.out.mono HBW.out.size)).alloc (Nat.le_trans HBW.out.size HB3.out.size) (.cells #[.slice Ax (elemsW b0).length cx] 27)).grown hgr4 (Nat.le_trans HBW.out.size (Nat.le_trans HB3.out.size (by simp))) (fun j e => (own_lt HVR.out e).1))
           clear hrow4 hgr4 hiff4 hob4)
        | fail)
      go_roundw
      case rel => exact ⟨i + 1, by omega, by go_num, Lib.hid (by
        rw [List.take_add_one, HBE.out]
        simpa using HR4.out), HB4⟩
      case measure => simp [intOf]; omega
    · obtain rfl : i = gB.length := by omega
      have hf2 := HROW.out
      rw [List.take_of_length_le (by have := HFX.out.lb; have := HGL.out; omega)] at hf2
      have HF2 := Lib.hid hf2
      clear hf2
      go_wp2_with fail
      go_ret2
      obtain ⟨vs, h1, h2, h3⟩ := HF2.out
      exact ⟨⟨_, _, _, HFX.out, rfl, vs, h1, own_low h2 HB1.out.size, fun j y ys e1 e2 => own_low (h3 j y ys e1 e2) HB1.out.size⟩, HB1.out.trans (HBW.out.mono HB1.out.size)⟩
end Go.Proofs.YtpahhcmiimllaaaGreatDoor
