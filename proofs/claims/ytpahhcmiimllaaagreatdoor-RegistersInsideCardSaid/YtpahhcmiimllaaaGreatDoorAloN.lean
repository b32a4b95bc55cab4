/- DERIVED. Allocate: wrong code, a body out of range, machine registers out of range. -/
import Derived.Test.YtpahhcmiimllaaaGreatDoorIvlN
import Derived.Test.YtpahhcmiimllaaaGreatDoorRul2
set_option linter.unusedSimpArgs false
set_option linter.unusedVariables false
namespace Go.Proofs.YtpahhcmiimllaaaGreatDoor
open Go.RowKit Go.Shelf

theorem plan_sizeN : (Tryz.prog.info? 29).map (·.size) = some 3 := by kernel_rfl
set_option maxRecDepth 100000 in
set_option maxHeartbeats 4000000 in
theorem Allocate_err (c : CodeL) (A : Option Addr) (n cc : Nat) (k mc : Int) (w : World) (hC : Bods w A n c.bodies) (hf : FewC c) (hV : VarsR w) (he : errOf c k ≠ 0) :
    Calls Tryz.prog 11 #[codeV c A n cc, .int .i64 k, .int .i64 mc] w fun e w' => e = .returned (.tuple #[.agg #[.slice none 0 0, .slice none 0 0, .int .i64 0], .int .i64 (errOf c k)]) ∧ Below w.heap.size w w' := by
  have HB0 := Lib.hid (((Below.refl w.heap.size w).alloc (Nat.le_refl _) (.cells #[.int .i64 c.globals, .slice A n cc] 24)).alloc (alloc_sz (Nat.le_refl _)) (.cells #[.slice none 0 0, .slice none 0 0, .int .i64 0] 29))
  have HX0 := Lib.hid ((BlkAt.new w 24 #[.int .i64 c.globals, .slice A n cc]).alloc (.cells #[.slice none 0 0, .slice none 0 0, .int .i64 0] 29))
  have HRES0 := Lib.hid (BlkAt.new (w.alloc (.cells #[.int .i64 c.globals, .slice A n cc] 24)) 29 #[.slice none 0 0, .slice none 0 0, .int .i64 0])
  rw [World.size_alloc] at HRES0
  have HLV := Lib.hid (lives_err c A n cc k _ (bods_below hC HB0.out) hf (hV.below HB0.out) he)
  generalize errOf c k = q at *
  have fq : ((q : Int) != 0) = true := by simp; omega
  have c0 := HX0.out.cell 0
  have c1 := HX0.out.cell 1
  simp only [List.getElem?_toArray, List.getElem?_cons_succ, List.getElem?_cons_zero] at c0 c1
  clear hC hf hV he HX0
  unfold codeV at HLV ⊢
  go_enter Tryz.func11, Tryz.ntmps11
  go_wp2_with (first
    | (go_at_call 40
       refine HLV.out.mono ?_
       rintro e w1 ⟨rfl, hb1⟩
       have HB1 := Lib.hid (HB0.out.trans (hb1.mono HB0.out.size))
       have HRES := Lib.hid (HRES0.out.below hb1 HRES0.out.lt)
       have p0 := HRES.out.cell 0
       have p1 := HRES.out.cell 1
       have p2 := HRES.out.cell 2
       have f0 := HRES.out.frozen 0
       have f1 := HRES.out.frozen 1
       have f2 := HRES.out.frozen 2
       simp only [List.getElem?_toArray, List.getElem?_cons_succ, List.getElem?_cons_zero] at p0 p1 p2
       clear hb1 HLV c0 c1)
    | fail)
  have HREF := Lib.hid (((HRES.out.set 0 (.slice none 0 0)).set 1 (.slice none 0 0)).set 2 (.int .i64 0))
  simp only [List.setIfInBounds_toArray, List.set_cons_succ, List.set_cons_zero] at HREF
  refine bodyPost_ret (results_ct rfl _ _ (w.heap.size + 1) 29 _ (0, 0) _ rfl HREF.out Tryz.underlying29 rfl plan_sizeN) rfl ⟨rfl, ((HB1.out.setCell (by simp) _).setCell (by simp) _).setCell (by simp) _⟩
set_option maxRecDepth 100000 in
set_option maxHeartbeats 4000000 in
theorem Allocate_out (c : CodeL) (A : Option Addr) (n cc k : Nat) (mc : Int) (b : BodyL) (w : World) (hC : Bods w A n c.bodies) (hf : FewC c) (hV : VarsR w) (hc0 : chkC c = 0) (hb : c.bodies[k]? = some b) (hm : mc < 0 ∨ 64 < mc) :
    Calls Tryz.prog 11 #[codeV c A n cc, .int .i64 k, .int .i64 mc] w fun e w' => e = .returned (.tuple #[.agg #[.slice none 0 0, .slice none 0 0, .int .i64 0], .int .i64 4]) ∧ Below w.heap.size w w' := by
  have HB0 := Lib.hid (((Below.refl w.heap.size w).alloc (Nat.le_refl _) (.cells #[.int .i64 c.globals, .slice A n cc] 24)).alloc (alloc_sz (Nat.le_refl _)) (.cells #[.slice none 0 0, .slice none 0 0, .int .i64 0] 29))
  have HX0 := Lib.hid ((BlkAt.new w 24 #[.int .i64 c.globals, .slice A n cc]).alloc (.cells #[.slice none 0 0, .slice none 0 0, .int .i64 0] 29))
  have HRES0 := Lib.hid (BlkAt.new (w.alloc (.cells #[.int .i64 c.globals, .slice A n cc] 24)) 29 #[.slice none 0 0, .slice none 0 0, .int .i64 0])
  rw [World.size_alloc] at HRES0
  have HLV := Lib.hid (lives_ok c A n cc k b _ (bods_below hC HB0.out) hf (hV.below HB0.out) hc0 hb)
  have c0 := HX0.out.cell 0
  have c1 := HX0.out.cell 1
  simp only [List.getElem?_toArray, List.getElem?_cons_succ, List.getElem?_cons_zero] at c0 c1
  clear hC hf hV hc0 hb HX0
  unfold codeV at HLV ⊢
  by_cases hm1 : mc < 0
  · clear hm
    go_enter Tryz.func11, Tryz.ntmps11
    go_wp2_with (first
      | (go_at_call 40
         refine HLV.out.mono ?_
         rintro e w1 ⟨⟨X, Ab, nb, cb, us, vU, vA, vB, gA, gB, ah, be, rfl, hL, hul, hfx⟩, hb1⟩
         have HB1 := Lib.hid (HB0.out.trans (hb1.mono HB0.out.size))
         have HRES := Lib.hid (HRES0.out.below hb1 HRES0.out.lt)
         have p0 := HRES.out.cell 0
         have p1 := HRES.out.cell 1
         have p2 := HRES.out.cell 2
         have f0 := HRES.out.frozen 0
         have f1 := HRES.out.frozen 1
         have f2 := HRES.out.frozen 2
         simp only [List.getElem?_toArray, List.getElem?_cons_succ, List.getElem?_cons_zero] at p0 p1 p2
         clear hb1 HLV c0 c1 hL hul hfx)
      | fail)
    have HREF := Lib.hid (((HRES.out.set 0 (.slice none 0 0)).set 1 (.slice none 0 0)).set 2 (.int .i64 0))
    simp only [List.setIfInBounds_toArray, List.set_cons_succ, List.set_cons_zero] at HREF
    refine bodyPost_ret (results_ct rfl _ _ (w.heap.size + 1) 29 _ (0, 0) _ rfl HREF.out Tryz.underlying29 rfl plan_sizeN) rfl ⟨rfl, ((HB1.out.setCell (by simp) _).setCell (by simp) _).setCell (by simp) _⟩
  · have hm2 : 64 < mc := by omega
    clear hm
    go_enter Tryz.func11, Tryz.ntmps11
    go_wp2_with (first
      | (go_at_call 40
         refine HLV.out.mono ?_
         rintro e w1 ⟨⟨X, Ab, nb, cb, us, vU, vA, vB, gA, gB, ah, be, rfl, hL, hul, hfx⟩, hb1⟩
         have HB1 := Lib.hid (HB0.out.trans (hb1.mono HB0.out.size))
         have HRES := Lib.hid (HRES0.out.below hb1 HRES0.out.lt)
         have p0 := HRES.out.cell 0
         have p1 := HRES.out.cell 1
         have p2 := HRES.out.cell 2
         have f0 := HRES.out.frozen 0
         have f1 := HRES.out.frozen 1
         have f2 := HRES.out.frozen 2
         simp only [List.getElem?_toArray, List.getElem?_cons_succ, List.getElem?_cons_zero] at p0 p1 p2
         clear hb1 HLV c0 c1 hL hul hfx)
      | fail)
    have HREF := Lib.hid (((HRES.out.set 0 (.slice none 0 0)).set 1 (.slice none 0 0)).set 2 (.int .i64 0))
    simp only [List.setIfInBounds_toArray, List.set_cons_succ, List.set_cons_zero] at HREF
    refine bodyPost_ret (results_ct rfl _ _ (w.heap.size + 1) 29 _ (0, 0) _ rfl HREF.out Tryz.underlying29 rfl plan_sizeN) rfl ⟨rfl, ((HB1.out.setCell (by simp) _).setCell (by simp) _).setCell (by simp) _⟩
end Go.Proofs.YtpahhcmiimllaaaGreatDoor
