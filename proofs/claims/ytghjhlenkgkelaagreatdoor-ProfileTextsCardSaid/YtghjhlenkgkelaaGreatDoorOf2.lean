/- DERIVED. Of where it returns an error. -/
import Derived.Test.YtghjhlenkgkelaaGreatDoorOf
set_option linter.unusedSimpArgs false
set_option linter.unusedVariables false
namespace Go.Proofs.YtghjhlenkgkelaaGreatDoor
open Go.RowKit Go.Shelf Go.Sort
attribute [local go_sem] run_store_float

theorem Of_err (A : Option Addr) (n c mm me : Nat) (xs : List Acc) (w : World) (hl : n ≤ 5000) (hr : Trace w w.heap.size A n xs) (hg : givenL xs ≠ 0) :
    Calls Tryz.prog 11 #[.slice A n c, .agg #[.float .f32 mm, .float .f32 me]] w fun e w' => e = .returned (.tuple #[.agg #[.slice none 0 0, .slice none 0 0, .float .f32 0], .int .i64 (givenL xs)]) ∧ Below w.heap.size w w' := by
  have hz1 : BlkAt ((w.alloc (.cells #[.float .f32 mm, .float .f32 me] 50)).alloc (.cells #[.slice none 0 0, .slice none 0 0, .float .f32 0] 34)) (w.heap.size + 1) 34 #[.slice none 0 0, .slice none 0 0, .float .f32 0] := by
    have := BlkAt.new (w.alloc (.cells #[.float .f32 mm, .float .f32 me] 50)) 34 #[.slice none 0 0, .slice none 0 0, .float .f32 0]
    simpa using this
  have hbl0 : Below w.heap.size w ((w.alloc (.cells #[.float .f32 mm, .float .f32 me] 50)).alloc (.cells #[.slice none 0 0, .slice none 0 0, .float .f32 0] 34)) := ((Below.refl w.heap.size w).alloc (Nat.le_refl _) _).alloc (by simp) _
  have hgiv := given_any A n c xs _ hl ((hr.below hbl0 (Nat.le_refl _)).mono hbl0.size)
  have h0b : (givenL xs != 0) = true := by simpa using hg
  have HG := Lib.hid hg
  have HZ1 := Lib.hid hz1
  have HBL0 := Lib.hid hbl0
  clear hr hg hz1 hbl0
  go_enter Tryz.func11, Tryz.ntmps11
  go_wp2_with
    (go_at_call 24
     refine hgiv.mono ?_
     rintro e w1 ⟨rfl, hb1⟩
     clear hgiv
     have HB1 := Lib.hid hb1
     have B1 := HZ1.out.below hb1 HZ1.out.lt
     have hr0 := B1.cell 0
     have hr1 := B1.cell 1
     have hr2 := B1.cell 2
     have hf0 := B1.frozen 0
     have hf1 := B1.frozen 1
     have hf2 := B1.frozen 2
     simp only [List.getElem?_toArray, List.getElem?_cons_succ, List.getElem?_cons_zero] at hr0 hr1 hr2
     have HB01 := Lib.hid B1
     clear hb1 B1)
  have B3 := ((HB01.out.set 0 (.slice none 0 0)).set 1 (.slice none 0 0)).set 2 (.float .f32 0)
  have q0 := B3.cell 0
  have q1 := B3.cell 1
  have q2 := B3.cell 2
  simp only [List.setIfInBounds_toArray, List.set_cons_zero, List.set_cons_succ, List.getElem?_toArray, List.getElem?_cons_succ, List.getElem?_cons_zero] at q0 q1 q2
  refine bodyPost_ret (v := .tuple #[.agg #[.slice none 0 0, .slice none 0 0, .float .f32 0], .int .i64 (givenL xs)]) (by simp [results, Tryz.results11, go_sem, q0, q1, q2]) rfl ⟨rfl, ?_⟩
  have b5 := HBL0.out.trans (HB1.out.mono HBL0.out.size)
  exact ((b5.setCell (p := ⟨w.heap.size + 1, 0, none⟩) (by simp) _).setCell (p := ⟨w.heap.size + 1, 1, none⟩) (by simp) _).setCell (p := ⟨w.heap.size + 1, 2, none⟩) (by simp) _
end Go.Proofs.YtghjhlenkgkelaaGreatDoor
