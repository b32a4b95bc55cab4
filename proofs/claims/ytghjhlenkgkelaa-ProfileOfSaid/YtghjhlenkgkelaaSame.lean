/- DERIVED. Of where it returns an error; the law's 'sameEdges' and 'same', of what is the same. -/
import Derived.Test.YtghjhlenkgkelaaROf
import Derived.Laws.Externs
import Derived.Deep.CutBlock
import Derived.Deep.CutRange
import Derived.Deep.DeepCutAuto
set_option linter.unusedSimpArgs false
set_option linter.unusedVariables false
namespace Go.Proofs.Ytghjhlenkgkelaa
open Go.RowKit Go.Shelf Go.Sort
attribute [local go_sem] run_store_float

theorem Ofp_err (A : Option Addr) (n c mm me : Nat) (xs : List Acc) (w : World) (hl : n ≤ 5000) (hr : Trace w w.heap.size A n xs) (hg : givenL xs ≠ 0) :
    Calls Try.prog 10 #[.slice A n c, .agg #[.float .f32 mm, .float .f32 me]] w fun e w' => e = .returned (.tuple #[.agg #[.slice none 0 0, .slice none 0 0, .float .f32 0], .int .i64 (givenL xs)]) ∧ Below w.heap.size w w' := by
  have hz0 := (BlkAt.new w 33 #[.float .f32 mm, .float .f32 me]).alloc (.cells #[.slice none 0 0, .slice none 0 0, .float .f32 0] 28)
  have hz1 : BlkAt ((w.alloc (.cells #[.float .f32 mm, .float .f32 me] 33)).alloc (.cells #[.slice none 0 0, .slice none 0 0, .float .f32 0] 28)) (w.heap.size + 1) 28 #[.slice none 0 0, .slice none 0 0, .float .f32 0] := by
    have := BlkAt.new (w.alloc (.cells #[.float .f32 mm, .float .f32 me] 33)) 28 #[.slice none 0 0, .slice none 0 0, .float .f32 0]
    simpa using this
  have hbl0 : Below w.heap.size w ((w.alloc (.cells #[.float .f32 mm, .float .f32 me] 33)).alloc (.cells #[.slice none 0 0, .slice none 0 0, .float .f32 0] 28)) := ((Below.refl w.heap.size w).alloc (Nat.le_refl _) _).alloc (by simp) _
  have hgiv := given_any A n c xs _ hl ((hr.below hbl0 (Nat.le_refl _)).mono hbl0.size)
  have h0b : (givenL xs != 0) = true := by simpa using hg
  have HZ1 := Lib.hid hz1
  have HBL0 := Lib.hid hbl0
  clear hr hg hz0 hz1 hbl0
  go_enter Try.func10, Try.ntmps10
  go_wp2_with
    (go_at_call 22
     refine hgiv.mono ?_
     rintro e w1 ⟨rfl, hb1⟩
     clear hgiv
     have HB1 := Lib.hid (HBL0.out.trans (hb1.mono HBL0.out.size))
     have B1 := HZ1.out.below hb1 HZ1.out.lt
     have hr0 := B1.cell 0
     have hr1 := B1.cell 1
     have hr2 := B1.cell 2
     have hf0 := B1.frozen 0
     have hf1 := B1.frozen 1
     have hf2 := B1.frozen 2
     simp only [List.getElem?_toArray, List.getElem?_cons_succ, List.getElem?_cons_zero] at hr0 hr1 hr2
     have HB01 := Lib.hid B1
     clear hb1 B1)
  have B3 := ((HB01.out.set 0 (.slice none 0 0)).set 1 (.slice none 0 0)).set 2 (.float .f32 0)
  have q0 := B3.cell 0
  have q1 := B3.cell 1
  have q2 := B3.cell 2
  simp only [List.setIfInBounds_toArray, List.set_cons_zero, List.set_cons_succ, List.getElem?_toArray, List.getElem?_cons_succ, List.getElem?_cons_zero] at q0 q1 q2
  refine bodyPost_ret (v := .tuple #[.agg #[.slice none 0 0, .slice none 0 0, .float .f32 0], .int .i64 (givenL xs)]) (by simp [results, Try.results10, go_sem, q0, q1, q2]) rfl ⟨rfl, ?_⟩
  exact ((HB1.out.setCell (p := ⟨w.heap.size + 1, 0, none⟩) (by simp) _).setCell (p := ⟨w.heap.size + 1, 1, none⟩) (by simp) _).setCell (p := ⟨w.heap.size + 1, 2, none⟩) (by simp) _
theorem Ofp_many (A : Option Addr) (n c mm me : Nat) (w : World) (hl : 5000 < n) (hm : n ≤ 9223372036854775807) :
    Calls Try.prog 10 #[.slice A n c, .agg #[.float .f32 mm, .float .f32 me]] w fun e w' => e = .returned (.tuple #[.agg #[.slice none 0 0, .slice none 0 0, .float .f32 0], .int .i64 5]) ∧ Below w.heap.size w w' := by
  have hz0 := (BlkAt.new w 33 #[.float .f32 mm, .float .f32 me]).alloc (.cells #[.slice none 0 0, .slice none 0 0, .float .f32 0] 28)
  have hz1 : BlkAt ((w.alloc (.cells #[.float .f32 mm, .float .f32 me] 33)).alloc (.cells #[.slice none 0 0, .slice none 0 0, .float .f32 0] 28)) (w.heap.size + 1) 28 #[.slice none 0 0, .slice none 0 0, .float .f32 0] := by
    have := BlkAt.new (w.alloc (.cells #[.float .f32 mm, .float .f32 me] 33)) 28 #[.slice none 0 0, .slice none 0 0, .float .f32 0]
    simpa using this
  have hbl0 : Below w.heap.size w ((w.alloc (.cells #[.float .f32 mm, .float .f32 me] 33)).alloc (.cells #[.slice none 0 0, .slice none 0 0, .float .f32 0] 28)) := ((Below.refl w.heap.size w).alloc (Nat.le_refl _) _).alloc (by simp) _
  have hgiv := fun W => given_many A n c W hl hm
  have HZ1 := Lib.hid hz1
  have HBL0 := Lib.hid hbl0
  clear hz0 hz1 hbl0
  go_enter Try.func10, Try.ntmps10
  go_wp2_with
    (go_at_call 22
     refine (hgiv _).mono ?_
     rintro e w1 ⟨rfl, hw1⟩
     clear hgiv
     have HB1 := Lib.hid (show Below w.heap.size w w1 by rw [hw1]; exact HBL0.out)
     have B1 := (show BlkAt w1 (w.heap.size + 1) 28 #[.slice none 0 0, .slice none 0 0, .float .f32 0] by rw [hw1]; exact HZ1.out)
     have hr0 := B1.cell 0
     have hr1 := B1.cell 1
     have hr2 := B1.cell 2
     have hf0 := B1.frozen 0
     have hf1 := B1.frozen 1
     have hf2 := B1.frozen 2
     simp only [List.getElem?_toArray, List.getElem?_cons_succ, List.getElem?_cons_zero] at hr0 hr1 hr2
     have HB01 := Lib.hid B1
     clear hw1 B1)
  have B3 := ((HB01.out.set 0 (.slice none 0 0)).set 1 (.slice none 0 0)).set 2 (.float .f32 0)
  have q0 := B3.cell 0
  have q1 := B3.cell 1
  have q2 := B3.cell 2
  simp only [List.setIfInBounds_toArray, List.set_cons_zero, List.set_cons_succ, List.getElem?_toArray, List.getElem?_cons_succ, List.getElem?_cons_zero] at q0 q1 q2
  refine bodyPost_ret (v := .tuple #[.agg #[.slice none 0 0, .slice none 0 0, .float .f32 0], .int .i64 5]) (by simp [results, Try.results10, go_sem, q0, q1, q2]) rfl ⟨rfl, ?_⟩
  exact ((HB1.out.setCell (p := ⟨w.heap.size + 1, 0, none⟩) (by simp) _).setCell (p := ⟨w.heap.size + 1, 1, none⟩) (by simp) _).setCell (p := ⟨w.heap.size + 1, 2, none⟩) (by simp) _
theorem Ofp_price (A : Option Addr) (n c mm me : Nat) (xs : List Acc) (w : World) (hl : n ≤ 5000) (hr : Trace w w.heap.size A n xs) (hg : givenL xs = 0) (hp : (priceB mm && priceB me) = false) :
    Calls Try.prog 10 #[.slice A n c, .agg #[.float .f32 mm, .float .f32 me]] w fun e w' => e = .returned (.tuple #[.agg #[.slice none 0 0, .slice none 0 0, .float .f32 0], .int .i64 1]) ∧ Below w.heap.size w w' := by
  have hz0 := (BlkAt.new w 33 #[.float .f32 mm, .float .f32 me]).alloc (.cells #[.slice none 0 0, .slice none 0 0, .float .f32 0] 28)
  have hz1 : BlkAt ((w.alloc (.cells #[.float .f32 mm, .float .f32 me] 33)).alloc (.cells #[.slice none 0 0, .slice none 0 0, .float .f32 0] 28)) (w.heap.size + 1) 28 #[.slice none 0 0, .slice none 0 0, .float .f32 0] := by
    have := BlkAt.new (w.alloc (.cells #[.float .f32 mm, .float .f32 me] 33)) 28 #[.slice none 0 0, .slice none 0 0, .float .f32 0]
    simpa using this
  have hbl0 : Below w.heap.size w ((w.alloc (.cells #[.float .f32 mm, .float .f32 me] 33)).alloc (.cells #[.slice none 0 0, .slice none 0 0, .float .f32 0] 28)) := ((Below.refl w.heap.size w).alloc (Nat.le_refl _) _).alloc (by simp) _
  have hgiv := given_any A n c xs _ hl ((hr.below hbl0 (Nat.le_refl _)).mono hbl0.size)
  rw [hg] at hgiv
  have HZ0 := Lib.hid hz0
  have HZ1 := Lib.hid hz1
  have HBL0 := Lib.hid hbl0
  clear hr hg hz0 hz1 hbl0
  have hpr1 := price_any mm
  have hpr2 := price_any me
  cases h1 : priceB mm with
  | false =>
    rw [h1] at hpr1
    clear hp
    go_enter Try.func10, Try.ntmps10
    go_wp2_with (first
      | (go_at_call 22
         refine hgiv.mono ?_
         rintro e w1 ⟨rfl, hb1⟩
         clear hgiv
         have HB1 := Lib.hid (HBL0.out.trans (hb1.mono HBL0.out.size))
         have B0 := HZ0.out.below hb1 HZ0.out.lt
         have B1 := HZ1.out.below hb1 HZ1.out.lt
         have hcb1 := B0.cell 0
         have hcb2 := B0.cell 1
         have hr0 := B1.cell 0
         have hr1 := B1.cell 1
         have hr2 := B1.cell 2
         have hf0 := B1.frozen 0
         have hf1 := B1.frozen 1
         have hf2 := B1.frozen 2
         simp only [List.getElem?_toArray, List.getElem?_cons_succ, List.getElem?_cons_zero] at hr0 hr1 hr2 hcb1 hcb2
         have HB01 := Lib.hid B1
         clear hb1 B0 B1
        )
      | (go_at_call 23; refine (hpr1 _).mono ?_; rintro e w' ⟨rfl, hww⟩; obtain rfl := hww.symm; clear hpr1))
    have B3 := ((HB01.out.set 0 (.slice none 0 0)).set 1 (.slice none 0 0)).set 2 (.float .f32 0)
    have q0 := B3.cell 0
    have q1 := B3.cell 1
    have q2 := B3.cell 2
    simp only [List.setIfInBounds_toArray, List.set_cons_zero, List.set_cons_succ, List.getElem?_toArray, List.getElem?_cons_succ, List.getElem?_cons_zero] at q0 q1 q2
    refine bodyPost_ret (v := .tuple #[.agg #[.slice none 0 0, .slice none 0 0, .float .f32 0], .int .i64 1]) (by simp [results, Try.results10, go_sem, q0, q1, q2]) rfl ⟨rfl, ?_⟩
    exact ((HB1.out.setCell (p := ⟨w.heap.size + 1, 0, none⟩) (by simp) _).setCell (p := ⟨w.heap.size + 1, 1, none⟩) (by simp) _).setCell (p := ⟨w.heap.size + 1, 2, none⟩) (by simp) _
  | true =>
    have h2 : priceB me = false := by rw [h1] at hp; simpa using hp
    rw [h1] at hpr1
    rw [h2] at hpr2
    clear hp
    go_enter Try.func10, Try.ntmps10
    go_wp2_with (first
      | (go_at_call 22
         refine hgiv.mono ?_
         rintro e w1 ⟨rfl, hb1⟩
         clear hgiv
         have HB1 := Lib.hid (HBL0.out.trans (hb1.mono HBL0.out.size))
         have B0 := HZ0.out.below hb1 HZ0.out.lt
         have B1 := HZ1.out.below hb1 HZ1.out.lt
         have hcb1 := B0.cell 0
         have hcb2 := B0.cell 1
         have hr0 := B1.cell 0
         have hr1 := B1.cell 1
         have hr2 := B1.cell 2
         have hf0 := B1.frozen 0
         have hf1 := B1.frozen 1
         have hf2 := B1.frozen 2
         simp only [List.getElem?_toArray, List.getElem?_cons_succ, List.getElem?_cons_zero] at hr0 hr1 hr2 hcb1 hcb2
         have HB01 := Lib.hid B1
         clear hb1 B0 B1
        )
      | (go_at_call 23; first | (refine (hpr1 _).mono ?_; rintro e w' ⟨rfl, hww⟩; obtain rfl := hww.symm; clear hpr1) | (refine (hpr2 _).mono ?_; rintro e w' ⟨rfl, hww⟩; obtain rfl := hww.symm; clear hpr2)))
    have B3 := ((HB01.out.set 0 (.slice none 0 0)).set 1 (.slice none 0 0)).set 2 (.float .f32 0)
    have q0 := B3.cell 0
    have q1 := B3.cell 1
    have q2 := B3.cell 2
    simp only [List.setIfInBounds_toArray, List.set_cons_zero, List.set_cons_succ, List.getElem?_toArray, List.getElem?_cons_succ, List.getElem?_cons_zero] at q0 q1 q2
    refine bodyPost_ret (v := .tuple #[.agg #[.slice none 0 0, .slice none 0 0, .float .f32 0], .int .i64 1]) (by simp [results, Try.results10, go_sem, q0, q1, q2]) rfl ⟨rfl, ?_⟩
    exact ((HB1.out.setCell (p := ⟨w.heap.size + 1, 0, none⟩) (by simp) _).setCell (p := ⟨w.heap.size + 1, 1, none⟩) (by simp) _).setCell (p := ⟨w.heap.size + 1, 2, none⟩) (by simp) _

theorem rOf_err (A : Option Addr) (n c mm me : Nat) (xs : List Acc) (w : World) (hl : n ≤ 5000) (hr : Trace w w.heap.size A n xs) (hg : givenL xs ≠ 0) :
    Calls Try.prog 14 #[.slice A n c, .agg #[.float .f32 mm, .float .f32 me]] w fun e w' => e = .returned (.tuple #[.agg #[.slice none 0 0, .slice none 0 0, .float .f32 0], .int .i64 (givenL xs)]) ∧ Below w.heap.size w w' := by
  have hz0 := (BlkAt.new w 47 #[.float .f32 mm, .float .f32 me]).alloc (.cells #[.slice none 0 0, .slice none 0 0, .float .f32 0] 52)
  have hz1 : BlkAt ((w.alloc (.cells #[.float .f32 mm, .float .f32 me] 47)).alloc (.cells #[.slice none 0 0, .slice none 0 0, .float .f32 0] 52)) (w.heap.size + 1) 52 #[.slice none 0 0, .slice none 0 0, .float .f32 0] := by
    have := BlkAt.new (w.alloc (.cells #[.float .f32 mm, .float .f32 me] 47)) 52 #[.slice none 0 0, .slice none 0 0, .float .f32 0]
    simpa using this
  have hbl0 : Below w.heap.size w ((w.alloc (.cells #[.float .f32 mm, .float .f32 me] 47)).alloc (.cells #[.slice none 0 0, .slice none 0 0, .float .f32 0] 52)) := ((Below.refl w.heap.size w).alloc (Nat.le_refl _) _).alloc (by simp) _
  have hgiv := refGiven A n c xs _ hl ((hr.below hbl0 (Nat.le_refl _)).mono hbl0.size)
  have h0b : (givenL xs != 0) = true := by simpa using hg
  have HZ1 := Lib.hid hz1
  have HBL0 := Lib.hid hbl0
  clear hr hg hz0 hz1 hbl0
  go_enter Try.func14, Try.ntmps14
  go_wp2_with
    (go_at_call 30
     refine hgiv.mono ?_
     rintro e w1 ⟨rfl, hb1⟩
     clear hgiv
     have HB1 := Lib.hid (HBL0.out.trans (hb1.mono HBL0.out.size))
     have B1 := HZ1.out.below hb1 HZ1.out.lt
     have hr0 := B1.cell 0
     have hr1 := B1.cell 1
     have hr2 := B1.cell 2
     have hf0 := B1.frozen 0
     have hf1 := B1.frozen 1
     have hf2 := B1.frozen 2
     simp only [List.getElem?_toArray, List.getElem?_cons_succ, List.getElem?_cons_zero] at hr0 hr1 hr2
     have HB01 := Lib.hid B1
     clear hb1 B1)
  have B3 := ((HB01.out.set 0 (.slice none 0 0)).set 1 (.slice none 0 0)).set 2 (.float .f32 0)
  have q0 := B3.cell 0
  have q1 := B3.cell 1
  have q2 := B3.cell 2
  simp only [List.setIfInBounds_toArray, List.set_cons_zero, List.set_cons_succ, List.getElem?_toArray, List.getElem?_cons_succ, List.getElem?_cons_zero] at q0 q1 q2
  refine bodyPost_ret (v := .tuple #[.agg #[.slice none 0 0, .slice none 0 0, .float .f32 0], .int .i64 (givenL xs)]) (by simp [results, Try.results14, go_sem, q0, q1, q2]) rfl ⟨rfl, ?_⟩
  exact ((HB1.out.setCell (p := ⟨w.heap.size + 1, 0, none⟩) (by simp) _).setCell (p := ⟨w.heap.size + 1, 1, none⟩) (by simp) _).setCell (p := ⟨w.heap.size + 1, 2, none⟩) (by simp) _
theorem rOf_many (A : Option Addr) (n c mm me : Nat) (w : World) (hl : 5000 < n) (hm : n ≤ 9223372036854775807) :
    Calls Try.prog 14 #[.slice A n c, .agg #[.float .f32 mm, .float .f32 me]] w fun e w' => e = .returned (.tuple #[.agg #[.slice none 0 0, .slice none 0 0, .float .f32 0], .int .i64 5]) ∧ Below w.heap.size w w' := by
  have hz0 := (BlkAt.new w 47 #[.float .f32 mm, .float .f32 me]).alloc (.cells #[.slice none 0 0, .slice none 0 0, .float .f32 0] 52)
  have hz1 : BlkAt ((w.alloc (.cells #[.float .f32 mm, .float .f32 me] 47)).alloc (.cells #[.slice none 0 0, .slice none 0 0, .float .f32 0] 52)) (w.heap.size + 1) 52 #[.slice none 0 0, .slice none 0 0, .float .f32 0] := by
    have := BlkAt.new (w.alloc (.cells #[.float .f32 mm, .float .f32 me] 47)) 52 #[.slice none 0 0, .slice none 0 0, .float .f32 0]
    simpa using this
  have hbl0 : Below w.heap.size w ((w.alloc (.cells #[.float .f32 mm, .float .f32 me] 47)).alloc (.cells #[.slice none 0 0, .slice none 0 0, .float .f32 0] 52)) := ((Below.refl w.heap.size w).alloc (Nat.le_refl _) _).alloc (by simp) _
  have hgiv := fun W => refGiven_many A n c W hl hm
  have HZ1 := Lib.hid hz1
  have HBL0 := Lib.hid hbl0
  clear hz0 hz1 hbl0
  go_enter Try.func14, Try.ntmps14
  go_wp2_with
    (go_at_call 30
     refine (hgiv _).mono ?_
     rintro e w1 ⟨rfl, hw1⟩
     clear hgiv
     have HB1 := Lib.hid (show Below w.heap.size w w1 by rw [hw1]; exact HBL0.out)
     have B1 := (show BlkAt w1 (w.heap.size + 1) 52 #[.slice none 0 0, .slice none 0 0, .float .f32 0] by rw [hw1]; exact HZ1.out)
     have hr0 := B1.cell 0
     have hr1 := B1.cell 1
     have hr2 := B1.cell 2
     have hf0 := B1.frozen 0
     have hf1 := B1.frozen 1
     have hf2 := B1.frozen 2
     simp only [List.getElem?_toArray, List.getElem?_cons_succ, List.getElem?_cons_zero] at hr0 hr1 hr2
     have HB01 := Lib.hid B1
     clear hw1 B1)
  have B3 := ((HB01.out.set 0 (.slice none 0 0)).set 1 (.slice none 0 0)).set 2 (.float .f32 0)
  have q0 := B3.cell 0
  have q1 := B3.cell 1
  have q2 := B3.cell 2
  simp only [List.setIfInBounds_toArray, List.set_cons_zero, List.set_cons_succ, List.getElem?_toArray, List.getElem?_cons_succ, List.getElem?_cons_zero] at q0 q1 q2
  refine bodyPost_ret (v := .tuple #[.agg #[.slice none 0 0, .slice none 0 0, .float .f32 0], .int .i64 5]) (by simp [results, Try.results14, go_sem, q0, q1, q2]) rfl ⟨rfl, ?_⟩
  exact ((HB1.out.setCell (p := ⟨w.heap.size + 1, 0, none⟩) (by simp) _).setCell (p := ⟨w.heap.size + 1, 1, none⟩) (by simp) _).setCell (p := ⟨w.heap.size + 1, 2, none⟩) (by simp) _
theorem rOf_price (A : Option Addr) (n c mm me : Nat) (xs : List Acc) (w : World) (hl : n ≤ 5000) (hr : Trace w w.heap.size A n xs) (hg : givenL xs = 0) (hp : (priceB mm && priceB me) = false) :
    Calls Try.prog 14 #[.slice A n c, .agg #[.float .f32 mm, .float .f32 me]] w fun e w' => e = .returned (.tuple #[.agg #[.slice none 0 0, .slice none 0 0, .float .f32 0], .int .i64 1]) ∧ Below w.heap.size w w' := by
  have hz0 := (BlkAt.new w 47 #[.float .f32 mm, .float .f32 me]).alloc (.cells #[.slice none 0 0, .slice none 0 0, .float .f32 0] 52)
  have hz1 : BlkAt ((w.alloc (.cells #[.float .f32 mm, .float .f32 me] 47)).alloc (.cells #[.slice none 0 0, .slice none 0 0, .float .f32 0] 52)) (w.heap.size + 1) 52 #[.slice none 0 0, .slice none 0 0, .float .f32 0] := by
    have := BlkAt.new (w.alloc (.cells #[.float .f32 mm, .float .f32 me] 47)) 52 #[.slice none 0 0, .slice none 0 0, .float .f32 0]
    simpa using this
  have hbl0 : Below w.heap.size w ((w.alloc (.cells #[.float .f32 mm, .float .f32 me] 47)).alloc (.cells #[.slice none 0 0, .slice none 0 0, .float .f32 0] 52)) := ((Below.refl w.heap.size w).alloc (Nat.le_refl _) _).alloc (by simp) _
  have hgiv := refGiven A n c xs _ hl ((hr.below hbl0 (Nat.le_refl _)).mono hbl0.size)
  rw [hg] at hgiv
  have HZ0 := Lib.hid hz0
  have HZ1 := Lib.hid hz1
  have HBL0 := Lib.hid hbl0
  clear hr hg hz0 hz1 hbl0
  have hpr1 := rprice_any mm
  have hpr2 := rprice_any me
  cases h1 : priceB mm with
  | false =>
    rw [h1] at hpr1
    clear hp
    go_enter Try.func14, Try.ntmps14
    go_wp2_with (first
      | (go_at_call 30
         refine hgiv.mono ?_
         rintro e w1 ⟨rfl, hb1⟩
         clear hgiv
         have HB1 := Lib.hid (HBL0.out.trans (hb1.mono HBL0.out.size))
         have B0 := HZ0.out.below hb1 HZ0.out.lt
         have B1 := HZ1.out.below hb1 HZ1.out.lt
         have hcb1 := B0.cell 0
         have hcb2 := B0.cell 1
         have hr0 := B1.cell 0
         have hr1 := B1.cell 1
         have hr2 := B1.cell 2
         have hf0 := B1.frozen 0
         have hf1 := B1.frozen 1
         have hf2 := B1.frozen 2
         simp only [List.getElem?_toArray, List.getElem?_cons_succ, List.getElem?_cons_zero] at hr0 hr1 hr2 hcb1 hcb2
         have HB01 := Lib.hid B1
         clear hb1 B0 B1
        )
      | (go_at_call 31; refine (hpr1 _).mono ?_; rintro e w' ⟨rfl, hww⟩; obtain rfl := hww.symm; clear hpr1))
    have B3 := ((HB01.out.set 0 (.slice none 0 0)).set 1 (.slice none 0 0)).set 2 (.float .f32 0)
    have q0 := B3.cell 0
    have q1 := B3.cell 1
    have q2 := B3.cell 2
    simp only [List.setIfInBounds_toArray, List.set_cons_zero, List.set_cons_succ, List.getElem?_toArray, List.getElem?_cons_succ, List.getElem?_cons_zero] at q0 q1 q2
    refine bodyPost_ret (v := .tuple #[.agg #[.slice none 0 0, .slice none 0 0, .float .f32 0], .int .i64 1]) (by simp [results, Try.results14, go_sem, q0, q1, q2]) rfl ⟨rfl, ?_⟩
    exact ((HB1.out.setCell (p := ⟨w.heap.size + 1, 0, none⟩) (by simp) _).setCell (p := ⟨w.heap.size + 1, 1, none⟩) (by simp) _).setCell (p := ⟨w.heap.size + 1, 2, none⟩) (by simp) _
  | true =>
    have h2 : priceB me = false := by rw [h1] at hp; simpa using hp
    rw [h1] at hpr1
    rw [h2] at hpr2
    clear hp
    go_enter Try.func14, Try.ntmps14
    go_wp2_with (first
      | (go_at_call 30
         refine hgiv.mono ?_
         rintro e w1 ⟨rfl, hb1⟩
         clear hgiv
         have HB1 := Lib.hid (HBL0.out.trans (hb1.mono HBL0.out.size))
         have B0 := HZ0.out.below hb1 HZ0.out.lt
         have B1 := HZ1.out.below hb1 HZ1.out.lt
         have hcb1 := B0.cell 0
         have hcb2 := B0.cell 1
         have hr0 := B1.cell 0
         have hr1 := B1.cell 1
         have hr2 := B1.cell 2
         have hf0 := B1.frozen 0
         have hf1 := B1.frozen 1
         have hf2 := B1.frozen 2
         simp only [List.getElem?_toArray, List.getElem?_cons_succ, List.getElem?_cons_zero] at hr0 hr1 hr2 hcb1 hcb2
         have HB01 := Lib.hid B1
         clear hb1 B0 B1
        )
      | (go_at_call 31; first | (refine (hpr1 _).mono ?_; rintro e w' ⟨rfl, hww⟩; obtain rfl := hww.symm; clear hpr1) | (refine (hpr2 _).mono ?_; rintro e w' ⟨rfl, hww⟩; obtain rfl := hww.symm; clear hpr2)))
    have B3 := ((HB01.out.set 0 (.slice none 0 0)).set 1 (.slice none 0 0)).set 2 (.float .f32 0)
    have q0 := B3.cell 0
    have q1 := B3.cell 1
    have q2 := B3.cell 2
    simp only [List.setIfInBounds_toArray, List.set_cons_zero, List.set_cons_succ, List.getElem?_toArray, List.getElem?_cons_succ, List.getElem?_cons_zero] at q0 q1 q2
    refine bodyPost_ret (v := .tuple #[.agg #[.slice none 0 0, .slice none 0 0, .float .f32 0], .int .i64 1]) (by simp [results, Try.results14, go_sem, q0, q1, q2]) rfl ⟨rfl, ?_⟩
    exact ((HB1.out.setCell (p := ⟨w.heap.size + 1, 0, none⟩) (by simp) _).setCell (p := ⟨w.heap.size + 1, 1, none⟩) (by simp) _).setCell (p := ⟨w.heap.size + 1, 2, none⟩) (by simp) _


theorem row_regrown {w : World} {base n : Nat} {e : TypeId} {k : Nat} {v : Value} {xs : List Value} (h : w.ownsRow base e k v n xs) (d : Nat) (os) : (grow (redrawn w d) os).ownsRow base e k v n xs :=
  h.kept (grown_of_below (row := none) (below_regrown w d os)) (none_or _)
set_option maxRecDepth 100000 in
set_option maxHeartbeats 1000000 in
theorem sameEdges_any (A B : Option Addr) (n c d : Nat) (es : List Edg) (w : World) (b1 b2 : Nat) (hA : w.ownsRow b1 38 4 (.slice A n c) n (es.flatMap encEL)) (hB : w.ownsRow b2 88 4 (.slice B n d) n (es.flatMap encEL)) (hl : n ≤ 10000) :
    Calls Try.prog 34 #[.slice A n c, .slice B n d] w fun e w' => e = .returned (.bool true) ∧ Below w.heap.size w w' := by
  have hn : n = es.length := by have := hA.1; rw [flat_len (k := 4) (fun _ => rfl)] at this; omega
  have HA := Lib.hid hA
  have HB := Lib.hid hB
  have HN := Lib.hid hn
  clear hA hB hn
  have hll : ((n : Int) != (n : Int)) = false := bne_self_eq_false _
  go_enter Try.func34, Try.ntmps34
  go_wp2
  go_loopw [5] (fun i wr => ∃ k : Nat, k ≤ n ∧ i = .int .i64 k ∧ Below w.heap.size w wr) (fun i _ => n - (intOf i).toNat)
  case atStart => exact ⟨0, by omega, rfl, Below.refl _ _⟩
  case round =>
    obtain ⟨k, hk, rfl, hb⟩ := hrel
    by_cases hlt : k < n
    · obtain ⟨x, hx⟩ := get_some (xs := es) (k := k) (by rw [← HN.out]; omega)
      have r1 := HA.out.kept (grown_of_below (row := none) hb) (none_or _)
      have r2 := HB.out.kept (grown_of_below (row := none) hb) (none_or _)
      obtain ⟨g1, rfl, _, hc1⟩ := row_cells r1 (by omega)
      obtain ⟨g2, rfl, _, hc2⟩ := row_cells r2 (by omega)
      have hc1 := fun (i : Nat) (u : Value) (hu : (encEL x)[i]? = some u) => hc1 _ _ (flat_at (enc := encEL) (k := 4) (fun _ => rfl) hx hu)
      have hc2 := fun (i : Nat) (u : Value) (hu : (encEL x)[i]? = some u) => hc2 _ _ (flat_at (enc := encEL) (k := 4) (fun _ => rfl) hx hu)
      have a0 := hc1 0 _ rfl
      have a1 := hc1 1 _ rfl
      have a2 := hc1 2 _ rfl
      have a3 := hc1 3 _ rfl
      have b0 := hc2 0 _ rfl
      have b1 := hc2 1 _ rfl
      have b2 := hc2 2 _ rfl
      have b3 := hc2 3 _ rfl
      rw [Nat.add_zero] at a0 b0
      have f0 : (x.frm != x.frm) = false := bne_self_eq_false _
      have f1 : (x.at' != x.at') = false := bne_self_eq_false _
      have f2 : (x.acc != x.acc) = false := bne_self_eq_false _
      have f3 : (x.msg != x.msg) = false := bne_self_eq_false _
      have hk0 : (0 : Int) ≤ (k : Int) := by omega
      have hk1 : (k : Int) < (n : Int) := by omega
      have HBX := Lib.hid hb
      clear hc1 hc2 r1 r2 hx hb
      go_wp2
      go_quiet (fail)
      go_wp2
      go_roundw
      case rel => exact ⟨k + 1, by omega, by go_num, below_draw HBX.out _⟩
      case measure => simp [intOf]; omega
    · obtain rfl : k = n := by omega
      go_wp2
      go_ret
      exact ⟨rfl, hb⟩
theorem bits_run (m : Nat) (W : World) : (callFunc 35 #[.float .f32 m]).run Try.prog W = .ok (.value (.int .u32 m)) W := by
  rw [run_callFunc_extern Try.func35 (by kernel_rfl) (by kernel_rfl) (by kernel_rfl) (e := Extern.MathFloatBits.float32bits) (by kernel_rfl)]
  rfl
set_option maxRecDepth 100000 in
set_option maxHeartbeats 2000000 in
theorem same_any (A B C D : Option Addr) (n m c d e f cst : Nat) (es : List Edg) (sl : List Spt) (w : World) (b1 b2 b3 b4 : Nat) (hA : w.ownsRow b1 38 4 (.slice A n c) n (es.flatMap encEL)) (hB : w.ownsRow b2 88 4 (.slice B n d) n (es.flatMap encEL))
    (hC : w.ownsRow b3 41 7 (.slice C m e) m (sl.flatMap encSL)) (hD : w.ownsRow b4 92 7 (.slice D m f) m (sl.flatMap encSL)) (hl : n ≤ 10000) (hm : m ≤ 10000) :
    Calls Try.prog 15 #[.agg #[.slice A n c, .slice C m e, .float .f32 cst], .agg #[.slice B n d, .slice D m f, .float .f32 cst]] w fun e w' => e = .returned (.bool true) ∧ Below w.heap.size w w' := by
  have hbits := bits_run
  have hm' : m = sl.length := by have := hC.1; rw [flat_len (k := 7) (fun _ => rfl)] at this; omega
  have HN := Lib.hid hm'
  have B0 := (BlkAt.new w 28 #[.slice A n c, .slice C m e, .float .f32 cst]).alloc (.cells #[.slice B n d, .slice D m f, .float .f32 cst] 52)
  have B1 := BlkAt.new (w.alloc (.cells #[.slice A n c, .slice C m e, .float .f32 cst] 28)) 52 #[.slice B n d, .slice D m f, .float .f32 cst]
  have hb := ((Below.refl w.heap.size w).alloc (Nat.le_refl _) (.cells #[.slice A n c, .slice C m e, .float .f32 cst] 28)).alloc (by simp) (.cells #[.slice B n d, .slice D m f, .float .f32 cst] 52)
  rw [World.size_alloc] at B1
  have hA2 := (hA.alloc (.cells #[.slice A n c, .slice C m e, .float .f32 cst] 28)).alloc (.cells #[.slice B n d, .slice D m f, .float .f32 cst] 52)
  have hB2 := (hB.alloc (.cells #[.slice A n c, .slice C m e, .float .f32 cst] 28)).alloc (.cells #[.slice B n d, .slice D m f, .float .f32 cst] 52)
  have hC2 := (hC.alloc (.cells #[.slice A n c, .slice C m e, .float .f32 cst] 28)).alloc (.cells #[.slice B n d, .slice D m f, .float .f32 cst] 52)
  have hD2 := (hD.alloc (.cells #[.slice A n c, .slice C m e, .float .f32 cst] 28)).alloc (.cells #[.slice B n d, .slice D m f, .float .f32 cst] 52)
  have HB0 := Lib.hid B0
  have HB1 := Lib.hid B1
  have HBE := Lib.hid hb
  clear hA hB hC hD B0 B1 hb hm'
  go_enter Try.func15, Try.ntmps15
  go_wp2
  generalize ((w.alloc (.cells #[.slice A n c, .slice C m e, .float .f32 cst] 28)).alloc (.cells #[.slice B n d, .slice D m f, .float .f32 cst] 52)) = W0 at *
  have HA := Lib.hid hA2
  have HB := Lib.hid hB2
  have HC := Lib.hid hC2
  have HD := Lib.hid hD2
  clear hA2 hB2 hC2 hD2
  have hse := fun dd os => sameEdges_any A B n c d es (grow (redrawn W0 dd) os) b1 b2 (row_regrown HA.out dd os) (row_regrown HB.out dd os) hl
  have x0 := cell_regrown (HB0.out.cell 0)
  have x1 := cell_regrown (HB0.out.cell 1)
  have x2 := cell_regrown (HB0.out.cell 2)
  have y0 := cell_regrown (HB1.out.cell 0)
  have y1 := cell_regrown (HB1.out.cell 1)
  have y2 := cell_regrown (HB1.out.cell 2)
  have hll : ((m : Int) != (m : Int)) = false := bne_self_eq_false _
  have hcc : ((cst : Int) != (cst : Int)) = false := bne_self_eq_false _
  refine wp_region_quiet_below (by kernel_rfl) (by kernel_rfl) ?_
  repeat (any_goals (first | go_big_quiet_step ((go_at_call 34; exact Calls.regrown_of (hse _ _))) | quiet_step ((go_at_call 34; exact Calls.regrown_of (hse _ _))) | (refine wpQuiet_step (fun K hK => ?_); go_simp; split <;> (refine hK _ ?_; clear hK K))))
  all_goals (refine wpQuiet_nil ?_; intro _ hw'; obtain ⟨⟨dq, osq⟩, hw''⟩ := hw'; subst hw'')
  clear x0 x1 x2 y0 y1 y2 hse hcc
  go_wp2
  have HBR := Lib.hid (below_regrown W0 dq osq)
  go_loopw [5] (fun i wr => ∃ k : Nat, k ≤ m ∧ i = .int .i64 k ∧ Below W0.heap.size W0 wr) (fun i _ => m - (intOf i).toNat)
  case atStart => exact ⟨0, by omega, rfl, HBR.out⟩
  case round =>
    obtain ⟨k, hk, rfl, hb⟩ := hrel
    have p0 := HB0.out.below hb (BlkAt.lt HB0.out)
    have p1 := HB1.out.below hb (BlkAt.lt HB1.out)
    have x1 := p0.cell 1
    have y1 := p1.cell 1
    simp only [List.getElem?_toArray, List.getElem?_cons_succ, List.getElem?_cons_zero] at x1 y1
    by_cases hlt : k < m
    · obtain ⟨s, hs⟩ := get_some (xs := sl) (k := k) (by rw [← HN.out]; omega)
      have r1 := HC.out.kept (grown_of_below (row := none) hb) (none_or _)
      have r2 := HD.out.kept (grown_of_below (row := none) hb) (none_or _)
      obtain ⟨g1, rfl, hg1, hc1⟩ := row_cells r1 (by omega)
      obtain ⟨g2, rfl, hg2, hc2⟩ := row_cells r2 (by omega)
      have hp0 := BlkAt.lt p0
      have hp1 := BlkAt.lt p1
      have hc1 := fun (i : Nat) (u : Value) (hu : (encSL s)[i]? = some u) => hc1 _ _ (flat_at (enc := encSL) (k := 7) (fun _ => rfl) hs hu)
      have hc2 := fun (i : Nat) (u : Value) (hu : (encSL s)[i]? = some u) => hc2 _ _ (flat_at (enc := encSL) (k := 7) (fun _ => rfl) hs hu)
      have a0 := hc1 0 _ rfl
      have a1 := hc1 1 _ rfl
      have a2 := hc1 2 _ rfl
      have a3 := hc1 3 _ rfl
      have a4 := hc1 4 _ rfl
      have a5 := hc1 5 _ rfl
      have a6 := hc1 6 _ rfl
      have b0 := hc2 0 _ rfl
      have b1 := hc2 1 _ rfl
      have b2 := hc2 2 _ rfl
      have b3 := hc2 3 _ rfl
      have b4 := hc2 4 _ rfl
      have b5 := hc2 5 _ rfl
      have b6 := hc2 6 _ rfl
      rw [Nat.add_zero] at a0 b0
      have f0 : (s.place.a == s.place.a) = true := beq_self_eq_true _
      have f1 : (s.place.b == s.place.b) = true := beq_self_eq_true _
      have f2 : (s.place.c == s.place.c) = true := beq_self_eq_true _
      have f3 : (s.reads != s.reads) = false := bne_self_eq_false _
      have f4 : (s.writes != s.writes) = false := bne_self_eq_false _
      have f5 : (s.other != s.other) = false := bne_self_eq_false _
      have f6 : (s.remote != s.remote) = false := bne_self_eq_false _
      have hk0 : (0 : Int) ≤ (k : Int) := by omega
      have hk1 : (k : Int) < (m : Int) := by omega
      have HBX := Lib.hid hb
      clear hc1 hc2 r1 r2 hs hb p0 p1
      go_upto_region 6 with fail
      go_region
      all_goals go_wp2
      all_goals go_roundw
      all_goals try (case measure => simp [intOf]; omega)
      all_goals (case rel => exact ⟨k + 1, by omega, by go_num, below_draw ((HBX.out.alloc HBX.out.size _).alloc (by have := HBX.out.size; simp; omega) _) 1⟩)
    · obtain rfl : k = m := by omega
      have HBX := Lib.hid hb
      clear hb p0 p1
      go_wp2
      go_ret
      exact ⟨rfl, HBE.out.trans (HBX.out.mono HBE.out.size)⟩
end Go.Proofs.Ytghjhlenkgkelaa
