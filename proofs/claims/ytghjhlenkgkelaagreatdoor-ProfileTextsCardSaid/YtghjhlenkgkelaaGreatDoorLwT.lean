/- DERIVED. The law ProfileTexts: profiles that are not too large. -/
import Derived.Test.YtghjhlenkgkelaaGreatDoorCmpB
import Derived.Test.YtghjhlenkgkelaaGreatDoorAwake
set_option linter.unusedSimpArgs false
set_option linter.unusedVariables false
namespace Go.Proofs.YtghjhlenkgkelaaGreatDoor
open Go.RowKit Go.Shelf Go.Sort

def Tru1 (w : World) (e : Ending) (w' : World) : Prop := e = .returned (.bool true) ∧ Below w.heap.size w w'
/-- the law's two arguments in boxes -/
structure LwM (w W : World) (A1 A2 S1 S2 : Option Addr) (n c m d s1 d1 s2 d2 f1 f2 : Nat) : Prop where
  box1 : BlkAt W w.heap.size 26 #[.slice A1 n c, .slice S1 s1 d1, .float .f32 f1]
  box2 : BlkAt W (w.heap.size + 1) 26 #[.slice A2 m d, .slice S2 s2 d2, .float .f32 f2]
  below : Below w.heap.size w W
theorem LwM.after {w W W' : World} {A1 A2 S1 S2 : Option Addr} {n c m d s1 d1 s2 d2 f1 f2 : Nat} (h : LwM w W A1 A2 S1 S2 n c m d s1 d1 s2 d2 f1 f2) (hb : Below W.heap.size W W') : LwM w W' A1 A2 S1 S2 n c m d s1 d1 s2 d2 f1 f2 :=
  ⟨h.box1.kept (grown_of_below (row := none) hb) (by simp), h.box2.kept (grown_of_below (row := none) hb) (by simp), h.below.trans (hb.mono h.below.size)⟩
theorem LwM.mk0 (w : World) (A1 A2 S1 S2 : Option Addr) (n c m d s1 d1 s2 d2 f1 f2 : Nat) : LwM w ((w.alloc (.cells #[.slice A1 n c, .slice S1 s1 d1, .float .f32 f1] 26)).alloc (.cells #[.slice A2 m d, .slice S2 s2 d2, .float .f32 f2] 26)) A1 A2 S1 S2 n c m d s1 d1 s2 d2 f1 f2 := by
  have B1 := BlkAt.new (w.alloc (.cells #[.slice A1 n c, .slice S1 s1 d1, .float .f32 f1] 26)) 26 #[.slice A2 m d, .slice S2 s2 d2, .float .f32 f2]
  rw [World.size_alloc] at B1
  exact ⟨(BlkAt.new w 26 #[.slice A1 n c, .slice S1 s1 d1, .float .f32 f1]).alloc _, B1, ((Below.refl w.heap.size w).alloc (Nat.le_refl _) _).alloc (by simp) _⟩

set_option maxRecDepth 100000 in
set_option maxHeartbeats 1000000 in
theorem texts_big (A1 A2 S1 S2 : Option Addr) (n c m d s1 d1 s2 d2 f1 f2 : Nat) (w : World) (h : 100 < n + s1 ∨ 100 < m + s2) (b1 : n ≤ 10000000000000) (b2 : s1 ≤ 10000000000000) (b3 : m ≤ 10000000000000) (b4 : s2 ≤ 10000000000000) :
    Calls Tryz.prog 3 #[.agg #[.slice A1 n c, .slice S1 s1 d1, .float .f32 f1], .agg #[.slice A2 m d, .slice S2 s2 d2, .float .f32 f2]] w (Tru1 w) := by
  have HM := Lib.hid (LwM.mk0 w A1 A2 S1 S2 n c m d s1 d1 s2 d2 f1 f2)
  have haw := awake_any ((w.alloc (.cells #[.slice A1 n c, .slice S1 s1 d1, .float .f32 f1] 26)).alloc (.cells #[.slice A2 m d, .slice S2 s2 d2, .float .f32 f2] 26))
  by_cases h1 : 100 < n + s1
  · clear h
    go_enter Tryz.func3, Tryz.ntmps3
    go_wp2_with (go_at_call 4
                 refine haw.mono ?_
                 rintro e w1 ⟨rfl, hb1⟩
                 clear haw
                 have HB := Lib.hid (HM.out.after hb1).below
                 clear hb1)
    go_ret
    exact ⟨rfl, HB.out⟩
  · have h2 : 100 < m + s2 := by omega
    clear h
    go_enter Tryz.func3, Tryz.ntmps3
    go_wp2_with (go_at_call 4
                 refine haw.mono ?_
                 rintro e w1 ⟨rfl, hb1⟩
                 clear haw
                 have HB := Lib.hid (HM.out.after hb1).below
                 clear hb1)
    go_ret
    exact ⟨rfl, HB.out⟩
end Go.Proofs.YtghjhlenkgkelaaGreatDoor
namespace Go.Proofs.YtghjhlenkgkelaaGreatDoor
open Go.RowKit Go.Shelf Go.Sort

set_option maxRecDepth 100000 in
set_option maxHeartbeats 8000000 in
theorem texts_ok (A1 A2 S1 S2 : Option Addr) (n c m d s1 d1 s2 d2 f1 f2 : Nat) (xs ys : List Edg) (sx sy : List Spt) (w : World) (h1 : n + s1 ≤ 100) (h2 : m + s2 ≤ 100) (hT : Tab10 w)
    (hA : Rd encEL 4 w A1 n xs) (hAS : Rd encSL 7 w S1 s1 sx) (hB : Rd encEL 4 w A2 m ys) (hBS : Rd encSL 7 w S2 s2 sy) (hxs : ∀ x ∈ xs, okE x) (hsx : ∀ s ∈ sx, okS s) :
    Calls Tryz.prog 3 #[.agg #[.slice A1 n c, .slice S1 s1 d1, .float .f32 f1], .agg #[.slice A2 m d, .slice S2 s2 d2, .float .f32 f2]] w (Tru1 w) := by
  have hm0 := LwM.mk0 w A1 A2 S1 S2 n c m d s1 d1 s2 d2 f1 f2
  have HM := Lib.hid hm0
  have e0 := hm0.box1.cell 0
  have e1 := hm0.box1.cell 1
  have g0 := hm0.box2.cell 0
  have g1 := hm0.box2.cell 1
  simp only [List.getElem?_toArray, List.getElem?_cons_succ, List.getElem?_cons_zero] at e0 e1 g0 g1
  have HLX := Lib.hid hA.len
  have HLY := Lib.hid hB.len
  have HLSX := Lib.hid hAS.len
  have HLSY := Lib.hid hBS.len
  have HCL : Hid ((chL xs ys).length ≤ 1000) := Lib.hid (by have := chL_len xs ys; have := hA.len; have := hB.len; omega)
  have HG1 : Hid (∀ W, Below w.heap.size w W → Calls Tryz.prog 6 #[.agg #[.slice A1 n c, .slice S1 s1 d1, .float .f32 f1]] W (GvRes W f1 xs sx)) := Lib.hid (fun W hW => gv_any A1 S1 n c s1 d1 f1 xs sx W (hA.below hW) (hAS.below hW) (by omega))
  have HG2 : Hid (∀ W, Below w.heap.size w W → Calls Tryz.prog 6 #[.agg #[.slice A2 m d, .slice S2 s2 d2, .float .f32 f2]] W (GvRes W f2 ys sy)) := Lib.hid (fun W hW => gv_any A2 S2 m d s2 d2 f2 ys sy W (hB.below hW) (hBS.below hW) (by omega))
  have HRC : Hid (∀ W, Below w.heap.size w W → Calls Tryz.prog 7 #[.agg #[.slice A1 n c, .slice S1 s1 d1, .float .f32 f1], .agg #[.slice A2 m d, .slice S2 s2 d2, .float .f32 f2]] W (EdgRes 60 W (chL xs ys) (chE xs ys))) := Lib.hid (fun W hW => rCmp_any A1 A2 S1 S2 n c m d s1 d1 s2 d2 f1 f2 xs ys W (by omega) (by omega) (hA.below hW) (hB.below hW))
  have HRT : Hid (∀ W, Below w.heap.size w W → Calls Tryz.prog 10 #[.agg #[.slice A1 n c, .slice S1 s1 d1, .float .f32 f1]] W fun e w' => e = .returned (.tuple #[.string ⟨(textL xs sx).toArray⟩, .int .i64 0]) ∧ Below W.heap.size W w') := Lib.hid (fun W hW => rText_any A1 S1 n c s1 d1 f1 xs sx W (hA.below hW) (hAS.below hW) (by omega) hxs hsx)
  have HPT : Hid (∀ W B1 B2 c1 c2 b1 b2, Below w.heap.size w W → W.ownsRow b1 52 4 (.slice B1 xs.length c1) xs.length (xs.flatMap encEL) → W.ownsRow b2 63 7 (.slice B2 sx.length c2) sx.length (sx.flatMap encSL) → Calls Tryz.prog 9 #[.agg #[.slice B1 xs.length c1, .slice B2 sx.length c2, .float .f32 f1]] W fun e w' => e = .returned (.tuple #[.string ⟨(textL xs sx).toArray⟩, .int .i64 0]) ∧ Below W.heap.size W w') :=
    Lib.hid (fun W B1 B2 c1 c2 b1 b2 hW hr hs => pText_any B1 B2 xs.length c1 sx.length c2 f1 xs sx W (hT.below hW) (rd_own (enc := encEL) (k := 4) (fun _ => rfl) hr rfl) (rd_own (enc := encSL) (k := 7) (fun _ => rfl) hs rfl) (by have := HLX.out; have := HLSX.out; omega) hxs hsx)
  have HPC : Hid (∀ W B1 B2 B3 B4 c1 c2 c3 c4 b1 b2, W.ownsRow b1 52 4 (.slice B1 xs.length c1) xs.length (xs.flatMap encEL) → W.ownsRow b2 52 4 (.slice B2 ys.length c2) ys.length (ys.flatMap encEL) → Calls Tryz.prog 5 #[.agg #[.slice B1 xs.length c1, .slice B3 sx.length c3, .float .f32 f1], .agg #[.slice B2 ys.length c2, .slice B4 sy.length c4, .float .f32 f2]] W (EdgRes 52 W (chL xs ys) (chE xs ys))) :=
    Lib.hid (fun W B1 B2 B3 B4 c1 c2 c3 c4 b1 b2 hr hs => pCmp_any B1 B2 B3 B4 xs.length c1 ys.length c2 sx.length c3 sy.length c4 f1 f2 xs ys W (by have := HLX.out; omega) (by have := HLY.out; omega) (erow_own hr rfl) (erow_own hs rfl))
  clear hT hA hAS hB hBS hxs hsx hm0
  go_enter Tryz.func3, Tryz.ntmps3
  go_wp2_with fail
  clear e0 e1 g0 g1
  generalize ((w.alloc (.cells #[.slice A1 n c, .slice S1 s1 d1, .float .f32 f1] 26)).alloc (.cells #[.slice A2 m d, .slice S2 s2 d2, .float .f32 f2] 26)) = W1 at *
  have HSA : Hid (∀ W, LwM w W A1 A2 S1 S2 n c m d s1 d1 s2 d2 f1 f2 → W.cell? ⟨w.heap.size, 0, none⟩ = some (.slice A1 n c) ∧ W.cell? ⟨w.heap.size, 1, none⟩ = some (.slice S1 s1 d1) ∧ W.cell? ⟨w.heap.size, 2, none⟩ = some (.float .f32 f1) ∧ W.cell? ⟨w.heap.size + 1, 0, none⟩ = some (.slice A2 m d) ∧ W.cell? ⟨w.heap.size + 1, 1, none⟩ = some (.slice S2 s2 d2) ∧ W.cell? ⟨w.heap.size + 1, 2, none⟩ = some (.float .f32 f2)) := Lib.hid (fun W h => ⟨h.box1.cell 0, h.box1.cell 1, h.box1.cell 2, h.box2.cell 0, h.box2.cell 1, h.box2.cell 2⟩)
  refine wp_region_held_drew (S := fun W => W.cell? ⟨w.heap.size, 0, none⟩ = some (.slice A1 n c) ∧ W.cell? ⟨w.heap.size, 1, none⟩ = some (.slice S1 s1 d1) ∧ W.cell? ⟨w.heap.size, 2, none⟩ = some (.float .f32 f1) ∧ W.cell? ⟨w.heap.size + 1, 0, none⟩ = some (.slice A2 m d) ∧ W.cell? ⟨w.heap.size + 1, 1, none⟩ = some (.slice S2 s2 d2) ∧ W.cell? ⟨w.heap.size + 1, 2, none⟩ = some (.float .f32 f2)) (by kernel_rfl) (HSA.out _ (HM.out.after (below_draw (Below.refl _ _) 1))) ?_
  intro _
  have HM2 := Lib.hid (HM.out.after (W' := W1.drewN 1) (below_draw (Below.refl _ _) 1))
  change wpAnyH _ _ _ _ _ _ _ _ (W1.drewN 1)
  clear HM
  generalize W1.drewN 1 = W2 at *
  have hHeld := HSA.out _ HM2.out
  refine take_drop 0 (v := ?_) rfl (by kernel_rfl) (by kernel_rfl) (by kernel_rfl) (fun _ _ _ h => h) (by rfl) ?_ (by assumption) ?_
  rotate_left 1
  · (intro w hSw; obtain ⟨hSw1, hSw2, hSw3, hSw4, hSw5, hSw6⟩ := hSw; go_simp; try with_reducible rfl)
  try simp only [Act.put, List.setIfInBounds_toArray, List.set_cons_zero, List.set_cons_succ]
  refine take_drop 2 (v := ?_) rfl (by kernel_rfl) (by kernel_rfl) (by kernel_rfl) (fun _ _ _ h => h) (by rfl) ?_ (by assumption) ?_
  rotate_left 1
  · (intro w hSw; obtain ⟨hSw1, hSw2, hSw3, hSw4, hSw5, hSw6⟩ := hSw; go_simp; try with_reducible rfl)
  try simp only [Act.put, List.setIfInBounds_toArray, List.set_cons_zero, List.set_cons_succ]
  refine wpAnyH_ready (rs := [1]) (by kernel_rfl) (by simp) ?_
  refine ready_drop rfl (fun K hK => ?_) AllReadyH.nil
  go_simp
  go_at_call 6
  refine (HG1.out _ HM2.out.below).mono ?_
  rintro e w3 ⟨v1, v2, rfl, hr1, hs1, hb3⟩
  obtain ⟨B1, c1, rfl, _, _, _⟩ := own_slice hr1
  obtain ⟨B3, c3, rfl, _, _, _⟩ := own_slice hs1
  have HM3 := Lib.hid (HM2.out.after hb3)
  have HR1 := Lib.hid hr1
  clear hr1 hs1 hb3
  refine hK.out _ _ (HSA.out _ HM3.out) (fun hHeld2 => ?_)
  clear hK K hHeld
  have hHeld := hHeld2
  clear hHeld2
  try simp only [Act.put, List.setIfInBounds_toArray, List.set_cons_zero, List.set_cons_succ]
  refine wpAnyH_ready (rs := [3]) (by kernel_rfl) (by simp) ?_
  refine ready_drop rfl (fun K hK => ?_) AllReadyH.nil
  go_simp
  go_at_call 6
  refine (HG2.out _ HM3.out.below).mono ?_
  rintro e w4 ⟨v1, v2, rfl, hr1, hs1, hb4⟩
  obtain ⟨B2, c2, rfl, _, _, _⟩ := own_slice hr1
  obtain ⟨B4, c4, rfl, _, _, _⟩ := own_slice hs1
  have HM4 := Lib.hid (HM3.out.after hb4)
  have hpc := HPC.out w4 B1 B2 B3 B4 c1 c2 c3 c4 _ _ (HR1.out.kept (grown_of_below (row := none) hb4) (none_or _)) hr1
  clear hr1 hs1 hb4 HR1
  refine hK.out _ _ (HSA.out _ HM4.out) (fun hHeld2 => ?_)
  clear hK K hHeld
  have hHeld := hHeld2
  clear hHeld2
  try simp only [Act.put, List.setIfInBounds_toArray, List.set_cons_zero, List.set_cons_succ]
  refine wpAnyH_ready (rs := [4]) (by kernel_rfl) (by simp) ?_
  refine ready_drop rfl (fun K hK => ?_) AllReadyH.nil
  go_simp
  go_at_call 5
  refine hpc.mono ?_
  rintro e w5 ⟨v5, rfl, hr5, hb5⟩
  obtain ⟨A5, c5, rfl, _, _, _⟩ := own_slice hr5
  have HM5 := Lib.hid (HM4.out.after hb5)
  have HR5 := Lib.hid hr5
  clear hr5 hb5 hpc
  refine hK.out _ _ (HSA.out _ HM5.out) (fun hHeld2 => ?_)
  clear hK K hHeld
  have hHeld := hHeld2
  clear hHeld2
  try simp only [Act.put, List.setIfInBounds_toArray, List.set_cons_zero, List.set_cons_succ]
  refine take_drop 5 (v := ?_) rfl (by kernel_rfl) (by kernel_rfl) (by kernel_rfl) (fun _ _ _ h => h) (by rfl) ?_ (by assumption) ?_
  rotate_left 1
  · (intro w hSw; obtain ⟨hSw1, hSw2, hSw3, hSw4, hSw5, hSw6⟩ := hSw; go_simp; try with_reducible rfl)
  try simp only [Act.put, List.setIfInBounds_toArray, List.set_cons_zero, List.set_cons_succ]
  refine take_drop 6 (v := ?_) rfl (by kernel_rfl) (by kernel_rfl) (by kernel_rfl) (fun _ _ _ h => h) (by rfl) ?_ (by assumption) ?_
  rotate_left 1
  · (intro w hSw; obtain ⟨hSw1, hSw2, hSw3, hSw4, hSw5, hSw6⟩ := hSw; go_simp; try with_reducible rfl)
  try simp only [Act.put, List.setIfInBounds_toArray, List.set_cons_zero, List.set_cons_succ]
  refine take_drop 7 (v := ?_) rfl (by kernel_rfl) (by kernel_rfl) (by kernel_rfl) (fun _ _ _ h => h) (by rfl) ?_ (by assumption) ?_
  rotate_left 1
  · (intro w hSw; obtain ⟨hSw1, hSw2, hSw3, hSw4, hSw5, hSw6⟩ := hSw; go_simp; try with_reducible rfl)
  try simp only [Act.put, List.setIfInBounds_toArray, List.set_cons_zero, List.set_cons_succ]
  refine take_drop 8 (v := ?_) rfl (by kernel_rfl) (by kernel_rfl) (by kernel_rfl) (fun _ _ _ h => h) (by rfl) ?_ (by assumption) ?_
  rotate_left 1
  · (intro w hSw; obtain ⟨hSw1, hSw2, hSw3, hSw4, hSw5, hSw6⟩ := hSw; go_simp; try with_reducible rfl)
  try simp only [Act.put, List.setIfInBounds_toArray, List.set_cons_zero, List.set_cons_succ]
  refine take_drop 9 (v := ?_) rfl (by kernel_rfl) (by kernel_rfl) (by kernel_rfl) (fun _ _ _ h => h) (by rfl) ?_ (by assumption) ?_
  rotate_left 1
  · (intro w hSw; obtain ⟨hSw1, hSw2, hSw3, hSw4, hSw5, hSw6⟩ := hSw; go_simp; try with_reducible rfl)
  try simp only [Act.put, List.setIfInBounds_toArray, List.set_cons_zero, List.set_cons_succ]
  refine wpAnyH_done (by kernel_rfl) ?_ _
  clear hHeld
  have hrc := HRC.out w5 HM5.out.below
  generalize chE xs ys = er at *
  have her : (er != er) = false := bne_self_eq_false er
  have f50 := HM5.out.box1.cell 0
  have f51 := HM5.out.box1.cell 1
  have f52 := HM5.out.box1.cell 2
  have g50 := HM5.out.box2.cell 0
  have g51 := HM5.out.box2.cell 1
  have g52 := HM5.out.box2.cell 2
  simp only [List.getElem?_toArray, List.getElem?_cons_succ, List.getElem?_cons_zero] at f50 f51 f52 g50 g51 g52
  go_wp2_with (first
    | (go_at_call 7
       refine hrc.mono ?_
       rintro e w6 ⟨v6, rfl, hr6, hb6⟩
       obtain ⟨A6, c6, rfl, _, _, _⟩ := own_slice hr6
       have HM6 := Lib.hid (HM5.out.after hb6)
       have hse := sameEdges_any A5 A6 (chL xs ys).length c5 c6 (chL xs ys) w6 _ _ (HR5.out.kept (grown_of_below (row := none) hb6) (none_or _)) hr6 (by have := HCL.out; omega)
       clear hr6 hb6 hrc)
    | (go_at_call 8
       refine hse.mono ?_
       rintro e w7 ⟨rfl, hb7⟩
       have HM7 := Lib.hid (HM6.out.after hb7)
       have hg7 := HG1.out w7 HM7.out.below
       have f70 := HM7.out.box1.cell 0
       have f71 := HM7.out.box1.cell 1
       have f72 := HM7.out.box1.cell 2
       simp only [List.getElem?_toArray, List.getElem?_cons_succ, List.getElem?_cons_zero] at f70 f71 f72
       clear hb7 hse)
    | (go_at_call 6
       refine hg7.mono ?_
       rintro e w8 ⟨v1, v2, rfl, hr8, hs8, hb8⟩
       obtain ⟨B8, c8, rfl, _, _, _⟩ := own_slice hr8
       obtain ⟨D8, d8, rfl, _, _, _⟩ := own_slice hs8
       have HM8 := Lib.hid (HM7.out.after hb8)
       have hpt := HPT.out w8 B8 D8 c8 d8 _ _ HM8.out.below hr8 hs8
       clear hr8 hs8 hb8 hg7)
    | (go_at_call 9
       refine hpt.mono ?_
       rintro e w9 ⟨rfl, hb9⟩
       have HM9 := Lib.hid (HM8.out.after hb9)
       have hrt := HRT.out w9 HM9.out.below
       have f90 := HM9.out.box1.cell 0
       have f91 := HM9.out.box1.cell 1
       have f92 := HM9.out.box1.cell 2
       simp only [List.getElem?_toArray, List.getElem?_cons_succ, List.getElem?_cons_zero] at f90 f91 f92
       clear hb9 hpt)
    | (go_at_call 10
       refine hrt.mono ?_
       rintro e w10 ⟨rfl, hb10⟩
       have HM10 := Lib.hid (HM9.out.after hb10)
       have haw := awake_any w10
       clear hb10 hrt)
    | (go_at_call 4
       refine haw.mono ?_
       rintro e w11 ⟨rfl, hb11⟩
       have HM11 := Lib.hid (HM10.out.after hb11)
       clear hb11 haw))
  go_ret
  exact ⟨rfl, HM11.out.below⟩
theorem texts_walk (A1 A2 S1 S2 : Option Addr) (n c m d s1 d1 s2 d2 f1 f2 : Nat) (xs ys : List Edg) (sx sy : List Spt) (w : World) (b1 : n ≤ 10000000000000) (b2 : s1 ≤ 10000000000000) (b3 : m ≤ 10000000000000) (b4 : s2 ≤ 10000000000000) (hT : Tab10 w)
    (hA : Rd encEL 4 w A1 n xs) (hAS : Rd encSL 7 w S1 s1 sx) (hB : Rd encEL 4 w A2 m ys) (hBS : Rd encSL 7 w S2 s2 sy) (hxs : ∀ x ∈ xs, okE x) (hsx : ∀ s ∈ sx, okS s) :
    Calls Tryz.prog 3 #[.agg #[.slice A1 n c, .slice S1 s1 d1, .float .f32 f1], .agg #[.slice A2 m d, .slice S2 s2 d2, .float .f32 f2]] w (Tru1 w) := by
  by_cases h1 : n + s1 ≤ 100
  · by_cases h2 : m + s2 ≤ 100
    · exact texts_ok A1 A2 S1 S2 n c m d s1 d1 s2 d2 f1 f2 xs ys sx sy w h1 h2 hT hA hAS hB hBS hxs hsx
    · exact texts_big A1 A2 S1 S2 n c m d s1 d1 s2 d2 f1 f2 w (.inr (by omega)) b1 b2 b3 b4
  · exact texts_big A1 A2 S1 S2 n c m d s1 d1 s2 d2 f1 f2 w (.inl (by omega)) b1 b2 b3 b4
end Go.Proofs.YtghjhlenkgkelaaGreatDoor
