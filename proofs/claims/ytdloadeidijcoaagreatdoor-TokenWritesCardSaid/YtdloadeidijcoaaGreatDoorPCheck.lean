/- DERIVED. The program's Check. -/
import Derived.Test.YtdloadeidijcoaaGreatDoorName
set_option linter.unusedSimpArgs false
set_option linter.unusedVariables false
namespace Go.Proofs.YtdloadeidijcoaaGreatDoor
open Go.RowKit Go.Shelf

def chkI (x : Tok) : Int := if rightB x then 0 else 2
set_option maxRecDepth 100000 in
set_option maxHeartbeats 4000000 in
theorem check1 (s : List UInt8) (v a : Int) (w : World) (hs : s.length ≤ 1000000) (hV : Vars w) : Calls Tryz.prog 8 #[encT ⟨1, s, v, a⟩] w fun e w' => e = .returned (.int .i64 (if rightB ⟨1, s, v, a⟩ then 0 else 2)) ∧ Below w.heap.size w w' := by
  have HV := Lib.hid hV
  have HB1 := Lib.hid ((Below.refl w.heap.size w).alloc (Nat.le_refl _) (.cells #[.int .i64 1, .string ⟨s.toArray⟩, .int .i64 v, .int .i64 a] PT))
  have HT1 := Lib.hid (BlkAt.new w PT #[.int .i64 1, .string ⟨s.toArray⟩, .int .i64 v, .int .i64 a])
  have HV1 := Lib.hid (hV.below ((Below.refl w.heap.size w).alloc (Nat.le_refl _) (.cells #[.int .i64 1, .string ⟨s.toArray⟩, .int .i64 v, .int .i64 a] PT)))
  have HR : Hid ((if rightB ⟨1, s, v, a⟩ then (0 : Int) else 2) = (if (nameB s && !decide (a < 0) && (decide ((1 : Int) = 3) || !(v != 0))) = true then 0 else 2)) := Lib.hid (by
    rw [show rightB ⟨1, s, v, a⟩ = (nameB s && !decide (a < 0) && (decide ((1 : Int) = 3) || !(v != 0))) by
      rw [show decide (a < 0) = !decide (0 ≤ a) by by_cases h : 0 ≤ a <;> simp [h] <;> omega, show (v != 0) = !decide (v = 0) by by_cases h : v = 0 <;> simp [h]]
      simp [rightB]])
  generalize (if rightB ⟨1, s, v, a⟩ then (0 : Int) else 2) = R at *
  generalize hA : decide (a < 0) = A at *
  generalize hW : (v != 0) = VB at *
  clear hV
  unfold encT strV
  have hn := isName_any s _ hs HV1.out
  generalize nameB s = NB at *
  unfold strV at hn
  cases NB <;> cases A <;> cases VB <;>
  · go_enter Tryz.func8, Tryz.ntmps8
    go_wp2_with (go_at_call 18
                 refine hn.mono ?_
                 rintro e w2 ⟨rfl, hb2⟩
                 have HB2 := Lib.hid (HB1.out.trans (hb2.mono HB1.out.size))
                 have HT2 := Lib.hid (HT1.out.below hb2 HT1.out.lt)
                 clear hn hb2
                 have hb0 := HT2.out.cell 0
                 have hb1 := HT2.out.cell 1
                 have hb2 := HT2.out.cell 2
                 have hb3 := HT2.out.cell 3
                 simp only [List.getElem?_toArray, List.getElem?_cons_succ, List.getElem?_cons_zero] at hb0 hb1 hb2 hb3
                 skip)
    go_ret
    exact ⟨ret_int (by rw [HR.out]; rfl), HB2.out⟩
set_option maxRecDepth 100000 in
set_option maxHeartbeats 4000000 in
theorem check2 (s : List UInt8) (v a : Int) (w : World) (hs : s.length ≤ 1000000) (hV : Vars w) : Calls Tryz.prog 8 #[encT ⟨2, s, v, a⟩] w fun e w' => e = .returned (.int .i64 (if rightB ⟨2, s, v, a⟩ then 0 else 2)) ∧ Below w.heap.size w w' := by
  have HV := Lib.hid hV
  have HB1 := Lib.hid ((Below.refl w.heap.size w).alloc (Nat.le_refl _) (.cells #[.int .i64 2, .string ⟨s.toArray⟩, .int .i64 v, .int .i64 a] PT))
  have HT1 := Lib.hid (BlkAt.new w PT #[.int .i64 2, .string ⟨s.toArray⟩, .int .i64 v, .int .i64 a])
  have HV1 := Lib.hid (hV.below ((Below.refl w.heap.size w).alloc (Nat.le_refl _) (.cells #[.int .i64 2, .string ⟨s.toArray⟩, .int .i64 v, .int .i64 a] PT)))
  have HR : Hid ((if rightB ⟨2, s, v, a⟩ then (0 : Int) else 2) = (if (decide (s ∈ keyL) && !decide (a < 0) && (decide ((2 : Int) = 3) || !(v != 0))) = true then 0 else 2)) := Lib.hid (by
    rw [show rightB ⟨2, s, v, a⟩ = (decide (s ∈ keyL) && !decide (a < 0) && (decide ((2 : Int) = 3) || !(v != 0))) by
      rw [show decide (a < 0) = !decide (0 ≤ a) by by_cases h : 0 ≤ a <;> simp [h] <;> omega, show (v != 0) = !decide (v = 0) by by_cases h : v = 0 <;> simp [h]]
      simp [rightB]])
  generalize (if rightB ⟨2, s, v, a⟩ then (0 : Int) else 2) = R at *
  generalize hA : decide (a < 0) = A at *
  generalize hW : (v != 0) = VB at *
  clear hV
  unfold encT strV
  go_enter Tryz.func8, Tryz.ntmps8
  go_wp2_with fail
  generalize hW1 : (w.alloc (.cells #[.int .i64 2, .string ⟨s.toArray⟩, .int .i64 v, .int .i64 a] PT)) = W1 at *
  clear hW1
  refine wp_region_held_drew (S := fun w' => w'.cell? ⟨w.heap.size, 1, none⟩ = some (.string ⟨s.toArray⟩)) (by kernel_rfl) (HT1.out.cell 1) ?_
  intro _
  have HB2 := Lib.hid (below_draw HB1.out 1)
  have HT2 : Hid (BlkAt (W1.drewN 1) w.heap.size PT #[.int .i64 2, .string ⟨s.toArray⟩, .int .i64 v, .int .i64 a]) := Lib.hid HT1.out
  have HV2 := Lib.hid (HV1.out.below (below_draw (Below.refl _ _) 1))
  change wpAnyH _ _ _ _ _ _ _ _ (W1.drewN 1)
  generalize W1.drewN 1 = W2 at *
  have hHeld := HT2.out.cell 1
  simp only [List.getElem?_toArray, List.getElem?_cons_succ, List.getElem?_cons_zero] at hHeld
  refine take_drop 1 (v := ?_) rfl (by kernel_rfl) (by kernel_rfl) (by kernel_rfl) (fun _ _ _ h => h) (by rfl) ?_ (by assumption) ?_
  rotate_left 1
  · (intro w hSw; (try dsimp only at hSw); go_simp; try with_reducible rfl)
  try simp only [Act.put, List.setIfInBounds_toArray, List.set_cons_zero, List.set_cons_succ]
  refine take_drop 2 (v := ?_) rfl (by kernel_rfl) (by kernel_rfl) (by kernel_rfl) (fun _ _ _ h => h) (by rfl) ?_ (by assumption) ?_
  rotate_left 1
  · (intro w hSw; (try dsimp only at hSw); go_simp; try with_reducible rfl)
  try simp only [Act.put, List.setIfInBounds_toArray, List.set_cons_zero, List.set_cons_succ]
  refine wpAnyH_ready (rs := [0]) (by kernel_rfl) (by simp) ?_
  refine ready_drop rfl (fun K hK => ?_) AllReadyH.nil
  go_simp
  go_at_call 20
  refine (keys_at W2 HV2.out).mono ?_
  rintro e w3 ⟨b, rfl, hs3, hb3⟩
  have HS3 := Lib.hid hs3
  have HB3 := Lib.hid (HB2.out.trans (hb3.mono HB2.out.size))
  have HT3 := Lib.hid (HT2.out.below hb3 HT2.out.lt)
  clear hs3 hb3
  refine hK.out _ _ (HT3.out.cell 1) (fun hHeld2 => ?_)
  clear hK hHeld
  have hHeld := hHeld2
  clear hHeld2
  try simp only [List.getElem?_toArray, List.getElem?_cons_succ, List.getElem?_cons_zero] at hHeld
  try simp only [Act.put, List.setIfInBounds_toArray, List.set_cons_zero, List.set_cons_succ]
  refine wpAnyH_ready (rs := [3]) (by kernel_rfl) (by simp) ?_
  refine ready_drop rfl (fun K hK => ?_) AllReadyH.nil
  go_simp
  go_at_call 19
  refine (contains_any b 0 52 52 _ s w3 HS3.out (by omega)).mono ?_
  rintro e w4 ⟨rfl, rfl⟩
  refine hK.out _ _ (HT3.out.cell 1) (fun hHeld2 => ?_)
  clear hK hHeld hHeld2
  try simp only [Act.put, List.setIfInBounds_toArray, List.set_cons_zero, List.set_cons_succ]
  refine take_drop 4 (v := ?_) rfl (by kernel_rfl) (by kernel_rfl) (by kernel_rfl) (fun _ _ _ h => h) (by rfl) ?_ (HT3.out.cell 1) ?_
  rotate_left 1
  · (intro w hSw; go_simp; try with_reducible rfl)
  try simp only [Act.put, List.setIfInBounds_toArray, List.set_cons_zero, List.set_cons_succ]
  refine wpAnyH_done (by kernel_rfl) ?_ _
  have hb0 := HT3.out.cell 0
  have hb1 := HT3.out.cell 1
  have hb2 := HT3.out.cell 2
  have hb3 := HT3.out.cell 3
  simp only [List.getElem?_toArray, List.getElem?_cons_succ, List.getElem?_cons_zero] at hb0 hb1 hb2 hb3
  generalize decide (s ∈ keyL) = NB at *
  cases NB <;> cases A <;> cases VB <;>
  · go_wp2
    go_ret
    exact ⟨ret_int (by rw [HR.out]; rfl), HB3.out⟩
set_option maxRecDepth 100000 in
set_option maxHeartbeats 4000000 in
theorem check5 (s : List UInt8) (v a : Int) (w : World) (hs : s.length ≤ 1000000) (hV : Vars w) : Calls Tryz.prog 8 #[encT ⟨5, s, v, a⟩] w fun e w' => e = .returned (.int .i64 (if rightB ⟨5, s, v, a⟩ then 0 else 2)) ∧ Below w.heap.size w w' := by
  have HV := Lib.hid hV
  have HB1 := Lib.hid ((Below.refl w.heap.size w).alloc (Nat.le_refl _) (.cells #[.int .i64 5, .string ⟨s.toArray⟩, .int .i64 v, .int .i64 a] PT))
  have HT1 := Lib.hid (BlkAt.new w PT #[.int .i64 5, .string ⟨s.toArray⟩, .int .i64 v, .int .i64 a])
  have HV1 := Lib.hid (hV.below ((Below.refl w.heap.size w).alloc (Nat.le_refl _) (.cells #[.int .i64 5, .string ⟨s.toArray⟩, .int .i64 v, .int .i64 a] PT)))
  have HR : Hid ((if rightB ⟨5, s, v, a⟩ then (0 : Int) else 2) = (if (decide (s ∈ signL) && !decide (a < 0) && (decide ((5 : Int) = 3) || !(v != 0))) = true then 0 else 2)) := Lib.hid (by
    rw [show rightB ⟨5, s, v, a⟩ = (decide (s ∈ signL) && !decide (a < 0) && (decide ((5 : Int) = 3) || !(v != 0))) by
      rw [show decide (a < 0) = !decide (0 ≤ a) by by_cases h : 0 ≤ a <;> simp [h] <;> omega, show (v != 0) = !decide (v = 0) by by_cases h : v = 0 <;> simp [h]]
      simp [rightB]])
  generalize (if rightB ⟨5, s, v, a⟩ then (0 : Int) else 2) = R at *
  generalize hA : decide (a < 0) = A at *
  generalize hW : (v != 0) = VB at *
  clear hV
  unfold encT strV
  go_enter Tryz.func8, Tryz.ntmps8
  go_wp2_with fail
  generalize hW1 : (w.alloc (.cells #[.int .i64 5, .string ⟨s.toArray⟩, .int .i64 v, .int .i64 a] PT)) = W1 at *
  clear hW1
  refine wp_region_held_drew (S := fun w' => w'.cell? ⟨w.heap.size, 1, none⟩ = some (.string ⟨s.toArray⟩)) (by kernel_rfl) (HT1.out.cell 1) ?_
  intro _
  have HB2 := Lib.hid (below_draw HB1.out 1)
  have HT2 : Hid (BlkAt (W1.drewN 1) w.heap.size PT #[.int .i64 5, .string ⟨s.toArray⟩, .int .i64 v, .int .i64 a]) := Lib.hid HT1.out
  have HV2 := Lib.hid (HV1.out.below (below_draw (Below.refl _ _) 1))
  change wpAnyH _ _ _ _ _ _ _ _ (W1.drewN 1)
  generalize W1.drewN 1 = W2 at *
  have hHeld := HT2.out.cell 1
  simp only [List.getElem?_toArray, List.getElem?_cons_succ, List.getElem?_cons_zero] at hHeld
  refine take_drop 1 (v := ?_) rfl (by kernel_rfl) (by kernel_rfl) (by kernel_rfl) (fun _ _ _ h => h) (by rfl) ?_ (by assumption) ?_
  rotate_left 1
  · (intro w hSw; (try dsimp only at hSw); go_simp; try with_reducible rfl)
  try simp only [Act.put, List.setIfInBounds_toArray, List.set_cons_zero, List.set_cons_succ]
  refine take_drop 2 (v := ?_) rfl (by kernel_rfl) (by kernel_rfl) (by kernel_rfl) (fun _ _ _ h => h) (by rfl) ?_ (by assumption) ?_
  rotate_left 1
  · (intro w hSw; (try dsimp only at hSw); go_simp; try with_reducible rfl)
  try simp only [Act.put, List.setIfInBounds_toArray, List.set_cons_zero, List.set_cons_succ]
  refine wpAnyH_ready (rs := [0]) (by kernel_rfl) (by simp) ?_
  refine ready_drop rfl (fun K hK => ?_) AllReadyH.nil
  go_simp
  go_at_call 22
  refine (signs_at W2 HV2.out).mono ?_
  rintro e w3 ⟨b, rfl, hs3, hb3⟩
  have HS3 := Lib.hid hs3
  have HB3 := Lib.hid (HB2.out.trans (hb3.mono HB2.out.size))
  have HT3 := Lib.hid (HT2.out.below hb3 HT2.out.lt)
  clear hs3 hb3
  refine hK.out _ _ (HT3.out.cell 1) (fun hHeld2 => ?_)
  clear hK hHeld
  have hHeld := hHeld2
  clear hHeld2
  try simp only [List.getElem?_toArray, List.getElem?_cons_succ, List.getElem?_cons_zero] at hHeld
  try simp only [Act.put, List.setIfInBounds_toArray, List.set_cons_zero, List.set_cons_succ]
  refine wpAnyH_ready (rs := [3]) (by kernel_rfl) (by simp) ?_
  refine ready_drop rfl (fun K hK => ?_) AllReadyH.nil
  go_simp
  go_at_call 19
  refine (contains_any b 0 31 31 _ s w3 HS3.out (by omega)).mono ?_
  rintro e w4 ⟨rfl, rfl⟩
  refine hK.out _ _ (HT3.out.cell 1) (fun hHeld2 => ?_)
  clear hK hHeld hHeld2
  try simp only [Act.put, List.setIfInBounds_toArray, List.set_cons_zero, List.set_cons_succ]
  refine take_drop 4 (v := ?_) rfl (by kernel_rfl) (by kernel_rfl) (by kernel_rfl) (fun _ _ _ h => h) (by rfl) ?_ (HT3.out.cell 1) ?_
  rotate_left 1
  · (intro w hSw; go_simp; try with_reducible rfl)
  try simp only [Act.put, List.setIfInBounds_toArray, List.set_cons_zero, List.set_cons_succ]
  refine wpAnyH_done (by kernel_rfl) ?_ _
  have hb0 := HT3.out.cell 0
  have hb1 := HT3.out.cell 1
  have hb2 := HT3.out.cell 2
  have hb3 := HT3.out.cell 3
  simp only [List.getElem?_toArray, List.getElem?_cons_succ, List.getElem?_cons_zero] at hb0 hb1 hb2 hb3
  generalize decide (s ∈ signL) = NB at *
  cases NB <;> cases A <;> cases VB <;>
  · go_wp2
    go_ret
    exact ⟨ret_int (by rw [HR.out]; rfl), HB3.out⟩
set_option maxRecDepth 100000 in
set_option maxHeartbeats 4000000 in
theorem check3 (s : List UInt8) (v a : Int) (w : World) (hs : s.length ≤ 1000000) (hV : Vars w) : Calls Tryz.prog 8 #[encT ⟨3, s, v, a⟩] w fun e w' => e = .returned (.int .i64 (if rightB ⟨3, s, v, a⟩ then 0 else 2)) ∧ Below w.heap.size w w' := by
  have HV := Lib.hid hV
  have HB1 := Lib.hid ((Below.refl w.heap.size w).alloc (Nat.le_refl _) (.cells #[.int .i64 3, .string ⟨s.toArray⟩, .int .i64 v, .int .i64 a] PT))
  have HT1 := Lib.hid (BlkAt.new w PT #[.int .i64 3, .string ⟨s.toArray⟩, .int .i64 v, .int .i64 a])
  have HV1 := Lib.hid (hV.below ((Below.refl w.heap.size w).alloc (Nat.le_refl _) (.cells #[.int .i64 3, .string ⟨s.toArray⟩, .int .i64 v, .int .i64 a] PT)))
  have HR : Hid ((if rightB ⟨3, s, v, a⟩ then (0 : Int) else 2) = (if (decide (numL s = some v) && !decide (a < 0) && (decide ((3 : Int) = 3) || !(v != 0))) = true then 0 else 2)) := Lib.hid (by
    rw [show rightB ⟨3, s, v, a⟩ = (decide (numL s = some v) && !decide (a < 0) && (decide ((3 : Int) = 3) || !(v != 0))) by
      rw [show decide (a < 0) = !decide (0 ≤ a) by by_cases h : 0 ≤ a <;> simp [h] <;> omega, show (v != 0) = !decide (v = 0) by by_cases h : v = 0 <;> simp [h]]
      simp [rightB]])
  generalize (if rightB ⟨3, s, v, a⟩ then (0 : Int) else 2) = R at *
  generalize hA : decide (a < 0) = A at *
  generalize hW : (v != 0) = VB at *
  clear hV
  unfold encT strV
  clear hW
  have hn := value_any s _ hs HV1.out
  unfold strV at hn
  have HNR : Hid (∀ e, NumRes s e → ∃ u, e = .returned (.tuple #[.int .i64 u, .bool (numL s).isSome]) ∧ ((numL s).isSome && (u == v)) = decide (numL s = some v)) := Lib.hid (fun e h => by
    obtain ⟨u, he, hu⟩ := h
    refine ⟨u, he, ?_⟩
    cases hh : numL s with
    | none => rfl
    | some n => rw [hu n hh]; simp only [Option.isSome_some, Bool.true_and, Option.some.injEq]; rfl)
  generalize (numL s).isSome = IS at *
  generalize decide (numL s = some v) = NB at *
  cases IS <;> cases NB <;> cases A <;>
  · go_enter Tryz.func8, Tryz.ntmps8
    go_wp2_with (go_at_call 21
                 refine hn.mono ?_
                 rintro e w2 ⟨hr, hb2⟩
                 obtain ⟨u, rfl, hu⟩ := HNR.out e hr
                 simp only [Bool.false_and, Bool.true_and] at hu
                 have HB2 := Lib.hid (HB1.out.trans (hb2.mono HB1.out.size))
                 have HT2 := Lib.hid (HT1.out.below hb2 HT1.out.lt)
                 clear hn hb2 hr
                 have hb0 := HT2.out.cell 0
                 have hb1 := HT2.out.cell 1
                 have hb2 := HT2.out.cell 2
                 have hb3 := HT2.out.cell 3
                 simp only [List.getElem?_toArray, List.getElem?_cons_succ, List.getElem?_cons_zero] at hb0 hb1 hb2 hb3
                 skip)
    all_goals first
      | (go_ret; exact ⟨ret_int (by rw [HR.out]; rfl), HB2.out⟩)
      | (exfalso; simp at hu)
set_option maxRecDepth 100000 in
set_option maxHeartbeats 4000000 in
theorem check4 (s : List UInt8) (v a : Int) (w : World) (hs : s.length ≤ 1000000) (hV : Vars w) : Calls Tryz.prog 8 #[encT ⟨4, s, v, a⟩] w fun e w' => e = .returned (.int .i64 (if rightB ⟨4, s, v, a⟩ then 0 else 2)) ∧ Below w.heap.size w w' := by
  have HV := Lib.hid hV
  have HB1 := Lib.hid ((Below.refl w.heap.size w).alloc (Nat.le_refl _) (.cells #[.int .i64 4, .string ⟨s.toArray⟩, .int .i64 v, .int .i64 a] PT))
  have HT1 := Lib.hid (BlkAt.new w PT #[.int .i64 4, .string ⟨s.toArray⟩, .int .i64 v, .int .i64 a])
  have HV1 := Lib.hid (hV.below ((Below.refl w.heap.size w).alloc (Nat.le_refl _) (.cells #[.int .i64 4, .string ⟨s.toArray⟩, .int .i64 v, .int .i64 a] PT)))
  have HR : Hid ((if rightB ⟨4, s, v, a⟩ then (0 : Int) else 2) = (if (true && !decide (a < 0) && (decide ((4 : Int) = 3) || !(v != 0))) = true then 0 else 2)) := Lib.hid (by
    rw [show rightB ⟨4, s, v, a⟩ = (true && !decide (a < 0) && (decide ((4 : Int) = 3) || !(v != 0))) by
      rw [show decide (a < 0) = !decide (0 ≤ a) by by_cases h : 0 ≤ a <;> simp [h] <;> omega, show (v != 0) = !decide (v = 0) by by_cases h : v = 0 <;> simp [h]]
      simp [rightB]])
  generalize (if rightB ⟨4, s, v, a⟩ then (0 : Int) else 2) = R at *
  generalize hA : decide (a < 0) = A at *
  generalize hW : (v != 0) = VB at *
  clear hV
  unfold encT strV
  cases A <;> cases VB <;>
  · go_enter Tryz.func8, Tryz.ntmps8
    go_wp2
    go_ret
    exact ⟨ret_int (by rw [HR.out]; rfl), HB1.out⟩
set_option maxRecDepth 100000 in
set_option maxHeartbeats 4000000 in
theorem check0 (k : Int) (s : List UInt8) (v a : Int) (w : World) (hk : k ≠ 1 ∧ k ≠ 2 ∧ k ≠ 3 ∧ k ≠ 4 ∧ k ≠ 5) : Calls Tryz.prog 8 #[encT ⟨k, s, v, a⟩] w fun e w' => e = .returned (.int .i64 (if rightB ⟨k, s, v, a⟩ then 0 else 2)) ∧ Below w.heap.size w w' := by
  obtain ⟨k1, k2, k3, k4, k5⟩ := hk
  have HR : Hid ((if rightB ⟨k, s, v, a⟩ then (0 : Int) else 2) = 2) := Lib.hid (by simp [rightB, k1, k2, k3, k4, k5])
  have f1 : (k == 1) = false := beq_eq_false_iff_ne.2 k1
  have f2 : (k == 2) = false := beq_eq_false_iff_ne.2 k2
  have f3 : (k == 3) = false := beq_eq_false_iff_ne.2 k3
  have f4 : (k == 4) = false := beq_eq_false_iff_ne.2 k4
  have f5 : (k == 5) = false := beq_eq_false_iff_ne.2 k5
  have HB1 := Lib.hid ((Below.refl w.heap.size w).alloc (Nat.le_refl _) (.cells #[.int .i64 k, .string ⟨s.toArray⟩, .int .i64 v, .int .i64 a] PT))
  generalize (if rightB ⟨k, s, v, a⟩ then (0 : Int) else 2) = R at *
  clear k1 k2 k3 k4 k5
  unfold encT strV
  go_enter Tryz.func8, Tryz.ntmps8
  go_wp2
  go_ret
  exact ⟨ret_int (by rw [HR.out]), HB1.out⟩
theorem check_any (x : Tok) (w : World) (hs : x.text.length ≤ 1000000) (hV : Vars w) : Calls Tryz.prog 8 #[encT x] w fun e w' => e = .returned (.int .i64 (chkI x)) ∧ Below w.heap.size w w' := by
  obtain ⟨k, s, v, a⟩ := x
  unfold chkI
  by_cases h1 : k = 1
  · subst h1; exact check1 s v a w hs hV
  by_cases h2 : k = 2
  · subst h2; exact check2 s v a w hs hV
  by_cases h3 : k = 3
  · subst h3; exact check3 s v a w hs hV
  by_cases h4 : k = 4
  · subst h4; exact check4 s v a w hs hV
  by_cases h5 : k = 5
  · subst h5; exact check5 s v a w hs hV
  exact check0 k s v a w ⟨h1, h2, h3, h4, h5⟩
end Go.Proofs.YtdloadeidijcoaaGreatDoor
