/- DERIVED. strings.ContainsRune of the white bytes, at any byte. -/
import Derived.Test.YtdloadeidijcoaaGreatDoorPHex2
import Derived.Test.YtdloadeidijcoaaGreatDoorRTxt
import Derived.WalkMore
import Derived.Test.YtdloadeidijcoaaGreatDoorHeld
set_option linter.unusedSimpArgs false
set_option linter.unusedVariables false
namespace Go.Proofs.YtdloadeidijcoaaGreatDoor
open Go.RowKit Go.Shelf

theorem enc_two (c : UInt8) (h : 128 ≤ c.toNat) : ∃ b1 b2 : UInt8, Utf8.encode (c.toNat : Int) = ⟨#[b1, b2]⟩ ∧ 128 ≤ b2.toNat := by
  have h1 : (Utf8.encode (c.toNat : Int)).data.size = 2 ∧ 128 ≤ ((Utf8.encode (c.toNat : Int)).data.toList.getD 1 0).toNat := by
    have := u8_all (p := fun c => 128 ≤ c.toNat → (Utf8.encode (c.toNat : Int)).data.size = 2 ∧ 128 ≤ ((Utf8.encode (c.toNat : Int)).data.toList.getD 1 0).toNat) (by decide +kernel) c
    exact this h
  generalize Utf8.encode (c.toNat : Int) = E at *
  obtain ⟨⟨l⟩⟩ := E
  obtain ⟨h2, h3⟩ := h1
  match l, h2, h3 with
  | [b1, b2], _, h3 => exact ⟨b1, b2, rfl, by simpa using h3⟩
theorem valid_high (c : UInt8) : Lib.validRune (c.toNat : Int) = true := by
  have := u8_all (p := fun c => Lib.validRune (c.toNat : Int) = true) (by decide +kernel) c
  exact this
theorem idx_two (b : UInt8) (h : 128 ≤ b.toNat) : Lib.indexByte [10, 13] b = -1 := by
  have := u8_all (p := fun b => 128 ≤ b.toNat → Lib.indexByte [10, 13] b = -1) (by decide +kernel) b
  exact this h
theorem idx_white (c : UInt8) : decide (0 ≤ Lib.indexByte [32, 9, 10, 13] c) = whiteB c := by
  have := u8_all (p := fun c => decide (0 ≤ Lib.indexByte [32, 9, 10, 13] c) = whiteB c) (by decide +kernel) c
  exact this
theorem white_high (c : UInt8) (h : 128 ≤ c.toNat) : whiteB c = false := by
  have := u8_all (p := fun c => 128 ≤ c.toNat → whiteB c = false) (by decide +kernel) c
  exact this h
set_option maxRecDepth 100000 in
set_option maxHeartbeats 8000000 in
theorem rune_high (c : UInt8) (w : World) (h : 128 ≤ c.toNat) : Calls Tryz.prog 75 #[.string ⟨#[32, 9, 10, 13]⟩, .int .i32 (c.toNat : Int)] w fun e w' => e = .returned (.int .i64 (-1)) ∧ Below w.heap.size w w' := by
  obtain ⟨b1, b2, henc, hb2⟩ := enc_two c h
  have hv := Tryz.utf8_ValidRune (c.toNat : Int) w
  rw [valid_high] at hv
  have f0 : decide ((c.toNat : Int) < 128) = false := decide_eq_false (by omega)
  have f1 : ((c.toNat : Int) == 65533) = false := beq_eq_false_iff_ne.2 (by have := c.toNat_lt; omega)
  have hc0 : (0 : Int) ≤ (c.toNat : Int) := by omega
  have f2 : ((9 : Int) != (b2.toNat : Int)) = true := bne_iff_ne.2 (by omega)
  have HI : Hid (∀ W, Calls Tryz.prog 85 #[.string ⟨#[10, 13]⟩, .int .u8 (b2.toNat : Int)] W fun e w' => e = .returned (.int .i64 (-1)) ∧ w' = W) := Lib.hid (fun W => by
    have := idx_any [10, 13] b2 W
    rw [idx_two b2 hb2] at this
    exact this.mono fun e w' h => ⟨h.1, h.2.symm⟩)
  obtain ⟨S, hS⟩ : ∃ S : ByteArray, S = ⟨#[32, 9, 10, 13]⟩ := ⟨_, rfl⟩
  have hext : S.extract 2 4 = ⟨#[10, 13]⟩ := by rw [hS]; decide
  have hsz : S.size = 4 := by rw [hS]; rfl
  have hix : ∀ h', S[1]'h' = 9 := by subst hS; intro _; rfl
  have hi2 : ∀ h', (⟨#[b1, b2]⟩ : ByteArray)[1]'h' = b2 := fun _ => rfl
  have hw2 : IntKind.i64.wrap 2 = 2 := by decide
  have hw3 : IntKind.i64.wrap (1 + 1) = 2 := by decide
  rw [← hS]
  clear hS
  generalize (c.toNat : Int) = r at *
  have HB := Lib.hid (Below.refl w.heap.size w)
  go_enter Tryz.func75, Tryz.ntmps75
  go_wp2_with (go_at_call 86; refine hv.mono ?_; rintro e w' ⟨rfl, rfl⟩)
  go_step3
  go_wp2
  go_loop [9, 10] (fun vi vf => vi = .int .i64 1 ∧ vf = .int .i64 0) (fun _ _ => 0)
  case atStart => exact ⟨rfl, rfl⟩
  case round =>
    obtain ⟨rfl, rfl⟩ := hrel
    go_wp2_with fail
    go_step3
    go_wp2_with fail
    go_region
    go_wp2_with fail
    refine wp_region_held_drew (S := fun _ => True) (by kernel_rfl) trivial ?_
    intro _
    refine take_drop 0 (v := ?_) rfl (by kernel_rfl) (by kernel_rfl) (by kernel_rfl) (fun _ _ _ h => h) (by rfl) ?_ (by assumption) ?_
    rotate_left 1
    · (intro w hSw; (try dsimp only at hSw); go_simp; try with_reducible rfl)
    try simp only [Act.put, List.setIfInBounds_toArray, List.set_cons_zero, List.set_cons_succ]
    refine take_drop 1 (v := ?_) rfl (by kernel_rfl) (by kernel_rfl) (by kernel_rfl) (fun _ _ _ h => h) (by rfl) ?_ (by assumption) ?_
    rotate_left 1
    · (intro w hSw; (try dsimp only at hSw); go_simp; try with_reducible rfl)
    try simp only [Act.put, List.setIfInBounds_toArray, List.set_cons_zero, List.set_cons_succ]
    refine take_drop 2 (v := ?_) rfl (by kernel_rfl) (by kernel_rfl) (by kernel_rfl) (fun _ _ _ h => h) (by rfl) ?_ (by assumption) ?_
    rotate_left 1
    · (intro w hSw; (try dsimp only at hSw); go_simp; try with_reducible rfl)
    try simp only [Act.put, List.setIfInBounds_toArray, List.set_cons_zero, List.set_cons_succ]
    refine take_drop 3 (v := ?_) rfl (by kernel_rfl) (by kernel_rfl) (by kernel_rfl) (fun _ _ _ h => h) (by rfl) ?_ (by assumption) ?_
    rotate_left 1
    · (intro w hSw; (try dsimp only at hSw); go_simp; try with_reducible rfl)
    try simp only [Act.put, List.setIfInBounds_toArray, List.set_cons_zero, List.set_cons_succ]
    refine take_drop 4 (v := ?_) rfl (by kernel_rfl) (by kernel_rfl) (by kernel_rfl) (fun _ _ _ h => h) (by rfl) ?_ (by assumption) ?_
    rotate_left 1
    · (intro w hSw; (try dsimp only at hSw); go_simp; try with_reducible rfl)
    try simp only [Act.put, List.setIfInBounds_toArray, List.set_cons_zero, List.set_cons_succ]
    refine take_drop 5 (v := ?_) rfl (by kernel_rfl) (by kernel_rfl) (by kernel_rfl) (fun _ _ _ h => h) (by rfl) ?_ (by assumption) ?_
    rotate_left 1
    · (intro w hSw; (try dsimp only at hSw); go_simp; try with_reducible rfl)
    try simp only [Act.put, List.setIfInBounds_toArray, List.set_cons_zero, List.set_cons_succ]
    refine take_drop 6 (v := ?_) rfl (by kernel_rfl) (by kernel_rfl) (by kernel_rfl) (fun _ _ _ h => h) (by rfl) ?_ (by assumption) ?_
    rotate_left 1
    · (intro w hSw; (try dsimp only at hSw); go_simp; try with_reducible rfl)
    try simp only [Act.put, List.setIfInBounds_toArray, List.set_cons_zero, List.set_cons_succ]
    refine wpAnyH_ready (rs := [7]) (by kernel_rfl) (by simp) ?_
    refine ready_drop rfl (fun K hK => ?_) AllReadyH.nil
    go_simp
    go_at_call 85
    refine (HI.out _).mono ?_
    rintro e w9 ⟨rfl, rfl⟩
    refine hK.out _ _ trivial (fun _ => ?_)
    clear hK
    try simp only [Act.put, List.setIfInBounds_toArray, List.set_cons_zero, List.set_cons_succ]
    refine take_drop 8 (v := ?_) rfl (by kernel_rfl) (by kernel_rfl) (by kernel_rfl) (fun _ _ _ h => h) (by rfl) ?_ (by assumption) ?_
    rotate_left 1
    · (intro w hSw; (try dsimp only at hSw); go_simp; try with_reducible rfl)
    try simp only [Act.put, List.setIfInBounds_toArray, List.set_cons_zero, List.set_cons_succ]
    refine wpAnyH_done (by kernel_rfl) ?_ _
    go_wp2_with fail
    simp (config := { zetaDelta := true }) only [Exit.then, Exit.inBlock, Exit.noGoto_ret]
    go_ret
    exact ⟨rfl, below_draw (below_draw HB.out _) _⟩
theorem contains_white (c : UInt8) (w : World) : Calls Tryz.prog 62 #[.string ⟨#[32, 9, 10, 13]⟩, .int .i32 (c.toNat : Int)] w fun e w' => e = .returned (.bool (whiteB c)) ∧ Below w.heap.size w w' := by
  by_cases h : c.toNat < 128
  · refine (Tryz.strings_ContainsRune_ascii ⟨#[32, 9, 10, 13]⟩ (c.toNat : Int) w (by omega) (by omega)).mono ?_
    rintro e w' ⟨rfl, rfl⟩
    refine ⟨ret_bool ?_, Below.refl _ _⟩
    rw [u8_back]
    exact idx_white c
  · have hr := rune_high c w (by omega)
    have HW := Lib.hid (white_high c (by omega))
    generalize (c.toNat : Int) = r at *
    go_enter Tryz.func62, Tryz.ntmps62
    go_wp2_with (go_at_call 75; refine hr.mono ?_; rintro e w2 ⟨rfl, hb2⟩; have HB2 := Lib.hid hb2; clear hr hb2)
    go_ret
    exact ⟨ret_bool (by rw [HW.out]), HB2.out⟩
end Go.Proofs.YtdloadeidijcoaaGreatDoor
