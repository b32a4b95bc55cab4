/- DERIVED. slices.Compare at ints; the two comparisons of the program. -/
import Derived.Test.YtghjhlenkgkelaaGreatDoorKeys
import Derived.Sort.Grow
import Derived.Shelf.SlSortCmp.WholeK
set_option linter.unusedSimpArgs false
set_option linter.unusedVariables false
namespace Go.Proofs.YtghjhlenkgkelaaGreatDoor
open Go.RowKit Go.Sort

def cmpI (a b : Int) : Int := if a < b then -1 else if b < a then 1 else 0
def cmpL : List Int → List Int → Int
  | [], [] => 0
  | [], _ :: _ => -1
  | _ :: _, [] => 1
  | a :: x, b :: y => if cmpI a b ≠ 0 then cmpI a b else cmpL x y

theorem cmp_any (a b : Int) (w : World) : Calls Tryz.prog 44 #[.int .i64 a, .int .i64 b] w fun e w' => e = .returned (.int .i64 (cmpI a b)) ∧ w' = w := by
  by_cases h1 : a < b
  · have h : cmpI a b = -1 := by unfold cmpI; rw [if_pos h1]
    rw [h]
    go_enter Tryz.func44, Tryz.ntmps44
    go_wp2
    go_ret
    exact ⟨rfl, rfl⟩
  · by_cases h2 : b < a
    · have h : cmpI a b = 1 := by unfold cmpI; rw [if_neg h1, if_pos h2]
      rw [h]
      go_enter Tryz.func44, Tryz.ntmps44
      go_wp2
      go_ret
      exact ⟨rfl, rfl⟩
    · have h : cmpI a b = 0 := by unfold cmpI; rw [if_neg h1, if_neg h2]
      rw [h]
      go_enter Tryz.func44, Tryz.ntmps44
      go_wp2
      go_ret
      exact ⟨rfl, rfl⟩

theorem compare_any (b1 o1 c1 b2 o2 c2 n : Nat) (xs ys : List Int) (w : World) (hx : xs.length = n) (hy : ys.length = n) (hn : n ≤ 1000)
    (h1 : ∀ i a, xs[i]? = some a → w.cell? ⟨b1, o1 + i, none⟩ = some (.int .i64 a)) (h2 : ∀ i a, ys[i]? = some a → w.cell? ⟨b2, o2 + i, none⟩ = some (.int .i64 a)) :
    Calls Tryz.prog 33 #[.slice (some ⟨b1, o1, none⟩) n c1, .slice (some ⟨b2, o2, none⟩) n c2] w fun e w' => e = .returned (.int .i64 (cmpL xs ys)) ∧ w' = w := by
  have HX := Lib.hid hx
  have HY := Lib.hid hy
  clear hx hy
  go_enter Tryz.func33, Tryz.ntmps33
  go_wp2
  go_loop [11] (fun i => ∃ k : Nat, k ≤ n ∧ i = .int .i64 k ∧ cmpL (xs.drop k) (ys.drop k) = cmpL xs ys) (fun i => n - (intOf i).toNat)
  case atStart => exact ⟨0, by omega, rfl, rfl⟩
  case round =>
    obtain ⟨k, hk, rfl, hg⟩ := hrel
    by_cases hlt : k < n
    · obtain ⟨x, hx⟩ := get_some (xs := xs) (k := k) (by rw [HX.out]; omega)
      obtain ⟨y, hy⟩ := get_some (xs := ys) (k := k) (by rw [HY.out]; omega)
      have g1 := h1 k x hx
      have g2 := h2 k y hy
      rw [drop_cons hx, drop_cons hy] at hg
      have HG := Lib.hid hg
      clear hg hx hy h1 h2
      by_cases hc : cmpI x y = 0
      · have hc' : (cmpI x y == 0) = true := by simp [hc]
        have hc2 : (cmpI x y != 0) = false := by simp [hc]
        have HC := Lib.hid hc
        clear hc
        go_wp2_with (go_at_call 44; refine (cmp_any _ _ _).mono ?_; rintro e w' ⟨rfl, rfl⟩)
        go_round
        case rel => exact ⟨k+1, by omega, by go_num, by rw [← HG.out, cmpL, if_neg (by simp [HC.out])]⟩
        case measure => simp [intOf]; omega
      · have hc' : (cmpI x y == 0) = false := by simp [hc]
        have hc2 : (cmpI x y != 0) = true := by simp [hc]
        go_wp2_with (go_at_call 44; refine (cmp_any _ _ _).mono ?_; rintro e w' ⟨rfl, rfl⟩)
        go_ret
        exact ⟨ret_int (by rw [← HG.out, cmpL, if_pos hc]), rfl⟩
    · go_wp2
      go_ret
      refine ⟨ret_int ?_, rfl⟩
      have := HX.out
      have := HY.out
      rw [← hg, List.drop_of_length_le (by omega), List.drop_of_length_le (by omega)]; rfl

def cmp2 (x y : K2) : Int := cmpL [x.a, x.b] [y.a, y.b]
def cmp3 (x y : K3) : Int := cmpL [x.a, x.b, x.c] [y.a, y.b, y.c]

theorem two_new (w : World) (t : TypeId) (xs ys : List Int) (q : Nat) : (∀ i a, xs[i]? = some a → (((w.alloc (.cells (xs.map (Value.int .i64)).toArray t)).alloc (.cells (ys.map (Value.int .i64)).toArray t)).drewN q).cell? ⟨w.heap.size, 0 + i, none⟩ = some (.int .i64 a)) ∧
    (∀ i a, ys[i]? = some a → (((w.alloc (.cells (xs.map (Value.int .i64)).toArray t)).alloc (.cells (ys.map (Value.int .i64)).toArray t)).drewN q).cell? ⟨w.heap.size + 1, 0 + i, none⟩ = some (.int .i64 a)) := by
  refine ⟨fun i a h => ?_, fun i a h => ?_⟩
  · show ((w.alloc _).alloc _).cell? _ = _
    rw [Nat.zero_add]
    refine (((BlkAt.new w t _).alloc _).cell i).trans ?_
    simp [h]
  · show ((w.alloc _).alloc _).cell? _ = _
    rw [Nat.zero_add]
    have := BlkAt.new (w.alloc (.cells (xs.map (Value.int .i64)).toArray t)) t (ys.map (Value.int .i64)).toArray
    rw [World.size_alloc] at this
    refine (this.cell i).trans ?_
    simp [h]

theorem grown_two (w : World) (o1 o2 : Obj) (q : Nat) : ∃ q' os', ((w.alloc o1).alloc o2).drewN q = grow (w.drewN q') os' := ⟨q, #[o1, o2], by
  rw [alloc_eq_grow, alloc_eq_grow, grow_grow]; rfl⟩

theorem pair_any (x y : K2) (w : World) : Calls Tryz.prog 14 #[enc2 x, enc2 y] w fun e w' => e = .returned (.int .i64 (cmp2 x y)) ∧ ∃ q os', w' = grow (w.drewN q) os' := by
  have H := fun q => two_new w 55 [x.a, x.b] [y.a, y.b] q
  have HG := fun q => grown_two w (.cells #[.int .i64 x.a, .int .i64 x.b] 55) (.cells #[.int .i64 y.a, .int .i64 y.b] 55) q
  unfold enc2
  go_enter Tryz.func14, Tryz.ntmps14
  go_wp2
  go_quiet ((go_at_call 33; exact Calls.quiet_of_same (compare_any _ _ _ _ _ _ 2 [x.a, x.b] [y.a, y.b] _ rfl rfl (by omega) (H _).1 (H _).2)))
  go_wp2
  go_ret
  exact ⟨rfl, HG _⟩
theorem place_any (x y : K3) (w : World) : Calls Tryz.prog 42 #[enc3 x, enc3 y] w fun e w' => e = .returned (.int .i64 (cmp3 x y)) ∧ ∃ q os', w' = grow (w.drewN q) os' := by
  have H := fun q => two_new w 43 [x.a, x.b, x.c] [y.a, y.b, y.c] q
  have HG := fun q => grown_two w (.cells #[.int .i64 x.a, .int .i64 x.b, .int .i64 x.c] 43) (.cells #[.int .i64 y.a, .int .i64 y.b, .int .i64 y.c] 43) q
  unfold enc3
  go_enter Tryz.func42, Tryz.ntmps42
  go_wp2
  go_quiet ((go_at_call 33; exact Calls.quiet_of_same (compare_any _ _ _ _ _ _ 3 [x.a, x.b, x.c] [y.a, y.b, y.c] _ rfl rfl (by omega) (H _).1 (H _).2)))
  go_wp2
  go_ret
  exact ⟨rfl, HG _⟩

def lt2 (x y : K2) : Prop := x.a < y.a ∨ x.a = y.a ∧ x.b < y.b
def lt3 (x y : K3) : Prop := x.a < y.a ∨ x.a = y.a ∧ (x.b < y.b ∨ x.b = y.b ∧ x.c < y.c)
theorem cmpI_ne {a b : Int} (h : a ≠ b) : cmpI a b ≠ 0 ∧ (cmpI a b < 0 ↔ a < b) := by
  unfold cmpI; split
  · simp_all
  · rw [if_pos (by omega)]; simp; omega
theorem cmpI_self (a : Int) : cmpI a a = 0 := by simp [cmpI]
theorem cmp2_lt (x y : K2) : Go.Proofs.ltOf cmp2 x y = true ↔ lt2 x y := by
  rw [show Go.Proofs.ltOf cmp2 x y = decide (cmp2 x y < 0) from rfl, decide_eq_true_eq]
  simp only [cmp2, cmpL, lt2]
  by_cases h1 : x.a = y.a
  · rw [h1, cmpI_self, if_neg (by simp)]
    by_cases h2 : x.b = y.b
    · rw [h2, cmpI_self]; simp
    · have := cmpI_ne h2; rw [if_pos this.1, this.2]; omega
  · have := cmpI_ne h1; rw [if_pos this.1, this.2]; omega
theorem cmp3_lt (x y : K3) : Go.Proofs.ltOf cmp3 x y = true ↔ lt3 x y := by
  rw [show Go.Proofs.ltOf cmp3 x y = decide (cmp3 x y < 0) from rfl, decide_eq_true_eq]
  simp only [cmp3, cmpL, lt3]
  by_cases h1 : x.a = y.a
  · rw [h1, cmpI_self, if_neg (by simp)]
    by_cases h2 : x.b = y.b
    · rw [h2, cmpI_self, if_neg (by simp)]
      by_cases h3 : x.c = y.c
      · rw [h3, cmpI_self]; simp
      · have := cmpI_ne h3; rw [if_pos this.1, this.2]; omega
    · have := cmpI_ne h2; rw [if_pos this.1, this.2]; omega
  · have := cmpI_ne h1; rw [if_pos this.1, this.2]; omega
theorem cmp2_nlt (x y : K2) : Go.Proofs.ltOf cmp2 x y = false ↔ ¬ lt2 x y := by rw [← cmp2_lt]; simp
theorem cmp3_nlt (x y : K3) : Go.Proofs.ltOf cmp3 x y = false ↔ ¬ lt3 x y := by rw [← cmp3_lt]; simp
theorem cmp2_swo : SWO (Go.Proofs.ltOf cmp2) where
  irrefl x := by rw [cmp2_nlt]; unfold lt2; omega
  trans x y z := by rw [cmp2_lt, cmp2_lt, cmp2_lt]; unfold lt2; omega
  ntrans x y z := by rw [cmp2_nlt, cmp2_nlt, cmp2_nlt]; unfold lt2; omega
theorem cmp3_swo : SWO (Go.Proofs.ltOf cmp3) where
  irrefl x := by rw [cmp3_nlt]; unfold lt3; omega
  trans x y z := by rw [cmp3_lt, cmp3_lt, cmp3_lt]; unfold lt3; omega
  ntrans x y z := by rw [cmp3_nlt, cmp3_nlt, cmp3_nlt]; unfold lt3; omega
end Go.Proofs.YtghjhlenkgkelaaGreatDoor
