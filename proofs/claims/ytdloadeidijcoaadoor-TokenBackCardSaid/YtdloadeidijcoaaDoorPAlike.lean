/- DERIVED. The law's alike: equal but for places. -/
import Derived.Test.YtdloadeidijcoaaDoorRdS
import Derived.Test.YtdloadeidijcoaaDoorTog
set_option linter.unusedSimpArgs false
set_option linter.unusedVariables false
namespace Go.Proofs.YtdloadeidijcoaaDoor
open Go.RowKit Go.Shelf

theorem alikeT_of {x y : Tok} (h : x.kind = y.kind ∧ x.text = y.text ∧ x.value = y.value) : alikeT x y = true := by
  unfold alikeT; simp [h.1, h.2.1, h.2.2]
set_option maxRecDepth 100000 in
set_option maxHeartbeats 2000000 in
theorem alike1_any (x y : Tok) (w : World) (h : alikeT x y = true) : Calls Tryd.prog 44 #[encT x, encT y] w fun e w' => e = .returned (.bool true) ∧ Below w.heap.size w w' := by
  have HB := Lib.hid (((Below.refl w.heap.size w).alloc (Nat.le_refl _) (.cells #[.int .i64 x.kind, .string ⟨x.text.toArray⟩, .int .i64 x.value, .int .i64 x.at_] PT)).alloc (by simp) (.cells #[.int .i64 y.kind, .string ⟨y.text.toArray⟩, .int .i64 y.value, .int .i64 y.at_] PT))
  unfold alikeT at h
  simp only [Bool.and_eq_true, beq_iff_eq] at h
  obtain ⟨⟨h1, h2⟩, h3⟩ := h
  obtain ⟨a, b, c, d⟩ := x
  obtain ⟨a', b', c', d'⟩ := y
  simp only at h1 h2 h3 HB
  subst h1; subst h2; subst h3
  have f1 : (a == a) = true := beq_self_eq_true a
  have f3 : (c == c) = true := beq_self_eq_true c
  unfold encT strV
  go_enter Tryd.func44, Tryd.ntmps44
  go_wp2
  go_ret
  exact ⟨rfl, HB.out⟩
set_option maxRecDepth 100000 in
set_option maxHeartbeats 2000000 in
theorem eqa_any (A B : Option Addr) (n m c d : Nat) (xs ys : List Tok) (w : World) (hA : Rd encTL 4 w A n xs) (hB : Rd encTL 4 w B m ys) (hn : n ≤ 1000000) (h : xs.map (·.put 0) = ys.map (·.put 0)) :
    Calls Tryd.prog 43 #[.slice A n c, .slice B m d, .func (.func 44) #[] #[]] w fun e w' => e = .returned (.bool true) ∧ Below w.heap.size w w' := by
  obtain ⟨hxy, hal⟩ := alike_put h
  have HAL2 := Lib.hid hal
  obtain rfl : n = m := by have := hA.len; have := hB.len; omega
  have HA := Lib.hid hA
  have HB := Lib.hid hB
  have HAL := Lib.hid hA.len
  have HBL := Lib.hid hB.len
  clear hA hB h hxy hal
  have fnm : ((n : Int) != (n : Int)) = false := bne_self_eq_false _
  go_enter Tryd.func43, Tryd.ntmps43
  go_wp2
  go_loopw [17] (fun v wr => ∃ k : Nat, k ≤ n ∧ v = .int .i64 k ∧ Hid (Below w.heap.size w wr)) (fun v _ => n - (intOf v).toNat)
  case atStart => exact ⟨0, by omega, rfl, Lib.hid (Below.refl _ _)⟩
  case round =>
    obtain ⟨k, hk, rfl, HW⟩ := hrel
    by_cases hlt : k < n
    · obtain ⟨x, hx⟩ := get_some (xs := xs) (k := k) (by rw [← HAL.out]; omega)
      obtain ⟨y, hy⟩ := get_some (xs := ys) (k := k) (by rw [← HBL.out]; omega)
      obtain ⟨b1, o1, rfl, _, hc⟩ := (HA.out.below HW.out).at_ k x hx
      obtain ⟨b2, o2, rfl, _, hd⟩ := (HB.out.below HW.out).at_ k y hy
      have c0 := hc 0 _ rfl
      have c1 := hc 1 _ rfl
      have c2 := hc 2 _ rfl
      have c3 := hc 3 _ rfl
      have d0 := hd 0 _ rfl
      have d1 := hd 1 _ rfl
      have d2 := hd 2 _ rfl
      have d3 := hd 3 _ rfl
      rw [Nat.add_zero] at c0 d0
      have hk0 : (0 : Int) ≤ (k : Int) := by omega
      have hk1 : (k : Int) < (n : Int) := by omega
      have hcl : ∀ W, Calls Tryd.prog 44 #[encT x, encT y] W fun e w' => e = .returned (.bool true) ∧ Below W.heap.size W w' := fun W => alike1_any x y W (alikeT_of (HAL2.out k x y hx hy))
      clear hx hy hc hd
      unfold strV at c1 d1
      unfold encT strV at hcl
      have HW2 := Lib.hid ((HW.out.alloc HW.out.size (.cells #[.int .i64 x.kind, .string ⟨x.text.toArray⟩, .int .i64 x.value, .int .i64 x.at_] PT)).alloc (by have := HW.out.size; simp; omega) (.cells #[.int .i64 y.kind, .string ⟨y.text.toArray⟩, .int .i64 y.value, .int .i64 y.at_] PT))
      go_wp2_with (go_at_call 44; refine (hcl _).mono ?_; rintro e w2 ⟨rfl, hb2⟩; have HB2 := Lib.hid (HW2.out.trans (hb2.mono HW2.out.size)); clear hb2 hcl)
      go_roundw
      case rel => exact ⟨k + 1, by omega, by go_num, HB2⟩
      case measure => simp [intOf]; omega
    · obtain rfl : k = n := by omega
      go_wp2
      go_ret
      exact ⟨rfl, HW.out⟩
set_option maxHeartbeats 1000000 in
theorem alike_any (A B : Option Addr) (n m c d : Nat) (xs ys : List Tok) (w : World) (hA : Rd encTL 4 w A n xs) (hB : Rd encTL 4 w B m ys) (hn : n ≤ 1000000) (h : xs.map (·.put 0) = ys.map (·.put 0)) :
    Calls Tryd.prog 18 #[.slice A n c, .slice B m d] w fun e w' => e = .returned (.bool true) ∧ Below w.heap.size w w' := by
  have he := eqa_any A B n m c d xs ys w hA hB hn h
  clear hA hB h
  go_enter Tryd.func18, Tryd.ntmps18
  go_wp2_with (go_at_call 43; refine he.mono ?_; rintro e w2 ⟨rfl, hb2⟩; have HB2 := Lib.hid hb2; clear he hb2)
  go_ret
  exact ⟨rfl, HB2.out⟩
end Go.Proofs.YtdloadeidijcoaaDoor
