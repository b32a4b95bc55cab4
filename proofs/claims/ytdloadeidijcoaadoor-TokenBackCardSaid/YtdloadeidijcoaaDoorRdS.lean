/- DERIVED. Slices that read as lists; the law's same. -/
import Derived.Test.YtdloadeidijcoaaDoorEqTok
set_option linter.unusedSimpArgs false
set_option linter.unusedVariables false
namespace Go.Proofs.YtdloadeidijcoaaDoor
open Go.RowKit Go.Shelf

/-- a slice that reads as xs, k cells an element -/
structure Rd {α : Type} (enc : α → List Value) (k : Nat) (w : World) (A : Option Addr) (n : Nat) (xs : List α) : Prop where
  len : n = xs.length
  at_ : ∀ i x, xs[i]? = some x → ∃ b o, A = some ⟨b, o, none⟩ ∧ b < w.heap.size ∧ ∀ (j : Nat) (u : Value), (enc x)[j]? = some u → w.cell? ⟨b, o + i * k + j, none⟩ = some u
theorem Rd.below {α : Type} {enc : α → List Value} {k : Nat} {w w' : World} {A : Option Addr} {n : Nat} {xs : List α} (h : Rd enc k w A n xs) (hb : Below w.heap.size w w') : Rd enc k w' A n xs :=
  ⟨h.len, fun i x hx => by
    obtain ⟨b, o, e, hl, hc⟩ := h.at_ i x hx
    have := hb.size
    exact ⟨b, o, e, by omega, fun j u hu => cell_below hb (Nat.le_refl _) (hc j u hu)⟩⟩
theorem flat_at {α : Type} {enc : α → List Value} {k : Nat} (hk : ∀ x, (enc x).length = k) : ∀ (xs : List α) (i : Nat) (x : α) (j : Nat) (u : Value), xs[i]? = some x → (enc x)[j]? = some u → (xs.flatMap enc)[i * k + j]? = some u
  | [], i, x, j, u, h, _ => by simp at h
  | y :: ys, 0, x, j, u, h, hu => by
    simp at h; subst h
    rw [List.flatMap_cons, Nat.zero_mul, Nat.zero_add, List.getElem?_append_left (List.getElem?_eq_some_iff.1 hu).1]; exact hu
  | y :: ys, i + 1, x, j, u, h, hu => by
    have ih := flat_at hk ys i x j u (by simpa using h) hu
    rw [List.flatMap_cons, List.getElem?_append_right (by rw [hk]; rw [Nat.succ_mul]; omega), hk]
    rw [show (i + 1) * k + j - k = i * k + j by rw [Nat.succ_mul]; omega]
    exact ih
theorem rd_own {α : Type} {enc : α → List Value} {k : Nat} {w : World} {base : Nat} {T : TypeId} {v : Value} {xs : List α} (hk : ∀ x, (enc x).length = k) (h : w.ownsRow base T k v xs.length (xs.flatMap enc)) :
    ∃ A c, v = .slice A xs.length c ∧ Rd enc k w A xs.length xs ∧ (A = none ∨ ∃ g, A = some ⟨g, 0, none⟩ ∧ base ≤ g) := by
  rcases h.2 with ⟨rfl, hn⟩ | ⟨g, cap, cur, rfl, hb, hh, hn, hc, hs, ht⟩
  · have : xs = [] := List.length_eq_zero_iff.1 hn
    subst this
    exact ⟨none, 0, rfl, ⟨rfl, by simp⟩, .inl rfl⟩
  · refine ⟨_, cap, rfl, ⟨rfl, fun i x hx => ⟨g, 0, rfl, (Array.getElem?_eq_some_iff.1 hh).1, fun j u hu => ?_⟩⟩, .inr ⟨g, rfl, hb⟩⟩
    have hf := flat_at hk xs i x j u hx hu
    have hj' : i * k + j < xs.length * k := by
      have := (List.getElem?_eq_some_iff.1 hf).1
      rw [h.1] at this; exact this
    rw [← ht, List.getElem?_take_of_lt hj', Array.getElem?_toList] at hf
    rw [Nat.zero_add]
    simp only [World.cell?, hh, hf]
    rfl
theorem encTL_len (x : Tok) : (encTL x).length = 4 := rfl
set_option maxHeartbeats 1000000 in
theorem same1_any (x y : Tok) (w : World) : Calls Tryd.prog 36 #[encT x, encT y] w fun e w' => e = .returned (.bool (eqT x y)) ∧ Below w.heap.size w w' := by
  have he := fun W => eql_rtok x y W
  unfold encT strV at *
  generalize eqT x y = B at *
  have HB := Lib.hid (((Below.refl w.heap.size w).alloc (Nat.le_refl _) (.cells #[.int .i64 x.kind, .string ⟨x.text.toArray⟩, .int .i64 x.value, .int .i64 x.at_] PT)).alloc (by simp) (.cells #[.int .i64 y.kind, .string ⟨y.text.toArray⟩, .int .i64 y.value, .int .i64 y.at_] RT))
  go_enter Tryd.func36, Tryd.ntmps36
  go_wp2
  go_ret
  exact ⟨rfl, HB.out⟩
theorem take_succ_ne {α : Type} {xs ys : List α} {k : Nat} {x y : α} (hx : xs[k]? = some x) (hy : ys[k]? = some y) (h : x ≠ y) : xs ≠ ys := by
  rintro rfl; rw [hx] at hy; cases hy; exact h rfl
set_option maxRecDepth 100000 in
set_option maxHeartbeats 2000000 in
theorem eqf_any (A B : Option Addr) (n m c d : Nat) (xs ys : List Tok) (w : World) (hA : Rd encTL 4 w A n xs) (hB : Rd encTL 4 w B m ys) (hn : n ≤ 1000000) (hm : m ≤ 1000000) :
    Calls Tryd.prog 35 #[.slice A n c, .slice B m d, .func (.func 36) #[] #[]] w fun e w' => e = .returned (.bool (decide (xs = ys))) ∧ Below w.heap.size w w' := by
  have HA := Lib.hid hA
  have HB := Lib.hid hB
  have HAL := Lib.hid hA.len
  have HBL := Lib.hid hB.len
  have HC : Hid (∀ (x y : Tok) (W : World), Calls Tryd.prog 36 #[encT x, encT y] W fun e w' => e = .returned (.bool (eqT x y)) ∧ Below W.heap.size W w') := Lib.hid same1_any
  clear hA hB
  by_cases hnm : n = m
  · subst hnm
    have fnm : ((n : Int) != (n : Int)) = false := bne_self_eq_false _
    go_enter Tryd.func35, Tryd.ntmps35
    go_wp2
    go_loopw [17] (fun v wr => ∃ k : Nat, k ≤ n ∧ v = .int .i64 k ∧ Hid (xs.take k = ys.take k) ∧ Hid (Below w.heap.size w wr)) (fun v _ => n - (intOf v).toNat)
    case atStart => exact ⟨0, by omega, rfl, Lib.hid (by simp), Lib.hid (Below.refl _ _)⟩
    case round =>
      obtain ⟨k, hk, rfl, HK, HW⟩ := hrel
      by_cases hlt : k < n
      · obtain ⟨x, hx⟩ := get_some (xs := xs) (k := k) (by rw [← HAL.out]; omega)
        obtain ⟨y, hy⟩ := get_some (xs := ys) (k := k) (by rw [← HBL.out]; omega)
        obtain ⟨b1, o1, rfl, _, hc⟩ := (HA.out.below HW.out).at_ k x hx
        obtain ⟨b2, o2, rfl, _, hd⟩ := (HB.out.below HW.out).at_ k y hy
        have c0 := hc 0 _ rfl
        have c1 := hc 1 _ rfl
        have c2 := hc 2 _ rfl
        have c3 := hc 3 _ rfl
        have d0 := hd 0 _ rfl
        have d1 := hd 1 _ rfl
        have d2 := hd 2 _ rfl
        have d3 := hd 3 _ rfl
        rw [Nat.add_zero] at c0 d0
        have hk0 : (0 : Int) ≤ (k : Int) := by omega
        have hk1 : (k : Int) < (n : Int) := by omega
        have HXY : Hid (xs[k]? = some x ∧ ys[k]? = some y) := Lib.hid ⟨hx, hy⟩
        have hcl : ∀ W, Calls Tryd.prog 36 #[encT x, encT y] W fun e w' => e = .returned (.bool (eqT x y)) ∧ Below W.heap.size W w' := fun W => HC.out x y W
        clear hx hy hc hd
        unfold strV at c1 d1
        cases he : eqT x y with
        | true =>
          rw [he] at hcl
          have HE := Lib.hid he
          clear he
          unfold encT strV at hcl
          have HW2 := Lib.hid ((HW.out.alloc HW.out.size (.cells #[.int .i64 x.kind, .string ⟨x.text.toArray⟩, .int .i64 x.value, .int .i64 x.at_] PT)).alloc (by have := HW.out.size; simp; omega) (.cells #[.int .i64 y.kind, .string ⟨y.text.toArray⟩, .int .i64 y.value, .int .i64 y.at_] RT))
          go_wp2_with (go_at_call 36; refine (hcl _).mono ?_; rintro e w2 ⟨rfl, hb2⟩; have HB2 := Lib.hid (HW2.out.trans (hb2.mono HW2.out.size)); clear hb2 hcl)
          go_roundw
          case rel => exact ⟨k + 1, by omega, by go_num, Lib.hid (by rw [List.take_add_one, List.take_add_one, HK.out, HXY.out.1, HXY.out.2]; rw [eqT_iff] at HE; rw [of_decide_eq_true HE.out]), HB2⟩
          case measure => simp [intOf]; omega
        | false =>
          rw [he] at hcl
          have HE := Lib.hid he
          clear he
          unfold encT strV at hcl
          have HNE : Hid (decide (xs = ys) = false) := Lib.hid (decide_eq_false (take_succ_ne HXY.out.1 HXY.out.2 (by rw [eqT_iff] at HE; exact of_decide_eq_false HE.out)))
          have HW2 := Lib.hid ((HW.out.alloc HW.out.size (.cells #[.int .i64 x.kind, .string ⟨x.text.toArray⟩, .int .i64 x.value, .int .i64 x.at_] PT)).alloc (by have := HW.out.size; simp; omega) (.cells #[.int .i64 y.kind, .string ⟨y.text.toArray⟩, .int .i64 y.value, .int .i64 y.at_] RT))
          go_wp2_with (go_at_call 36; refine (hcl _).mono ?_; rintro e w2 ⟨rfl, hb2⟩; have HB2 := Lib.hid (HW2.out.trans (hb2.mono HW2.out.size)); clear hb2 hcl)
          go_ret
          exact ⟨ret_bool HNE.out.symm, HB2.out⟩
      · obtain rfl : k = n := by omega
        have HE : Hid (decide (xs = ys) = true) := Lib.hid (decide_eq_true (by have := HK.out; rwa [HAL.out, List.take_length, ← HAL.out, HBL.out, List.take_length] at this))
        go_wp2
        go_ret
        exact ⟨ret_bool HE.out.symm, HW.out⟩
  · have fnm : ((n : Int) != (m : Int)) = true := bne_iff_ne.2 (by omega)
    have HNE : Hid (decide (xs = ys) = false) := Lib.hid (decide_eq_false (by rintro rfl; exact hnm (HAL.out.trans HBL.out.symm)))
    have HB0 := Lib.hid (Below.refl w.heap.size w)
    clear hnm
    go_enter Tryd.func35, Tryd.ntmps35
    go_wp2
    go_ret
    exact ⟨ret_bool HNE.out.symm, HB0.out⟩
set_option maxHeartbeats 1000000 in
theorem same_any (A B : Option Addr) (n m c d : Nat) (xs ys : List Tok) (w : World) (hA : Rd encTL 4 w A n xs) (hB : Rd encTL 4 w B m ys) (hn : n ≤ 1000000) (hm : m ≤ 1000000) :
    Calls Tryd.prog 11 #[.slice A n c, .slice B m d] w fun e w' => e = .returned (.bool (decide (xs = ys))) ∧ Below w.heap.size w w' := by
  have he := eqf_any A B n m c d xs ys w hA hB hn hm
  generalize decide (xs = ys) = E at *
  clear hA hB
  go_enter Tryd.func11, Tryd.ntmps11
  go_wp2_with (go_at_call 35; refine he.mono ?_; rintro e w2 ⟨rfl, hb2⟩; have HB2 := Lib.hid hb2; clear he hb2)
  go_ret
  exact ⟨rfl, HB2.out⟩
end Go.Proofs.YtdloadeidijcoaaDoor
