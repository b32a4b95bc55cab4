/- DERIVED. remote of the statements; the cost of a model of zeros. -/
import Derived.Test.YtghjhlenkgkelaaCnt
import Derived.Test.YtghjhlenkgkelaaAwake
set_option linter.unusedSimpArgs false
set_option linter.unusedVariables false
namespace Go.Proofs.Ytghjhlenkgkelaa
open Go.RowKit Go.Shelf Go.Sort

theorem mul0 : ∀ n : Nat, n < 301 → FloatKind.f32.format.mul (cvt n) 0 = some 0 := by decide +kernel
theorem add0 : FloatKind.f32.format.add 0 0 = some 0 := by decide +kernel
theorem cost0 : ∀ es : List Edg, (∀ y ∈ es, 0 ≤ y.msg ∧ y.msg ≤ 300 ∧ 0 ≤ y.acc ∧ y.acc ≤ 300) → costF 0 0 es 0 = some 0
  | [], _ => rfl
  | y :: es, h => by
    obtain ⟨h1, h2, h3, h4⟩ := h y (by simp)
    have m1 := mul0 y.msg.toNat (by omega)
    have m2 := mul0 y.acc.toNat (by omega)
    rw [show ((y.msg.toNat : Nat) : Int) = y.msg by omega] at m1
    rw [show ((y.acc.toNat : Nat) : Int) = y.acc by omega] at m2
    simp only [costF, costStep, m1, m2, add0, Option.bind_some]
    exact cost0 es (fun z hz => h z (by simp [hz]))
theorem edges_len {xs : List Acc} {es : List Edg} (h : IsEdges xs es) : es.length ≤ 2 * xs.length := by
  obtain ⟨ss, h1, _, rfl⟩ := h
  have h0 := h1.length_eq
  have h2 := edgesG_len ((runR xs xs.length).map (·.1)) (edgesA xs)
  have h3 := edgesA_len xs []
  have h4 := (inv_run xs xs.length (Nat.le_refl _)).len
  simp only [edgesR, edgesA] at *
  simp only [List.length_map, List.length_nil] at *; omega
theorem spots_len {xs : List Acc} {sl : List Spt} (h : IsSpots xs sl) : sl.length ≤ xs.length := by
  obtain ⟨ss, h1, _, rfl⟩ := h
  have h0 := h1.length_eq
  have := spotsR_len xs
  simp only [List.length_map] at *; omega
theorem spots_le {xs : List Acc} {sl : List Spt} (h : IsSpots xs sl) : ∀ s ∈ sl, s.le xs.length := by
  obtain ⟨ss, h1, _, rfl⟩ := h
  intro s hs
  obtain ⟨x, hx, rfl⟩ := List.mem_map.1 hs
  exact look_le (spotsR_le xs) x
theorem remN_snoc (l : List Acc) (x : Acc) : remN (l ++ [x]) = remN l + if remB x then 1 else 0 := by
  unfold remN; rw [sm_append]; simp [sm]
theorem remN_le (l : List Acc) : 0 ≤ remN l ∧ remN l ≤ l.length := by
  have := sm_bound (f := fun x : Acc => if remB x then 1 else 0) (B := 1) (l := l) (fun x _ => by split <;> omega)
  unfold remN; omega

theorem remote_any (A : Option Addr) (n c : Nat) (xs : List Acc) (w : World) (hl : n ≤ 5000) (hr : Trace w w.heap.size A n xs) :
    Calls Try.prog 12 #[.slice A n c] w fun e w' => e = .returned (.int .i64 (remN xs)) ∧ Below w.heap.size w w' := by
  have HN := Lib.hid hr.len
  go_enter Try.func12, Try.ntmps12
  go_wp2
  go_loopw [3, 4] (fun v i wr => ∃ k : Nat, k ≤ n ∧ i = .int .i64 k ∧ v = .int .i64 (remN (xs.take k)) ∧ Below w.heap.size w wr) (fun _ i _ => n - (intOf i).toNat)
  case atStart => exact ⟨0, by omega, rfl, rfl, Below.refl _ _⟩
  case round =>
    obtain ⟨k, hk, rfl, rfl, hbw⟩ := hrel
    have hb1 := remN_le (xs.take k)
    have htl : (xs.take k).length ≤ k := List.length_take_le _ _
    obtain ⟨hb2, hb3⟩ := hb1
    by_cases hlt : k < n
    · obtain ⟨x, hx⟩ := get_some (xs := xs) (k := k) (by rw [← HN.out]; omega)
      obtain ⟨b, off, rfl, hb, hc⟩ := hr.at_ k x hx
      obtain ⟨c0, c1, c2, c3, c4, c5, c6⟩ := hc.below hbw hb
      have HS : Hid (remN (xs.take (k + 1)) = remN (xs.take k) + if remB x then 1 else 0) := Lib.hid (by rw [take_snoc hx, remN_snoc])
      have hb4 : remN (xs.take k) ≤ 5000 := by omega
      have hk0 : (0 : Int) ≤ (k : Int) := by omega
      have hk1 : (k : Int) < (n : Int) := by omega
      clear hb3 htl hx hr hc
      generalize remN (xs.take k) = q at *
      have HB := Lib.hid hbw
      clear hbw
      by_cases hre : x.frm = x.at'
      · have hre1 : (x.frm != x.at') = false := by simpa using hre
        have HR : Hid (remB x = false) := Lib.hid (by unfold remB; exact hre1)
        clear hre
        go_wp2
        go_quiet (fail)
        go_wp2
        go_roundw
        case rel => exact ⟨k + 1, by omega, by go_num, by rw [HS.out, HR.out]; simp, below_draw HB.out _⟩
        case measure => simp [intOf]; omega
      · have hre1 : (x.frm != x.at') = true := by simpa using hre
        have HR : Hid (remB x = true) := Lib.hid (by unfold remB; exact hre1)
        clear hre
        go_wp2
        go_quiet (fail)
        go_wp2
        go_roundw
        case rel => exact ⟨k + 1, by omega, by go_num, by rw [HS.out, HR.out]; simp, below_draw HB.out _⟩
        case measure => simp [intOf]; omega
    · obtain rfl : k = n := by omega
      have hxs : xs.take k = xs := by rw [HN.out]; exact List.take_length
      have HXS := Lib.hid hxs
      clear hxs
      go_wp2
      go_ret
      exact ⟨ret_int (by rw [HXS.out]), hbw⟩
end Go.Proofs.Ytghjhlenkgkelaa
