/- DERIVED. ProfileChanges: the walk. -/
import Derived.Test.YtghjhlenkgkelaaChg4
import Derived.Test.YtghjhlenkgkelaaCounts
set_option linter.unusedSimpArgs false
set_option linter.unusedVariables false
namespace Go.Proofs.Ytghjhlenkgkelaa
open Go.RowKit Go.Shelf Go.Sort
attribute [local go_sem] run_store_float

/-- Of of a trace with the prices 1 and 1, whether the trace is given or not -/
def OfBoth (w : World) (xs : List Acc) (e : Ending) (w' : World) : Prop :=
  ∃ (A1 : Option Addr) (n1 c1 : Nat) (A2 : Option Addr) (n2 c2 cst : Nat), e = .returned (.tuple #[.agg #[.slice A1 n1 c1, .slice A2 n2 c2, .float .f32 cst], .int .i64 (givenL xs)]) ∧
    (givenL xs = 0 → ∃ es, n1 = es.length ∧ IsEdges xs es ∧ ERow w' A1 n1 es) ∧ Below w.heap.size w w'
theorem one_price : priceB 1065353216 = true := by decide +kernel
theorem one_fin : finD (Ieee.single.read 1065353216) = true := by decide +kernel
theorem Of_both (A : Option Addr) (n c : Nat) (xs : List Acc) (w : World) (hl : n ≤ 100) (hr : Trace w w.heap.size A n xs) :
    Calls Try.prog 10 #[.slice A n c, .agg #[.float .f32 1065353216, .float .f32 1065353216]] w (OfBoth w xs) := by
  by_cases hg : givenL xs = 0
  · have hxl := hr.len
    refine (Of_any A n c 1065353216 1065353216 xs w (by omega) hr hg one_price one_price (fun es h => cost_some one_fin one_fin es 0 good_zero (fun y hy => by have := edge_ok h y hy; omega))).mono ?_
    rintro e w' ⟨es, sl, ve, vs, cst, h1, h2, h3, rfl, h4, h5, h6⟩
    obtain ⟨Ae, ce, rfl, _, _, _⟩ := own_slice h4
    obtain ⟨As, cs, rfl, _, _, _⟩ := own_slice h5
    exact ⟨Ae, _, ce, As, _, cs, cst, by rw [hg], fun _ => ⟨es, rfl, h1, ERow.of h4 rfl⟩, h6⟩
  · refine (Of_err A n c 1065353216 1065353216 xs w (by omega) hr hg).mono ?_
    rintro e w' ⟨rfl, h⟩
    exact ⟨none, 0, 0, none, 0, 0, 0, rfl, fun h => absurd h hg, h⟩

set_option maxRecDepth 100000 in
theorem chg_big1 (A B : Option Addr) (n c m d : Nat) (w : World) (hn : 100 < n) (hm : n ≤ 9223372036854775807) :
    Calls Try.prog 6 #[.slice A n c, .slice B m d] w (True1 w) := by
  go_enter Try.func6, Try.ntmps6
  go_wp2_with (go_at_call 9; refine (awake_any _).mono ?_; rintro e w1 ⟨rfl, hb1⟩)
  go_ret
  exact ⟨rfl, hb1⟩
set_option maxRecDepth 100000 in
theorem chg_big2 (A B : Option Addr) (n c m d : Nat) (w : World) (hn : n ≤ 100) (hm : 100 < m) (hm2 : m ≤ 9223372036854775807) :
    Calls Try.prog 6 #[.slice A n c, .slice B m d] w (True1 w) := by
  go_enter Try.func6, Try.ntmps6
  go_wp2_with (go_at_call 9; refine (awake_any _).mono ?_; rintro e w1 ⟨rfl, hb1⟩)
  go_ret
  exact ⟨rfl, hb1⟩

set_option maxRecDepth 100000 in
set_option maxHeartbeats 1000000 in
theorem chg_err (A B : Option Addr) (n c m d : Nat) (xs ys : List Acc) (w : World) (hn : n ≤ 100) (hm : m ≤ 100) (hx : Trace w w.heap.size A n xs) (hy : Trace w w.heap.size B m ys) (hg : givenL xs ≠ 0 ∨ givenL ys ≠ 0) :
    Calls Try.prog 6 #[.slice A n c, .slice B m d] w (True1 w) := by
  have hof1 := Of_both A n c xs w hn hx
  have hof2 := fun w1 (hb : Below w.heap.size w w1) => Of_both B m d ys w1 hm ((hy.below hb (Nat.le_refl _)).mono hb.size)
  have HO2 := Lib.hid hof2
  clear hx hy hof2
  unfold OfBoth at hof1 HO2
  have hbool : (givenL xs != 0) = true ∨ (givenL xs != 0) = false ∧ (givenL ys != 0) = true := by
    by_cases h : givenL xs = 0
    · right; rcases hg with h' | h'
      · exact absurd h h'
      · exact ⟨by simpa using h, by simpa using h'⟩
    · left; simpa using h
  clear hg
  generalize givenL xs = e1 at *
  generalize givenL ys = e2 at *
  rcases hbool with h1 | ⟨h1, h2⟩
  all_goals
    go_enter Try.func6, Try.ntmps6
    go_wp2_with (first
      | (go_at_call 10
         first
           | (refine hof1.mono ?_
              rintro e w1 ⟨A1, n1, c1, A2, n2, c2, cst, rfl, _, hb1⟩
              clear hof1
              have HB1 := Lib.hid (hb1.alloc hb1.size (.cells #[.slice A1 n1 c1, .slice A2 n2 c2, .float .f32 cst] 28))
              have hof2' := HO2.out _ HB1.out
              clear hb1)
           | (refine hof2'.mono ?_
              rintro e w2 ⟨B1, m1, d1, B2, m2, d2, dst, rfl, _, hb2⟩
              clear hof2'
              have HB2 := Lib.hid ((HB1.out.trans (hb2.mono HB1.out.size)).alloc (by have := HB1.out.size; have := hb2.size; omega) (.cells #[.slice B1 m1 d1, .slice B2 m2 d2, .float .f32 dst] 28))
              clear hb2))
      | (go_at_call 9; refine (awake_any _).mono ?_; rintro e w3 ⟨rfl, hb3⟩))
    go_ret
    exact ⟨rfl, HB2.out.trans (hb3.mono HB2.out.size)⟩
end Go.Proofs.Ytghjhlenkgkelaa
