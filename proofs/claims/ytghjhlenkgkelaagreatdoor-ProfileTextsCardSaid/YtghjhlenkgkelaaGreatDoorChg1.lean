/- DERIVED. Whether edges ascend (the case that they do); the closure of Compare. -/
import Derived.Test.YtghjhlenkgkelaaGreatDoorChg0
import Derived.Lib.QuietBelow
set_option linter.unusedSimpArgs false
set_option linter.unusedVariables false
namespace Go.Proofs.YtghjhlenkgkelaaGreatDoor
open Go.RowKit Go.Shelf Go.Sort

/-- a slice that reads as edges -/
structure ERow (w : World) (A : Option Addr) (n : Nat) (es : List Edg) : Prop where
  len : n = es.length
  at_ : ∀ k x, es[k]? = some x → ∃ g, A = some ⟨g, 0, none⟩ ∧ g < w.heap.size ∧ w.cell? ⟨g, k * 4, none⟩ = some (.int .i64 x.frm) ∧ w.cell? ⟨g, k * 4 + 1, none⟩ = some (.int .i64 x.at') ∧ w.cell? ⟨g, k * 4 + 2, none⟩ = some (.int .i64 x.acc) ∧ w.cell? ⟨g, k * 4 + 3, none⟩ = some (.int .i64 x.msg)
theorem ERow.below {w w' : World} {A : Option Addr} {n : Nat} {es : List Edg} (h : ERow w A n es) (hb : Below w.heap.size w w') : ERow w' A n es :=
  ⟨h.len, fun k x hx => by
    obtain ⟨g, e, hg, c0, c1, c2, c3⟩ := h.at_ k x hx
    exact ⟨g, e, Nat.lt_of_lt_of_le hg hb.size, (hb.cell (p := ⟨g, _, none⟩) hg).trans c0, (hb.cell (p := ⟨g, _, none⟩) hg).trans c1, (hb.cell (p := ⟨g, _, none⟩) hg).trans c2, (hb.cell (p := ⟨g, _, none⟩) hg).trans c3⟩⟩
theorem ERow.of {w : World} {base n c : Nat} {A : Option Addr} {es : List Edg} (h : w.ownsRow base 52 4 (.slice A n c) n (es.flatMap encEL)) (hn : n = es.length) : ERow w A n es :=
  ⟨hn, fun k x hx => by
    have hk := (List.getElem?_eq_some_iff.1 hx).1
    obtain ⟨g, e, hg, hc⟩ := row_cells h (by omega)
    have hc := fun (i : Nat) (u : Value) (hu : (encEL x)[i]? = some u) => hc _ _ (flat_at (enc := encEL) (k := 4) (fun _ => rfl) hx hu)
    exact ⟨g, e, hg, hc 0 _ rfl, hc 1 _ rfl, hc 2 _ rfl, hc 3 _ rfl⟩⟩
/-- strictly ascending -/
def AscE (es : List Edg) : Prop := ∀ k x y, es[k]? = some x → es[k + 1]? = some y → cmp2 x.key y.key < 0

set_option maxRecDepth 100000 in
theorem ascends_any (A : Option Addr) (n c : Nat) (es : List Edg) (w : World) (hn : n ≤ 1000000) (hE : ERow w A n es) (hA : AscE es) :
    Calls Tryz.prog 12 #[.slice A n c] w fun e w' => e = .returned (.bool true) ∧ Below w.heap.size w w' := by
  have HL := Lib.hid hE.len
  have HA := Lib.hid hA
  clear hA
  go_enter Tryz.func12, Tryz.ntmps12
  go_wp2
  go_loopw [3] (fun i wr => ∃ k : Nat, i = .int .i64 (k + 1) ∧ (k + 1 ≤ n ∨ k = 0) ∧ Below w.heap.size w wr) (fun i _ => n - (intOf i).toNat)
  case atStart => exact ⟨0, rfl, by omega, Below.refl _ _⟩
  case round =>
    obtain ⟨k, rfl, hk, hb⟩ := hrel
    by_cases hlt : k + 1 < n
    · obtain ⟨x, hx⟩ := get_some (xs := es) (k := k) (by rw [← HL.out]; omega)
      obtain ⟨y, hy⟩ := get_some (xs := es) (k := k + 1) (by rw [← HL.out]; omega)
      obtain ⟨g, rfl, hg, c0, c1, c2, c3⟩ := hE.at_ k x hx
      obtain ⟨g', hgg, hg', d0, d1, d2, d3⟩ := hE.at_ (k + 1) y hy
      injection hgg with hgg
      injection hgg with hgg
      subst hgg
      have hcmp := HA.out k x y hx hy
      have hcl : ∀ d os, _ := fun d os => order_any x y (grow (redrawn wr d) os)
      have hdec : decide (0 ≤ cmp2 x.key y.key) = false := decide_eq_false (by omega)
      generalize cmp2 x.key y.key = z at *
      clear hcmp hx hy
      unfold encE at hcl
      have HB := Lib.hid hb
      have e : (((k + 1 : Nat) : Int)) = (k : Int) + 1 := by omega
      have s1 : IntKind.i64.wrap ((k : Int) + 1 - 1) = (k : Int) := by rw [show (k : Int) + 1 - 1 = k by omega]; exact IntWalk.i64_in _ (by omega)
      have s5 : ((k : Int) + 1).toNat = k + 1 := by omega
      have s2 : (0 : Int) ≤ (k : Int) := by omega
      have s3 : (k : Int) < (n : Int) := by omega
      have s4 : (k : Int) + 1 < (n : Int) := by omega
      have s6 : (0 : Int) ≤ (k : Int) + 1 := by omega
      have c0 := cell_regrown ((hb.cell (p := ⟨g, _, none⟩) hg).trans c0)
      have c1 := cell_regrown ((hb.cell (p := ⟨g, _, none⟩) hg).trans c1)
      have c2 := cell_regrown ((hb.cell (p := ⟨g, _, none⟩) hg).trans c2)
      have c3 := cell_regrown ((hb.cell (p := ⟨g, _, none⟩) hg).trans c3)
      have d0 := cell_regrown ((hb.cell (p := ⟨g, _, none⟩) hg).trans d0)
      have d1 := cell_regrown ((hb.cell (p := ⟨g, _, none⟩) hg).trans d1)
      have d2 := cell_regrown ((hb.cell (p := ⟨g, _, none⟩) hg).trans d2)
      have d3 := cell_regrown ((hb.cell (p := ⟨g, _, none⟩) hg).trans d3)
      clear e hb
      go_wp2
      refine wp_region_quiet_below (by kernel_rfl) (by kernel_rfl) ?_
      repeat (any_goals (first | go_big_quiet_step ((go_at_call 30; exact Calls.regrown_of (hcl _ _))) | quiet_step ((go_at_call 30; exact Calls.regrown_of (hcl _ _))) | (refine wpQuiet_step (fun K hK => ?_); go_simp; split <;> (refine hK _ ?_; clear hK K))))
      all_goals (refine wpQuiet_nil ?_; intro _ hw'; obtain ⟨⟨dq, osq⟩, hw''⟩ := hw'; subst hw'')
      clear s1 s5
      go_wp2
      go_roundw
      case rel => exact ⟨k + 1, by go_num, .inl (by omega), HB.out.trans (below_regrown wr _ _ |>.mono HB.out.size)⟩
      case measure => simp [intOf]; omega
    · go_wp2
      go_ret
      exact ⟨rfl, hb⟩

theorem cmpClosure_any (x : Edg) (w : World) : Calls Tryz.prog 16 #[encE x] w fun e w' => e = .returned (.bool (x.acc == 0 && x.msg == 0)) ∧ Below w.heap.size w w' := by
  have HB := Lib.hid ((Below.refl w.heap.size w).alloc (Nat.le_refl _) (.cells #[.int .i64 x.frm, .int .i64 x.at', .int .i64 x.acc, .int .i64 x.msg] 52))
  unfold encE
  by_cases h : x.acc = 0
  · have h1 : (x.acc == 0) = true := by simpa using h
    clear h
    go_enter Tryz.func16, Tryz.ntmps16
    go_wp2
    go_ret
    exact ⟨ret_bool (by simp [h1]), HB.out⟩
  · have h1 : (x.acc == 0) = false := by simpa using h
    clear h
    go_enter Tryz.func16, Tryz.ntmps16
    go_wp2
    go_ret
    exact ⟨ret_bool (by simp [h1]), HB.out⟩
end Go.Proofs.YtghjhlenkgkelaaGreatDoor
