/- DERIVED. The program's 'ascends', of any edges. -/
import Derived.Test.YtghjhlenkgkelaaGreatDoorRAsc
import Derived.Test.YtghjhlenkgkelaaGreatDoorChg2
set_option linter.unusedSimpArgs false
set_option linter.unusedVariables false
namespace Go.Proofs.YtghjhlenkgkelaaGreatDoor
open Go.RowKit Go.Shelf Go.Sort

theorem cmp2_neg (x y : K2) : cmp2 x y < 0 ↔ lt2 x y := by
  rw [← cmp2_lt]; simp [Go.Proofs.ltOf]
set_option maxRecDepth 100000 in
set_option maxHeartbeats 1000000 in
theorem pasc_any (A : Option Addr) (n c : Nat) (es : List Edg) (w : World) (hn : n ≤ 1000000) (hE : ERow w A n es) :
    Calls Tryz.prog 12 #[.slice A n c] w fun e w' => e = .returned (.bool (ascB es)) ∧ Below w.heap.size w w' := by
  have HL := Lib.hid hE.len
  go_enter Tryz.func12, Tryz.ntmps12
  go_wp2
  go_loopw [3] (fun i wr => ∃ k : Nat, i = .int .i64 (k + 1) ∧ (k + 1 ≤ n ∨ k = 0) ∧ Hid (∀ (j : Nat) (x y : Edg), j < k → es[j]? = some x → es[j + 1]? = some y → lt2 ⟨x.frm, x.at'⟩ ⟨y.frm, y.at'⟩) ∧ Below w.heap.size w wr) (fun i _ => n - (intOf i).toNat)
  case atStart => exact ⟨0, rfl, by omega, Lib.hid (by intro j x y h; omega), Below.refl _ _⟩
  case round =>
    obtain ⟨k, rfl, hk, HJ, hb⟩ := hrel
    by_cases hlt : k + 1 < n
    · obtain ⟨x, hx⟩ := get_some (xs := es) (k := k) (by rw [← HL.out]; omega)
      obtain ⟨y, hy⟩ := get_some (xs := es) (k := k + 1) (by rw [← HL.out]; omega)
      obtain ⟨g, rfl, hg, c0, c1, c2, c3⟩ := hE.at_ k x hx
      obtain ⟨g', hgg, hg', d0, d1, d2, d3⟩ := hE.at_ (k + 1) y hy
      injection hgg with hgg
      injection hgg with hgg
      subst hgg
      have hcl : ∀ d os, _ := fun d os => order_any x y (grow (redrawn wr d) os)
      have HNO : Hid (¬ cmp2 x.key y.key < 0 → ascB es = false) := Lib.hid (fun h => ascB_no (fun ha => h ((cmp2_neg _ _).2 (ha k x y hx hy))))
      have HGO : Hid (cmp2 x.key y.key < 0 → ∀ (j : Nat) (u v : Edg), j < k + 1 → es[j]? = some u → es[j + 1]? = some v → lt2 ⟨u.frm, u.at'⟩ ⟨v.frm, v.at'⟩) := Lib.hid (fun h j u v hj hu hv => by
        rcases Nat.lt_or_ge j k with h1 | h1
        · exact HJ.out j u v h1 hu hv
        · obtain rfl : j = k := by omega
          rw [hx] at hu; injection hu with hu
          rw [hy] at hv; injection hv with hv
          rw [← hu, ← hv]; exact (cmp2_neg _ _).1 h)
      generalize cmp2 x.key y.key = z at *
      clear hx hy
      unfold encE at hcl
      have HB := Lib.hid hb
      have s1 : IntKind.i64.wrap ((k : Int) + 1 - 1) = (k : Int) := by rw [show (k : Int) + 1 - 1 = k by omega]; exact IntWalk.i64_in _ (by omega)
      have s5 : ((k : Int) + 1).toNat = k + 1 := by omega
      have s2 : (0 : Int) ≤ (k : Int) := by omega
      have s3 : (k : Int) < (n : Int) := by omega
      have s4 : (k : Int) + 1 < (n : Int) := by omega
      have s6 : (0 : Int) ≤ (k : Int) + 1 := by omega
      have c0 := cell_regrown ((hb.cell (p := ⟨g, _, none⟩) hg).trans c0)
      have c1 := cell_regrown ((hb.cell (p := ⟨g, _, none⟩) hg).trans c1)
      have c2 := cell_regrown ((hb.cell (p := ⟨g, _, none⟩) hg).trans c2)
      have c3 := cell_regrown ((hb.cell (p := ⟨g, _, none⟩) hg).trans c3)
      have d0 := cell_regrown ((hb.cell (p := ⟨g, _, none⟩) hg).trans d0)
      have d1 := cell_regrown ((hb.cell (p := ⟨g, _, none⟩) hg).trans d1)
      have d2 := cell_regrown ((hb.cell (p := ⟨g, _, none⟩) hg).trans d2)
      have d3 := cell_regrown ((hb.cell (p := ⟨g, _, none⟩) hg).trans d3)
      clear hb
      by_cases hz : z < 0
      · have hdec : decide (0 ≤ z) = false := decide_eq_false (by omega)
        have HNN := Lib.hid (HGO.out hz)
        clear hz
        go_wp2
        refine wp_region_quiet_below (by kernel_rfl) (by kernel_rfl) ?_
        repeat (any_goals (first | go_big_quiet_step ((go_at_call 30; exact Calls.regrown_of (hcl _ _))) | quiet_step ((go_at_call 30; exact Calls.regrown_of (hcl _ _))) | (refine wpQuiet_step (fun K hK => ?_); go_simp; split <;> (refine hK _ ?_; clear hK K))))
        all_goals (refine wpQuiet_nil ?_; intro _ hw'; obtain ⟨⟨dq, osq⟩, hw''⟩ := hw'; subst hw'')
        clear s1 s5
        go_wp2
        go_roundw
        case rel => exact ⟨k + 1, by go_num, .inl (by omega), HNN, HB.out.trans (below_regrown wr _ _ |>.mono HB.out.size)⟩
        case measure => simp [intOf]; omega
      · have hdec : decide (0 ≤ z) = true := decide_eq_true (by omega)
        have HNN := Lib.hid (HNO.out hz)
        clear hz
        go_wp2
        refine wp_region_quiet_below (by kernel_rfl) (by kernel_rfl) ?_
        repeat (any_goals (first | go_big_quiet_step ((go_at_call 30; exact Calls.regrown_of (hcl _ _))) | quiet_step ((go_at_call 30; exact Calls.regrown_of (hcl _ _))) | (refine wpQuiet_step (fun K hK => ?_); go_simp; split <;> (refine hK _ ?_; clear hK K))))
        all_goals (refine wpQuiet_nil ?_; intro _ hw'; obtain ⟨⟨dq, osq⟩, hw''⟩ := hw'; subst hw'')
        clear s1 s5
        go_wp2
        go_ret
        exact ⟨ret_bool HNN.out.symm, HB.out.trans (below_regrown wr _ _ |>.mono HB.out.size)⟩
    · have hall : ascB es = true := by
        refine ascB_yes (fun j x y hx hy => HJ.out j x y ?_ hx hy)
        have := (List.getElem?_eq_some_iff.1 hy).1
        have := HL.out
        omega
      have HAL := Lib.hid hall
      clear hall
      go_wp2
      go_ret
      exact ⟨ret_bool HAL.out.symm, hb⟩
end Go.Proofs.YtghjhlenkgkelaaGreatDoor
