/- DERIVED. The reference's 'ascends', of any edges. -/
import Derived.Test.YtghjhlenkgkelaaGreatDoorGv
set_option linter.unusedSimpArgs false
set_option linter.unusedVariables false
namespace Go.Proofs.YtghjhlenkgkelaaGreatDoor
open Go.RowKit Go.Shelf Go.Sort

/-- whether edges strictly ascend -/
def AscL (es : List Edg) : Prop := ∀ (k : Nat) (x y : Edg), es[k]? = some x → es[k + 1]? = some y → lt2 ⟨x.frm, x.at'⟩ ⟨y.frm, y.at'⟩
open Classical in
noncomputable def ascB (es : List Edg) : Bool := decide (AscL es)
theorem ascB_yes {es : List Edg} (h : AscL es) : ascB es = true := by simp [ascB, h]
theorem ascB_no {es : List Edg} (h : ¬ AscL es) : ascB es = false := by simp [ascB, h]

set_option maxRecDepth 100000 in
set_option maxHeartbeats 2000000 in
theorem rasc_any (A : Option Addr) (n c : Nat) (es : List Edg) (w : World) (hn : n ≤ 1000000) (hE : Rd encEL 4 w A n es) :
    Calls Tryz.prog 17 #[.slice A n c] w fun e w' => e = .returned (.bool (ascB es)) ∧ Below w.heap.size w w' := by
  have HL := Lib.hid hE.len
  have HE := Lib.hid hE
  clear hE
  go_enter Tryz.func17, Tryz.ntmps17
  go_wp2
  go_loopw [3] (fun i wr => ∃ k : Nat, i = .int .i64 (k + 1) ∧ (k + 1 ≤ n ∨ k = 0) ∧ Hid (∀ (j : Nat) (x y : Edg), j < k → es[j]? = some x → es[j + 1]? = some y → lt2 ⟨x.frm, x.at'⟩ ⟨y.frm, y.at'⟩) ∧ Below w.heap.size w wr) (fun i _ => n - (intOf i).toNat)
  case atStart => exact ⟨0, rfl, by omega, Lib.hid (by intro j x y h; omega), Below.refl _ _⟩
  case round =>
    obtain ⟨k, rfl, hk, HJ, hb⟩ := hrel
    by_cases hlt : k + 1 < n
    · obtain ⟨x, hx⟩ := get_some (xs := es) (k := k) (by rw [← HL.out]; omega)
      obtain ⟨y, hy⟩ := get_some (xs := es) (k := k + 1) (by rw [← HL.out]; omega)
      obtain ⟨b, o, rfl, _, hc⟩ := (HE.out.below hb).at_ k x hx
      obtain ⟨b', o', he, _, hd⟩ := (HE.out.below hb).at_ (k + 1) y hy
      injection he with he
      injection he with he1 he2
      subst he1 he2
      have c0 := hc 0 _ rfl
      have c1 := hc 1 _ rfl
      have d0 := hd 0 _ rfl
      have d1 := hd 1 _ rfl
      rw [Nat.add_zero] at c0 d0
      have s1 : IntKind.i64.wrap ((k : Int) + 1 - 1) = (k : Int) := by rw [show (k : Int) + 1 - 1 = k by omega]; exact IntWalk.i64_in _ (by omega)
      have s5 : ((k : Int) + 1).toNat = k + 1 := by omega
      have s2 : (0 : Int) ≤ (k : Int) := by omega
      have s3 : (k : Int) < (n : Int) := by omega
      have s4 : (k : Int) + 1 < (n : Int) := by omega
      have s6 : (0 : Int) ≤ (k : Int) + 1 := by omega
      have HX := Lib.hid hx
      have HY := Lib.hid hy
      have HB := Lib.hid hb
      have HNO : Hid (¬ lt2 ⟨x.frm, x.at'⟩ ⟨y.frm, y.at'⟩ → ascB es = false) := Lib.hid (fun h => by
        exact ascB_no (fun ha => h (ha k x y hx hy)))
      have HGO : Hid (lt2 ⟨x.frm, x.at'⟩ ⟨y.frm, y.at'⟩ → ∀ (j : Nat) (u v : Edg), j < k + 1 → es[j]? = some u → es[j + 1]? = some v → lt2 ⟨u.frm, u.at'⟩ ⟨v.frm, v.at'⟩) := Lib.hid (fun h j u v hj hu hv => by
        rcases Nat.lt_or_ge j k with h1 | h1
        · exact HJ.out j u v h1 hu hv
        · obtain rfl : j = k := by omega
          rw [hx] at hu; injection hu with hu
          rw [hy] at hv; injection hv with hv
          rw [← hu, ← hv]; exact h)
      clear hc hd hx hy hb
      by_cases h1 : y.frm < x.frm
      · have f1 : decide (y.frm < x.frm) = true := decide_eq_true h1
        have HNN := Lib.hid (HNO.out (by unfold lt2; simp only; omega))
        clear h1
        go_wp2
        go_quiet (fail)
        go_wp2
        go_ret
        exact ⟨ret_bool HNN.out.symm, below_draw HB.out _⟩
      · have f1 : decide (y.frm < x.frm) = false := decide_eq_false h1
        by_cases h2 : x.frm = y.frm
        · have f2 : (x.frm == y.frm) = true := by simpa using h2
          by_cases h3 : y.at' ≤ x.at'
          · have f3 : decide (y.at' ≤ x.at') = true := decide_eq_true h3
            have HNN := Lib.hid (HNO.out (by unfold lt2; simp only; omega))
            clear h1 h2 h3
            go_wp2
            go_quiet (fail)
            go_wp2
            go_ret
            exact ⟨ret_bool HNN.out.symm, below_draw HB.out _⟩
          · have f3 : decide (y.at' ≤ x.at') = false := decide_eq_false h3
            have HNN := Lib.hid (HGO.out (by unfold lt2; simp only; omega))
            clear h1 h2 h3
            go_wp2
            go_quiet (fail)
            go_wp2
            go_roundw
            case rel => exact ⟨k + 1, by go_num, by omega, HNN, below_draw HB.out _⟩
            case measure => simp [intOf]; omega
        · have f2 : (x.frm == y.frm) = false := by simpa using h2
          have HNN := Lib.hid (HGO.out (by unfold lt2; simp only; omega))
          clear h1 h2
          go_wp2
          go_quiet (fail)
          go_wp2
          go_roundw
          case rel => exact ⟨k + 1, by go_num, by omega, HNN, below_draw HB.out _⟩
          case measure => simp [intOf]; omega
    · have hall : ascB es = true := by
        refine ascB_yes (fun j x y hx hy => HJ.out j x y ?_ hx hy)
        have := (List.getElem?_eq_some_iff.1 hy).1
        have := HL.out
        omega
      have HAL := Lib.hid hall
      clear hall
      go_wp2
      go_ret
      exact ⟨ret_bool HAL.out.symm, hb⟩
end Go.Proofs.YtghjhlenkgkelaaGreatDoor
