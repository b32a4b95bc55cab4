/- DERIVED. few: are there few tokens with short texts? -/
import Derived.Test.YtdloadeidijcoaaGreatDoorRdS
import Derived.Test.YtdloadeidijcoaaGreatDoorAwake
set_option linter.unusedSimpArgs false
set_option linter.unusedVariables false
namespace Go.Proofs.YtdloadeidijcoaaGreatDoor
open Go.RowKit Go.Shelf

def sumT : List Tok → Nat
  | [] => 0
  | x :: r => x.text.length + sumT r
theorem sumT_snoc : ∀ (l : List Tok) (x : Tok), sumT (l ++ [x]) = sumT l + x.text.length
  | [], x => by simp [sumT]
  | y :: r, x => by simp only [List.cons_append, sumT, sumT_snoc r x]; omega
theorem sumT_le {m : Nat} : ∀ (l : List Tok), (∀ y ∈ l, y.text.length ≤ m) → sumT l ≤ l.length * m
  | [], _ => by simp [sumT]
  | x :: r, h => by
    have := sumT_le r fun y hy => h y (List.mem_cons_of_mem _ hy)
    have := h x List.mem_cons_self
    simp only [sumT, List.length_cons, Nat.succ_mul]; omega
theorem mem_len {m : Nat} : ∀ (l : List Tok) (x : Tok), x ∈ l → sumT l ≤ m → x.text.length ≤ m
  | y :: r, x, hx, h => by
    simp only [sumT] at h
    rcases List.mem_cons.1 hx with rfl | hx
    · omega
    · exact mem_len r x hx (by omega)
def fewB (l : List Tok) : Bool := decide (l.length ≤ 300) && decide (sumT l ≤ 2000)
/-- the sum so far: known where there are few tokens -/
def SumAt (l : List Tok) (i : Nat) (S : Int) : Prop := l.length ≤ 300 → S = sumT (l.take i)
theorem SumAt.next {l : List Tok} {i : Nat} {S : Int} {x : Tok} (h : SumAt l i S) (hx : l[i]? = some x) (hw : ∀ y ∈ l, y.text.length ≤ 140737488355328) : SumAt l (i + 1) (IntKind.i64.wrap (S + x.text.length)) := by
  intro hn
  rw [h hn, List.take_add_one, hx]
  show _ = ((sumT (l.take i ++ [x]) : Nat) : Int)
  rw [sumT_snoc]
  have h1 := sumT_le (m := 140737488355328) (l.take i) fun y hy => hw y (List.mem_of_mem_take hy)
  have h2 := hw x (List.mem_of_getElem? hx)
  rw [List.length_take] at h1
  have h3 : min i l.length * 140737488355328 ≤ 300 * 140737488355328 := Nat.mul_le_mul_right _ (by omega)
  rw [Int.natCast_add]
  exact IntWalk.i64_in _ (by omega)
set_option maxRecDepth 100000 in
set_option maxHeartbeats 4000000 in
theorem few_any (A : Option Addr) (n c : Nat) (l : List Tok) (w : World) (hR : Rd encTL 4 w A n l) (hn : n ≤ 10000000000000) (hw : ∀ y ∈ l, y.text.length ≤ 140737488355328) :
    Calls Tryz.prog 4 #[.slice A n c] w fun e w' => e = .returned (.bool (fewB l)) ∧ Below w.heap.size w w' := by
  have HA := Lib.hid hR
  have hln := hR.len
  have HLN := Lib.hid hln
  have HWT := Lib.hid hw
  clear hR hw hln
  go_enter Tryz.func4, Tryz.ntmps4
  go_wp2_with fail
  go_loopw [3, 8] (fun a v wr => ∃ (i : Nat) (S : Int), i ≤ n ∧ a = .int .i64 S ∧ v = .int .i64 i ∧ Hid (SumAt l i S) ∧ Hid (Below w.heap.size w wr)) (fun _ v _ => n - (intOf v).toNat)
  case atStart => exact ⟨0, 0, by omega, rfl, rfl, Lib.hid (fun _ => by simp [sumT]), Lib.hid (Below.refl _ _)⟩
  case round =>
    obtain ⟨i, S, hi, rfl, rfl, HS, HW⟩ := hrel
    by_cases hlt : i < n
    · obtain ⟨x, hx⟩ := get_some (xs := l) (k := i) (by rw [← HLN.out]; omega)
      obtain ⟨b, o, rfl, _, hc⟩ := (HA.out.below HW.out).at_ i x hx
      have c0 := hc 0 _ rfl
      have c1 := hc 1 _ rfl
      have c2 := hc 2 _ rfl
      have c3 := hc 3 _ rfl
      rw [Nat.add_zero] at c0
      unfold strV at c1
      have hk0 : (0 : Int) ≤ (i : Int) := by omega
      have hk1 : (i : Int) < (n : Int) := by omega
      have HS2 := Lib.hid (HS.out.next hx HWT.out)
      have HW2 := Lib.hid (HW.out.alloc HW.out.size (.cells #[.int .i64 x.kind, .string ⟨x.text.toArray⟩, .int .i64 x.value, .int .i64 x.at_] 26))
      clear hx hc
      go_wp2_with fail
      go_round
      case rel => exact ⟨i + 1, _, by omega, rfl, by go_num, (by first | exact HS2 | (rw [← IntWalk.i64_left]; exact HS2)), HW2⟩
      case measure => simp [intOf]; omega
    · obtain rfl : i = n := by omega
      have HF : Hid (fewB l = (decide ((i : Int) ≤ 300) && decide (S ≤ 2000))) := Lib.hid (by
        have h1 := HLN.out
        have h2 := HS.out
        unfold fewB
        by_cases h : l.length ≤ 300
        · have h3 := h2 h
          rw [h1, List.take_length] at h3
          rw [h3, decide_eq_true h, show decide ((i : Int) ≤ 300) = true from decide_eq_true (by omega)]
          by_cases h4 : sumT l ≤ 2000
          · rw [decide_eq_true h4, show decide (((sumT l : Nat) : Int) ≤ 2000) = true from decide_eq_true (by omega)]
          · rw [decide_eq_false h4, show decide (((sumT l : Nat) : Int) ≤ 2000) = false from decide_eq_false (by omega)]
        · rw [decide_eq_false h, show decide ((i : Int) ≤ 300) = false from decide_eq_false (by omega)]; rfl)
      cases hb1 : decide ((i : Int) ≤ 300) <;> cases hb2 : decide (S ≤ 2000) <;> rw [hb1, hb2] at HF <;>
      · go_wp2_with fail
        go_ret
        exact ⟨ret_bool (by rw [HF.out]; rfl), HW.out⟩
end Go.Proofs.YtdloadeidijcoaaGreatDoor
