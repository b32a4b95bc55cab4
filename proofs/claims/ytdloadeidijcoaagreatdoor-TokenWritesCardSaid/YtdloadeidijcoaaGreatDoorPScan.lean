/- DERIVED. The program's Scan. -/
import Derived.Test.YtdloadeidijcoaaGreatDoorPApp
set_option linter.unusedSimpArgs false
set_option linter.unusedVariables false
namespace Go.Proofs.YtdloadeidijcoaaGreatDoor
open Go.RowKit Go.Shelf Go

set_option maxHeartbeats 1000000 in
theorem all_any (X : Nat) (w : World) : Calls Tryz.prog 32 #[pX X] w fun e w' => e = .returned (.func (.func 46) #[] #[.pointer (some ⟨w.heap.size, 0, none⟩)]) ∧ w' = w.alloc (.cells #[pX X] 60) := by
  unfold pX
  go_enter Tryz.func32, Tryz.ntmps32
  go_wp2
  go_ret
  exact ⟨rfl, rfl⟩
set_option maxHeartbeats 1000000 in
theorem collect_any (t : List UInt8) (X Bx K0 : Nat) (ht : t.length ≤ 1000000) (hX : Off X) (hXK : X < K0) (hBK : Bx < K0) (hXB : X ≠ Bx) (hVL : VLow K0) (w : World) (hK0 : K0 ≤ w.heap.size) (h : StartX t X Bx K0 w) :
    Calls Tryz.prog 31 #[.func (.func 46) #[] #[.pointer (some ⟨Bx, 0, none⟩)]] w fun e w' => ∃ (v : Value) (ss : List Tok), e = .returned v ∧ DoneX t X ss w' ∧ w'.ownsRow w.heap.size PT 4 v ss.length (ss.flatMap encTL) ∧ w.grownBy w' (some X) := by
  have ha := callsIn_wide.1 (pappend 3 (by omega) t X Bx K0 ht hX hXK hBK hXB hVL w hK0 h)
  clear h hVL
  go_enter Tryz.func31, Tryz.ntmps31
  go_wp2_with (go_at_call 45; refine ha.mono ?_; rintro e w2 ⟨v, ss, rfl, hd, hr, hg⟩; clear ha)
  go_ret
  exact ⟨v, ss, rfl, hd, hr, hg⟩
set_option maxRecDepth 100000 in
set_option maxHeartbeats 4000000 in
theorem pscan_any (t : List UInt8) (w : World) (ht : t.length ≤ 40000) (hV : Vars w) :
    Calls Tryz.prog 13 #[strV t] w fun e w' => ScanRes PT w w' e (scanL t.length t) ∧ Below w.heap.size w w' := by
  obtain ⟨w1, hw1⟩ : ∃ w1, w.alloc (.cells #[.string ⟨t.toArray⟩, .int .i64 0, .int .i64 0] SC) = w1 := ⟨_, rfl⟩
  have hs1 : w1.heap.size = w.heap.size + 1 := by rw [← hw1]; simp
  have hb1 : Below w.heap.size w w1 := by rw [← hw1]; exact (Below.refl _ w).alloc (Nat.le_refl _) _
  have hsc1 : ScAt w1 w.heap.size t 0 0 := by rw [← hw1]; exact BlkAt.new _ _ _
  have hX : Off w.heap.size := hV.off (Nat.le_refl _)
  have hV1 := hV.below hb1
  have hall := all_any w.heap.size w1
  obtain ⟨w2, hw2⟩ : ∃ w2, w1.alloc (.cells #[pX w.heap.size] 60) = w2 := ⟨_, rfl⟩
  have hb2 : Below w1.heap.size w1 w2 := by rw [← hw2]; exact (Below.refl _ w1).alloc (Nat.le_refl _) _
  have hs2 : w2.heap.size = w.heap.size + 2 := by rw [← hw2]; simp [hs1]
  have hst : StartX t w.heap.size w1.heap.size (w.heap.size + 2) w2 := ⟨hsc1.below hb2, by rw [← hw2]; exact BlkAt.new _ _ _, hV1.below hb2, by omega⟩
  have hco := collect_any t w.heap.size w1.heap.size (w.heap.size + 2) (by omega) hX (by omega) (by omega) (by omega) ((hV1.below hb2).low (by omega)) w2 (by omega) hst
  rw [hw2] at hall
  have HB2 := Lib.hid (hb1.trans (hb2.mono (by omega)))
  rw [hs1] at hall hco
  have HSZ := Lib.hid hs2
  clear hst hV hV1 hb1 hb2 hsc1 hw2 hX
  unfold pX at hall
  unfold strV
  have f40 : decide ((40000 : Int) < (t.length : Int)) = false := decide_eq_false (by omega)
  go_enter Tryz.func13, Tryz.ntmps13
  go_wp2_with (go_at_call 32; refine hall.mono ?_; rintro e w' ⟨rfl, rfl⟩; clear hall)
  refine hco.mono ?_
  rintro e w3 ⟨v, ss, rfl, ⟨k, er, hs3, hcase⟩, hr, hg⟩
  have HR := Lib.hid hr
  have HB3 := Lib.hid (HB2.out.grown hg (by rw [HSZ.out]; omega) (fun j e => by cases e; exact Nat.le_refl _))
  have hc1 := hs3.c1
  have hc2 := hs3.c2
  clear hco hr hg hs3
  rcases hcase with ⟨rfl, hsc⟩ | ⟨hne, i, rfl, hi, hsc⟩
  · have HSC := Lib.hid hsc
    clear hsc
    go_wp2
    go_ret3
    rw [HSC.out]
    exact ⟨⟨v, rfl, own_base HR.out (by rw [HSZ.out]; omega)⟩, HB3.out⟩
  · have HSC := Lib.hid hsc
    have hneb : (er != 0) = true := bne_iff_ne.2 hne
    clear hsc hne
    go_wp2_with fail
    go_region
    go_wp2
    go_ret3
    rw [HSC.out]
    exact ⟨rfl, below_draw HB3.out _⟩
set_option maxHeartbeats 1000000 in
theorem pscan_large (t : List UInt8) (w : World) (ht : 40000 < t.length) :
    Calls Tryz.prog 13 #[strV t] w fun e w' => e = .returned (.tuple #[.slice none 0 0, .int .i64 0, .int .i64 7]) ∧ w = w' := by
  unfold strV
  have f40 : decide ((40000 : Int) < (t.length : Int)) = true := decide_eq_true (by omega)
  go_enter Tryz.func13, Tryz.ntmps13
  go_wp2
  go_ret3
  exact ⟨rfl, rfl⟩
set_option maxHeartbeats 1000000 in
theorem rscan_large (t : List UInt8) (w : World) (ht : 40000 < t.length) :
    Calls Tryz.prog 43 #[strV t] w fun e w' => e = .returned (.tuple #[.slice none 0 0, .int .i64 0, .int .i64 7]) ∧ w = w' := by
  unfold strV
  have f40 : decide ((40000 : Int) < (t.length : Int)) = true := decide_eq_true (by omega)
  go_enter Tryz.func43, Tryz.ntmps43
  go_wp2
  go_ret3
  exact ⟨rfl, rfl⟩
end Go.Proofs.YtdloadeidijcoaaGreatDoor
