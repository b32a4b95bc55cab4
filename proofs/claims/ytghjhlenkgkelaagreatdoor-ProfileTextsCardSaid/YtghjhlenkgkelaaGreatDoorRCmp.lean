/- DERIVED. The reference's Compare (under way: the tests of a round). -/
import Derived.Test.YtghjhlenkgkelaaGreatDoorMrg
import Derived.Deep.CutBlock
import Derived.Deep.CutRange
import Derived.Deep.DeepCutAuto
set_option linter.unusedSimpArgs false
set_option linter.unusedVariables false
namespace Go.Proofs.YtghjhlenkgkelaaGreatDoor
open Go.RowKit Go.Shelf Go.Sort

set_option maxRecDepth 100000 in
set_option maxHeartbeats 1000000 in
theorem rCompare_no (A1 A2 S1 S2 : Option Addr) (n c m d s1 d1 s2 d2 f1 f2 : Nat) (xs ys : List Edg) (w : World) (hn : n ≤ 10000) (hm : m ≤ 10000) (hX : Rd encEL 4 w A1 n xs) (hY : Rd encEL 4 w A2 m ys) (hno : (ascB xs && ascB ys) = false) :
    Calls Tryz.prog 7 #[.agg #[.slice A1 n c, .slice S1 s1 d1, .float .f32 f1], .agg #[.slice A2 m d, .slice S2 s2 d2, .float .f32 f2]] w fun e w' => e = .returned (.tuple #[.slice none 0 0, .int .i64 1]) ∧ Below w.heap.size w w' := by
  have hasc1 := fun W hb => rasc_any A1 n c xs W (by omega) (hX.below hb)
  have hasc2 := fun W hb => rasc_any A2 m d ys W (by omega) (hY.below hb)
  have B0 := (BlkAt.new w 26 #[.slice A1 n c, .slice S1 s1 d1, .float .f32 f1]).alloc (.cells #[.slice A2 m d, .slice S2 s2 d2, .float .f32 f2] 26)
  have B1 := BlkAt.new (w.alloc (.cells #[.slice A1 n c, .slice S1 s1 d1, .float .f32 f1] 26)) 26 #[.slice A2 m d, .slice S2 s2 d2, .float .f32 f2]
  rw [World.size_alloc] at B1
  have hbl0 : Below w.heap.size w ((w.alloc (.cells #[.slice A1 n c, .slice S1 s1 d1, .float .f32 f1] 26)).alloc (.cells #[.slice A2 m d, .slice S2 s2 d2, .float .f32 f2] 26)) := ((Below.refl w.heap.size w).alloc (Nat.le_refl _) _).alloc (by simp) _
  have hasc1' := hasc1 _ hbl0
  have HB0 := Lib.hid B0
  have HB1 := Lib.hid B1
  have HBL0 := Lib.hid hbl0
  have HA2 := Lib.hid hasc2
  clear hX hY B0 B1 hbl0 hasc1 hasc2
  cases h1 : ascB xs with
  | false =>
    rw [h1] at hasc1'
    clear hno
    go_enter Tryz.func7, Tryz.ntmps7
    go_wp2_with (go_at_call 17
                 refine hasc1'.mono ?_
                 rintro e w1 ⟨rfl, hb1⟩
                 clear hasc1')
    go_ret2
    exact ⟨rfl, HBL0.out.trans (hb1.mono HBL0.out.size)⟩
  | true =>
    have h2 : ascB ys = false := by rw [h1] at hno; simpa using hno
    rw [h1] at hasc1'
    clear hno
    go_enter Tryz.func7, Tryz.ntmps7
    go_wp2_with (go_at_call 17
                 first
                   | (refine hasc1'.mono ?_
                      rintro e w1 ⟨rfl, hb1⟩
                      clear hasc1'
                      have q1 := HB1.out.below hb1 HB1.out.lt
                      have r1 := q1.cell 0
                      simp only [List.getElem?_toArray, List.getElem?_cons_succ, List.getElem?_cons_zero] at r1
                      have hbl1 := HBL0.out.trans (hb1.mono HBL0.out.size)
                      have hasc2' := HA2.out w1 hbl1
                      rw [h2] at hasc2'
                      have HBL1 := Lib.hid hbl1
                      clear hb1 q1 hbl1)
                   | (refine hasc2'.mono ?_
                      rintro e w2 ⟨rfl, hb2⟩
                      clear hasc2'))
    go_ret2
    exact ⟨rfl, HBL1.out.trans (hb2.mono HBL1.out.size)⟩
end Go.Proofs.YtghjhlenkgkelaaGreatDoor
