/- DERIVED. The program's Compare of profiles that do not ascend; the law's 'sameEdges' of the same edges. -/
import Derived.Test.YtghjhlenkgkelaaGreatDoorPCmp
set_option linter.unusedSimpArgs false
set_option linter.unusedVariables false
namespace Go.Proofs.YtghjhlenkgkelaaGreatDoor
open Go.RowKit Go.Shelf Go.Sort
attribute [local go_sem] run_store_float'

set_option maxRecDepth 100000 in
set_option maxHeartbeats 1000000 in
theorem sameEdges_any (A B : Option Addr) (n c d : Nat) (es : List Edg) (w : World) (b1 b2 : Nat) (hA : w.ownsRow b1 52 4 (.slice A n c) n (es.flatMap encEL)) (hB : w.ownsRow b2 60 4 (.slice B n d) n (es.flatMap encEL)) (hl : n ≤ 10000) :
    Calls Tryz.prog 8 #[.slice A n c, .slice B n d] w fun e w' => e = .returned (.bool true) ∧ Below w.heap.size w w' := by
  have hn : n = es.length := by have := hA.1; rw [flat_len (k := 4) (fun _ => rfl)] at this; omega
  have HA := Lib.hid hA
  have HB := Lib.hid hB
  have HN := Lib.hid hn
  clear hA hB hn
  have hll : ((n : Int) != (n : Int)) = false := bne_self_eq_false _
  go_enter Tryz.func8, Tryz.ntmps8
  go_wp2
  go_loopw [5] (fun i wr => ∃ k : Nat, k ≤ n ∧ i = .int .i64 k ∧ Below w.heap.size w wr) (fun i _ => n - (intOf i).toNat)
  case atStart => exact ⟨0, by omega, rfl, Below.refl _ _⟩
  case round =>
    obtain ⟨k, hk, rfl, hb⟩ := hrel
    by_cases hlt : k < n
    · obtain ⟨x, hx⟩ := get_some (xs := es) (k := k) (by rw [← HN.out]; omega)
      have r1 := HA.out.kept (grown_of_below (row := none) hb) (none_or _)
      have r2 := HB.out.kept (grown_of_below (row := none) hb) (none_or _)
      obtain ⟨g1, rfl, _, hc1⟩ := row_cells r1 (by omega)
      obtain ⟨g2, rfl, _, hc2⟩ := row_cells r2 (by omega)
      have hc1 := fun (i : Nat) (u : Value) (hu : (encEL x)[i]? = some u) => hc1 _ _ (flat_at (enc := encEL) (k := 4) (fun _ => rfl) hx hu)
      have hc2 := fun (i : Nat) (u : Value) (hu : (encEL x)[i]? = some u) => hc2 _ _ (flat_at (enc := encEL) (k := 4) (fun _ => rfl) hx hu)
      have a0 := hc1 0 _ rfl
      have a1 := hc1 1 _ rfl
      have a2 := hc1 2 _ rfl
      have a3 := hc1 3 _ rfl
      have b0 := hc2 0 _ rfl
      have b1 := hc2 1 _ rfl
      have b2 := hc2 2 _ rfl
      have b3 := hc2 3 _ rfl
      rw [Nat.add_zero] at a0 b0
      have f0 : (x.frm != x.frm) = false := bne_self_eq_false _
      have f1 : (x.at' != x.at') = false := bne_self_eq_false _
      have f2 : (x.acc != x.acc) = false := bne_self_eq_false _
      have f3 : (x.msg != x.msg) = false := bne_self_eq_false _
      have hk0 : (0 : Int) ≤ (k : Int) := by omega
      have hk1 : (k : Int) < (n : Int) := by omega
      have HBX := Lib.hid hb
      clear hc1 hc2 r1 r2 hx hb
      go_wp2
      go_quiet (fail)
      go_wp2
      go_roundw
      case rel => exact ⟨k + 1, by omega, by go_num, below_draw HBX.out _⟩
      case measure => simp [intOf]; omega
    · obtain rfl : k = n := by omega
      go_wp2
      go_ret
      exact ⟨rfl, hb⟩

set_option maxRecDepth 100000 in
set_option maxHeartbeats 1000000 in
theorem Compare_no (A1 A2 S1 S2 : Option Addr) (n c m d s1 d1 s2 d2 f1 f2 : Nat) (xs ys : List Edg) (w : World) (hn : n ≤ 10000) (hm : m ≤ 10000) (hX : ERow w A1 n xs) (hY : ERow w A2 m ys) (hno : (ascB xs && ascB ys) = false) :
    Calls Tryz.prog 5 #[.agg #[.slice A1 n c, .slice S1 s1 d1, .float .f32 f1], .agg #[.slice A2 m d, .slice S2 s2 d2, .float .f32 f2]] w fun e w' => e = .returned (.tuple #[.slice none 0 0, .int .i64 1]) ∧ Below w.heap.size w w' := by
  have hasc1 := fun W hb => pasc_any A1 n c xs W (by omega) (hX.below hb)
  have hasc2 := fun W hb => pasc_any A2 m d ys W (by omega) (hY.below hb)
  have B0 := (BlkAt.new w 34 #[.slice A1 n c, .slice S1 s1 d1, .float .f32 f1]).alloc (.cells #[.slice A2 m d, .slice S2 s2 d2, .float .f32 f2] 34)
  have B1 := BlkAt.new (w.alloc (.cells #[.slice A1 n c, .slice S1 s1 d1, .float .f32 f1] 34)) 34 #[.slice A2 m d, .slice S2 s2 d2, .float .f32 f2]
  rw [World.size_alloc] at B1
  have hbl0 : Below w.heap.size w ((w.alloc (.cells #[.slice A1 n c, .slice S1 s1 d1, .float .f32 f1] 34)).alloc (.cells #[.slice A2 m d, .slice S2 s2 d2, .float .f32 f2] 34)) := ((Below.refl w.heap.size w).alloc (Nat.le_refl _) _).alloc (by simp) _
  have hasc1' := hasc1 _ hbl0
  have HB0 := Lib.hid B0
  have HB1 := Lib.hid B1
  have HBL0 := Lib.hid hbl0
  have HA2 := Lib.hid hasc2
  clear hX hY B0 B1 hbl0 hasc1 hasc2
  cases h1 : ascB xs with
  | false =>
    rw [h1] at hasc1'
    clear hno
    go_enter Tryz.func5, Tryz.ntmps5
    go_wp2_with (go_at_call 12
                 refine hasc1'.mono ?_
                 rintro e w1 ⟨rfl, hb1⟩
                 clear hasc1')
    go_ret2
    exact ⟨rfl, HBL0.out.trans (hb1.mono HBL0.out.size)⟩
  | true =>
    have h2 : ascB ys = false := by rw [h1] at hno; simpa using hno
    rw [h1] at hasc1'
    clear hno
    go_enter Tryz.func5, Tryz.ntmps5
    go_wp2_with (go_at_call 12
                 first
                   | (refine hasc1'.mono ?_
                      rintro e w1 ⟨rfl, hb1⟩
                      clear hasc1'
                      have q1 := HB1.out.below hb1 HB1.out.lt
                      have r1 := q1.cell 0
                      simp only [List.getElem?_toArray, List.getElem?_cons_succ, List.getElem?_cons_zero] at r1
                      have hbl1 := HBL0.out.trans (hb1.mono HBL0.out.size)
                      have hasc2' := HA2.out w1 hbl1
                      rw [h2] at hasc2'
                      have HBL1 := Lib.hid hbl1
                      clear hb1 q1 hbl1)
                   | (refine hasc2'.mono ?_
                      rintro e w2 ⟨rfl, hb2⟩
                      clear hasc2'))
    go_ret2
    exact ⟨rfl, HBL1.out.trans (hb2.mono HBL1.out.size)⟩
end Go.Proofs.YtghjhlenkgkelaaGreatDoor
