/- DERIVED. ProfileOf: the walk of the law. -/
import Derived.Test.YtghjhlenkgkelaaSame
import Derived.Test.YtghjhlenkgkelaaCounts
set_option linter.unusedSimpArgs false
set_option linter.unusedVariables false
namespace Go.Proofs.Ytghjhlenkgkelaa
open Go.RowKit Go.Shelf Go.Sort
attribute [local go_sem] run_store_float

theorem short_any (A : Option Addr) (n c : Nat) (k : Int) (w : World) (hn : n ≤ 9223372036854775807) :
    Calls Try.prog 13 #[.slice A n c, .int .i64 k] w fun e w' => e = .returned (.bool (decide ((n : Int) ≤ k) || (decide (5000 < n) && decide (n ≤ 5002)))) ∧ w' = w := by
  go_enter Try.func13, Try.ntmps13
  by_cases h1 : (n : Int) ≤ k
  · have f1 : decide ((n : Int) ≤ k) = true := decide_eq_true h1
    go_wp2
    all_goals go_ret
    all_goals exact ⟨ret_bool (by simp [h1]), rfl⟩
  · have f1 : decide ((n : Int) ≤ k) = false := decide_eq_false h1
    by_cases h2 : 5000 < n
    · have f2 : decide ((5000 : Int) < (n : Int)) = true := decide_eq_true (by omega)
      by_cases h3 : n ≤ 5002
      · have f3 : decide ((n : Int) ≤ 5002) = true := decide_eq_true (by omega)
        go_wp2
        all_goals go_ret
        all_goals exact ⟨ret_bool (by simp [h1, h2, h3]), rfl⟩
      · have f3 : decide ((n : Int) ≤ 5002) = false := decide_eq_false (by omega)
        go_wp2
        all_goals go_ret
        all_goals exact ⟨ret_bool (by simp [h1, h2, h3]), rfl⟩
    · have f2 : decide ((5000 : Int) < (n : Int)) = false := decide_eq_false (by omega)
      go_wp2
      all_goals go_ret
      all_goals exact ⟨ret_bool (by simp [h1, h2]), rfl⟩
theorem short_iff (n : Nat) (k : Int) : (decide ((n : Int) ≤ k) || (decide (5000 < n) && decide (n ≤ 5002))) = true ↔ ((n : Int) ≤ k ∨ (5000 < n ∧ n ≤ 5002)) := by simp

def OfC (tE tS : TypeId) (w : World) (e0 : Int) (es : List Edg) (sl : List Spt) (cst : Nat) (e : Ending) (w' : World) : Prop :=
  ∃ ve vs, e = .returned (.tuple #[.agg #[ve, vs, .float .f32 cst], .int .i64 e0]) ∧ w'.ownsRow w.heap.size tE 4 ve es.length (es.flatMap encEL) ∧ w'.ownsRow w.heap.size tS 7 vs sl.length (sl.flatMap encSL) ∧ Below w.heap.size w w'
def RowsL (w : World) (ms : List Value) (Ls : List (List Nat)) : Prop :=
  ms.length = Ls.length ∧ ∀ (k : Nat) (l : List Nat), Ls[k]? = some l → ∃ A c, ms[k]? = some (.slice A l.length c) ∧ Sl w intV A l.length l
def GrC (w : World) (e0 : Int) (Ls : List (List Nat)) (e : Ending) (w' : World) : Prop :=
  ∃ v ms, e = .returned (.tuple #[v, .int .i64 e0]) ∧ w'.ownsRow w.heap.size 44 1 v Ls.length ms ∧ RowsL w' ms Ls ∧ Below w.heap.size w w'
theorem RowsL.below {w w' : World} {ms : List Value} {Ls : List (List Nat)} (h : RowsL w ms Ls) (hb : Below w.heap.size w w') : RowsL w' ms Ls :=
  ⟨h.1, fun k l hk => by
    obtain ⟨A, c, h1, h2⟩ := h.2 k l hk
    exact ⟨A, c, h1, h2.below hb⟩⟩
theorem grp_c {w w' : World} {v : Value} {xs : List Acc} (h : GrpsRes w w' v xs) (hb : Below w.heap.size w w') : GrC w (givenL xs) (if givenL xs = 0 then (runR xs xs.length).map (·.1.mem) else []) (.returned (.tuple #[v, .int .i64 (givenL xs)])) w' := by
  by_cases hg : givenL xs = 0
  · rw [if_pos hg]
    obtain ⟨ms, h1, h2, h3⟩ := h.2 hg
    have hl : ((runR xs xs.length).map (·.1.mem)).length = ms.length := by rw [List.length_map, h2]
    refine ⟨v, ms, rfl, by rw [hl]; exact h1, ⟨hl.symm, fun k l hk => ?_⟩, hb⟩
    rw [List.getElem?_map] at hk
    obtain ⟨p, hp, rfl⟩ := Option.map_eq_some_iff.1 hk
    exact h3 k p hp
  · rw [if_neg hg]
    obtain rfl := h.1 hg
    exact ⟨_, [], rfl, World.ownsRow_nil _ _ _ _, ⟨rfl, by simp⟩, hb⟩

set_option maxRecDepth 100000 in
set_option maxHeartbeats 1000000 in
theorem oflaw_out (A : Option Addr) (n c mm me : Nat) (w : World) (hn : n ≤ 9223372036854775807) (h : ¬ ((n : Int) ≤ 200 ∨ (5000 < n ∧ n ≤ 5002))) :
    Calls Try.prog 5 #[.slice A n c, .agg #[.float .f32 mm, .float .f32 me]] w (True1 w) := by
  have hsh := fun W => short_any A n c 200 W hn
  rw [Bool.eq_false_iff.2 (fun h2 => h ((short_iff n 200).1 h2))] at hsh
  have HB := Lib.hid ((Below.refl w.heap.size w).alloc (Nat.le_refl _) (.cells #[.float .f32 mm, .float .f32 me] 47))
  clear h
  go_enter Try.func5, Try.ntmps5
  go_wp2_with (first
    | (go_at_call 13; refine (hsh _).mono ?_; rintro e w0 ⟨rfl, hw0⟩; replace hw0 := hw0.symm; subst hw0; clear hsh)
    | (go_at_call 9; refine (awake_any _).mono ?_; rintro e w1 ⟨rfl, hb1⟩))
  go_ret
  exact ⟨rfl, HB.out.trans (hb1.mono HB.out.size)⟩

set_option maxRecDepth 100000 in
set_option maxHeartbeats 4000000 in
theorem oflaw_core (A : Option Addr) (n c mm me : Nat) (w : World) (hn : n ≤ 9223372036854775807) (hsht : (n : Int) ≤ 200 ∨ (5000 < n ∧ n ≤ 5002)) (e0 e1 : Int) (es : List Edg) (sl : List Spt) (cst : Nat) (Ls : List (List Nat)) (hes : es.length ≤ 10000) (hsl : sl.length ≤ 10000) (hLs : Ls.length ≤ 10000) (hL : ∀ l ∈ Ls, l.length ≤ 10000)
    (H1 : ∀ W, Below w.heap.size w W → Calls Try.prog 10 #[.slice A n c, .agg #[.float .f32 mm, .float .f32 me]] W (OfC 38 41 W e0 es sl cst))
    (H2 : ∀ W, Below w.heap.size w W → Calls Try.prog 14 #[.slice A n c, .agg #[.float .f32 mm, .float .f32 me]] W (OfC 88 92 W e0 es sl cst))
    (H3 : ∀ W, Below w.heap.size w W → Calls Try.prog 11 #[.slice A n c] W (GrC W e1 Ls))
    (H4 : ∀ W, Below w.heap.size w W → Calls Try.prog 16 #[.slice A n c] W (GrC W e1 Ls)) :
    Calls Try.prog 5 #[.slice A n c, .agg #[.float .f32 mm, .float .f32 me]] w (True1 w) := by
  have hsh := fun W => short_any A n c 200 W hn
  rw [(short_iff n 200).2 hsht] at hsh
  have hb0 := (Below.refl w.heap.size w).alloc (Nat.le_refl _) (.cells #[.float .f32 mm, .float .f32 me] 47)
  have HB0 := Lib.hid hb0
  have hx := BlkAt.new w 47 #[.float .f32 mm, .float .f32 me]
  have HX := Lib.hid hx
  have h1 := H1 _ hb0
  have HH2 := Lib.hid H2
  have HH3 := Lib.hid H3
  have HH4 := Lib.hid H4
  have HLL := Lib.hid hL
  have hee : (e0 != e0) = false := bne_self_eq_false e0
  have hee1 : (e1 != e1) = false := bne_self_eq_false e1
  have hll : ((Ls.length : Int) != (Ls.length : Int)) = false := bne_self_eq_false _
  clear hsht hb0 hx H1 H2 H3 H4 hL
  go_enter Try.func5, Try.ntmps5
  go_wp2_with (first
    | (go_at_call 13; refine (hsh _).mono ?_; rintro e w0 ⟨rfl, hw0⟩; replace hw0 := hw0.symm; subst hw0; clear hsh)
    | (go_at_call 10
       refine h1.mono ?_
       rintro e w1 ⟨ve, vs, rfl, hre, hrs, hb1⟩
       clear h1
       obtain ⟨A1, c1, rfl, _, _, _⟩ := own_slice hre
       obtain ⟨A2, c2, rfl, _, _, _⟩ := own_slice hrs
       have HB1 : Hid (Below w.heap.size w (w1.alloc (.cells #[.slice A1 es.length c1, .slice A2 sl.length c2, .float .f32 cst] 28))) := Lib.hid ((HB0.out.trans (hb1.mono HB0.out.size)).alloc ((HB0.out.trans (hb1.mono HB0.out.size)).size) _)
       have hx1 := (HX.out.below hb1 (BlkAt.lt HX.out)).alloc (.cells #[.slice A1 es.length c1, .slice A2 sl.length c2, .float .f32 cst] 28)
       have HP := Lib.hid (BlkAt.new w1 28 #[.slice A1 es.length c1, .slice A2 sl.length c2, .float .f32 cst])
       have hxa := hx1.cell 0
       have hxb := hx1.cell 1
       simp only [List.getElem?_toArray, List.getElem?_cons_succ, List.getElem?_cons_zero] at hxa hxb
       have HRE := Lib.hid (hre.alloc (.cells #[.slice A1 es.length c1, .slice A2 sl.length c2, .float .f32 cst] 28))
       have HRS := Lib.hid (hrs.alloc (.cells #[.slice A1 es.length c1, .slice A2 sl.length c2, .float .f32 cst] 28))
       have h2 := HH2.out _ HB1.out
       clear hre hrs hb1 hx1)
    | (go_at_call 14
       refine h2.mono ?_
       rintro e w2 ⟨ve, vs, rfl, hre, hrs, hb2⟩
       clear h2 hxa hxb
       obtain ⟨A3, c3, rfl, _, _, _⟩ := own_slice hre
       obtain ⟨A4, c4, rfl, _, _, _⟩ := own_slice hrs
       have hb2' := hb2.alloc hb2.size (.cells #[.slice A3 es.length c3, .slice A4 sl.length c4, .float .f32 cst] 52)
       have HB2 : Hid (Below w.heap.size w (w2.alloc (.cells #[.slice A3 es.length c3, .slice A4 sl.length c4, .float .f32 cst] 52))) := Lib.hid (HB1.out.trans (hb2'.mono HB1.out.size))
       have hp := HP.out.below hb2' (BlkAt.lt HP.out)
       have hpa := hp.cell 0
       have hpb := hp.cell 1
       have hpc := hp.cell 2
       simp only [List.getElem?_toArray, List.getElem?_cons_succ, List.getElem?_cons_zero] at hpa hpb hpc
       have hsm := same_any A1 A3 A2 A4 es.length sl.length c1 c3 c2 c4 cst es sl _ _ _ _ _ (HRE.out.kept (grown_of_below (row := none) hb2') (none_or _)) (hre.alloc (.cells #[.slice A3 es.length c3, .slice A4 sl.length c4, .float .f32 cst] 52)) (HRS.out.kept (grown_of_below (row := none) hb2') (none_or _)) (hrs.alloc _) hes hsl
       clear hre hrs hb2 hb2' hp)
    | (go_at_call 15
       refine hsm.mono ?_
       rintro e w3 ⟨rfl, hb3⟩
       clear hsm hpa hpb hpc
       have HB3 : Hid (Below w.heap.size w w3) := Lib.hid (HB2.out.trans (hb3.mono HB2.out.size))
       have h3 := HH3.out _ HB3.out
       clear hb3)
    | (go_at_call 11
       refine h3.mono ?_
       rintro e w4 ⟨v, ms, rfl, hrow, hrl, hb4⟩
       clear h3
       obtain ⟨G1, d1, rfl, _, _, _⟩ := own_slice hrow
       have HB4 : Hid (Below w.heap.size w w4) := Lib.hid (HB3.out.trans (hb4.mono HB3.out.size))
       have HR1 := Lib.hid hrow
       have HL1 := Lib.hid hrl
       have h4 := HH4.out _ HB4.out
       clear hrow hrl hb4)
    | (go_at_call 16
       refine h4.mono ?_
       rintro e w5 ⟨v, ms2, rfl, hrow, hrl, hb5⟩
       clear h4
       obtain ⟨G2, d2, rfl, _, _, _⟩ := own_slice hrow
       have HB5 : Hid (Below w.heap.size w w5) := Lib.hid (HB4.out.trans (hb5.mono HB4.out.size))
       have HR1' := Lib.hid (HR1.out.kept (grown_of_below (row := none) hb5) (none_or _))
       have HL1' := Lib.hid (HL1.out.below hb5)
       have HR2 := Lib.hid hrow
       have HL2 := Lib.hid hrl
       clear hrow hrl hb5))
  go_loopw [11] (fun i wr => ∃ k : Nat, k ≤ Ls.length ∧ i = .int .i64 k ∧ Below w5.heap.size w5 wr) (fun i _ => Ls.length - (intOf i).toNat)
  case atStart => exact ⟨0, by omega, rfl, Below.refl _ _⟩
  case round => as_aux_lemma =>
    obtain ⟨k, hk, rfl, hb⟩ := hrel
    by_cases hlt : k < Ls.length
    · obtain ⟨l, hl⟩ := get_some hlt
      have hll2 := HLL.out l (List.mem_of_getElem? hl)
      obtain ⟨wo, rfl⟩ : ∃ wo : World, wo = wr := ⟨_, rfl⟩
      have r1 := HR1'.out.kept (grown_of_below (row := none) hb) (none_or _)
      have r2 := HR2.out.kept (grown_of_below (row := none) hb) (none_or _)
      obtain ⟨M1, q1, hm1, hs1⟩ := (HL1'.out.below hb).2 k l hl
      obtain ⟨M2, q2, hm2, hs2⟩ := (HL2.out.below hb).2 k l hl
      obtain ⟨g1, rfl, hg1, hc1⟩ := row_cells' r1 (by omega)
      obtain ⟨g2, rfl, hg2, hc2⟩ := row_cells' r2 (by omega)
      have a1 := hc1 k _ hm1
      have a2 := hc2 k _ hm2
      have HS1 := Lib.hid hs1
      have HS2 := Lib.hid hs2
      have hlb : ((l.length : Int) != (l.length : Int)) = false := bne_self_eq_false _
      have hk0 : (0 : Int) ≤ (k : Int) := by omega
      have hk1 : (k : Int) < (Ls.length : Int) := by omega
      have HBX := Lib.hid hb
      clear r1 r2 hm1 hm2 hs1 hs2 hc1 hc2 hl hb
      go_wp2
      go_quiet (fail)
      go_wp2
      go_loopw [12] (fun i wr => ∃ j : Nat, j ≤ l.length ∧ i = .int .i64 j ∧ Below wo.heap.size wo wr) (fun i _ => l.length - (intOf i).toNat)
      case atStart => exact ⟨0, by omega, rfl, below_draw (Below.refl _ _) _⟩
      case round =>
        obtain ⟨j, hj, rfl, hb⟩ := hrel
        have a1' := cell_below hb (Nat.le_refl _) a1
        have a2' := cell_below hb (Nat.le_refl _) a2
        by_cases hlt2 : j < l.length
        · obtain ⟨m, hm⟩ := get_some hlt2
          obtain ⟨p1, o1, rfl, _, e1⟩ := (HS1.out.below hb).at_ j m hm
          obtain ⟨p2, o2, rfl, _, e2⟩ := (HS2.out.below hb).at_ j m hm
          have hmm : ((m : Int) != (m : Int)) = false := bne_self_eq_false _
          have hj0 : (0 : Int) ≤ (j : Int) := by omega
          have hj1 : (j : Int) < (l.length : Int) := by omega
          have HBY := Lib.hid hb
          clear a1 a2 hm hb
          go_wp2
          go_quiet (fail)
          go_wp2
          go_roundw
          case rel => exact ⟨j + 1, by omega, by go_num, below_draw HBY.out _⟩
          case measure => simp [intOf]; omega
        · obtain rfl : j = l.length := by omega
          have HBY := Lib.hid hb
          have hso := HBX.out.size
          clear a1 a2 hb
          go_wp2
          go_roundw
          case rel => exact ⟨k + 1, by omega, by go_num, HBX.out.trans (HBY.out.mono hso)⟩
          case measure => simp [intOf]; omega
    · obtain rfl : k = Ls.length := by omega
      have HBX := Lib.hid (HB5.out.trans (hb.mono HB5.out.size))
      clear hb
      go_wp2_with (go_at_call 9; refine (awake_any _).mono ?_; rintro e w6 ⟨rfl, hb6⟩)
      go_ret
      exact ⟨rfl, HBX.out.trans (hb6.mono HBX.out.size)⟩
set_option maxRecDepth 100000 in
theorem Groups_many (A : Option Addr) (n c : Nat) (w : World) (hl : 5000 < n) (hm : n ≤ 9223372036854775807) :
    Calls Try.prog 11 #[.slice A n c] w fun e w' => e = .returned (.tuple #[.slice none 0 0, .int .i64 5]) ∧ Below w.heap.size w w' := by
  have hgiv := given_many A n c w hl hm
  go_enter Try.func11, Try.ntmps11
  go_wp2_with (go_at_call 22; refine hgiv.mono ?_; rintro e w1 ⟨rfl, rfl⟩; clear hgiv)
  go_ret2
  exact ⟨rfl, Below.refl _ _⟩
set_option maxRecDepth 100000 in
theorem rGroups_many (A : Option Addr) (n c : Nat) (w : World) (hl : 5000 < n) (hm : n ≤ 9223372036854775807) :
    Calls Try.prog 16 #[.slice A n c] w fun e w' => e = .returned (.tuple #[.slice none 0 0, .int .i64 5]) ∧ Below w.heap.size w w' := by
  have hgiv := refGiven_many A n c w hl hm
  go_enter Try.func16, Try.ntmps16
  go_wp2_with (go_at_call 30; refine hgiv.mono ?_; rintro e w1 ⟨rfl, rfl⟩; clear hgiv)
  go_ret2
  exact ⟨rfl, Below.refl _ _⟩
end Go.Proofs.Ytghjhlenkgkelaa
