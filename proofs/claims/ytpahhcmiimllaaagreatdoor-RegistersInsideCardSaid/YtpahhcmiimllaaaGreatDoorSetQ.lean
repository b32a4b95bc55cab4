/- DERIVED. Sets of registers: Clone, Equal, the lowest bit. -/
import Derived.Test.YtpahhcmiimllaaaGreatDoorCd
import Derived.Test.YtpahhcmiimllaaaGreatDoorSpecAll
import Derived.Laws.Bits64b
import Derived.Laws.Bits64
import Derived.Laws.MakeOwn
import Derived.Shelf.Spec.TrailingZeros
import Derived.Laws.AppendOwnNone
import Derived.Lib.QuietBelow
set_option linter.unusedSimpArgs false
set_option linter.unusedVariables false
namespace Go.Proofs.YtpahhcmiimllaaaGreatDoor
open Go.RowKit

def encU (x : Nat) : List Value := [.int .u64 x]
theorem encU_len (x : Nat) : (encU x).length = 1 := rfl
/-- the words of a set in block g, from its first cell on -/
def RowW (w : World) (g : Nat) (ws : List Nat) : Prop := ∃ cs, BlkAt w g 128 cs ∧ ∀ (j x : Nat), ws[j]? = some x → cs[j]? = some (.int .u64 x)
theorem RowW.lt {w : World} {g : Nat} {ws : List Nat} (h : RowW w g ws) : g < w.heap.size := by obtain ⟨cs, h, _⟩ := h; exact h.lt
theorem RowW.cell {w : World} {g : Nat} {ws : List Nat} (h : RowW w g ws) (j x : Nat) (hj : ws[j]? = some x) : w.cell? ⟨g, j, none⟩ = some (.int .u64 x) := by
  obtain ⟨cs, h, hc⟩ := h
  rw [h.cell j]; exact hc j x hj
theorem RowW.frz {w : World} {g : Nat} {ws : List Nat} (h : RowW w g ws) (j : Nat) : w.frozen? ⟨g, j, none⟩ = false := by
  obtain ⟨cs, h, _⟩ := h
  exact h.frozen j
theorem RowW.kept {w w' : World} {g : Nat} {ws : List Nat} {row : Option Nat} (h : RowW w g ws) (hg : w.grownBy w' row) (hne : some g ≠ row) : RowW w' g ws := by
  obtain ⟨cs, h, hc⟩ := h
  exact ⟨cs, h.kept hg hne, hc⟩
theorem RowW.below {w w' : World} {g : Nat} {ws : List Nat} (h : RowW w g ws) (hb : Below w.heap.size w w') : RowW w' g ws := h.kept (row := none) (grown_of_below hb) (by simp)
theorem RowW.set {w : World} {g : Nat} {ws : List Nat} (h : RowW w g ws) (i x : Nat) (hi : i < ws.length) : RowW (w.setCell ⟨g, i, none⟩ (.int .u64 x)) g (ws.set i x) := by
  obtain ⟨cs, h, hc⟩ := h
  refine ⟨_, h.set i (.int .u64 x), fun j z hj => ?_⟩
  obtain ⟨y, hy⟩ := get_some hi
  have hci := (Array.getElem?_eq_some_iff.1 (hc i y hy)).1
  rw [List.getElem?_set] at hj
  by_cases e : i = j
  · subst e
    rw [if_pos rfl, if_pos hi] at hj; cases hj
    rw [Array.getElem?_setIfInBounds_self_of_lt hci]
  · rw [if_neg e] at hj
    rw [Array.getElem?_setIfInBounds_ne e]
    exact hc j z hj
theorem quo64 {r q : Nat} (hq : r / 64 = q) (h : q ≤ 1000000) : IntKind.i64.wrap ((r : Int) / 64) = (q : Int) := by
  rw [IntWalk.i64_in _ (by omega)]; omega
theorem rem64 {r m : Nat} (hm : r % 64 = m) : IntKind.i64.wrap ((r : Int) % 64) = (m : Int) := by
  rw [IntWalk.i64_in _ (by omega)]; omega
theorem shl_u64 {m : Nat} (h : m < 64) : IntKind.u64.wrap ((2 : Int) ^ m) = ((2 ^ m : Nat) : Int) := by
  have h1 : 2 ^ m < 18446744073709551616 := Nat.pow_lt_pow_right (m := m) (n := 64) (by omega) h
  have e : ((2 : Int) ^ m) = ((2 ^ m : Nat) : Int) := by simp
  rw [IntKind.wrap_u64, e]
  clear e
  generalize (2 ^ m : Nat) = y at *
  omega
theorem or_put {x m : Nat} (hx : x < 18446744073709551616) (h : m < 64) : bits BinOp.or IntKind.u64 (x : Int) (IntKind.u64.wrap ((2 : Int) ^ m)) = ((x ||| 2 ^ m : Nat) : Int) := by
  rw [shl_u64 h, bits_or_u64_nat x _ hx (Nat.pow_lt_pow_right (m := m) (n := 64) (by omega) h)]
theorem andNot_nat {x y : Nat} (hx : x < 18446744073709551616) (hy : y < 18446744073709551616) : bits BinOp.andNot IntKind.u64 (x : Int) (y : Int) = ((x &&& (18446744073709551615 ^^^ y) : Nat) : Int) := by
  have e : ∀ z : Nat, z < 18446744073709551616 → (BitVec.ofInt 64 (z : Int)).toNat = z := fun z hz => by
    rw [BitVec.toNat_ofInt]; omega
  have : bits BinOp.andNot IntKind.u64 (x : Int) (y : Int) = IntKind.u64.wrap ((BitVec.ofInt 64 (x : Int) &&& ~~~(BitVec.ofInt 64 (y : Int))).toNat : Int) := rfl
  rw [this, BitVec.toNat_and, BitVec.toNat_not, e x hx, e y hy]
  have h1 : (2 : Nat) ^ 64 - 1 - y = 18446744073709551615 ^^^ y := by
    refine Nat.eq_of_testBit_eq fun i => ?_
    rw [show (2 : Nat) ^ 64 - 1 - y = 2 ^ 64 - (y + 1) by omega, Nat.testBit_two_pow_sub_succ (by omega), Nat.testBit_xor]
    rw [show (18446744073709551615 : Nat) = 2 ^ 64 - 1 by decide, Nat.testBit_two_pow_sub_one]
    by_cases hi : i < 64
    · simp [hi]
    · have := bit_big (x := y) hy (r := i) (by omega)
      simp [hi, this]
  rw [h1]
  have h2 : x &&& (18446744073709551615 ^^^ y) < 18446744073709551616 := and_lt hx
  rw [IntKind.wrap_u64]
  omega
theorem andNot_drop {x m : Nat} (hx : x < 18446744073709551616) (h : m < 64) : bits BinOp.andNot IntKind.u64 (x : Int) (IntKind.u64.wrap ((2 : Int) ^ m)) = ((x &&& (18446744073709551615 ^^^ 2 ^ m) : Nat) : Int) := by
  rw [shl_u64 h, andNot_nat hx (Nat.pow_lt_pow_right (m := m) (n := 64) (by omega) h)]
theorem row_drew {w : World} {g : Nat} {ws : List Nat} (h : RowW w g ws) : RowW w.drew g ws := h.below (below_draw (Below.refl _ _) 1)
theorem grown_drew {w w' : World} {row : Option Nat} (h : w.grownBy w' row) : w.grownBy w'.drew row := ⟨h.os, h.tape, h.output, h.size, h.block⟩
set_option maxRecDepth 100000 in
set_option maxHeartbeats 2000000 in
theorem put_any (g n c r : Nat) (ws : List Nat) (w : World) (hW : RowW w g ws) (hr : r / 64 < n) (hok : WOK n ws) (hn : n ≤ 1000000) :
    Calls Tryz.prog 80 #[.slice (some ⟨g, 0, none⟩) n c, .int .i64 r] w fun e w' => e = .returned (.tuple #[]) ∧ RowW w' g (putW ws r) ∧ w.grownBy w' (some g) := by
  obtain ⟨q, hq⟩ : ∃ q, r / 64 = q := ⟨_, rfl⟩
  obtain ⟨x, hx⟩ := get_some (xs := ws) (k := q) (by rw [hok.1]; omega)
  have HV := Lib.hid (or_put (x := x) (m := r % 64) (hok.2 x (List.mem_of_getElem? hx)) (Nat.mod_lt _ (by omega)))
  have hgd : ws.getD (r / 64) 0 = x := by rw [hq, List.getD_eq_getElem?_getD, hx]; rfl
  have c0 := hW.cell _ _ hx
  have f0 := hW.frz q
  have h1 := quo64 hq (by omega)
  have h2 := rem64 (r := r) (m := r % 64) rfl
  have h3 : (0 : Int) ≤ (q : Int) := by omega
  have h4 : (q : Int) < (n : Int) := by omega
  have HR := Lib.hid hW
  have HL := Lib.hid hok.1
  have HPW : Hid (putW ws r = ws.set q (x ||| 2 ^ (r % 64)) ∧ dropW ws r = ws.set q (x &&& (18446744073709551615 ^^^ 2 ^ (r % 64)))) := Lib.hid (by unfold putW dropW; rw [hgd, hq]; exact ⟨rfl, rfl⟩)
  have hqn : q < n := by omega
  clear hq hx hgd hW hok hr
  go_enter Tryz.func80, Tryz.ntmps80
  go_region
  all_goals
    go_wp2
    go_end0
    exact ⟨rfl, by rw [HV.out, HPW.out.1]; exact row_drew (HR.out.set _ _ (by rw [HL.out]; omega)), grown_drew (setCell_grown _ _ _ _)⟩
set_option maxRecDepth 100000 in
set_option maxHeartbeats 2000000 in
theorem drop_any (g n c r : Nat) (ws : List Nat) (w : World) (hW : RowW w g ws) (hr : r / 64 < n) (hok : WOK n ws) (hn : n ≤ 1000000) :
    Calls Tryz.prog 79 #[.slice (some ⟨g, 0, none⟩) n c, .int .i64 r] w fun e w' => e = .returned (.tuple #[]) ∧ RowW w' g (dropW ws r) ∧ w.grownBy w' (some g) := by
  obtain ⟨q, hq⟩ : ∃ q, r / 64 = q := ⟨_, rfl⟩
  obtain ⟨x, hx⟩ := get_some (xs := ws) (k := q) (by rw [hok.1]; omega)
  have HV := Lib.hid (andNot_drop (x := x) (m := r % 64) (hok.2 x (List.mem_of_getElem? hx)) (Nat.mod_lt _ (by omega)))
  have hgd : ws.getD (r / 64) 0 = x := by rw [hq, List.getD_eq_getElem?_getD, hx]; rfl
  have c0 := hW.cell _ _ hx
  have f0 := hW.frz q
  have h1 := quo64 hq (by omega)
  have h2 := rem64 (r := r) (m := r % 64) rfl
  have h3 : (0 : Int) ≤ (q : Int) := by omega
  have h4 : (q : Int) < (n : Int) := by omega
  have HR := Lib.hid hW
  have HL := Lib.hid hok.1
  have HPW : Hid (putW ws r = ws.set q (x ||| 2 ^ (r % 64)) ∧ dropW ws r = ws.set q (x &&& (18446744073709551615 ^^^ 2 ^ (r % 64)))) := Lib.hid (by unfold putW dropW; rw [hgd, hq]; exact ⟨rfl, rfl⟩)
  have hqn : q < n := by omega
  clear hq hx hgd hW hok hr
  go_enter Tryz.func79, Tryz.ntmps79
  go_region
  all_goals
    go_wp2
    go_end0
    exact ⟨rfl, by rw [HV.out, HPW.out.2]; exact row_drew (HR.out.set _ _ (by rw [HL.out]; omega)), grown_drew (setCell_grown _ _ _ _)⟩
theorem has_arith {x m : Nat} (hx : x < 18446744073709551616) : (bits BinOp.and IntKind.u64 ((x : Int) / 2 ^ m) 1 == 1) = x.testBit m := by
  have h1 : x / 2 ^ m < 18446744073709551616 := Nat.lt_of_le_of_lt (Nat.div_le_self _ _) hx
  rw [show ((x : Int) / 2 ^ m) = ((x / 2 ^ m : Nat) : Int) by simp, show (1 : Int) = ((1 : Nat) : Int) from rfl, bits_and_u64_nat _ 1 h1 (by decide), Nat.testBit_eq_decide_div_mod_eq, Nat.and_one_is_mod]
  by_cases h : x / 2 ^ m % 2 = 1
  · rw [h]; decide
  · have : x / 2 ^ m % 2 = 0 := by omega
    rw [this]; decide
set_option maxRecDepth 100000 in
set_option maxHeartbeats 2000000 in
theorem has_any (b o n c r : Nat) (ws : List Nat) (w : World) (hW : ∀ (j x : Nat), ws[j]? = some x → w.cell? ⟨b, o + j, none⟩ = some (.int .u64 x)) (hr : r / 64 < n) (hok : WOK n ws) (hn : n ≤ 1000000) :
    Calls Tryz.prog 60 #[.slice (some ⟨b, o, none⟩) n c, .int .i64 r] w fun e w' => e = .returned (.bool (memW ws r)) ∧ w' = w := by
  obtain ⟨q, hq⟩ : ∃ q, r / 64 = q := ⟨_, rfl⟩
  obtain ⟨x, hx⟩ := get_some (xs := ws) (k := q) (by rw [hok.1]; omega)
  have hgd : ws.getD (r / 64) 0 = x := by rw [hq, List.getD_eq_getElem?_getD, hx]; rfl
  have HE := Lib.hid (has_arith (x := x) (m := r % 64) (hok.2 x (List.mem_of_getElem? hx)))
  have HM : Hid (memW ws r = x.testBit (r % 64)) := Lib.hid (by unfold memW; rw [hgd])
  have c0 := hW _ _ hx
  have h1 := quo64 hq (by omega)
  have h2 := rem64 (r := r) (m := r % 64) rfl
  have h3 : (0 : Int) ≤ (q : Int) := by omega
  have h4 : (q : Int) < (n : Int) := by omega
  clear hq hx hgd hW hok hr
  go_enter Tryz.func60, Tryz.ntmps60
  go_wp2
  go_ret
  exact ⟨ret_bool (by rw [HM.out, ← HE.out]), rfl⟩
theorem u64_info : (Tryz.prog.info? 128).map (fun i => (i.zero, i.size, i.bytes)) = some (some (.int .u64 0), 1, 8) := by kernel_rfl
theorem made_zero (k : Nat) : madeCells (Value.int .u64 0).cells k = ((List.replicate k 0).map (fun x : Nat => Value.int .u64 x)).toArray := by
  refine Array.ext (by simp [size_madeCells]) fun i h1 h2 => ?_
  simp [madeCells, Value.cells, Nat.mod_one]
theorem rowW_new (w : World) (ws : List Nat) : RowW (w.alloc (.cells (ws.map (fun x : Nat => Value.int .u64 x)).toArray 128)) w.heap.size ws := by
  refine ⟨_, BlkAt.new w _ _, fun j x hj => ?_⟩
  simp [hj]
set_option maxRecDepth 100000 in
set_option maxHeartbeats 1000000 in
theorem newSet_any (r : Nat) (w : World) (hr : r ≤ 1000000) :
    Calls Tryz.prog 75 #[.int .i64 r] w fun e w' => e = .returned (.slice (some ⟨w.heap.size, 0, none⟩) (r / 64 + 1) (r / 64 + 1)) ∧ RowW w' w.heap.size (List.replicate (r / 64 + 1) 0) ∧ Below w.heap.size w w' := by
  obtain ⟨q, hq⟩ : ∃ q, r / 64 = q := ⟨_, rfl⟩
  obtain ⟨m, hm⟩ : ∃ m, r / 64 + 1 = m := ⟨_, rfl⟩
  obtain ⟨i0, hi, hz0, hz1, hz2⟩ := info_parts u64_info
  have h1 := quo64 hq (by omega)
  have h2 : IntKind.i64.wrap ((q : Int) + 1) = (m : Int) := by rw [IntWalk.i64_in _ (by omega)]; omega
  have hmk : ∀ W, (Instr.makeSlice 94 (.int .i64 (m : Int)) (.int .i64 (m : Int))).run Tryz.prog W = .ok (.slice (some ⟨W.heap.size, 0, none⟩) m m) (W.alloc (.cells ((List.replicate m 0).map (fun x : Nat => Value.int .u64 x)).toArray 128)) := fun W => by
    have := run_make W 94 128 i0 (.int .u64 0) Tryz.underlying94 hi hz0 .i64 .i64 (m : Int) (m : Int) (by omega) (Int.le_refl _) (by rw [hz2]; omega) (by omega)
    rw [hz1, Nat.mul_one, made_zero, Int.toNat_natCast] at this
    exact this
  rw [hm]
  have HMK := Lib.hid hmk
  have HA := Lib.hid (rowW_new w (List.replicate m 0))
  have HB := Lib.hid ((Below.refl w.heap.size w).alloc (Nat.le_refl _) (.cells ((List.replicate m 0).map (fun x : Nat => Value.int .u64 x)).toArray 128))
  generalize hcs : ((List.replicate m 0).map (fun x : Nat => Value.int .u64 x)).toArray = cs at *
  clear hq hm hmk hcs hz0 hz1 hz2
  have hmk := HMK.out w
  go_enter Tryz.func75, Tryz.ntmps75
  go_wp2
  go_ret
  exact ⟨rfl, HA.out, HB.out⟩
end Go.Proofs.YtpahhcmiimllaaaGreatDoor
namespace Go.Proofs.YtpahhcmiimllaaaGreatDoor
open Go.RowKit

/-- the table of the lowest bit, in its variable -/
def DebAt (w : World) : Prop := ∀ j, j < 64 → w.cell? ⟨0, j, none⟩ = some (.int .u8 (Lib.deBruijn64tab.getD j 0))
theorem DebAt.lt {w : World} (h : DebAt w) : 0 < w.heap.size := cell_lt (h 0 (by omega))
theorem DebAt.below {w w' : World} {B : Nat} (h : DebAt w) (hb : Below B w w') (hB : 0 < B) : DebAt w' := fun j hj => (hb.cell hB).trans (h j hj)
set_option maxHeartbeats 1000000 in
theorem tz64_core (x k idx : Nat) (w : World) (hx0 : ((x : Int) == 0) = false)
    (key : IntKind.u64.wrap (bits BinOp.and IntKind.u64 (x : Int) (IntKind.u64.wrap (-(x : Int))) * 285870213051353865) / 288230376151711744 = (idx : Int))
    (hi : idx < 64) (hk : k < 64) (hcell : w.cell? ⟨0, idx, none⟩ = some (.int .u8 k)) :
    Calls Tryz.prog 93 #[.int .u64 x] w fun e w' => e = .returned (.int .i64 k) ∧ w' = w := by
  go_enter Tryz.func93, Tryz.ntmps93
  go_wp2_with (simp only [key])
  go_ret
  exact ⟨rfl, rfl⟩
theorem tz64_any (x : Nat) (hx : x < 18446744073709551616) (hx0 : x ≠ 0) (w : World) (hT : DebAt w) :
    Calls Tryz.prog 93 #[.int .u64 x] w fun e w' => e = .returned (.int .i64 (Lib.ctz 64 x)) ∧ w' = w := by
  obtain ⟨hlow, hk⟩ := Lib.lowest_bit 64 x hx0 hx
  obtain ⟨hi, htab⟩ := Lib.deBruijn64_at _ hk
  have hcell := hT _ hi
  rw [htab] at hcell
  exact tz64_core x _ _ w (by simp; omega) (tz64_key x _ hx hx0 hlow) hi hk hcell
theorem encU_flat (ws : List Nat) : ws.flatMap encU = ws.map (fun x : Nat => Value.int .u64 x) := by
  induction ws with
  | nil => rfl
  | cons x xs ih => rw [List.flatMap_cons, List.map_cons, ih]; rfl
theorem rowW_own {w : World} {base n c g : Nat} {ws : List Nat} (h : w.ownsRow base 128 1 (.slice (some ⟨g, 0, none⟩) n c) n (ws.map (fun x : Nat => Value.int .u64 x))) : RowW w g ws ∧ base ≤ g := by
  rcases h.2 with ⟨hv, _⟩ | ⟨g', cap, cur, hv, hb, hh, hn, hc, hs, ht⟩
  · cases hv
  · injection hv with ha _ _
    injection ha with ha
    injection ha with ha
    subst ha
    refine ⟨⟨cur, hh, fun j x hj => ?_⟩, hb⟩
    have hm : (ws.map (fun x : Nat => Value.int .u64 x))[j]? = some (.int .u64 x) := by rw [List.getElem?_map, hj]; rfl
    have hlt := (List.getElem?_eq_some_iff.1 hm).1
    rw [h.1] at hlt
    rw [← ht, List.getElem?_take_of_lt hlt, Array.getElem?_toList] at hm
    exact hm
set_option maxRecDepth 100000 in
set_option maxHeartbeats 2000000 in
theorem clone_any (g n c : Nat) (ws : List Nat) (w : World) (hW : RowW w g ws) (hn : ws.length = n) (h0 : 0 < n) (hb : n ≤ 100000) :
    Calls Tryz.prog 78 #[.slice (some ⟨g, 0, none⟩) n c] w fun e w' => (∃ g' c', e = .returned (.slice (some ⟨g', 0, none⟩) n c') ∧ RowW w' g' ws ∧ w.heap.size ≤ g') ∧ Below w.heap.size w w' := by
  obtain ⟨i0, hi, hy0, hy1, hy2⟩ := info_parts u64_info
  have HI := Lib.hid hi
  have HB := Lib.hid ((Below.refl w.heap.size w).alloc (Nat.le_refl _) (.cells #[] 128))
  have HX := Lib.hid (BlkAt.new w 128 #[])
  have HW := Lib.hid hW
  have HN := Lib.hid hn
  clear hi hW hn
  have q22 : ∀ (w : World) (a : Option Addr) (n c n' c' : Nat), (binOp .eql 94 (.slice a n c) (.slice none n' c')).run Tryz.prog w = .ok (.bool a.isNone) w := fun w a n c n' c' => Lib.run_eql_slice_nil w _ _ a n c n' c' Tryz.underlying94
  go_enter Tryz.func78, Tryz.ntmps78
  go_wp2_with (first
    | (at_builtin
       refine wpList_append_own_at _ rfl _ _ 94 rfl w.heap.size 128 i0 (.int .u64 0) 1 8 Tryz.underlying94 HI.out hy0 hy1 hy2 rfl (by decide) (.slice (some ⟨w.heap.size, 0, none⟩) 0 0) _ _ rfl (own_empty0 HX.out (Nat.le_refl _) 1) ⟨g, 0, none⟩ n c (ws.map (fun x : Nat => Value.int .u64 x)) rfl (by rw [List.length_map, HN.out, Nat.mul_one]) ?_ (by intro u hu; obtain ⟨y, _, rfl⟩ := List.mem_map.1 hu; rfl) (by unfold maxLen; omega) (by omega) HB.out.size ?_
       · intro j u hu
         rw [List.getElem?_map] at hu
         cases hy : ws[j]? with
         | none => rw [hy] at hu; cases hu
         | some y =>
           rw [hy] at hu; cases hu
           rw [add_plain', Nat.zero_add]
           exact cell_alloc _ (HW.out.cell j y hy)
       intro v' w6 hrow' hgrow _ hob
       rw [Nat.zero_add, List.nil_append] at hrow'
       have HB6 := Lib.hid (HB.out.grown hgrow HB.out.size (fun j e => by have e : w.heap.size = j := Option.some.inj e; omega))
       obtain ⟨A6, c6, rfl, _, _, hcell6⟩ := own_slice hrow'
       obtain ⟨g6, rfl, _⟩ := hcell6 h0
       have HR6 := Lib.hid (rowW_own hrow')
       clear hrow' hgrow hob hcell6)
    | fail)
  go_ret
  exact ⟨⟨g6, c6, rfl, HR6.out.1, HR6.out.2⟩, HB6.out⟩
set_option maxRecDepth 100000 in
set_option maxHeartbeats 2000000 in
theorem equalW_any (g1 g2 n c1 c2 : Nat) (xs ys : List Nat) (w : World) (h1 : RowW w g1 xs) (h2 : RowW w g2 ys) (hx : xs.length = n) (hy : ys.length = n) (hb : n ≤ 100000) :
    Calls Tryz.prog 81 #[.slice (some ⟨g1, 0, none⟩) n c1, .slice (some ⟨g2, 0, none⟩) n c2] w fun e w' => e = .returned (.bool (decide (xs = ys))) ∧ Below w.heap.size w w' := by
  have H1 := Lib.hid h1
  have H2 := Lib.hid h2
  have HX := Lib.hid hx
  have HY := Lib.hid hy
  clear h1 h2 hx hy
  go_enter Tryz.func81, Tryz.ntmps81
  go_wp2
  go_loopw [13] (fun a wr => ∃ i : Nat, i ≤ n ∧ a = .int .i64 i ∧ Hid (xs.take i = ys.take i) ∧ Hid (Below w.heap.size w wr)) (fun a _ => n - (intOf a).toNat)
  case atStart => exact ⟨0, by omega, rfl, Lib.hid rfl, Lib.hid (Below.refl _ _)⟩
  case round =>
    obtain ⟨i, hin, rfl, HT, HW⟩ := hrel
    by_cases hlt : i < n
    · obtain ⟨x, hx⟩ := get_some (xs := xs) (k := i) (by rw [HX.out]; exact hlt)
      obtain ⟨y, hy⟩ := get_some (xs := ys) (k := i) (by rw [HY.out]; exact hlt)
      have c0 := (H1.out.below HW.out).cell i x hx
      have d0 := (H2.out.below HW.out).cell i y hy
      have hk0 : (0 : Int) ≤ (i : Int) := by omega
      have hk1 : (i : Int) < (n : Int) := by omega
      have wr1 : IntKind.i64.wrap ((i : Int) + 1) = (i : Int) + 1 := IntWalk.i64_in _ (by omega)
      by_cases he : x = y
      · have HN : Hid (xs.take (i + 1) = ys.take (i + 1)) := Lib.hid (by rw [List.take_add_one, List.take_add_one, HT.out, hx, hy, he])
        subst he
        clear hx hy
        go_wp2_with fail
        refine wp_region_quiet_lit (by kernel_rfl) (by kernel_rfl) ?_
        repeat (any_goals (first | go_big_quiet_step (fail) | quiet_step (fail) | (refine wpQuiet_step (fun K hK => ?_); go_simp; split <;> (refine hK _ ?_; clear hK K))))
        all_goals (refine wpQuiet_nil ?_; intro _ hw'; obtain ⟨nq, hw''⟩ := hw'; subst hw'')
        go_wp2_with fail
        go_roundw
        case rel => exact ⟨i + 1, by omega, by go_num, HN, Lib.hid (below_draw HW.out nq)⟩
        case measure => simp [intOf]; omega
      · have HF : Hid (decide (xs = ys) = false) := Lib.hid (decide_eq_false (fun e => he (by rw [e, hy] at hx; exact (Option.some.inj hx).symm)))
        have f1 : ((x : Int) != (y : Int)) = true := by simp; omega
        clear hx hy he
        go_wp2_with fail
        refine wp_region_quiet_lit (by kernel_rfl) (by kernel_rfl) ?_
        repeat (any_goals (first | go_big_quiet_step (fail) | quiet_step (fail) | (refine wpQuiet_step (fun K hK => ?_); go_simp; split <;> (refine hK _ ?_; clear hK K))))
        all_goals (refine wpQuiet_nil ?_; intro _ hw'; obtain ⟨nq, hw''⟩ := hw'; subst hw'')
        go_wp2_with fail
        go_ret
        exact ⟨ret_bool HF.out.symm, below_draw HW.out nq⟩
    · obtain rfl : i = n := by omega
      have HE : Hid (decide (xs = ys) = true) := Lib.hid (decide_eq_true (by
        have := HT.out
        rwa [List.take_of_length_le (by rw [HX.out]; exact Nat.le_refl _), List.take_of_length_le (by rw [HY.out]; exact Nat.le_refl _)] at this))
      go_wp2_with fail
      go_ret
      exact ⟨ret_bool HE.out.symm, HW.out⟩
end Go.Proofs.YtpahhcmiimllaaaGreatDoor
