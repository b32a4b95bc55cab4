/- DERIVED. The iterators: over a set; backward over the uses. -/
import Derived.Test.YtpahhcmiimllaaaGreatDoorSetQ
import Derived.Test.YtpahhcmiimllaaaGreatDoorRngL
import Derived.Shelf.AbstractIn
import Derived.RangeFuncBound
import Derived.RangeFuncCalls
import Derived.RangeFuncBox
import Derived.Shelf.RegionOpen
import Derived.Maps.AppendAt
import Derived.OwnWalkIn
import Derived.TacticsInMore
import Derived.RegionIn
import Derived.LoopNIn
import Derived.LoopIn
set_option linter.unusedSimpArgs false
set_option linter.unusedVariables false
namespace Go.Proofs.YtpahhcmiimllaaaGreatDoor
open Go.RowKit Go.Shelf
attribute [local go_sem] Oper.semAt_some

theorem prefix_next {α : Type} {L pre rest : List α} {x : α} (h : L = pre ++ x :: rest) : pre ++ [x] <+: L := ⟨rest, by rw [h]; simp⟩
/-- what a set's iterator reads -/
structure AllAt (n₀ Bs b o n c : Nat) (ws : List Nat) (W : World) : Prop where
  box : W.cell? ⟨Bs, 0, none⟩ = some (.slice (some ⟨b, o, none⟩) n c)
  lb : b < n₀
  len : ws.length = n
  ok : WOK n ws
  cell : ∀ (j x : Nat), ws[j]? = some x → W.cell? ⟨b, o + j, none⟩ = some (.int .u64 x)
  deb : DebAt W
  ld : 0 < n₀
  n0 : n ≤ 100000
theorem tz_wrap {i c : Nat} (hi : i ≤ 100000) (hc : c < 64) : IntKind.i64.wrap (64 * (i : Int) + (c : Int)) = ((64 * i + c : Nat) : Int) := by
  rw [IntWalk.i64_in _ (by omega)]; omega
theorem sub1_and {x : Nat} (hx : x < 18446744073709551616) (h0 : x ≠ 0) : bits BinOp.and IntKind.u64 (x : Int) (IntKind.u64.wrap ((x : Int) - 1)) = ((x &&& (x - 1) : Nat) : Int) := by
  have : IntKind.u64.wrap ((x : Int) - 1) = ((x - 1 : Nat) : Int) := by rw [IntKind.wrap_u64]; omega
  rw [this, bits_and_u64_nat x (x - 1) hx (by omega)]
theorem AllAt.below {n₀ Bs b o n c : Nat} {ws : List Nat} {W W' : World} (h : AllAt n₀ Bs b o n c ws W) (hb : Below n₀ W W') : (∀ (j x : Nat), ws[j]? = some x → W'.cell? ⟨b, o + j, none⟩ = some (.int .u64 x)) ∧ DebAt W' :=
  ⟨fun j x hj => (hb.cell h.lb).trans (h.cell j x hj), h.deb.below hb h.ld⟩
theorem and_sub_lt {x : Nat} (h0 : x ≠ 0) : x &&& (x - 1) < x := Nat.lt_of_le_of_lt Nat.and_le_right (by omega)
theorem eq_u64 {x : Nat} (h : x ≠ 0) : ((x : Int) == 0) = false := by simp; omega
set_option maxRecDepth 100000 in
set_option maxHeartbeats 4000000 in
theorem all1_seq (k : Nat) (hk : 2 ≤ k) (n₀ Bs b o n c : Nat) (ws : List Nat) :
    SeqL Fence.wide k Tryz.prog 92 #[.pointer (some ⟨Bs, 0, none⟩)] (fun x : Nat => #[.int .i64 x]) (Below n₀) (elemsW ws) (AllAt n₀ Bs b o n c ws) := by
  intro l J Jx W hA hY h0
  have h1 : 1 ≤ k := by omega
  refine callsIn_of_wp Tryz.func92 rfl trivial ?_ rfl
  simp only [Tryz.ntmps92, List.size_toArray, List.length_cons, List.length_nil, Nat.reduceAdd, Nat.reduceSub, Array.replicate_succ, Array.replicate_zero, List.push_toArray, List.append_toArray, List.nil_append, List.cons_append]
  have hbox := hA.box
  have hn0 := hA.n0
  have HA := Lib.hid hA
  have HY := Lib.hid hY
  have HL := Lib.hid hA.len
  have HOK := Lib.hid hA.ok
  clear hA hY
  gi_wp2
  clear hbox
  gi_loopw [7] (fun a wr => ∃ (i : Nat) (pre : List Nat), i ≤ n ∧ a = .int .i64 i ∧ Hid (pre ++ elemsFrom ws i = elemsW ws) ∧ Hid (J pre wr) ∧ Hid (Below n₀ W wr)) (fun a _ => n - (intOf a).toNat)
  case atStart => exact ⟨0, [], by omega, rfl, Lib.hid (by rw [elems_all]; rfl), Lib.hid h0, Lib.hid (Below.refl _ _)⟩
  case round =>
    obtain ⟨i, pre, hin, rfl, HE, HJ, HB⟩ := hrel
    by_cases hlt : i < n
    · obtain ⟨x, hx⟩ := get_some (xs := ws) (k := i) (by rw [HL.out]; exact hlt)
      have c0 := (HA.out.below HB.out).1 i x hx
      have hxl := HOK.out.2 x (List.mem_of_getElem? hx)
      have hk0 : (0 : Int) ≤ (i : Int) := by omega
      have hk1 : (i : Int) < (n : Int) := by omega
      have wr1 : IntKind.i64.wrap ((i : Int) + 1) = (i : Int) + 1 := IntWalk.i64_in _ (by omega)
      have HE2 : Hid (pre ++ ((bitsW x).map (fun j => 64 * i + j) ++ elemsFrom ws (i + 1)) = elemsW ws) := Lib.hid (by
        have := HE.out
        rw [elems_step (by rw [HL.out]; exact hlt), List.getD_eq_getElem?_getD, hx] at this
        exact this)
      clear hx HE
      gi_wp2
      clear c0
      obtain ⟨wo, hwo⟩ : ∃ wo : World, wo = wr := ⟨_, rfl⟩
      subst hwo
      gi_loopw [4] (fun a wr => ∃ (y : Nat) (pre : List Nat), y < 18446744073709551616 ∧ a = .int .u64 y ∧ Hid (pre ++ ((bitsW y).map (fun j => 64 * i + j) ++ elemsFrom ws (i + 1)) = elemsW ws) ∧ Hid (J pre wr) ∧ Hid (Below n₀ W wr)) (fun a _ => (intOf a).toNat)
      case atStart => exact ⟨x, pre, hxl, rfl, HE2, HJ, HB⟩
      case round =>
        obtain ⟨y, pre, hyl, rfl, HE, HJ, HB⟩ := hrel
        by_cases hy0 : y = 0
        · have HE3 : Hid (pre ++ elemsFrom ws (i + 1) = elemsW ws) := Lib.hid (by have := HE.out; rw [hy0, bits_zero] at this; simpa using this)
          subst hy0
          gi_wp2
          go_roundw
          case rel => exact ⟨i + 1, pre, by omega, by go_num, HE3, HJ, HB⟩
          case measure => simp [intOf]; omega
        · have f1 : ((y : Int) != 0) = true := by simp; omega
          have HE3 : Hid (elemsW ws = pre ++ (64 * i + Lib.ctz 64 y) :: ((bitsW (y &&& (y - 1))).map (fun j => 64 * i + j) ++ elemsFrom ws (i + 1))) := Lib.hid (by rw [← HE.out, bits_cons hy0 hyl]; simp)
          have hc64 : Lib.ctz 64 y < 64 := by obtain ⟨_, _, h⟩ := ctz_form hy0 hyl; exact h
          have HTZ := Lib.hid (tz64_any y hyl hy0 wr (HA.out.below HB.out).2)
          have wr2 := tz_wrap (i := i) (c := Lib.ctz 64 y) (by omega) hc64
          have wr3 := sub1_and hyl hy0
          have HLT := Lib.hid (and_sub_lt hy0)
          generalize Lib.ctz 64 y = z at *
          generalize y &&& (y - 1) = y2 at *
          generalize 64 * i + z = q at *
          obtain ⟨fn, tmps, assign, body, hy, hR⟩ := HY.out pre q wr (prefix_next HE3.out) HJ.out
          clear hy0 hc64
          gi_wp2_with (first
            | (refine ⟨trivial, ?_⟩; gi_at_call 93; refine (callsIn_wide.2 HTZ.out).mono ?_; rintro e w2 ⟨rfl, rfl⟩)
            | gi_in)
          refine hR.mono ?_
          rintro e W3 (⟨rfl, hJ3, hk3⟩ | ⟨rfl, hJ3⟩)
          · gi_wp2
            go_roundw
            case rel => exact ⟨y2, pre ++ [q], by have := HLT.out; omega, rfl, Lib.hid (by rw [HE3.out]; simp), Lib.hid hJ3, Lib.hid (HB.out.trans hk3)⟩
            case measure => have := HLT.out; simp [intOf]; omega
          · gi_wp2
            refine bodyPost_ret (results_none rfl _ _ _) rfl ?_
            exact ⟨⟨_, rfl⟩, .inr ⟨pre ++ [q], hJ3⟩⟩
    · obtain rfl : i = n := by omega
      have HE3 : Hid (pre = elemsW ws) := Lib.hid (by have := HE.out; rw [elems_end (by rw [HL.out]; exact Nat.le_refl _)] at this; simpa using this)
      gi_wp2
      go_end0
      exact ⟨⟨_, rfl⟩, .inl (by rw [← HE3.out]; exact HJ.out)⟩
set_option maxHeartbeats 1000000 in
theorem all_any (b o n c : Nat) (w : World) :
    Calls Tryz.prog 51 #[.slice (some ⟨b, o, none⟩) n c] w fun e w' => e = .returned (.func (.func 92) #[] #[.pointer (some ⟨w.heap.size, 0, none⟩)]) ∧ w' = w.alloc (.cells #[.slice (some ⟨b, o, none⟩) n c] 94) := by
  go_enter Tryz.func51, Tryz.ntmps51
  go_wp2
  go_ret
  exact ⟨rfl, rfl⟩
/-- a use: what is read, and the register that is written -/
structure UseV where
  A : Option Addr
  n : Nat
  c : Nat
  wr : Int
  deriving Inhabited
def encUse (u : UseV) : List Value := [.slice u.A u.n u.c, .int .i64 u.wr]
theorem encUse_len (u : UseV) : (encUse u).length = 2 := rfl
/-- what the iterator backward over the uses reads -/
structure BackAt (Bs b n c : Nat) (us : List UseV) (W : World) : Prop where
  box : W.cell? ⟨Bs, 0, none⟩ = some (.slice (some ⟨b, 0, none⟩) n c)
  len : us.length = n
  cell : ∀ (j : Nat) (u : UseV), us[j]? = some u → W.cell? ⟨b, j * 2, none⟩ = some (.slice u.A u.n u.c) ∧ W.cell? ⟨b, j * 2 + 1, none⟩ = some (.int .i64 u.wr)
  n0 : n ≤ 100000
/-- the places and the uses, from the last down -/
def backL (us : List UseV) (i : Nat) : List (Nat × UseV) := ((List.range i).reverse.map fun k => (k, us.getD k default))
theorem backL_succ {us : List UseV} {i : Nat} {u : UseV} (h : us[i]? = some u) : backL us (i + 1) = (i, u) :: backL us i := by
  unfold backL
  rw [List.range_succ, List.reverse_append, List.map_append]
  simp [h]
theorem AllAt.alloc {n₀ Bs b o n c : Nat} {ws : List Nat} {W : World} (h : AllAt n₀ Bs b o n c ws W) (x : Obj) : AllAt n₀ Bs b o n c ws (W.alloc x) :=
  ⟨cell_alloc x h.box, h.lb, h.len, h.ok, fun j v hj => cell_alloc x (h.cell j v hj), fun j hj => cell_alloc x (h.deb j hj), h.ld, h.n0⟩
theorem BackAt.alloc {Bs b n c : Nat} {us : List UseV} {W : World} (h : BackAt Bs b n c us W) (x : Obj) : BackAt Bs b n c us (W.alloc x) :=
  ⟨cell_alloc x h.box, h.len, fun j v hj => ⟨cell_alloc x (h.cell j v hj).1, cell_alloc x (h.cell j v hj).2⟩, h.n0⟩
def KpB (Bs b : Nat) (W W' : World) : Prop := W'.heap[Bs]? = W.heap[Bs]? ∧ W'.heap[b]? = W.heap[b]?
theorem cell_same {W W' : World} {b o : Nat} (h : W'.heap[b]? = W.heap[b]?) : W'.cell? ⟨b, o, none⟩ = W.cell? ⟨b, o, none⟩ := by unfold World.cell?; rw [h]
theorem BackAt.kept {Bs b n c : Nat} {us : List UseV} {W W' : World} (h : BackAt Bs b n c us W) (hk : KpB Bs b W W') : BackAt Bs b n c us W' :=
  ⟨(cell_same hk.1).trans h.box, h.len, fun j v hj => ⟨(cell_same hk.2).trans (h.cell j v hj).1, (cell_same hk.2).trans (h.cell j v hj).2⟩, h.n0⟩
theorem KpB.trans {Bs b : Nat} {A B C : World} (h : KpB Bs b A B) (k : KpB Bs b B C) : KpB Bs b A C := ⟨k.1.trans h.1, k.2.trans h.2⟩
def encsB (x : Nat × UseV) : Array Value := #[.int .i64 x.1, .agg #[.slice x.2.A x.2.n x.2.c, .int .i64 x.2.wr]]
set_option maxRecDepth 100000 in
set_option maxHeartbeats 4000000 in
theorem back1_seq (k : Nat) (hk : 2 ≤ k) (Bs b n c : Nat) (us : List UseV) :
    SeqL Fence.wide k Tryz.prog 104 #[.pointer (some ⟨Bs, 0, none⟩)] encsB (KpB Bs b) (backL us n) (BackAt Bs b n c us) := by
  intro l J Jx W hA hY h0
  have h1 : 1 ≤ k := by omega
  refine callsIn_of_wp Tryz.func104 rfl trivial ?_ rfl
  simp only [Tryz.ntmps104, List.size_toArray, List.length_cons, List.length_nil, Nat.reduceAdd, Nat.reduceSub, Array.replicate_succ, Array.replicate_zero, List.push_toArray, List.append_toArray, List.nil_append, List.cons_append]
  have hbox := hA.box
  have hn0 := hA.n0
  have HA := Lib.hid hA
  have HY := Lib.hid hY
  have HL := Lib.hid hA.len
  have wr0 : IntKind.i64.wrap ((n : Int) - 1) = (n : Int) - 1 := IntWalk.i64_in _ (by omega)
  clear hA hY
  gi_wp2
  clear hbox wr0
  gi_loopw [3] (fun a wr => ∃ (i : Nat) (pre : List (Nat × UseV)), i ≤ n ∧ a = .int .i64 ((i : Int) - 1) ∧ Hid (pre ++ backL us i = backL us n) ∧ Hid (J pre wr) ∧ Hid (BackAt Bs b n c us wr)) (fun a _ => ((intOf a) + 1).toNat)
  case atStart => exact ⟨n, [], Nat.le_refl _, rfl, Lib.hid rfl, Lib.hid h0, HA⟩
  case round =>
    obtain ⟨i, pre, hin, rfl, HE, HJ, HB⟩ := hrel
    rcases i with _ | i
    · have HE3 : Hid (pre = backL us n) := Lib.hid (by have := HE.out; simpa [backL] using this)
      gi_wp2
      go_end0
      exact ⟨⟨_, rfl⟩, .inl (by rw [← HE3.out]; exact HJ.out)⟩
    · obtain ⟨u, hu⟩ := get_some (xs := us) (k := i) (by rw [HL.out]; omega)
      have HE3 : Hid (backL us n = pre ++ (i, u) :: backL us i) := Lib.hid (by rw [← HE.out, backL_succ hu])
      have hbox := HB.out.box
      obtain ⟨c0, c1⟩ := HB.out.cell i u hu
      have e1 : ((i + 1 : Nat) : Int) - 1 = (i : Int) := by omega
      rw [e1]
      have hk0 : (0 : Int) ≤ (i : Int) := by omega
      have hk1 : (i : Int) < (n : Int) := by omega
      have wr1 : IntKind.i64.wrap ((i : Int) - 1) = (i : Int) - 1 := IntWalk.i64_in _ (by omega)
      obtain ⟨fn, tmps, assign, body, hy, hR⟩ := HY.out pre (i, u) wr (prefix_next HE3.out) HJ.out
      unfold encsB at hy
      simp only at hy
      clear hu e1 HE
      gi_wp2
      refine hR.mono ?_
      rintro e W3 (⟨rfl, hJ3, hk3⟩ | ⟨rfl, hJ3⟩)
      · gi_wp2
        go_roundw
        case rel => exact ⟨i, pre ++ [(i, u)], by omega, rfl, Lib.hid (by rw [HE3.out]; simp), Lib.hid hJ3, Lib.hid (HB.out.kept hk3)⟩
        case measure => simp [intOf]
      · gi_wp2
        refine bodyPost_ret (results_none rfl _ _ _) rfl ?_
        exact ⟨⟨_, rfl⟩, .inr ⟨pre ++ [(i, u)], hJ3⟩⟩
set_option maxHeartbeats 1000000 in
theorem back_any (v : Value) (w : World) (hv : ∃ A n c, v = .slice A n c) :
    Calls Tryz.prog 76 #[v] w fun e w' => e = .returned (.func (.func 104) #[] #[.pointer (some ⟨w.heap.size, 0, none⟩)]) ∧ w' = w.alloc (.cells #[v] 82) := by
  obtain ⟨A, n, c, rfl⟩ := hv
  go_enter Tryz.func76, Tryz.ntmps76
  go_wp2
  go_ret
  exact ⟨rfl, rfl⟩
end Go.Proofs.YtpahhcmiimllaaaGreatDoor
