/- DERIVED. The program's rules: what the fields of an instruction are. -/
import Derived.Test.YtpahhcmiimllaaaGreatDoorLng
import Derived.Deep.MidRow
import Derived.Laws.Rows
import Derived.Laws.ResultCell
set_option linter.unusedSimpArgs false
set_option linter.unusedVariables false
namespace Go.Proofs.YtpahhcmiimllaaaGreatDoor
open Go.RowKit

def wordT : List (List UInt8) := [[], [115, 101, 116], [99, 111, 112, 121], [117, 110, 97, 114, 121], [98, 105, 110, 97, 114, 121], [103, 101, 116], [112, 117, 116], [114, 97, 110, 103, 101], [98, 121], [99, 111, 117, 110, 116],
  [100, 111, 109, 97, 105, 110], [109, 97, 112], [97, 114, 114, 97, 121], [99, 101, 108, 108], [97, 116, 111, 109, 105, 99], [102, 105, 101, 108, 100], [110, 116, 104], [108, 111, 97, 100], [115, 116, 111, 114, 101], [106, 117, 109, 112],
  [105, 102], [99, 97, 108, 108], [114, 101, 116, 117, 114, 110], [104, 101, 114, 101], [108, 111, 99, 97, 108, 101, 115], [103, 111], [99, 111, 117, 110, 116, 101, 114], [115, 112, 97, 119, 110], [119, 97, 105, 116], [115, 99, 111, 112, 101],
  [117, 110, 115, 99, 111, 112, 101], [112, 105, 101, 99, 101, 115], [112, 105, 101, 99, 101], [105, 110, 112, 105, 101, 99, 101], [111, 110, 99, 101, 108, 108], [111, 110, 97, 116, 111, 109], [119, 114, 105, 116, 101], [97, 115, 115, 101, 114, 116]]
def joinSp : List (List UInt8) → List UInt8
  | [] => []
  | [a] => a
  | a :: b :: r => a ++ 32 :: joinSp (b :: r)
def textT (op : Int) : List UInt8 := joinSp (textsOf op)
def ruleV (op : Int) : Value := .agg #[.string ⟨(wordT.getD op.toNat []).toArray⟩, .int .i64 (kindsOf op).1, .int .i64 (kindsOf op).2.1, .int .i64 (kindsOf op).2.2.1, .int .i64 (kindsOf op).2.2.2, .string ⟨(textT op).toArray⟩]
def ruleL (op : Int) : List Value := [.string ⟨(wordT.getD op.toNat []).toArray⟩, .int .i64 (kindsOf op).1, .int .i64 (kindsOf op).2.1, .int .i64 (kindsOf op).2.2.1, .int .i64 (kindsOf op).2.2.2, .string ⟨(textT op).toArray⟩]
theorem BlkAt.setCellsX {B : Nat} {t : TypeId} : ∀ (vs : List Value) (o : Nat) {W : World} {cs : Array Value}, BlkAt W B t cs → o + vs.length ≤ cs.size → ∃ cs', BlkAt (W.setCells B o vs) B t cs' ∧ cs'.size = cs.size ∧ (∀ j, j < o → cs'[j]? = cs[j]?) ∧ (∀ j, o + vs.length ≤ j → cs'[j]? = cs[j]?) ∧ ∀ u v, vs[u]? = some v → cs'[o + u]? = some v
  | [], _, _, cs, h, _ => ⟨cs, h, rfl, fun _ _ => rfl, fun _ _ => rfl, by simp⟩
  | v :: vs, o, W, cs, h, hl => by
    rw [List.length_cons] at hl
    obtain ⟨cs', h1, h2, h3, h4, h5⟩ := BlkAt.setCellsX vs (o + 1) (h.set o v) (by simp; omega)
    refine ⟨cs', h1, by simpa using h2, fun j hj => ?_, fun j hj => ?_, fun u x hu => ?_⟩
    · rw [h3 j (by omega), Array.getElem?_setIfInBounds_ne (by omega)]
    · rw [List.length_cons] at hj
      rw [h4 j (by omega), Array.getElem?_setIfInBounds_ne (by omega)]
    · cases u with
      | zero =>
        simp at hu; subst hu
        rw [Nat.add_zero, h3 o (by omega), Array.getElem?_setIfInBounds_self_of_lt (by omega)]
      | succ u =>
        have := h5 u x (by simpa using hu)
        rwa [show o + (u + 1) = o + 1 + u by omega]

theorem BlkAt.there {B : Nat} {t : TypeId} {W : World} {cs : Array Value} (h : BlkAt W B t cs) (o n : Nat) (hn : o + n ≤ cs.size) : W.there B o n := fun j hj => by
  refine ⟨?_, h.frozen _⟩
  rw [h.cell (o + j), Array.getElem?_eq_getElem (by omega)]; rfl

theorem run_index_arr {P : Program} (t e : TypeId) (n z : Nat) (cs : Array Value) (k : IntKind) (i : Int) (w : World) (h : P.underlying t = some (.array n e)) (hz : (sizeOf e).run P w = .ok z w) (ha : (isAgg e).run P w = .ok true w) (h0 : 0 ≤ i) (h1 : i < n) :
    (Instr.index t (.agg cs) (.int k i)).run P w = .ok (.agg (cs.extract (i.toNat * z) (i.toNat * z + z))) w := by
  simp [Instr.index, run_underlying h, asIntOf, h0, h1, go_sem, hz, ha]
def rulesA : List Value := (List.range 38).flatMap (fun k => ruleL (k : Nat))
theorem rules_size : (Tryz.prog.info? 152).map (·.size) = some 228 := by kernel_rfl
theorem rulesA_len : rulesA.length = 228 := by decide +kernel
theorem rulesA_one : ∀ v ∈ rulesA, v.oneCell' = true := by
  intro v hv
  unfold rulesA at hv
  obtain ⟨k, _, hv⟩ := List.mem_flatMap.1 hv
  unfold ruleL at hv
  simp at hv
  rcases hv with rfl | rfl | rfl | rfl | rfl | rfl <;> rfl
theorem zero_rules : (Tryz.zeroCells152).size = 228 := by kernel_rfl
theorem below_cells {B : Nat} (W w : World) (hB : B ≤ W.heap.size) (b : Nat) (hb : B ≤ b) : ∀ (vs : List Value) (o : Nat), Below B w W → Below B w (W.setCells b o vs)
  | [], _, h => h
  | v :: vs, o, h => by
    have h1 : Below B w (W.setCell ⟨b, o, none⟩ v) := h.setCell (p := ⟨b, o, none⟩) hb v
    exact below_cells (W.setCell ⟨b, o, none⟩ v) w (by simp [World.setCell]; exact hB) b hb vs (o + 1) h1
theorem stored_row {W : World} {b : Nat} {t : TypeId} {cs : Array Value} (h : BlkAt W b t cs) (vs : List Value) (hl : vs.length = cs.size) : BlkAt (W.setCells b 0 vs) b t vs.toArray := by
  obtain ⟨cs', k1, k2, _, _, k5⟩ := BlkAt.setCellsX vs 0 h (by omega)
  have : cs' = vs.toArray := by
    apply Array.ext_getElem?
    intro i
    by_cases hi : i < vs.length
    · obtain ⟨u, hu⟩ := get_some hi
      have := k5 i u hu
      rw [Nat.zero_add] at this
      rw [this]; simpa using hu.symm
    · rw [Array.getElem?_eq_none (by omega), Array.getElem?_eq_none (by simpa using hi)]
  rw [← this]; exact k1
set_option maxRecDepth 100000 in
set_option maxHeartbeats 8000000 in
theorem rules_any (w : World) : Calls Tryz.prog 94 #[] w fun e w' => e = .returned (.agg rulesA.toArray) ∧ Below w.heap.size w w' := by
  have hblk : BlkAt (w.alloc (.cells Tryz.zeroCells152 152)) w.heap.size 152 Tryz.zeroCells152 := BlkAt.new w _ _
  have HRW := Lib.hid (stored_row hblk rulesA (by rw [rulesA_len, zero_rules]))
  have HTH : Hid ((w.alloc (.cells Tryz.zeroCells152 152)).there w.heap.size 0 rulesA.toArray.size) := Lib.hid (BlkAt.there hblk 0 _ (by rw [zero_rules, List.size_toArray, rulesA_len]; omega))
  have HBL : Hid (Below w.heap.size w ((w.alloc (.cells Tryz.zeroCells152 152)).setCells w.heap.size 0 rulesA)) := Lib.hid (below_cells _ w (by simp) _ (Nat.le_refl _) rulesA 0 ((Below.refl _ w).alloc (Nat.le_refl _) _))
  clear hblk
  go_enter Tryz.func94, Tryz.ntmps94
  go_wp2_with (first
    | (refine wpList_store_mid rfl 152 (.tmp 0) (.tmp 38) rfl w.heap.size 0 rulesA.toArray rfl (by kernel_rfl) ?_ ?_ ?_ ?_
       · exact HTH.out
       · exact rules_size
       · exact all_oneCell_toArray rulesA_one))
  refine bodyPost_ret (results_cell_row rfl _ _ w.heap.size 152 rulesA.toArray (0, 0) _ rfl HRW.out Tryz.underlying152 rfl rules_size) rfl ⟨rfl, HBL.out⟩
end Go.Proofs.YtpahhcmiimllaaaGreatDoor
