/- DERIVED. The program's ruleOf, fields. -/
import Derived.Test.YtpahhcmiimllaaaGreatDoorRul
set_option linter.unusedSimpArgs false
set_option linter.unusedVariables false
namespace Go.Proofs.YtpahhcmiimllaaaGreatDoor
open Go.RowKit

theorem flat_block {α β : Type} {f : α → List β} {z : Nat} (hk : ∀ x, (f x).length = z) : ∀ (xs : List α) (k : Nat) (x : α), xs[k]? = some x → ((xs.flatMap f).drop (k * z)).take z = f x
  | [], _, _, h => by simp at h
  | y :: ys, 0, x, h => by
    simp at h; subst h
    rw [Nat.zero_mul, List.drop_zero, List.flatMap_cons, List.take_append_of_le_length (by rw [hk]; exact Nat.le_refl _), List.take_of_length_le (by rw [hk]; exact Nat.le_refl _)]
  | y :: ys, k + 1, x, h => by
    have ih := flat_block hk ys k x (by simpa using h)
    have e : (k + 1) * z = (f y).length + k * z := by rw [hk, Nat.succ_mul]; omega
    rw [List.flatMap_cons, e, ← List.drop_drop, List.drop_left]
    exact ih
theorem rule_at (op : Int) (h0 : 0 ≤ op) (h1 : op < 38) : rulesA.toArray.extract (op.toNat * 6) (op.toNat * 6 + 6) = (ruleL op).toArray := by
  obtain ⟨k, rfl⟩ : ∃ k : Nat, op = k := ⟨op.toNat, by omega⟩
  rw [Int.toNat_natCast, List.extract_toArray, List.extract_eq_take_drop, Nat.add_sub_cancel_left]
  congr 1
  exact flat_block (f := fun k : Nat => ruleL (k : Int)) (fun x => rfl) (List.range 38) k k (List.getElem?_range (by omega))
theorem rule_sz (w : World) : (sizeOf 100).run Tryz.prog w = .ok 6 w := Tryz.sizeOf100 w
theorem rule_agg (w : World) : (isAgg 100).run Tryz.prog w = .ok true w := Tryz.isAgg100 w
def rule0V : Value := .agg #[.string ⟨#[]⟩, .int .i64 0, .int .i64 0, .int .i64 0, .int .i64 0, .string ⟨#[]⟩]
theorem results_ct {P : Program} {fn : Func} {p u : Tmp} {ty : TypeId} (h : fn.results = #[.cell p ty, .tmp u]) (tmps : Array Value) (w : World) (g : Nat) (t : TypeId) (cs : Array Value) (fr : Nat × Nat) (d : TypeDesc)
    (hp : tmps.getD p undef = .pointer (some ⟨g, 0, none⟩)) (hg : w.heap[g]? = some (.cells cs t fr))
    (hu : P.underlying ty = some d) (hd : (match d with | .struct _ | .array _ _ => true | _ => false) = true) (hi : (P.info? ty).map (·.size) = some cs.size) :
    (results fn tmps).run P w = .ok (.tuple #[.agg cs, tmps.getD u undef]) w := by
  have ha : (asAddr (.pointer (some ⟨g, 0, none⟩))).run P w = .ok ⟨g, 0, none⟩ w := by simp [asAddr]
  rw [results_cell_tmp h, hp, ha]
  simp only [Result.andThen]
  rw [run_loadVar_row w g t ty cs fr d hg hu hd hi]
theorem rule_size : (Tryz.prog.info? 100).map (·.size) = some 6 := by kernel_rfl
theorem ruleL_one (op : Int) : ∀ v ∈ ruleL op, v.oneCell' = true := by
  intro v hv
  unfold ruleL at hv
  simp at hv
  rcases hv with rfl | rfl | rfl | rfl | rfl | rfl <;> rfl
set_option maxRecDepth 100000 in
set_option maxHeartbeats 4000000 in
theorem ruleOf_any (op : Int) (w : World) : Calls Tryz.prog 52 #[.int .i64 op] w fun e w' => e = .returned (.tuple #[if opOK op then ruleV op else rule0V, .bool (opOK op)]) ∧ Below w.heap.size w w' := by
  cases hop : opOK op with
  | true =>
    have hb : 1 ≤ op ∧ op ≤ 37 := by unfold opOK at hop; simpa using hop
    have f1 : decide (op < 1) = false := decide_eq_false (by omega)
    have f2 : decide (37 < op) = false := decide_eq_false (by omega)
    have hix : ∀ W, (Instr.index 152 (.agg rulesA.toArray) (.int .i64 op)).run Tryz.prog W = .ok (.agg (ruleL op).toArray) W := fun W => by
      rw [run_index_arr 152 100 38 6 _ .i64 op W Tryz.underlying152 (rule_sz W) (rule_agg W) (by omega) (by omega), rule_at op (by omega) (by omega)]
    have HR : Hid (ruleV op = .agg (ruleL op).toArray) := Lib.hid rfl
    have HRU := Lib.hid rules_any
    have HB1 := Lib.hid ((Below.refl w.heap.size w).alloc (Nat.le_refl _) (.cells #[.string ⟨#[]⟩, .int .i64 0, .int .i64 0, .int .i64 0, .int .i64 0, .string ⟨#[]⟩] 100))
    have HT1 := Lib.hid (BlkAt.new w 100 #[.string ⟨#[]⟩, .int .i64 0, .int .i64 0, .int .i64 0, .int .i64 0, .string ⟨#[]⟩])
    have HON := Lib.hid (ruleL_one op)
    have HLE : Hid ((ruleL op).toArray.size = 6) := Lib.hid rfl
    have HZ : Hid ((#[.string ⟨#[]⟩, .int .i64 0, .int .i64 0, .int .i64 0, .int .i64 0, .string ⟨#[]⟩] : Array Value).size = 6) := Lib.hid rfl
    clear hop hb
    generalize ruleL op = RL at *
    generalize rulesA.toArray = R at *
    go_enter Tryz.func52, Tryz.ntmps52
    go_wp2_with (first
      | (go_at_call 94
         refine (HRU.out _).mono ?_
         rintro e w2 ⟨rfl, hb2⟩
         have HB2 := Lib.hid (HB1.out.trans (hb2.mono HB1.out.size))
         have HT2 := Lib.hid (HT1.out.below hb2 HT1.out.lt)
         clear hb2)
      | (refine wpList_store_mid rfl 100 (.tmp 2) (.tmp 13) rfl w.heap.size 0 RL.toArray rfl rfl ?_ ?_ ?_ ?_
         · exact HT2.out.there 0 _ (by rw [HLE.out, HZ.out]; omega)
         · rw [HLE.out]; exact rule_size
         · exact all_oneCell_toArray HON.out))
    have HT3 := Lib.hid (stored_row HT2.out RL (by rw [← List.size_toArray, HLE.out, HZ.out]))
    have HB3 := Lib.hid (below_cells w2 w HB2.out.size w.heap.size (Nat.le_refl _) RL 0 HB2.out)
    refine bodyPost_ret (results_ct rfl _ _ w.heap.size 100 RL.toArray (0, 0) _ rfl HT3.out Tryz.underlying100 rfl (by rw [HLE.out]; exact rule_size)) rfl ⟨?_, HB3.out⟩
    rw [HR.out]; rfl
  | false =>
    have hb : op < 1 ∨ 37 < op := by unfold opOK at hop; simp at hop; omega
    have HB1 := Lib.hid ((Below.refl w.heap.size w).alloc (Nat.le_refl _) (.cells #[.string ⟨#[]⟩, .int .i64 0, .int .i64 0, .int .i64 0, .int .i64 0, .string ⟨#[]⟩] 100))
    clear hop
    by_cases h1 : op < 1
    · have f1 : decide (op < 1) = true := decide_eq_true h1
      clear hb h1
      go_enter Tryz.func52, Tryz.ntmps52
      go_wp2_with fail
      refine bodyPost_ret (results_ct rfl _ _ w.heap.size 100 #[.string ⟨#[]⟩, .int .i64 0, .int .i64 0, .int .i64 0, .int .i64 0, .string ⟨#[]⟩] (0, 0) _ rfl (BlkAt.new w _ _) Tryz.underlying100 rfl rule_size) rfl ⟨rfl, HB1.out⟩
    · have f1 : decide (op < 1) = false := decide_eq_false h1
      have f2 : decide (37 < op) = true := decide_eq_true (by omega)
      clear hb h1
      go_enter Tryz.func52, Tryz.ntmps52
      go_wp2_with fail
      refine bodyPost_ret (results_ct rfl _ _ w.heap.size 100 #[.string ⟨#[]⟩, .int .i64 0, .int .i64 0, .int .i64 0, .int .i64 0, .string ⟨#[]⟩] (0, 0) _ rfl (BlkAt.new w _ _) Tryz.underlying100 rfl rule_size) rfl ⟨rfl, HB1.out⟩
theorem blk_new' (W : World) (t : TypeId) (cs : Array Value) (n : Nat) (hn : n = W.heap.size) : BlkAt (W.alloc (.cells cs t)) n t cs := by subst hn; exact BlkAt.new W t cs
theorem fields_size : (Tryz.prog.info? 104).map (·.size) = some 8 := by kernel_rfl
def fieldsC (op : Int) (x : InsL) : Array Value := #[.int .i64 (kindsOf op).1, .int .i64 x.a, .int .i64 (kindsOf op).2.1, .int .i64 x.b, .int .i64 (kindsOf op).2.2.1, .int .i64 x.c, .int .i64 (kindsOf op).2.2.2, .int .i64 x.d]
set_option maxRecDepth 100000 in
set_option maxHeartbeats 4000000 in
theorem fields_any (op : Int) (x : InsL) (Ai : Option Addr) (ni ci : Nat) (w : World) : Calls Tryz.prog 53 #[ruleV op, insV x Ai ni ci] w fun e w' => e = .returned (.agg (fieldsC op x)) ∧ Below w.heap.size w w' := by
  unfold ruleV insV fieldsC
  generalize (wordT.getD op.toNat []).toArray = W0 at *
  generalize (textT op).toArray = T0 at *
  generalize (kindsOf op).1 = k1 at *
  generalize (kindsOf op).2.1 = k2 at *
  generalize (kindsOf op).2.2.1 = k3 at *
  generalize (kindsOf op).2.2.2 = k4 at *
  go_enter Tryz.func53, Tryz.ntmps53
  go_wp2_with fail
  refine bodyPost_ret (results_cell_row rfl _ _ (w.heap.size + 1 + 1) 104 #[.int .i64 k1, .int .i64 x.a, .int .i64 k2, .int .i64 x.b, .int .i64 k3, .int .i64 x.c, .int .i64 k4, .int .i64 x.d] (0, 0) _ rfl (blk_new' _ _ _ _ (by simp)) Tryz.underlying104 rfl fields_size) rfl ⟨rfl, ?_⟩
  exact (((Below.refl w.heap.size w).alloc (Nat.le_refl _) _).alloc (by simp) _).alloc (by simp; omega) _
end Go.Proofs.YtpahhcmiimllaaaGreatDoor
