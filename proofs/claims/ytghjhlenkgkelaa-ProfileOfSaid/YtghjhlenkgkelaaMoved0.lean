/- DERIVED. A copy of a trace; a row of which one cell is stored into. -/
import Derived.Test.YtghjhlenkgkelaaHomes
import Derived.Lib.SliceRun
set_option linter.unusedSimpArgs false
set_option linter.unusedVariables false
namespace Go.Proofs.Ytghjhlenkgkelaa
open Go.RowKit Go.Shelf Go.Sort

def accL (x : Acc) : List Value := [.int .i64 x.task, .int .i64 x.p0, .int .i64 x.p1, .int .i64 x.p2, .int .i64 x.kind, .int .i64 x.frm, .int .i64 x.at']
theorem acc_info : (Try.prog.info? 46).map (fun i => (i.zero, i.size, i.bytes)) = some (some (.agg #[.int .i64 0, .int .i64 0, .int .i64 0, .int .i64 0, .int .i64 0, .int .i64 0, .int .i64 0]), 7, 56) := by kernel_rfl
theorem flat_set {α : Type} {enc : α → List Value} {k : Nat} (hk : ∀ x, (enc x).length = k) : ∀ {zs : List α} {i j : Nat} {z z' : α} {u : Value}, zs[i]? = some z → j < k → enc z' = (enc z).set j u → (zs.flatMap enc).set (i * k + j) u = (zs.set i z').flatMap enc
  | [], i, _, _, _, _, h, _, _ => by simp at h
  | x :: zs, 0, j, z, z', u, h, hj, he => by
    simp at h; subst h
    rw [List.flatMap_cons, Nat.zero_mul, Nat.zero_add, List.set_append_left _ _ (by rw [hk]; exact hj), List.set_cons_zero, List.flatMap_cons, he]
  | x :: zs, i + 1, j, z, z', u, h, hj, he => by
    simp at h
    rw [List.flatMap_cons, List.set_append_right _ _ (by rw [hk, Nat.add_mul]; omega), List.set_cons_succ, List.flatMap_cons, hk, ← flat_set hk h hj he]
    congr 2
    rw [Nat.add_mul]; omega
theorem own_row_set {w : World} {base : Nat} {e : TypeId} {size n cap g j : Nat} {xs : List Value} {u : Value} (h : w.ownsRow base e size (.slice (some ⟨g, 0, none⟩) n cap) n xs) (hj : j < xs.length) :
    (w.setCell ⟨g, j, none⟩ u).ownsRow base e size (.slice (some ⟨g, 0, none⟩) n cap) n (xs.set j u) := by
  refine ⟨by rw [List.length_set]; exact h.1, ?_⟩
  rcases h.2 with ⟨hv, _⟩ | ⟨g', cap', cur, hv, hb, hh, hn, hc, hs, ht⟩
  · cases hv
  · injection hv with ha _ hcap
    injection ha with ha
    injection ha with ha
    subst ha hcap
    have hB : BlkAt w g e cur := hh
    have := hB.set j u
    exact .inr ⟨g, cap, cur.setIfInBounds j u, rfl, hb, this, hn, hc, by simpa using hs, by
      rw [Array.toList_setIfInBounds, List.take_set, ht]⟩

set_option maxRecDepth 100000 in
theorem clone_none (c : Nat) (w : World) : Calls Try.prog 41 #[.slice none 0 c] w fun e w' => e = .returned (.slice none 0 0) ∧ w' = w := by
  have hnil := fun W => Lib.run_eql_slice_nil (P := Try.prog) W 22 46 none 0 c 0 0 Try.underlying22
  go_enter Try.func41, Try.ntmps41
  go_wp2
  go_ret
  exact ⟨rfl, rfl⟩
theorem trace_cells {w : World} {B n : Nat} {a : Addr} {xs : List Acc} (h : Trace w B (some a) n xs) : ∀ j u, (xs.flatMap accL)[j]? = some u → w.cell? (a.add j) = some u := by
  intro j u hu
  have hj := (List.getElem?_eq_some_iff.1 hu).1
  rw [flat_len (k := 7) (fun _ => rfl)] at hj
  obtain ⟨x, hx⟩ := get_some (xs := xs) (k := j / 7) (by omega)
  obtain ⟨b, o, e, _, hc⟩ := h.at_ _ x hx
  injection e with e; subst e
  obtain ⟨c0, c1, c2, c3, c4, c5, c6⟩ := hc
  have hadd : (⟨b, o, none⟩ : Addr).add j = ⟨b, o + j, none⟩ := by
    by_cases h0 : j = 0
    · subst h0; simp [Addr.add]
    · simp [Addr.add, h0]
  rw [hadd]
  have hm : j % 7 < 7 := Nat.mod_lt _ (by omega)
  have hd : j = j / 7 * 7 + j % 7 := by omega
  have key : ∀ r v, r < 7 → j % 7 = r → (accL x)[r]? = some v → w.cell? ⟨b, o + j / 7 * 7 + r, none⟩ = some v → w.cell? ⟨b, o + j, none⟩ = some u := by
    intro r v hr he hv hcell
    have h2 := flat_at (enc := accL) (k := 7) (fun _ => rfl) hx (j := r) hv
    rw [show j / 7 * 7 + r = j by omega, hu] at h2
    injection h2 with h2; subst h2
    rw [show o + j = o + j / 7 * 7 + r by omega]; exact hcell
  rcases (show j % 7 = 0 ∨ j % 7 = 1 ∨ j % 7 = 2 ∨ j % 7 = 3 ∨ j % 7 = 4 ∨ j % 7 = 5 ∨ j % 7 = 6 by omega) with e | e | e | e | e | e | e
  · exact key 0 _ (by omega) e rfl c0
  · exact key 1 _ (by omega) e rfl c1
  · exact key 2 _ (by omega) e rfl c2
  · exact key 3 _ (by omega) e rfl c3
  · exact key 4 _ (by omega) e rfl c4
  · exact key 5 _ (by omega) e rfl c5
  · exact key 6 _ (by omega) e rfl c6
theorem own_empty (w : World) (t : TypeId) (size : Nat) : (w.alloc (.cells #[] t)).ownsRow w.heap.size t size (.slice (some ⟨w.heap.size, 0, none⟩) 0 0) 0 [] :=
  ⟨by simp, .inr ⟨w.heap.size, 0, #[], rfl, Nat.le_refl _, heap_alloc_new w _, Nat.le_refl _, Nat.zero_le _, by simp, by simp⟩⟩
set_option maxRecDepth 100000 in
theorem clone_some (a : Addr) (n c : Nat) (xs : List Acc) (w : World) (hl : n ≤ 10000) (hr : Trace w w.heap.size (some a) n xs) :
    Calls Try.prog 41 #[.slice (some a) n c] w fun e w' => ∃ v, e = .returned v ∧ w'.ownsRow w.heap.size 46 7 v n (xs.flatMap accL) ∧ Below w.heap.size w w' := by
  obtain ⟨i0, hi, hz0, hz1, hz2⟩ := info_parts acc_info
  have hcells := trace_cells hr
  have hlen := flat_len (enc := accL) (k := 7) (fun _ => rfl) xs
  rw [← hr.len] at hlen
  have hone : ∀ u ∈ xs.flatMap accL, u.oneCell' = true := by
    intro u hu
    obtain ⟨x, _, hx⟩ := List.mem_flatMap.1 hu
    simp [accL] at hx
    rcases hx with rfl | rfl | rfl | rfl | rfl | rfl | rfl <;> rfl
  have hcl : ∀ j u, (xs.flatMap accL)[j]? = some u → (w.alloc (.cells #[] 46)).cell? (a.add j) = some u := fun j u hu => cell_alloc _ (hcells j u hu)
  have hnil := fun W => Lib.run_eql_slice_nil (P := Try.prog) W 22 46 (some a) n c 0 0 Try.underlying22
  have hown := own_empty w 46 7
  generalize xs.flatMap accL = news at *
  have HL := Lib.hid hlen
  have HC := Lib.hid hcl
  have HO := Lib.hid hone
  clear hr hcells hlen hcl hone
  go_enter Try.func41, Try.ntmps41
  go_wp2_with
    (at_builtin; refine wpList_append_own_at _ rfl _ _ 22 rfl w.heap.size 46 i0 (.agg #[.int .i64 0, .int .i64 0, .int .i64 0, .int .i64 0, .int .i64 0, .int .i64 0, .int .i64 0]) 7 56 Try.underlying22 hi hz0 hz1 hz2 rfl (by decide) (.slice (some ⟨w.heap.size, 0, none⟩) 0 0) _ _ rfl hown a n c news rfl HL.out HC.out HO.out (by unfold maxLen; omega) (by omega) (by simp) ?_; intro v' w1 hrow hgrow _ hob)
  go_ret
  rw [Nat.zero_add, List.nil_append] at hrow
  refine ⟨_, rfl, hrow, ?_⟩
  have h1 : Below w.heap.size w (w.alloc (.cells #[] 46)) := (Below.refl _ _).alloc (Nat.le_refl _) _
  exact h1.grown hgrow (by simp) (fun j e => (own_lt' hown e).1)
end Go.Proofs.Ytghjhlenkgkelaa
