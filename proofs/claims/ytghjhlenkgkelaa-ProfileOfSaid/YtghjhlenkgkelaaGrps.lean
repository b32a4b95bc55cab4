/- DERIVED. Groups. -/
import Derived.Test.YtghjhlenkgkelaaPut6
import Derived.Test.YtghjhlenkgkelaaGiven
set_option linter.unusedSimpArgs false
set_option linter.unusedVariables false
namespace Go.Proofs.Ytghjhlenkgkelaa
open Go.RowKit Go.Shelf Go.Sort

theorem sl_info : (Try.prog.info? 44).map (fun i => (i.zero, i.size, i.bytes)) = some (some (.slice none 0 0), 1, 24) := by kernel_rfl

/-- the rows that the slices ms hold are the members of the groups R -/
def RowsAt (w : World) (ms : List Value) (R : List GO) : Prop :=
  ms.length = R.length ∧ ∀ (k : Nat) (p : GO), R[k]? = some p → ∃ A c, ms[k]? = some (.slice A p.1.mem.length c) ∧ Sl w intV A p.1.mem.length p.1.mem
def GrpsOk (w w' : World) (v : Value) (xs : List Acc) : Prop :=
  ∃ ms, w'.ownsRow w.heap.size 44 1 v ms.length ms ∧ RowsAt w' ms (runR xs xs.length)
def GrpsRes (w w' : World) (v : Value) (xs : List Acc) : Prop := (givenL xs ≠ 0 → v = .slice none 0 0) ∧ (givenL xs = 0 → GrpsOk w w' v xs)

theorem Coll.rows {w w' : World} {B C : Nat} {T va vo : Value} {gs : List (Nat × Grp)} {op : List Nat} {mv : Nat → Value} {R : List GO} (h : Coll w B C T gs op va vo mv) (hS : Sim gs op R) (hb : Below w.heap.size w w') : RowsAt w' (gs.map (fun p => mv p.1)) R := by
  refine ⟨by rw [hS.eq]; simp, fun k p hp => ?_⟩
  rw [hS.eq, List.getElem?_map] at hp
  obtain ⟨q, hq, rfl⟩ := Option.map_eq_some_iff.1 hp
  have hm := h.mem q (List.mem_of_getElem? hq)
  obtain ⟨A, c, hv, _, _, _⟩ := own_slice hm
  refine ⟨A, c, by rw [List.getElem?_map, hq]; simp [hv], ?_⟩
  rw [hv] at hm
  exact (sl_own hm).below hb

set_option maxRecDepth 100000 in
set_option maxHeartbeats 1000000 in
theorem Groups_any (A : Option Addr) (n c : Nat) (xs : List Acc) (w : World) (hl : n ≤ 5000) (hr : Trace w w.heap.size A n xs) :
    Calls Try.prog 11 #[.slice A n c] w fun e w' => ∃ v, e = .returned (.tuple #[v, .int .i64 (givenL xs)]) ∧ GrpsRes w w' v xs ∧ Below w.heap.size w w' := by
  have hgiv := given_any A n c xs w hl hr
  have HN := Lib.hid hr.len
  have HR := Lib.hid hr
  clear hr
  by_cases h0 : givenL xs = 0
  · have h0b : (givenL xs != 0) = false := by simpa using h0
    have H0 := Lib.hid h0
    rw [h0] at hgiv
    clear h0
    obtain ⟨i0, hi, hz0, hz1, hz2⟩ := info_parts sl_info
    go_enter Try.func11, Try.ntmps11
    go_wp2_with (first
      | (go_at_call 22; refine hgiv.mono ?_; rintro e w1 ⟨rfl, hb1⟩; clear hgiv)
      | (go_at_call 26
         have hgr := groups_any A n c xs w1 hl ((HR.out.below hb1 (Nat.le_refl _)).mono hb1.size)
         refine hgr.mono ?_
         rintro e w2 ⟨C, va, rfl, gs, op, vo, mv, hc, hS, hb2⟩
         clear hgr
         obtain ⟨Av, cv, rfl, hav, _, _⟩ := own_slice hc.all_
         have HC := Lib.hid hc
         have HS := Lib.hid hS
         have HB1 := Lib.hid hb1
         have HB2 := Lib.hid hb2
         have hgl : gs.length ≤ 5000 := by
           have h1 := (inv_run xs n (by have := HN.out; omega)).len
           rw [hS.eq, List.length_map] at h1; omega
         clear hc hS hb1 hb2))
    go_loopw [5, 16] (fun v i wr => ∃ k : Nat, k ≤ gs.length ∧ i = .int .i64 k ∧ wr.ownsRow w2.heap.size 44 1 v k ((gs.take k).map (fun p => mv p.1)) ∧ Below w2.heap.size w2 wr) (fun _ i _ => gs.length - (intOf i).toNat)
    case atStart => exact ⟨0, by omega, rfl, World.ownsRow_nil _ _ _ _, Below.refl _ _⟩
    case round =>
      obtain ⟨k, hk, rfl, hrow, hb⟩ := hrel
      by_cases hlt : k < gs.length
      · obtain ⟨q, hq⟩ := get_some (xs := gs) hlt
        have hcr := HC.out.below hb
        obtain ⟨gb, go, hA, hgl', hgc⟩ := (sl_own hcr.all_).at_ k q hq
        have hqm := List.mem_of_getElem? hq
        have hg4 := (hcr.grp q hqm).cell 4
        obtain ⟨Am, cm, hmv, _, _, _⟩ := own_slice (hcr.mem q hqm)
        simp only [gcells, List.getElem?_toArray, List.getElem?_cons_succ, List.getElem?_cons_zero, hmv] at hg4
        have hts : (gs.take (k + 1)).map (fun p => mv p.1) = (gs.take k).map (fun p => mv p.1) ++ [.slice Am q.2.mem.length cm] := by
          rw [List.take_add_one, hq, List.map_append, ← hmv]; rfl
        have HTS := Lib.hid hts
        have HB := Lib.hid hb
        have hbs := hb.size
        subst hA
        obtain ⟨Ao, co, rfl, _, _, _⟩ := own_slice hrow
        clear hcr hmv hts hq hb
        go_wp2_with
          (at_builtin; refine wpList_append_own_at _ rfl _ _ 34 rfl w2.heap.size 44 i0 (.slice none 0 0) 1 24 Try.underlying34 hi hz0 hz1 hz2 rfl (by decide) (.slice Ao k co) _ _ rfl (hrow.alloc _) ⟨wr.heap.size, 0, none⟩ 1 1 [.slice Am q.2.mem.length cm] rfl rfl (cells_new' _ [.slice Am q.2.mem.length cm] _ _ (by simp)) (by simp [Value.oneCell']) (by unfold maxLen; omega) (by omega) (by simp; omega) ?_; intro v' w3 hrow' hgrow _ hob)
        go_roundw
        case rel =>
          refine ⟨k + 1, by omega, by go_num, by rw [HTS.out]; exact hrow', ?_⟩
          have h1 : Below w2.heap.size w2 (wr.alloc (.cells #[.slice Am q.2.mem.length cm] 44)) := HB.out.alloc hbs _
          exact h1.grown hgrow (by simp; omega) (fun j e => (own_lt hrow e).1)
        case measure => simp [intOf]; omega
      · obtain rfl : k = gs.length := by omega
        rw [List.take_length] at hrow
        have HB := Lib.hid hb
        clear hb
        obtain ⟨Av', cv', rfl, _, _, _⟩ := own_slice hrow
        go_wp2
        go_ret2
        refine ⟨_, by rw [H0.out]; rfl, ⟨fun h => absurd H0.out h, fun _ => ⟨gs.map (fun p => mv p.1), ?_, ?_⟩⟩, ?_⟩
        · rw [List.length_map]
          exact own_base hrow (by have := HB1.out.size; have := HB2.out.size; omega)
        · have := HC.out.rows HS.out HB.out
          rw [HN.out] at this; exact this
        · exact (HB1.out.trans (HB2.out.mono HB1.out.size)).trans (HB.out.mono (by have := HB1.out.size; have := HB2.out.size; omega))
  · have h0b : (givenL xs != 0) = true := by simpa using h0
    have H0 := Lib.hid h0
    clear h0
    go_enter Try.func11, Try.ntmps11
    go_wp2_with (go_at_call 22; refine hgiv.mono ?_; rintro e w1 ⟨rfl, hb1⟩; clear hgiv)
    go_ret2
    exact ⟨_, rfl, ⟨fun _ => rfl, fun h => absurd h H0.out⟩, hb1⟩
end Go.Proofs.Ytghjhlenkgkelaa
