/- DERIVED. ProfileCounts: the walk. -/
import Derived.Test.YtghjhlenkgkelaaCounts0
set_option linter.unusedSimpArgs false
set_option linter.unusedVariables false
namespace Go.Proofs.Ytghjhlenkgkelaa
open Go.RowKit Go.Shelf Go.Sort
attribute [local go_sem] run_store_float

def True1 (w : World) (e : Ending) (w' : World) : Prop := e = .returned (.bool true) ∧ Below w.heap.size w w'

set_option maxRecDepth 100000 in
theorem counts_big (A : Option Addr) (n c : Nat) (w : World) (hn : 300 < n) (hm : n ≤ 9223372036854775807) :
    Calls Try.prog 3 #[.slice A n c] w (True1 w) := by
  go_enter Try.func3, Try.ntmps3
  go_wp2_with (go_at_call 9; refine (awake_any _).mono ?_; rintro e w1 ⟨rfl, hb1⟩)
  go_ret
  exact ⟨rfl, hb1⟩

set_option maxRecDepth 100000 in
set_option maxHeartbeats 1000000 in
theorem counts_err (A : Option Addr) (n c : Nat) (xs : List Acc) (w : World) (hn : n ≤ 300) (hr : Trace w w.heap.size A n xs) (hg : givenL xs ≠ 0) :
    Calls Try.prog 3 #[.slice A n c] w (True1 w) := by
  have hof := Of_err A n c 0 0 xs w (by omega) hr hg
  have hgr := fun w1 (hb : Below w.heap.size w w1) => Groups_any A n c xs w1 (by omega) ((hr.below hb (Nat.le_refl _)).mono hb.size)
  have HG := Lib.hid hg
  have HGV : Hid (∀ (w w' : World) v, GrpsRes w w' v xs → v = .slice none 0 0) := Lib.hid (fun w w' v h => h.1 HG.out)
  have hgb : (givenL xs != 0) = true := by simpa using hg
  have HR := Lib.hid hgr
  clear hr hg hgr
  generalize givenL xs = e0 at *
  go_enter Try.func3, Try.ntmps3
  go_wp2_with (first
    | (go_at_call 10
       refine hof.mono ?_
       rintro e w1 ⟨rfl, hb1⟩
       clear hof
       have hgr := HR.out _ (hb1.alloc hb1.size (.cells #[.slice none 0 0, .slice none 0 0, .float .f32 0] 28))
       have HB1 := Lib.hid (hb1.alloc hb1.size (.cells #[.slice none 0 0, .slice none 0 0, .float .f32 0] 28))
       have hz := BlkAt.new w1 28 #[.slice none 0 0, .slice none 0 0, .float .f32 0]
       have HZ := Lib.hid hz
       clear hb1 hz)
    | (go_at_call 11
       refine hgr.mono ?_
       rintro e w2 ⟨v, rfl, hv, hb2⟩
       clear hgr
       obtain rfl := HGV.out _ _ _ hv
       have hz2 := HZ.out.below hb2 HZ.out.lt
       have hc0 := hz2.cell 0
       have hc1 := hz2.cell 1
       simp only [List.getElem?_toArray, List.getElem?_cons_succ, List.getElem?_cons_zero] at hc0 hc1
       have HB2 := Lib.hid hb2
       clear hv hb2 hz2)
    | (go_at_call 9; refine (awake_any _).mono ?_; rintro e w3 ⟨rfl, hb3⟩))
  go_ret
  exact ⟨rfl, (HB1.out.trans (HB2.out.mono HB1.out.size)).trans (hb3.mono (by have := HB1.out.size; have := HB2.out.size; omega))⟩

theorem edges_facts {xs : List Acc} {es : List Edg} (h : IsEdges xs es) (hn : xs.length ≤ 300) : es.length ≤ 600 ∧ (∀ y ∈ es, (y.frm == y.at') = false ∧ decide (y.msg < 1) = false ∧ decide (y.acc < y.msg) = false ∧ 0 ≤ y.acc ∧ y.acc ≤ 300 ∧ 0 ≤ y.msg ∧ y.msg ≤ 300) := by
  refine ⟨by have := edges_len h; omega, fun y hy => ?_⟩
  obtain ⟨h1, h2, h3, h4⟩ := edge_ok h y hy
  exact ⟨by simpa using h1, decide_eq_false (by omega), decide_eq_false (by omega), by omega, by omega, by omega, by omega⟩
theorem sum_facts {es : List Edg} (hl : es.length ≤ 600) (h : ∀ y ∈ es, 0 ≤ y.acc ∧ y.acc ≤ 300 ∧ 0 ≤ y.msg ∧ y.msg ≤ 300) (j : Nat) : 0 ≤ sm (·.acc) (es.take j) ∧ sm (·.acc) (es.take j) ≤ 180000 ∧ 0 ≤ sm (·.msg) (es.take j) ∧ sm (·.msg) (es.take j) ≤ 180000 := by
  have h1 := sm_bound (f := fun y : Edg => y.acc) (B := 300) (l := es.take j) (fun y hy => by have := h y (List.mem_of_mem_take hy); omega)
  have h2 := sm_bound (f := fun y : Edg => y.msg) (B := 300) (l := es.take j) (fun y hy => by have := h y (List.mem_of_mem_take hy); omega)
  have : (es.take j).length ≤ es.length := by rw [List.length_take]; omega
  omega
theorem ssum_facts {sl : List Spt} (hl : sl.length ≤ 300) (h : ∀ s ∈ sl, s.le 300) (j : Nat) : 0 ≤ sm (fun s => s.reads + s.writes + s.other) (sl.take j) ∧ sm (fun s => s.reads + s.writes + s.other) (sl.take j) ≤ 300000 ∧ 0 ≤ sm (·.remote) (sl.take j) ∧ sm (·.remote) (sl.take j) ≤ 300000 := by
  have h1 := sm_bound (f := fun s : Spt => s.reads + s.writes + s.other) (B := 900) (l := sl.take j) (fun y hy => by have := h y (List.mem_of_mem_take hy); unfold Spt.le at this; omega)
  have h2 := sm_bound (f := fun s : Spt => s.remote) (B := 300) (l := sl.take j) (fun y hy => by have := h y (List.mem_of_mem_take hy); unfold Spt.le at this; omega)
  have : (sl.take j).length ≤ sl.length := by rw [List.length_take]; omega
  omega

set_option maxRecDepth 100000 in
set_option maxHeartbeats 2000000 in
theorem counts_ok (A : Option Addr) (n c : Nat) (xs : List Acc) (w : World) (hn : n ≤ 300) (hr : Trace w w.heap.size A n xs) (hg : givenL xs = 0) :
    Calls Try.prog 3 #[.slice A n c] w (True1 w) := by
  have hxl := hr.len
  have hof := Of_any A n c 0 0 xs w (by omega) hr hg (by decide +kernel) (by decide +kernel) (fun es h => by
    rw [cost0 es (fun y hy => by have := edge_ok h y hy; omega)]; rfl)
  have hgr := fun w1 (hb : Below w.heap.size w w1) => Groups_any A n c xs w1 (by omega) ((hr.below hb (Nat.le_refl _)).mono hb.size)
  have hre := fun w1 (hb : Below w.heap.size w w1) => remote_any A n c xs w1 (by omega) ((hr.below hb (Nat.le_refl _)).mono hb.size)
  have HG := Lib.hid hg
  have HXL := Lib.hid hxl
  have HR := Lib.hid hgr
  have HRE := Lib.hid hre
  have HGV : Hid (∀ (w w' : World) v, GrpsRes w w' v xs → GrpsOk w w' v xs) := Lib.hid (fun w w' v h => h.2 HG.out)
  rw [hg] at hgr
  clear hr hg hgr hre hxl
  go_enter Try.func3, Try.ntmps3
  go_wp2_with (first
    | (go_at_call 10
       refine hof.mono ?_
       rintro e w1 ⟨es, sl, ve, vs, cst, h1, h2, h3, rfl, h4, h5, h6⟩
       clear hof
       rw [cost0 es (fun y hy => by have := edge_ok h1 y hy; have := HXL.out; omega)] at h3
       injection h3 with h3
       subst h3
       obtain ⟨Ae, ce, rfl, _, _, _⟩ := own_slice h4
       obtain ⟨As, cs, rfl, _, _, _⟩ := own_slice h5
       have HB1 := Lib.hid (h6.alloc h6.size (.cells #[.slice Ae es.length ce, .slice As sl.length cs, .float .f32 0] 28))
       have hgr := HR.out _ HB1.out
       rw [HG.out] at hgr
       have HZ := Lib.hid (BlkAt.new w1 28 #[.slice Ae es.length ce, .slice As sl.length cs, .float .f32 0])
       have H4 := Lib.hid (h4.alloc (.cells #[.slice Ae es.length ce, .slice As sl.length cs, .float .f32 0] 28))
       have H5 := Lib.hid (h5.alloc (.cells #[.slice Ae es.length ce, .slice As sl.length cs, .float .f32 0] 28))
       have H1 := Lib.hid h1
       have H2 := Lib.hid h2
       clear h1 h2 h4 h5 h6)
    | (go_at_call 11
       refine hgr.mono ?_
       rintro e w2 ⟨v, rfl, hv, hb2⟩
       clear hgr
       obtain ⟨ms, hms, hrow⟩ := HGV.out _ _ _ hv
       obtain ⟨Ag, cg, rfl, _, _, _⟩ := own_slice hms
       have HML : Hid (ms.length = (runR xs xs.length).length) := Lib.hid hrow.1
       have HZ2 := Lib.hid (HZ.out.below hb2 HZ.out.lt)
       have H42 := Lib.hid (H4.out.kept (grown_of_below (row := none) hb2) (none_or _))
       have H52 := Lib.hid (H5.out.kept (grown_of_below (row := none) hb2) (none_or _))
       have HB2 := Lib.hid (HB1.out.trans (hb2.mono HB1.out.size))
       clear hv hb2 hms hrow))
  have hxn : xs.length ≤ 300 := by have := HXL.out; omega
  obtain ⟨hel, hef⟩ := edges_facts H1.out hxn
  have hsum := sum_facts hel (fun y hy => by have := hef y hy; omega)
  have HEF := Lib.hid hef
  have HSUM := Lib.hid hsum
  have hsl : sl.length ≤ 300 := by have := spots_len H2.out; omega
  have HSS := Lib.hid (ssum_facts hsl (fun s hs => by have := spots_le H2.out s hs; unfold Spt.le at *; omega))
  have HSLE : Hid (∀ s ∈ sl, s.le 300) := Lib.hid (fun s hs => by have := spots_le H2.out s hs; unfold Spt.le at *; omega)
  clear hef hsum
  have HZC : Hid (∀ wr, Below w2.heap.size w2 wr → wr.cell? ⟨w1.heap.size, 0, none⟩ = some (.slice Ae es.length ce) ∧ wr.cell? ⟨w1.heap.size, 1, none⟩ = some (.slice As sl.length cs) ∧ wr.cell? ⟨w1.heap.size, 2, none⟩ = some (.float .f32 0)) := Lib.hid (fun wr hb => by
    have hz := HZ2.out.below hb HZ2.out.lt
    exact ⟨hz.cell 0, hz.cell 1, hz.cell 2⟩)
  go_loopw [7, 8, 11] (fun a m i wr => ∃ j : Nat, j ≤ es.length ∧ i = .int .i64 j ∧ a = .int .i64 (sm (·.acc) (es.take j)) ∧ m = .int .i64 (sm (·.msg) (es.take j)) ∧ Below w2.heap.size w2 wr) (fun _ _ i _ => es.length - (intOf i).toNat)
  case atStart => exact ⟨0, by omega, rfl, rfl, rfl, Below.refl _ _⟩
  case round =>
    obtain ⟨j, hj, rfl, rfl, rfl, hb⟩ := hrel
    obtain ⟨z0, z1, z2⟩ := HZC.out _ hb
    by_cases hlt : j < es.length
    · obtain ⟨x, hx⟩ := get_some hlt
      obtain ⟨f1, f2, f3, f4, f5, f6, f7⟩ := HEF.out x (List.mem_of_getElem? hx)
      obtain ⟨b1, b2, b3, b4⟩ := HSUM.out j
      have hrow := H42.out.kept (grown_of_below (row := none) hb) (none_or _)
      obtain ⟨ge, rfl, hge, hce⟩ := row_cells hrow (by omega)
      have hc := fun (i : Nat) (u : Value) (hu : (encEL x)[i]? = some u) => hce _ _ (flat_at (enc := encEL) (k := 4) (fun _ => rfl) hx hu)
      have hc0 := hc 0 _ rfl
      have hc1 := hc 1 _ rfl
      have hc2 := hc 2 _ rfl
      have hc3 := hc 3 _ rfl
      rw [Nat.add_zero] at hc0
      have HA := Lib.hid (sm_take (fun y : Edg => y.acc) hx)
      have HM := Lib.hid (sm_take (fun y : Edg => y.msg) hx)
      have hj0 : (0 : Int) ≤ (j : Int) := by omega
      have hj1 : (j : Int) < (es.length : Int) := by omega
      have HB := Lib.hid hb
      clear hc hce hrow hx hb
      generalize sm (fun y : Edg => y.acc) (es.take j) = qa at *
      generalize sm (fun y : Edg => y.msg) (es.take j) = qm at *
      go_wp2
      go_quiet (fail)
      go_wp2
      go_roundw
      case rel => exact ⟨j + 1, by omega, by go_num, by rw [HA.out], by rw [HM.out], below_draw HB.out _⟩
      case measure => simp [intOf]; omega
    · obtain rfl : j = es.length := by omega
      have hE1 : sm (fun y : Edg => y.acc) es = remN xs := (edges_sums H1.out).1
      have hE2 : sm (fun y : Edg => y.msg) es = (ms.length : Int) := (edges_sums H1.out).2.trans (by rw [HML.out])
      rw [List.take_length, hE1, hE2]
      have hrb := remN_le xs
      obtain ⟨hr1, hr2⟩ := hrb
      have hr3 : remN xs ≤ 300 := by omega
      obtain ⟨wg, rfl⟩ : ∃ wg : World, wg = wr := ⟨_, rfl⟩
      have HWG := Lib.hid hb
      clear hE1 hE2 hr2 hb hlt hj
      go_wp2
      go_loopw [9, 10, 12] (fun a m i wr => ∃ j : Nat, j ≤ sl.length ∧ i = .int .i64 j ∧ a = .int .i64 (sm (fun s => s.reads + s.writes + s.other) (sl.take j)) ∧ m = .int .i64 (sm (·.remote) (sl.take j)) ∧ Below w2.heap.size w2 wr) (fun _ _ i _ => sl.length - (intOf i).toNat)
      case atStart => exact ⟨0, by omega, rfl, rfl, rfl, HWG.out⟩
      case round =>
        obtain ⟨j, hj, rfl, rfl, rfl, hb⟩ := hrel
        obtain ⟨z0, z1, z2⟩ := HZC.out _ hb
        by_cases hlt : j < sl.length
        · obtain ⟨x, hx⟩ := get_some hlt
          have hle := HSLE.out x (List.mem_of_getElem? hx)
          unfold Spt.le at hle
          obtain ⟨k1, k2, k3, k4, k5, k6, k7, k8⟩ := hle
          obtain ⟨b1, b2, b3, b4⟩ := HSS.out j
          have hrow := H52.out.kept (grown_of_below (row := none) hb) (none_or _)
          obtain ⟨gs, rfl, hgs, hcs⟩ := row_cells hrow (by omega)
          have hc := fun (i : Nat) (u : Value) (hu : (encSL x)[i]? = some u) => hcs _ _ (flat_at (enc := encSL) (k := 7) (fun _ => rfl) hx hu)
          have hc3 := hc 3 _ rfl
          have hc4 := hc 4 _ rfl
          have hc5 := hc 5 _ rfl
          have hc6 := hc 6 _ rfl
          have HA := Lib.hid (sm_take (fun s : Spt => s.reads + s.writes + s.other) hx)
          have HM := Lib.hid (sm_take (fun s : Spt => s.remote) hx)
          have hj0 : (0 : Int) ≤ (j : Int) := by omega
          have hj1 : (j : Int) < (sl.length : Int) := by omega
          have HB := Lib.hid hb
          clear hc hcs hrow hx hb
          generalize sm (fun s : Spt => s.reads + s.writes + s.other) (sl.take j) = qa at *
          generalize sm (fun s : Spt => s.remote) (sl.take j) = qm at *
          have q1 : x.reads ≤ 300 := by omega
          have q2 : x.writes ≤ 300 := by omega
          have q3 : x.other ≤ 300 := by omega
          have q4 : x.remote ≤ 300 := by omega
          go_wp2
          go_quiet (fail)
          go_wp2
          go_roundw
          case rel => exact ⟨j + 1, by omega, by go_num, by rw [HA.out], by rw [HM.out], below_draw HB.out _⟩
          case measure => simp [intOf]; omega
        · obtain rfl : j = sl.length := by omega
          have hS1 : sm (fun s : Spt => s.reads + s.writes + s.other) sl = (n : Int) := (spots_sums H2.out).1.trans (by rw [HXL.out])
          have hS2 : sm (fun s : Spt => s.remote) sl = remN xs := (spots_sums H2.out).2
          rw [List.take_length, hS1, hS2]
          have HB3 : Hid (Below w.heap.size w wr) := Lib.hid (HB2.out.trans (hb.mono HB2.out.size))
          have hre := HRE.out wr HB3.out
          clear hS1 hS2 hb hlt hj
          go_wp2_with (first
            | (go_at_call 12
               refine hre.mono ?_
               rintro e w4 ⟨rfl, hb4⟩
               clear hre
               have z2' := (hb4.cell (p := ⟨w1.heap.size, 2, none⟩) (cell_lt z2)).trans z2
               have HB4 := Lib.hid (HB3.out.trans (hb4.mono HB3.out.size))
               clear hb4)
            | (go_at_call 9; refine (awake_any _).mono ?_; rintro e w5 ⟨rfl, hb5⟩))
          go_ret
          exact ⟨rfl, HB4.out.trans (hb5.mono HB4.out.size)⟩
end Go.Proofs.Ytghjhlenkgkelaa
