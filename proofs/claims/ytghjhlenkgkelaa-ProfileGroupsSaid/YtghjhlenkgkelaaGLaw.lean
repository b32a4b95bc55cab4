/- DERIVED. ProfileGroups: the walk. -/
import Derived.Test.YtghjhlenkgkelaaGLaw0
import Derived.Test.YtghjhlenkgkelaaCounts
import Derived.IntWalk
set_option linter.unusedSimpArgs false
set_option linter.unusedVariables false
namespace Go.Proofs.Ytghjhlenkgkelaa
open Go.RowKit Go.Shelf Go.Sort

set_option maxRecDepth 100000 in
theorem grps_big (A : Option Addr) (n c : Nat) (w : World) (hn : 200 < n) (hm : n ≤ 9223372036854775807) :
    Calls Try.prog 4 #[.slice A n c] w (True1 w) := by
  go_enter Try.func4, Try.ntmps4
  go_wp2_with (go_at_call 9; refine (awake_any _).mono ?_; rintro e w1 ⟨rfl, hb1⟩)
  go_ret
  exact ⟨rfl, hb1⟩
set_option maxRecDepth 100000 in
set_option maxHeartbeats 1000000 in
theorem grps_err (A : Option Addr) (n c : Nat) (xs : List Acc) (w : World) (hn : n ≤ 200) (hr : Trace w w.heap.size A n xs) (hg : givenL xs ≠ 0) :
    Calls Try.prog 4 #[.slice A n c] w (True1 w) := by
  have hgr := Groups_any A n c xs w (by omega) hr
  have hgb : (givenL xs != 0) = true := by simpa using hg
  have HGV : Hid (∀ (w w' : World) v, GrpsRes w w' v xs → v = .slice none 0 0) := Lib.hid (fun w w' v h => h.1 hg)
  clear hr hg
  generalize givenL xs = e0 at *
  go_enter Try.func4, Try.ntmps4
  go_wp2_with (first
    | (go_at_call 11
       refine hgr.mono ?_
       rintro e w2 ⟨v, rfl, hv, hb2⟩
       clear hgr
       obtain rfl := HGV.out _ _ _ hv
       have HB2 := Lib.hid hb2
       clear hv hb2)
    | (go_at_call 9; refine (awake_any _).mono ?_; rintro e w3 ⟨rfl, hb3⟩))
  go_ret
  exact ⟨rfl, HB2.out.trans (hb3.mono HB2.out.size)⟩

set_option maxRecDepth 100000 in
set_option maxHeartbeats 4000000 in
theorem grps_ok (A : Option Addr) (n c : Nat) (xs : List Acc) (w : World) (hn : n ≤ 200) (hr : Trace w w.heap.size A n xs) (hg : givenL xs = 0) :
    Calls Try.prog 4 #[.slice A n c] w (True1 w) := by
  have HXL := Lib.hid hr.len
  have hgr := Groups_any A n c xs w (by omega) hr
  have HG := Lib.hid hg
  have HR := Lib.hid hr
  have HGV : Hid (∀ (w w' : World) v, GrpsRes w w' v xs → GrpsOk w w' v xs) := Lib.hid (fun w w' v h => h.2 HG.out)
  have HI := Lib.hid (inv_run xs xs.length (Nat.le_refl _))
  rw [hg] at hgr
  clear hr hg
  obtain ⟨i0, hi, hz0, hz1, hz2⟩ := info_parts int_info
  go_enter Try.func4, Try.ntmps4
  go_wp2_with (first
    | (go_at_call 11
       refine hgr.mono ?_
       rintro e w2 ⟨v, rfl, hv, hb2⟩
       clear hgr
       obtain ⟨ms, hms, hrow⟩ := HGV.out _ _ _ hv
       obtain ⟨Ag, cg, rfl, _, _, _⟩ := own_slice hms
       have HML : Hid (ms.length = (runR xs xs.length).length) := Lib.hid hrow.1
       have hml : ms.length ≤ 200 := by rw [HML.out]; have := HI.out.len; have := HXL.out; omega
       have HRD : Hid (RowsRd w2 Ag (runR xs xs.length)) := Lib.hid (rows_rd hms hrow HI.out.ne)
       have HB2 := Lib.hid hb2
       clear hv hb2 hms hrow)
    | (at_make; refine wpList_make_row _ rfl _ _ 44 rfl 3 i0 (.int .i64 0) Try.underlying44 hi hz0 hz1 rfl .i64 .i64 n rfl rfl (by rw [hz2]; omega) (by omega) ?_))
  have HM0 := Lib.hid (MetAt.made w2 n)
  have HB20 : Hid (Below w2.heap.size w2 (w2.alloc (.cells (madeCells #[.int .i64 0] n) 3))) := Lib.hid ((Below.refl _ _).alloc (Nat.le_refl _) _)
  go_loopw [6] (fun i wr => ∃ k : Nat, k ≤ ms.length ∧ i = .int .i64 k ∧ MetAt wr w2.heap.size n (((runR xs xs.length).take k).flatMap (·.1.mem)) ∧ Below w2.heap.size w2 wr) (fun i _ => ms.length - (intOf i).toNat)
  case atStart => exact ⟨0, by omega, rfl, HM0.out, HB20.out⟩
  case round => as_aux_lemma =>
    obtain ⟨i, hi', rfl, hmet, hb⟩ := hrel
    by_cases hlt : i < ms.length
    · obtain ⟨p, hp⟩ := get_some (xs := runR xs xs.length) (k := i) (by rw [← HML.out]; exact hlt)
      obtain ⟨gb, b, o, cc, rfl, hgi, hgb, hbb, hmem⟩ := HRD.out i p hp
      have HGI : Hid (∀ wr, Below w2.heap.size w2 wr → wr.cell? ⟨gb, i, none⟩ = some (.slice (some ⟨b, o, none⟩) p.1.mem.length cc)) := Lib.hid (fun wr hb => cell_below hb (Nat.le_refl _) hgi)
      have HME : Hid (∀ wr, Below w2.heap.size w2 wr → ∀ (k m : Nat), p.1.mem[k]? = some m → wr.cell? ⟨b, o + k, none⟩ = some (.int .i64 (m : Int))) := Lib.hid (fun wr hb k m hk => cell_below hb (Nat.le_refl _) (hmem k m hk))
      have HP := Lib.hid hp
      have HPM := Lib.hid (List.mem_of_getElem? hp)
      have hlen1 := HI.out.le64 p HPM.out
      have hlen0 : 0 < p.1.mem.length := List.length_pos_iff.2 (HI.out.ne p HPM.out)
      have hne0 : ((p.1.mem.length : Int) == 0) = false := by simp; exact HI.out.ne p HPM.out
      have hne1 : (p.1.mem.length == 0) = false := by simp; exact HI.out.ne p HPM.out
      have hle1 : decide ((64 : Int) < (p.1.mem.length : Int)) = false := decide_eq_false (by omega)
      have hle2 : decide (64 < p.1.mem.length) = false := decide_eq_false (by omega)
      have hgi := HGI.out wr hb
      obtain ⟨a0, hma0⟩ := get_some (xs := p.1.mem) hlen0
      obtain ⟨z, hxz, hsz⟩ := HI.out.same p HPM.out a0 (List.mem_of_getElem? hma0)
      have HSZ := Lib.hid hsz
      clear hsz
      obtain ⟨tb, to, rfl, _, _⟩ := HR.out.at_ a0 z hxz
      have HACC : Hid (∀ wr, Below w2.heap.size w2 wr → ∀ (m : Nat) (y : Acc), xs[m]? = some y → AccAt wr tb (to + m * 7) y ∧ tb < wr.heap.size) := Lib.hid (fun wr hb m y hy => by
        obtain ⟨tb', to', e, hl, hc⟩ := (HR.out.below (HB2.out.trans (hb.mono HB2.out.size)) (Nat.le_refl _)).at_ m y hy
        injection e with e
        injection e with e1 e2
        subst e1 e2
        have := HB2.out.size
        have := hb.size
        exact ⟨hc, by omega⟩)
      have ha0n : a0 < n := by have := HI.out.lt HPM.out (List.mem_of_getElem? hma0); have := HXL.out; omega
      have HMA0 := Lib.hid hma0
      have HXZ := Lib.hid hxz
      clear hma0 hxz
      have HMET := Lib.hid hmet
      have HBI := Lib.hid hb
      obtain ⟨wi, rfl⟩ : ∃ wi : World, wi = wr := ⟨_, rfl⟩
      have HGB : Hid (∀ wr : World, w2.heap.size ≤ wr.heap.size → gb < wr.heap.size ∧ b < wr.heap.size) := Lib.hid (fun wr h => ⟨by omega, by omega⟩)
      clear hp hmem hmet hb hgb hbb
      go_wp2
      clear hgi
      go_loopw [7] (fun v wr => ∃ k : Nat, k ≤ p.1.mem.length ∧ v = .int .i64 k ∧ MetAt wr w2.heap.size n (((runR xs xs.length).take i).flatMap (·.1.mem) ++ p.1.mem.take k) ∧ Below w2.heap.size w2 wr) (fun v _ => p.1.mem.length - (intOf v).toNat)
      case atStart => exact ⟨0, by omega, rfl, by simpa using HMET.out, HBI.out⟩
      case round => as_aux_lemma =>
        obtain ⟨k, hk, rfl, hmet, hb⟩ := hrel
        have hgi2 := HGI.out wr hb
        by_cases hlt2 : k < p.1.mem.length
        · obtain ⟨m, hm⟩ := get_some (xs := p.1.mem) hlt2
          have hmc := HME.out wr hb k m hm
          have hmn : m < n := by have := HI.out.lt HPM.out (List.mem_of_getElem? hm); have := HXL.out; omega
          have hfresh := HI.out.fresh HP.out hm
          have hz := hmet.cell hmn
          rw [if_neg hfresh] at hz
          have hfz := BlkAt.frozen hmet m
          have HF := Lib.hid hfresh
          have HMT := Lib.hid hmet
          have HB := Lib.hid hb
          have HTK : Hid (p.1.mem.take (k + 1) = p.1.mem.take k ++ [m]) := Lib.hid (by rw [List.take_add_one, hm]; rfl)
          have f1 : decide ((m : Int) < 0) = false := decide_eq_false (by omega)
          have f2 : decide ((n : Int) ≤ (m : Int)) = false := decide_eq_false (by omega)
          have f3 : decide (n ≤ m) = false := decide_eq_false (by omega)
          have hk0 : (0 : Int) ≤ (k : Int) := by omega
          have hk1 : (k : Int) < (p.1.mem.length : Int) := by omega
          have hmi0 : (0 : Int) ≤ (m : Int) := by omega
          have hmi1 : (m : Int) < (n : Int) := by omega
          by_cases h0 : 0 < k
          · have g1 : decide ((0 : Int) < (k : Int)) = true := decide_eq_true (by omega)
            have g2 : decide (0 < k) = true := decide_eq_true h0
            obtain ⟨m', hm'⟩ := get_some (xs := p.1.mem) (k := k - 1) (by omega)
            have hmc' := HME.out wr hb (k - 1) m' hm'
            have hlt' : m' < m := HI.out.asc_at HPM.out (k := k - 1) (by rw [show k - 1 + 1 = k by omega]; exact hm) hm'
            have g3 : decide ((m : Int) ≤ (m' : Int)) = false := decide_eq_false (by omega)
            have g4 : decide (m ≤ m') = false := decide_eq_false (by omega)
            have s2 : (0 : Int) ≤ (k : Int) - 1 := by omega
            have s4 : (k : Int) - 1 < (p.1.mem.length : Int) := by omega
            clear hm hm' hfresh hmet hb hlt'
            have s1 : IntKind.i64.wrap ((k : Int) - 1) = (k : Int) - 1 := IntWalk.i64_in _ (by omega)
            have s3 : ((k : Int) - 1).toNat = k - 1 := by omega
            go_wp2
            go_quiet (fail)
            clear s1 s3
            go_wp2
            go_roundw
            case rel => exact ⟨k + 1, by omega, by go_num, by rw [HTK.out, ← List.append_assoc]; exact HMT.out.set HF.out, (below_draw HB.out _).setCell (p := ⟨w2.heap.size, m, none⟩) (Nat.le_refl _) _⟩
            case measure => simp [intOf]; omega
          · have g1 : decide ((0 : Int) < (k : Int)) = false := decide_eq_false (by omega)
            have g2 : decide (0 < k) = false := decide_eq_false h0
            clear hm hfresh hmet hb
            go_wp2
            go_quiet (fail)
            go_wp2
            go_roundw
            case rel => exact ⟨k + 1, by omega, by go_num, by rw [HTK.out, ← List.append_assoc]; exact HMT.out.set HF.out, (below_draw HB.out _).setCell (p := ⟨w2.heap.size, m, none⟩) (Nat.le_refl _) _⟩
            case measure => simp [intOf]; omega
        · obtain rfl : k = p.1.mem.length := by omega
          obtain ⟨wj, rfl⟩ : ∃ wj : World, wj = wr := ⟨_, rfl⟩
          rw [List.take_length] at hmet
          have HMT := Lib.hid hmet
          have HBJ := Lib.hid hb
          obtain ⟨⟨z0, z1, z2, z3, z4, z5, z6⟩, htb⟩ := HACC.out wj hb a0 z HXZ.out
          have hmc0 := HME.out wj hb 0 a0 HMA0.out
          rw [Nat.add_zero] at hmc0
          have hai0 : (0 : Int) ≤ (a0 : Int) := by omega
          have hai1 : (a0 : Int) < (n : Int) := by omega
          have hl0 : (0 : Int) < (p.1.mem.length : Int) := by omega
          have HPA := Lib.hid (BlkAt.new wj 46 z.cells)
          have HBA : Hid (Below w2.heap.size w2 (wj.alloc (.cells z.cells 46))) := Lib.hid (hb.alloc hb.size _)
          unfold Acc.cells at HBA HPA
          clear hmet hb
          go_wp2
          clear z0 z1 z2 z3 z4 z5 z6 hmc0 hgi2
          go_loopw [9] (fun v wr => ∃ k : Nat, k ≤ p.1.mem.length ∧ v = .int .i64 k ∧ Below (wj.heap.size + 1) (wj.alloc (.cells #[.int .i64 z.task, .int .i64 z.p0, .int .i64 z.p1, .int .i64 z.p2, .int .i64 z.kind, .int .i64 z.frm, .int .i64 z.at'] 46)) wr) (fun v _ => p.1.mem.length - (intOf v).toNat)
          case atStart => exact ⟨0, by omega, rfl, Below.refl _ _⟩
          case round => as_aux_lemma =>
            obtain ⟨k, hk, rfl, hb⟩ := hrel
            have hbw2 : Below w2.heap.size w2 wr := HBA.out.trans (hb.mono (by have := HBJ.out.size; omega))
            have hgi2 := HGI.out wr hbw2
            by_cases hlt2 : k < p.1.mem.length
            · obtain ⟨m, hm⟩ := get_some (xs := p.1.mem) hlt2
              obtain ⟨y, hxy, s1, s2, s3, s4⟩ := HI.out.same p HPM.out m (List.mem_of_getElem? hm)
              obtain ⟨r1, r2, r3, r4⟩ := HSZ.out
              have hmc := HME.out wr hbw2 k m hm
              have hmc0 := HME.out wr hbw2 0 a0 HMA0.out
              rw [Nat.add_zero] at hmc0
              obtain ⟨⟨y0, y1, y2, y3, y4, y5, y6⟩, htb⟩ := HACC.out wr hbw2 m y hxy
              have hmn : m < n := by have := HI.out.lt HPM.out (List.mem_of_getElem? hm); have := HXL.out; omega
              have HMK := Lib.hid hm
              have ham := HI.out.asc_le HPM.out hm HMA0.out
              have e1 : (y.task != z.task) = false := by simp [s1, r1]
              have e2 : (y.kind != z.kind) = false := by simp [s2, r2]
              have e3 : (y.frm != z.frm) = false := by simp [s3, r3]
              have e4 : (y.at' != z.at') = false := by simp [s4, r4]
              have hpa := HPA.out.below hb (Nat.lt_succ_self _)
              have q0 := hpa.cell 0
              have q4 := hpa.cell 4
              have q5 := hpa.cell 5
              have q6 := hpa.cell 6
              have hpl := hpa.lt
              obtain ⟨hgl, hbl⟩ := HGB.out wr hbw2.size
              simp only [List.getElem?_toArray, List.getElem?_cons_succ, List.getElem?_cons_zero] at q0 q4 q5 q6
              have hmi0 : (0 : Int) ≤ (m : Int) := by omega
              have hmi1 : (m : Int) < (n : Int) := by omega
              have hk0 : (0 : Int) ≤ (k : Int) := by omega
              have hk1 : (k : Int) < (p.1.mem.length : Int) := by omega
              have hl0 : (0 : Int) < (p.1.mem.length : Int) := by omega
              have HPA2 := Lib.hid (hpa.alloc (.cells #[.int .i64 y.task, .int .i64 y.p0, .int .i64 y.p1, .int .i64 y.p2, .int .i64 y.kind, .int .i64 y.frm, .int .i64 y.at'] 46))
              have HB9 := Lib.hid hb
              have HB4 : Hid (Below w2.heap.size w2 (wr.alloc (.cells #[.int .i64 y.task, .int .i64 y.p0, .int .i64 y.p1, .int .i64 y.p2, .int .i64 y.kind, .int .i64 y.frm, .int .i64 y.at'] 46))) := Lib.hid (hbw2.alloc hbw2.size _)
              obtain ⟨wk, rfl⟩ : ∃ wk : World, wk = wr := ⟨_, rfl⟩
              clear s1 s2 s3 s4 r1 r2 r3 r4 hm hxy hpa hb hbw2
              go_wp2
              clear y0 y1 y2 y3 y4 y5 y6 hmc hmc0 q0 q4 q5 q6 hgi2 e1 e2 e3 e4
              go_loopw [11] (fun v wr => ∃ j : Nat, a0 ≤ j ∧ j ≤ m ∧ v = .int .i64 j ∧ Below (wk.heap.size + 1) (wk.alloc (.cells #[.int .i64 y.task, .int .i64 y.p0, .int .i64 y.p1, .int .i64 y.p2, .int .i64 y.kind, .int .i64 y.frm, .int .i64 y.at'] 46)) wr) (fun v _ => m - (intOf v).toNat)
              case atStart => exact ⟨a0, Nat.le_refl _, ham, rfl, Below.refl _ _⟩
              case round => as_aux_lemma =>
                obtain ⟨j, hj1, hj2, rfl, hb⟩ := hrel
                have hbw2 : Below w2.heap.size w2 wr := HB4.out.trans (hb.mono (by have := HBJ.out.size; have := HB9.out.size; simp at this; omega))
                have hgi2 := HGI.out wr hbw2
                have hmc := HME.out wr hbw2 k m HMK.out
                by_cases hlt4 : j < m
                · obtain ⟨x, hxx⟩ := get_some (xs := xs) (k := j) (by have := HXL.out; omega)
                  obtain ⟨⟨x0, x1, x2, x3, x4, x5, x6⟩, htb⟩ := HACC.out wr hbw2 j x hxx
                  obtain ⟨hgl, hbl⟩ := HGB.out wr hbw2.size
                  have hpa := HPA2.out.below hb (by have := HPA.out.lt; have := HB9.out.size; simp at this ⊢; omega)
                  have q0 := hpa.cell 0
                  have q4 := hpa.cell 4
                  have q5 := hpa.cell 5
                  have q6 := hpa.cell 6
                  have hpl := hpa.lt
                  simp only [List.getElem?_toArray, List.getElem?_cons_succ, List.getElem?_cons_zero] at q0 q4 q5 q6
                  have hji0 : (0 : Int) ≤ (j : Int) := by omega
                  have hji1 : (j : Int) < (n : Int) := by omega
                  have hk0 : (0 : Int) ≤ (k : Int) := by omega
                  have hk1 : (k : Int) < (p.1.mem.length : Int) := by omega
                  have HBN : Hid (Below (wk.heap.size + 1) (wk.alloc (.cells #[.int .i64 y.task, .int .i64 y.p0, .int .i64 y.p1, .int .i64 y.p2, .int .i64 y.kind, .int .i64 y.frm, .int .i64 y.at'] 46)) (wr.alloc (.cells #[.int .i64 x.task, .int .i64 x.p0, .int .i64 x.p1, .int .i64 x.p2, .int .i64 x.kind, .int .i64 x.frm, .int .i64 x.at'] 46))) := Lib.hid (hb.alloc (by have := hb.size; simp at this; omega) _)
                  have HBN2 : Hid (Below w2.heap.size w2 (wr.alloc (.cells #[.int .i64 x.task, .int .i64 x.p0, .int .i64 x.p1, .int .i64 x.p2, .int .i64 x.kind, .int .i64 x.frm, .int .i64 x.at'] 46))) := Lib.hid (hbw2.alloc hbw2.size _)
                  have HPC := Lib.hid (BlkAt.new wr 46 x.cells)
                  unfold Acc.cells at HPC
                  have hsz : w2.heap.size ≤ wr.heap.size := hbw2.size
                  obtain ⟨wl, rfl⟩ : ∃ wl : World, wl = wr := ⟨_, rfl⟩
                  by_cases ht : x.task = z.task
                  · obtain ⟨hkd, hds⟩ := HI.out.between HPM.out HMK.out HMA0.out hj1 hlt4 hxx HXZ.out ht
                    have t1 : (x.task != z.task) = false := by simpa using ht
                    clear ht hb hbw2 hpa hxx
                    rcases hds with d1 | ⟨d1, d2⟩ | ⟨d1, d2, d3⟩ | ⟨d1, d2, d3, d4⟩
                    rotate_left 3
                    · have HD4 := Lib.hid d4
                      clear d4
                      rcases hkd with k1 | ⟨k1, k2⟩
                      all_goals
                        go_wp2
                        clear x0 x1 x2 x3 x4 x5 x6 q0 q4 q5 q6 d1 d2 d3 t1 k1 hmc hgi2
                        go_loopw [13] (fun v wr => ∃ q : Nat, q ≤ k ∧ v = .int .i64 q ∧ Below (wl.heap.size + 1) (wl.alloc (.cells #[.int .i64 x.task, .int .i64 x.p0, .int .i64 x.p1, .int .i64 x.p2, .int .i64 x.kind, .int .i64 x.frm, .int .i64 x.at'] 46)) wr) (fun v _ => k - (intOf v).toNat)
                        case atStart => exact ⟨0, by omega, rfl, Below.refl _ _⟩
                        case round => as_aux_lemma =>
                          obtain ⟨q, hq, rfl, hb⟩ := hrel
                          have hbw2 : Below w2.heap.size w2 wr := HBN2.out.trans (hb.mono (by omega))
                          have hgi2 := HGI.out wr hbw2
                          have HBQ : Hid (Below (wk.heap.size + 1) (wk.alloc (.cells #[.int .i64 y.task, .int .i64 y.p0, .int .i64 y.p1, .int .i64 y.p2, .int .i64 y.kind, .int .i64 y.frm, .int .i64 y.at'] 46)) wr) := Lib.hid (HBN.out.trans (hb.mono (by have := HBN.out.size; simp at this; omega)))
                          by_cases hqk : q < k
                          · obtain ⟨mq, hmq⟩ := get_some (xs := p.1.mem) (k := q) (by omega)
                            obtain ⟨u, hxu, _⟩ := HI.out.same p HPM.out mq (List.mem_of_getElem? hmq)
                            have hmc := HME.out wr hbw2 q mq hmq
                            have hmqn : mq < n := by have := HI.out.lt HPM.out (List.mem_of_getElem? hmq); have := HXL.out; omega
                            obtain ⟨⟨v0, v1, v2, v3, v4, v5, v6⟩, htb2⟩ := HACC.out wr hbw2 mq u hxu
                            have hqi0 : (0 : Int) ≤ (q : Int) := by omega
                            have hqi1 : (q : Int) < (p.1.mem.length : Int) := by omega
                            have hmqi0 : (0 : Int) ≤ (mq : Int) := by omega
                            have hmqi1 : (mq : Int) < (n : Int) := by omega
                            by_cases hmj : mq < j
                            · have hpl3 : (u.p0 == x.p0 && u.p1 == x.p1 && u.p2 == x.p2) = false := by
                                have := HD4.out q u mq hmq hmj hxu
                                cases hb3 : (u.p0 == x.p0 && u.p1 == x.p1 && u.p2 == x.p2) with
                                | false => rfl
                                | true =>
                                  simp only [Bool.and_eq_true, beq_iff_eq] at hb3
                                  exact absurd (by simp [Acc.place, hb3.1.1, hb3.1.2, hb3.2]) this
                              have hpc := HPC.out.below hb (Nat.lt_succ_self _)
                              have w1' := hpc.cell 1
                              have w2' := hpc.cell 2
                              have w3' := hpc.cell 3
                              simp only [List.getElem?_toArray, List.getElem?_cons_succ, List.getElem?_cons_zero] at w1' w2' w3'
                              have HBE := Lib.hid hb
                              clear hb hbw2 hmq hxu hpc
                              go_wp2
                              go_quiet (fail)
                              go_wp2
                              go_roundw
                              case rel => exact ⟨q + 1, by omega, by go_num, below_draw HBE.out _⟩
                              case measure => simp [intOf]; omega
                            · clear hb hbw2 hmq hxu
                              go_wp2
                              go_roundw
                              case rel => exact ⟨j + 1, by omega, by omega, by go_num, HBQ.out⟩
                              case measure => simp [intOf]; omega
                          · clear hb hbw2
                            go_wp2
                            go_roundw
                            case rel => exact ⟨j + 1, by omega, by omega, by go_num, HBQ.out⟩
                            case measure => simp [intOf]; omega
                    all_goals
                      rcases hkd with k1 | ⟨k1, k2⟩
                      all_goals
                        go_wp2
                        go_roundw
                        case rel => exact ⟨j + 1, by omega, by omega, by go_num, HBN.out⟩
                        case measure => simp [intOf]; omega
                  · have t1 : (x.task != z.task) = true := by simpa using ht
                    clear ht hb hbw2 hpa hxx
                    go_wp2
                    go_roundw
                    case rel => exact ⟨j + 1, by omega, by omega, by go_num, HBN.out⟩
                    case measure => simp [intOf]; omega
                · have HBR : Hid (Below (wj.heap.size + 1) (wj.alloc (.cells #[.int .i64 z.task, .int .i64 z.p0, .int .i64 z.p1, .int .i64 z.p2, .int .i64 z.kind, .int .i64 z.frm, .int .i64 z.at'] 46)) wr) := Lib.hid ((HB9.out.alloc (by have := HB9.out.size; simp at this; omega) _).trans (hb.mono (by have := HB9.out.size; simp at this; omega)))
                  clear hb hbw2
                  go_wp2
                  go_roundw
                  case rel => exact ⟨k + 1, by omega, by go_num, HBR.out⟩
                  case measure => simp [intOf]; omega
            · obtain rfl : k = p.1.mem.length := by omega
              have HFM : Hid (MetAt wr w2.heap.size n (((runR xs xs.length).take (i + 1)).flatMap (·.1.mem))) := Lib.hid (by
                rw [List.take_add_one, HP.out, List.flatMap_append]
                have hM := (MetAt.lt' HMT.out)
                have h1 : MetAt (wj.alloc (.cells #[.int .i64 z.task, .int .i64 z.p0, .int .i64 z.p1, .int .i64 z.p2, .int .i64 z.kind, .int .i64 z.frm, .int .i64 z.at'] 46)) w2.heap.size n _ := BlkAt.alloc HMT.out _
                have h2 := BlkAt.below h1 hb (by omega)
                simp only [Option.toList_some, List.flatMap_cons, List.flatMap_nil, List.append_nil]
                exact h2)
              have HBE := Lib.hid hbw2
              clear hb hbw2
              go_wp2
              go_roundw
              case rel => exact ⟨i + 1, by omega, by go_num, HFM.out, HBE.out⟩
              case measure => simp [intOf]; omega
    · obtain rfl : i = ms.length := by omega
      rw [HML.out, List.take_length] at hmet
      obtain ⟨wm, rfl⟩ : ∃ wm : World, wm = wr := ⟨_, rfl⟩
      have HMET := Lib.hid hmet
      have HBM := Lib.hid hb
      have HBW : Hid (Below w.heap.size w wm) := Lib.hid (HB2.out.trans (hb.mono HB2.out.size))
      clear hmet hb
      go_wp2
      go_loopw [14] (fun v wr => ∃ j : Nat, j ≤ n ∧ v = .int .i64 j ∧ Below wm.heap.size wm wr) (fun v _ => n - (intOf v).toNat)
      case atStart => exact ⟨0, by omega, rfl, Below.refl _ _⟩
      case round => as_aux_lemma =>
        obtain ⟨j, hj, rfl, hb⟩ := hrel
        by_cases hlt6 : j < n
        · obtain ⟨x, hx⟩ := get_some (xs := xs) (k := j) (by rw [← HXL.out]; exact hlt6)
          obtain ⟨tb, to, rfl, _, hcs⟩ := (HR.out.below (HBW.out.trans (hb.mono HBW.out.size)) (Nat.le_refl _)).at_ j x hx
          obtain ⟨x0, x1, x2, x3, x4, x5, x6⟩ := hcs
          have hm : MetAt wr w2.heap.size n ((runR xs xs.length).flatMap (·.1.mem)) := BlkAt.below HMET.out hb (MetAt.lt' HMET.out)
          have hmj := hm.cell hlt6
          have hmem := HI.out.mem j
          have hji0 : (0 : Int) ≤ (j : Int) := by omega
          have hji1 : (j : Int) < (n : Int) := by omega
          have HBE := Lib.hid hb
          by_cases hre : x.frm = x.at'
          · have hre1 : (x.frm != x.at') = false := by simpa using hre
            rw [if_neg (fun h => by
              obtain ⟨_, y, hy, hne⟩ := hmem.1 h
              rw [hx] at hy; injection hy with hy; subst hy; exact hne hre)] at hmj
            clear hb hx hm hmem hre
            go_wp2
            go_quiet (fail)
            go_wp2
            go_roundw
            case rel => exact ⟨j + 1, by omega, by go_num, below_draw HBE.out _⟩
            case measure => simp [intOf]; omega
          · have hre1 : (x.frm != x.at') = true := by simpa using hre
            rw [if_pos (hmem.2 ⟨by rw [← HXL.out]; exact hlt6, x, hx, hre⟩)] at hmj
            clear hb hx hm hmem hre
            go_wp2
            go_quiet (fail)
            go_wp2
            go_roundw
            case rel => exact ⟨j + 1, by omega, by go_num, below_draw HBE.out _⟩
            case measure => simp [intOf]; omega
        · have HBE := Lib.hid (HBW.out.trans (hb.mono HBW.out.size))
          clear hb
          go_wp2_with (go_at_call 9; refine (awake_any _).mono ?_; rintro e w3 ⟨rfl, hb3⟩)
          go_ret
          exact ⟨rfl, HBE.out.trans (hb3.mono HBE.out.size)⟩
end Go.Proofs.Ytghjhlenkgkelaa
