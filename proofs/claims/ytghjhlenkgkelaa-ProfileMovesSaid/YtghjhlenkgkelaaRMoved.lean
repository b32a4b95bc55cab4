/- DERIVED. The reference's 'Moved'. -/
import Derived.Test.YtghjhlenkgkelaaRHomes
set_option linter.unusedSimpArgs false
set_option linter.unusedVariables false
namespace Go.Proofs.Ytghjhlenkgkelaa
open Go.RowKit Go.Shelf Go.Sort

theorem setAt_snoc {R : List (K3 × Int)} {j : Nat} {e : K3 × Int} (h : R[j]? = some e) (p : K3) (cur : Int) : setAt (R.take (j + 1)) p cur = if e.1 = p then e.2 else setAt (R.take j) p cur := by
  rw [List.take_add_one, h]; simp [setAt]
theorem acc_one (x : Acc) : ∀ u ∈ accL x, u.oneCell' = true := by
  intro u hu
  simp [accL] at hu
  rcases hu with rfl | rfl | rfl | rfl | rfl | rfl | rfl <;> rfl

set_option maxRecDepth 100000 in
set_option maxHeartbeats 2000000 in
theorem rMoved_any (A AH : Option Addr) (n c m ch : Nat) (xs : List Acc) (hs : List Int) (w : World) (hl : n ≤ 5000) (hr : Trace w w.heap.size A n xs) (hh : Sl w iv AH m hs) (hg : givenL xs = 0) (hlen : hs.length = (refS xs).length) (hrg : ∀ h ∈ hs, 0 ≤ h ∧ h < 8) :
    Calls Try.prog 21 #[.slice A n c, .slice AH m ch] w fun e w' => ∃ v, e = .returned (.tuple #[v, .int .i64 0]) ∧ w'.ownsRow w.heap.size 46 7 v n ((xs.map (refM xs hs)).flatMap accL) ∧ Below w.heap.size w w' := by
  have hgiv := refGiven A n c xs w hl hr
  rw [hg] at hgiv
  have HN := Lib.hid hr.len
  have HR := Lib.hid hr
  have HH := Lib.hid hh
  have HL := Lib.hid hlen
  have HRG := Lib.hid hrg
  clear hr hg hh hlen hrg
  obtain ⟨i0, hi, hz0, hz1, hz2⟩ := info_parts acc_info
  go_enter Try.func21, Try.ntmps21
  go_wp2_with (first
    | (go_at_call 30; refine hgiv.mono ?_; rintro e w1 ⟨rfl, hb1⟩; clear hgiv; have HB1 := Lib.hid hb1; have hs1 := hb1.size; have hsp := rspots_any A n c xs w1 hl ((HR.out.below hb1 (Nat.le_refl _)).mono hb1.size); clear hb1)
    | (go_at_call 33; refine hsp.mono ?_; rintro e w2 ⟨vs, rfl, hrow, hb2⟩; clear hsp; obtain ⟨As, cs, rfl, _, _, _⟩ := own_slice hrow; have HROW := Lib.hid hrow; have HB2 := Lib.hid (HB1.out.trans (hb2.mono hs1)); have hs12 := hb2.size; have hs22 : w.heap.size ≤ w2.heap.size := HB2.out.size; clear hrow hb2
       obtain rfl : m = (refS xs).length := by have h1 := HH.out.len; have h2 := HL.out; omega))
  have hsl : (refS xs).length ≤ 5000 := by have := refS_len xs; have := HN.out; omega
  have HRM : Hid (∃ R : List (K3 × Int), (∀ (j : Nat) (s : Spt) (h : Int), (refS xs)[j]? = some s → hs[j]? = some h → R[j]? = some (s.place, h)) ∧ R.length = (refS xs).length ∧ ∀ x, refM xs hs x = { x with at' := setAt R x.place x.at' }) := Lib.hid ⟨((refS xs).map (·.place)).zip hs, fun j s h h1 h2 => by rw [List.getElem?_zip_eq_some]; exact ⟨by rw [List.getElem?_map, h1]; rfl, h2⟩, by rw [List.length_zip, List.length_map, HL.out]; exact Nat.min_self _, fun x => rfl⟩
  obtain ⟨R, hR1, hR2, hR3⟩ := HRM.out
  have HR1 := Lib.hid hR1
  have HR2 := Lib.hid hR2
  have HR3 := Lib.hid hR3
  have HL2 := Lib.hid HL.out
  clear HRM hR1 hR2 hR3 HL
  generalize refS xs = sl at *
  generalize hgen : refM xs hs = F at *
  have HGEN := Lib.hid hgen
  clear hgen
  go_loop [8] (fun i => ∃ k : Nat, k ≤ sl.length ∧ i = .int .i64 k) (fun i => sl.length - (intOf i).toNat)
  case atStart => exact ⟨0, by omega, rfl⟩
  case round =>
    obtain ⟨k, hk, rfl⟩ := hrel
    by_cases hlt : k < sl.length
    · obtain ⟨h, hh⟩ := get_some (xs := hs) (k := k) (by have := HL2.out; omega)
      obtain ⟨hr1, hr2⟩ := HRG.out h (List.mem_of_getElem? hh)
      obtain ⟨bh, oh, rfl, hbh, hch⟩ := (HH.out.below HB2.out).at_ k h hh
      have f1 : decide (h < 0) = false := decide_eq_false (by omega)
      have f2 : decide ((8 : Int) ≤ h) = false := decide_eq_false (by omega)
      have hk0 : (0 : Int) ≤ (k : Int) := by omega
      have hk1 : (k : Int) < (sl.length : Int) := by omega
      clear hh
      go_wp2
      go_round
      case rel => exact ⟨k + 1, by omega, by go_num⟩
      case measure => simp [intOf]; omega
    · obtain rfl : k = sl.length := by omega
      go_wp2
      go_loopw [9, 10] (fun v i wr => ∃ k : Nat, k ≤ n ∧ i = .int .i64 k ∧ wr.ownsRow w2.heap.size 46 7 v k (((xs.map F).take k).flatMap accL) ∧ Below w2.heap.size w2 wr) (fun _ i _ => n - (intOf i).toNat)
      case atStart => exact ⟨0, by omega, rfl, World.ownsRow_nil _ _ _ _, Below.refl _ _⟩
      case round =>
        obtain ⟨k, hk, rfl, hrow, hb⟩ := hrel
        obtain ⟨Ao, co, rfl, _, _, _⟩ := own_slice hrow
        by_cases hlt : k < n
        · obtain ⟨x, hx⟩ := get_some (xs := xs) (k := k) (by rw [← HN.out]; omega)
          obtain ⟨wo, rfl⟩ : ∃ wo : World, wo = wr := ⟨_, rfl⟩
          have hbw : Below w.heap.size w wo := HB2.out.trans (hb.mono hs22)
          obtain ⟨b, off, rfl, hbb, hc⟩ := HR.out.at_ k x hx
          obtain ⟨c0, c1, c2, c3, c4, c5, c6⟩ := hc.below hbw hbb
          have HTS : Hid ((xs.map F).take (k + 1) = (xs.map F).take k ++ [{ x with at' := setAt R x.place x.at' }]) := Lib.hid (by rw [List.take_add_one, List.getElem?_map, hx, ← HR3.out x]; rfl)
          have HF : Hid (BlkAt (wo.alloc (.cells #[.int .i64 x.task, .int .i64 x.p0, .int .i64 x.p1, .int .i64 x.p2, .int .i64 x.kind, .int .i64 x.frm, .int .i64 x.at'] 46)) wo.heap.size 46 #[.int .i64 x.task, .int .i64 x.p0, .int .i64 x.p1, .int .i64 x.p2, .int .i64 x.kind, .int .i64 x.frm, .int .i64 (setAt (R.take 0) x.place x.at')]) := Lib.hid (BlkAt.new wo _ _)
          have HF2 : Hid (Below wo.heap.size wo (wo.alloc (.cells #[.int .i64 x.task, .int .i64 x.p0, .int .i64 x.p1, .int .i64 x.p2, .int .i64 x.kind, .int .i64 x.frm, .int .i64 x.at'] 46))) := Lib.hid ((Below.refl _ _).alloc (Nat.le_refl _) _)
          have HB := Lib.hid hb
          have HROWO := Lib.hid hrow
          have hso := hb.size
          have hk0 : (0 : Int) ≤ (k : Int) := by omega
          have hk1 : (k : Int) < (n : Int) := by omega
          clear hrow hb hc hx hbw
          go_wp2
          go_loopw [12] (fun i wr => ∃ j : Nat, j ≤ sl.length ∧ i = .int .i64 j ∧ BlkAt wr wo.heap.size 46 #[.int .i64 x.task, .int .i64 x.p0, .int .i64 x.p1, .int .i64 x.p2, .int .i64 x.kind, .int .i64 x.frm, .int .i64 (setAt (R.take j) x.place x.at')] ∧ Below wo.heap.size wo wr) (fun i _ => sl.length - (intOf i).toNat)
          case atStart => exact ⟨0, by omega, rfl, HF.out, HF2.out⟩
          case round =>
            obtain ⟨j, hj, rfl, hB, hb⟩ := hrel
            by_cases hlt2 : j < sl.length
            · obtain ⟨s, hs'⟩ := get_some hlt2
              obtain ⟨h, hh⟩ := get_some (xs := hs) (k := j) (by have := HL2.out; omega)
              have hbw2 : Below w2.heap.size w2 wr := HB.out.trans (hb.mono hso)
              have hbw : Below w.heap.size w wr := HB2.out.trans (hbw2.mono hs22)
              obtain ⟨bh, oh, rfl, hbh, hch⟩ := (HH.out.below hbw).at_ j h hh
              have hrowS := HROW.out.kept (grown_of_below (row := none) hbw2) (none_or _)
              obtain ⟨g, rfl, hg, hce⟩ := row_cells hrowS (by omega)
              have hcs := fun (i : Nat) (u : Value) (hu : (encSL s)[i]? = some u) => hce _ _ (flat_at (enc := encSL) (k := 7) (fun _ => rfl) hs' hu)
              have s0 := hcs 0 _ rfl
              have s1 := hcs 1 _ rfl
              have s2 := hcs 2 _ rfl
              rw [Nat.add_zero] at s0
              have HST := Lib.hid (setAt_snoc (HR1.out j s h hs' hh) x.place x.at')
              generalize setAt (R.take j) x.place x.at' = u at *
              have b1 := hB.cell 1
              have b2 := hB.cell 2
              have b3 := hB.cell 3
              have b6 := hB.cell 6
              simp only [List.getElem?_toArray, List.getElem?_cons_succ, List.getElem?_cons_zero] at b1 b2 b3 b6
              have zf := BlkAt.frozen hB 6
              have hj0 : (0 : Int) ≤ (j : Int) := by omega
              have hj1 : (j : Int) < (sl.length : Int) := by omega
              have HBY := Lib.hid hB
              have HBB := Lib.hid hb
              clear hB hb hce hcs hrowS hbw hbw2 hs' hh
              go_upto_region 20 with fail
              go_cut [66] from 53 to 71 (fun v66 wx => ∃ b : Bool, v66 = .bool b ∧ Hid (b = decide (s.place = x.place)) ∧ ∃ q, wx = wr.drewN q)
              case first =>
                go_quiet (fail)
                go_wp2_with fail
                go_meet
                refine ⟨_, rfl, Lib.hid ?_, _, rfl⟩
                rw [Bool.eq_iff_iff]
                obtain ⟨⟨pa, pb, pc⟩, _, _, _, _⟩ := s
                simp [Acc.place, and_assoc]
              case rest =>
                obtain ⟨bb, rfl, HBE, q, rfl⟩ := hcut
                cases bb with
                | false =>
                  go_wp2
                  go_roundw
                  case rel => exact ⟨j + 1, by omega, by go_num, by rw [HST.out, if_neg (of_decide_eq_false HBE.out.symm)]; exact HBY.out, below_draw HBB.out _⟩
                  case measure => simp [intOf]; omega
                | true =>
                  go_wp2
                  go_roundw
                  case rel =>
                    refine ⟨j + 1, by omega, by go_num, ?_, (below_draw HBB.out _).setCell (p := ⟨wo.heap.size, _, none⟩) (Nat.le_refl _) _⟩
                    rw [HST.out, if_pos (of_decide_eq_true HBE.out.symm)]
                    exact BlkAt.set (show BlkAt (wr.drewN q) wo.heap.size 46 _ from HBY.out) 6 (.int .i64 h)
                  case measure => simp [intOf]; omega
            · obtain rfl : j = sl.length := by omega
              rw [List.take_of_length_le (by rw [HR2.out]; exact Nat.le_refl _)] at hB
              have hbs := hb.size
              have HBA : Hid (Below w2.heap.size w2 wr) := Lib.hid (HB.out.trans (hb.mono hso))
              have hrow := HROWO.out.kept (grown_of_below (row := none) hb) (none_or _)
              have hba := HBA.out.size
              generalize setAt R x.place x.at' = u at *
              have b0 := hB.cell 0
              have b1 := hB.cell 1
              have b2 := hB.cell 2
              have b3 := hB.cell 3
              have b4 := hB.cell 4
              have b5 := hB.cell 5
              have b6 := hB.cell 6
              simp only [List.getElem?_toArray, List.getElem?_cons_succ, List.getElem?_cons_zero] at b0 b1 b2 b3 b4 b5 b6
              clear hlt2 hj hb hB
              go_wp2_with
                (at_builtin; refine wpList_append_own_at _ rfl _ _ 22 rfl w2.heap.size 46 i0 (.agg #[.int .i64 0, .int .i64 0, .int .i64 0, .int .i64 0, .int .i64 0, .int .i64 0, .int .i64 0]) 7 56 Try.underlying22 hi hz0 hz1 hz2 rfl (by decide) (.slice Ao k co) _ _ rfl (hrow.alloc _) ⟨wr.heap.size, 0, none⟩ 1 1 [.int .i64 x.task, .int .i64 x.p0, .int .i64 x.p1, .int .i64 x.p2, .int .i64 x.kind, .int .i64 x.frm, .int .i64 u] rfl rfl (cells_new' _ [.int .i64 x.task, .int .i64 x.p0, .int .i64 x.p1, .int .i64 x.p2, .int .i64 x.kind, .int .i64 x.frm, .int .i64 u] _ _ (by simp)) (by simp [Value.oneCell']) (by unfold maxLen; omega) (by omega) (by simp; omega) ?_; intro v' w6 hrow' hgrow _ hob)
              go_roundw
              case rel =>
                refine ⟨k + 1, by omega, by go_num, by rw [HTS.out, List.flatMap_append, List.flatMap_cons, List.flatMap_nil, List.append_nil]; exact hrow', ?_⟩
                have h1 : Below w2.heap.size w2 (wr.alloc (.cells #[.int .i64 x.task, .int .i64 x.p0, .int .i64 x.p1, .int .i64 x.p2, .int .i64 x.kind, .int .i64 x.frm, .int .i64 u] 46)) := HBA.out.alloc hba _
                exact h1.grown hgrow (by simp; omega) (fun j e => (own_lt hrow e).1)
              case measure => simp [intOf]; omega
        · obtain rfl : k = n := by omega
          rw [List.take_of_length_le (by rw [List.length_map, HN.out]; exact Nat.le_refl _)] at hrow
          have HBX := Lib.hid hb
          have HROWX := Lib.hid hrow
          clear hb hrow
          go_wp2
          go_ret2
          exact ⟨.slice Ao k co, rfl, by rw [HGEN.out]; exact own_base HROWX.out hs22, HB2.out.trans (HBX.out.mono hs22)⟩
end Go.Proofs.Ytghjhlenkgkelaa
