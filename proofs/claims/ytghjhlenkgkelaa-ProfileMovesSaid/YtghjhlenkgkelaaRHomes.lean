/- DERIVED. The reference's 'Homes'. -/
import Derived.Test.YtghjhlenkgkelaaRH0
set_option linter.unusedSimpArgs false
set_option linter.unusedVariables false
namespace Go.Proofs.Ytghjhlenkgkelaa
open Go.RowKit Go.Shelf Go.Sort

theorem encHL_get (y : K8) {f : Nat} (hf : f < 8) : (encHL y).toArray[f]? = some (.int .i64 (y.get f)) := by
  match f, hf with
  | 0, _ | 1, _ | 2, _ | 3, _ | 4, _ | 5, _ | 6, _ | 7, _ => rfl
theorem encHL_inc (y : K8) {f : Nat} (hf : f < 8) : (encHL y).toArray.setIfInBounds f (.int .i64 (y.get f + 1)) = (encHL (y.inc f)).toArray := by
  match f, hf with
  | 0, _ | 1, _ | 2, _ | 3, _ | 4, _ | 5, _ | 6, _ | 7, _ => rfl
theorem blk8_cell {w : World} {F : Nat} {t : TypeId} {y : K8} (h : BlkAt w F t (encHL y).toArray) {f : Nat} (hf : f < 8) : w.cell? ⟨F, f, none⟩ = some (.int .i64 (y.get f)) := by
  rw [BlkAt.cell h f]; exact encHL_get y hf
theorem refH_take {xs : List Acc} {k : Nat} {s : Spt} (h : (refS xs)[k]? = some s) : (refH xs).take (k + 1) = (refH xs).take k ++ [bestOf (cnt8 xs s.place)] := by
  have : (refH xs)[k]? = some (bestOf (cnt8 xs s.place)) := by unfold refH; rw [List.getElem?_map, h]; rfl
  rw [List.take_add_one, this]; rfl

set_option maxRecDepth 100000 in
set_option maxHeartbeats 2000000 in
theorem rHomes_any (A : Option Addr) (n c : Nat) (xs : List Acc) (w : World) (hl : n ≤ 5000) (hr : Trace w w.heap.size A n xs) (hg : givenL xs = 0) :
    Calls Try.prog 19 #[.slice A n c] w fun e w' => ∃ v, e = .returned (.tuple #[v, .int .i64 0]) ∧ w'.ownsRow w.heap.size 3 1 v (refH xs).length ((refH xs).map intV) ∧ Below w.heap.size w w' := by
  have hgiv := refGiven A n c xs w hl hr
  rw [hg] at hgiv
  have HN := Lib.hid hr.len
  have HR := Lib.hid hr
  have HV := Lib.hid (valid_of hg)
  clear hr hg
  obtain ⟨i0, hi, hz0, hz1, hz2⟩ := info_parts int_info
  go_enter Try.func19, Try.ntmps19
  go_wp2_with (first
    | (go_at_call 30; refine hgiv.mono ?_; rintro e w1 ⟨rfl, hb1⟩; clear hgiv; have HB1 := Lib.hid hb1; have hs1 := hb1.size; have hsp := rspots_any A n c xs w1 hl ((HR.out.below hb1 (Nat.le_refl _)).mono hb1.size); clear hb1)
    | (go_at_call 33; refine hsp.mono ?_; rintro e w2 ⟨vs, rfl, hrow, hb2⟩; clear hsp; obtain ⟨As, cs, rfl, _, _, _⟩ := own_slice hrow; have HROW := Lib.hid hrow; have HB2 := Lib.hid (HB1.out.trans (hb2.mono hs1)); have hs12 := hb2.size; have hs22 : w.heap.size ≤ w2.heap.size := HB2.out.size; clear hrow hb2))
  have hsl : (refS xs).length ≤ 5000 := by have := refS_len xs; have := HN.out; omega
  have HRH : Hid (∀ k s, (refS xs)[k]? = some s → (refH xs).take (k + 1) = (refH xs).take k ++ [bestOf (cnt8 xs s.place)]) := Lib.hid (fun k s h => refH_take h)
  have HHL : Hid ((refH xs).length = (refS xs).length) := Lib.hid (by unfold refH; rw [List.length_map])
  generalize refS xs = sl at *
  generalize hgen : refH xs = hs at *
  have HGEN := Lib.hid hgen
  clear hgen
  go_loopw [6, 7] (fun v i wr => ∃ k : Nat, k ≤ sl.length ∧ i = .int .i64 k ∧ wr.ownsRow w2.heap.size 3 1 v k ((hs.take k).map intV) ∧ Below w2.heap.size w2 wr) (fun _ i _ => sl.length - (intOf i).toNat)
  case atStart => exact ⟨0, by omega, rfl, World.ownsRow_nil _ _ _ _, Below.refl _ _⟩
  case round => as_aux_lemma =>
    obtain ⟨k, hk, rfl, hrow, hb⟩ := hrel
    obtain ⟨Ao, co, rfl, _, _, _⟩ := own_slice hrow
    by_cases hlt : k < sl.length
    · obtain ⟨s, hs'⟩ := get_some hlt
      have HTS := Lib.hid (HRH.out k s hs')
      have HS := Lib.hid hs'
      obtain ⟨wo, rfl⟩ : ∃ wo : World, wo = wr := ⟨_, rfl⟩
      have HB := Lib.hid hb
      have HROWO := Lib.hid hrow
      have hso := hb.size
      have HF : Hid (BlkAt (wo.alloc (.cells #[.int .i64 0, .int .i64 0, .int .i64 0, .int .i64 0, .int .i64 0, .int .i64 0, .int .i64 0, .int .i64 0] 81)) wo.heap.size 81 (encHL (cnt8 (xs.take 0) s.place)).toArray) := Lib.hid (BlkAt.new wo _ _)
      have HF2 : Hid (Below wo.heap.size wo (wo.alloc (.cells #[.int .i64 0, .int .i64 0, .int .i64 0, .int .i64 0, .int .i64 0, .int .i64 0, .int .i64 0, .int .i64 0] 81))) := Lib.hid ((Below.refl _ _).alloc (Nat.le_refl _) _)
      clear hrow hb hs'
      go_wp2
      go_loopw [10] (fun i wr => ∃ j : Nat, j ≤ n ∧ i = .int .i64 j ∧ BlkAt wr wo.heap.size 81 (encHL (cnt8 (xs.take j) s.place)).toArray ∧ Below wo.heap.size wo wr) (fun i _ => n - (intOf i).toNat)
      case atStart => exact ⟨0, by omega, rfl, HF.out, HF2.out⟩
      case round => as_aux_lemma =>
        obtain ⟨j, hj, rfl, hB, hb⟩ := hrel
        by_cases hlt2 : j < n
        · obtain ⟨x, hx⟩ := get_some (xs := xs) (k := j) (by rw [← HN.out]; omega)
          have hbw2 : Below w2.heap.size w2 wr := HB.out.trans (hb.mono hso)
          have hbw : Below w.heap.size w wr := HB2.out.trans (hbw2.mono hs22)
          obtain ⟨b, off, rfl, hbb, hc⟩ := HR.out.at_ j x hx
          obtain ⟨c0, c1, c2, c3, c4, c5, c6⟩ := hc.below hbw hbb
          have hrowS := HROW.out.kept (grown_of_below (row := none) hbw2) (none_or _)
          obtain ⟨g, rfl, hg, hce⟩ := row_cells hrowS (by omega)
          have hcs := fun (i : Nat) (u : Value) (hu : (encSL s)[i]? = some u) => hce _ _ (flat_at (enc := encSL) (k := 7) (fun _ => rfl) HS.out hu)
          have s0 := hcs 0 _ rfl
          have s1 := hcs 1 _ rfl
          have s2 := hcs 2 _ rfl
          rw [Nat.add_zero] at s0
          have HST : Hid (cnt8 (xs.take (j + 1)) s.place = if x.place = s.place then (cnt8 (xs.take j) s.place).inc x.frm.toNat else cnt8 (xs.take j) s.place) := Lib.hid (by rw [take_snoc hx, cnt8_snoc])
          have hval := HV.out x (List.mem_of_getElem? hx)
          obtain ⟨f, hf8, hfe⟩ : ∃ f : Nat, f < 8 ∧ x.frm = f := ⟨x.frm.toNat, by unfold validA at hval; omega, by unfold validA at hval; omega⟩
          have hle := cnt8_le (xs.take j) (fun y hy => HV.out y (List.mem_of_mem_take hy)) s.place f hf8
          have htl : (xs.take j).length ≤ j := List.length_take_le _ _
          generalize cnt8 (xs.take j) s.place = y at *
          have cf := blk8_cell hB hf8
          have zf := BlkAt.frozen hB f
          rw [hfe] at c5
          have HFE := Lib.hid hfe
          have hy0 : 0 ≤ y.get f := hle.1
          have hy1 : y.get f ≤ 5000 := by omega
          have hf0 : (0 : Int) ≤ (f : Int) := by omega
          have hf1 : (f : Int) < 8 := by omega
          have hj0 : (0 : Int) ≤ (j : Int) := by omega
          have hj1 : (j : Int) < (n : Int) := by omega
          have hk0 : (0 : Int) ≤ (k : Int) := by omega
          have hk1 : (k : Int) < (sl.length : Int) := by omega
          have HBY := Lib.hid hB
          have HBB := Lib.hid hb
          have HINC := Lib.hid (encHL_inc y hf8)
          clear hval hle htl hfe hB hb hc hce hcs hrowS hx hbw hbw2 hbb
          go_upto_region 14 with fail
          go_cut [41] from 25 to 50 (fun v41 wx => ∃ b : Bool, v41 = .bool b ∧ Hid (b = decide (x.place = s.place)) ∧ ∃ q, wx = wr.drewN q)
          case first =>
            go_quiet (fail)
            go_wp2_with fail
            go_meet
            refine ⟨_, rfl, Lib.hid ?_, _, rfl⟩
            rw [Bool.eq_iff_iff]
            obtain ⟨⟨pa, pb, pc⟩, _, _, _, _⟩ := s
            simp [Acc.place, and_assoc]
          case rest =>
            obtain ⟨bb, rfl, HBE, q, rfl⟩ := hcut
            cases bb with
            | false =>
              go_wp2
              go_roundw
              case rel => exact ⟨j + 1, by omega, by go_num, by rw [HST.out, if_neg (of_decide_eq_false HBE.out.symm)]; exact HBY.out, below_draw HBB.out _⟩
              case measure => simp [intOf]; omega
            | true =>
              go_wp2
              go_roundw
              case rel =>
                refine ⟨j + 1, by omega, by go_num, ?_, (below_draw HBB.out _).setCell (p := ⟨wo.heap.size, _, none⟩) (Nat.le_refl _) _⟩
                rw [HST.out, if_pos (of_decide_eq_true HBE.out.symm), HFE.out]
                have h2 := BlkAt.set (show BlkAt (wr.drewN q) wo.heap.size 81 (encHL y).toArray from HBY.out) f (.int .i64 (y.get f + 1))
                rw [HINC.out] at h2
                exact h2
              case measure => simp [intOf]; omega
        · obtain rfl : j = n := by omega
          have hxs : xs.take j = xs := by rw [HN.out]; exact List.take_length
          rw [hxs] at hB
          generalize cnt8 xs s.place = y at *
          obtain ⟨wp, rfl⟩ : ∃ wp : World, wp = wr := ⟨_, rfl⟩
          have HBY := Lib.hid hB
          have HBB := Lib.hid hb
          have hsp := hb.size
          clear hB hb hxs
          go_wp2
          go_loopw [9, 11] (fun bst i wr => ∃ a : Nat, a ≤ 8 ∧ i = .int .i64 a ∧ bst = .int .i64 (bestUp y a) ∧ Below wp.heap.size wp wr) (fun _ i _ => 8 - (intOf i).toNat)
          case atStart => exact ⟨0, by omega, rfl, rfl, Below.refl _ _⟩
          case round => as_aux_lemma =>
            obtain ⟨a, ha, rfl, rfl, hb⟩ := hrel
            by_cases hlt3 : a < 8
            · have hby := HBY.out.below hb (BlkAt.lt HBY.out)
              have hb8 := bestUp_lt y a (by omega)
              have ca := blk8_cell hby hlt3
              have cb := blk8_cell hby hb8
              have HBU : Hid (∀ g, bestUp y a = g → bestUp y (a + 1) = if y.get g < y.get a then a else g) := Lib.hid (fun g e => by rw [← e]; rfl)
              generalize hg : bestUp y a = g at *
              have HU := Lib.hid (HBU.out g rfl)
              have hg0 : (0 : Int) ≤ (g : Int) := by omega
              have hg1 : (g : Int) < 8 := by omega
              have ha0 : (0 : Int) ≤ (a : Int) := by omega
              have ha1 : (a : Int) < 8 := by omega
              have HBX := Lib.hid hb
              clear hg HBU hby hb
              by_cases hcmp : y.get g < y.get a
              · have hcmp2 : decide (y.get g < y.get a) = true := decide_eq_true hcmp
                have HCM := Lib.hid hcmp
                clear hcmp
                go_wp2
                go_quiet (fail)
                go_wp2
                go_roundw
                case rel => exact ⟨a + 1, by omega, by go_num, by rw [HU.out, if_pos HCM.out], below_draw HBX.out _⟩
                case measure => simp [intOf]; omega
              · have hcmp2 : decide (y.get g < y.get a) = false := decide_eq_false hcmp
                have HCM := Lib.hid hcmp
                clear hcmp
                go_wp2
                go_quiet (fail)
                go_wp2
                go_roundw
                case rel => exact ⟨a + 1, by omega, by go_num, by rw [HU.out, if_neg (by have := HCM.out; omega)], below_draw HBX.out _⟩
                case measure => simp [intOf]; omega
            · obtain rfl : a = 8 := by omega
              have hbo : bestUp y 8 = bestOf y := rfl
              rw [hbo]
              have hbs := hb.size
              have HBA : Hid (Below w2.heap.size w2 wr) := Lib.hid (HB.out.trans ((HBB.out.trans (hb.mono hsp)).mono hso))
              have hrow := HROWO.out.kept (grown_of_below (row := none) (HBB.out.trans (hb.mono hsp))) (none_or _)
              have hba := HBA.out.size
              generalize bestOf y = g at *
              clear hbo hlt3 ha hb
              go_wp2_with
                (at_builtin; refine wpList_append_own_at _ rfl _ _ 44 rfl w2.heap.size 3 i0 (.int .i64 0) 1 8 Try.underlying44 hi hz0 hz1 hz2 rfl (by decide) (.slice Ao k co) _ _ rfl (hrow.alloc _) ⟨wr.heap.size, 0, none⟩ 1 1 [intV g] rfl rfl (cells_new' _ [intV g] _ _ (by simp)) (by simp [Value.oneCell']) (by unfold maxLen; omega) (by omega) (by simp; omega) ?_; intro v' w6 hrow' hgrow _ hob)
              go_roundw
              case rel =>
                refine ⟨k + 1, by omega, by go_num, by rw [HTS.out, List.map_append]; exact hrow', ?_⟩
                have h1 : Below w2.heap.size w2 (wr.alloc (.cells #[intV g] 3)) := HBA.out.alloc hba _
                exact h1.grown hgrow (by simp; omega) (fun j e => (own_lt hrow e).1)
              case measure => simp [intOf]; omega
    · obtain rfl : k = sl.length := by omega
      rw [List.take_of_length_le (by rw [HHL.out]; exact Nat.le_refl _)] at hrow
      have HBX := Lib.hid hb
      have HROWX := Lib.hid hrow
      clear hb hrow
      go_wp2
      go_ret2
      exact ⟨.slice Ao sl.length co, rfl, by rw [HGEN.out, HHL.out]; exact own_base HROWX.out hs22, HB2.out.trans (HBX.out.mono hs22)⟩
end Go.Proofs.Ytghjhlenkgkelaa
