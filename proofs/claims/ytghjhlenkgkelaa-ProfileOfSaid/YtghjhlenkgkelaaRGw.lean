/- DERIVED. The reference's 'groups'. -/
import Derived.Test.YtghjhlenkgkelaaRG0
set_option linter.unusedSimpArgs false
set_option linter.unusedVariables false
namespace Go.Proofs.Ytghjhlenkgkelaa
open Go.RowKit Go.Shelf Go.Sort

set_option maxRecDepth 100000 in
theorem data_any (x : Acc) (w : World) : Calls Try.prog 48 #[.agg #[.int .i64 x.task, .int .i64 x.p0, .int .i64 x.p1, .int .i64 x.p2, .int .i64 x.kind, .int .i64 x.frm, .int .i64 x.at']] w fun e w' => e = .returned (.bool (dataB x)) ∧ Below w.heap.size w w' := by
  have hb := (Below.refl w.heap.size w).alloc (Nat.le_refl _) (.cells #[.int .i64 x.task, .int .i64 x.p0, .int .i64 x.p1, .int .i64 x.p2, .int .i64 x.kind, .int .i64 x.frm, .int .i64 x.at'] 46)
  have HB := Lib.hid hb
  clear hb
  have hk : (x.kind == 1) = true ∨ ((x.kind == 1) = false ∧ (x.kind == 2) = true) ∨ ((x.kind == 1) = false ∧ (x.kind == 2) = false) := by
    cases h1 : (x.kind == 1) <;> cases h2 : (x.kind == 2) <;> simp
  unfold dataB
  go_enter Try.func48, Try.ntmps48
  rcases hk with h1 | ⟨h1, h2⟩ | ⟨h1, h2⟩
  all_goals go_wp2
  all_goals go_ret
  all_goals exact ⟨ret_bool (by simp [*]), HB.out⟩

theorem row_cells6 {w : World} {base n c : Nat} {A : Option Addr} {L : List GV} (h : w.ownsRow base 86 6 (.slice A n c) n (L.flatMap encRG)) {j : Nat} {q : GV} (hq : L[j]? = some q) : ∃ g, A = some ⟨g, 0, none⟩ ∧ base ≤ g ∧ g < w.heap.size ∧ ∀ (i : Nat) (u : Value), (encRG q)[i]? = some u → w.cell? ⟨g, j * 6 + i, none⟩ = some u := by
  have hl := h.1
  rw [rg_len] at hl
  have hj := (List.getElem?_eq_some_iff.1 hq).1
  obtain ⟨g, rfl, hg, hc⟩ := row_cells h (by omega)
  exact ⟨g, rfl, (own_lt h rfl).1, hg, fun i u hu => hc _ _ (flat_at (enc := encRG) (k := 6) (fun _ => rfl) hq hu)⟩
theorem any_take {l : List Nat} {f : Nat → Bool} {j m : Nat} (h : l[j]? = some m) : (l.take (j + 1)).any f = ((l.take j).any f || f m) := by
  rw [List.take_add_one, h]; simp

/-- the steps of the loops over the groups -/
def shS (x : Acc) : GO → GO := shutIf (fun p => p.1.task == x.task)
def shC (xs : List Acc) (x : Acc) : GO → GO := shutIf (cutB xs x)

theorem L_at {f : GO → GO} {L : List GV} {j : Nat} {q : GV} {u : GV} (hq : L[j]? = some q) : ((upto f L j).set j u)[j]? = some u := by
  have hj := (List.getElem?_eq_some_iff.1 (upto_at f L hq)).1
  simp [hj]
set_option maxRecDepth 100000 in
set_option maxHeartbeats 8000000 in
theorem rgroups_any (A : Option Addr) (n c : Nat) (xs : List Acc) (w : World) (hl : n ≤ 5000) (hr : Trace w w.heap.size A n xs) :
    Calls Try.prog 32 #[.slice A n c] w fun e w' => ∃ v L, e = .returned v ∧ L.map (·.1) = runR xs n ∧ RG w' w.heap.size v L ∧ Below w.heap.size w w' := by
  have HN := Lib.hid hr.len
  have HR := Lib.hid hr
  clear hr
  obtain ⟨i0, hi, hz0, hz1, hz2⟩ := info_parts rgrp_info
  obtain ⟨j0, hj, hy0, hy1, hy2⟩ := info_parts int_info
  go_enter Try.func32, Try.ntmps32
  go_wp2
  go_loopw [3, 4] (fun v i wr => ∃ (k : Nat) (L : List GV), k ≤ n ∧ i = .int .i64 k ∧ L.map (·.1) = runR xs k ∧ RG wr w.heap.size v L ∧ Below w.heap.size w wr) (fun _ i _ => n - (intOf i).toNat)
  case atStart => exact ⟨0, [], by omega, rfl, rfl, RG.nil _ _, Below.refl _ _⟩
  case round =>
    obtain ⟨k, L, hk, rfl, hLR, hRG, hbw⟩ := hrel
    obtain ⟨A3, c3, rfl, _, _, _⟩ := own_slice hRG.row
    by_cases hlt : k < n
    · obtain ⟨x, hx⟩ := get_some (xs := xs) (k := k) (by rw [← HN.out]; omega)
      obtain ⟨b, off, rfl, hb, hc⟩ := HR.out.at_ k x hx
      obtain ⟨c0, c1, c2, c3', c4, c5, c6⟩ := hc.below hbw hb
      have hI := inv_run xs k (by have := HN.out; omega)
      have HI := Lib.hid hI
      have HSU := Lib.hid (runR_succ hx)
      have hLl : L.length ≤ 5000 := by have h1 := hI.len; rw [← hLR, List.length_map] at h1; omega
      rw [← hLR] at hI
      have HI2 := Lib.hid hI
      have HLR := Lib.hid hLR
      obtain ⟨wq, rfl⟩ : ∃ wq : World, wq = wr := ⟨_, rfl⟩
      have hsq := hbw.size
      have HBK := Lib.hid (BlkAt.new wq 46 x.cells)
      have HRG := Lib.hid (hRG.alloc (.cells x.cells 46))
      have HB1 := Lib.hid (hbw.alloc hbw.size (.cells x.cells 46))
      unfold Acc.cells at HRG HBK HB1
      clear hRG hbw hc hx hI hLR
      cases hd : dataB x with
      | false =>
        have hda := fun W => data_any x W
        rw [hd] at hda
        have HD := Lib.hid hd
        clear hd
        go_wp2_with
          (go_at_call 48; refine (hda _).mono ?_; rintro e w1 ⟨rfl, hb1⟩; clear hda
           have HRG1 := Lib.hid (HRG.out.below hb1)
           have HBK1 := Lib.hid (HBK.out.below hb1 (by simp))
           have HBW1 := Lib.hid (HB1.out.trans (hb1.mono (by have := HB1.out.size; simp at this ⊢; omega)))
           have hs1 : wq.heap.size < w1.heap.size := by have := hb1.size; simp at this; omega
           clear hb1)
        go_loopw [6] (fun i wr => ∃ j : Nat, j ≤ L.length ∧ i = .int .i64 j ∧ RG wr w.heap.size (.slice A3 L.length c3) (upto (shS x) L j) ∧ BlkAt wr wq.heap.size 46 #[.int .i64 x.task, .int .i64 x.p0, .int .i64 x.p1, .int .i64 x.p2, .int .i64 x.kind, .int .i64 x.frm, .int .i64 x.at'] ∧ Below w.heap.size w wr) (fun i _ => L.length - (intOf i).toNat)
        case atStart => exact ⟨0, by omega, rfl, by rw [upto_zero]; exact HRG1.out, HBK1.out, HBW1.out⟩
        case round =>
          obtain ⟨j, hj', rfl, hRG, hBK, hB⟩ := hrel
          have ul : (upto (shS x) L j).length = L.length := upto_len _ _ _ hj'
          by_cases hlt2 : j < L.length
          · as_aux_lemma =>
            obtain ⟨⟨⟨p, o⟩, mv⟩, hq⟩ := get_some hlt2
            have hqu := upto_at (shS x) L hq
            have hrow := hRG.row
            rw [ul] at hrow
            obtain ⟨g, rfl, hg0, hg, hce⟩ := row_cells6 hrow hqu
            have s0 := hce 0 _ rfl
            have s5 := hce 5 _ rfl
            rw [Nat.add_zero] at s0
            have z5 := own_frozenR hrow (j * 6 + 5)
            have b0 := hBK.cell 0
            simp only [List.getElem?_toArray, List.getElem?_cons_succ, List.getElem?_cons_zero] at b0
            have hj0 : (0 : Int) ≤ (j : Int) := by omega
            have hj1 : (j : Int) < (L.length : Int) := by omega
            have hneF : wq.heap.size ≠ g := fun e => own_blk_ne hrow hBK (by decide) (by rw [e]; rfl)
            have HQ := Lib.hid hq
            have HQU := Lib.hid hqu
            have HRGJ := Lib.hid hRG
            have HBKJ := Lib.hid hBK
            have HBJ := Lib.hid hB
            clear hq hqu hRG hBK hB hrow hce
            by_cases ht : p.task = x.task
            · have htb : (p.task == x.task) = true := by simpa using ht
              have HT := Lib.hid htb
              clear ht
              go_wp2
              go_quiet (fail)
              go_wp2
              go_roundw
              case rel =>
                refine ⟨j + 1, by omega, by go_num, ?_, (show BlkAt (World.drewN _ _) _ _ _ from HBKJ.out).far hneF _, (below_draw HBJ.out _).setCell (p := ⟨g, _, none⟩) hg0 _⟩
                rw [upto_succ _ _ HQ.out]
                have e : shS x (p, o) = (p, false) := by simp [shS, shutIf, HT.out]
                rw [e]
                exact ((HRGJ.out).below (below_draw (Below.refl _ _) _)).shut HQU.out
              case measure => simp [intOf]; omega
            · have htb : (p.task == x.task) = false := by simpa using ht
              have HT := Lib.hid htb
              clear ht
              go_wp2
              go_quiet (fail)
              go_wp2
              go_roundw
              case rel =>
                refine ⟨j + 1, by omega, by go_num, ?_, (show BlkAt (World.drewN _ _) _ _ _ from HBKJ.out), below_draw HBJ.out _⟩
                rw [upto_keep _ _ HQ.out (by simp [shS, shutIf, HT.out])]
                exact (HRGJ.out).below (below_draw (Below.refl _ _) _)
              case measure => simp [intOf]; omega
          · obtain rfl : j = L.length := by omega
            rw [upto_all] at hRG
            have b0 := hBK.cell 0
            have b4 := hBK.cell 4
            have b5 := hBK.cell 5
            have b6 := hBK.cell 6
            simp only [List.getElem?_toArray, List.getElem?_cons_succ, List.getElem?_cons_zero] at b0 b4 b5 b6
            have HRGJ := Lib.hid hRG
            have HBJ := Lib.hid hB
            have hLf := mapG_fst (shS x) L
            have hlm := mapG_len (shS x) L
            generalize mapG (shS x) L = L1 at *
            have HLF := Lib.hid hLf
            have hll : L1.length ≤ 5000 := by omega
            have hwr := hB.size
            clear hRG hBK hB hLf hlt2
            by_cases hre : x.frm = x.at'
            · have hreb : (x.frm != x.at') = false := by simpa using hre
              as_aux_lemma =>
              have HRE := Lib.hid hre
              clear hre
              go_wp2
              go_roundw
              case rel => exact ⟨k + 1, L1, by omega, by go_num, by rw [HSU.out, step_sync HD.out, if_pos HRE.out, HLF.out, HLR.out]; rfl, HRGJ.out, HBJ.out⟩
              case measure => simp [intOf]; omega
            · have hreb : (x.frm != x.at') = true := by simpa using hre
              have HRE := Lib.hid hre
              clear hre
              have HM : Hid (((wr.alloc (.cells #[intV k] 3)).alloc (.cells #[.int .i64 x.task, .int .i64 x.kind, .int .i64 x.frm, .int .i64 x.at', .slice (some ⟨wr.heap.size, 0, none⟩) 1 1, .bool false] 86)).ownsRow w.heap.size 3 1 (.slice (some ⟨wr.heap.size, 0, none⟩) 1 1) 1 [intV k]) := Lib.hid ((own_base (own_one wr 3 (intV k)) hwr).kept (grown_of_below (row := none) ((Below.refl _ _).alloc (Nat.le_refl _) _)) (none_or _))
              have HG2 := Lib.hid ((HRGJ.out.alloc (.cells #[intV k] 3)).alloc (.cells #[.int .i64 x.task, .int .i64 x.kind, .int .i64 x.frm, .int .i64 x.at', .slice (some ⟨wr.heap.size, 0, none⟩) 1 1, .bool false] 86))
              have hrowA := HG2.out.row
              rw [hlm] at hrowA
              go_wp2_with
                (at_builtin; refine wpList_append_own_at _ rfl _ _ 83 rfl w.heap.size 86 i0 (.agg #[.int .i64 0, .int .i64 0, .int .i64 0, .int .i64 0, .slice none 0 0, .bool false]) 6 64 Try.underlying83 hi hz0 hz1 hz2 rfl (by decide) (.slice A3 L.length c3) _ _ rfl hrowA ⟨wr.heap.size + 1, 0, none⟩ 1 1 [.int .i64 x.task, .int .i64 x.kind, .int .i64 x.frm, .int .i64 x.at', .slice (some ⟨wr.heap.size, 0, none⟩) 1 1, .bool false] rfl rfl (cells_new' _ [.int .i64 x.task, .int .i64 x.kind, .int .i64 x.frm, .int .i64 x.at', .slice (some ⟨wr.heap.size, 0, none⟩) 1 1, .bool false] _ _ (by simp)) (by simp [Value.oneCell']) (by unfold maxLen; omega) (by omega) (by simp; omega) ?_
                 intro v' w6 hrow' hgrow _ hob
                 have HPUSH := Lib.hid (HG2.out.push (q := ((newG x k, false), .slice (some ⟨wr.heap.size, 0, none⟩) 1 1)) HM.out (by simp [newG]) (fun p hp e => by
                   obtain ⟨bq, hbq⟩ := HRGJ.out.mem_some hp
                   have h1 := (own_lt (HRGJ.out.mem p hp) hbq).2
                   rw [hbq] at e
                   have e : bq = wr.heap.size := Option.some.inj e
                   omega) hgrow (by rw [hlm]; exact hrow'))
                 have HBP := Lib.hid (((HBJ.out.alloc hwr (.cells #[intV k] 3)).alloc (by simp; omega) (.cells #[.int .i64 x.task, .int .i64 x.kind, .int .i64 x.frm, .int .i64 x.at', .slice (some ⟨wr.heap.size, 0, none⟩) 1 1, .bool false] 86)).grown hgrow (by simp; omega) (fun j e => (own_lt hrowA e).1))
                 obtain ⟨Av, cv, rfl, _, _, _⟩ := own_slice hrow'
                 clear hrow' hgrow hob)
              go_roundw
              case rel => exact ⟨k + 1, L1 ++ [((newG x k, false), .slice (some ⟨wr.heap.size, 0, none⟩) 1 1)], by omega, by go_num, by rw [HSU.out, step_sync HD.out, if_neg HRE.out, List.map_append, HLF.out, HLR.out]; rfl, HPUSH.out, HBP.out⟩
              case measure => simp [intOf]; omega
      | true =>
        have hda := fun W => data_any x W
        rw [hd] at hda
        have HD := Lib.hid hd
        clear hd
        go_wp2_with
          (go_at_call 48; refine (hda _).mono ?_; rintro e w1 ⟨rfl, hb1⟩; clear hda
           have HRG1 := Lib.hid (HRG.out.below hb1)
           have HBK1 := Lib.hid (HBK.out.below hb1 (by simp))
           have HBW1 := Lib.hid (HB1.out.trans (hb1.mono (by have := HB1.out.size; simp at this ⊢; omega)))
           have hs1 : wq.heap.size < w1.heap.size := by have := hb1.size; simp at this; omega
           clear hb1)
        go_loopw [7] (fun i wr => ∃ j : Nat, j ≤ L.length ∧ i = .int .i64 j ∧ RG wr w.heap.size (.slice A3 L.length c3) (upto (shC xs x) L j) ∧ BlkAt wr wq.heap.size 46 #[.int .i64 x.task, .int .i64 x.p0, .int .i64 x.p1, .int .i64 x.p2, .int .i64 x.kind, .int .i64 x.frm, .int .i64 x.at'] ∧ Below w.heap.size w wr) (fun i _ => L.length - (intOf i).toNat)
        case atStart => exact ⟨0, by omega, rfl, by rw [upto_zero]; exact HRG1.out, HBK1.out, HBW1.out⟩
        case round =>
          obtain ⟨j, hj', rfl, hRG, hBK, hB⟩ := hrel
          have ul : (upto (shC xs x) L j).length = L.length := upto_len _ _ _ hj'
          by_cases hlt2 : j < L.length
          · as_aux_lemma =>
            obtain ⟨⟨⟨p, o⟩, mv⟩, hq⟩ := get_some hlt2
            have hqu := upto_at (shC xs x) L hq
            have hmr := hRG.mem _ (List.mem_of_getElem? hqu)
            change wr.ownsRow w.heap.size 3 1 mv p.mem.length (p.mem.map intV) at hmr
            obtain ⟨Am, cm, rfl, _, _, _⟩ := own_slice hmr
            have hrow := hRG.row
            rw [ul] at hrow
            obtain ⟨g, rfl, hg0, hg, hce⟩ := row_cells6 hrow hqu
            have s0 := hce 0 _ rfl
            have s1 := hce 1 _ rfl
            have s2 := hce 2 _ rfl
            have s3 := hce 3 _ rfl
            have s4 := hce 4 _ rfl
            have s5 := hce 5 _ rfl
            rw [Nat.add_zero] at s0
            obtain ⟨wj, rfl⟩ : ∃ wj : World, wj = wr := ⟨_, rfl⟩
            have hBA := hBK.alloc (.cells #[.int .i64 p.task, .int .i64 p.kind, .int .i64 p.frm, .int .i64 p.at', .slice Am p.mem.length cm, .bool o] 86)
            have b0 := hBA.cell 0
            have b4 := hBA.cell 4
            have b5 := hBA.cell 5
            have b6 := hBA.cell 6
            simp only [List.getElem?_toArray, List.getElem?_cons_succ, List.getElem?_cons_zero] at b0 b4 b5 b6
            have HGB := Lib.hid (BlkAt.new wj 86 #[.int .i64 p.task, .int .i64 p.kind, .int .i64 p.frm, .int .i64 p.at', .slice Am p.mem.length cm, .bool o])
            have HQ := Lib.hid hq
            have HQU := Lib.hid hqu
            have HRGJ := Lib.hid (hRG.alloc (.cells #[.int .i64 p.task, .int .i64 p.kind, .int .i64 p.frm, .int .i64 p.at', .slice Am p.mem.length cm, .bool o] 86))
            have HBKJ := Lib.hid hBA
            have HBJ := Lib.hid (hB.alloc hB.size (.cells #[.int .i64 p.task, .int .i64 p.kind, .int .i64 p.frm, .int .i64 p.at', .slice Am p.mem.length cm, .bool o] 86))
            have hj0 : (0 : Int) ≤ (j : Int) := by omega
            have hj1 : (j : Int) < (L.length : Int) := by omega
            have hsj := hB.size
            have hfj := BlkAt.lt hBK
            have HI3 : Hid ((∀ m ∈ p.mem, ∃ y, xs[m]? = some y ∧ m < k) ∧ p.mem.length ≤ 64) := Lib.hid (by
              have hpm : (p, o) ∈ L.map (·.1) := List.mem_map.2 ⟨_, List.mem_of_getElem? hq, rfl⟩
              refine ⟨fun m hm => ?_, HI2.out.le64 _ hpm⟩
              obtain ⟨y, hy, _⟩ := HI2.out.same _ hpm m hm
              exact ⟨y, hy, HI2.out.lt hpm hm⟩)
            have hml := HI3.out.2
            clear hq hqu hRG hBK hB hrow hce hBA hmr
            cases o with
            | false =>
              have HK : Hid (shC xs x (p, false) = (p, false)) := Lib.hid (by simp [shC, shutIf])
              go_wp2
              go_roundw
              case rel =>
                refine ⟨j + 1, by omega, by go_num, ?_, HBKJ.out, HBJ.out⟩
                rw [upto_keep _ _ HQ.out HK.out]
                exact HRGJ.out
              case measure => simp [intOf]; omega
            | true =>
            by_cases h1 : p.task = x.task
            rotate_left 1
            · have f1 : (p.task != x.task) = true := by simpa using h1
              have HK : Hid (shC xs x (p, true) = (p, true)) := Lib.hid (by simp [shC, shutIf, cutB, alikeB, h1])
              clear h1
              go_wp2
              go_roundw
              case rel =>
                refine ⟨j + 1, by omega, by go_num, ?_, HBKJ.out, HBJ.out⟩
                rw [upto_keep _ _ HQ.out HK.out]
                exact HRGJ.out
              case measure => simp [intOf]; omega
            have f1 : (p.task != x.task) = false := by simpa using h1
            by_cases h2 : p.kind = x.kind
            · have f2 : (p.kind == x.kind) = true := by simpa using h2
              have HK : Hid (shC xs x (p, true) = (p, true)) := Lib.hid (by simp [shC, shutIf, cutB, alikeB, h2])
              clear h1 h2
              go_wp2
              go_roundw
              case rel =>
                refine ⟨j + 1, by omega, by go_num, ?_, HBKJ.out, HBJ.out⟩
                rw [upto_keep _ _ HQ.out HK.out]
                exact HRGJ.out
              case measure => simp [intOf]; omega
            have f2 : (p.kind == x.kind) = false := by simpa using h2
            by_cases h3 : p.frm = x.frm
            rotate_left 1
            · have f3 : (p.frm != x.frm) = true := by simpa using h3
              have HK : Hid (shC xs x (p, true) = (p, true)) := Lib.hid (by simp [shC, shutIf, cutB, alikeB, h3])
              clear h1 h2 h3
              go_wp2
              go_roundw
              case rel =>
                refine ⟨j + 1, by omega, by go_num, ?_, HBKJ.out, HBJ.out⟩
                rw [upto_keep _ _ HQ.out HK.out]
                exact HRGJ.out
              case measure => simp [intOf]; omega
            have f3 : (p.frm != x.frm) = false := by simpa using h3
            by_cases h4 : p.at' = x.at'
            rotate_left 1
            · have f4 : (p.at' != x.at') = true := by simpa using h4
              have HK : Hid (shC xs x (p, true) = (p, true)) := Lib.hid (by simp [shC, shutIf, cutB, alikeB, h4])
              clear h1 h2 h3 h4
              go_wp2
              go_roundw
              case rel =>
                refine ⟨j + 1, by omega, by go_num, ?_, HBKJ.out, HBJ.out⟩
                rw [upto_keep _ _ HQ.out HK.out]
                exact HRGJ.out
              case measure => simp [intOf]; omega
            have f4 : (p.at' != x.at') = false := by simpa using h4
            have HK : Hid (shC xs x (p, true) = (p, !(p.mem.any (hitB xs x.place)))) := Lib.hid (by simp [shC, shutIf, cutB, alikeB, h1, h2, h3, h4])
            clear h1 h2 h3 h4
            go_wp2
            go_loopw [9] (fun i wr => ∃ q : Nat, q ≤ p.mem.length ∧ i = .int .i64 q ∧ RG wr w.heap.size (.slice (some ⟨g, 0, none⟩) L.length c3) ((upto (shC xs x) L j).set j ((p, !((p.mem.take q).any (hitB xs x.place))), .slice Am p.mem.length cm)) ∧ BlkAt wr wq.heap.size 46 #[.int .i64 x.task, .int .i64 x.p0, .int .i64 x.p1, .int .i64 x.p2, .int .i64 x.kind, .int .i64 x.frm, .int .i64 x.at'] ∧ BlkAt wr wj.heap.size 86 #[.int .i64 p.task, .int .i64 p.kind, .int .i64 p.frm, .int .i64 p.at', .slice Am p.mem.length cm, .bool true] ∧ Below w.heap.size w wr) (fun i _ => p.mem.length - (intOf i).toNat)
            case atStart => exact ⟨0, by omega, rfl, by rw [show (!((p.mem.take 0).any (hitB xs x.place))) = true from rfl, set_self HQU.out]; exact HRGJ.out, HBKJ.out, HGB.out, HBJ.out⟩
            case round =>
              obtain ⟨q, hq', rfl, hRG, hBK, hGB, hB⟩ := hrel
              have g4 := hGB.cell 4
              simp only [List.getElem?_toArray, List.getElem?_cons_succ, List.getElem?_cons_zero] at g4
              by_cases hlt3 : q < p.mem.length
              · obtain ⟨m, hm⟩ := get_some hlt3
                have HANY := Lib.hid (any_take (f := hitB xs x.place) hm)
                obtain ⟨y, hy, hmk⟩ := HI3.out.1 m (List.mem_of_getElem? hm)
                have HHIT : Hid (hitB xs x.place m = (y.place == x.place)) := Lib.hid (by unfold hitB; rw [hy])
                obtain ⟨yb, yo, hye, hyb, hyc⟩ := HR.out.at_ m y hy
                injection hye with hye
                injection hye with e1 e2
                subst e1 e2
                obtain ⟨y0, y1, y2, y3, y4, y5, y6⟩ := hyc.below hB hyb
                generalize hbq : (!((p.mem.take q).any (hitB xs x.place))) = bq at *
                have hLs := L_at (f := shC xs x) (u := ((p, bq), .slice Am p.mem.length cm)) HQ.out
                have hmr := hRG.mem _ (List.mem_of_getElem? hLs)
                change wr.ownsRow w.heap.size 3 1 (.slice Am p.mem.length cm) p.mem.length (p.mem.map intV) at hmr
                have hrow := hRG.row
                rw [List.length_set, ul] at hrow
                obtain ⟨ga, hga, hmg, hmc⟩ := row_cells hmr (by omega)
                have d0 := hmc q (intV m) (by rw [List.getElem?_map, hm]; rfl)
                obtain ⟨g', hg', _, _, hce⟩ := row_cells6 hrow hLs
                injection hg' with hg'
                injection hg' with hg'
                subst hg'
                have s5 := hce 5 _ rfl
                have z5 := own_frozenR hrow (j * 6 + 5)
                subst hga
                have a1 := hBK.cell 1
                have a2 := hBK.cell 2
                have a3 := hBK.cell 3
                simp only [List.getElem?_toArray, List.getElem?_cons_succ, List.getElem?_cons_zero] at a1 a2 a3
                have hneF : wq.heap.size ≠ g := fun e => own_blk_ne hrow hBK (by decide) (by rw [e]; rfl)
                have hneG : wj.heap.size ≠ g := by omega
                have hq0 : (0 : Int) ≤ (q : Int) := by omega
                have hq1 : (q : Int) < (p.mem.length : Int) := by omega
                have hm0 : (0 : Int) ≤ (m : Int) := by omega
                have hm1 : (m : Int) < (n : Int) := by omega
                have HRGQ := Lib.hid hRG
                have HBKQ := Lib.hid hBK
                have HGBQ := Lib.hid hGB
                have HBQ := Lib.hid hB
                have HBQE := Lib.hid hbq
                have HLS := Lib.hid hLs
                clear hRG hBK hGB hB hrow hce hmr hmc hm hy hbq hLs hyc
                go_upto_region 22 with fail
                go_cut [122] from 104 to 126 (fun v122 wx => ∃ bb : Bool, v122 = .bool bb ∧ Hid (bb = (y.place == x.place)) ∧ ∃ dq, wx = wr.drewN dq)
                case first =>
                  go_quiet (fail)
                  go_wp2_with fail
                  go_meet
                  refine ⟨_, rfl, Lib.hid ?_, _, rfl⟩
                  rw [Bool.eq_iff_iff]
                  simp [Acc.place, and_assoc]
                case rest =>
                  obtain ⟨bb, rfl, HBE, dq, rfl⟩ := hcut
                  cases bb with
                  | false =>
                    go_wp2
                    go_roundw
                    case rel =>
                      refine ⟨q + 1, by omega, by go_num, ?_, HBKQ.out, HGBQ.out, below_draw HBQ.out _⟩
                      rw [HANY.out, HHIT.out, ← HBE.out, Bool.or_false, HBQE.out]
                      exact HRGQ.out.below (below_draw (Below.refl _ _) _)
                    case measure => simp [intOf]; omega
                  | true =>
                    go_wp2
                    go_roundw
                    case rel =>
                      refine ⟨q + 1, by omega, by go_num, ?_, (show BlkAt (wr.drewN dq) _ _ _ from HBKQ.out).far hneF _, (show BlkAt (wr.drewN dq) _ _ _ from HGBQ.out).far hneG _, (below_draw HBQ.out _).setCell (p := ⟨g, _, none⟩) hg0 _⟩
                      rw [HANY.out, HHIT.out, ← HBE.out, Bool.or_true, Bool.not_true]
                      have h1 := (HRGQ.out.below (below_draw (Below.refl _ _) dq)).shut HLS.out
                      rw [List.set_set] at h1
                      exact h1
                    case measure => simp [intOf]; omega
              · obtain rfl : q = p.mem.length := by omega
                rw [List.take_length] at hRG
                have HRGQ := Lib.hid hRG
                have HBKQ := Lib.hid hBK
                have HBQ := Lib.hid hB
                clear hRG hBK hGB hB
                go_wp2
                go_roundw
                case rel => exact ⟨j + 1, by omega, by go_num, by rw [upto_succ _ _ HQ.out, HK.out]; exact HRGQ.out, HBKQ.out, HBQ.out⟩
                case measure => simp [intOf]; omega
          · obtain rfl : j = L.length := by omega
            rw [upto_all] at hRG
            have b0 := hBK.cell 0
            have b4 := hBK.cell 4
            have b5 := hBK.cell 5
            have b6 := hBK.cell 6
            simp only [List.getElem?_toArray, List.getElem?_cons_succ, List.getElem?_cons_zero] at b0 b4 b5 b6
            have hLf := mapG_fst (shC xs x) L
            have hlm := mapG_len (shC xs x) L
            generalize mapG (shC xs x) L = L1 at *
            have HR1 : Hid (L1.map (·.1) = (runR xs k).map (shutIf (cutB xs x))) := Lib.hid (by rw [hLf, HLR.out]; rfl)
            have HI1 : Hid (Inv xs k k (L1.map (·.1))) := Lib.hid (by rw [HR1.out]; exact HI.out.shut _)
            have hll : L1.length ≤ 5000 := by omega
            obtain ⟨wz, rfl⟩ : ∃ wz : World, wz = wr := ⟨_, rfl⟩
            have HRGZ := Lib.hid hRG
            have HBKZ := Lib.hid hBK
            have HBZ := Lib.hid hB
            have hwz := hB.size
            clear hRG hBK hB hLf hlt2
            by_cases hre : x.frm = x.at'
            · have hreb : (x.frm == x.at') = true := by simpa using hre
              as_aux_lemma =>
              have HRE := Lib.hid hre
              clear hre
              go_wp2
              go_roundw
              case rel => exact ⟨k + 1, L1, by omega, by go_num, by rw [HSU.out, step_local HD.out HRE.out]; exact HR1.out, HRGZ.out, HBZ.out⟩
              case measure => simp [intOf]; omega
            · have hreb : (x.frm == x.at') = false := by simpa using hre
              have HRE := Lib.hid hre
              clear hre
              go_wp2
              clear b0 b4 b5 b6
              go_loopw [10, 11] (fun f i wr => ∃ j : Nat, j ≤ L.length ∧ i = .int .i64 j ∧ f = .int .i64 (fndUp x (L1.map (·.1)) j) ∧ Below wz.heap.size wz wr) (fun _ i _ => L.length - (intOf i).toNat)
              case atStart => exact ⟨0, by omega, rfl, rfl, Below.refl _ _⟩
              case round =>
                obtain ⟨j, hj', rfl, rfl, hB⟩ := hrel
                have hRG := HRGZ.out.below hB
                have hBK := HBKZ.out.below hB (BlkAt.lt HBKZ.out)
                by_cases hlt2 : j < L.length
                · as_aux_lemma =>
                  obtain ⟨⟨⟨p, o⟩, mv⟩, hq⟩ := get_some (xs := L1) (k := j) (by omega)
                  have hmr := hRG.mem _ (List.mem_of_getElem? hq)
                  change wr.ownsRow w.heap.size 3 1 mv p.mem.length (p.mem.map intV) at hmr
                  obtain ⟨Am, cm, rfl, _, _, _⟩ := own_slice hmr
                  have hrow := hRG.row
                  rw [hlm] at hrow
                  obtain ⟨g, rfl, hg0, hg, hce⟩ := row_cells6 hrow hq
                  have s0 := hce 0 _ rfl
                  have s1 := hce 1 _ rfl
                  have s2 := hce 2 _ rfl
                  have s3 := hce 3 _ rfl
                  have s4 := hce 4 _ rfl
                  have s5 := hce 5 _ rfl
                  rw [Nat.add_zero] at s0
                  have hBA := hBK.alloc (.cells #[.int .i64 p.task, .int .i64 p.kind, .int .i64 p.frm, .int .i64 p.at', .slice Am p.mem.length cm, .bool o] 86)
                  have b0 := hBA.cell 0
                  have b4 := hBA.cell 4
                  have b5 := hBA.cell 5
                  have b6 := hBA.cell 6
                  simp only [List.getElem?_toArray, List.getElem?_cons_succ, List.getElem?_cons_zero] at b0 b4 b5 b6
                  have HU : Hid (∀ bq, qB x (p, o) = bq → fndUp x (L1.map (·.1)) (j + 1) = if bq then (j : Int) else fndUp x (L1.map (·.1)) j) := Lib.hid (fun bq e => by
                    have e1 : (L1.map (·.1))[j]? = some (p, o) := by rw [List.getElem?_map, hq]; rfl
                    rw [← e]; simp only [fndUp, e1])
                  generalize fndUp x (L1.map (·.1)) j = fj at *
                  have HBA := Lib.hid (hB.alloc hB.size (.cells #[.int .i64 p.task, .int .i64 p.kind, .int .i64 p.frm, .int .i64 p.at', .slice Am p.mem.length cm, .bool o] 86))
                  have hj0 : (0 : Int) ≤ (j : Int) := by omega
                  have hj1 : (j : Int) < (L.length : Int) := by omega
                  have hfj := BlkAt.lt hBK
                  clear hq hRG hBK hB hrow hce hBA hmr
                  cases o with
                  | false =>
                    have HK : Hid (qB x (p, false) = false) := Lib.hid (by simp [qB])
                    go_wp2
                    go_roundw
                    case rel => exact ⟨j + 1, by omega, by go_num, by rw [HU.out _ HK.out]; rfl, HBA.out⟩
                    case measure => simp [intOf]; omega
                  | true =>
                  by_cases h1 : p.task = x.task
                  rotate_left 1
                  · have f1 : (p.task == x.task) = false := by simpa using h1
                    have HK : Hid (qB x (p, true) = false) := Lib.hid (by simp [qB, alikeB, h1])
                    clear h1
                    go_wp2
                    go_roundw
                    case rel => exact ⟨j + 1, by omega, by go_num, by rw [HU.out _ HK.out]; rfl, HBA.out⟩
                    case measure => simp [intOf]; omega
                  have f1 : (p.task == x.task) = true := by simpa using h1
                  by_cases h2 : p.kind = x.kind
                  rotate_left 1
                  · have f2 : (p.kind == x.kind) = false := by simpa using h2
                    have HK : Hid (qB x (p, true) = false) := Lib.hid (by simp [qB, alikeB, h2])
                    clear h1 h2
                    go_wp2
                    go_roundw
                    case rel => exact ⟨j + 1, by omega, by go_num, by rw [HU.out _ HK.out]; rfl, HBA.out⟩
                    case measure => simp [intOf]; omega
                  have f2 : (p.kind == x.kind) = true := by simpa using h2
                  by_cases h3 : p.frm = x.frm
                  rotate_left 1
                  · have f3 : (p.frm == x.frm) = false := by simpa using h3
                    have HK : Hid (qB x (p, true) = false) := Lib.hid (by simp [qB, alikeB, h3])
                    clear h1 h2 h3
                    go_wp2
                    go_roundw
                    case rel => exact ⟨j + 1, by omega, by go_num, by rw [HU.out _ HK.out]; rfl, HBA.out⟩
                    case measure => simp [intOf]; omega
                  have f3 : (p.frm == x.frm) = true := by simpa using h3
                  by_cases h4 : p.at' = x.at'
                  rotate_left 1
                  · have f4 : (p.at' == x.at') = false := by simpa using h4
                    have HK : Hid (qB x (p, true) = false) := Lib.hid (by simp [qB, alikeB, h4])
                    clear h1 h2 h3 h4
                    go_wp2
                    go_roundw
                    case rel => exact ⟨j + 1, by omega, by go_num, by rw [HU.out _ HK.out]; rfl, HBA.out⟩
                    case measure => simp [intOf]; omega
                  have f4 : (p.at' == x.at') = true := by simpa using h4
                  have HK : Hid (qB x (p, true) = true) := Lib.hid (by simp [qB, alikeB, h1, h2, h3, h4])
                  clear h1 h2 h3 h4
                  go_wp2
                  go_roundw
                  case rel => exact ⟨j + 1, by omega, by go_num, by rw [HU.out _ HK.out]; rfl, HBA.out⟩
                  case measure => simp [intOf]; omega
                · obtain rfl : j = L.length := by omega
                  have HRGX := Lib.hid hRG
                  have HBKX := Lib.hid hBK
                  have HBX : Hid (Below w.heap.size w wr) := Lib.hid (HBZ.out.trans (hB.mono hwz))
                  have hwr := HBX.out.size
                  clear hRG hBK hB hlt2
                  have hfs := fnd_spec x (L1.map (·.1)) (L1.map (·.1)).length (Nat.le_refl _)
                  rw [List.length_map, hlm] at hfs
                  rcases hfs with ⟨hf, hno⟩ | ⟨f, p, hfl, hf, hp, hqb⟩
                  · rw [hf]
                    have HST : Hid (stepR xs k x (runR xs k) = L1.map (·.1) ++ [(newG x k, true)]) := Lib.hid (by
                      rw [step_none HD.out HRE.out, ← HR1.out]
                      rw [← HR1.out]
                      intro p hp
                      obtain ⟨q, hq⟩ := List.getElem?_of_mem hp
                      have hql := (List.getElem?_eq_some_iff.1 hq).1
                      rw [List.length_map, hlm] at hql
                      exact hno q p hql hq)
                    clear hf hno
                    go_upto_if 197 with fail
                    go_cut [3] from 13 to 215 (fun v3 wx => v3 = .slice A3 L.length c3 ∧ ∃ L2 : List GV, L2.length = L.length ∧ Hid (stepR xs k x (runR xs k) = L2.map (·.1) ++ [(newG x k, true)]) ∧ RG wx w.heap.size (.slice A3 L.length c3) L2 ∧ BlkAt wx wq.heap.size 46 #[.int .i64 x.task, .int .i64 x.p0, .int .i64 x.p1, .int .i64 x.p2, .int .i64 x.kind, .int .i64 x.frm, .int .i64 x.at'] ∧ Below w.heap.size w wx)
                    case first => as_aux_lemma =>
                      go_wp2_with fail
                      go_meet
                      exact ⟨rfl, L1, hlm, HST, HRGX.out, HBKX.out, HBX.out⟩
                    case rest =>
                      obtain ⟨rfl, L2, hl2, HST2, hRG, hBK, hB⟩ := hcut
                      have b0 := hBK.cell 0
                      have b4 := hBK.cell 4
                      have b5 := hBK.cell 5
                      have b6 := hBK.cell 6
                      simp only [List.getElem?_toArray, List.getElem?_cons_succ, List.getElem?_cons_zero] at b0 b4 b5 b6
                      have HRGY := Lib.hid hRG
                      have HBJ := Lib.hid hB
                      have hwr := hB.size
                      clear hRG hBK hB
                      have HM : Hid (((wc.alloc (.cells #[intV k] 3)).alloc (.cells #[.int .i64 x.task, .int .i64 x.kind, .int .i64 x.frm, .int .i64 x.at', .slice (some ⟨wc.heap.size, 0, none⟩) 1 1, .bool true] 86)).ownsRow w.heap.size 3 1 (.slice (some ⟨wc.heap.size, 0, none⟩) 1 1) 1 [intV k]) := Lib.hid ((own_base (own_one wc 3 (intV k)) hwr).kept (grown_of_below (row := none) ((Below.refl _ _).alloc (Nat.le_refl _) _)) (none_or _))
                      have HG2 := Lib.hid ((HRGY.out.alloc (.cells #[intV k] 3)).alloc (.cells #[.int .i64 x.task, .int .i64 x.kind, .int .i64 x.frm, .int .i64 x.at', .slice (some ⟨wc.heap.size, 0, none⟩) 1 1, .bool true] 86))
                      have hrowA := HG2.out.row
                      rw [hl2] at hrowA
                      go_wp2_with
                        (at_builtin; refine wpList_append_own_at _ rfl _ _ 83 rfl w.heap.size 86 i0 (.agg #[.int .i64 0, .int .i64 0, .int .i64 0, .int .i64 0, .slice none 0 0, .bool false]) 6 64 Try.underlying83 hi hz0 hz1 hz2 rfl (by decide) _ _ _ rfl hrowA ⟨wc.heap.size + 1, 0, none⟩ 1 1 [.int .i64 x.task, .int .i64 x.kind, .int .i64 x.frm, .int .i64 x.at', .slice (some ⟨wc.heap.size, 0, none⟩) 1 1, .bool true] rfl rfl (cells_new' _ [.int .i64 x.task, .int .i64 x.kind, .int .i64 x.frm, .int .i64 x.at', .slice (some ⟨wc.heap.size, 0, none⟩) 1 1, .bool true] _ _ (by simp)) (by simp [Value.oneCell']) (by unfold maxLen; omega) (by omega) (by simp; omega) ?_
                         intro v' w6 hrow' hgrow _ hob
                         have HPUSH := Lib.hid (HG2.out.push (q := ((newG x k, true), .slice (some ⟨wc.heap.size, 0, none⟩) 1 1)) HM.out (by simp [newG]) (fun p hp e => by
                           obtain ⟨bq, hbq⟩ := HRGY.out.mem_some hp
                           have h1 := (own_lt (HRGY.out.mem p hp) hbq).2
                           rw [hbq] at e
                           have e : bq = wc.heap.size := Option.some.inj e
                           omega) hgrow (by rw [hl2]; exact hrow'))
                         have HBP := Lib.hid (((HBJ.out.alloc hwr (.cells #[intV k] 3)).alloc (by simp; omega) (.cells #[.int .i64 x.task, .int .i64 x.kind, .int .i64 x.frm, .int .i64 x.at', .slice (some ⟨wc.heap.size, 0, none⟩) 1 1, .bool true] 86)).grown hgrow (by simp; omega) (fun j e => (own_lt hrowA e).1))
                         obtain ⟨Av, cv, rfl, _, _, _⟩ := own_slice hrow'
                         clear hrow' hgrow hob)
                      go_roundw
                      case rel => exact ⟨k + 1, L2 ++ [((newG x k, true), .slice (some ⟨wc.heap.size, 0, none⟩) 1 1)], by omega, by go_num, by rw [HSU.out, HST2.out, List.map_append]; rfl, HPUSH.out, HBP.out⟩
                      case measure => simp [intOf]; omega
                  · rw [hf]
                    obtain ⟨⟨p', mv⟩, hq, e⟩ : ∃ q : GV, L1[f]? = some q ∧ q.1 = p := by
                      rw [List.getElem?_map] at hp
                      obtain ⟨q, hq, e⟩ := Option.map_eq_some_iff.1 hp
                      exact ⟨q, hq, e⟩
                    simp only at e
                    subst e
                    obtain ⟨p, o⟩ := p'
                    obtain rfl : o = true := (qB_key hqb).1
                    have hmr := HRGX.out.mem _ (List.mem_of_getElem? hq)
                    change wr.ownsRow w.heap.size 3 1 mv p.mem.length (p.mem.map intV) at hmr
                    obtain ⟨Am, cm, rfl, _, _, _⟩ := own_slice hmr
                    have hrow := HRGX.out.row
                    rw [hlm] at hrow
                    obtain ⟨g, rfl, hg0, hg, hce⟩ := row_cells6 hrow hq
                    have s4 := hce 4 _ rfl
                    have s5 := hce 5 _ rfl
                    have z5 := own_frozenR hrow (f * 6 + 5)
                    have hf0 : (0 : Int) ≤ (f : Int) := by omega
                    have hf1 : (f : Int) < (L.length : Int) := by omega
                    have hml := HI1.out.le64 _ (List.mem_of_getElem? hp)
                    simp only at hml
                    have hneF : wq.heap.size ≠ g := fun e => own_blk_ne hrow HBKX.out (by decide) (by rw [e]; rfl)
                    have HP := Lib.hid hp
                    have HQ := Lib.hid hq
                    have HQB := Lib.hid hqb
                    have HMR := Lib.hid hmr
                    clear hp hq hqb hmr hf hrow hce
                    by_cases h64 : p.mem.length < 64
                    · as_aux_lemma =>
                      have f64 : decide ((p.mem.length : Int) < 64) = true := decide_eq_true (by omega)
                      have HST : Hid (stepR xs k x (runR xs k) = (L1.map (·.1)).set f ({ p with mem := p.mem ++ [k] }, true)) := Lib.hid (step_add HD.out HRE.out HR1.out HI1.out HP.out HQB.out h64)
                      have HG2 := Lib.hid (HRGX.out.alloc (.cells #[intV k] 3))
                      have hrowA := HMR.out.alloc (.cells #[intV k] 3)
                      go_wp2_with
                        (at_builtin; refine wpList_append_own_at _ rfl _ _ 44 rfl w.heap.size 3 j0 (.int .i64 0) 1 8 Try.underlying44 hj hy0 hy1 hy2 rfl (by decide) (.slice Am p.mem.length cm) _ _ rfl hrowA ⟨wr.heap.size, 0, none⟩ 1 1 [intV k] rfl rfl (cells_new' _ [intV k] _ _ (by simp)) (by simp [Value.oneCell']) (by unfold maxLen; omega) (by omega) (by simp; omega) ?_
                         intro v' w6 hrow' hgrow _ hob
                         have HADD := Lib.hid (HG2.out.addMem HQ.out hgrow hrow' hob)
                         have HBP := Lib.hid ((HBX.out.alloc hwr (.cells #[intV k] 3)).grown hgrow (by simp; omega) (fun j e => (own_lt hrowA e).1))
                         have hrow6 := HG2.out.row.kept hgrow (.inr (Ne.symm (HG2.out.row_ne (List.mem_of_getElem? HQ.out))))
                         rw [hlm] at hrow6
                         have t4 : w6.cell? ⟨g, f * 6 + 4, none⟩ = some (.slice Am p.mem.length cm) := by
                           obtain ⟨g', hg', _, _, hce⟩ := row_cells6 hrow6 HQ.out
                           injection hg' with hg'
                           injection hg' with hg'
                           subst hg'
                           exact hce 4 _ rfl
                         have z4 := own_frozenR hrow6 (f * 6 + 4)
                         obtain ⟨Av, cv, rfl, _, _, _⟩ := own_slice hrow'
                         clear hrow' hgrow hob hrow6)
                      go_roundw
                      case rel => exact ⟨k + 1, L1.set f (({ p with mem := p.mem ++ [k] }, true), .slice Av (p.mem.length + 1) cv), by omega, by go_num, by rw [HSU.out, HST.out, List.map_set], HADD.out, HBP.out.setCell (p := ⟨g, _, none⟩) hg0 _⟩
                      case measure => simp [intOf]; omega
                    · have f64 : decide ((p.mem.length : Int) < 64) = false := decide_eq_false (by omega)
                      have HST : Hid (stepR xs k x (runR xs k) = (L1.map (·.1)).set f (p, false) ++ [(newG x k, true)]) := Lib.hid (step_full HD.out HRE.out HR1.out HI1.out HP.out HQB.out h64)
                      go_upto_if 197 with fail
                      go_cut [3] from 13 to 215 (fun v3 wx => v3 = .slice (some ⟨g, 0, none⟩) L.length c3 ∧ ∃ L2 : List GV, L2.length = L.length ∧ Hid (stepR xs k x (runR xs k) = L2.map (·.1) ++ [(newG x k, true)]) ∧ RG wx w.heap.size (.slice (some ⟨g, 0, none⟩) L.length c3) L2 ∧ BlkAt wx wq.heap.size 46 #[.int .i64 x.task, .int .i64 x.p0, .int .i64 x.p1, .int .i64 x.p2, .int .i64 x.kind, .int .i64 x.frm, .int .i64 x.at'] ∧ Below w.heap.size w wx)
                      case first => as_aux_lemma =>
                        go_wp2_with fail
                        go_meet
                        exact ⟨rfl, L1.set f ((p, false), .slice Am p.mem.length cm), by rw [List.length_set]; exact hlm, Lib.hid (by rw [HST.out, List.map_set]), HRGX.out.shut HQ.out, HBKX.out.far hneF _, HBX.out.setCell (p := ⟨g, _, none⟩) hg0 _⟩
                      case rest =>
                        obtain ⟨rfl, L2, hl2, HST2, hRG, hBK, hB⟩ := hcut
                        have b0 := hBK.cell 0
                        have b4 := hBK.cell 4
                        have b5 := hBK.cell 5
                        have b6 := hBK.cell 6
                        simp only [List.getElem?_toArray, List.getElem?_cons_succ, List.getElem?_cons_zero] at b0 b4 b5 b6
                        have HRGY := Lib.hid hRG
                        have HBJ := Lib.hid hB
                        have hwr := hB.size
                        clear hRG hBK hB
                        have HM : Hid (((wc.alloc (.cells #[intV k] 3)).alloc (.cells #[.int .i64 x.task, .int .i64 x.kind, .int .i64 x.frm, .int .i64 x.at', .slice (some ⟨wc.heap.size, 0, none⟩) 1 1, .bool true] 86)).ownsRow w.heap.size 3 1 (.slice (some ⟨wc.heap.size, 0, none⟩) 1 1) 1 [intV k]) := Lib.hid ((own_base (own_one wc 3 (intV k)) hwr).kept (grown_of_below (row := none) ((Below.refl _ _).alloc (Nat.le_refl _) _)) (none_or _))
                        have HG2 := Lib.hid ((HRGY.out.alloc (.cells #[intV k] 3)).alloc (.cells #[.int .i64 x.task, .int .i64 x.kind, .int .i64 x.frm, .int .i64 x.at', .slice (some ⟨wc.heap.size, 0, none⟩) 1 1, .bool true] 86))
                        have hrowA := HG2.out.row
                        rw [hl2] at hrowA
                        go_wp2_with
                          (at_builtin; refine wpList_append_own_at _ rfl _ _ 83 rfl w.heap.size 86 i0 (.agg #[.int .i64 0, .int .i64 0, .int .i64 0, .int .i64 0, .slice none 0 0, .bool false]) 6 64 Try.underlying83 hi hz0 hz1 hz2 rfl (by decide) _ _ _ rfl hrowA ⟨wc.heap.size + 1, 0, none⟩ 1 1 [.int .i64 x.task, .int .i64 x.kind, .int .i64 x.frm, .int .i64 x.at', .slice (some ⟨wc.heap.size, 0, none⟩) 1 1, .bool true] rfl rfl (cells_new' _ [.int .i64 x.task, .int .i64 x.kind, .int .i64 x.frm, .int .i64 x.at', .slice (some ⟨wc.heap.size, 0, none⟩) 1 1, .bool true] _ _ (by simp)) (by simp [Value.oneCell']) (by unfold maxLen; omega) (by omega) (by simp; omega) ?_
                           intro v' w6 hrow' hgrow _ hob
                           have HPUSH := Lib.hid (HG2.out.push (q := ((newG x k, true), .slice (some ⟨wc.heap.size, 0, none⟩) 1 1)) HM.out (by simp [newG]) (fun p hp e => by
                             obtain ⟨bq, hbq⟩ := HRGY.out.mem_some hp
                             have h1 := (own_lt (HRGY.out.mem p hp) hbq).2
                             rw [hbq] at e
                             have e : bq = wc.heap.size := Option.some.inj e
                             omega) hgrow (by rw [hl2]; exact hrow'))
                           have HBP := Lib.hid (((HBJ.out.alloc hwr (.cells #[intV k] 3)).alloc (by simp; omega) (.cells #[.int .i64 x.task, .int .i64 x.kind, .int .i64 x.frm, .int .i64 x.at', .slice (some ⟨wc.heap.size, 0, none⟩) 1 1, .bool true] 86)).grown hgrow (by simp; omega) (fun j e => (own_lt hrowA e).1))
                           obtain ⟨Av, cv, rfl, _, _, _⟩ := own_slice hrow'
                           clear hrow' hgrow hob)
                        go_roundw
                        case rel => exact ⟨k + 1, L2 ++ [((newG x k, true), .slice (some ⟨wc.heap.size, 0, none⟩) 1 1)], by omega, by go_num, by rw [HSU.out, HST2.out, List.map_append]; rfl, HPUSH.out, HBP.out⟩
                        case measure => simp [intOf]; omega
    · obtain rfl : k = n := by omega
      have HRGF := Lib.hid hRG
      clear hRG
      go_wp2
      go_ret
      exact ⟨_, _, rfl, hLR, HRGF.out, hbw⟩
end Go.Proofs.Ytghjhlenkgkelaa
