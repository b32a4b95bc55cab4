/- DERIVED. The reference's 'spots'. -/
import Derived.Test.YtghjhlenkgkelaaApp0
import Derived.Lib.QuietBelow
import Derived.Deep.CutBlock
import Derived.Deep.CutRange
import Derived.Deep.DeepCutAuto
set_option linter.unusedSimpArgs false
set_option linter.unusedVariables false
namespace Go.Proofs.Ytghjhlenkgkelaa
open Go.RowKit Go.Shelf Go.Sort

def posOf (sl : List Spt) (p : K3) : Nat := (sl.takeWhile (fun s => decide (lt3 s.place p))).length
def putS (sl : List Spt) (p : K3) : List Spt := if (sl[posOf sl p]?).map (·.place) = some p then sl else sl.take (posOf sl p) ++ ⟨p, 0, 0, 0, 0⟩ :: sl.drop (posOf sl p)
def insS (sl : List Spt) (x : Acc) : List Spt := (putS sl x.place).modify (posOf sl x.place) (fun s => spotAdd s x)
def refS (xs : List Acc) : List Spt := xs.foldl insS []

theorem posOf_eq {sl : List Spt} {p : K3} {k : Nat} (h1 : ∀ j s, j < k → sl[j]? = some s → lt3 s.place p) (h2 : k = sl.length ∨ ∃ s, sl[k]? = some s ∧ ¬ lt3 s.place p) : posOf sl p = k := by
  unfold posOf
  induction sl generalizing k with
  | nil =>
    rcases h2 with rfl | ⟨s, hs, _⟩
    · rfl
    · simp at hs
  | cons s sl ih =>
    rw [List.takeWhile_cons]
    cases k with
    | zero =>
      rcases h2 with h2 | ⟨s', hs, hn⟩
      · simp at h2
      · simp at hs; subst hs; simp [hn]
    | succ k =>
      have := h1 0 s (by omega) rfl
      simp only [this, decide_true, if_true, List.length_cons]
      rw [ih (k := k) (fun j s' hj hs => h1 (j + 1) s' (by omega) (by simpa using hs)) (by
        rcases h2 with h2 | ⟨s', hs, hn⟩
        · left; simpa using h2
        · right; exact ⟨s', by simpa using hs, hn⟩)]

theorem putS_at (sl : List Spt) (p : K3) : ∃ s, (putS sl p)[posOf sl p]? = some s ∧ s.place = p := by
  unfold putS
  split
  · rename_i h
    cases hs : sl[posOf sl p]? with
    | none => rw [hs] at h; cases h
    | some s => rw [hs] at h; exact ⟨s, rfl, by simpa using h⟩
  · have hl : posOf sl p ≤ sl.length := (List.takeWhile_prefix _).length_le
    refine ⟨⟨p, 0, 0, 0, 0⟩, ?_, rfl⟩
    rw [List.getElem?_append_right (by rw [List.length_take]; omega), List.length_take]
    rw [show posOf sl p - min (posOf sl p) sl.length = 0 by omega]; rfl
theorem putS_le {sl : List Spt} {k : Nat} (h : ∀ s ∈ sl, s.le k) (p : K3) : ∀ s ∈ putS sl p, s.le k := by
  unfold putS
  split
  · exact h
  · intro s hs
    simp only [List.mem_append, List.mem_cons] at hs
    rcases hs with hs | rfl | hs
    · exact h s (List.mem_of_mem_take hs)
    · simp [Spt.le]
    · exact h s (List.mem_of_mem_drop hs)
theorem insS_eq {sl : List Spt} {x : Acc} {s : Spt} (h : (putS sl x.place)[posOf sl x.place]? = some s) : insS sl x = (putS sl x.place).set (posOf sl x.place) (spotAdd s x) := by
  unfold insS
  have hl := (List.getElem?_eq_some_iff.1 h).1
  apply List.ext_getElem?
  intro i
  rw [List.getElem?_modify, List.getElem?_set]
  by_cases hi : posOf sl x.place = i
  · subst hi; have he := (List.getElem?_eq_some_iff.1 h).2; simp [h, hl, he]
  · simp [hi]
theorem insS_le {sl : List Spt} {k : Nat} (h : ∀ s ∈ sl, s.le k) (x : Acc) : ∀ s ∈ insS sl x, s.le (k + 1) := by
  obtain ⟨s, hs, _⟩ := putS_at sl x.place
  rw [insS_eq hs]
  intro y hy
  have hP := putS_le h x.place
  rcases List.mem_or_eq_of_mem_set hy with hy | rfl
  · have := hP y hy; unfold Spt.le at *; omega
  · exact spotAdd_le (hP s (List.mem_of_getElem? hs)) x
theorem refS_snoc (l : List Acc) (x : Acc) : refS (l ++ [x]) = insS (refS l) x := by simp [refS]
theorem foldS_le : ∀ (l : List Acc) (sl : List Spt) (k : Nat), (∀ s ∈ sl, s.le k) → ∀ s ∈ l.foldl insS sl, s.le (k + l.length)
  | [], _, _, h => h
  | x :: l, sl, k, h => by
    have := foldS_le l _ (k + 1) (insS_le h x)
    rw [List.foldl_cons, List.length_cons]; rwa [show k + (l.length + 1) = k + 1 + l.length by omega]
theorem refS_le (l : List Acc) : ∀ s ∈ refS l, s.le l.length := by
  have := foldS_le l [] 0 (by simp); simpa [refS] using this
theorem putS_len (sl : List Spt) (p : K3) : (putS sl p).length ≤ sl.length + 1 := by
  unfold putS; split
  · omega
  · simp; omega
theorem foldS_len : ∀ (l : List Acc) (sl : List Spt), (l.foldl insS sl).length ≤ sl.length + l.length
  | [], _ => Nat.le_refl _
  | x :: l, sl => by
    have h := foldS_len l (insS sl x)
    have h2 := putS_len sl x.place
    have h3 : (insS sl x).length = (putS sl x.place).length := by unfold insS; simp
    rw [List.foldl_cons, List.length_cons]; omega
theorem refS_len (l : List Acc) : (refS l).length ≤ l.length := by have := foldS_len l []; simpa [refS] using this

theorem spot_set {w : World} {base n cap g j f : Nat} {P : List Spt} {s s' : Spt} {u : Value} (h : w.ownsRow base 92 7 (.slice (some ⟨g, 0, none⟩) n cap) n (P.flatMap encSL)) (hs : P[j]? = some s) (hf : f < 7) (he : encSL s' = (encSL s).set f u) :
    (w.setCell ⟨g, j * 7 + f, none⟩ u).ownsRow base 92 7 (.slice (some ⟨g, 0, none⟩) n cap) n ((P.set j s').flatMap encSL) := by
  have hjl := (List.getElem?_eq_some_iff.1 hs).1
  have := own_row_set h (j := j * 7 + f) (u := u) (by rw [spt_len]; omega)
  rwa [flat_set (k := 7) (fun _ => rfl) hs hf he] at this
theorem own_frozenR {w : World} {base n cap g : Nat} {e : TypeId} {size : Nat} {xs : List Value} (h : w.ownsRow base e size (.slice (some ⟨g, 0, none⟩) n cap) n xs) (i : Nat) : w.frozen? ⟨g, i, none⟩ = false := by
  rcases h.2 with ⟨hv, _⟩ | ⟨g', cap', cur, hv, hb, hh, _⟩
  · cases hv
  · injection hv with ha
    injection ha with ha
    injection ha with ha
    subst ha
    exact BlkAt.frozen (show BlkAt w g e cur from hh) i
theorem rspot_info : (Try.prog.info? 92).map (fun i => (i.zero, i.size, i.bytes)) = some (some (encS spot0), 7, 56) := by kernel_rfl
set_option maxRecDepth 100000 in
set_option maxHeartbeats 2000000 in
theorem rspots_any (A : Option Addr) (n c : Nat) (xs : List Acc) (w : World) (hl : n ≤ 5000) (hr : Trace w w.heap.size A n xs) :
    Calls Try.prog 33 #[.slice A n c] w fun e w' => ∃ v, e = .returned v ∧ w'.ownsRow w.heap.size 92 7 v (refS xs).length ((refS xs).flatMap encSL) ∧ Below w.heap.size w w' := by
  have HN := Lib.hid hr.len
  have HR := Lib.hid hr
  clear hr
  go_enter Try.func33, Try.ntmps33
  go_wp2
  go_loopw [3, 4] (fun v i wr => ∃ k : Nat, k ≤ n ∧ i = .int .i64 k ∧ wr.ownsRow w.heap.size 92 7 v (refS (xs.take k)).length ((refS (xs.take k)).flatMap encSL) ∧ Below w.heap.size w wr) (fun _ i _ => n - (intOf i).toNat)
  case atStart => exact ⟨0, by omega, rfl, World.ownsRow_nil _ _ _ _, Below.refl _ _⟩
  case round =>
    obtain ⟨k, hk, rfl, hrow, hbw⟩ := hrel
    by_cases hlt : k < n
    · obtain ⟨x, hx⟩ := get_some (xs := xs) (k := k) (by rw [← HN.out]; omega)
      obtain ⟨b, off, rfl, hb, hc⟩ := HR.out.at_ k x hx
      obtain ⟨c0, c1, c2, c3, c4, c5, c6⟩ := hc.below hbw hb
      have HS : Hid (refS (xs.take (k + 1)) = insS (refS (xs.take k)) x) := Lib.hid (by rw [take_snoc hx]; simp [refS])
      have hll : (refS (xs.take k)).length ≤ k := Nat.le_trans (refS_len _) (List.length_take_le _ _)
      have hle : ∀ s ∈ refS (xs.take k), s.le 5000 := fun s hs => by
        have h1 := refS_le _ s hs
        have h2 : (xs.take k).length ≤ k := List.length_take_le _ _
        unfold Spt.le at *; omega
      have HLE := Lib.hid hle
      clear hle
      generalize refS (xs.take k) = sl at *
      obtain ⟨A3, c3', rfl, _, _, _⟩ := own_slice hrow
      have HROW := Lib.hid (hrow.alloc (.cells x.cells 46))
      have HBK := Lib.hid (BlkAt.new wr 46 x.cells)
      have HB1 := Lib.hid (hbw.alloc hbw.size (.cells x.cells 46))
      unfold Acc.cells at HROW HBK HB1
      clear hc hx hrow hbw
      obtain ⟨wq, rfl⟩ : ∃ wq : World, wq = wr := ⟨_, rfl⟩
      go_upto_block 2 with fail
      go_cut [6] from 7 to 103 (fun v6 wx => ∃ j : Nat, v6 = .int .i64 j ∧ j ≤ sl.length ∧ Hid (posOf sl x.place = j) ∧ Below (wq.heap.size + 1) (wq.alloc (.cells #[.int .i64 x.task, .int .i64 x.p0, .int .i64 x.p1, .int .i64 x.p2, .int .i64 x.kind, .int .i64 x.frm, .int .i64 x.at'] 46)) wx)
      case first =>
        go_wp2_with fail
        go_loopw [6] (fun i wr => ∃ j : Nat, j ≤ sl.length ∧ i = .int .i64 j ∧ Hid (∀ i s, i < j → sl[i]? = some s → lt3 s.place x.place) ∧ Below (wq.heap.size + 1) (wq.alloc (.cells #[.int .i64 x.task, .int .i64 x.p0, .int .i64 x.p1, .int .i64 x.p2, .int .i64 x.kind, .int .i64 x.frm, .int .i64 x.at'] 46)) wr) (fun i _ => sl.length - (intOf i).toNat)
        case atStart => exact ⟨0, by omega, rfl, Lib.hid (by intro i s h; omega), Below.refl _ _⟩
        case round =>
          obtain ⟨j, hj, rfl, HJ, hbr⟩ := hrel
          have hbk := HBK.out.below hbr (Nat.lt_succ_self _)
          have a1 := hbk.cell 1
          have a2 := hbk.cell 2
          have a3 := hbk.cell 3
          simp only [List.getElem?_toArray, List.getElem?_cons_succ, List.getElem?_cons_zero] at a1 a2 a3
          have a1 := cell_regrown a1
          have a2 := cell_regrown a2
          have a3 := cell_regrown a3
          have hj0 : (0 : Int) ≤ (j : Int) := by omega
          by_cases hlt2 : j < sl.length
          · obtain ⟨s, hs⟩ := get_some hlt2
            have hj1 : (j : Int) < (sl.length : Int) := by omega
            have hrow := HROW.out.kept (grown_of_below (row := none) (by simpa using hbr)) (none_or _)
            obtain ⟨g, rfl, hg, hce⟩ := row_cells hrow (by omega)
            have hc := fun (i : Nat) (u : Value) (hu : (encSL s)[i]? = some u) => hce _ _ (flat_at (enc := encSL) (k := 7) (fun _ => rfl) hs hu)
            have s0 := hc 0 _ rfl
            have s1 := hc 1 _ rfl
            have s2 := hc 2 _ rfl
            rw [Nat.add_zero] at s0
            have s0 := cell_regrown s0
            have s1 := cell_regrown s1
            have s2 := cell_regrown s2
            have hdl : decide ((j : Int) < (sl.length : Int)) = true := decide_eq_true hj1
            have hcall := fun d os => before_any s.place x.place (grow (redrawn wr d) os)
            have HSS := Lib.hid hs
            have HBR := Lib.hid hbr
            clear hc hce hrow hbk hs hbr
            by_cases hlt3 : lt3 s.place x.place
            · rw [decide_eq_true hlt3] at hcall
              have HL3 := Lib.hid hlt3
              clear hlt3
              unfold enc3 Acc.place at hcall
              go_wp2
              refine wp_region_quiet_below (by kernel_rfl) (by kernel_rfl) ?_
              repeat (any_goals (first | go_big_quiet_step ((go_at_call 49; exact Calls.regrown_of (hcall _ _))) | quiet_step ((go_at_call 49; exact Calls.regrown_of (hcall _ _))) | (refine wpQuiet_step (fun K hK => ?_); go_simp; split <;> (refine hK _ ?_; clear hK K))))
              all_goals (refine wpQuiet_nil ?_; intro _ hw'; obtain ⟨⟨dq, osq⟩, hw''⟩ := hw'; subst hw'')
              go_wp2
              go_roundw
              case rel =>
                refine ⟨j + 1, by omega, by go_num, Lib.hid ?_, HBR.out.trans (below_regrown wr _ _ |>.mono (by have := HBR.out.size; simpa using this))⟩
                intro i s' hi hs'
                by_cases hij : i = j
                · subst hij
                  have := HSS.out.symm.trans hs'
                  injection this with this
                  subst this
                  exact HL3.out
                · exact HJ.out i s' (by omega) hs'
              case measure => simp [intOf]; omega
            · rw [decide_eq_false hlt3] at hcall
              have HL3 := Lib.hid hlt3
              clear hlt3
              unfold enc3 Acc.place at hcall
              go_wp2
              refine wp_region_quiet_below (by kernel_rfl) (by kernel_rfl) ?_
              repeat (any_goals (first | go_big_quiet_step ((go_at_call 49; exact Calls.regrown_of (hcall _ _))) | quiet_step ((go_at_call 49; exact Calls.regrown_of (hcall _ _))) | (refine wpQuiet_step (fun K hK => ?_); go_simp; split <;> (refine hK _ ?_; clear hK K))))
              all_goals (refine wpQuiet_nil ?_; intro _ hw'; obtain ⟨⟨dq, osq⟩, hw''⟩ := hw'; subst hw'')
              go_wp2_with fail
              go_meet
              exact ⟨j, rfl, by omega, Lib.hid (posOf_eq HJ.out (.inr ⟨s, HSS.out, HL3.out⟩)), HBR.out.trans (below_regrown wr _ _ |>.mono (by have := HBR.out.size; simpa using this))⟩
          · obtain rfl : j = sl.length := by omega
            have HBR := Lib.hid hbr
            clear hbk hbr
            have hdl : decide ((sl.length : Int) < (sl.length : Int)) = false := decide_eq_false (by omega)
            go_wp2
            refine wp_region_quiet_below (by kernel_rfl) (by kernel_rfl) ?_
            repeat (any_goals (first | go_big_quiet_step (fail) | quiet_step (fail) | (refine wpQuiet_step (fun K hK => ?_); go_simp; split <;> (refine hK _ ?_; clear hK K))))
            all_goals (refine wpQuiet_nil ?_; intro _ hw'; obtain ⟨⟨dq, osq⟩, hw''⟩ := hw'; subst hw'')
            go_wp2_with fail
            go_meet
            exact ⟨sl.length, rfl, by omega, Lib.hid (posOf_eq HJ.out (.inl rfl)), HBR.out.trans (below_regrown wr _ _ |>.mono (by have := HBR.out.size; simpa using this))⟩
      case rest =>
        obtain ⟨j, rfl, hj, HPO, hbr⟩ := hcut
        go_upto_region 9 with fail
        go_cut [46] from 7 to 103 (fun v46 wx => ∃ b : Bool, v46 = .bool b ∧ Hid (b = decide ((sl[j]?).map (·.place) ≠ some x.place)) ∧ Below (wq.heap.size + 1) (wq.alloc (.cells #[.int .i64 x.task, .int .i64 x.p0, .int .i64 x.p1, .int .i64 x.p2, .int .i64 x.kind, .int .i64 x.frm, .int .i64 x.at'] 46)) wx)
        case first =>
          have hbk := HBK.out.below hbr (Nat.lt_succ_self _)
          have a1 := hbk.cell 1
          have a2 := hbk.cell 2
          have a3 := hbk.cell 3
          simp only [List.getElem?_toArray, List.getElem?_cons_succ, List.getElem?_cons_zero] at a1 a2 a3
          have hj0 : (0 : Int) ≤ (j : Int) := by omega
          by_cases hlt2 : j < sl.length
          · obtain ⟨s, hs⟩ := get_some hlt2
            have hj1 : (j : Int) < (sl.length : Int) := by omega
            have hrow := HROW.out.kept (grown_of_below (row := none) (by simpa using hbr)) (none_or _)
            obtain ⟨g, rfl, hg, hce⟩ := row_cells hrow (by omega)
            have hc := fun (i : Nat) (u : Value) (hu : (encSL s)[i]? = some u) => hce _ _ (flat_at (enc := encSL) (k := 7) (fun _ => rfl) hs hu)
            have s0 := hc 0 _ rfl
            have s1 := hc 1 _ rfl
            have s2 := hc 2 _ rfl
            rw [Nat.add_zero] at s0
            have hdl : ((j : Int) == (sl.length : Int)) = false := beq_eq_false_iff_ne.2 (by omega)
            have HSS := Lib.hid hs
            have HBR := Lib.hid hbr
            clear hc hce hrow hbk hs hbr
            go_wp2
            go_quiet (fail)
            go_wp2_with fail
            go_meet
            refine ⟨_, rfl, Lib.hid ?_, below_draw HBR.out _⟩
            rw [HSS.out, Bool.eq_iff_iff]
            obtain ⟨⟨pa, pb, pc⟩, _, _, _, _⟩ := s
            simp [Acc.place]
            omega
          · obtain rfl : j = sl.length := by omega
            have HBR := Lib.hid hbr
            clear hbk hbr
            have hdl : ((sl.length : Int) == (sl.length : Int)) = true := beq_self_eq_true _
            go_wp2
            go_quiet (fail)
            go_wp2_with fail
            go_meet
            refine ⟨_, rfl, Lib.hid ?_, below_draw HBR.out _⟩
            rw [List.getElem?_eq_none (Nat.le_refl _)]; rfl
        case rest =>
          obtain ⟨b, rfl, HB46, hbr2⟩ := hcut
          clear hbr
          go_upto_if 46 with fail
          go_cut [3] from 7 to 103 (fun v3 wx => ∃ A4 c4, v3 = .slice A4 (putS sl x.place).length c4 ∧ Hid (wx.ownsRow w.heap.size 92 7 (.slice A4 (putS sl x.place).length c4) (putS sl x.place).length ((putS sl x.place).flatMap encSL)) ∧ Below (wq.heap.size + 1) (wq.alloc (.cells #[.int .i64 x.task, .int .i64 x.p0, .int .i64 x.p1, .int .i64 x.p2, .int .i64 x.kind, .int .i64 x.frm, .int .i64 x.at'] 46)) wx)
          case first =>
            cases b with
            | false =>
              go_wp2_with fail
              go_meet
              have hps : putS sl x.place = sl := by unfold putS; rw [HPO.out, if_pos]; have := HB46.out; simpa using this
              exact ⟨A3, c3', by rw [hps], Lib.hid (by rw [hps]; exact HROW.out.kept (grown_of_below (row := none) (by simpa using hbr2)) (none_or _)), hbr2⟩
            | true =>
              have hbk := HBK.out.below hbr2 (Nat.lt_succ_self _)
              have HST : Hid (∀ W, Below (wq.heap.size + 1) (wq.alloc (.cells #[.int .i64 x.task, .int .i64 x.p0, .int .i64 x.p1, .int .i64 x.p2, .int .i64 x.kind, .int .i64 x.frm, .int .i64 x.at'] 46)) W → W.cell? ⟨wq.heap.size, 1, none⟩ = some (.int .i64 x.p0) ∧ W.cell? ⟨wq.heap.size, 2, none⟩ = some (.int .i64 x.p1) ∧ W.cell? ⟨wq.heap.size, 3, none⟩ = some (.int .i64 x.p2)) := Lib.hid (fun W hW => by
                have h := HBK.out.below hW (Nat.lt_succ_self _)
                exact ⟨h.cell 1, h.cell 2, h.cell 3⟩)
              have HBR2 := Lib.hid hbr2
              have hszc : wq.heap.size + 1 ≤ wc.heap.size := by have := hbr2.size; simpa using this
              have hS0 := HST.out _ hbr2
              have hrw := HROW.out.kept (grown_of_below (row := none) (by simpa using hbr2)) (none_or _)
              rcases hrw.2 with ⟨hv, h0⟩ | ⟨g, cap, cur, hv, hg, hblk, hcp, hcm, hcs, hct⟩
              · injection hv with hv1 hv2 hv3
                have hsl : sl = [] := List.eq_nil_of_length_eq_zero h0
                obtain rfl : j = 0 := by omega
                subst hsl
                subst hv1 hv3
                clear hrw hbr2 hbk h0
                go_upto_region 10 with fail
                refine wp_region_held_drew (S := fun w' => w'.cell? ⟨wq.heap.size, 1, none⟩ = some (.int .i64 x.p0) ∧ w'.cell? ⟨wq.heap.size, 2, none⟩ = some (.int .i64 x.p1) ∧ w'.cell? ⟨wq.heap.size, 3, none⟩ = some (.int .i64 x.p2)) (by kernel_rfl) hS0 ?_
                intro hHeld
                refine take_drop 1 (v := ?_) rfl (by kernel_rfl) (by kernel_rfl) (by kernel_rfl) (fun _ _ _ h => h) (by rfl) ?_ (by assumption) ?_
                rotate_left 1
                · (intro w hSw; obtain ⟨hSw1, hSw2, hSw3⟩ := hSw; go_simp; try with_reducible rfl)
                try simp only [Act.put, List.setIfInBounds_toArray, List.set_cons_zero, List.set_cons_succ]
                refine take_drop 2 (v := ?_) rfl (by kernel_rfl) (by kernel_rfl) (by kernel_rfl) (fun _ _ _ h => h) (by rfl) ?_ (by assumption) ?_
                rotate_left 1
                · (intro w hSw; obtain ⟨hSw1, hSw2, hSw3⟩ := hSw; go_simp; try with_reducible rfl)
                try simp only [Act.put, List.setIfInBounds_toArray, List.set_cons_zero, List.set_cons_succ]
                refine take_drop 3 (v := ?_) rfl (by kernel_rfl) (by kernel_rfl) (by kernel_rfl) (fun _ _ _ h => h) (by rfl) ?_ (by assumption) ?_
                rotate_left 1
                · (intro w hSw; obtain ⟨hSw1, hSw2, hSw3⟩ := hSw; go_simp; try with_reducible rfl)
                try simp only [Act.put, List.setIfInBounds_toArray, List.set_cons_zero, List.set_cons_succ]
                refine take_drop 5 (v := ?_) rfl (by kernel_rfl) (by kernel_rfl) (by kernel_rfl) (fun _ _ _ h => h) (by rfl) ?_ (by assumption) ?_
                rotate_left 1
                · (intro w hSw; obtain ⟨hSw1, hSw2, hSw3⟩ := hSw; go_simp; try with_reducible rfl)
                try simp only [Act.put, List.setIfInBounds_toArray, List.set_cons_zero, List.set_cons_succ]
                refine take_drop 6 (v := ?_) rfl (by kernel_rfl) (by kernel_rfl) (by kernel_rfl) (fun _ _ _ h => h) (by rfl) ?_ (by assumption) ?_
                rotate_left 1
                · (intro w hSw; obtain ⟨hSw1, hSw2, hSw3⟩ := hSw; go_simp; try with_reducible rfl)
                try simp only [Act.put, List.setIfInBounds_toArray, List.set_cons_zero, List.set_cons_succ]
                refine take_drop 7 (v := ?_) rfl (by kernel_rfl) (by kernel_rfl) (by kernel_rfl) (fun _ _ _ h => h) (by rfl) ?_ (by assumption) ?_
                rotate_left 1
                · (intro w hSw; obtain ⟨hSw1, hSw2, hSw3⟩ := hSw; go_simp; try with_reducible rfl)
                try simp only [Act.put, List.setIfInBounds_toArray, List.set_cons_zero, List.set_cons_succ]
                refine take_drop 10 (v := ?_) rfl (by kernel_rfl) (by kernel_rfl) (by kernel_rfl) (fun _ _ _ h => h) (by rfl) ?_ (by assumption) ?_
                rotate_left 1
                · (intro w hSw; obtain ⟨hSw1, hSw2, hSw3⟩ := hSw; go_simp; try with_reducible rfl)
                try simp only [Act.put, List.setIfInBounds_toArray, List.set_cons_zero, List.set_cons_succ]
                refine take_drop 11 (v := ?_) rfl (by kernel_rfl) (by kernel_rfl) (by kernel_rfl) (fun _ _ _ h => h) (by rfl) ?_ (by assumption) ?_
                rotate_left 1
                · (intro w hSw; obtain ⟨hSw1, hSw2, hSw3⟩ := hSw; go_simp; try with_reducible rfl)
                try simp only [Act.put, List.setIfInBounds_toArray, List.set_cons_zero, List.set_cons_succ]
                refine take_drop 12 (v := ?_) rfl (by kernel_rfl) (by kernel_rfl) (by kernel_rfl) (fun _ _ _ h => h) (by rfl) ?_ (by assumption) ?_
                rotate_left 1
                · (intro w hSw; obtain ⟨hSw1, hSw2, hSw3⟩ := hSw; go_simp; try with_reducible rfl)
                try simp only [Act.put, List.setIfInBounds_toArray, List.set_cons_zero, List.set_cons_succ]
                obtain ⟨i0, hi, hz0, hz1, hz2⟩ := info_parts rspot_info
                refine wpAnyH_ready (rs := [0, 8]) (by kernel_rfl) (by simp) ?_
                refine ready_drop rfl (fun K hK => ?_) (ready_drop rfl (fun K hK => ?_) AllReadyH.nil)
                · go_simp
                  have HA : Hid (Below (wq.heap.size + 1) _ (wc.alloc (.cells #[] 92)).drew) := Lib.hid (below_draw (HBR2.out.alloc (by have := HBR2.out.size; simpa using this) _) 1)
                  have HX : Hid (BlkAt (wc.alloc (.cells #[] 92)).drew wc.heap.size 92 #[]) := Lib.hid (BlkAt.new wc 92 #[])
                  refine hK.out _ _ (HST.out _ HA.out) (fun hHeld => ?_)
                  clear hK
                  try simp only [Act.put, List.setIfInBounds_toArray, List.set_cons_zero, List.set_cons_succ]
                  generalize (wc.alloc (.cells #[] 92)).drew = wA at *
                  have hszA : wq.heap.size + 1 ≤ wA.heap.size := by have := HA.out.size; simpa using this
                  have HB8 := Lib.hid (HA.out.alloc (by have := HA.out.size; simpa using this) (.cells #[.int .i64 x.p0, .int .i64 x.p1, .int .i64 x.p2, .int .i64 0, .int .i64 0, .int .i64 0, .int .i64 0] 92))
                  have HY8 := Lib.hid (BlkAt.new wA 92 #[.int .i64 x.p0, .int .i64 x.p1, .int .i64 x.p2, .int .i64 0, .int .i64 0, .int .i64 0, .int .i64 0])
                  have HX8 := Lib.hid (HX.out.alloc (.cells #[.int .i64 x.p0, .int .i64 x.p1, .int .i64 x.p2, .int .i64 0, .int .i64 0, .int .i64 0, .int .i64 0] 92))
                  refine wpAnyH_ready (rs := [4, 8]) (by kernel_rfl) (by simp) ?_
                  refine ready_append0 rfl rfl (.tmp 47) (.tmp 50) 50 rfl 92 i0 Try.underlying50 hi (some ⟨wc.heap.size, 0, none⟩) 0 0 (Nat.le_refl _) rfl rfl ⟨HST.out _ HA.out, fun hHeld => ?_⟩ ?_
                  · try simp only [Act.put, List.setIfInBounds_toArray, List.set_cons_zero, List.set_cons_succ]
                    refine wpAnyH_ready (rs := [8]) (by kernel_rfl) (by simp) ?_
                    refine ready_drop rfl (fun K hK => ?_) AllReadyH.nil
                    go_simp
                    refine hK.out _ _ (HST.out _ HB8.out) (fun hHeld => ?_)
                    clear hK
                    try simp only [Act.put, List.setIfInBounds_toArray, List.set_cons_zero, List.set_cons_succ]
                    refine wpAnyH_ready (rs := [9]) (by kernel_rfl) (by simp) ?_
                    refine ready_append rfl rfl (.tmp 51) (.tmp 55) 50 rfl (wq.heap.size + 1) 92 i0 (encS spot0) 7 56 Try.underlying50 hi hz0 hz1 hz2 rfl (by decide) (.slice (some ⟨wc.heap.size, 0, none⟩) 0 0) 0 [] rfl (own_empty0 HX8.out (by omega) 7) ⟨wA.heap.size, 0, none⟩ 1 1 (encSL ⟨x.place, 0, 0, 0, 0⟩) rfl rfl (fun jj u hu => by have := HY8.out.cell jj; rw [show (⟨wA.heap.size, 0, none⟩ : Addr).add jj = ⟨wA.heap.size, jj, none⟩ by simp [Addr.add_mid]]; rw [this]; simpa [encSL, Acc.place] using hu) (spt_one [⟨x.place, 0, 0, 0, 0⟩]) (by unfold maxLen; omega) (by omega) (by have := HB8.out.size; simpa using this) ?_ AllReadyH.nil
                    intro v56 w9 hrow9 hg9 hob9
                    have HB9 := Lib.hid (HB8.out.grown hg9 (by have := HB8.out.size; simpa using this) (fun k e => by have e : wc.heap.size = k := Option.some.inj e; omega))
                    rw [Nat.zero_add, List.nil_append] at hrow9
                    have H56 := Lib.hid (own_base (base' := w.heap.size) hrow9 (by have := HB1.out.size; simpa using this))
                    obtain ⟨A56, c56, rfl, hcap56, _, _⟩ := own_slice hrow9
                    clear hrow9 hg9 hob9
                    have HFIN : Hid (∃ A4 c4, Value.slice A56 1 c56 = .slice A4 (putS [] x.place).length c4 ∧ Hid (w9.ownsRow w.heap.size 92 7 (.slice A4 (putS [] x.place).length c4) (putS [] x.place).length ((putS [] x.place).flatMap encSL)) ∧ Below (wq.heap.size + 1) (wq.alloc (.cells #[.int .i64 x.task, .int .i64 x.p0, .int .i64 x.p1, .int .i64 x.p2, .int .i64 x.kind, .int .i64 x.frm, .int .i64 x.at'] 46)) w9) := Lib.hid ⟨A56, c56, rfl, Lib.hid H56.out, HB9.out⟩
                    refine ⟨HST.out _ HB9.out, fun hHeld => ?_⟩
                    try simp only [Act.put, List.setIfInBounds_toArray, List.set_cons_zero, List.set_cons_succ]
                    refine wpAnyH_ready (rs := [13]) (by kernel_rfl) (by simp) ?_
                    refine ready_append0 rfl rfl (.tmp 56) (.tmp 59) 50 rfl 92 i0 Try.underlying50 hi A56 1 c56 hcap56 rfl rfl ⟨HST.out _ HB9.out, fun hHeld => ?_⟩ AllReadyH.nil
                    try simp only [Act.put, List.setIfInBounds_toArray, List.set_cons_zero, List.set_cons_succ]
                    refine wpAnyH_ready (rs := [14]) (by kernel_rfl) (by simp) ?_
                    refine ready_drop rfl (fun K hK => ?_) AllReadyH.nil
                    go_simp
                    refine hK.out _ _ (by assumption) (fun hHeld => ?_)
                    clear hK
                    try simp only [Act.put, List.setIfInBounds_toArray, List.set_cons_zero, List.set_cons_succ]
                    refine wpAnyH_done (by kernel_rfl) ?_ _
                    go_wp2_with fail
                    all_goals (go_meet; exact HFIN.out)
                  · refine ready_drop rfl (fun K hK => ?_) AllReadyH.nil
                    go_simp
                    refine hK.out _ _ (HST.out _ HB8.out) (fun hHeld => ?_)
                    clear hK
                    try simp only [Act.put, List.setIfInBounds_toArray, List.set_cons_zero, List.set_cons_succ]
                    refine wpAnyH_ready (rs := [4]) (by kernel_rfl) (by simp) ?_
                    refine ready_append0 rfl rfl (.tmp 47) (.tmp 50) 50 rfl 92 i0 Try.underlying50 hi (some ⟨wc.heap.size, 0, none⟩) 0 0 (Nat.le_refl _) rfl rfl ⟨HST.out _ HB8.out, fun hHeld => ?_⟩ ?_
                    · try simp only [Act.put, List.setIfInBounds_toArray, List.set_cons_zero, List.set_cons_succ]
                      refine wpAnyH_ready (rs := [9]) (by kernel_rfl) (by simp) ?_
                      refine ready_append rfl rfl (.tmp 51) (.tmp 55) 50 rfl (wq.heap.size + 1) 92 i0 (encS spot0) 7 56 Try.underlying50 hi hz0 hz1 hz2 rfl (by decide) (.slice (some ⟨wc.heap.size, 0, none⟩) 0 0) 0 [] rfl (own_empty0 HX8.out (by omega) 7) ⟨wA.heap.size, 0, none⟩ 1 1 (encSL ⟨x.place, 0, 0, 0, 0⟩) rfl rfl (fun jj u hu => by have := HY8.out.cell jj; rw [show (⟨wA.heap.size, 0, none⟩ : Addr).add jj = ⟨wA.heap.size, jj, none⟩ by simp [Addr.add_mid]]; rw [this]; simpa [encSL, Acc.place] using hu) (spt_one [⟨x.place, 0, 0, 0, 0⟩]) (by unfold maxLen; omega) (by omega) (by have := HB8.out.size; simpa using this) ?_ AllReadyH.nil
                      intro v56 w9 hrow9 hg9 hob9
                      have HB9 := Lib.hid (HB8.out.grown hg9 (by have := HB8.out.size; simpa using this) (fun k e => by have e : wc.heap.size = k := Option.some.inj e; omega))
                      rw [Nat.zero_add, List.nil_append] at hrow9
                      have H56 := Lib.hid (own_base (base' := w.heap.size) hrow9 (by have := HB1.out.size; simpa using this))
                      obtain ⟨A56, c56, rfl, hcap56, _, _⟩ := own_slice hrow9
                      clear hrow9 hg9 hob9
                      have HFIN : Hid (∃ A4 c4, Value.slice A56 1 c56 = .slice A4 (putS [] x.place).length c4 ∧ Hid (w9.ownsRow w.heap.size 92 7 (.slice A4 (putS [] x.place).length c4) (putS [] x.place).length ((putS [] x.place).flatMap encSL)) ∧ Below (wq.heap.size + 1) (wq.alloc (.cells #[.int .i64 x.task, .int .i64 x.p0, .int .i64 x.p1, .int .i64 x.p2, .int .i64 x.kind, .int .i64 x.frm, .int .i64 x.at'] 46)) w9) := Lib.hid ⟨A56, c56, rfl, Lib.hid H56.out, HB9.out⟩
                      refine ⟨HST.out _ HB9.out, fun hHeld => ?_⟩
                      try simp only [Act.put, List.setIfInBounds_toArray, List.set_cons_zero, List.set_cons_succ]
                      refine wpAnyH_ready (rs := [13]) (by kernel_rfl) (by simp) ?_
                      refine ready_append0 rfl rfl (.tmp 56) (.tmp 59) 50 rfl 92 i0 Try.underlying50 hi A56 1 c56 hcap56 rfl rfl ⟨HST.out _ HB9.out, fun hHeld => ?_⟩ AllReadyH.nil
                      try simp only [Act.put, List.setIfInBounds_toArray, List.set_cons_zero, List.set_cons_succ]
                      refine wpAnyH_ready (rs := [14]) (by kernel_rfl) (by simp) ?_
                      refine ready_drop rfl (fun K hK => ?_) AllReadyH.nil
                      go_simp
                      refine hK.out _ _ (by assumption) (fun hHeld => ?_)
                      clear hK
                      try simp only [Act.put, List.setIfInBounds_toArray, List.set_cons_zero, List.set_cons_succ]
                      refine wpAnyH_done (by kernel_rfl) ?_ _
                      go_wp2_with fail
                      all_goals (go_meet; exact HFIN.out)
                    · exact AllReadyH.nil
                · go_simp
                  have HA : Hid (Below (wq.heap.size + 1) _ (wc.alloc (.cells #[.int .i64 x.p0, .int .i64 x.p1, .int .i64 x.p2, .int .i64 0, .int .i64 0, .int .i64 0, .int .i64 0] 92)).drew) := Lib.hid (below_draw (HBR2.out.alloc (by have := HBR2.out.size; simpa using this) _) 1)
                  have HY : Hid (BlkAt (wc.alloc (.cells #[.int .i64 x.p0, .int .i64 x.p1, .int .i64 x.p2, .int .i64 0, .int .i64 0, .int .i64 0, .int .i64 0] 92)).drew wc.heap.size 92 #[.int .i64 x.p0, .int .i64 x.p1, .int .i64 x.p2, .int .i64 0, .int .i64 0, .int .i64 0, .int .i64 0]) := Lib.hid (BlkAt.new wc 92 _)
                  refine hK.out _ _ (HST.out _ HA.out) (fun hHeld => ?_)
                  clear hK
                  try simp only [Act.put, List.setIfInBounds_toArray, List.set_cons_zero, List.set_cons_succ]
                  generalize (wc.alloc (.cells #[.int .i64 x.p0, .int .i64 x.p1, .int .i64 x.p2, .int .i64 0, .int .i64 0, .int .i64 0, .int .i64 0] 92)).drew = wA at *
                  have hszA : wq.heap.size + 1 ≤ wA.heap.size := by have := HA.out.size; simpa using this
                  refine wpAnyH_ready (rs := [0]) (by kernel_rfl) (by simp) ?_
                  refine ready_drop rfl (fun K hK => ?_) AllReadyH.nil
                  go_simp
                  have HB8 := Lib.hid (HA.out.alloc (by have := HA.out.size; simpa using this) (.cells #[] 92))
                  have HX8 := Lib.hid (BlkAt.new wA 92 #[])
                  have HY8 := Lib.hid (HY.out.alloc (.cells #[] 92))
                  refine hK.out _ _ (HST.out _ HB8.out) (fun hHeld => ?_)
                  clear hK
                  try simp only [Act.put, List.setIfInBounds_toArray, List.set_cons_zero, List.set_cons_succ]
                  refine wpAnyH_ready (rs := [4]) (by kernel_rfl) (by simp) ?_
                  refine ready_append0 rfl rfl (.tmp 47) (.tmp 50) 50 rfl 92 i0 Try.underlying50 hi (some ⟨wA.heap.size, 0, none⟩) 0 0 (Nat.le_refl _) rfl rfl ⟨HST.out _ HB8.out, fun hHeld => ?_⟩ ?_
                  · try simp only [Act.put, List.setIfInBounds_toArray, List.set_cons_zero, List.set_cons_succ]
                    refine wpAnyH_ready (rs := [9]) (by kernel_rfl) (by simp) ?_
                    refine ready_append rfl rfl (.tmp 51) (.tmp 55) 50 rfl (wq.heap.size + 1) 92 i0 (encS spot0) 7 56 Try.underlying50 hi hz0 hz1 hz2 rfl (by decide) (.slice (some ⟨wA.heap.size, 0, none⟩) 0 0) 0 [] rfl (own_empty0 HX8.out (by omega) 7) ⟨wc.heap.size, 0, none⟩ 1 1 (encSL ⟨x.place, 0, 0, 0, 0⟩) rfl rfl (fun jj u hu => by have := HY8.out.cell jj; rw [show (⟨wc.heap.size, 0, none⟩ : Addr).add jj = ⟨wc.heap.size, jj, none⟩ by simp [Addr.add_mid]]; rw [this]; simpa [encSL, Acc.place] using hu) (spt_one [⟨x.place, 0, 0, 0, 0⟩]) (by unfold maxLen; omega) (by omega) (by have := HB8.out.size; simpa using this) ?_ AllReadyH.nil
                    intro v56 w9 hrow9 hg9 hob9
                    have HB9 := Lib.hid (HB8.out.grown hg9 (by have := HB8.out.size; simpa using this) (fun k e => by have e : wA.heap.size = k := Option.some.inj e; omega))
                    rw [Nat.zero_add, List.nil_append] at hrow9
                    have H56 := Lib.hid (own_base (base' := w.heap.size) hrow9 (by have := HB1.out.size; simpa using this))
                    obtain ⟨A56, c56, rfl, hcap56, _, _⟩ := own_slice hrow9
                    clear hrow9 hg9 hob9
                    have HFIN : Hid (∃ A4 c4, Value.slice A56 1 c56 = .slice A4 (putS [] x.place).length c4 ∧ Hid (w9.ownsRow w.heap.size 92 7 (.slice A4 (putS [] x.place).length c4) (putS [] x.place).length ((putS [] x.place).flatMap encSL)) ∧ Below (wq.heap.size + 1) (wq.alloc (.cells #[.int .i64 x.task, .int .i64 x.p0, .int .i64 x.p1, .int .i64 x.p2, .int .i64 x.kind, .int .i64 x.frm, .int .i64 x.at'] 46)) w9) := Lib.hid ⟨A56, c56, rfl, Lib.hid H56.out, HB9.out⟩
                    refine ⟨HST.out _ HB9.out, fun hHeld => ?_⟩
                    try simp only [Act.put, List.setIfInBounds_toArray, List.set_cons_zero, List.set_cons_succ]
                    refine wpAnyH_ready (rs := [13]) (by kernel_rfl) (by simp) ?_
                    refine ready_append0 rfl rfl (.tmp 56) (.tmp 59) 50 rfl 92 i0 Try.underlying50 hi A56 1 c56 hcap56 rfl rfl ⟨HST.out _ HB9.out, fun hHeld => ?_⟩ AllReadyH.nil
                    try simp only [Act.put, List.setIfInBounds_toArray, List.set_cons_zero, List.set_cons_succ]
                    refine wpAnyH_ready (rs := [14]) (by kernel_rfl) (by simp) ?_
                    refine ready_drop rfl (fun K hK => ?_) AllReadyH.nil
                    go_simp
                    refine hK.out _ _ (by assumption) (fun hHeld => ?_)
                    clear hK
                    try simp only [Act.put, List.setIfInBounds_toArray, List.set_cons_zero, List.set_cons_succ]
                    refine wpAnyH_done (by kernel_rfl) ?_ _
                    go_wp2_with fail
                    all_goals (go_meet; exact HFIN.out)
                  · exact AllReadyH.nil
              · injection hv with hv1 hv2 hv3
                subst hv1 hv3
                have HRW := Lib.hid hrw
                have HCE : Hid (∀ W, Below (wq.heap.size + 1) (wq.alloc (.cells #[.int .i64 x.task, .int .i64 x.p0, .int .i64 x.p1, .int .i64 x.p2, .int .i64 x.kind, .int .i64 x.frm, .int .i64 x.at'] 46)) W → ∀ i u, (sl.flatMap encSL)[i]? = some u → W.cell? ⟨g, i, none⟩ = some u) := Lib.hid (fun W hW i u hu => by
                  have h1 := HROW.out.kept (grown_of_below (row := none) (by simpa using hW)) (none_or _)
                  have h2 := (List.getElem?_eq_some_iff.1 hu).1
                  rw [spt_len] at h2
                  obtain ⟨g', e, _, hc⟩ := row_cells h1 (by omega)
                  injection e with e
                  injection e with e
                  subst e
                  exact hc i u hu)
                have HC0 : Hid (∀ W, Below (wq.heap.size + 1) (wq.alloc (.cells #[.int .i64 x.task, .int .i64 x.p0, .int .i64 x.p1, .int .i64 x.p2, .int .i64 x.kind, .int .i64 x.frm, .int .i64 x.at'] 46)) W → ∀ i u, ((sl.take j).flatMap encSL)[i]? = some u → W.cell? ((⟨g, 0, none⟩ : Addr).add i) = some u) := Lib.hid (fun W hW i u hu => by
                  rw [Addr.add_mid, Nat.zero_add]; exact HCE.out W hW i u (spt_take hu))
                have HD : Hid (∀ W, Below (wq.heap.size + 1) (wq.alloc (.cells #[.int .i64 x.task, .int .i64 x.p0, .int .i64 x.p1, .int .i64 x.p2, .int .i64 x.kind, .int .i64 x.frm, .int .i64 x.at'] 46)) W → ∀ i u, ((sl.drop j).flatMap encSL)[i]? = some u → W.cell? ((if c3' = j then ⟨g, 0, none⟩ else ⟨g, j * 7, none⟩ : Addr).add i) = some u) := Lib.hid (fun W hW i u hu => by
                  have h2 := (List.getElem?_eq_some_iff.1 hu).1
                  rw [spt_len, List.length_drop] at h2
                  rw [if_neg (by omega), Addr.add_mid]; exact HCE.out W hW _ u (spt_drop hj hu))
                clear hrw hblk hcs hct hbr2 hbk
                have hj0 : (0 : Int) ≤ (j : Int) := by omega
                have hj1 : (j : Int) ≤ (sl.length : Int) := by omega
                have hcm' : c3' ≤ 9223372036854775807 := hcm
                have hj2 : (j : Int) ≤ (c3' : Int) := by omega
                go_upto_region 10 with fail
                refine wp_region_held_drew (S := fun w' => w'.cell? ⟨wq.heap.size, 1, none⟩ = some (.int .i64 x.p0) ∧ w'.cell? ⟨wq.heap.size, 2, none⟩ = some (.int .i64 x.p1) ∧ w'.cell? ⟨wq.heap.size, 3, none⟩ = some (.int .i64 x.p2)) (by kernel_rfl) hS0 ?_
                intro hHeld
                refine take_drop 1 (v := ?_) rfl (by kernel_rfl) (by kernel_rfl) (by kernel_rfl) (fun _ _ _ h => h) (by rfl) ?_ (by assumption) ?_
                rotate_left 1
                · (intro w hSw; obtain ⟨hSw1, hSw2, hSw3⟩ := hSw; go_simp; try with_reducible rfl)
                try simp only [Act.put, List.setIfInBounds_toArray, List.set_cons_zero, List.set_cons_succ]
                refine take_drop 2 (v := ?_) rfl (by kernel_rfl) (by kernel_rfl) (by kernel_rfl) (fun _ _ _ h => h) (by rfl) ?_ (by assumption) ?_
                rotate_left 1
                · (intro w hSw; obtain ⟨hSw1, hSw2, hSw3⟩ := hSw; go_simp; try with_reducible rfl)
                try simp only [Act.put, List.setIfInBounds_toArray, List.set_cons_zero, List.set_cons_succ]
                refine take_drop 3 (v := ?_) rfl (by kernel_rfl) (by kernel_rfl) (by kernel_rfl) (fun _ _ _ h => h) (by rfl) ?_ (by assumption) ?_
                rotate_left 1
                · (intro w hSw; obtain ⟨hSw1, hSw2, hSw3⟩ := hSw; go_simp; try with_reducible rfl)
                try simp only [Act.put, List.setIfInBounds_toArray, List.set_cons_zero, List.set_cons_succ]
                refine take_drop 5 (v := ?_) rfl (by kernel_rfl) (by kernel_rfl) (by kernel_rfl) (fun _ _ _ h => h) (by rfl) ?_ (by assumption) ?_
                rotate_left 1
                · (intro w hSw; obtain ⟨hSw1, hSw2, hSw3⟩ := hSw; go_simp; try with_reducible rfl)
                try simp only [Act.put, List.setIfInBounds_toArray, List.set_cons_zero, List.set_cons_succ]
                refine take_drop 6 (v := ?_) rfl (by kernel_rfl) (by kernel_rfl) (by kernel_rfl) (fun _ _ _ h => h) (by rfl) ?_ (by assumption) ?_
                rotate_left 1
                · (intro w hSw; obtain ⟨hSw1, hSw2, hSw3⟩ := hSw; go_simp; try with_reducible rfl)
                try simp only [Act.put, List.setIfInBounds_toArray, List.set_cons_zero, List.set_cons_succ]
                refine take_drop 7 (v := ?_) rfl (by kernel_rfl) (by kernel_rfl) (by kernel_rfl) (fun _ _ _ h => h) (by rfl) ?_ (by assumption) ?_
                rotate_left 1
                · (intro w hSw; obtain ⟨hSw1, hSw2, hSw3⟩ := hSw; go_simp; try with_reducible rfl)
                try simp only [Act.put, List.setIfInBounds_toArray, List.set_cons_zero, List.set_cons_succ]
                refine take_drop 10 (v := ?_) rfl (by kernel_rfl) (by kernel_rfl) (by kernel_rfl) (fun _ _ _ h => h) (by rfl) ?_ (by assumption) ?_
                rotate_left 1
                · (intro w hSw; obtain ⟨hSw1, hSw2, hSw3⟩ := hSw; go_simp; try with_reducible rfl)
                try simp only [Act.put, List.setIfInBounds_toArray, List.set_cons_zero, List.set_cons_succ]
                refine take_drop 11 (v := ?_) rfl (by kernel_rfl) (by kernel_rfl) (by kernel_rfl) (fun _ _ _ h => h) (by rfl) ?_ (by assumption) ?_
                rotate_left 1
                · (intro w hSw; obtain ⟨hSw1, hSw2, hSw3⟩ := hSw; go_simp; try with_reducible rfl)
                try simp only [Act.put, List.setIfInBounds_toArray, List.set_cons_zero, List.set_cons_succ]
                refine take_drop 12 (v := ?_) rfl (by kernel_rfl) (by kernel_rfl) (by kernel_rfl) (fun _ _ _ h => h) (by rfl) ?_ (by assumption) ?_
                rotate_left 1
                · (intro w hSw; obtain ⟨hSw1, hSw2, hSw3⟩ := hSw; go_simp; try with_reducible rfl)
                try simp only [Act.put, List.setIfInBounds_toArray, List.set_cons_zero, List.set_cons_succ]
                obtain ⟨i0, hi, hz0, hz1, hz2⟩ := info_parts rspot_info
                refine wpAnyH_ready (rs := [0, 8]) (by kernel_rfl) (by simp) ?_
                refine ready_drop rfl (fun K hK => ?_) (ready_drop rfl (fun K hK => ?_) AllReadyH.nil)
                · go_simp
                  have HA : Hid (Below (wq.heap.size + 1) _ (wc.alloc (.cells #[] 92)).drew) := Lib.hid (below_draw (HBR2.out.alloc (by have := HBR2.out.size; simpa using this) _) 1)
                  have HX : Hid (BlkAt (wc.alloc (.cells #[] 92)).drew wc.heap.size 92 #[]) := Lib.hid (BlkAt.new wc 92 #[])
                  refine hK.out _ _ (HST.out _ HA.out) (fun hHeld => ?_)
                  clear hK
                  try simp only [Act.put, List.setIfInBounds_toArray, List.set_cons_zero, List.set_cons_succ]
                  generalize (wc.alloc (.cells #[] 92)).drew = wA at *
                  have hszA : wq.heap.size + 1 ≤ wA.heap.size := by have := HA.out.size; simpa using this
                  refine wpAnyH_ready (rs := [4, 8]) (by kernel_rfl) (by simp) ?_
                  refine ready_append rfl rfl (.tmp 47) (.tmp 50) 50 rfl (wq.heap.size + 1) 92 i0 (encS spot0) 7 56 Try.underlying50 hi hz0 hz1 hz2 rfl (by decide) (.slice (some ⟨wc.heap.size, 0, none⟩) 0 0) 0 [] rfl (own_empty0 HX.out (by omega) 7) ⟨g, 0, none⟩ j c3' ((sl.take j).flatMap encSL) rfl (by rw [spt_len, List.length_take]; congr 1; omega) (HC0.out _ HA.out) (spt_one _) (by unfold maxLen; omega) (by omega) (by have := HA.out.size; simpa using this) ?_ ?_
                  · intro v51 w4 hrow4 hg4 hob4
                    have HB4 := Lib.hid (HA.out.grown hg4 (by have := HA.out.size; simpa using this) (fun k e => by have e : wc.heap.size = k := Option.some.inj e; omega))
                    rw [Nat.zero_add, List.nil_append] at hrow4
                    obtain ⟨A51, c51, rfl, _, _, _⟩ := own_slice hrow4
                    have H51 := Lib.hid hrow4
                    clear hrow4 hg4 hob4
                    refine ⟨HST.out _ HB4.out, fun hHeld => ?_⟩
                    try simp only [Act.put, List.setIfInBounds_toArray, List.set_cons_zero, List.set_cons_succ]
                    refine wpAnyH_ready (rs := [8]) (by kernel_rfl) (by simp) ?_
                    refine ready_drop rfl (fun K hK => ?_) AllReadyH.nil
                    go_simp
                    have HB8 := Lib.hid (HB4.out.alloc (by have := HB4.out.size; simpa using this) (.cells #[.int .i64 x.p0, .int .i64 x.p1, .int .i64 x.p2, .int .i64 0, .int .i64 0, .int .i64 0, .int .i64 0] 92))
                    have HY8 := Lib.hid (BlkAt.new w4 92 #[.int .i64 x.p0, .int .i64 x.p1, .int .i64 x.p2, .int .i64 0, .int .i64 0, .int .i64 0, .int .i64 0])
                    have H51' := Lib.hid (H51.out.alloc (.cells #[.int .i64 x.p0, .int .i64 x.p1, .int .i64 x.p2, .int .i64 0, .int .i64 0, .int .i64 0, .int .i64 0] 92))
                    refine hK.out _ _ (HST.out _ HB8.out) (fun hHeld => ?_)
                    clear hK
                    try simp only [Act.put, List.setIfInBounds_toArray, List.set_cons_zero, List.set_cons_succ]
                    refine wpAnyH_ready (rs := [9]) (by kernel_rfl) (by simp) ?_
                    refine ready_append rfl rfl (.tmp 51) (.tmp 55) 50 rfl (wq.heap.size + 1) 92 i0 (encS spot0) 7 56 Try.underlying50 hi hz0 hz1 hz2 rfl (by decide) (.slice A51 j c51) _ _ rfl H51'.out ⟨w4.heap.size, 0, none⟩ 1 1 (encSL ⟨x.place, 0, 0, 0, 0⟩) rfl rfl (fun jj u hu => by have := HY8.out.cell jj; rw [show (⟨w4.heap.size, 0, none⟩ : Addr).add jj = ⟨w4.heap.size, jj, none⟩ by simp [Addr.add_mid]]; rw [this]; simpa [encSL, Acc.place] using hu) (spt_one [⟨x.place, 0, 0, 0, 0⟩]) (by unfold maxLen; omega) (by omega) (by have := HB8.out.size; simpa using this) ?_ AllReadyH.nil
                    intro v56 w9 hrow9 hg9 hob9
                    have HB9 := Lib.hid (HB8.out.grown hg9 (by have := HB8.out.size; simpa using this) (fun k e => (own_lt H51'.out e).1))
                    have H56 := Lib.hid hrow9
                    obtain ⟨A56, c56, rfl, hcap56, _, _⟩ := own_slice hrow9
                    clear hrow9 hg9 hob9
                    refine ⟨HST.out _ HB9.out, fun hHeld => ?_⟩
                    try simp only [Act.put, List.setIfInBounds_toArray, List.set_cons_zero, List.set_cons_succ]
                    refine wpAnyH_ready (rs := [13]) (by kernel_rfl) (by simp) ?_
                    refine ready_append rfl rfl (.tmp 56) (.tmp 59) 50 rfl (wq.heap.size + 1) 92 i0 (encS spot0) 7 56 Try.underlying50 hi hz0 hz1 hz2 rfl (by decide) (.slice A56 (j + 1) c56) _ _ rfl H56.out (if c3' = j then ⟨g, 0, none⟩ else ⟨g, j * 7, none⟩) (sl.length - j) (c3' - j) ((sl.drop j).flatMap encSL) (by show Value.slice (ite _ _ _) _ _ = _; split <;> rfl) (by rw [spt_len, List.length_drop]) (HD.out _ HB9.out) (spt_one _) (by unfold maxLen; omega) (by omega) (by have := HB9.out.size; simpa using this) ?_ AllReadyH.nil
                    intro v60 w13 hrow13 hg13 hob13
                    have HB13 := Lib.hid (HB9.out.grown hg13 (by have := HB9.out.size; simpa using this) (fun k e => (own_lt H56.out e).1))
                    have H60 := Lib.hid (own_base (base' := w.heap.size) hrow13 (by have := HB1.out.size; simpa using this))
                    obtain ⟨A60, c60, rfl, _, _, _⟩ := own_slice hrow13
                    clear hrow13 hg13 hob13
                    have HFIN : Hid (∃ A4 c4, Value.slice A60 (j + 1 + (sl.length - j)) c60 = .slice A4 (putS sl x.place).length c4 ∧ Hid (w13.ownsRow w.heap.size 92 7 (.slice A4 (putS sl x.place).length c4) (putS sl x.place).length ((putS sl x.place).flatMap encSL)) ∧ Below (wq.heap.size + 1) (wq.alloc (.cells #[.int .i64 x.task, .int .i64 x.p0, .int .i64 x.p1, .int .i64 x.p2, .int .i64 x.kind, .int .i64 x.frm, .int .i64 x.at'] 46)) w13) := Lib.hid (by
                      have hps : putS sl x.place = sl.take j ++ ⟨x.place, 0, 0, 0, 0⟩ :: sl.drop j := by unfold putS; rw [HPO.out, if_neg]; have := HB46.out; simpa using this
                      have hpl : (putS sl x.place).length = j + 1 + (sl.length - j) := by rw [hps]; simp; omega
                      refine ⟨A60, c60, by rw [hpl], Lib.hid ?_, HB13.out⟩
                      rw [hpl, hps]
                      have := H60.out
                      simpa using this)
                    refine ⟨HST.out _ HB13.out, fun hHeld => ?_⟩
                    try simp only [Act.put, List.setIfInBounds_toArray, List.set_cons_zero, List.set_cons_succ]
                    refine wpAnyH_ready (rs := [14]) (by kernel_rfl) (by simp) ?_
                    refine ready_drop rfl (fun K hK => ?_) AllReadyH.nil
                    go_simp
                    refine hK.out _ _ (by assumption) (fun hHeld => ?_)
                    clear hK
                    try simp only [Act.put, List.setIfInBounds_toArray, List.set_cons_zero, List.set_cons_succ]
                    refine wpAnyH_done (by kernel_rfl) ?_ _
                    go_wp2_with fail
                    all_goals (go_meet; exact HFIN.out)
                  · refine ready_drop rfl (fun K hK => ?_) AllReadyH.nil
                    go_simp
                    have HB8 := Lib.hid (HA.out.alloc (by have := HA.out.size; simpa using this) (.cells #[.int .i64 x.p0, .int .i64 x.p1, .int .i64 x.p2, .int .i64 0, .int .i64 0, .int .i64 0, .int .i64 0] 92))
                    have HY8 := Lib.hid (BlkAt.new wA 92 #[.int .i64 x.p0, .int .i64 x.p1, .int .i64 x.p2, .int .i64 0, .int .i64 0, .int .i64 0, .int .i64 0])
                    have HX8 := Lib.hid (HX.out.alloc (.cells #[.int .i64 x.p0, .int .i64 x.p1, .int .i64 x.p2, .int .i64 0, .int .i64 0, .int .i64 0, .int .i64 0] 92))
                    refine hK.out _ _ (HST.out _ HB8.out) (fun hHeld => ?_)
                    clear hK
                    try simp only [Act.put, List.setIfInBounds_toArray, List.set_cons_zero, List.set_cons_succ]
                    refine wpAnyH_ready (rs := [4]) (by kernel_rfl) (by simp) ?_
                    refine ready_append rfl rfl (.tmp 47) (.tmp 50) 50 rfl (wq.heap.size + 1) 92 i0 (encS spot0) 7 56 Try.underlying50 hi hz0 hz1 hz2 rfl (by decide) (.slice (some ⟨wc.heap.size, 0, none⟩) 0 0) 0 [] rfl (own_empty0 HX8.out (by omega) 7) ⟨g, 0, none⟩ j c3' ((sl.take j).flatMap encSL) rfl (by rw [spt_len, List.length_take]; congr 1; omega) (HC0.out _ HB8.out) (spt_one _) (by unfold maxLen; omega) (by omega) (by have := HB8.out.size; simpa using this) ?_ ?_
                    · intro v51 w4 hrow4 hg4 hob4
                      have HB4 := Lib.hid (HB8.out.grown hg4 (by have := HB8.out.size; simpa using this) (fun k e => by have e : wc.heap.size = k := Option.some.inj e; omega))
                      have HY4 := Lib.hid (HY8.out.kept hg4 (fun e => by have e : wA.heap.size = wc.heap.size := Option.some.inj e; have := HX.out.lt; omega))
                      rw [Nat.zero_add, List.nil_append] at hrow4
                      obtain ⟨A51, c51, rfl, _, _, _⟩ := own_slice hrow4
                      have H51 := Lib.hid hrow4
                      clear hrow4 hg4 hob4
                      refine ⟨HST.out _ HB4.out, fun hHeld => ?_⟩
                      try simp only [Act.put, List.setIfInBounds_toArray, List.set_cons_zero, List.set_cons_succ]
                      refine wpAnyH_ready (rs := [9]) (by kernel_rfl) (by simp) ?_
                      refine ready_append rfl rfl (.tmp 51) (.tmp 55) 50 rfl (wq.heap.size + 1) 92 i0 (encS spot0) 7 56 Try.underlying50 hi hz0 hz1 hz2 rfl (by decide) (.slice A51 j c51) _ _ rfl H51.out ⟨wA.heap.size, 0, none⟩ 1 1 (encSL ⟨x.place, 0, 0, 0, 0⟩) rfl rfl (fun jj u hu => by have := HY4.out.cell jj; rw [show (⟨wA.heap.size, 0, none⟩ : Addr).add jj = ⟨wA.heap.size, jj, none⟩ by simp [Addr.add_mid]]; rw [this]; simpa [encSL, Acc.place] using hu) (spt_one [⟨x.place, 0, 0, 0, 0⟩]) (by unfold maxLen; omega) (by omega) (by have := HB4.out.size; simpa using this) ?_ AllReadyH.nil
                      intro v56 w9 hrow9 hg9 hob9
                      have HB9 := Lib.hid (HB4.out.grown hg9 (by have := HB4.out.size; simpa using this) (fun k e => (own_lt H51.out e).1))
                      have H56 := Lib.hid hrow9
                      obtain ⟨A56, c56, rfl, hcap56, _, _⟩ := own_slice hrow9
                      clear hrow9 hg9 hob9
                      refine ⟨HST.out _ HB9.out, fun hHeld => ?_⟩
                      try simp only [Act.put, List.setIfInBounds_toArray, List.set_cons_zero, List.set_cons_succ]
                      refine wpAnyH_ready (rs := [13]) (by kernel_rfl) (by simp) ?_
                      refine ready_append rfl rfl (.tmp 56) (.tmp 59) 50 rfl (wq.heap.size + 1) 92 i0 (encS spot0) 7 56 Try.underlying50 hi hz0 hz1 hz2 rfl (by decide) (.slice A56 (j + 1) c56) _ _ rfl H56.out (if c3' = j then ⟨g, 0, none⟩ else ⟨g, j * 7, none⟩) (sl.length - j) (c3' - j) ((sl.drop j).flatMap encSL) (by show Value.slice (ite _ _ _) _ _ = _; split <;> rfl) (by rw [spt_len, List.length_drop]) (HD.out _ HB9.out) (spt_one _) (by unfold maxLen; omega) (by omega) (by have := HB9.out.size; simpa using this) ?_ AllReadyH.nil
                      intro v60 w13 hrow13 hg13 hob13
                      have HB13 := Lib.hid (HB9.out.grown hg13 (by have := HB9.out.size; simpa using this) (fun k e => (own_lt H56.out e).1))
                      have H60 := Lib.hid (own_base (base' := w.heap.size) hrow13 (by have := HB1.out.size; simpa using this))
                      obtain ⟨A60, c60, rfl, _, _, _⟩ := own_slice hrow13
                      clear hrow13 hg13 hob13
                      have HFIN : Hid (∃ A4 c4, Value.slice A60 (j + 1 + (sl.length - j)) c60 = .slice A4 (putS sl x.place).length c4 ∧ Hid (w13.ownsRow w.heap.size 92 7 (.slice A4 (putS sl x.place).length c4) (putS sl x.place).length ((putS sl x.place).flatMap encSL)) ∧ Below (wq.heap.size + 1) (wq.alloc (.cells #[.int .i64 x.task, .int .i64 x.p0, .int .i64 x.p1, .int .i64 x.p2, .int .i64 x.kind, .int .i64 x.frm, .int .i64 x.at'] 46)) w13) := Lib.hid (by
                        have hps : putS sl x.place = sl.take j ++ ⟨x.place, 0, 0, 0, 0⟩ :: sl.drop j := by unfold putS; rw [HPO.out, if_neg]; have := HB46.out; simpa using this
                        have hpl : (putS sl x.place).length = j + 1 + (sl.length - j) := by rw [hps]; simp; omega
                        refine ⟨A60, c60, by rw [hpl], Lib.hid ?_, HB13.out⟩
                        rw [hpl, hps]
                        have := H60.out
                        simpa using this)
                      refine ⟨HST.out _ HB13.out, fun hHeld => ?_⟩
                      try simp only [Act.put, List.setIfInBounds_toArray, List.set_cons_zero, List.set_cons_succ]
                      refine wpAnyH_ready (rs := [14]) (by kernel_rfl) (by simp) ?_
                      refine ready_drop rfl (fun K hK => ?_) AllReadyH.nil
                      go_simp
                      refine hK.out _ _ (by assumption) (fun hHeld => ?_)
                      clear hK
                      try simp only [Act.put, List.setIfInBounds_toArray, List.set_cons_zero, List.set_cons_succ]
                      refine wpAnyH_done (by kernel_rfl) ?_ _
                      go_wp2_with fail
                      all_goals (go_meet; exact HFIN.out)
                    · exact AllReadyH.nil
                · go_simp
                  have HA : Hid (Below (wq.heap.size + 1) _ (wc.alloc (.cells #[.int .i64 x.p0, .int .i64 x.p1, .int .i64 x.p2, .int .i64 0, .int .i64 0, .int .i64 0, .int .i64 0] 92)).drew) := Lib.hid (below_draw (HBR2.out.alloc (by have := HBR2.out.size; simpa using this) _) 1)
                  have HY : Hid (BlkAt (wc.alloc (.cells #[.int .i64 x.p0, .int .i64 x.p1, .int .i64 x.p2, .int .i64 0, .int .i64 0, .int .i64 0, .int .i64 0] 92)).drew wc.heap.size 92 #[.int .i64 x.p0, .int .i64 x.p1, .int .i64 x.p2, .int .i64 0, .int .i64 0, .int .i64 0, .int .i64 0]) := Lib.hid (BlkAt.new wc 92 _)
                  refine hK.out _ _ (HST.out _ HA.out) (fun hHeld => ?_)
                  clear hK
                  try simp only [Act.put, List.setIfInBounds_toArray, List.set_cons_zero, List.set_cons_succ]
                  generalize (wc.alloc (.cells #[.int .i64 x.p0, .int .i64 x.p1, .int .i64 x.p2, .int .i64 0, .int .i64 0, .int .i64 0, .int .i64 0] 92)).drew = wA at *
                  have hszA : wq.heap.size + 1 ≤ wA.heap.size := by have := HA.out.size; simpa using this
                  refine wpAnyH_ready (rs := [0]) (by kernel_rfl) (by simp) ?_
                  refine ready_drop rfl (fun K hK => ?_) AllReadyH.nil
                  go_simp
                  have HB8 := Lib.hid (HA.out.alloc (by have := HA.out.size; simpa using this) (.cells #[] 92))
                  have HX8 := Lib.hid (BlkAt.new wA 92 #[])
                  have HY8 := Lib.hid (HY.out.alloc (.cells #[] 92))
                  refine hK.out _ _ (HST.out _ HB8.out) (fun hHeld => ?_)
                  clear hK
                  try simp only [Act.put, List.setIfInBounds_toArray, List.set_cons_zero, List.set_cons_succ]
                  refine wpAnyH_ready (rs := [4]) (by kernel_rfl) (by simp) ?_
                  refine ready_append rfl rfl (.tmp 47) (.tmp 50) 50 rfl (wq.heap.size + 1) 92 i0 (encS spot0) 7 56 Try.underlying50 hi hz0 hz1 hz2 rfl (by decide) (.slice (some ⟨wA.heap.size, 0, none⟩) 0 0) 0 [] rfl (own_empty0 HX8.out (by omega) 7) ⟨g, 0, none⟩ j c3' ((sl.take j).flatMap encSL) rfl (by rw [spt_len, List.length_take]; congr 1; omega) (HC0.out _ HB8.out) (spt_one _) (by unfold maxLen; omega) (by omega) (by have := HB8.out.size; simpa using this) ?_ ?_
                  · intro v51 w4 hrow4 hg4 hob4
                    have HB4 := Lib.hid (HB8.out.grown hg4 (by have := HB8.out.size; simpa using this) (fun k e => by have e : wA.heap.size = k := Option.some.inj e; omega))
                    have HY4 := Lib.hid (HY8.out.kept hg4 (fun e => by have e : wc.heap.size = wA.heap.size := Option.some.inj e; have := HY.out.lt; omega))
                    rw [Nat.zero_add, List.nil_append] at hrow4
                    obtain ⟨A51, c51, rfl, _, _, _⟩ := own_slice hrow4
                    have H51 := Lib.hid hrow4
                    clear hrow4 hg4 hob4
                    refine ⟨HST.out _ HB4.out, fun hHeld => ?_⟩
                    try simp only [Act.put, List.setIfInBounds_toArray, List.set_cons_zero, List.set_cons_succ]
                    refine wpAnyH_ready (rs := [9]) (by kernel_rfl) (by simp) ?_
                    refine ready_append rfl rfl (.tmp 51) (.tmp 55) 50 rfl (wq.heap.size + 1) 92 i0 (encS spot0) 7 56 Try.underlying50 hi hz0 hz1 hz2 rfl (by decide) (.slice A51 j c51) _ _ rfl H51.out ⟨wc.heap.size, 0, none⟩ 1 1 (encSL ⟨x.place, 0, 0, 0, 0⟩) rfl rfl (fun jj u hu => by have := HY4.out.cell jj; rw [show (⟨wc.heap.size, 0, none⟩ : Addr).add jj = ⟨wc.heap.size, jj, none⟩ by simp [Addr.add_mid]]; rw [this]; simpa [encSL, Acc.place] using hu) (spt_one [⟨x.place, 0, 0, 0, 0⟩]) (by unfold maxLen; omega) (by omega) (by have := HB4.out.size; simpa using this) ?_ AllReadyH.nil
                    intro v56 w9 hrow9 hg9 hob9
                    have HB9 := Lib.hid (HB4.out.grown hg9 (by have := HB4.out.size; simpa using this) (fun k e => (own_lt H51.out e).1))
                    have H56 := Lib.hid hrow9
                    obtain ⟨A56, c56, rfl, hcap56, _, _⟩ := own_slice hrow9
                    clear hrow9 hg9 hob9
                    refine ⟨HST.out _ HB9.out, fun hHeld => ?_⟩
                    try simp only [Act.put, List.setIfInBounds_toArray, List.set_cons_zero, List.set_cons_succ]
                    refine wpAnyH_ready (rs := [13]) (by kernel_rfl) (by simp) ?_
                    refine ready_append rfl rfl (.tmp 56) (.tmp 59) 50 rfl (wq.heap.size + 1) 92 i0 (encS spot0) 7 56 Try.underlying50 hi hz0 hz1 hz2 rfl (by decide) (.slice A56 (j + 1) c56) _ _ rfl H56.out (if c3' = j then ⟨g, 0, none⟩ else ⟨g, j * 7, none⟩) (sl.length - j) (c3' - j) ((sl.drop j).flatMap encSL) (by show Value.slice (ite _ _ _) _ _ = _; split <;> rfl) (by rw [spt_len, List.length_drop]) (HD.out _ HB9.out) (spt_one _) (by unfold maxLen; omega) (by omega) (by have := HB9.out.size; simpa using this) ?_ AllReadyH.nil
                    intro v60 w13 hrow13 hg13 hob13
                    have HB13 := Lib.hid (HB9.out.grown hg13 (by have := HB9.out.size; simpa using this) (fun k e => (own_lt H56.out e).1))
                    have H60 := Lib.hid (own_base (base' := w.heap.size) hrow13 (by have := HB1.out.size; simpa using this))
                    obtain ⟨A60, c60, rfl, _, _, _⟩ := own_slice hrow13
                    clear hrow13 hg13 hob13
                    have HFIN : Hid (∃ A4 c4, Value.slice A60 (j + 1 + (sl.length - j)) c60 = .slice A4 (putS sl x.place).length c4 ∧ Hid (w13.ownsRow w.heap.size 92 7 (.slice A4 (putS sl x.place).length c4) (putS sl x.place).length ((putS sl x.place).flatMap encSL)) ∧ Below (wq.heap.size + 1) (wq.alloc (.cells #[.int .i64 x.task, .int .i64 x.p0, .int .i64 x.p1, .int .i64 x.p2, .int .i64 x.kind, .int .i64 x.frm, .int .i64 x.at'] 46)) w13) := Lib.hid (by
                      have hps : putS sl x.place = sl.take j ++ ⟨x.place, 0, 0, 0, 0⟩ :: sl.drop j := by unfold putS; rw [HPO.out, if_neg]; have := HB46.out; simpa using this
                      have hpl : (putS sl x.place).length = j + 1 + (sl.length - j) := by rw [hps]; simp; omega
                      refine ⟨A60, c60, by rw [hpl], Lib.hid ?_, HB13.out⟩
                      rw [hpl, hps]
                      have := H60.out
                      simpa using this)
                    refine ⟨HST.out _ HB13.out, fun hHeld => ?_⟩
                    try simp only [Act.put, List.setIfInBounds_toArray, List.set_cons_zero, List.set_cons_succ]
                    refine wpAnyH_ready (rs := [14]) (by kernel_rfl) (by simp) ?_
                    refine ready_drop rfl (fun K hK => ?_) AllReadyH.nil
                    go_simp
                    refine hK.out _ _ (by assumption) (fun hHeld => ?_)
                    clear hK
                    try simp only [Act.put, List.setIfInBounds_toArray, List.set_cons_zero, List.set_cons_succ]
                    refine wpAnyH_done (by kernel_rfl) ?_ _
                    go_wp2_with fail
                    all_goals (go_meet; exact HFIN.out)
                  · exact AllReadyH.nil
          case rest =>
            obtain ⟨A4, c4, rfl, HR4, hbr3⟩ := hcut
            obtain ⟨s, hs, hsp⟩ := putS_at sl x.place
            have hPle := putS_le HLE.out x.place s (List.mem_of_getElem? hs)
            have HIN := Lib.hid (insS_eq hs)
            have hPl := putS_len sl x.place
            rw [HPO.out] at hs HIN
            have hjl := (List.getElem?_eq_some_iff.1 hs).1
            generalize putS sl x.place = P at *
            obtain ⟨g4, rfl, hg4, hce⟩ := row_cells HR4.out (by omega)
            have hc := fun (i : Nat) (u : Value) (hu : (encSL s)[i]? = some u) => hce _ _ (flat_at (enc := encSL) (k := 7) (fun _ => rfl) hs hu)
            have s3 := hc 3 _ rfl
            have s4 := hc 4 _ rfl
            have s5 := hc 5 _ rfl
            have s6 := hc 6 _ rfl
            have hbk := HBK.out.below hbr3 (Nat.lt_succ_self _)
            have a4 := hbk.cell 4
            have a5 := hbk.cell 5
            have a6 := hbk.cell 6
            simp only [List.getElem?_toArray, List.getElem?_cons_succ, List.getElem?_cons_zero] at a4 a5 a6
            have hne : wq.heap.size ≠ g4 := fun e => own_blk_ne HR4.out hbk (by decide) (by rw [e]; rfl)
            obtain ⟨q1, q2, q3, q4, q5, q6, q7, q8⟩ := hPle
            have HSS := Lib.hid hs
            have HSP := Lib.hid hsp
            have HB3 := Lib.hid hbr3
            have hj0 : (0 : Int) ≤ (j : Int) := by omega
            have hj1 : (j : Int) < (P.length : Int) := by omega
            clear hc hce hs hsp hbr3 hbr2 hbk hPl
            have hfz := own_frozenR HR4.out
            have z3 := hfz (j * 7 + 3)
            have z4 := hfz (j * 7 + 4)
            have z5 := hfz (j * 7 + 5)
            have z6 := hfz (j * 7 + 6)
            clear hfz
            have e3 : ∀ u, (wc.setCell ⟨g4, j * 7 + 3, none⟩ u).cell? ⟨g4, j * 7 + 6, none⟩ = some (.int .i64 s.remote) := fun u => (World.cell?_setCell_other _ _ _ _ (by simp)).trans s6
            have e4 : ∀ u, (wc.setCell ⟨g4, j * 7 + 4, none⟩ u).cell? ⟨g4, j * 7 + 6, none⟩ = some (.int .i64 s.remote) := fun u => (World.cell?_setCell_other _ _ _ _ (by simp)).trans s6
            have e5 : ∀ u, (wc.setCell ⟨g4, j * 7 + 5, none⟩ u).cell? ⟨g4, j * 7 + 6, none⟩ = some (.int .i64 s.remote) := fun u => (World.cell?_setCell_other _ _ _ _ (by simp)).trans s6
            have a53 : ∀ f u, (wc.setCell ⟨g4, f, none⟩ u).cell? ⟨wq.heap.size, 5, none⟩ = some (.int .i64 x.frm) := fun f u => (World.cell?_setCell_other _ _ _ _ (by simp [hne])).trans a5
            have a63 : ∀ f u, (wc.setCell ⟨g4, f, none⟩ u).cell? ⟨wq.heap.size, 6, none⟩ = some (.int .i64 x.at') := fun f u => (World.cell?_setCell_other _ _ _ _ (by simp [hne])).trans a6
            have HG4 : Hid (w.heap.size ≤ g4) := Lib.hid (HR4.out.lt g4 rfl).1
            have HBW : Hid (Below w.heap.size w wc) := Lib.hid (HB1.out.trans (HB3.out.mono (by have := HB1.out.size; simpa using this)))
            by_cases hre : x.frm = x.at'
            · have r1 : (x.frm != x.at') = false := by simpa using hre
              have HRE := Lib.hid hre
              clear hre
              by_cases hk1 : x.kind = 1
              · have k1 : (x.kind == 1) = true := by simpa using hk1
                have HK := Lib.hid hk1
                clear hk1
                go_wp2
                go_roundw
                case rel =>
                  refine ⟨k + 1, by omega, by go_num, ?_, ?_⟩
                  · rw [HS.out, HIN.out]
                    have hrw := (spot_set HR4.out HSS.out (by omega) (s' := { s with reads := s.reads + 1 }) (u := .int .i64 (s.reads + 1)) (f := 3) rfl)
                    have he : spotAdd s x = { s with reads := s.reads + 1 } := by simp only [spotAdd, HSP.out]; simp [HRE.out, HK.out]
                    rw [he, List.length_set]; exact hrw
                  · exact HBW.out.setCell (p := ⟨g4, _, none⟩) HG4.out _
                case measure => simp [intOf]; omega
              · have k1 : (x.kind == 1) = false := by simpa using hk1
                by_cases hk2 : x.kind = 2
                · have k2 : (x.kind == 2) = true := by simpa using hk2
                  have HK := Lib.hid hk2
                  clear hk1 hk2
                  go_wp2
                  go_roundw
                  case rel =>
                    refine ⟨k + 1, by omega, by go_num, ?_, ?_⟩
                    · rw [HS.out, HIN.out]
                      have hrw := (spot_set HR4.out HSS.out (by omega) (s' := { s with writes := s.writes + 1 }) (u := .int .i64 (s.writes + 1)) (f := 4) rfl)
                      have he : spotAdd s x = { s with writes := s.writes + 1 } := by simp only [spotAdd, HSP.out]; simp [HRE.out, HK.out]
                      rw [he, List.length_set]; exact hrw
                    · exact HBW.out.setCell (p := ⟨g4, _, none⟩) HG4.out _
                  case measure => simp [intOf]; omega
                · have k2 : (x.kind == 2) = false := by simpa using hk2
                  have HK := Lib.hid (And.intro hk1 hk2)
                  clear hk1 hk2
                  go_wp2
                  go_roundw
                  case rel =>
                    refine ⟨k + 1, by omega, by go_num, ?_, ?_⟩
                    · rw [HS.out, HIN.out]
                      have hrw := (spot_set HR4.out HSS.out (by omega) (s' := { s with other := s.other + 1 }) (u := .int .i64 (s.other + 1)) (f := 5) rfl)
                      have he : spotAdd s x = { s with other := s.other + 1 } := by simp only [spotAdd, HSP.out]; simp [HRE.out, HK.out.1, HK.out.2]
                      rw [he, List.length_set]; exact hrw
                    · exact HBW.out.setCell (p := ⟨g4, _, none⟩) HG4.out _
                  case measure => simp [intOf]; omega
            · have r1 : (x.frm != x.at') = true := by simpa using hre
              have HRE := Lib.hid hre
              clear hre
              by_cases hk1 : x.kind = 1
              · have k1 : (x.kind == 1) = true := by simpa using hk1
                have HK := Lib.hid hk1
                clear hk1
                go_wp2
                go_roundw
                case rel =>
                  refine ⟨k + 1, by omega, by go_num, ?_, ?_⟩
                  · rw [HS.out, HIN.out]
                    have hrw := spot_set (s := { s with reads := s.reads + 1 }) (spot_set HR4.out HSS.out (by omega) (s' := { s with reads := s.reads + 1 }) (u := .int .i64 (s.reads + 1)) (f := 3) rfl) (List.getElem?_set_self hjl) (by omega) (s' := { { s with reads := s.reads + 1 } with remote := s.remote + 1 }) (u := .int .i64 (s.remote + 1)) (f := 6) rfl
                    rw [List.set_set] at hrw
                    have he : spotAdd s x = { s with reads := s.reads + 1, remote := s.remote + 1 } := by simp only [spotAdd, HSP.out]; simp [HRE.out, HK.out]
                    rw [he, List.length_set]; exact hrw
                  · exact (HBW.out.setCell (p := ⟨g4, _, none⟩) HG4.out _).setCell (p := ⟨g4, _, none⟩) HG4.out _
                case measure => simp [intOf]; omega
              · have k1 : (x.kind == 1) = false := by simpa using hk1
                by_cases hk2 : x.kind = 2
                · have k2 : (x.kind == 2) = true := by simpa using hk2
                  have HK := Lib.hid hk2
                  clear hk1 hk2
                  go_wp2
                  go_roundw
                  case rel =>
                    refine ⟨k + 1, by omega, by go_num, ?_, ?_⟩
                    · rw [HS.out, HIN.out]
                      have hrw := spot_set (s := { s with writes := s.writes + 1 }) (spot_set HR4.out HSS.out (by omega) (s' := { s with writes := s.writes + 1 }) (u := .int .i64 (s.writes + 1)) (f := 4) rfl) (List.getElem?_set_self hjl) (by omega) (s' := { { s with writes := s.writes + 1 } with remote := s.remote + 1 }) (u := .int .i64 (s.remote + 1)) (f := 6) rfl
                      rw [List.set_set] at hrw
                      have he : spotAdd s x = { s with writes := s.writes + 1, remote := s.remote + 1 } := by simp only [spotAdd, HSP.out]; simp [HRE.out, HK.out]
                      rw [he, List.length_set]; exact hrw
                    · exact (HBW.out.setCell (p := ⟨g4, _, none⟩) HG4.out _).setCell (p := ⟨g4, _, none⟩) HG4.out _
                  case measure => simp [intOf]; omega
                · have k2 : (x.kind == 2) = false := by simpa using hk2
                  have HK := Lib.hid (And.intro hk1 hk2)
                  clear hk1 hk2
                  go_wp2
                  go_roundw
                  case rel =>
                    refine ⟨k + 1, by omega, by go_num, ?_, ?_⟩
                    · rw [HS.out, HIN.out]
                      have hrw := spot_set (s := { s with other := s.other + 1 }) (spot_set HR4.out HSS.out (by omega) (s' := { s with other := s.other + 1 }) (u := .int .i64 (s.other + 1)) (f := 5) rfl) (List.getElem?_set_self hjl) (by omega) (s' := { { s with other := s.other + 1 } with remote := s.remote + 1 }) (u := .int .i64 (s.remote + 1)) (f := 6) rfl
                      rw [List.set_set] at hrw
                      have he : spotAdd s x = { s with other := s.other + 1, remote := s.remote + 1 } := by simp only [spotAdd, HSP.out]; simp [HRE.out, HK.out.1, HK.out.2]
                      rw [he, List.length_set]; exact hrw
                    · exact (HBW.out.setCell (p := ⟨g4, _, none⟩) HG4.out _).setCell (p := ⟨g4, _, none⟩) HG4.out _
                  case measure => simp [intOf]; omega
    · obtain rfl : k = n := by omega
      have hxs : xs.take k = xs := by rw [HN.out]; exact List.take_length
      rw [hxs] at hrow
      obtain ⟨A3, c3', rfl, _, _, _⟩ := own_slice hrow
      have HROW := Lib.hid hrow
      clear hrow hxs
      go_wp2
      go_ret
      exact ⟨_, rfl, HROW.out, hbw⟩
end Go.Proofs.Ytghjhlenkgkelaa
