/- DERIVED. The program's token at a place: numbers, strings. -/
import Derived.Test.YtdloadeidijcoaaGreatDoorPOne
import Derived.Test.YtdloadeidijcoaaGreatDoorROneA
set_option linter.unusedSimpArgs false
set_option linter.unusedVariables false
namespace Go.Proofs.YtdloadeidijcoaaGreatDoor
open Go.RowKit Go.Shelf Go.Sort

set_option maxRecDepth 100000 in
set_option maxHeartbeats 8000000 in
theorem pone_num (X k : Nat) (t : List UInt8) (c : UInt8) (w : World) (ht : t.length ≤ 1000000) (hc : t[k]? = some c) (hl : letB c = false) (hd : digB c = true) (hV : Vars w) (hX : Off X) (h : ScAt w X t k 0) :
    Calls Tryz.prog 48 #[pX X] w fun e w' => OneEnd t X k w w' e (oneL k (t.drop k)) := by
  have hk : k < t.length := (List.getElem?_eq_some_iff.1 hc).1
  have HO : Hid (oneL k (t.drop k) = (match numL ((t.drop k).takeWhile wordB) with | none => .bad 113 | some n => .tok ⟨3, (t.drop k).takeWhile wordB, n, k⟩ ((t.drop k).dropWhile wordB))) := Lib.hid (by
    have e := drop_cons hc
    rw [e]
    exact one_digit hd)
  obtain ⟨O, hO⟩ : ∃ O, oneL k (t.drop k) = O := ⟨_, rfl⟩
  rw [hO] at HO ⊢
  clear hO
  have hls := fun W => letter_any c W
  rw [hl] at hls
  have hds := fun W => digit_any c W
  rw [hd] at hds
  have hqi := idx_str (t.drop k) 0 c (by rw [List.getElem?_drop]; simpa using hc)
  have hql : 0 < (t.drop k).length := by rw [List.length_drop]; omega
  have hsp := fun W => span_word (t.drop k) W (by rw [List.length_drop]; omega)
  have hext : (⟨(t.drop k).toArray⟩ : ByteArray).extract 0 ((t.drop k).takeWhile wordB).length = ⟨((t.drop k).takeWhile wordB).toArray⟩ := by
    rw [ext_str]
    simp only [List.drop_zero, Nat.sub_zero]
    congr 2
    conv => lhs; arg 2; rw [← List.takeWhile_append_dropWhile (p := wordB) (l := t.drop k)]
    exact List.take_left
  have HLL : Hid (((t.drop k).takeWhile wordB).length ≤ (t.drop k).length ∧ ((t.drop k).dropWhile wordB).length = (t.drop k).length - ((t.drop k).takeWhile wordB).length) := Lib.hid ⟨(List.takeWhile_prefix _).length_le, by rw [← drop_tw, List.length_drop]⟩
  have hql2 : (t.drop k).length = t.length - k := List.length_drop
  have HQL2 := Lib.hid hql2
  clear hc hql2 hd hl
  unfold strV u8V at *
  have HT0 := Lib.hid (ptok_zero w)
  have HS0 := Lib.hid (h.below ((Below.refl w.heap.size w).alloc (Nat.le_refl _) (.cells #[.int .i64 0, .string ⟨#[]⟩, .int .i64 0, .int .i64 0] PT)))
  have HG0 := Lib.hid (grown_below (grown_refl w (some X)) ((Below.refl w.heap.size w).alloc (Nat.le_refl _) (.cells #[.int .i64 0, .string ⟨#[]⟩, .int .i64 0, .int .i64 0] PT)))
  have HXL := Lib.hid h.lt
  have HV0 := Lib.hid (hV.below ((Below.refl w.heap.size w).alloc (Nat.le_refl _) (.cells #[.int .i64 0, .string ⟨#[]⟩, .int .i64 0, .int .i64 0] PT)))
  have HX := Lib.hid hX
  have HF : Hid (∀ (er : Int) (j : Int) (W : World), ScAt W X t j 0 → Calls Tryz.prog 66 #[.pointer (some ⟨X, 0, none⟩), .int .i64 k, .int .i64 er] W fun e w' => e = .returned (.tuple #[]) ∧ ScAt w' X t k er ∧ W.grownBy w' (some X)) := Lib.hid (fun er j W h => fail_any X t j 0 k er W h)
  clear h hV hX
  unfold pX at *
  go_enter Tryz.func48, Tryz.ntmps48
  go_wp2_with fail
  generalize hW1 : (w.alloc (.cells #[.int .i64 0, .string ⟨#[]⟩, .int .i64 0, .int .i64 0] PT)) = W1 at *
  clear hW1
  have hre : ∀ d os, Calls Tryz.prog 61 #[.pointer (some ⟨X, 0, none⟩)] (grow (redrawn W1 d) os) fun e w' => e = .returned (.string ⟨(t.drop k).toArray⟩) ∧ Below (grow (redrawn W1 d) os).heap.size (grow (redrawn W1 d) os) w' := fun d os => rest_any X t k 0 _ ht (Nat.le_of_lt hk) (HS0.out.below (below_regrown W1 d os))
  have hcr := cell_regrown HS0.out.c1
  refine wp_region_quiet_below (by kernel_rfl) (by kernel_rfl) ?_
  repeat (any_goals (first | go_big_quiet_step ((go_at_call 61; exact Calls.regrown_of (hre _ _))) | quiet_step ((go_at_call 61; exact Calls.regrown_of (hre _ _))) | (refine wpQuiet_step (fun K hK => ?_); go_simp; split <;> (refine hK _ ?_; clear hK K))))
  all_goals (refine wpQuiet_nil ?_; intro _ hw'; obtain ⟨⟨dq, osq⟩, hw''⟩ := hw'; subst hw'')
  have HT2 := Lib.hid (HT0.out.below (below_regrown W1 dq osq) HT0.out.lt)
  have HS2 := Lib.hid (HS0.out.below (below_regrown W1 dq osq))
  have HG2 := Lib.hid (grown_below HG0.out (below_regrown W1 dq osq))
  have HV2 := Lib.hid (HV0.out.below (below_regrown W1 dq osq))
  clear hcr hre HT0 HS0 HG0 HV0
  generalize grow (redrawn W1 dq) osq = W2 at *
  clear W1
  generalize t.drop k = q at *
  generalize hS : q.takeWhile wordB = S at *
  generalize hD : q.dropWhile wordB = D at *
  clear hS hD
  have hSq : S.length ≤ q.length := HLL.out.1
  have hkS : k + S.length ≤ t.length := by have := HQL2.out; omega
  have hva := value_any S W2 (by omega) HV2.out
  unfold strV at hva
  have HNR : Hid (∀ e, NumRes S e → ∃ v, e = .returned (.tuple #[.int .i64 v, .bool (numL S).isSome]) ∧ ∀ n, numL S = some n → v = n) := Lib.hid (fun e h => h)
  cases hn : numL S with
  | none =>
    rw [hn] at HO HNR
    clear hn
    go_wp2_with (first
      | (go_at_call 50; refine (hls _).mono ?_; rintro e w' ⟨rfl, rfl⟩; clear hls)
      | (go_at_call 38; refine (hds _).mono ?_; rintro e w' ⟨rfl, rfl⟩; clear hds)
      | (go_at_call 37; refine (hsp _).mono ?_; rintro e w' ⟨rfl, rfl⟩; clear hsp)
      | (go_at_call 21
         refine hva.mono ?_
         rintro e w3 ⟨hr, hb3⟩
         obtain ⟨v, rfl, _⟩ := HNR.out e hr
         have HS3 := Lib.hid (HS2.out.below hb3)
         have HG3 := Lib.hid (grown_below HG2.out hb3)
         have HT3 := Lib.hid (HT2.out.below hb3 HT2.out.lt)
         clear hb3 hva hr)
      | (go_at_call 66
         refine (HF.out 113 k _ HS3.out).mono ?_
         rintro e w5 ⟨rfl, hs5, hg5⟩
         have HS5 := Lib.hid hs5
         have HG5 := Lib.hid (grown_trans HG3.out hg5)
         have HT5 := Lib.hid (tok_kept HT3.out hg5 HXL.out)
         clear hs5 hg5
         have hr0 := HT5.out.cell 0
         have hr1 := HT5.out.cell 1
         have hr2 := HT5.out.cell 2
         have hr3 := HT5.out.cell 3
         have hf0 := HT5.out.frozen 0
         have hf1 := HT5.out.frozen 1
         have hf2 := HT5.out.frozen 2
         have hf3 := HT5.out.frozen 3
         simp only [List.getElem?_toArray, List.getElem?_cons_succ, List.getElem?_cons_zero] at hr0 hr1 hr2 hr3
         skip))
    have B3 := (((HT5.out.set 0 (.int .i64 0)).set 1 (.string ⟨#[]⟩)).set 2 (.int .i64 0)).set 3 (.int .i64 0)
    have q0 := B3.cell 0
    have q1 := B3.cell 1
    have q2 := B3.cell 2
    have q3 := B3.cell 3
    simp only [List.setIfInBounds_toArray, List.set_cons_zero, List.set_cons_succ, List.getElem?_toArray, List.getElem?_cons_succ, List.getElem?_cons_zero] at q0 q1 q2 q3
    refine bodyPost_ret (v := .agg #[.int .i64 0, .string ⟨#[]⟩, .int .i64 0, .int .i64 0]) (by simp [results, Tryz.results48, go_sem, q0, q1, q2, q3]) rfl ?_
    rw [HO.out]
    have := stored (w := w) (.int .i64 0) (.string ⟨#[]⟩) (.int .i64 0) (.int .i64 0) HS5.out HXL.out HG5.out
    exact ⟨rfl, this.1, this.2⟩
  | some n =>
    rw [hn] at HO HNR
    clear hn
    have hwr : IntKind.i64.wrap ((k : Int) + (S.length : Int)) = (k : Int) + (S.length : Int) := IntWalk.i64_in _ (by omega)
    have HJ : Hid ((k : Int) + (S.length : Int) = ((t.length - D.length : Nat) : Int)) := Lib.hid (by have := HLL.out.2; have := HQL2.out; omega)
    go_wp2_with (first
      | (go_at_call 50; refine (hls _).mono ?_; rintro e w' ⟨rfl, rfl⟩; clear hls)
      | (go_at_call 38; refine (hds _).mono ?_; rintro e w' ⟨rfl, rfl⟩; clear hds)
      | (go_at_call 37; refine (hsp _).mono ?_; rintro e w' ⟨rfl, rfl⟩; clear hsp)
      | (go_at_call 21
         refine hva.mono ?_
         rintro e w3 ⟨hr, hb3⟩
         obtain ⟨v, rfl, hv⟩ := HNR.out e hr
         obtain rfl : v = n := hv n rfl
         have HS3 := Lib.hid (HS2.out.below hb3)
         have HG3 := Lib.hid (grown_below HG2.out hb3)
         have HT3 := Lib.hid (HT2.out.below hb3 HT2.out.lt)
         clear hb3 hva hr hv
         have hc1 := HS3.out.c1
         have hf1 := HS3.out.fr 1
         have HT5 := Lib.hid (tok_kept HT3.out (setCell_grown w3 X 1 (.int .i64 ((k : Int) + (S.length : Int)))) HXL.out)
         have HS5 := Lib.hid (HS3.out.set1 ((k : Int) + (S.length : Int)))
         have HG5 := Lib.hid (grown_set HG3.out 1 (.int .i64 ((k : Int) + (S.length : Int))))
         have hr0 := HT5.out.cell 0
         have hr1 := HT5.out.cell 1
         have hr2 := HT5.out.cell 2
         have hr3 := HT5.out.cell 3
         have hf0 := HT5.out.frozen 0
         have hf1 := HT5.out.frozen 1
         have hf2 := HT5.out.frozen 2
         have hf3 := HT5.out.frozen 3
         simp only [List.getElem?_toArray, List.getElem?_cons_succ, List.getElem?_cons_zero] at hr0 hr1 hr2 hr3
         skip))
    have B3 := (((HT5.out.set 0 (.int .i64 3)).set 1 (.string ⟨List.toArray S⟩)).set 2 (.int .i64 v)).set 3 (.int .i64 k)
    have q0 := B3.cell 0
    have q1 := B3.cell 1
    have q2 := B3.cell 2
    have q3 := B3.cell 3
    simp only [List.setIfInBounds_toArray, List.set_cons_zero, List.set_cons_succ, List.getElem?_toArray, List.getElem?_cons_succ, List.getElem?_cons_zero] at q0 q1 q2 q3
    refine bodyPost_ret (v := .agg #[.int .i64 3, .string ⟨List.toArray S⟩, .int .i64 v, .int .i64 k]) (by simp [results, Tryz.results48, go_sem, q0, q1, q2, q3]) rfl ?_
    rw [HO.out]
    have := stored (w := w) (.int .i64 3) (.string ⟨S.toArray⟩) (.int .i64 v) (.int .i64 k) HS5.out HXL.out HG5.out
    exact ⟨rfl, by rw [← HJ.out]; exact this.1, this.2⟩
set_option maxRecDepth 100000 in
set_option maxHeartbeats 8000000 in
theorem pone_str (X k : Nat) (t : List UInt8) (w : World) (ht : t.length ≤ 1000000) (hc : t[k]? = some 34) (hV : Vars w) (hX : Off X) (h : ScAt w X t k 0) :
    Calls Tryz.prog 48 #[pX X] w fun e w' => OneEnd t X k w w' e (oneL k (t.drop k)) := by
  have hk : k < t.length := (List.getElem?_eq_some_iff.1 hc).1
  have HO : Hid (oneL k (t.drop k) = (match quoL (t.drop (k + 1)) with | none => .bad 111 | some (s, r) => .tok ⟨4, s, 0, k⟩ r)) := Lib.hid (by rw [drop_cons hc]; exact one_quo)
  obtain ⟨O, hO⟩ : ∃ O, oneL k (t.drop k) = O := ⟨_, rfl⟩
  rw [hO] at HO ⊢
  clear hO
  have hls := fun W => letter_any 34 W
  have hds := fun W => digit_any 34 W
  rw [show letB 34 = false by decide] at hls
  rw [show digB 34 = false by decide] at hds
  have hqi := idx_str (t.drop k) 0 34 (by rw [List.getElem?_drop]; simpa using hc)
  have hql : 0 < (t.drop k).length := by rw [List.length_drop]; omega
  have hqu := fun W (hV' : Vars W) (h' : ScAt W X t k 0) => quoted_prog X t (t.drop (k + 1)) k W ht (drop_cons hc) hV' hX h'
  clear hc
  unfold strV u8V at *
  have HT0 := Lib.hid (ptok_zero w)
  have HS0 := Lib.hid (h.below ((Below.refl w.heap.size w).alloc (Nat.le_refl _) (.cells #[.int .i64 0, .string ⟨#[]⟩, .int .i64 0, .int .i64 0] PT)))
  have HG0 := Lib.hid (grown_below (grown_refl w (some X)) ((Below.refl w.heap.size w).alloc (Nat.le_refl _) (.cells #[.int .i64 0, .string ⟨#[]⟩, .int .i64 0, .int .i64 0] PT)))
  have HXL := Lib.hid h.lt
  have HV0 := Lib.hid (hV.below ((Below.refl w.heap.size w).alloc (Nat.le_refl _) (.cells #[.int .i64 0, .string ⟨#[]⟩, .int .i64 0, .int .i64 0] PT)))
  have HX := Lib.hid hX
  have HF : Hid (∀ (er : Int) (j : Int) (W : World), ScAt W X t j 0 → Calls Tryz.prog 66 #[.pointer (some ⟨X, 0, none⟩), .int .i64 k, .int .i64 er] W fun e w' => e = .returned (.tuple #[]) ∧ ScAt w' X t k er ∧ W.grownBy w' (some X)) := Lib.hid (fun er j W h => fail_any X t j 0 k er W h)
  clear h hV hX
  unfold pX at *
  go_enter Tryz.func48, Tryz.ntmps48
  go_wp2_with fail
  generalize hW1 : (w.alloc (.cells #[.int .i64 0, .string ⟨#[]⟩, .int .i64 0, .int .i64 0] PT)) = W1 at *
  clear hW1
  have hre : ∀ d os, Calls Tryz.prog 61 #[.pointer (some ⟨X, 0, none⟩)] (grow (redrawn W1 d) os) fun e w' => e = .returned (.string ⟨(t.drop k).toArray⟩) ∧ Below (grow (redrawn W1 d) os).heap.size (grow (redrawn W1 d) os) w' := fun d os => rest_any X t k 0 _ ht (Nat.le_of_lt hk) (HS0.out.below (below_regrown W1 d os))
  have hcr := cell_regrown HS0.out.c1
  refine wp_region_quiet_below (by kernel_rfl) (by kernel_rfl) ?_
  repeat (any_goals (first | go_big_quiet_step ((go_at_call 61; exact Calls.regrown_of (hre _ _))) | quiet_step ((go_at_call 61; exact Calls.regrown_of (hre _ _))) | (refine wpQuiet_step (fun K hK => ?_); go_simp; split <;> (refine hK _ ?_; clear hK K))))
  all_goals (refine wpQuiet_nil ?_; intro _ hw'; obtain ⟨⟨dq, osq⟩, hw''⟩ := hw'; subst hw'')
  have HT2 := Lib.hid (HT0.out.below (below_regrown W1 dq osq) HT0.out.lt)
  have HS2 := Lib.hid (HS0.out.below (below_regrown W1 dq osq))
  have HG2 := Lib.hid (grown_below HG0.out (below_regrown W1 dq osq))
  have HV2 := Lib.hid (HV0.out.below (below_regrown W1 dq osq))
  clear hcr hre HT0 HS0 HG0 HV0
  generalize grow (redrawn W1 dq) osq = W2 at *
  clear W1
  generalize t.drop k = q at *
  have hqu2 := hqu W2 HV2.out HS2.out
  clear hqu
  rcases hQ : quoL (t.drop (k + 1)) with _ | ⟨s, r⟩
  · rw [hQ] at HO hqu2
    simp only [QuoEnd] at hqu2
    clear hQ
    go_wp2_with (first
      | (go_at_call 50; refine (hls _).mono ?_; rintro e w' ⟨rfl, rfl⟩; clear hls)
      | (go_at_call 38; refine (hds _).mono ?_; rintro e w' ⟨rfl, rfl⟩; clear hds)
      | (go_at_call 67
         refine hqu2.mono ?_
         rintro e w3 ⟨rfl, ⟨j, hs3⟩, hg3⟩
         have HS3 := Lib.hid hs3
         have HG3 := Lib.hid (grown_trans HG2.out hg3)
         have HT3 := Lib.hid (tok_kept HT2.out hg3 HXL.out)
         clear hs3 hg3 hqu2)
      | (go_at_call 66
         refine (HF.out 111 j _ HS3.out).mono ?_
         rintro e w5 ⟨rfl, hs5, hg5⟩
         have HS5 := Lib.hid hs5
         have HG5 := Lib.hid (grown_trans HG3.out hg5)
         have HT5 := Lib.hid (tok_kept HT3.out hg5 HXL.out)
         clear hs5 hg5
         have hr0 := HT5.out.cell 0
         have hr1 := HT5.out.cell 1
         have hr2 := HT5.out.cell 2
         have hr3 := HT5.out.cell 3
         have hf0 := HT5.out.frozen 0
         have hf1 := HT5.out.frozen 1
         have hf2 := HT5.out.frozen 2
         have hf3 := HT5.out.frozen 3
         simp only [List.getElem?_toArray, List.getElem?_cons_succ, List.getElem?_cons_zero] at hr0 hr1 hr2 hr3
         skip))
    have B3 := (((HT5.out.set 0 (.int .i64 0)).set 1 (.string ⟨#[]⟩)).set 2 (.int .i64 0)).set 3 (.int .i64 0)
    have q0 := B3.cell 0
    have q1 := B3.cell 1
    have q2 := B3.cell 2
    have q3 := B3.cell 3
    simp only [List.setIfInBounds_toArray, List.set_cons_zero, List.set_cons_succ, List.getElem?_toArray, List.getElem?_cons_succ, List.getElem?_cons_zero] at q0 q1 q2 q3
    refine bodyPost_ret (v := .agg #[.int .i64 0, .string ⟨#[]⟩, .int .i64 0, .int .i64 0]) (by simp [results, Tryz.results48, go_sem, q0, q1, q2, q3]) rfl ?_
    rw [HO.out]
    have := stored (w := w) (.int .i64 0) (.string ⟨#[]⟩) (.int .i64 0) (.int .i64 0) HS5.out HXL.out HG5.out
    exact ⟨rfl, this.1, this.2⟩
  · rw [hQ] at HO hqu2
    simp only [QuoEnd] at hqu2
    clear hQ
    go_wp2_with (first
      | (go_at_call 50; refine (hls _).mono ?_; rintro e w' ⟨rfl, rfl⟩; clear hls)
      | (go_at_call 38; refine (hds _).mono ?_; rintro e w' ⟨rfl, rfl⟩; clear hds)
      | (go_at_call 67
         refine hqu2.mono ?_
         rintro e w3 ⟨rfl, hs3, hg3⟩
         have HS5 := Lib.hid hs3
         have HG5 := Lib.hid (grown_trans HG2.out hg3)
         have HT5 := Lib.hid (tok_kept HT2.out hg3 HXL.out)
         clear hs3 hg3 hqu2
         have hr0 := HT5.out.cell 0
         have hr1 := HT5.out.cell 1
         have hr2 := HT5.out.cell 2
         have hr3 := HT5.out.cell 3
         have hf0 := HT5.out.frozen 0
         have hf1 := HT5.out.frozen 1
         have hf2 := HT5.out.frozen 2
         have hf3 := HT5.out.frozen 3
         simp only [List.getElem?_toArray, List.getElem?_cons_succ, List.getElem?_cons_zero] at hr0 hr1 hr2 hr3
         skip))
    have B3 := (((HT5.out.set 0 (.int .i64 4)).set 1 (.string ⟨List.toArray s⟩)).set 2 (.int .i64 0)).set 3 (.int .i64 k)
    have q0 := B3.cell 0
    have q1 := B3.cell 1
    have q2 := B3.cell 2
    have q3 := B3.cell 3
    simp only [List.setIfInBounds_toArray, List.set_cons_zero, List.set_cons_succ, List.getElem?_toArray, List.getElem?_cons_succ, List.getElem?_cons_zero] at q0 q1 q2 q3
    refine bodyPost_ret (v := .agg #[.int .i64 4, .string ⟨List.toArray s⟩, .int .i64 0, .int .i64 k]) (by simp [results, Tryz.results48, go_sem, q0, q1, q2, q3]) rfl ?_
    rw [HO.out]
    have := stored (w := w) (.int .i64 4) (.string ⟨s.toArray⟩) (.int .i64 0) (.int .i64 k) HS5.out HXL.out HG5.out
    exact ⟨rfl, this.1, this.2⟩
end Go.Proofs.YtdloadeidijcoaaGreatDoor
