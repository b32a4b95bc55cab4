/- DERIVED. The program's token at a place: words. -/
import Derived.Test.YtdloadeidijcoaaGreatDoorPWhite
import Derived.Test.YtdloadeidijcoaaGreatDoorPQuo
import Derived.Test.YtdloadeidijcoaaGreatDoorPVal
import Derived.Test.YtdloadeidijcoaaGreatDoorROneA
set_option linter.unusedSimpArgs false
set_option linter.unusedVariables false
namespace Go.Proofs.YtdloadeidijcoaaGreatDoor
open Go.RowKit Go.Shelf Go.Sort

abbrev PT : TypeId := 30
theorem ptok_zero (w : World) : BlkAt (w.alloc (.cells #[.int .i64 0, .string ⟨#[]⟩, .int .i64 0, .int .i64 0] PT)) w.heap.size PT #[.int .i64 0, .string ⟨#[]⟩, .int .i64 0, .int .i64 0] := BlkAt.new _ _ _
/-- how one leaves the scanner -/
def OneEnd (t : List UInt8) (X k : Nat) (w w' : World) (e : Ending) : One → Prop
  | .tok x r => e = .returned (encT x) ∧ ScAt w' X t ((t.length - r.length : Nat) : Int) 0 ∧ w.grownBy w' (some X)
  | .bad er => e = .returned (.agg #[.int .i64 0, .string ⟨#[]⟩, .int .i64 0, .int .i64 0]) ∧ ScAt w' X t k er ∧ w.grownBy w' (some X)
theorem stored {w W : World} {X : Nat} {t : List UInt8} {k e : Int} (a b c d : Value) (hS : ScAt W X t k e) (hX : X < w.heap.size) (hG : w.grownBy W (some X)) :
    ScAt ((((W.setCell ⟨w.heap.size, 0, none⟩ a).setCell ⟨w.heap.size, 1, none⟩ b).setCell ⟨w.heap.size, 2, none⟩ c).setCell ⟨w.heap.size, 3, none⟩ d) X t k e ∧
      w.grownBy ((((W.setCell ⟨w.heap.size, 0, none⟩ a).setCell ⟨w.heap.size, 1, none⟩ b).setCell ⟨w.heap.size, 2, none⟩ c).setCell ⟨w.heap.size, 3, none⟩ d) (some X) := by
  have hne : X ≠ w.heap.size := by omega
  have hgr : ∀ (V : World) (i : Nat) (v : Value), w.grownBy V (some X) → w.grownBy (V.setCell ⟨w.heap.size, i, none⟩ v) (some X) := fun V i v h =>
    World.grownBy.andThen h (setCell_grown V w.heap.size i v) (fun j e => by cases e; exact .inl (Nat.le_refl _))
  exact ⟨BlkAt.far (BlkAt.far (BlkAt.far (BlkAt.far hS hne _) hne _) hne _) hne _, hgr _ _ _ (hgr _ _ _ (hgr _ _ _ (hgr _ _ _ hG)))⟩
theorem tok_kept {w W W' : World} {X : Nat} {cs : Array Value} (h : BlkAt W w.heap.size PT cs) (hg : W.grownBy W' (some X)) (hX : X < w.heap.size) : BlkAt W' w.heap.size PT cs := h.kept hg (fun e => by cases e; omega)
theorem keys_at (w : World) (hV : Vars w) : Calls Tryz.prog 20 #[] w fun e w' => ∃ b, e = .returned (.slice (some ⟨b, 0, none⟩) 52 52) ∧ Strs w' (some ⟨b, 0, none⟩) 52 keyL ∧ Below w.heap.size w w' :=
  (keys_any w hV).mono fun e w' h => ⟨_, h⟩
set_option maxRecDepth 100000 in
set_option maxHeartbeats 8000000 in
theorem pone_word (X k : Nat) (t : List UInt8) (c : UInt8) (w : World) (ht : t.length ≤ 1000000) (hc : t[k]? = some c) (hl : letB c = true) (hV : Vars w) (hX : Off X) (h : ScAt w X t k 0) :
    Calls Tryz.prog 48 #[pX X] w fun e w' => OneEnd t X k w w' e (oneL k (t.drop k)) := by
  have hk : k < t.length := (List.getElem?_eq_some_iff.1 hc).1
  have HO : Hid (oneL k (t.drop k) = (if 40 < ((t.drop k).takeWhile wordB).length then .bad 114 else if ((t.drop k).takeWhile wordB) ∈ keyL then .tok ⟨2, (t.drop k).takeWhile wordB, 0, k⟩ ((t.drop k).dropWhile wordB) else .tok ⟨1, (t.drop k).takeWhile wordB, 0, k⟩ ((t.drop k).dropWhile wordB))) := Lib.hid (by
    have e := drop_cons hc
    rw [e]
    unfold oneL
    simp only [hl, if_true])
  obtain ⟨O, hO⟩ : ∃ O, oneL k (t.drop k) = O := ⟨_, rfl⟩
  rw [hO] at HO ⊢
  clear hO
  have hls := fun W => letter_any c W
  rw [hl] at hls
  have hqi := idx_str (t.drop k) 0 c (by rw [List.getElem?_drop]; simpa using hc)
  have hql : 0 < (t.drop k).length := by rw [List.length_drop]; omega
  have hsp := fun W => span_word (t.drop k) W (by rw [List.length_drop]; omega)
  have hext : (⟨(t.drop k).toArray⟩ : ByteArray).extract 0 ((t.drop k).takeWhile wordB).length = ⟨((t.drop k).takeWhile wordB).toArray⟩ := by
    rw [ext_str]
    simp only [List.drop_zero, Nat.sub_zero]
    congr 2
    conv => lhs; arg 2; rw [← List.takeWhile_append_dropWhile (p := wordB) (l := t.drop k)]
    exact List.take_left
  have HLL : Hid (((t.drop k).takeWhile wordB).length ≤ (t.drop k).length ∧ ((t.drop k).dropWhile wordB).length = (t.drop k).length - ((t.drop k).takeWhile wordB).length) := Lib.hid ⟨(List.takeWhile_prefix _).length_le, by rw [← drop_tw, List.length_drop]⟩
  have hql2 : (t.drop k).length = t.length - k := List.length_drop
  have HQL2 := Lib.hid hql2
  clear hc hql2
  unfold strV u8V at *
  have HT0 := Lib.hid (ptok_zero w)
  have HS0 := Lib.hid (h.below ((Below.refl w.heap.size w).alloc (Nat.le_refl _) (.cells #[.int .i64 0, .string ⟨#[]⟩, .int .i64 0, .int .i64 0] PT)))
  have HG0 := Lib.hid (grown_below (grown_refl w (some X)) ((Below.refl w.heap.size w).alloc (Nat.le_refl _) (.cells #[.int .i64 0, .string ⟨#[]⟩, .int .i64 0, .int .i64 0] PT)))
  have HXL := Lib.hid h.lt
  have HV0 := Lib.hid (hV.below ((Below.refl w.heap.size w).alloc (Nat.le_refl _) (.cells #[.int .i64 0, .string ⟨#[]⟩, .int .i64 0, .int .i64 0] PT)))
  have HX := Lib.hid hX
  have HF : Hid (∀ (er : Int) (j : Int) (W : World), ScAt W X t j 0 → Calls Tryz.prog 66 #[.pointer (some ⟨X, 0, none⟩), .int .i64 k, .int .i64 er] W fun e w' => e = .returned (.tuple #[]) ∧ ScAt w' X t k er ∧ W.grownBy w' (some X)) := Lib.hid (fun er j W h => fail_any X t j 0 k er W h)
  clear h hV hX
  unfold pX at *
  go_enter Tryz.func48, Tryz.ntmps48
  go_wp2_with fail
  generalize hW1 : (w.alloc (.cells #[.int .i64 0, .string ⟨#[]⟩, .int .i64 0, .int .i64 0] PT)) = W1 at *
  clear hW1
  have hre : ∀ d os, Calls Tryz.prog 61 #[.pointer (some ⟨X, 0, none⟩)] (grow (redrawn W1 d) os) fun e w' => e = .returned (.string ⟨(t.drop k).toArray⟩) ∧ Below (grow (redrawn W1 d) os).heap.size (grow (redrawn W1 d) os) w' := fun d os => rest_any X t k 0 _ ht (Nat.le_of_lt hk) (HS0.out.below (below_regrown W1 d os))
  have hcr := cell_regrown HS0.out.c1
  refine wp_region_quiet_below (by kernel_rfl) (by kernel_rfl) ?_
  repeat (any_goals (first | go_big_quiet_step ((go_at_call 61; exact Calls.regrown_of (hre _ _))) | quiet_step ((go_at_call 61; exact Calls.regrown_of (hre _ _))) | (refine wpQuiet_step (fun K hK => ?_); go_simp; split <;> (refine hK _ ?_; clear hK K))))
  all_goals (refine wpQuiet_nil ?_; intro _ hw'; obtain ⟨⟨dq, osq⟩, hw''⟩ := hw'; subst hw'')
  have HT2 := Lib.hid (HT0.out.below (below_regrown W1 dq osq) HT0.out.lt)
  have HS2 := Lib.hid (HS0.out.below (below_regrown W1 dq osq))
  have HG2 := Lib.hid (grown_below HG0.out (below_regrown W1 dq osq))
  have HV2 := Lib.hid (HV0.out.below (below_regrown W1 dq osq))
  clear hcr hre HT0 HS0 HG0 HV0
  generalize grow (redrawn W1 dq) osq = W2 at *
  clear W1
  generalize t.drop k = q at *
  generalize hS : q.takeWhile wordB = S at *
  generalize hD : q.dropWhile wordB = D at *
  clear hS hD
  have hSq : S.length ≤ q.length := HLL.out.1
  have hkS : k + S.length ≤ t.length := by have := HQL2.out; omega
  by_cases h40 : 40 < S.length
  · rw [if_pos h40] at HO
    have f40 : decide ((40 : Int) < (S.length : Int)) = true := decide_eq_true (by omega)
    clear h40
    go_wp2_with (first
      | (go_at_call 50; refine (hls _).mono ?_; rintro e w' ⟨rfl, rfl⟩; clear hls)
      | (go_at_call 37; refine (hsp _).mono ?_; rintro e w' ⟨rfl, rfl⟩; clear hsp)
      | (go_at_call 66
         refine (HF.out 114 k _ HS2.out).mono ?_
         rintro e w5 ⟨rfl, hs5, hg5⟩
         have HS5 := Lib.hid hs5
         have HG5 := Lib.hid (grown_trans HG2.out hg5)
         have HT5 := Lib.hid (tok_kept HT2.out hg5 HXL.out)
         clear hs5 hg5
         have hr0 := HT5.out.cell 0
         have hr1 := HT5.out.cell 1
         have hr2 := HT5.out.cell 2
         have hr3 := HT5.out.cell 3
         have hf0 := HT5.out.frozen 0
         have hf1 := HT5.out.frozen 1
         have hf2 := HT5.out.frozen 2
         have hf3 := HT5.out.frozen 3
         simp only [List.getElem?_toArray, List.getElem?_cons_succ, List.getElem?_cons_zero] at hr0 hr1 hr2 hr3
         skip))
    have B3 := (((HT5.out.set 0 (.int .i64 0)).set 1 (.string ⟨#[]⟩)).set 2 (.int .i64 0)).set 3 (.int .i64 0)
    have q0 := B3.cell 0
    have q1 := B3.cell 1
    have q2 := B3.cell 2
    have q3 := B3.cell 3
    simp only [List.setIfInBounds_toArray, List.set_cons_zero, List.set_cons_succ, List.getElem?_toArray, List.getElem?_cons_succ, List.getElem?_cons_zero] at q0 q1 q2 q3
    refine bodyPost_ret (v := .agg #[.int .i64 0, .string ⟨#[]⟩, .int .i64 0, .int .i64 0]) (by simp [results, Tryz.results48, go_sem, q0, q1, q2, q3]) rfl ?_
    rw [HO.out]
    have := stored (w := w) (.int .i64 0) (.string ⟨#[]⟩) (.int .i64 0) (.int .i64 0) HS5.out HXL.out HG5.out
    exact ⟨rfl, this.1, this.2⟩
  · rw [if_neg h40] at HO
    have f40 : decide ((40 : Int) < (S.length : Int)) = false := decide_eq_false (by omega)
    clear h40
    have hwr : IntKind.i64.wrap ((k : Int) + (S.length : Int)) = (k : Int) + (S.length : Int) := IntWalk.i64_in _ (by omega)
    have HJ : Hid ((k : Int) + (S.length : Int) = ((t.length - D.length : Nat) : Int)) := Lib.hid (by have := HLL.out.2; have := HQL2.out; omega)
    have HS3 := Lib.hid (HS2.out.set1 ((k : Int) + (S.length : Int)))
    have HV3 := Lib.hid (HV2.out.grown (setCell_grown W2 X 1 (.int .i64 ((k : Int) + (S.length : Int)))) (fun X' e => by cases e; exact HX.out))
    have HG3 := Lib.hid (grown_set HG2.out 1 (.int .i64 ((k : Int) + (S.length : Int))))
    have HT3 := Lib.hid (tok_kept HT2.out (setCell_grown W2 X 1 (.int .i64 ((k : Int) + (S.length : Int)))) HXL.out)
    have hc1 := HS2.out.c1
    have hf1 := HS2.out.fr 1
    by_cases hk2 : S ∈ keyL
    · rw [if_pos hk2] at HO
      have HK2 : Hid (decide (S ∈ keyL) = true) := Lib.hid (decide_eq_true hk2)
      clear hk2
      go_wp2_with (first
        | (go_at_call 50; refine (hls _).mono ?_; rintro e w' ⟨rfl, rfl⟩; clear hls)
        | (go_at_call 37; refine (hsp _).mono ?_; rintro e w' ⟨rfl, rfl⟩; clear hsp)
        | (go_at_call 20
           refine (keys_at _ HV3.out).mono ?_
           rintro e w5 ⟨b, rfl, hs5, hb5⟩
           have HST := Lib.hid hs5
           have HS5 := Lib.hid (HS3.out.below hb5)
           have HG5 := Lib.hid (grown_below HG3.out hb5)
           have HT5 := Lib.hid (HT3.out.below hb5 HT3.out.lt)
           clear hs5 hb5 hc1 hf1)
        | (go_at_call 19
           refine (contains_any b 0 52 52 keyL S w5 HST.out (by omega)).mono ?_
           rw [HK2.out]
           rintro e w' ⟨rfl, rfl⟩
           have hr0 := HT5.out.cell 0
           have hr1 := HT5.out.cell 1
           have hr2 := HT5.out.cell 2
           have hr3 := HT5.out.cell 3
           have hf0 := HT5.out.frozen 0
           have hf1 := HT5.out.frozen 1
           have hf2 := HT5.out.frozen 2
           have hf3 := HT5.out.frozen 3
           simp only [List.getElem?_toArray, List.getElem?_cons_succ, List.getElem?_cons_zero] at hr0 hr1 hr2 hr3
           skip))
      have B3 := (((HT5.out.set 0 (.int .i64 2)).set 1 (.string ⟨List.toArray S⟩)).set 2 (.int .i64 0)).set 3 (.int .i64 k)
      have q0 := B3.cell 0
      have q1 := B3.cell 1
      have q2 := B3.cell 2
      have q3 := B3.cell 3
      simp only [List.setIfInBounds_toArray, List.set_cons_zero, List.set_cons_succ, List.getElem?_toArray, List.getElem?_cons_succ, List.getElem?_cons_zero] at q0 q1 q2 q3
      refine bodyPost_ret (v := .agg #[.int .i64 2, .string ⟨List.toArray S⟩, .int .i64 0, .int .i64 k]) (by simp [results, Tryz.results48, go_sem, q0, q1, q2, q3]) rfl ?_
      rw [HO.out]
      have := stored (w := w) (.int .i64 2) (.string ⟨S.toArray⟩) (.int .i64 0) (.int .i64 k) HS5.out HXL.out HG5.out
      exact ⟨rfl, by rw [← HJ.out]; exact this.1, this.2⟩
    · rw [if_neg hk2] at HO
      have HK2 : Hid (decide (S ∈ keyL) = false) := Lib.hid (decide_eq_false hk2)
      clear hk2
      go_wp2_with (first
        | (go_at_call 50; refine (hls _).mono ?_; rintro e w' ⟨rfl, rfl⟩; clear hls)
        | (go_at_call 37; refine (hsp _).mono ?_; rintro e w' ⟨rfl, rfl⟩; clear hsp)
        | (go_at_call 20
           refine (keys_at _ HV3.out).mono ?_
           rintro e w5 ⟨b, rfl, hs5, hb5⟩
           have HST := Lib.hid hs5
           have HS5 := Lib.hid (HS3.out.below hb5)
           have HG5 := Lib.hid (grown_below HG3.out hb5)
           have HT5 := Lib.hid (HT3.out.below hb5 HT3.out.lt)
           clear hs5 hb5 hc1 hf1)
        | (go_at_call 19
           refine (contains_any b 0 52 52 keyL S w5 HST.out (by omega)).mono ?_
           rw [HK2.out]
           rintro e w' ⟨rfl, rfl⟩
           have hr0 := HT5.out.cell 0
           have hr1 := HT5.out.cell 1
           have hr2 := HT5.out.cell 2
           have hr3 := HT5.out.cell 3
           have hf0 := HT5.out.frozen 0
           have hf1 := HT5.out.frozen 1
           have hf2 := HT5.out.frozen 2
           have hf3 := HT5.out.frozen 3
           simp only [List.getElem?_toArray, List.getElem?_cons_succ, List.getElem?_cons_zero] at hr0 hr1 hr2 hr3
           skip))
      have B3 := (((HT5.out.set 0 (.int .i64 1)).set 1 (.string ⟨List.toArray S⟩)).set 2 (.int .i64 0)).set 3 (.int .i64 k)
      have q0 := B3.cell 0
      have q1 := B3.cell 1
      have q2 := B3.cell 2
      have q3 := B3.cell 3
      simp only [List.setIfInBounds_toArray, List.set_cons_zero, List.set_cons_succ, List.getElem?_toArray, List.getElem?_cons_succ, List.getElem?_cons_zero] at q0 q1 q2 q3
      refine bodyPost_ret (v := .agg #[.int .i64 1, .string ⟨List.toArray S⟩, .int .i64 0, .int .i64 k]) (by simp [results, Tryz.results48, go_sem, q0, q1, q2, q3]) rfl ?_
      rw [HO.out]
      have := stored (w := w) (.int .i64 1) (.string ⟨S.toArray⟩) (.int .i64 0) (.int .i64 k) HS5.out HXL.out HG5.out
      exact ⟨rfl, by rw [← HJ.out]; exact this.1, this.2⟩
end Go.Proofs.YtdloadeidijcoaaGreatDoor
