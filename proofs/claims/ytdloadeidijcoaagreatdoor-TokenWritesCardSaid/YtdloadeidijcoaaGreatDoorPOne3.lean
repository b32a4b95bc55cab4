/- DERIVED. The program's token at a place: signs; all in one word. -/
import Derived.Test.YtdloadeidijcoaaGreatDoorPOne2
set_option linter.unusedSimpArgs false
set_option linter.unusedVariables false
namespace Go.Proofs.YtdloadeidijcoaaGreatDoor
open Go.RowKit Go.Shelf Go.Sort

theorem signs_at (w : World) (hV : Vars w) : Calls Tryz.prog 22 #[] w fun e w' => ∃ b, e = .returned (.slice (some ⟨b, 0, none⟩) 31 31) ∧ Strs w' (some ⟨b, 0, none⟩) 31 signL ∧ Below w.heap.size w w' :=
  (signs_any w hV).mono fun e w' h => ⟨_, h⟩
set_option maxRecDepth 100000 in
set_option maxHeartbeats 8000000 in
theorem pone_sign (X k : Nat) (t : List UInt8) (c : UInt8) (w : World) (ht : t.length ≤ 1000000) (hc : t[k]? = some c) (h1 : letB c = false) (h2 : digB c = false) (h3 : c ≠ 34) (hV : Vars w) (hX : Off X) (h : ScAt w X t k 0) :
    Calls Tryz.prog 48 #[pX X] w fun e w' => OneEnd t X k w w' e (oneL k (t.drop k)) := by
  have hk : k < t.length := (List.getElem?_eq_some_iff.1 hc).1
  have HO : Hid (oneL k (t.drop k) = (match signL.find? (fun w => w.isPrefixOf (t.drop k)) with | some w => .tok ⟨5, w, 0, k⟩ ((t.drop k).drop w.length) | none => .bad 110)) := Lib.hid (by
    have := one_sig (i := k) (q := t.drop (k + 1)) h1 h2 h3
    rw [← drop_cons hc] at this; exact this)
  obtain ⟨O, hO⟩ : ∃ O, oneL k (t.drop k) = O := ⟨_, rfl⟩
  rw [hO] at HO ⊢
  clear hO
  have hls := fun W => letter_any c W
  rw [h1] at hls
  have hds := fun W => digit_any c W
  rw [h2] at hds
  have f34 : ((c.toNat : Int) == 34) = false := u8_ne h3
  have hqi := idx_str (t.drop k) 0 c (by rw [List.getElem?_drop]; simpa using hc)
  have hql : 0 < (t.drop k).length := by rw [List.length_drop]; omega
  have HP : Hid (∀ (p : List UInt8) (W : World), Calls Tryz.prog 63 #[.string ⟨(t.drop k).toArray⟩, .string ⟨p.toArray⟩] W fun e w' => e = .returned (.bool (p.isPrefixOf (t.drop k))) ∧ W = w') := Lib.hid (fun p W => hp_any (t.drop k) p W)
  have hql2 : (t.drop k).length = t.length - k := List.length_drop
  have HQL2 := Lib.hid hql2
  clear hc hql2 h1 h2 h3
  unfold strV u8V at *
  have HT0 := Lib.hid (ptok_zero w)
  have HS0 := Lib.hid (h.below ((Below.refl w.heap.size w).alloc (Nat.le_refl _) (.cells #[.int .i64 0, .string ⟨#[]⟩, .int .i64 0, .int .i64 0] PT)))
  have HG0 := Lib.hid (grown_below (grown_refl w (some X)) ((Below.refl w.heap.size w).alloc (Nat.le_refl _) (.cells #[.int .i64 0, .string ⟨#[]⟩, .int .i64 0, .int .i64 0] PT)))
  have HXL := Lib.hid h.lt
  have HV0 := Lib.hid (hV.below ((Below.refl w.heap.size w).alloc (Nat.le_refl _) (.cells #[.int .i64 0, .string ⟨#[]⟩, .int .i64 0, .int .i64 0] PT)))
  have HX := Lib.hid hX
  have HF : Hid (∀ (er : Int) (j : Int) (W : World), ScAt W X t j 0 → Calls Tryz.prog 66 #[.pointer (some ⟨X, 0, none⟩), .int .i64 k, .int .i64 er] W fun e w' => e = .returned (.tuple #[]) ∧ ScAt w' X t k er ∧ W.grownBy w' (some X)) := Lib.hid (fun er j W h => fail_any X t j 0 k er W h)
  clear h hV hX
  unfold pX at *
  go_enter Tryz.func48, Tryz.ntmps48
  go_wp2_with fail
  generalize hW1 : (w.alloc (.cells #[.int .i64 0, .string ⟨#[]⟩, .int .i64 0, .int .i64 0] PT)) = W1 at *
  clear hW1
  have hre : ∀ d os, Calls Tryz.prog 61 #[.pointer (some ⟨X, 0, none⟩)] (grow (redrawn W1 d) os) fun e w' => e = .returned (.string ⟨(t.drop k).toArray⟩) ∧ Below (grow (redrawn W1 d) os).heap.size (grow (redrawn W1 d) os) w' := fun d os => rest_any X t k 0 _ ht (Nat.le_of_lt hk) (HS0.out.below (below_regrown W1 d os))
  have hcr := cell_regrown HS0.out.c1
  refine wp_region_quiet_below (by kernel_rfl) (by kernel_rfl) ?_
  repeat (any_goals (first | go_big_quiet_step ((go_at_call 61; exact Calls.regrown_of (hre _ _))) | quiet_step ((go_at_call 61; exact Calls.regrown_of (hre _ _))) | (refine wpQuiet_step (fun K hK => ?_); go_simp; split <;> (refine hK _ ?_; clear hK K))))
  all_goals (refine wpQuiet_nil ?_; intro _ hw'; obtain ⟨⟨dq, osq⟩, hw''⟩ := hw'; subst hw'')
  have HT2 := Lib.hid (HT0.out.below (below_regrown W1 dq osq) HT0.out.lt)
  have HS2 := Lib.hid (HS0.out.below (below_regrown W1 dq osq))
  have HG2 := Lib.hid (grown_below HG0.out (below_regrown W1 dq osq))
  have HV2 := Lib.hid (HV0.out.below (below_regrown W1 dq osq))
  clear hcr hre HT0 HS0 HG0 HV0
  generalize grow (redrawn W1 dq) osq = W2 at *
  clear W1
  generalize t.drop k = q at *
  go_wp2_with (first
    | (go_at_call 50; refine (hls _).mono ?_; rintro e w' ⟨rfl, rfl⟩; clear hls)
    | (go_at_call 38; refine (hds _).mono ?_; rintro e w' ⟨rfl, rfl⟩; clear hds)
    | (go_at_call 22
       refine (signs_at _ HV2.out).mono ?_
       rintro e w3 ⟨b, rfl, hs3, hb3⟩
       have HST := Lib.hid hs3
       have HS3 := Lib.hid (HS2.out.below hb3)
       have HG3 := Lib.hid (grown_below HG2.out hb3)
       have HT3 := Lib.hid (HT2.out.below hb3 HT2.out.lt)
       clear hs3 hb3))
  go_loop [104] (fun v => ∃ j : Nat, j ≤ 31 ∧ v = .int .i64 j ∧ Hid (∀ y ∈ signL.take j, y.isPrefixOf q = false)) (fun v => 31 - (intOf v).toNat)
  case atStart => exact ⟨0, by omega, rfl, Lib.hid (by simp)⟩
  case round =>
    obtain ⟨j, hj, rfl, HK⟩ := hrel
    have hsl : signL.length = 31 := by decide
    have HSL := Lib.hid hsl
    clear hsl
    by_cases hlt : j < 31
    · obtain ⟨x, hx⟩ := get_some (xs := signL) (k := j) (by rw [HSL.out]; omega)
      obtain ⟨b', o', hA, _, hcx⟩ := HST.out.at_ j x hx
      obtain ⟨rfl, rfl⟩ : b = b' ∧ 0 = o' := by
        have := Option.some.inj hA
        injection this with h1 h2
        exact ⟨h1, h2⟩
      rw [Nat.zero_add] at hcx
      clear hA
      have hat := HP.out x w3
      have HXX := Lib.hid hx
      have hj0 : (0 : Int) ≤ (j : Int) := by omega
      have hj1 : (j : Int) < 31 := by omega
      have hx2 : x.length ≤ 2 := (sign_fact x (List.mem_of_getElem? hx)).1
      clear hx
      unfold strV at hcx
      cases hp : x.isPrefixOf q with
      | false =>
        rw [hp] at hat
        have HPF := Lib.hid hp
        clear hp
        go_wp2_with (go_at_call 63; refine hat.mono ?_; rintro e w' ⟨rfl, rfl⟩; clear hat)
        go_round
        case rel => exact ⟨j + 1, by omega, by go_num, Lib.hid (by
          intro y hy
          rw [List.take_add_one, HXX.out] at hy
          rcases List.mem_append.1 hy with hy | hy
          · exact HK.out y hy
          · simp at hy; rw [hy]; exact HPF.out)⟩
        case measure => simp [intOf]; omega
      | true =>
        rw [hp] at hat
        have hxl := (List.isPrefixOf_iff_prefix.1 hp).length_le
        have HR : Hid (O = .tok ⟨5, x, 0, k⟩ (q.drop x.length)) := Lib.hid (by
          rw [HO.out, find_take signL j x HK.out HXX.out hp])
        have HJ : Hid ((k : Int) + (x.length : Int) = ((t.length - (q.drop x.length).length : Nat) : Int)) := Lib.hid (by
          rw [List.length_drop]; have := HQL2.out; omega)
        have hwr : IntKind.i64.wrap ((k : Int) + (x.length : Int)) = (k : Int) + (x.length : Int) := IntWalk.i64_in _ (by omega)
        clear hp hxl
        have HT5 := Lib.hid (tok_kept HT3.out (setCell_grown w3 X 1 (.int .i64 ((k : Int) + (x.length : Int)))) HXL.out)
        have HS5 := Lib.hid (HS3.out.set1 ((k : Int) + (x.length : Int)))
        have HG5 := Lib.hid (grown_set HG3.out 1 (.int .i64 ((k : Int) + (x.length : Int))))
        have hc1 := HS3.out.c1
        have hf1 := HS3.out.fr 1
        have hr0 := HT5.out.cell 0
        have hr1 := HT5.out.cell 1
        have hr2 := HT5.out.cell 2
        have hr3 := HT5.out.cell 3
        have hf0 := HT5.out.frozen 0
        have hf1 := HT5.out.frozen 1
        have hf2 := HT5.out.frozen 2
        have hf3 := HT5.out.frozen 3
        simp only [List.getElem?_toArray, List.getElem?_cons_succ, List.getElem?_cons_zero] at hr0 hr1 hr2 hr3
        go_wp2_with (go_at_call 63; refine hat.mono ?_; rintro e w' ⟨rfl, rfl⟩; clear hat)
        have B3 := (((HT5.out.set 0 (.int .i64 5)).set 1 (.string ⟨List.toArray x⟩)).set 2 (.int .i64 0)).set 3 (.int .i64 k)
        have q0 := B3.cell 0
        have q1 := B3.cell 1
        have q2 := B3.cell 2
        have q3 := B3.cell 3
        simp only [List.setIfInBounds_toArray, List.set_cons_zero, List.set_cons_succ, List.getElem?_toArray, List.getElem?_cons_succ, List.getElem?_cons_zero] at q0 q1 q2 q3
        refine bodyPost_ret (v := .agg #[.int .i64 5, .string ⟨List.toArray x⟩, .int .i64 0, .int .i64 k]) (by simp [results, Tryz.results48, go_sem, q0, q1, q2, q3]) rfl ?_
        rw [HR.out]
        have := stored (w := w) (.int .i64 5) (.string ⟨x.toArray⟩) (.int .i64 0) (.int .i64 k) HS5.out HXL.out HG5.out
        exact ⟨rfl, by rw [← HJ.out]; exact this.1, this.2⟩
    · obtain rfl : j = 31 := by omega
      have HR : Hid (O = .bad 110) := Lib.hid (by
        rw [HO.out, List.find?_eq_none.2]
        intro y hy
        have := HK.out
        rw [List.take_of_length_le (by rw [HSL.out]; exact Nat.le_refl _)] at this
        simp [this y hy])
      go_wp2_with (go_at_call 66
                   refine (HF.out 110 k _ HS3.out).mono ?_
                   rintro e w5 ⟨rfl, hs5, hg5⟩
                   have HS5 := Lib.hid hs5
                   have HG5 := Lib.hid (grown_trans HG3.out hg5)
                   have HT5 := Lib.hid (tok_kept HT3.out hg5 HXL.out)
                   clear hs5 hg5
                   have hr0 := HT5.out.cell 0
                   have hr1 := HT5.out.cell 1
                   have hr2 := HT5.out.cell 2
                   have hr3 := HT5.out.cell 3
                   have hf0 := HT5.out.frozen 0
                   have hf1 := HT5.out.frozen 1
                   have hf2 := HT5.out.frozen 2
                   have hf3 := HT5.out.frozen 3
                   simp only [List.getElem?_toArray, List.getElem?_cons_succ, List.getElem?_cons_zero] at hr0 hr1 hr2 hr3
                   skip)
      have B3 := (((HT5.out.set 0 (.int .i64 0)).set 1 (.string ⟨#[]⟩)).set 2 (.int .i64 0)).set 3 (.int .i64 0)
      have q0 := B3.cell 0
      have q1 := B3.cell 1
      have q2 := B3.cell 2
      have q3 := B3.cell 3
      simp only [List.setIfInBounds_toArray, List.set_cons_zero, List.set_cons_succ, List.getElem?_toArray, List.getElem?_cons_succ, List.getElem?_cons_zero] at q0 q1 q2 q3
      refine bodyPost_ret (v := .agg #[.int .i64 0, .string ⟨#[]⟩, .int .i64 0, .int .i64 0]) (by simp [results, Tryz.results48, go_sem, q0, q1, q2, q3]) rfl ?_
      rw [HR.out]
      have := stored (w := w) (.int .i64 0) (.string ⟨#[]⟩) (.int .i64 0) (.int .i64 0) HS5.out HXL.out HG5.out
      exact ⟨rfl, this.1, this.2⟩
theorem pone_any (X k : Nat) (t : List UInt8) (w : World) (ht : t.length ≤ 1000000) (hk : k < t.length) (hV : Vars w) (hX : Off X) (h : ScAt w X t k 0) :
    Calls Tryz.prog 48 #[pX X] w fun e w' => OneEnd t X k w w' e (oneL k (t.drop k)) := by
  obtain ⟨c, hc⟩ := get_some hk
  cases hl : letB c with
  | true => exact pone_word X k t c w ht hc hl hV hX h
  | false =>
    cases hd : digB c with
    | true => exact pone_num X k t c w ht hc hl hd hV hX h
    | false =>
      by_cases h34 : c = 34
      · subst h34; exact pone_str X k t w ht hc hV hX h
      · exact pone_sign X k t c w ht hc hl hd h34 hV hX h
end Go.Proofs.YtdloadeidijcoaaGreatDoor
