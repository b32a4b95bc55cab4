/- DERIVED. The reference's token at an offset: strings, signs; all in one word. -/
import Derived.Test.YtdloadeidijcoaaGreatDoorRTxt
import Derived.Test.YtdloadeidijcoaaGreatDoorBlk
import Derived.Test.YtdloadeidijcoaaGreatDoorHeld
import Derived.Test.YtdloadeidijcoaaGreatDoorSpecAll
import Derived.StillTailTactics
set_option linter.unusedSimpArgs false
set_option linter.unusedVariables false
namespace Go.Proofs.YtdloadeidijcoaaGreatDoor
open Go.RowKit

theorem strs_new (w : World) (ws : List (List UInt8)) (T : TypeId) (n : Nat) (hn : n = ws.length) : Strs (w.alloc (.cells (ws.map strV).toArray T)) (some ⟨w.heap.size, 0, none⟩) n ws :=
  ⟨hn, fun i x hx => ⟨w.heap.size, 0, rfl, by simp, by
    rw [Nat.zero_add]
    have := (BlkAt.new w T (ws.map strV).toArray).cell i
    rw [this]
    simp [hx]⟩⟩
set_option maxRecDepth 100000 in
set_option maxHeartbeats 2000000 in
theorem rkeys_any (w : World) : Calls Tryz.prog 25 #[] w fun e w' => ∃ A c, e = .returned (.slice A 52 c) ∧ Strs w' A 52 keyL ∧ Below w.heap.size w w' := by
  go_enter Tryz.func25, Tryz.ntmps25
  go_wp2
  go_ret
  exact ⟨_, _, rfl, strs_new w keyL _ 52 (by decide), (Below.refl _ w).alloc (Nat.le_refl _) _⟩
set_option maxRecDepth 100000 in
set_option maxHeartbeats 2000000 in
theorem rsigns_any (w : World) : Calls Tryz.prog 27 #[] w fun e w' => e = .returned (.slice (some ⟨w.heap.size, 0, none⟩) 31 31) ∧ Strs w' (some ⟨w.heap.size, 0, none⟩) 31 signL ∧ Below w.heap.size w w' := by
  go_enter Tryz.func27, Tryz.ntmps27
  go_wp2
  go_ret
  exact ⟨rfl, strs_new w signL _ 31 (by decide), (Below.refl _ w).alloc (Nat.le_refl _) _⟩
end Go.Proofs.YtdloadeidijcoaaGreatDoor
namespace Go.Proofs.YtdloadeidijcoaaGreatDoor
open Go.RowKit

def encT (t : Tok) : Value := .agg #[.int .i64 t.kind, strV t.text, .int .i64 t.value, .int .i64 t.at_]
def encTL (t : Tok) : List Value := [.int .i64 t.kind, strV t.text, .int .i64 t.value, .int .i64 t.at_]
def oneR (n : Nat) (o : One) : Value := match o with | .tok t r => .tuple #[encT t, .int .i64 ((n - r.length : Nat) : Int), .int .i64 0] | .bad e => .tuple #[.agg #[.int .i64 0, strV [], .int .i64 0, .int .i64 0], .int .i64 0, .int .i64 e]
abbrev RT : TypeId := 26
theorem ext_str (t : List UInt8) (a b : Nat) : (⟨t.toArray⟩ : ByteArray).extract a b = ⟨((t.drop a).take (b - a)).toArray⟩ := by
  have h := ext_list t a b
  rw [← h, Lib.toList_data]
/-- the bytes from i to j are word bytes -/
def WordTo (p : UInt8 → Bool) (t : List UInt8) (i j : Nat) : Prop := ((t.drop i).take (j - i)).all p = true
theorem WordTo.step {p : UInt8 → Bool} {t : List UInt8} {i j : Nat} {c : UInt8} (h : WordTo p t i j) (hj : i ≤ j) (hc : t[j]? = some c) (hp : p c = true) : WordTo p t i (j + 1) := by
  unfold WordTo at h ⊢
  rw [show j + 1 - i = (j - i) + 1 by omega, List.take_add_one, List.all_append, h]
  rw [List.getElem?_drop, show i + (j - i) = j by omega, hc]
  simp [hp]
theorem WordTo.stop {p : UInt8 → Bool} {t : List UInt8} {i j : Nat} (h : WordTo p t i j) (hj : i ≤ j) (hjl : j ≤ t.length) (hn : ∀ c, t[j]? = some c → p c = false) :
    (t.drop i).takeWhile p = (t.drop i).take (j - i) ∧ (t.drop i).dropWhile p = t.drop j ∧ ((t.drop i).take (j - i)).length = j - i := by
  have e : t.drop i = (t.drop i).take (j - i) ++ t.drop j := by
    conv => lhs; rw [← List.take_append_drop (j - i) (t.drop i)]
    rw [List.drop_drop, show i + (j - i) = j by omega]
  have := take_all (p := p) (s := (t.drop i).take (j - i)) (r := t.drop j) h (fun c hc => hn c (by rw [List.head?_drop] at hc; exact hc))
  rw [← e] at this
  exact ⟨this.1, this.2, by rw [List.length_take, List.length_drop]; omega⟩
theorem tok_zero (w : World) : BlkAt (w.alloc (.cells #[.int .i64 0, .string ⟨#[]⟩, .int .i64 0, .int .i64 0] RT)) w.heap.size RT #[.int .i64 0, .string ⟨#[]⟩, .int .i64 0, .int .i64 0] := BlkAt.new _ _ _
theorem key_len {s : List UInt8} (h : 40 < s.length) : s ∉ keyL := fun hm => by have := (key_word s hm).2.1; omega
set_option maxRecDepth 100000 in
set_option maxHeartbeats 4000000 in
theorem one_word (t : List UInt8) (i : Nat) (c : UInt8) (w : World) (ht : t.length ≤ 1000000) (hc : t[i]? = some c) (hl : letB c = true) :
    Calls Tryz.prog 60 #[strV t, .int .i64 i] w fun e w' => e = .returned (oneR t.length (oneL i (t.drop i))) ∧ Below w.heap.size w w' := by
  have hi : i < t.length := (List.getElem?_eq_some_iff.1 hc).1
  have hidx := idx_str t i c hc
  have HL : Hid (∀ (c : UInt8) (w : World), Calls Tryz.prog 56 #[u8V c] w fun e w' => e = .returned (.bool (letB c)) ∧ w = w') := Lib.hid rletter_any
  have HD : Hid (∀ (c : UInt8) (w : World), Calls Tryz.prog 41 #[u8V c] w fun e w' => e = .returned (.bool (digB c)) ∧ w = w') := Lib.hid rdigit_any
  have HT := Lib.hid (tok_zero w)
  have HB := Lib.hid ((Below.refl w.heap.size w).alloc (Nat.le_refl _) (.cells #[.int .i64 0, .string ⟨#[]⟩, .int .i64 0, .int .i64 0] RT))
  have HO : Hid (oneR t.length (oneL i (t.drop i)) = (if ((t.drop i).takeWhile wordB) ∈ keyL then .tuple #[encT ⟨2, (t.drop i).takeWhile wordB, 0, i⟩, .int .i64 ((t.length - ((t.drop i).dropWhile wordB).length : Nat) : Int), .int .i64 0] else if 40 < ((t.drop i).takeWhile wordB).length then oneR t.length (.bad 114) else .tuple #[encT ⟨1, (t.drop i).takeWhile wordB, 0, i⟩, .int .i64 ((t.length - ((t.drop i).dropWhile wordB).length : Nat) : Int), .int .i64 0])) := Lib.hid (by
    have e := drop_cons hc
    rw [e]
    unfold oneL
    simp only [hl, if_true]
    rw [← e]
    by_cases h40 : 40 < ((t.drop i).takeWhile wordB).length
    · rw [if_pos h40, if_neg (key_len h40), if_pos h40]
    · rw [if_neg h40]
      split <;> simp_all [oneR])
  have hl0 := HL.out c (w.alloc (.cells #[.int .i64 0, .string ⟨#[]⟩, .int .i64 0, .int .i64 0] RT))
  rw [hl] at hl0
  unfold strV u8V at *
  clear hc
  go_enter Tryz.func60, Tryz.ntmps60
  go_wp2_with (go_at_call 56; refine hl0.mono ?_; rintro e w' ⟨rfl, rfl⟩; clear hl0)
  generalize hW1 : (w.alloc (.cells #[.int .i64 0, .string ⟨#[]⟩, .int .i64 0, .int .i64 0] RT)) = W1 at *
  clear hW1
  go_loop [8] (fun v => ∃ j : Nat, i ≤ j ∧ j ≤ t.length ∧ v = .int .i64 j ∧ Hid (WordTo wordB t i j)) (fun v => t.length - (intOf v).toNat)
  case atStart => exact ⟨i, Nat.le_refl _, by omega, rfl, Lib.hid (by simp [WordTo])⟩
  case round =>
    obtain ⟨j, hij, hj, rfl, HW⟩ := hrel
    by_cases hlt : j < t.length
    · obtain ⟨c', hc'⟩ := get_some hlt
      have hidx' := idx_str t j c' hc'
      have hl1 := HL.out c' W1
      have hd1 := HD.out c' W1
      cases hlb : letB c' with
      | true =>
        rw [hlb] at hl1
        have HS := Lib.hid (HW.out.step hij hc' (by simp [wordB, hlb]))
        clear hc' hd1 hlb
        go_wp2_with (go_at_call 56; refine hl1.mono ?_; rintro e w' ⟨rfl, rfl⟩; clear hl1)
        go_round
        case rel => exact ⟨j + 1, by omega, by omega, by go_num, HS⟩
        case measure => simp [intOf]; omega
      | false =>
        rw [hlb] at hl1
        cases hdb : digB c' with
        | true =>
          rw [hdb] at hd1
          have HS := Lib.hid (HW.out.step hij hc' (by simp [wordB, hdb]))
          clear hc' hlb hdb
          go_wp2_with (first | (go_at_call 56; refine hl1.mono ?_; rintro e w' ⟨rfl, rfl⟩; clear hl1) | (go_at_call 41; refine hd1.mono ?_; rintro e w' ⟨rfl, rfl⟩; clear hd1))
          go_round
          case rel => exact ⟨j + 1, by omega, by omega, by go_num, HS⟩
          case measure => simp [intOf]; omega
        | false =>
          rw [hdb] at hd1
          have hst := HW.out.stop hij hj (fun c hc => by rw [hc'] at hc; cases hc; simp [wordB, hlb, hdb])
          clear hc' hlb hdb
          have HST := Lib.hid hst.2.1
          have HSL := Lib.hid hst.2.2
          rw [hst.1] at HO
          have hext := ext_str t i j
          obtain ⟨S, hS⟩ : ∃ S, (t.drop i).take (j - i) = S := ⟨_, rfl⟩
          rw [hS] at hext HO HSL
          clear hst hS HW
          (go_wp2_with (first | (go_at_call 56; refine hl1.mono ?_; rintro e w' ⟨rfl, rfl⟩; clear hl1) | (go_at_call 41; refine hd1.mono ?_; rintro e w' ⟨rfl, rfl⟩; clear hd1)))
          refine wp_region_held_drew (S := fun _ => True) (by kernel_rfl) trivial ?_
          intro _
          have HB1 := Lib.hid (below_draw HB.out 1)
          have HT1 := Lib.hid (show BlkAt (W1.drewN 1) w.heap.size RT #[.int .i64 0, .string ⟨#[]⟩, .int .i64 0, .int .i64 0] from HT.out)
          change wpAnyH _ _ _ _ _ _ _ _ (W1.drewN 1)
          generalize W1.drewN 1 = W2 at *
          refine take_drop 1 (v := ?_) rfl (by kernel_rfl) (by kernel_rfl) (by kernel_rfl) (fun _ _ _ h => h) (by rfl) ?_ (by assumption) ?_
          rotate_left 1
          · (intro w hSw; (try dsimp only at hSw); go_simp; try with_reducible rfl)
          try simp only [Act.put, List.setIfInBounds_toArray, List.set_cons_zero, List.set_cons_succ]
          refine take_drop 2 (v := ?_) rfl (by kernel_rfl) (by kernel_rfl) (by kernel_rfl) (fun _ _ _ h => h) (by rfl) ?_ (by assumption) ?_
          rotate_left 1
          · (intro w hSw; (try dsimp only at hSw); go_simp; try with_reducible rfl)
          try simp only [Act.put, List.setIfInBounds_toArray, List.set_cons_zero, List.set_cons_succ]
          refine take_drop 3 (v := ?_) rfl (by kernel_rfl) (by kernel_rfl) (by kernel_rfl) (fun _ _ _ h => h) (by rfl) ?_ (by assumption) ?_
          rotate_left 1
          · (intro w hSw; (try dsimp only at hSw); go_simp; try with_reducible rfl)
          try simp only [Act.put, List.setIfInBounds_toArray, List.set_cons_zero, List.set_cons_succ]
          refine take_drop 4 (v := ?_) rfl (by kernel_rfl) (by kernel_rfl) (by kernel_rfl) (fun _ _ _ h => h) (by rfl) ?_ (by assumption) ?_
          rotate_left 1
          · (intro w hSw; (try dsimp only at hSw); go_simp; try with_reducible rfl)
          try simp only [Act.put, List.setIfInBounds_toArray, List.set_cons_zero, List.set_cons_succ]
          refine wpAnyH_ready (rs := [0]) (by kernel_rfl) (by simp) ?_
          refine ready_drop rfl (fun K hK => ?_) AllReadyH.nil
          go_simp
          go_at_call 25
          refine (rkeys_any W2).mono ?_
          rintro e w3 ⟨A, cc, rfl, hs3, hb3⟩
          have HS3 := Lib.hid hs3
          have HB3 := Lib.hid (HB1.out.trans (hb3.mono HB1.out.size))
          have HT3 := Lib.hid (HT1.out.below hb3 HT1.out.lt)
          clear hs3 hb3
          refine hK.out _ _ trivial (fun _ => ?_)
          clear hK
          try simp only [Act.put, List.setIfInBounds_toArray, List.set_cons_zero, List.set_cons_succ]
          refine wpAnyH_ready (rs := [5]) (by kernel_rfl) (by simp) ?_
          refine ready_drop rfl (fun K hK => ?_) AllReadyH.nil
          go_simp
          go_at_call 24
          refine (has_any A 52 cc keyL S w3 HS3.out (by omega)).mono ?_
          rintro e w4 ⟨rfl, rfl⟩
          refine hK.out _ _ trivial (fun _ => ?_)
          clear hK
          try simp only [Act.put, List.setIfInBounds_toArray, List.set_cons_zero, List.set_cons_succ]
          refine wpAnyH_done (by kernel_rfl) ?_ _
          have hr0 := HT3.out.cell 0
          have hr1 := HT3.out.cell 1
          have hr2 := HT3.out.cell 2
          have hr3 := HT3.out.cell 3
          have hf0 := HT3.out.frozen 0
          have hf1 := HT3.out.frozen 1
          have hf2 := HT3.out.frozen 2
          have hf3 := HT3.out.frozen 3
          simp only [List.getElem?_toArray, List.getElem?_cons_succ, List.getElem?_cons_zero] at hr0 hr1 hr2 hr3
          have HJ : Hid ((j : Int) = ((t.length - ((t.drop i).dropWhile wordB).length : Nat) : Int)) := Lib.hid (by rw [HST.out, List.length_drop]; omega)
          have HIJ := Lib.hid (show i ≤ j from hij)
          by_cases hk : S ∈ keyL
          · have hkd : decide (S ∈ keyL) = true := decide_eq_true hk
            rw [if_pos hk] at HO
            clear hk
            generalize decide (S ∈ keyL) = KD at *
            subst hkd
            go_wp2_with fail
            have B3 := (((HT3.out.set 0 (.int .i64 2)).set 1 (.string ⟨List.toArray S⟩)).set 2 (.int .i64 0)).set 3 (.int .i64 i)
            have q0 := B3.cell 0
            have q1 := B3.cell 1
            have q2 := B3.cell 2
            have q3 := B3.cell 3
            simp only [List.setIfInBounds_toArray, List.set_cons_zero, List.set_cons_succ, List.getElem?_toArray, List.getElem?_cons_succ, List.getElem?_cons_zero] at q0 q1 q2 q3
            refine bodyPost_ret (v := .tuple #[.agg #[.int .i64 2, .string ⟨List.toArray S⟩, .int .i64 0, .int .i64 i], .int .i64 j, .int .i64 0]) (by simp [results, Tryz.results60, go_sem, q0, q1, q2, q3]) rfl ⟨?_, ?_⟩
            rotate_left 1
            · exact ((((HB3.out).setCell (p := ⟨w.heap.size, 0, none⟩) (Nat.le_refl _) _).setCell (p := ⟨w.heap.size, 1, none⟩) (Nat.le_refl _) _).setCell (p := ⟨w.heap.size, 2, none⟩) (Nat.le_refl _) _).setCell (p := ⟨w.heap.size, 3, none⟩) (Nat.le_refl _) _
            rw [HO.out, ← HJ.out]; rfl
          · have hkd : decide (S ∈ keyL) = false := decide_eq_false hk
            rw [if_neg hk] at HO
            clear hk
            generalize decide (S ∈ keyL) = KD at *
            subst hkd
            by_cases h40 : 40 < S.length
            · rw [if_pos h40] at HO
              have f40 : decide ((40 : Int) < (j : Int) - (i : Int)) = true := decide_eq_true (by have := HSL.out; omega)
              clear h40
              go_wp2_with fail
              have B3 := (((HT3.out.set 0 (.int .i64 0)).set 1 (.string ⟨#[]⟩)).set 2 (.int .i64 0)).set 3 (.int .i64 0)
              have q0 := B3.cell 0
              have q1 := B3.cell 1
              have q2 := B3.cell 2
              have q3 := B3.cell 3
              simp only [List.setIfInBounds_toArray, List.set_cons_zero, List.set_cons_succ, List.getElem?_toArray, List.getElem?_cons_succ, List.getElem?_cons_zero] at q0 q1 q2 q3
              refine bodyPost_ret (v := .tuple #[.agg #[.int .i64 0, .string ⟨#[]⟩, .int .i64 0, .int .i64 0], .int .i64 0, .int .i64 114]) (by simp [results, Tryz.results60, go_sem, q0, q1, q2, q3]) rfl ⟨?_, ?_⟩
              rotate_left 1
              · exact ((((HB3.out).setCell (p := ⟨w.heap.size, 0, none⟩) (Nat.le_refl _) _).setCell (p := ⟨w.heap.size, 1, none⟩) (Nat.le_refl _) _).setCell (p := ⟨w.heap.size, 2, none⟩) (Nat.le_refl _) _).setCell (p := ⟨w.heap.size, 3, none⟩) (Nat.le_refl _) _
              rw [HO.out]; rfl
            · rw [if_neg h40] at HO
              have f40 : decide ((40 : Int) < (j : Int) - (i : Int)) = false := decide_eq_false (by have := HSL.out; omega)
              clear h40
              go_wp2_with fail
              have B3 := (((HT3.out.set 0 (.int .i64 1)).set 1 (.string ⟨List.toArray S⟩)).set 2 (.int .i64 0)).set 3 (.int .i64 i)
              have q0 := B3.cell 0
              have q1 := B3.cell 1
              have q2 := B3.cell 2
              have q3 := B3.cell 3
              simp only [List.setIfInBounds_toArray, List.set_cons_zero, List.set_cons_succ, List.getElem?_toArray, List.getElem?_cons_succ, List.getElem?_cons_zero] at q0 q1 q2 q3
              refine bodyPost_ret (v := .tuple #[.agg #[.int .i64 1, .string ⟨List.toArray S⟩, .int .i64 0, .int .i64 i], .int .i64 j, .int .i64 0]) (by simp [results, Tryz.results60, go_sem, q0, q1, q2, q3]) rfl ⟨?_, ?_⟩
              rotate_left 1
              · exact ((((HB3.out).setCell (p := ⟨w.heap.size, 0, none⟩) (Nat.le_refl _) _).setCell (p := ⟨w.heap.size, 1, none⟩) (Nat.le_refl _) _).setCell (p := ⟨w.heap.size, 2, none⟩) (Nat.le_refl _) _).setCell (p := ⟨w.heap.size, 3, none⟩) (Nat.le_refl _) _
              rw [HO.out, ← HJ.out]; rfl
    · obtain rfl : j = t.length := by omega
      have hst := HW.out.stop hij hj (fun c hc => by have := (List.getElem?_eq_some_iff.1 hc).1; omega)
      have HST := Lib.hid hst.2.1
      have HSL := Lib.hid hst.2.2
      rw [hst.1] at HO
      have hext := ext_str t i t.length
      obtain ⟨S, hS⟩ : ∃ S, (t.drop i).take (t.length - i) = S := ⟨_, rfl⟩
      rw [hS] at hext HO HSL
      clear hst hS HW
      (go_wp2_with fail)
      refine wp_region_held_drew (S := fun _ => True) (by kernel_rfl) trivial ?_
      intro _
      have HB1 := Lib.hid (below_draw HB.out 1)
      have HT1 := Lib.hid (show BlkAt (W1.drewN 1) w.heap.size RT #[.int .i64 0, .string ⟨#[]⟩, .int .i64 0, .int .i64 0] from HT.out)
      change wpAnyH _ _ _ _ _ _ _ _ (W1.drewN 1)
      generalize W1.drewN 1 = W2 at *
      refine take_drop 1 (v := ?_) rfl (by kernel_rfl) (by kernel_rfl) (by kernel_rfl) (fun _ _ _ h => h) (by rfl) ?_ (by assumption) ?_
      rotate_left 1
      · (intro w hSw; (try dsimp only at hSw); go_simp; try with_reducible rfl)
      try simp only [Act.put, List.setIfInBounds_toArray, List.set_cons_zero, List.set_cons_succ]
      refine take_drop 2 (v := ?_) rfl (by kernel_rfl) (by kernel_rfl) (by kernel_rfl) (fun _ _ _ h => h) (by rfl) ?_ (by assumption) ?_
      rotate_left 1
      · (intro w hSw; (try dsimp only at hSw); go_simp; try with_reducible rfl)
      try simp only [Act.put, List.setIfInBounds_toArray, List.set_cons_zero, List.set_cons_succ]
      refine take_drop 3 (v := ?_) rfl (by kernel_rfl) (by kernel_rfl) (by kernel_rfl) (fun _ _ _ h => h) (by rfl) ?_ (by assumption) ?_
      rotate_left 1
      · (intro w hSw; (try dsimp only at hSw); go_simp; try with_reducible rfl)
      try simp only [Act.put, List.setIfInBounds_toArray, List.set_cons_zero, List.set_cons_succ]
      refine take_drop 4 (v := ?_) rfl (by kernel_rfl) (by kernel_rfl) (by kernel_rfl) (fun _ _ _ h => h) (by rfl) ?_ (by assumption) ?_
      rotate_left 1
      · (intro w hSw; (try dsimp only at hSw); go_simp; try with_reducible rfl)
      try simp only [Act.put, List.setIfInBounds_toArray, List.set_cons_zero, List.set_cons_succ]
      refine wpAnyH_ready (rs := [0]) (by kernel_rfl) (by simp) ?_
      refine ready_drop rfl (fun K hK => ?_) AllReadyH.nil
      go_simp
      go_at_call 25
      refine (rkeys_any W2).mono ?_
      rintro e w3 ⟨A, cc, rfl, hs3, hb3⟩
      have HS3 := Lib.hid hs3
      have HB3 := Lib.hid (HB1.out.trans (hb3.mono HB1.out.size))
      have HT3 := Lib.hid (HT1.out.below hb3 HT1.out.lt)
      clear hs3 hb3
      refine hK.out _ _ trivial (fun _ => ?_)
      clear hK
      try simp only [Act.put, List.setIfInBounds_toArray, List.set_cons_zero, List.set_cons_succ]
      refine wpAnyH_ready (rs := [5]) (by kernel_rfl) (by simp) ?_
      refine ready_drop rfl (fun K hK => ?_) AllReadyH.nil
      go_simp
      go_at_call 24
      refine (has_any A 52 cc keyL S w3 HS3.out (by omega)).mono ?_
      rintro e w4 ⟨rfl, rfl⟩
      refine hK.out _ _ trivial (fun _ => ?_)
      clear hK
      try simp only [Act.put, List.setIfInBounds_toArray, List.set_cons_zero, List.set_cons_succ]
      refine wpAnyH_done (by kernel_rfl) ?_ _
      have hr0 := HT3.out.cell 0
      have hr1 := HT3.out.cell 1
      have hr2 := HT3.out.cell 2
      have hr3 := HT3.out.cell 3
      have hf0 := HT3.out.frozen 0
      have hf1 := HT3.out.frozen 1
      have hf2 := HT3.out.frozen 2
      have hf3 := HT3.out.frozen 3
      simp only [List.getElem?_toArray, List.getElem?_cons_succ, List.getElem?_cons_zero] at hr0 hr1 hr2 hr3
      have HJ : Hid ((t.length : Int) = ((t.length - ((t.drop i).dropWhile wordB).length : Nat) : Int)) := Lib.hid (by rw [HST.out, List.length_drop]; omega)
      have HIJ := Lib.hid (show i ≤ t.length from hij)
      by_cases hk : S ∈ keyL
      · have hkd : decide (S ∈ keyL) = true := decide_eq_true hk
        rw [if_pos hk] at HO
        clear hk
        generalize decide (S ∈ keyL) = KD at *
        subst hkd
        go_wp2_with fail
        have B3 := (((HT3.out.set 0 (.int .i64 2)).set 1 (.string ⟨List.toArray S⟩)).set 2 (.int .i64 0)).set 3 (.int .i64 i)
        have q0 := B3.cell 0
        have q1 := B3.cell 1
        have q2 := B3.cell 2
        have q3 := B3.cell 3
        simp only [List.setIfInBounds_toArray, List.set_cons_zero, List.set_cons_succ, List.getElem?_toArray, List.getElem?_cons_succ, List.getElem?_cons_zero] at q0 q1 q2 q3
        refine bodyPost_ret (v := .tuple #[.agg #[.int .i64 2, .string ⟨List.toArray S⟩, .int .i64 0, .int .i64 i], .int .i64 t.length, .int .i64 0]) (by simp [results, Tryz.results60, go_sem, q0, q1, q2, q3]) rfl ⟨?_, ?_⟩
        rotate_left 1
        · exact ((((HB3.out).setCell (p := ⟨w.heap.size, 0, none⟩) (Nat.le_refl _) _).setCell (p := ⟨w.heap.size, 1, none⟩) (Nat.le_refl _) _).setCell (p := ⟨w.heap.size, 2, none⟩) (Nat.le_refl _) _).setCell (p := ⟨w.heap.size, 3, none⟩) (Nat.le_refl _) _
        rw [HO.out, ← HJ.out]; rfl
      · have hkd : decide (S ∈ keyL) = false := decide_eq_false hk
        rw [if_neg hk] at HO
        clear hk
        generalize decide (S ∈ keyL) = KD at *
        subst hkd
        by_cases h40 : 40 < S.length
        · rw [if_pos h40] at HO
          have f40 : decide ((40 : Int) < (t.length : Int) - (i : Int)) = true := decide_eq_true (by have := HSL.out; omega)
          clear h40
          go_wp2_with fail
          have B3 := (((HT3.out.set 0 (.int .i64 0)).set 1 (.string ⟨#[]⟩)).set 2 (.int .i64 0)).set 3 (.int .i64 0)
          have q0 := B3.cell 0
          have q1 := B3.cell 1
          have q2 := B3.cell 2
          have q3 := B3.cell 3
          simp only [List.setIfInBounds_toArray, List.set_cons_zero, List.set_cons_succ, List.getElem?_toArray, List.getElem?_cons_succ, List.getElem?_cons_zero] at q0 q1 q2 q3
          refine bodyPost_ret (v := .tuple #[.agg #[.int .i64 0, .string ⟨#[]⟩, .int .i64 0, .int .i64 0], .int .i64 0, .int .i64 114]) (by simp [results, Tryz.results60, go_sem, q0, q1, q2, q3]) rfl ⟨?_, ?_⟩
          rotate_left 1
          · exact ((((HB3.out).setCell (p := ⟨w.heap.size, 0, none⟩) (Nat.le_refl _) _).setCell (p := ⟨w.heap.size, 1, none⟩) (Nat.le_refl _) _).setCell (p := ⟨w.heap.size, 2, none⟩) (Nat.le_refl _) _).setCell (p := ⟨w.heap.size, 3, none⟩) (Nat.le_refl _) _
          rw [HO.out]; rfl
        · rw [if_neg h40] at HO
          have f40 : decide ((40 : Int) < (t.length : Int) - (i : Int)) = false := decide_eq_false (by have := HSL.out; omega)
          clear h40
          go_wp2_with fail
          have B3 := (((HT3.out.set 0 (.int .i64 1)).set 1 (.string ⟨List.toArray S⟩)).set 2 (.int .i64 0)).set 3 (.int .i64 i)
          have q0 := B3.cell 0
          have q1 := B3.cell 1
          have q2 := B3.cell 2
          have q3 := B3.cell 3
          simp only [List.setIfInBounds_toArray, List.set_cons_zero, List.set_cons_succ, List.getElem?_toArray, List.getElem?_cons_succ, List.getElem?_cons_zero] at q0 q1 q2 q3
          refine bodyPost_ret (v := .tuple #[.agg #[.int .i64 1, .string ⟨List.toArray S⟩, .int .i64 0, .int .i64 i], .int .i64 t.length, .int .i64 0]) (by simp [results, Tryz.results60, go_sem, q0, q1, q2, q3]) rfl ⟨?_, ?_⟩
          rotate_left 1
          · exact ((((HB3.out).setCell (p := ⟨w.heap.size, 0, none⟩) (Nat.le_refl _) _).setCell (p := ⟨w.heap.size, 1, none⟩) (Nat.le_refl _) _).setCell (p := ⟨w.heap.size, 2, none⟩) (Nat.le_refl _) _).setCell (p := ⟨w.heap.size, 3, none⟩) (Nat.le_refl _) _
          rw [HO.out, ← HJ.out]; rfl
end Go.Proofs.YtdloadeidijcoaaGreatDoor
namespace Go.Proofs.YtdloadeidijcoaaGreatDoor
open Go.RowKit

theorem num_word1 {l S r : List UInt8} (h1 : l.takeWhile digB = S) (h2 : l.dropWhile digB = r) (hd : ∀ c, r.head? = some c → digB c = false) (hr : ∀ c, r.head? = some c → letB c = false) : l.takeWhile wordB = S ∧ l.dropWhile wordB = r := by
  have e : l = S ++ r := by rw [← h1, ← h2]; exact List.takeWhile_append_dropWhile.symm
  rw [e]
  refine take_all (dig_word (by rw [← h1]; exact tw_all l)) (fun c hc => by simp [wordB, hd c hc, hr c hc])
theorem num_word2 {l S r : List UInt8} {c : UInt8} (h1 : l.takeWhile digB = S) (h2 : l.dropWhile digB = c :: r) (hc : letB c = true) : numL (l.takeWhile wordB) = none := by
  have e : l = S ++ c :: r := by rw [← h1, ← h2]; exact List.takeWhile_append_dropWhile.symm
  have hS : S.all wordB = true := dig_word (by rw [← h1]; exact tw_all l)
  have e2 : l.takeWhile wordB = S ++ c :: r.takeWhile wordB := by
    rw [e, List.takeWhile_append_of_pos (fun x hx => List.all_eq_true.1 hS x hx), List.takeWhile_cons_of_pos (by simp [wordB, hc])]
  rw [e2]
  unfold numL
  rw [if_pos]
  refine .inr (.inl ?_)
  rw [List.all_append, List.all_cons, let_not_dig hc]
  simp
theorem one_digit {i : Int} {c : UInt8} {q : List UInt8} (hd : digB c = true) : oneL i (c :: q) = (match numL ((c :: q).takeWhile wordB) with | none => .bad 113 | some n => .tok ⟨3, (c :: q).takeWhile wordB, n, i⟩ ((c :: q).dropWhile wordB)) := by
  have hl : letB c = false := by
    cases h : letB c with
    | false => rfl
    | true => rw [let_not_dig h] at hd; cases hd
  unfold oneL
  simp only [hl, hd, if_true]
  rfl
theorem number_none (s : List UInt8) (w : World) (hs : s.length ≤ 1000000) (h : numL s = none) :
    Calls Tryz.prog 26 #[.string ⟨s.toArray⟩] w fun e w' => (∃ v, e = .returned (.tuple #[.int .i64 v, .bool false])) ∧ w = w' :=
  (number_any s w hs).mono fun e w' ⟨⟨v, he, _⟩, hw⟩ => ⟨⟨v, by rw [he, h]; rfl⟩, hw⟩
theorem number_some (s : List UInt8) (n : Int) (w : World) (hs : s.length ≤ 1000000) (h : numL s = some n) :
    Calls Tryz.prog 26 #[.string ⟨s.toArray⟩] w fun e w' => e = .returned (.tuple #[.int .i64 n, .bool true]) ∧ w = w' :=
  (number_any s w hs).mono fun e w' ⟨⟨v, he, hv⟩, hw⟩ => ⟨by rw [he, h, hv n h]; rfl, hw⟩
set_option maxRecDepth 100000 in
set_option maxHeartbeats 4000000 in
theorem one_num (t : List UInt8) (i : Nat) (c : UInt8) (w : World) (ht : t.length ≤ 1000000) (hc : t[i]? = some c) (hl : digB c = true) :
    Calls Tryz.prog 60 #[strV t, .int .i64 i] w fun e w' => e = .returned (oneR t.length (oneL i (t.drop i))) ∧ Below w.heap.size w w' := by
  have hi : i < t.length := (List.getElem?_eq_some_iff.1 hc).1
  have hidx := idx_str t i c hc
  have HL : Hid (∀ (c : UInt8) (w : World), Calls Tryz.prog 56 #[u8V c] w fun e w' => e = .returned (.bool (letB c)) ∧ w = w') := Lib.hid rletter_any
  have HD : Hid (∀ (c : UInt8) (w : World), Calls Tryz.prog 41 #[u8V c] w fun e w' => e = .returned (.bool (digB c)) ∧ w = w') := Lib.hid rdigit_any
  have HT := Lib.hid (tok_zero w)
  have HB := Lib.hid ((Below.refl w.heap.size w).alloc (Nat.le_refl _) (.cells #[.int .i64 0, .string ⟨#[]⟩, .int .i64 0, .int .i64 0] RT))
  have HO : Hid (oneL i (t.drop i) = (match numL ((t.drop i).takeWhile wordB) with | none => .bad 113 | some n => .tok ⟨3, (t.drop i).takeWhile wordB, n, i⟩ ((t.drop i).dropWhile wordB))) := Lib.hid (by
    rw [drop_cons hc]; exact one_digit hl)
  have hl0 := HL.out c (w.alloc (.cells #[.int .i64 0, .string ⟨#[]⟩, .int .i64 0, .int .i64 0] RT))
  have hd0 := HD.out c (w.alloc (.cells #[.int .i64 0, .string ⟨#[]⟩, .int .i64 0, .int .i64 0] RT))
  have hlf : letB c = false := by
    cases h : letB c with
    | false => rfl
    | true => rw [let_not_dig h] at hl; cases hl
  rw [hl] at hd0
  rw [hlf] at hl0
  unfold strV u8V at *
  clear hc
  go_enter Tryz.func60, Tryz.ntmps60
  go_wp2_with (first | (go_at_call 56; refine hl0.mono ?_; rintro e w' ⟨rfl, rfl⟩; clear hl0) | (go_at_call 41; refine hd0.mono ?_; rintro e w' ⟨rfl, rfl⟩; clear hd0))
  generalize hW1 : (w.alloc (.cells #[.int .i64 0, .string ⟨#[]⟩, .int .i64 0, .int .i64 0] RT)) = W1 at *
  clear hW1
  go_loop [8] (fun v => ∃ j : Nat, i ≤ j ∧ j ≤ t.length ∧ v = .int .i64 j ∧ Hid (WordTo digB t i j)) (fun v => t.length - (intOf v).toNat)
  case atStart => exact ⟨i, Nat.le_refl _, by omega, rfl, Lib.hid (by simp [WordTo])⟩
  case round =>
    obtain ⟨j, hij, hj, rfl, HW⟩ := hrel
    by_cases hlt : j < t.length
    · obtain ⟨c', hc'⟩ := get_some hlt
      have hidx' := idx_str t j c' hc'
      have hl1 := HL.out c' W1
      have hd1 := HD.out c' W1
      cases hdb : digB c' with
      | true =>
        rw [hdb] at hd1
        have HS := Lib.hid (HW.out.step hij hc' hdb)
        clear hc' hl1 hdb
        go_wp2_with (go_at_call 41; refine hd1.mono ?_; rintro e w' ⟨rfl, rfl⟩; clear hd1)
        go_round
        case rel => exact ⟨j + 1, by omega, by omega, by go_num, HS⟩
        case measure => simp [intOf]; omega
      | false =>
        rw [hdb] at hd1
        have hst := HW.out.stop hij hj (fun c hc => by rw [hc'] at hc; cases hc; exact hdb)
        have hdj := drop_cons hc'
        cases hlb : letB c' with
        | true =>
          rw [hlb] at hl1
          have HR : Hid (oneL i (t.drop i) = .bad 113) := Lib.hid (by rw [HO.out, num_word2 hst.1 (hst.2.1.trans hdj) hlb])
          clear hc' hlb hdb hdj
          have hext := ext_str t i j
          obtain ⟨S, hS⟩ : ∃ S, (t.drop i).take (j - i) = S := ⟨_, rfl⟩
          rw [hS] at hext hst
          have HSL := Lib.hid hst.2.2
          have hS' := hS
          clear hst hS HW
          have hr0 := HT.out.cell 0
          have hr1 := HT.out.cell 1
          have hr2 := HT.out.cell 2
          have hr3 := HT.out.cell 3
          have hf0 := HT.out.frozen 0
          have hf1 := HT.out.frozen 1
          have hf2 := HT.out.frozen 2
          have hf3 := HT.out.frozen 3
          simp only [List.getElem?_toArray, List.getElem?_cons_succ, List.getElem?_cons_zero] at hr0 hr1 hr2 hr3
          clear hS'
          cases hn : numL S with
          | none =>
            have hnum := number_none S W1 (by have := HSL.out; omega) hn
            clear hn
            go_wp2_with (first | (go_at_call 56; refine hl1.mono ?_; rintro e w' ⟨rfl, rfl⟩; clear hl1) | (go_at_call 41; refine hd1.mono ?_; rintro e w' ⟨rfl, rfl⟩; clear hd1) | (go_at_call 26; refine hnum.mono ?_; rintro e w' ⟨⟨v, rfl⟩, rfl⟩; clear hnum))
            have B3 := (((HT.out.set 0 (.int .i64 0)).set 1 (.string ⟨#[]⟩)).set 2 (.int .i64 0)).set 3 (.int .i64 0)
            have q0 := B3.cell 0
            have q1 := B3.cell 1
            have q2 := B3.cell 2
            have q3 := B3.cell 3
            simp only [List.setIfInBounds_toArray, List.set_cons_zero, List.set_cons_succ, List.getElem?_toArray, List.getElem?_cons_succ, List.getElem?_cons_zero] at q0 q1 q2 q3
            refine bodyPost_ret (v := .tuple #[.agg #[.int .i64 0, .string ⟨#[]⟩, .int .i64 0, .int .i64 0], .int .i64 0, .int .i64 113]) (by simp [results, Tryz.results60, go_sem, q0, q1, q2, q3]) rfl ⟨?_, ?_⟩
            rotate_left 1
            · exact ((((HB.out).setCell (p := ⟨w.heap.size, 0, none⟩) (Nat.le_refl _) _).setCell (p := ⟨w.heap.size, 1, none⟩) (Nat.le_refl _) _).setCell (p := ⟨w.heap.size, 2, none⟩) (Nat.le_refl _) _).setCell (p := ⟨w.heap.size, 3, none⟩) (Nat.le_refl _) _
            rw [HR.out]; rfl
          | some n =>
            have hnum := number_some S n W1 (by have := HSL.out; omega) hn
            clear hn
            go_wp2_with (first | (go_at_call 56; refine hl1.mono ?_; rintro e w' ⟨rfl, rfl⟩; clear hl1) | (go_at_call 41; refine hd1.mono ?_; rintro e w' ⟨rfl, rfl⟩; clear hd1) | (go_at_call 26; refine hnum.mono ?_; rintro e w' ⟨rfl, rfl⟩; clear hnum))
            have B3 := (((HT.out.set 0 (.int .i64 0)).set 1 (.string ⟨#[]⟩)).set 2 (.int .i64 0)).set 3 (.int .i64 0)
            have q0 := B3.cell 0
            have q1 := B3.cell 1
            have q2 := B3.cell 2
            have q3 := B3.cell 3
            simp only [List.setIfInBounds_toArray, List.set_cons_zero, List.set_cons_succ, List.getElem?_toArray, List.getElem?_cons_succ, List.getElem?_cons_zero] at q0 q1 q2 q3
            refine bodyPost_ret (v := .tuple #[.agg #[.int .i64 0, .string ⟨#[]⟩, .int .i64 0, .int .i64 0], .int .i64 0, .int .i64 113]) (by simp [results, Tryz.results60, go_sem, q0, q1, q2, q3]) rfl ⟨?_, ?_⟩
            rotate_left 1
            · exact ((((HB.out).setCell (p := ⟨w.heap.size, 0, none⟩) (Nat.le_refl _) _).setCell (p := ⟨w.heap.size, 1, none⟩) (Nat.le_refl _) _).setCell (p := ⟨w.heap.size, 2, none⟩) (Nat.le_refl _) _).setCell (p := ⟨w.heap.size, 3, none⟩) (Nat.le_refl _) _
            rw [HR.out]; rfl
        | false =>
          rw [hlb] at hl1
          have hw := num_word1 hst.1 hst.2.1 (fun c h => by rw [hdj] at h; cases h; exact hdb) (fun c h => by rw [hdj] at h; cases h; exact hlb)
          clear hc' hlb hdb hdj
          have hext := ext_str t i j
          obtain ⟨S, hS⟩ : ∃ S, (t.drop i).take (j - i) = S := ⟨_, rfl⟩
          rw [hS] at hext hst
          have HSL := Lib.hid hst.2.2
          have hS' := hS
          clear hst hS HW
          have hr0 := HT.out.cell 0
          have hr1 := HT.out.cell 1
          have hr2 := HT.out.cell 2
          have hr3 := HT.out.cell 3
          have hf0 := HT.out.frozen 0
          have hf1 := HT.out.frozen 1
          have hf2 := HT.out.frozen 2
          have hf3 := HT.out.frozen 3
          simp only [List.getElem?_toArray, List.getElem?_cons_succ, List.getElem?_cons_zero] at hr0 hr1 hr2 hr3
          rw [hS'] at hw
          clear hS'
          cases hn : numL S with
          | none =>
            have HR : Hid (oneL i (t.drop i) = .bad 113) := Lib.hid (by rw [HO.out, hw.1, hn])
            clear hw
            have hnum := number_none S W1 (by have := HSL.out; omega) hn
            clear hn
            go_wp2_with (first | (go_at_call 56; refine hl1.mono ?_; rintro e w' ⟨rfl, rfl⟩; clear hl1) | (go_at_call 41; refine hd1.mono ?_; rintro e w' ⟨rfl, rfl⟩; clear hd1) | (go_at_call 26; refine hnum.mono ?_; rintro e w' ⟨⟨v, rfl⟩, rfl⟩; clear hnum))
            have B3 := (((HT.out.set 0 (.int .i64 0)).set 1 (.string ⟨#[]⟩)).set 2 (.int .i64 0)).set 3 (.int .i64 0)
            have q0 := B3.cell 0
            have q1 := B3.cell 1
            have q2 := B3.cell 2
            have q3 := B3.cell 3
            simp only [List.setIfInBounds_toArray, List.set_cons_zero, List.set_cons_succ, List.getElem?_toArray, List.getElem?_cons_succ, List.getElem?_cons_zero] at q0 q1 q2 q3
            refine bodyPost_ret (v := .tuple #[.agg #[.int .i64 0, .string ⟨#[]⟩, .int .i64 0, .int .i64 0], .int .i64 0, .int .i64 113]) (by simp [results, Tryz.results60, go_sem, q0, q1, q2, q3]) rfl ⟨?_, ?_⟩
            rotate_left 1
            · exact ((((HB.out).setCell (p := ⟨w.heap.size, 0, none⟩) (Nat.le_refl _) _).setCell (p := ⟨w.heap.size, 1, none⟩) (Nat.le_refl _) _).setCell (p := ⟨w.heap.size, 2, none⟩) (Nat.le_refl _) _).setCell (p := ⟨w.heap.size, 3, none⟩) (Nat.le_refl _) _
            rw [HR.out]; rfl
          | some n =>
            have HR : Hid (oneR t.length (oneL i (t.drop i)) = .tuple #[.agg #[.int .i64 3, .string ⟨S.toArray⟩, .int .i64 n, .int .i64 i], .int .i64 j, .int .i64 0]) := Lib.hid (by
              rw [HO.out, hw.1, hn]
              simp only [oneR, encT, strV, hw.2, List.length_drop]
              rw [show ((t.length - (t.length - j) : Nat) : Int) = (j : Int) by omega])
            have hnum := number_some S n W1 (by have := HSL.out; omega) hn
            clear hn hw
            go_wp2_with (first | (go_at_call 56; refine hl1.mono ?_; rintro e w' ⟨rfl, rfl⟩; clear hl1) | (go_at_call 41; refine hd1.mono ?_; rintro e w' ⟨rfl, rfl⟩; clear hd1) | (go_at_call 26; refine hnum.mono ?_; rintro e w' ⟨rfl, rfl⟩; clear hnum))
            have B3 := (((HT.out.set 0 (.int .i64 3)).set 1 (.string ⟨List.toArray S⟩)).set 2 (.int .i64 n)).set 3 (.int .i64 i)
            have q0 := B3.cell 0
            have q1 := B3.cell 1
            have q2 := B3.cell 2
            have q3 := B3.cell 3
            simp only [List.setIfInBounds_toArray, List.set_cons_zero, List.set_cons_succ, List.getElem?_toArray, List.getElem?_cons_succ, List.getElem?_cons_zero] at q0 q1 q2 q3
            refine bodyPost_ret (v := .tuple #[.agg #[.int .i64 3, .string ⟨List.toArray S⟩, .int .i64 n, .int .i64 i], .int .i64 j, .int .i64 0]) (by simp [results, Tryz.results60, go_sem, q0, q1, q2, q3]) rfl ⟨?_, ?_⟩
            rotate_left 1
            · exact ((((HB.out).setCell (p := ⟨w.heap.size, 0, none⟩) (Nat.le_refl _) _).setCell (p := ⟨w.heap.size, 1, none⟩) (Nat.le_refl _) _).setCell (p := ⟨w.heap.size, 2, none⟩) (Nat.le_refl _) _).setCell (p := ⟨w.heap.size, 3, none⟩) (Nat.le_refl _) _
            rw [HR.out]
    · obtain rfl : j = t.length := by omega
      have hst := HW.out.stop hij hj (fun c hc => by have := (List.getElem?_eq_some_iff.1 hc).1; omega)
      have hw := num_word1 hst.1 hst.2.1 (fun c h => by rw [List.drop_length] at h; cases h) (fun c h => by rw [List.drop_length] at h; cases h)
      have hl1 := HL.out c W1
      have hd1 := HD.out c W1
      have hext := ext_str t i t.length
      obtain ⟨S, hS⟩ : ∃ S, (t.drop i).take (t.length - i) = S := ⟨_, rfl⟩
      rw [hS] at hext hst
      have HSL := Lib.hid hst.2.2
      have hS' := hS
      clear hst hS HW
      have hr0 := HT.out.cell 0
      have hr1 := HT.out.cell 1
      have hr2 := HT.out.cell 2
      have hr3 := HT.out.cell 3
      have hf0 := HT.out.frozen 0
      have hf1 := HT.out.frozen 1
      have hf2 := HT.out.frozen 2
      have hf3 := HT.out.frozen 3
      simp only [List.getElem?_toArray, List.getElem?_cons_succ, List.getElem?_cons_zero] at hr0 hr1 hr2 hr3
      rw [hS'] at hw
      clear hS'
      cases hn : numL S with
      | none =>
        have HR : Hid (oneL i (t.drop i) = .bad 113) := Lib.hid (by rw [HO.out, hw.1, hn])
        clear hw
        have hnum := number_none S W1 (by have := HSL.out; omega) hn
        clear hn
        go_wp2_with (first | (go_at_call 56; refine hl1.mono ?_; rintro e w' ⟨rfl, rfl⟩; clear hl1) | (go_at_call 41; refine hd1.mono ?_; rintro e w' ⟨rfl, rfl⟩; clear hd1) | (go_at_call 26; refine hnum.mono ?_; rintro e w' ⟨⟨v, rfl⟩, rfl⟩; clear hnum))
        have B3 := (((HT.out.set 0 (.int .i64 0)).set 1 (.string ⟨#[]⟩)).set 2 (.int .i64 0)).set 3 (.int .i64 0)
        have q0 := B3.cell 0
        have q1 := B3.cell 1
        have q2 := B3.cell 2
        have q3 := B3.cell 3
        simp only [List.setIfInBounds_toArray, List.set_cons_zero, List.set_cons_succ, List.getElem?_toArray, List.getElem?_cons_succ, List.getElem?_cons_zero] at q0 q1 q2 q3
        refine bodyPost_ret (v := .tuple #[.agg #[.int .i64 0, .string ⟨#[]⟩, .int .i64 0, .int .i64 0], .int .i64 0, .int .i64 113]) (by simp [results, Tryz.results60, go_sem, q0, q1, q2, q3]) rfl ⟨?_, ?_⟩
        rotate_left 1
        · exact ((((HB.out).setCell (p := ⟨w.heap.size, 0, none⟩) (Nat.le_refl _) _).setCell (p := ⟨w.heap.size, 1, none⟩) (Nat.le_refl _) _).setCell (p := ⟨w.heap.size, 2, none⟩) (Nat.le_refl _) _).setCell (p := ⟨w.heap.size, 3, none⟩) (Nat.le_refl _) _
        rw [HR.out]; rfl
      | some n =>
        have HR : Hid (oneR t.length (oneL i (t.drop i)) = .tuple #[.agg #[.int .i64 3, .string ⟨S.toArray⟩, .int .i64 n, .int .i64 i], .int .i64 t.length, .int .i64 0]) := Lib.hid (by
          rw [HO.out, hw.1, hn]
          simp only [oneR, encT, strV, hw.2, List.length_drop]
          rw [show ((t.length - (t.length - t.length) : Nat) : Int) = (t.length : Int) by omega])
        have hnum := number_some S n W1 (by have := HSL.out; omega) hn
        clear hn hw
        go_wp2_with (first | (go_at_call 56; refine hl1.mono ?_; rintro e w' ⟨rfl, rfl⟩; clear hl1) | (go_at_call 41; refine hd1.mono ?_; rintro e w' ⟨rfl, rfl⟩; clear hd1) | (go_at_call 26; refine hnum.mono ?_; rintro e w' ⟨rfl, rfl⟩; clear hnum))
        have B3 := (((HT.out.set 0 (.int .i64 3)).set 1 (.string ⟨List.toArray S⟩)).set 2 (.int .i64 n)).set 3 (.int .i64 i)
        have q0 := B3.cell 0
        have q1 := B3.cell 1
        have q2 := B3.cell 2
        have q3 := B3.cell 3
        simp only [List.setIfInBounds_toArray, List.set_cons_zero, List.set_cons_succ, List.getElem?_toArray, List.getElem?_cons_succ, List.getElem?_cons_zero] at q0 q1 q2 q3
        refine bodyPost_ret (v := .tuple #[.agg #[.int .i64 3, .string ⟨List.toArray S⟩, .int .i64 n, .int .i64 i], .int .i64 t.length, .int .i64 0]) (by simp [results, Tryz.results60, go_sem, q0, q1, q2, q3]) rfl ⟨?_, ?_⟩
        rotate_left 1
        · exact ((((HB.out).setCell (p := ⟨w.heap.size, 0, none⟩) (Nat.le_refl _) _).setCell (p := ⟨w.heap.size, 1, none⟩) (Nat.le_refl _) _).setCell (p := ⟨w.heap.size, 2, none⟩) (Nat.le_refl _) _).setCell (p := ⟨w.heap.size, 3, none⟩) (Nat.le_refl _) _
        rw [HR.out]
end Go.Proofs.YtdloadeidijcoaaGreatDoor
namespace Go.Proofs.YtdloadeidijcoaaGreatDoor
open Go.RowKit

theorem one_quo {i : Int} {q : List UInt8} : oneL i (34 :: q) = (match quoL q with | none => .bad 111 | some (s, r) => .tok ⟨4, s, 0, i⟩ r) := by
  unfold oneL
  simp only [show letB 34 = false by decide, show digB 34 = false by decide]
  rfl
theorem one_sig {i : Int} {c : UInt8} {q : List UInt8} (h1 : letB c = false) (h2 : digB c = false) (h3 : c ≠ 34) : oneL i (c :: q) = (match signL.find? (fun w => w.isPrefixOf (c :: q)) with | some w => .tok ⟨5, w, 0, i⟩ ((c :: q).drop w.length) | none => .bad 110) := by
  unfold oneL
  simp only [h1, h2]
  rw [if_neg (by simp), if_neg (by simp), if_neg h3]
  cases List.find? (fun w => w.isPrefixOf (c :: q)) signL <;> rfl
set_option maxRecDepth 100000 in
set_option maxHeartbeats 4000000 in
theorem one_str (t : List UInt8) (i : Nat) (w : World) (ht : t.length ≤ 1000000) (hc : t[i]? = some 34) :
    Calls Tryz.prog 60 #[strV t, .int .i64 i] w fun e w' => e = .returned (oneR t.length (oneL i (t.drop i))) ∧ Below w.heap.size w w' := by
  have hi : i < t.length := (List.getElem?_eq_some_iff.1 hc).1
  have hidx := idx_str t i 34 hc
  have HT := Lib.hid (tok_zero w)
  have HB := Lib.hid ((Below.refl w.heap.size w).alloc (Nat.le_refl _) (.cells #[.int .i64 0, .string ⟨#[]⟩, .int .i64 0, .int .i64 0] RT))
  have hl0 := rletter_any 34 (w.alloc (.cells #[.int .i64 0, .string ⟨#[]⟩, .int .i64 0, .int .i64 0] RT))
  have hd0 := rdigit_any 34 (w.alloc (.cells #[.int .i64 0, .string ⟨#[]⟩, .int .i64 0, .int .i64 0] RT))
  have hq0 := quoted_any t (t.drop (i + 1)) i (w.alloc (.cells #[.int .i64 0, .string ⟨#[]⟩, .int .i64 0, .int .i64 0] RT)) ht (drop_cons hc)
  have HO : Hid (oneL i (t.drop i) = (match quoL (t.drop (i + 1)) with | none => .bad 111 | some (s, r) => .tok ⟨4, s, 0, i⟩ r)) := Lib.hid (by
    rw [drop_cons hc]; exact one_quo)
  have HQL := Lib.hid (fun s r h => quoL_len _ (t.drop (i + 1)) s r (Nat.le_refl _) h)
  rw [show letB 34 = false by decide] at hl0
  rw [show digB 34 = false by decide] at hd0
  generalize t.drop (i + 1) = q at *
  unfold strV u8V at *
  clear hc
  rcases hqq : quoL q with _ | ⟨s, r⟩
  · rw [hqq] at hq0
    have HR : Hid (oneL i (t.drop i) = .bad 111) := Lib.hid (by rw [HO.out, hqq])
    clear hqq HQL
    unfold quoR strV at hq0
    go_enter Tryz.func60, Tryz.ntmps60
    go_wp2_with (first
      | (go_at_call 56; refine hl0.mono ?_; rintro e w' ⟨rfl, rfl⟩; clear hl0)
      | (go_at_call 41; refine hd0.mono ?_; rintro e w' ⟨rfl, rfl⟩; clear hd0)
      | (go_at_call 74
         refine hq0.mono ?_
         rintro e w3 ⟨rfl, hb3⟩
         have HB3 := Lib.hid (HB.out.trans (hb3.mono HB.out.size))
         have HT3 := Lib.hid (HT.out.below hb3 HT.out.lt)
         clear hb3 hq0
         have hr0 := HT3.out.cell 0
         have hr1 := HT3.out.cell 1
         have hr2 := HT3.out.cell 2
         have hr3 := HT3.out.cell 3
         have hf0 := HT3.out.frozen 0
         have hf1 := HT3.out.frozen 1
         have hf2 := HT3.out.frozen 2
         have hf3 := HT3.out.frozen 3
         simp only [List.getElem?_toArray, List.getElem?_cons_succ, List.getElem?_cons_zero] at hr0 hr1 hr2 hr3
         skip))
    have B3 := (((HT3.out.set 0 (.int .i64 0)).set 1 (.string ⟨#[]⟩)).set 2 (.int .i64 0)).set 3 (.int .i64 0)
    have q0 := B3.cell 0
    have q1 := B3.cell 1
    have q2 := B3.cell 2
    have q3 := B3.cell 3
    simp only [List.setIfInBounds_toArray, List.set_cons_zero, List.set_cons_succ, List.getElem?_toArray, List.getElem?_cons_succ, List.getElem?_cons_zero] at q0 q1 q2 q3
    refine bodyPost_ret (v := .tuple #[.agg #[.int .i64 0, .string ⟨#[]⟩, .int .i64 0, .int .i64 0], .int .i64 0, .int .i64 111]) (by simp [results, Tryz.results60, go_sem, q0, q1, q2, q3]) rfl ⟨?_, ?_⟩
    rotate_left 1
    · exact ((((HB3.out).setCell (p := ⟨w.heap.size, 0, none⟩) (Nat.le_refl _) _).setCell (p := ⟨w.heap.size, 1, none⟩) (Nat.le_refl _) _).setCell (p := ⟨w.heap.size, 2, none⟩) (Nat.le_refl _) _).setCell (p := ⟨w.heap.size, 3, none⟩) (Nat.le_refl _) _
    rw [HR.out]; rfl
  · rw [hqq] at hq0
    have HR : Hid (oneL i (t.drop i) = .tok ⟨4, s, 0, i⟩ r) := Lib.hid (by rw [HO.out, hqq])
    clear hqq HQL
    simp only [quoR, strV] at hq0
    generalize hJ : ((t.length - r.length : Nat) : Int) = J at *
    have hJ0 : decide (J < 0) = false := decide_eq_false (by omega)
    have HJ := Lib.hid hJ
    clear hJ
    go_enter Tryz.func60, Tryz.ntmps60
    go_wp2_with (first
      | (go_at_call 56; refine hl0.mono ?_; rintro e w' ⟨rfl, rfl⟩; clear hl0)
      | (go_at_call 41; refine hd0.mono ?_; rintro e w' ⟨rfl, rfl⟩; clear hd0)
      | (go_at_call 74
         refine hq0.mono ?_
         rintro e w3 ⟨rfl, hb3⟩
         have HB3 := Lib.hid (HB.out.trans (hb3.mono HB.out.size))
         have HT3 := Lib.hid (HT.out.below hb3 HT.out.lt)
         clear hb3 hq0
         have hr0 := HT3.out.cell 0
         have hr1 := HT3.out.cell 1
         have hr2 := HT3.out.cell 2
         have hr3 := HT3.out.cell 3
         have hf0 := HT3.out.frozen 0
         have hf1 := HT3.out.frozen 1
         have hf2 := HT3.out.frozen 2
         have hf3 := HT3.out.frozen 3
         simp only [List.getElem?_toArray, List.getElem?_cons_succ, List.getElem?_cons_zero] at hr0 hr1 hr2 hr3
         skip))
    have B3 := (((HT3.out.set 0 (.int .i64 4)).set 1 (.string ⟨List.toArray s⟩)).set 2 (.int .i64 0)).set 3 (.int .i64 i)
    have q0 := B3.cell 0
    have q1 := B3.cell 1
    have q2 := B3.cell 2
    have q3 := B3.cell 3
    simp only [List.setIfInBounds_toArray, List.set_cons_zero, List.set_cons_succ, List.getElem?_toArray, List.getElem?_cons_succ, List.getElem?_cons_zero] at q0 q1 q2 q3
    refine bodyPost_ret (v := .tuple #[.agg #[.int .i64 4, .string ⟨List.toArray s⟩, .int .i64 0, .int .i64 i], .int .i64 J, .int .i64 0]) (by simp [results, Tryz.results60, go_sem, q0, q1, q2, q3]) rfl ⟨?_, ?_⟩
    rotate_left 1
    · exact ((((HB3.out).setCell (p := ⟨w.heap.size, 0, none⟩) (Nat.le_refl _) _).setCell (p := ⟨w.heap.size, 1, none⟩) (Nat.le_refl _) _).setCell (p := ⟨w.heap.size, 2, none⟩) (Nat.le_refl _) _).setCell (p := ⟨w.heap.size, 3, none⟩) (Nat.le_refl _) _
    rw [HR.out, ← HJ.out]; rfl
theorem find_take {p : List UInt8 → Bool} : ∀ (l : List (List UInt8)) (k : Nat) (x : List UInt8), (∀ y ∈ l.take k, p y = false) → l[k]? = some x → p x = true → l.find? p = some x
  | [], k, x, _, h, _ => by simp at h
  | a :: l, 0, x, _, h, hp => by simp at h; subst h; rw [List.find?_cons_of_pos hp]
  | a :: l, k + 1, x, hn, h, hp => by
    rw [List.find?_cons_of_neg (by simp [hn a (by simp)])]
    exact find_take l k x (fun y hy => hn y (by simp [hy])) (by simpa using h) hp
set_option maxRecDepth 100000 in
set_option maxHeartbeats 4000000 in
theorem one_sign' (t : List UInt8) (i : Nat) (c : UInt8) (w : World) (ht : t.length ≤ 1000000) (hc : t[i]? = some c) (h1 : letB c = false) (h2 : digB c = false) (h3 : c ≠ 34) :
    Calls Tryz.prog 60 #[strV t, .int .i64 i] w fun e w' => e = .returned (oneR t.length (oneL i (t.drop i))) ∧ Below w.heap.size w w' := by
  have hi : i < t.length := (List.getElem?_eq_some_iff.1 hc).1
  have hidx := idx_str t i c hc
  have HT := Lib.hid (tok_zero w)
  have HB := Lib.hid ((Below.refl w.heap.size w).alloc (Nat.le_refl _) (.cells #[.int .i64 0, .string ⟨#[]⟩, .int .i64 0, .int .i64 0] RT))
  have hl0 := rletter_any c (w.alloc (.cells #[.int .i64 0, .string ⟨#[]⟩, .int .i64 0, .int .i64 0] RT))
  have hd0 := rdigit_any c (w.alloc (.cells #[.int .i64 0, .string ⟨#[]⟩, .int .i64 0, .int .i64 0] RT))
  have hs0 := rsigns_any (w.alloc (.cells #[.int .i64 0, .string ⟨#[]⟩, .int .i64 0, .int .i64 0] RT))
  have HO : Hid (oneL i (t.drop i) = (match signL.find? (fun w => w.isPrefixOf (t.drop i)) with | some w => .tok ⟨5, w, 0, i⟩ ((t.drop i).drop w.length) | none => .bad 110)) := Lib.hid (by
    have := one_sig (i := i) (q := t.drop (i + 1)) h1 h2 h3
    rw [← drop_cons hc] at this; exact this)
  have HA : Hid (∀ (s : List UInt8) (w : World), s ∈ signL → Calls Tryz.prog 58 #[.string ⟨t.toArray⟩, .int .i64 i, .string ⟨s.toArray⟩] w fun e w' => e = .returned (.bool (s.isPrefixOf (t.drop i))) ∧ w = w') := Lib.hid (fun s w hs => at_any t s i w (by omega) ht (by have := (sign_fact s hs).1; omega))
  have f34 : ((c.toNat : Int) == 34) = false := u8_ne h3
  rw [h1] at hl0
  rw [h2] at hd0
  unfold strV u8V at *
  clear hc h1 h2 h3
  go_enter Tryz.func60, Tryz.ntmps60
  go_wp2_with (first
    | (go_at_call 56; refine hl0.mono ?_; rintro e w' ⟨rfl, rfl⟩; clear hl0)
    | (go_at_call 41; refine hd0.mono ?_; rintro e w' ⟨rfl, rfl⟩; clear hd0)
    | (go_at_call 27
       refine hs0.mono ?_
       rintro e w3 ⟨rfl, hs3, hb3⟩
       have HS3 := Lib.hid hs3
       have HB3 := Lib.hid (HB.out.trans (hb3.mono HB.out.size))
       have HT3 := Lib.hid (HT.out.below hb3 HT.out.lt)
       clear hb3 hs3 hs0))
  go_loop [14] (fun v => ∃ k : Nat, k ≤ 31 ∧ v = .int .i64 k ∧ Hid (∀ y ∈ signL.take k, y.isPrefixOf (t.drop i) = false)) (fun v => 31 - (intOf v).toNat)
  case atStart => exact ⟨0, by omega, rfl, Lib.hid (by simp)⟩
  case round =>
    obtain ⟨k, hk, rfl, HK⟩ := hrel
    have hsl : signL.length = 31 := by decide
    have HSL := Lib.hid hsl
    clear hsl
    by_cases hlt : k < 31
    · obtain ⟨x, hx⟩ := get_some (xs := signL) (k := k) (by rw [HSL.out]; omega)
      obtain ⟨b, o, hA, _, hc⟩ := HS3.out.at_ k x hx
      obtain ⟨rfl, rfl⟩ : w.heap.size + 1 = b ∧ 0 = o := by
        have := Option.some.inj hA
        injection this with h1 h2
        exact ⟨by simpa using h1, h2⟩
      rw [Nat.zero_add] at hc
      clear hA
      have hat := HA.out x w3 (List.mem_of_getElem? hx)
      have HX := Lib.hid hx
      have hk0 : (0 : Int) ≤ (k : Int) := by omega
      have hk1 : (k : Int) < 31 := by omega
      clear hx
      unfold strV at hc
      cases hp : x.isPrefixOf (t.drop i) with
      | false =>
        rw [hp] at hat
        have HP := Lib.hid hp
        clear hp
        go_wp2_with (go_at_call 58; refine hat.mono ?_; rintro e w' ⟨rfl, rfl⟩; clear hat)
        go_round
        case rel => exact ⟨k + 1, by omega, by go_num, Lib.hid (by
          intro y hy
          rw [List.take_add_one, HX.out] at hy
          rcases List.mem_append.1 hy with hy | hy
          · exact HK.out y hy
          · simp at hy; rw [hy]; exact HP.out)⟩
        case measure => simp [intOf]; omega
      | true =>
        rw [hp] at hat
        have hxl := (List.isPrefixOf_iff_prefix.1 hp).length_le
        have HR : Hid (oneR t.length (oneL i (t.drop i)) = .tuple #[.agg #[.int .i64 5, .string ⟨x.toArray⟩, .int .i64 0, .int .i64 i], .int .i64 ((i : Int) + (x.length : Int)), .int .i64 0]) := Lib.hid (by
          rw [HO.out, find_take signL k x HK.out HX.out hp]
          simp only [oneR, encT, strV]
          rw [List.length_drop] at hxl
          rw [List.length_drop, List.length_drop]
          rw [show ((t.length - (t.length - i - x.length) : Nat) : Int) = (i : Int) + (x.length : Int) by omega])
        clear hp hxl
        have hr0 := HT3.out.cell 0
        have hr1 := HT3.out.cell 1
        have hr2 := HT3.out.cell 2
        have hr3 := HT3.out.cell 3
        have hf0 := HT3.out.frozen 0
        have hf1 := HT3.out.frozen 1
        have hf2 := HT3.out.frozen 2
        have hf3 := HT3.out.frozen 3
        simp only [List.getElem?_toArray, List.getElem?_cons_succ, List.getElem?_cons_zero] at hr0 hr1 hr2 hr3
        go_wp2_with (go_at_call 58; refine hat.mono ?_; rintro e w' ⟨rfl, rfl⟩; clear hat)
        have HC := Lib.hid hc
        have hx2 : x.length ≤ 2 := (sign_fact x (List.mem_of_getElem? HX.out)).1
        have hwr : IntKind.i64.wrap ((i : Int) + (x.length : Int)) = (i : Int) + (x.length : Int) := IntWalk.i64_in _ (by omega)
        clear hr0 hr1 hr2 hr3 hf0 hf1 hf2 hf3 hc
        refine wp_region_held_drew (S := fun w' => w'.cell? ⟨w.heap.size + 1, k, none⟩ = some (.string ⟨x.toArray⟩)) (by kernel_rfl) HC.out ?_
        intro _
        have HB4 := Lib.hid (below_draw HB3.out 1)
        have HT4 : Hid (BlkAt (w3.drewN 1) w.heap.size RT #[.int .i64 0, .string ⟨#[]⟩, .int .i64 0, .int .i64 0]) := Lib.hid HT3.out
        have HC4 : Hid ((w3.drewN 1).cell? ⟨w.heap.size + 1, k, none⟩ = some (.string ⟨x.toArray⟩)) := Lib.hid HC.out
        change wpAnyH _ _ _ _ _ _ _ _ (w3.drewN 1)
        generalize w3.drewN 1 = W4 at *
        have hHeld := HC4.out
        refine take_drop 0 (v := ?_) rfl (by kernel_rfl) (by kernel_rfl) (by kernel_rfl) (fun _ _ _ h => h) (by rfl) ?_ (by assumption) ?_
        rotate_left 1
        · (intro w hSw; (try dsimp only at hSw); go_simp; try with_reducible rfl)
        try simp only [Act.put, List.setIfInBounds_toArray, List.set_cons_zero, List.set_cons_succ]
        refine take_drop 1 (v := ?_) rfl (by kernel_rfl) (by kernel_rfl) (by kernel_rfl) (fun _ _ _ h => h) (by rfl) ?_ (by assumption) ?_
        rotate_left 1
        · (intro w hSw; (try dsimp only at hSw); go_simp; try with_reducible rfl)
        try simp only [Act.put, List.setIfInBounds_toArray, List.set_cons_zero, List.set_cons_succ]
        refine take_drop 2 (v := ?_) rfl (by kernel_rfl) (by kernel_rfl) (by kernel_rfl) (fun _ _ _ h => h) (by rfl) ?_ (by assumption) ?_
        rotate_left 1
        · (intro w hSw; (try dsimp only at hSw); go_simp; try with_reducible rfl)
        try simp only [Act.put, List.setIfInBounds_toArray, List.set_cons_zero, List.set_cons_succ]
        refine take_drop 3 (v := ?_) rfl (by kernel_rfl) (by kernel_rfl) (by kernel_rfl) (fun _ _ _ h => h) (by rfl) ?_ (by assumption) ?_
        rotate_left 1
        · (intro w hSw; (try dsimp only at hSw); go_simp; try with_reducible rfl)
        try simp only [Act.put, List.setIfInBounds_toArray, List.set_cons_zero, List.set_cons_succ]
        refine take_drop 4 (v := ?_) rfl (by kernel_rfl) (by kernel_rfl) (by kernel_rfl) (fun _ _ _ h => h) (by rfl) ?_ (by assumption) ?_
        rotate_left 1
        · (intro w hSw; (try dsimp only at hSw); go_simp; try with_reducible rfl)
        try simp only [Act.put, List.setIfInBounds_toArray, List.set_cons_zero, List.set_cons_succ]
        refine take_drop 5 (v := ?_) rfl (by kernel_rfl) (by kernel_rfl) (by kernel_rfl) (fun _ _ _ h => h) (by rfl) ?_ (by assumption) ?_
        rotate_left 1
        · (intro w hSw; (try dsimp only at hSw); go_simp; try with_reducible rfl)
        try simp only [Act.put, List.setIfInBounds_toArray, List.set_cons_zero, List.set_cons_succ]
        refine take_drop 6 (v := ?_) rfl (by kernel_rfl) (by kernel_rfl) (by kernel_rfl) (fun _ _ _ h => h) (by rfl) ?_ (by assumption) ?_
        rotate_left 1
        · (intro w hSw; (try dsimp only at hSw); go_simp; try with_reducible rfl)
        try simp only [Act.put, List.setIfInBounds_toArray, List.set_cons_zero, List.set_cons_succ]
        refine take_drop 7 (v := ?_) rfl (by kernel_rfl) (by kernel_rfl) (by kernel_rfl) (fun _ _ _ h => h) (by rfl) ?_ (by assumption) ?_
        rotate_left 1
        · (intro w hSw; (try dsimp only at hSw); go_simp; try with_reducible rfl)
        try simp only [Act.put, List.setIfInBounds_toArray, List.set_cons_zero, List.set_cons_succ]
        refine take_drop 8 (v := ?_) rfl (by kernel_rfl) (by kernel_rfl) (by kernel_rfl) (fun _ _ _ h => h) (by rfl) ?_ (by assumption) ?_
        rotate_left 1
        · (intro w hSw; (try dsimp only at hSw); go_simp; try with_reducible rfl)
        try simp only [Act.put, List.setIfInBounds_toArray, List.set_cons_zero, List.set_cons_succ]
        refine take_drop 9 (v := ?_) rfl (by kernel_rfl) (by kernel_rfl) (by kernel_rfl) (fun _ _ _ h => h) (by rfl) ?_ (by assumption) ?_
        rotate_left 1
        · (intro w hSw; (try dsimp only at hSw); go_simp; try with_reducible rfl)
        try simp only [Act.put, List.setIfInBounds_toArray, List.set_cons_zero, List.set_cons_succ]
        refine take_drop 10 (v := ?_) rfl (by kernel_rfl) (by kernel_rfl) (by kernel_rfl) (fun _ _ _ h => h) (by rfl) ?_ (by assumption) ?_
        rotate_left 1
        · (intro w hSw; (try dsimp only at hSw); go_simp; try with_reducible rfl)
        try simp only [Act.put, List.setIfInBounds_toArray, List.set_cons_zero, List.set_cons_succ]
        refine take_drop 11 (v := ?_) rfl (by kernel_rfl) (by kernel_rfl) (by kernel_rfl) (fun _ _ _ h => h) (by rfl) ?_ (by assumption) ?_
        rotate_left 1
        · (intro w hSw; (try dsimp only at hSw); go_simp; try with_reducible rfl)
        try simp only [Act.put, List.setIfInBounds_toArray, List.set_cons_zero, List.set_cons_succ]
        refine take_drop 12 (v := ?_) rfl (by kernel_rfl) (by kernel_rfl) (by kernel_rfl) (fun _ _ _ h => h) (by rfl) ?_ (by assumption) ?_
        rotate_left 1
        · (intro w hSw; (try dsimp only at hSw); go_simp; try with_reducible rfl)
        try simp only [Act.put, List.setIfInBounds_toArray, List.set_cons_zero, List.set_cons_succ]
        have hr0 := HT4.out.cell 0
        have hr1 := HT4.out.cell 1
        have hr2 := HT4.out.cell 2
        have hr3 := HT4.out.cell 3
        have hf0 := HT4.out.frozen 0
        have hf1 := HT4.out.frozen 1
        have hf2 := HT4.out.frozen 2
        have hf3 := HT4.out.frozen 3
        simp only [List.getElem?_toArray, List.getElem?_cons_succ, List.getElem?_cons_zero] at hr0 hr1 hr2 hr3
        refine wpAnyH_ready (rs := [13]) (by kernel_rfl) (by simp) ?_
        refine ready_drop rfl (fun K hK => ?_) AllReadyH.nil
        go_simp
        refine hK.out _ _ ?_ (fun _ => ?_)
        · rw [World.cell?_setCell_other _ _ _ _ (by simp), World.cell?_setCell_other _ _ _ _ (by simp), World.cell?_setCell_other _ _ _ _ (by simp), World.cell?_setCell_other _ _ _ _ (by simp)]
          exact HC4.out
        clear hK
        try simp only [Act.put, List.setIfInBounds_toArray, List.set_cons_zero, List.set_cons_succ]
        refine take_drop 14 (v := ?_) rfl (by kernel_rfl) (by kernel_rfl) (by kernel_rfl) (fun _ _ _ h => h) (by rfl) ?_ (by assumption) ?_
        rotate_left 1
        · (intro w hSw; (try dsimp only at hSw); go_simp; try with_reducible rfl)
        try simp only [Act.put, List.setIfInBounds_toArray, List.set_cons_zero, List.set_cons_succ]
        refine take_drop 15 (v := ?_) rfl (by kernel_rfl) (by kernel_rfl) (by kernel_rfl) (fun _ _ _ h => h) (by rfl) ?_ (by assumption) ?_
        rotate_left 1
        · (intro w hSw; (try dsimp only at hSw); go_simp; try with_reducible rfl)
        try simp only [Act.put, List.setIfInBounds_toArray, List.set_cons_zero, List.set_cons_succ]
        refine wpAnyH_done (by kernel_rfl) ?_ _
        go_wp2
        have B3 := (((HT4.out.set 0 (.int .i64 5)).set 1 (.string ⟨List.toArray x⟩)).set 2 (.int .i64 0)).set 3 (.int .i64 i)
        have q0 := B3.cell 0
        have q1 := B3.cell 1
        have q2 := B3.cell 2
        have q3 := B3.cell 3
        simp only [List.setIfInBounds_toArray, List.set_cons_zero, List.set_cons_succ, List.getElem?_toArray, List.getElem?_cons_succ, List.getElem?_cons_zero] at q0 q1 q2 q3
        refine bodyPost_ret (v := .tuple #[.agg #[.int .i64 5, .string ⟨List.toArray x⟩, .int .i64 0, .int .i64 i], .int .i64 ((i : Int) + (x.length : Int)), .int .i64 0]) (by simp [results, Tryz.results60, go_sem, q0, q1, q2, q3]) rfl ⟨?_, ?_⟩
        rotate_left 1
        · exact ((((HB4.out).setCell (p := ⟨w.heap.size, 0, none⟩) (Nat.le_refl _) _).setCell (p := ⟨w.heap.size, 1, none⟩) (Nat.le_refl _) _).setCell (p := ⟨w.heap.size, 2, none⟩) (Nat.le_refl _) _).setCell (p := ⟨w.heap.size, 3, none⟩) (Nat.le_refl _) _
        rw [HR.out]
    · obtain rfl : k = 31 := by omega
      have HR : Hid (oneL i (t.drop i) = .bad 110) := Lib.hid (by
        rw [HO.out, List.find?_eq_none.2]
        intro y hy
        have := HK.out
        rw [List.take_of_length_le (by rw [HSL.out]; exact Nat.le_refl _)] at this
        simp [this y hy])
      have hr0 := HT3.out.cell 0
      have hr1 := HT3.out.cell 1
      have hr2 := HT3.out.cell 2
      have hr3 := HT3.out.cell 3
      have hf0 := HT3.out.frozen 0
      have hf1 := HT3.out.frozen 1
      have hf2 := HT3.out.frozen 2
      have hf3 := HT3.out.frozen 3
      simp only [List.getElem?_toArray, List.getElem?_cons_succ, List.getElem?_cons_zero] at hr0 hr1 hr2 hr3
      go_wp2_with fail
      have B3 := (((HT3.out.set 0 (.int .i64 0)).set 1 (.string ⟨#[]⟩)).set 2 (.int .i64 0)).set 3 (.int .i64 0)
      have q0 := B3.cell 0
      have q1 := B3.cell 1
      have q2 := B3.cell 2
      have q3 := B3.cell 3
      simp only [List.setIfInBounds_toArray, List.set_cons_zero, List.set_cons_succ, List.getElem?_toArray, List.getElem?_cons_succ, List.getElem?_cons_zero] at q0 q1 q2 q3
      refine bodyPost_ret (v := .tuple #[.agg #[.int .i64 0, .string ⟨#[]⟩, .int .i64 0, .int .i64 0], .int .i64 0, .int .i64 110]) (by simp [results, Tryz.results60, go_sem, q0, q1, q2, q3]) rfl ⟨?_, ?_⟩
      rotate_left 1
      · exact ((((HB3.out).setCell (p := ⟨w.heap.size, 0, none⟩) (Nat.le_refl _) _).setCell (p := ⟨w.heap.size, 1, none⟩) (Nat.le_refl _) _).setCell (p := ⟨w.heap.size, 2, none⟩) (Nat.le_refl _) _).setCell (p := ⟨w.heap.size, 3, none⟩) (Nat.le_refl _) _
      rw [HR.out]; rfl
theorem one_any (t : List UInt8) (i : Nat) (w : World) (ht : t.length ≤ 1000000) (hi : i < t.length) :
    Calls Tryz.prog 60 #[strV t, .int .i64 i] w fun e w' => e = .returned (oneR t.length (oneL i (t.drop i))) ∧ Below w.heap.size w w' := by
  obtain ⟨c, hc⟩ := get_some hi
  cases hl : letB c with
  | true => exact one_word t i c w ht hc hl
  | false =>
    cases hd : digB c with
    | true => exact one_num t i c w ht hc hd
    | false =>
      by_cases h34 : c = 34
      · subst h34; exact one_str t i w ht hc
      · exact one_sign' t i c w ht hc hl hd h34
end Go.Proofs.YtdloadeidijcoaaGreatDoor
