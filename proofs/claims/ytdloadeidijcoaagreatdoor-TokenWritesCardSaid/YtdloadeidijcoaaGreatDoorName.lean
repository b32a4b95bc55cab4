/- DERIVED. Names and places, of the program and of the reference. -/
import Derived.Test.YtdloadeidijcoaaGreatDoorAwake
set_option linter.unusedSimpArgs false
set_option linter.unusedVariables false
namespace Go.Proofs.YtdloadeidijcoaaGreatDoor
open Go.RowKit Go.Shelf

def wordOK (s : List UInt8) : Bool := (match s with | [] => false | c :: _ => letB c) && s.all wordB
theorem name_word (s : List UInt8) : nameB s = (wordOK s && decide (s.length ≤ 40) && !decide (s ∈ keyL)) := by
  cases s <;> simp [nameB, wordOK]
set_option maxRecDepth 100000 in
set_option maxHeartbeats 2000000 in
theorem isWord_any (s : List UInt8) (w : World) (hs : s.length ≤ 1000000) : Calls Tryz.prog 34 #[strV s] w fun e w' => e = .returned (.bool (wordOK s && decide (s.length ≤ 40))) ∧ w = w' := by
  have hsp := span_word s w hs
  have hl := fun c => letter_any c w
  unfold strV u8V at *
  cases s with
  | nil =>
    clear hsp hl
    go_enter Tryz.func34, Tryz.ntmps34
    go_wp2
    go_ret
    exact ⟨rfl, rfl⟩
  | cons c r =>
    have hidx := idx_str (c :: r) 0 c rfl
    have hne : ((c :: r) == []) = false := rfl
    have hl0 : 0 < (c :: r).length := by simp
    have hl2 := hl c
    have HW : Hid (wordOK (c :: r) = (letB c && (c :: r).all wordB)) := Lib.hid rfl
    have hall := (tw_len (p := wordB) (c :: r)).2
    have hle := (tw_len (p := wordB) (c :: r)).1
    generalize (c :: r) = q at *
    clear hl
    by_cases h40 : q.length ≤ 40
    · have f40 : decide ((q.length : Int) ≤ 40) = true := decide_eq_true (by omega)
      have HD : Hid (decide (q.length ≤ 40) = true) := Lib.hid (decide_eq_true h40)
      cases hlb : letB c with
      | false =>
        rw [hlb] at hl2 HW
        clear hlb hsp hall hle h40
        go_enter Tryz.func34, Tryz.ntmps34
        go_wp2_with (go_at_call 50; refine hl2.mono ?_; rintro e w' ⟨rfl, rfl⟩; clear hl2)
        go_ret
        exact ⟨ret_bool (by rw [HW.out]; rfl), rfl⟩
      | true =>
        rw [hlb] at hl2 HW
        have feq : (((q.takeWhile wordB).length : Int) == (q.length : Int)) = q.all wordB := by
          rw [Bool.eq_iff_iff, ← hall, beq_iff_eq]; omega
        clear hlb hall hle h40
        generalize ((q.takeWhile wordB).length : Int) = L at *
        go_enter Tryz.func34, Tryz.ntmps34
        go_wp2_with (first
          | (go_at_call 50; refine hl2.mono ?_; rintro e w' ⟨rfl, rfl⟩; clear hl2)
          | (go_at_call 37; refine hsp.mono ?_; rintro e w' ⟨rfl, rfl⟩; clear hsp))
        go_ret
        refine ⟨ret_bool ?_, rfl⟩
        rw [HW.out, HD.out]
        simp
    · have f40 : decide ((q.length : Int) ≤ 40) = false := decide_eq_false (by omega)
      have HD : Hid (decide (q.length ≤ 40) = false) := Lib.hid (decide_eq_false h40)
      clear hl2 hsp hall hle h40
      go_enter Tryz.func34, Tryz.ntmps34
      go_wp2
      go_ret
      exact ⟨ret_bool (by rw [HD.out]; simp), rfl⟩
set_option maxRecDepth 100000 in
set_option maxHeartbeats 2000000 in
theorem isName_any (s : List UInt8) (w : World) (hs : s.length ≤ 1000000) (hV : Vars w) : Calls Tryz.prog 18 #[strV s] w fun e w' => e = .returned (.bool (nameB s)) ∧ Below w.heap.size w w' := by
  have hw := isWord_any s w hs
  have HN := Lib.hid (name_word s)
  have HV := Lib.hid hV
  have HB0 := Lib.hid (Below.refl w.heap.size w)
  clear hV
  generalize nameB s = NB at *
  unfold strV at *
  cases hb : (wordOK s && decide (s.length ≤ 40)) with
  | false =>
    rw [hb] at hw HN
    clear hb
    go_enter Tryz.func18, Tryz.ntmps18
    go_wp2_with (go_at_call 34; refine hw.mono ?_; rintro e w' ⟨rfl, rfl⟩; clear hw)
    go_ret
    exact ⟨ret_bool (by rw [HN.out]; rfl), HB0.out⟩
  | true =>
    rw [hb] at hw HN
    clear hb
    go_enter Tryz.func18, Tryz.ntmps18
    go_wp2_with (first
      | (go_at_call 34; refine hw.mono ?_; rintro e w' ⟨rfl, rfl⟩; clear hw)
      | (go_at_call 20
         refine (keys_at _ HV.out).mono ?_
         rintro e w2 ⟨b, rfl, hs2, hb2⟩
         have hc := contains_any b 0 52 52 keyL s w2 hs2 (by omega)
         have HB2 := Lib.hid hb2
         clear hs2 hb2)
      | (go_at_call 19; refine hc.mono ?_; rintro e w' ⟨rfl, rfl⟩; clear hc))
    go_ret
    exact ⟨ret_bool (by rw [HN.out]; simp), HB2.out⟩
set_option maxRecDepth 100000 in
set_option maxHeartbeats 2000000 in
theorem rword_any (s : List UInt8) (w : World) (hs : s.length ≤ 1000000) : Calls Tryz.prog 40 #[strV s] w fun e w' => e = .returned (.bool (wordOK s)) ∧ w = w' := by
  have HLT : Hid (∀ c, Calls Tryz.prog 56 #[u8V c] w fun e w' => e = .returned (.bool (letB c)) ∧ w = w') := Lib.hid (fun c => rletter_any c w)
  have HDT : Hid (∀ c, Calls Tryz.prog 41 #[u8V c] w fun e w' => e = .returned (.bool (digB c)) ∧ w = w') := Lib.hid (fun c => rdigit_any c w)
  unfold strV u8V at *
  cases s with
  | nil =>
    go_enter Tryz.func40, Tryz.ntmps40
    go_wp2
    go_ret
    exact ⟨rfl, rfl⟩
  | cons c r =>
    have hidx := idx_str (c :: r) 0 c rfl
    have hne : (((c :: r).length : Int) == 0) = false := beq_eq_false_iff_ne.2 (by simp; omega)
    have hl0 : 0 < (c :: r).length := by simp
    have hl2 := HLT.out c
    have HW : Hid (wordOK (c :: r) = (letB c && (c :: r).all wordB)) := Lib.hid rfl
    generalize (c :: r) = q at *
    cases hlb : letB c with
    | false =>
      rw [hlb] at hl2 HW
      clear hlb
      go_enter Tryz.func40, Tryz.ntmps40
      go_wp2_with (go_at_call 56; refine hl2.mono ?_; rintro e w' ⟨rfl, rfl⟩; clear hl2)
      go_ret
      exact ⟨ret_bool (by rw [HW.out]; rfl), rfl⟩
    | true =>
      rw [hlb] at hl2 HW
      clear hlb
      go_enter Tryz.func40, Tryz.ntmps40
      go_wp2_with (go_at_call 56; refine hl2.mono ?_; rintro e w' ⟨rfl, rfl⟩; clear hl2)
      clear hidx
      go_loop [3] (fun v => ∃ k : Nat, k ≤ q.length ∧ v = .int .i64 k ∧ Hid ((q.take k).all wordB = true)) (fun v => q.length - (intOf v).toNat)
      case atStart => exact ⟨0, by omega, rfl, Lib.hid rfl⟩
      case round =>
        obtain ⟨k, hk, rfl, HK⟩ := hrel
        by_cases hlt : k < q.length
        · obtain ⟨d, hd⟩ := get_some hlt
          have hidx := idx_str q k d hd
          have ha := HLT.out d
          have hb := HDT.out d
          have HQ := Lib.hid hd
          clear hd
          cases h1 : letB d with
          | true =>
            rw [h1] at ha
            have HS : Hid ((q.take (k + 1)).all wordB = true) := Lib.hid (by rw [List.take_add_one, HQ.out, List.all_append, HK.out]; simp [wordB, h1])
            clear h1
            go_wp2_with (go_at_call 56; refine ha.mono ?_; rintro e w' ⟨rfl, rfl⟩; clear ha)
            go_round
            case rel => exact ⟨k + 1, by omega, by go_num, HS⟩
            case measure => simp [intOf]; omega
          | false =>
            rw [h1] at ha
            cases h2 : digB d with
            | true =>
              rw [h2] at hb
              have HS : Hid ((q.take (k + 1)).all wordB = true) := Lib.hid (by rw [List.take_add_one, HQ.out, List.all_append, HK.out]; simp [wordB, h2])
              clear h1 h2
              go_wp2_with (first | (go_at_call 56; refine ha.mono ?_; rintro e w' ⟨rfl, rfl⟩; clear ha) | (go_at_call 41; refine hb.mono ?_; rintro e w' ⟨rfl, rfl⟩; clear hb))
              go_round
              case rel => exact ⟨k + 1, by omega, by go_num, HS⟩
              case measure => simp [intOf]; omega
            | false =>
              rw [h2] at hb
              have HS : Hid (q.all wordB = false) := Lib.hid (by
                rw [Bool.eq_false_iff]; intro h
                have := List.all_eq_true.1 h d (List.mem_of_getElem? HQ.out)
                simp [wordB, h1, h2] at this)
              clear h1 h2
              go_wp2_with (first | (go_at_call 56; refine ha.mono ?_; rintro e w' ⟨rfl, rfl⟩; clear ha) | (go_at_call 41; refine hb.mono ?_; rintro e w' ⟨rfl, rfl⟩; clear hb))
              go_ret
              exact ⟨ret_bool (by rw [HW.out, HS.out]; rfl), rfl⟩
        · obtain rfl : k = q.length := by omega
          have HS : Hid (q.all wordB = true) := Lib.hid (by have := HK.out; rwa [List.take_length] at this)
          go_wp2
          go_ret
          exact ⟨ret_bool (by rw [HW.out, HS.out]; rfl), rfl⟩
set_option maxRecDepth 100000 in
set_option maxHeartbeats 2000000 in
theorem risName_any (s : List UInt8) (w : World) (hs : s.length ≤ 1000000) : Calls Tryz.prog 23 #[strV s] w fun e w' => e = .returned (.bool (nameB s)) ∧ Below w.heap.size w w' := by
  have hw := rword_any s w hs
  have HN := Lib.hid (name_word s)
  have HB0 := Lib.hid (Below.refl w.heap.size w)
  have HKW := Lib.hid rkeys_any
  generalize nameB s = NB at *
  unfold strV at *
  cases hb : wordOK s with
  | false =>
    rw [hb] at hw HN
    clear hb
    go_enter Tryz.func23, Tryz.ntmps23
    go_wp2_with (go_at_call 40; refine hw.mono ?_; rintro e w' ⟨rfl, rfl⟩; clear hw)
    go_ret
    exact ⟨ret_bool (by rw [HN.out]; rfl), HB0.out⟩
  | true =>
    rw [hb] at hw HN
    clear hb
    by_cases h40 : s.length ≤ 40
    · have f40 : decide ((s.length : Int) ≤ 40) = true := decide_eq_true (by omega)
      have HD : Hid (decide (s.length ≤ 40) = true) := Lib.hid (decide_eq_true h40)
      clear h40
      go_enter Tryz.func23, Tryz.ntmps23
      go_wp2_with (first
        | (go_at_call 40; refine hw.mono ?_; rintro e w' ⟨rfl, rfl⟩; clear hw)
        | (go_at_call 25
           refine (HKW.out _).mono ?_
           rintro e w2 ⟨A, c, rfl, hs2, hb2⟩
           have hc := has_any A 52 c keyL s w2 hs2 (by omega)
           have HB2 := Lib.hid hb2
           clear hs2 hb2)
        | (go_at_call 24; refine hc.mono ?_; rintro e w' ⟨rfl, rfl⟩; clear hc))
      go_ret
      exact ⟨ret_bool (by rw [HN.out, HD.out]; simp), HB2.out⟩
    · have f40 : decide ((s.length : Int) ≤ 40) = false := decide_eq_false (by omega)
      have HD : Hid (decide (s.length ≤ 40) = false) := Lib.hid (decide_eq_false h40)
      clear h40
      go_enter Tryz.func23, Tryz.ntmps23
      go_wp2_with (go_at_call 40; refine hw.mono ?_; rintro e w' ⟨rfl, rfl⟩; clear hw)
      go_ret
      exact ⟨ret_bool (by rw [HN.out, HD.out]; rfl), HB0.out⟩
/-- what Place tells -/
def PlaceR (t : List UInt8) (i : Int) : Value := if 0 ≤ i ∧ i ≤ t.length then .tuple #[.int .i64 ((plL (t.take i.toNat)).1 : Int), .int .i64 ((plL (t.take i.toNat)).2 : Int), .int .i64 0] else .tuple #[.int .i64 0, .int .i64 0, .int .i64 4]
theorem pl_snoc (l : List UInt8) (c : UInt8) : plL (l ++ [c]) = plStep (plL l) c := by simp [plL]
theorem pl_le (l : List UInt8) : (plL l).1 ≤ 1 + l.length ∧ (plL l).2 ≤ 1 + l.length := by
  have h : ∀ (l : List UInt8) (p : Nat × Nat), (l.foldl plStep p).1 ≤ p.1 + l.length ∧ (l.foldl plStep p).2 ≤ max p.2 1 + l.length := by
    intro l
    induction l with
    | nil => intro p; simp; omega
    | cons c l ih =>
      intro p
      have := ih (plStep p c)
      simp only [List.foldl_cons, List.length_cons]
      unfold plStep at this ⊢
      split at this <;> split <;> simp_all <;> omega
  have := h l (1, 1)
  unfold plL
  simp at this ⊢; omega
end Go.Proofs.YtdloadeidijcoaaGreatDoor
