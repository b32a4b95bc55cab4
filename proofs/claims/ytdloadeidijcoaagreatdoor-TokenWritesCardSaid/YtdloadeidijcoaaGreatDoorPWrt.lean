/- DERIVED. The program's Write. -/
import Derived.Test.YtdloadeidijcoaaGreatDoorPWrit
set_option linter.unusedSimpArgs false
set_option linter.unusedVariables false
namespace Go.Proofs.YtdloadeidijcoaaGreatDoor
open Go.RowKit Go.Shelf

theorem none_or (o : Option Nat) : o = none ∨ o ≠ none := by by_cases h : o = none; exact .inl h; exact .inr h
theorem isb_kept {b B : Nat} {bs : List Value} {w w' : World} (h : Lib.IsBuilder TB U8 B b bs w) (hb : Below w.heap.size w w') : Lib.IsBuilder TB U8 B b bs w' := by
  refine h.imp ?_ ?_ <;>
  · rintro ⟨hB, v, h1, h2, h3⟩
    exact ⟨hB, v, (hb.block b (Array.getElem?_eq_some_iff.1 h1).1).trans h1, h2.kept (grown_of_below (row := none) hb) (none_or _), h3⟩
/-- the builder that holds the bytes l, in a world behind w0 -/
structure BS (w0 : World) (b : Nat) (l : List UInt8) (w : World) : Prop where
  bld : Lib.IsBuilder TB U8 w0.heap.size b (Lib.byteCells l) w
  below : Below w0.heap.size w0 w
theorem BS.after {w0 w w' : World} {b : Nat} {l : List UInt8} (h : BS w0 b l w) (hb : Below w.heap.size w w') : BS w0 b l w' :=
  ⟨isb_kept h.bld hb, h.below.trans (hb.mono h.below.size)⟩
theorem BS.lt {w0 w : World} {b : Nat} {l : List UInt8} (h : BS w0 b l w) : b < w.heap.size := by
  rcases h.bld with h | h <;> exact h.lt
theorem byteCells_app (a b : List UInt8) : Lib.byteCells (a ++ b) = Lib.byteCells a ++ Lib.byteCells b := by simp [Lib.byteCells]
theorem bs_str (w0 : World) (b : Nat) (l s : List UInt8) (w : World) (h : BS w0 b l w) (hl : l.length + s.length ≤ 140737488355328) :
    Calls Tryz.prog 15 #[.pointer (some ⟨b, 0, none⟩), .string ⟨s.toArray⟩] w fun e w' => e = .returned (.tuple #[.int .i64 s.length, .nilIface]) ∧ BS w0 b (l ++ s) w' ∧ Kp b w w' :=
  (WriteString_any w0.heap.size b (Lib.byteCells l) ⟨s.toArray⟩ w h.bld (by rw [Lib.byteCells_length]; simpa [ByteArray.size] using hl) h.below.size).mono fun e w' ⟨he, hb, hw, hk⟩ =>
    ⟨by rw [he]; rfl, ⟨.inr (by rw [byteCells_app]; exact hb), h.below.trans hw⟩, hk⟩
theorem bs_byte (w0 : World) (b : Nat) (l : List UInt8) (c : UInt8) (w : World) (h : BS w0 b l w) (hl : l.length + 1 ≤ 140737488355328) :
    Calls Tryz.prog 14 #[.pointer (some ⟨b, 0, none⟩), .int .u8 (c.toNat : Int)] w fun e w' => e = .returned .nilIface ∧ BS w0 b (l ++ [c]) w' ∧ Kp b w w' :=
  (WriteByte_any w0.heap.size b (Lib.byteCells l) (c.toNat : Int) w h.bld (by rw [Lib.byteCells_length]; exact hl) h.below.size).mono fun e w' ⟨he, hb, hw, hk⟩ =>
    ⟨he, ⟨.inr (by rw [byteCells_app]; exact hb), h.below.trans hw⟩, hk⟩
theorem bs_end (w0 : World) (b : Nat) (l : List UInt8) (w : World) (h : BS w0 b l w) :
    Calls Tryz.prog 17 #[.pointer (some ⟨b, 0, none⟩)] w fun e w' => e = .returned (.string ⟨l.toArray⟩) ∧ Below w0.heap.size w0 w' :=
  (BString_any w0.heap.size b l w h.bld h.below.size).mono fun e w' ⟨he, hb⟩ => ⟨he, h.below.trans hb⟩
theorem bs_new (w0 w : World) (h : Below w0.heap.size w0 w) : BS w0 w.heap.size [] (w.alloc (.cells #[.pointer none, .slice none 0 0] TB)) := by
  refine ⟨?_, h.alloc h.size _⟩
  exact .inl ⟨h.size, _, heap_alloc_new w _, ⟨rfl, .inl ⟨rfl, rfl⟩⟩, by simp [Value.ownBlock]⟩
theorem BlkAt.kp {W W' : World} {B b : Nat} {t : TypeId} {cs : Array Value} (h : BlkAt W B t cs) (hk : Kp b W W') (hne : B ≠ b) (ht : t ≠ U8) : BlkAt W' B t cs :=
  (hk.block B h.lt hne (fun cs' fr e => by
    unfold BlkAt at h
    rw [h] at e
    injection e with e
    injection e with _ e2
    exact ht e2)).trans h
/-- what Write tells -/
def wrtV (x : Tok) : Value := .tuple #[strV (if rightB x then writeL x else []), .int .i64 (chkI x)]
set_option maxRecDepth 100000 in
set_option maxHeartbeats 8000000 in
theorem write_any (x : Tok) (w : World) (hs : x.text.length ≤ 1000000) (hV : Vars w) : Calls Tryz.prog 6 #[encT x] w fun e w' => e = .returned (wrtV x) ∧ Below w.heap.size w w' := by
  have HB1 := Lib.hid ((Below.refl w.heap.size w).alloc (Nat.le_refl _) (.cells #[.int .i64 x.kind, .string ⟨x.text.toArray⟩, .int .i64 x.value, .int .i64 x.at_] PT))
  have HT1 := Lib.hid (BlkAt.new w PT #[.int .i64 x.kind, .string ⟨x.text.toArray⟩, .int .i64 x.value, .int .i64 x.at_])
  have hchk := check_any x _ hs (hV.below HB1.out)
  have HR : Hid (wrtV x = .tuple #[strV (if rightB x then writeL x else []), .int .i64 (chkI x)]) := Lib.hid rfl
  have hci : (rightB x = true ∧ chkI x = 0) ∨ (rightB x = false ∧ chkI x = 2) := by
    unfold chkI
    cases rightB x <;> simp
  clear hV
  unfold encT strV at hchk
  rcases hci with ⟨hr, hc⟩ | ⟨hr, hc⟩
  · rw [hc] at hchk
    have HR2 : Hid (wrtV x = .tuple #[strV (writeL x), .int .i64 0]) := Lib.hid (by rw [HR.out, hr, hc]; rfl)
    clear hr hc HR
    by_cases h4 : x.kind = 4
    · have f4 : (x.kind != 4) = false := by simp [h4]
      have HW : Hid (writeL x = 34 :: (x.text.flatMap escB ++ [34])) := Lib.hid (by unfold writeL; rw [if_pos h4])
      clear h4
      unfold encT strV
      go_enter Tryz.func6, Tryz.ntmps6
      go_wp2_with (first
        | (go_at_call 8
           refine hchk.mono ?_
           rintro e w2 ⟨rfl, hb2⟩
           have HB2 := Lib.hid (HB1.out.trans (hb2.mono HB1.out.size))
           have HT2 := Lib.hid (HT1.out.below hb2 HT1.out.lt)
           clear hchk hb2
           have e0 := HT2.out.cell 0
           have e1 := HT2.out.cell 1
           have e2 := HT2.out.cell 2
           have e3 := HT2.out.cell 3
           simp only [List.getElem?_toArray, List.getElem?_cons_succ, List.getElem?_cons_zero] at e0 e1 e2 e3
           skip)
        | (go_at_call 14
           refine (bs_byte w w2.heap.size [] 34 _ (bs_new w w2 HB2.out) (by decide)).mono ?_
           rintro e w3 ⟨rfl, hs3, hk3⟩
           have HS3 := Lib.hid hs3
           have HT3 := Lib.hid ((HT2.out.alloc _).kp hk3 (Nat.ne_of_lt HT2.out.lt) (by decide))
           clear hs3 hk3 e0 e1 e2 e3
           have e0 := HT3.out.cell 0
           have e1 := HT3.out.cell 1
           have e2 := HT3.out.cell 2
           have e3 := HT3.out.cell 3
           simp only [List.getElem?_toArray, List.getElem?_cons_succ, List.getElem?_cons_zero] at e0 e1 e2 e3
           skip))
      have hfl := flat_len4 x.text
      generalize hbb : w2.heap.size = b at *
      have HNE : Hid (w.heap.size ≠ b) := Lib.hid (by rw [← hbb]; exact Nat.ne_of_lt HT2.out.lt)
      clear hbb HB2 HT2
      go_loopw [21] (fun a wi => ∃ i : Nat, i ≤ x.text.length ∧ a = .int .i64 i ∧ Hid (BS w b (34 :: (x.text.take i).flatMap escB) wi) ∧ Hid (BlkAt wi w.heap.size PT #[.int .i64 x.kind, .string ⟨x.text.toArray⟩, .int .i64 x.value, .int .i64 x.at_])) (fun a _ => x.text.length - (intOf a).toNat)
      case atStart => exact ⟨0, by omega, rfl, HS3, HT3⟩
      case round =>
        obtain ⟨i, hi, rfl, HS, HT⟩ := hrel
        clear e0 e1 e2 e3
        have e0 := HT.out.cell 0
        have e1 := HT.out.cell 1
        have e2 := HT.out.cell 2
        have e3 := HT.out.cell 3
        simp only [List.getElem?_toArray, List.getElem?_cons_succ, List.getElem?_cons_zero] at e0 e1 e2 e3
        by_cases hlt : i < x.text.length
        · obtain ⟨c, hc⟩ := get_some hlt
          have hidx := idx_str x.text i c hc
          have HTK : Hid (34 :: (x.text.take (i + 1)).flatMap escB = (34 :: (x.text.take i).flatMap escB) ++ escB c) := Lib.hid (by rw [List.take_add_one, hc]; simp)
          have HLE : Hid ((34 :: (x.text.take i).flatMap escB).length + (escB c).length ≤ 140737488355328) := Lib.hid (by
            have h1 := flat_len4 (x.text.take i)
            have h2 := esc_len c
            rw [List.length_take] at h1
            rw [List.length_cons]; omega)
          clear hc hfl
          go_wp2_with (first
            | (go_at_call 16
               refine (written_any c _).mono ?_
               rintro e w5 ⟨rfl, hb5⟩
               have HS5 := Lib.hid (HS.out.after hb5)
               have HT5 := Lib.hid (HT.out.below hb5 HT.out.lt)
               clear hb5
               unfold strV)
            | (go_at_call 15
               refine (bs_str w b _ (escB c) w5 HS5.out HLE.out).mono ?_
               rintro e w6 ⟨rfl, hs6, hk6⟩
               have HS6 : Hid (BS w b (34 :: (x.text.take (i + 1)).flatMap escB) w6) := Lib.hid (by rw [HTK.out]; exact hs6)
               have HT6 := Lib.hid (HT5.out.kp hk6 HNE.out (by decide))
               clear hs6 hk6))
          go_round
          case rel => exact ⟨i + 1, by omega, by go_num, HS6, HT6⟩
          case measure => simp [intOf]; omega
        · obtain rfl : i = x.text.length := by omega
          have HTK : Hid ((34 :: (x.text.take x.text.length).flatMap escB) ++ [34] = writeL x) := Lib.hid (by rw [HW.out, List.take_length]; simp)
          have HLE : Hid ((34 :: (x.text.take x.text.length).flatMap escB).length + 1 ≤ 140737488355328) := Lib.hid (by
            rw [List.take_length, List.length_cons]; omega)
          clear hfl
          go_wp2_with (first
            | (go_at_call 14
               refine (bs_byte w b _ 34 _ HS.out HLE.out).mono ?_
               rintro e w5 ⟨rfl, hs5, _⟩
               have HS5 : Hid (BS w b (writeL x) w5) := Lib.hid (by rw [← HTK.out]; exact hs5)
               clear hs5)
            | (go_at_call 17
               refine (bs_end w b _ w5 HS5.out).mono ?_
               rintro e w6 ⟨rfl, hb6⟩
               have HB6 := Lib.hid hb6
               clear hb6))
          go_ret2
          exact ⟨congrArg Ending.returned (by rw [HR2.out]; rfl), HB6.out⟩
    · have f4 : (x.kind != 4) = true := by simp [h4]
      have HW : Hid (writeL x = x.text) := Lib.hid (by unfold writeL; rw [if_neg h4])
      clear h4
      unfold encT strV
      go_enter Tryz.func6, Tryz.ntmps6
      go_wp2_with (go_at_call 8
                   refine hchk.mono ?_
                   rintro e w2 ⟨rfl, hb2⟩
                   have HB2 := Lib.hid (HB1.out.trans (hb2.mono HB1.out.size))
                   have HT2 := Lib.hid (HT1.out.below hb2 HT1.out.lt)
                   clear hchk hb2
                   have e0 := HT2.out.cell 0
                   have e1 := HT2.out.cell 1
                   have e2 := HT2.out.cell 2
                   have e3 := HT2.out.cell 3
                   simp only [List.getElem?_toArray, List.getElem?_cons_succ, List.getElem?_cons_zero] at e0 e1 e2 e3
                   skip)
      go_ret2
      exact ⟨congrArg Ending.returned (by rw [HR2.out, HW.out]; rfl), HB2.out⟩
  · rw [hc] at hchk
    have HR2 : Hid (wrtV x = .tuple #[strV [], .int .i64 2]) := Lib.hid (by rw [HR.out, hr, hc]; rfl)
    clear hr hc HR
    unfold encT strV
    go_enter Tryz.func6, Tryz.ntmps6
    go_wp2_with (go_at_call 8
                 refine hchk.mono ?_
                 rintro e w2 ⟨rfl, hb2⟩
                 have HB2 := Lib.hid (HB1.out.trans (hb2.mono HB1.out.size))
                 clear hchk hb2)
    go_ret2
    exact ⟨congrArg Ending.returned (by rw [HR2.out]; rfl), HB2.out⟩
end Go.Proofs.YtdloadeidijcoaaGreatDoor
