/- DERIVED. The law's Small and small. -/
import Derived.Test.YtpahhcmiimllaaaGreatDoorChk0
set_option linter.unusedSimpArgs false
set_option linter.unusedVariables false
namespace Go.Proofs.YtpahhcmiimllaaaGreatDoor
open Go.RowKit Go.Shelf

set_option maxHeartbeats 4000000 in
theorem smI_any (x : InsL) (Ai : Option Addr) (ni ci : Nat) (w : World) (hl : ni = x.list.length) : Calls Tryz.prog 72 #[insV x Ai ni ci] w fun e w' => e = .returned (.bool (!smallI x)) ∧ Below w.heap.size w w' := by
  have HB := Lib.hid ((Below.refl w.heap.size w).alloc (Nat.le_refl _) (.cells #[.int .i64 x.op, .int .i64 x.a, .int .i64 x.b, .int .i64 x.c, .int .i64 x.d, .string ⟨x.text.toArray⟩, .slice Ai ni ci] 55))
  have HE : Hid ((!smallI x) = (decide (300 < x.text.length) || decide (100 < ni))) := Lib.hid (by unfold smallI; rw [← hl]; simp [← Nat.not_le])
  rw [HE.out]
  unfold insV
  clear hl
  by_cases h1 : 300 < x.text.length
  · have f1 : decide ((300 : Int) < (x.text.length : Int)) = true := decide_eq_true (by omega)
    have e1 : decide (300 < x.text.length) = true := decide_eq_true h1
    rw [e1]
    clear h1 e1
    go_enter Tryz.func72, Tryz.ntmps72
    go_wp2_with fail
    go_ret
    exact ⟨by simp, HB.out⟩
  · have f1 : decide ((300 : Int) < (x.text.length : Int)) = false := decide_eq_false (by omega)
    have e1 : decide (300 < x.text.length) = false := decide_eq_false h1
    have e2 : decide (100 < ni) = decide ((100 : Int) < (ni : Int)) := by by_cases h : 100 < ni <;> simp [h] <;> omega
    rw [e1, e2]
    clear h1 e1 e2
    go_enter Tryz.func72, Tryz.ntmps72
    go_wp2_with fail
    go_ret
    exact ⟨by simp, HB.out⟩
set_option maxRecDepth 100000 in
set_option maxHeartbeats 4000000 in
theorem smIdx_any (Ab : Option Addr) (n cn : Nat) (xs : List InsL) (w : World) (hI : Inss w Ab n xs) (hn : n ≤ 100000) :
    Calls Tryz.prog 99 #[.slice Ab n cn, .func (.func 72) #[] #[]] w fun e w' => (∃ k : Int, e = .returned (.int .i64 k) ∧ decide (0 ≤ k) = !xs.all (smallI)) ∧ Below w.heap.size w w' := by
  have HI := Lib.hid hI
  have HLN := Lib.hid hI.len
  clear hI
  go_enter Tryz.func99, Tryz.ntmps99
  go_wp2_with fail
  go_loopw [8] (fun a wr => ∃ i : Nat, i ≤ n ∧ a = .int .i64 i ∧ Hid ((xs.take i).all (smallI) = true) ∧ Hid (Below w.heap.size w wr)) (fun a _ => n - (intOf a).toNat)
  case atStart => exact ⟨0, by omega, rfl, Lib.hid (by simp), Lib.hid (Below.refl _ _)⟩
  case round =>
    obtain ⟨i, hin, rfl, HT, HW⟩ := hrel
    by_cases hlt : i < n
    · obtain ⟨x, hx⟩ := get_some (xs := xs) (k := i) (by have := HLN.out; omega)
      obtain ⟨bi, oi, hAe, _, Ax, nx, cx, hxc⟩ := (inss_below HI.out HW.out).at_ i x hx
      have hcl := smI_any x Ax nx cx wr hxc.list.len
      subst hAe
      have c0 := hxc.c0
      have c1 := hxc.c1
      have c2 := hxc.c2
      have c3 := hxc.c3
      have c4 := hxc.c4
      have c5 := hxc.c5
      have c6 := hxc.c6
      have hk0 : (0 : Int) ≤ (i : Int) := by omega
      have hk1 : (i : Int) < (n : Int) := by omega
      have wr1 : IntKind.i64.wrap ((i : Int) + 1) = (i : Int) + 1 := IntWalk.i64_in _ (by omega)
      have HN : Hid (smallI x = true → (xs.take (i + 1)).all (smallI) = true) := Lib.hid (fun h => by
        rw [List.take_add_one, hx]; simp only [List.all_append, HT.out, Option.toList_some, List.all_cons, h, List.all_nil, Bool.and_self])
      have HF : Hid (smallI x = false → xs.all (smallI) = false) := Lib.hid (fun h => by
        rw [Bool.eq_false_iff]
        intro hall
        have := List.all_eq_true.1 hall x (List.mem_of_getElem? hx)
        rw [h] at this; cases this)
      clear hxc hx
      unfold insV at hcl
      cases hfx : smallI x with
      | true =>
        rw [hfx] at hcl
        have HN2 := Lib.hid (HN.out hfx)
        clear hfx HN HF
        go_wp2_with (go_at_call 72; refine hcl.mono ?_; rintro e w2 ⟨rfl, hb2⟩; have HB2 := Lib.hid (HW.out.trans (hb2.mono HW.out.size)); clear hb2 hcl)
        go_roundw
        case rel => exact ⟨i + 1, by omega, by go_num, HN2, HB2⟩
        case measure => simp [intOf]; omega
      | false =>
        rw [hfx] at hcl
        have HF2 := Lib.hid (HF.out hfx)
        clear hfx HN HF
        go_wp2_with (go_at_call 72; refine hcl.mono ?_; rintro e w2 ⟨rfl, hb2⟩; have HB2 := Lib.hid (HW.out.trans (hb2.mono HW.out.size)); clear hb2 hcl)
        go_ret
        exact ⟨⟨_, rfl, by rw [HF2.out]; simp⟩, HB2.out⟩
    · obtain rfl : i = n := by omega
      have HALL : Hid (xs.all (smallI) = true) := Lib.hid (by have := HT.out; rwa [HLN.out, List.take_length] at this)
      go_wp2_with fail
      go_ret
      exact ⟨⟨_, rfl, by rw [HALL.out]; rfl⟩, HW.out⟩
set_option maxHeartbeats 4000000 in
theorem smCF_any (Ab : Option Addr) (n cn : Nat) (xs : List InsL) (w : World) (hI : Inss w Ab n xs) (hn : n ≤ 100000) :
    Calls Tryz.prog 71 #[.slice Ab n cn, .func (.func 72) #[] #[]] w fun e w' => e = .returned (.bool (!xs.all (smallI))) ∧ Below w.heap.size w w' := by
  have hi := smIdx_any Ab n cn xs w hI hn
  clear hI
  generalize xs.all (smallI) = F at *
  go_enter Tryz.func71, Tryz.ntmps71
  go_wp2_with (go_at_call 99; refine hi.mono ?_; rintro e w2 ⟨⟨k, rfl, hk⟩, hb2⟩; have HB2 := Lib.hid hb2; clear hb2 hi)
  go_ret
  exact ⟨rfl, HB2.out⟩
end Go.Proofs.YtpahhcmiimllaaaGreatDoor
namespace Go.Proofs.YtpahhcmiimllaaaGreatDoor
open Go.RowKit Go.Shelf

def midRegs (b : BodyL) : Bool := decide (150 < b.regs) && decide (b.regs ≤ 5000)
set_option maxHeartbeats 4000000 in
theorem mid1_any (b : BodyL) (Ab : Option Addr) (lb cb : Nat) (w : World) : Calls Tryz.prog 38 #[bodyV b Ab lb cb] w fun e w' => e = .returned (.bool (midRegs b)) ∧ Below w.heap.size w w' := by
  have HB := Lib.hid ((Below.refl w.heap.size w).alloc (Nat.le_refl _) (.cells #[.string ⟨b.name.toArray⟩, .int .i64 b.regs, .int .i64 b.args, .slice Ab lb cb] 51))
  have HM : Hid (midRegs b = (decide (150 < b.regs) && decide (b.regs ≤ 5000))) := Lib.hid rfl
  unfold bodyV
  rw [HM.out]
  cases q1 : decide (150 < b.regs) <;> cases q2 : decide (b.regs ≤ 5000)
  all_goals
    go_enter Tryz.func38, Tryz.ntmps38
    go_wp2_with fail
    go_ret
    exact ⟨rfl, HB.out⟩
set_option maxRecDepth 100000 in
set_option maxHeartbeats 4000000 in
theorem midIdx_any (A : Option Addr) (n cn : Nat) (xs : List BodyL) (w : World) (hI : Bods w A n xs) (hn : n ≤ 100000) :
    Calls Tryz.prog 73 #[.slice A n cn, .func (.func 38) #[] #[]] w fun e w' => (∃ k : Int, e = .returned (.int .i64 k) ∧ decide (0 ≤ k) = xs.any midRegs) ∧ Below w.heap.size w w' := by
  have HI := Lib.hid hI
  have HLN := Lib.hid hI.len
  clear hI
  go_enter Tryz.func73, Tryz.ntmps73
  go_wp2_with fail
  go_loopw [8] (fun a wr => ∃ i : Nat, i ≤ n ∧ a = .int .i64 i ∧ Hid ((xs.take i).any midRegs = false) ∧ Hid (Below w.heap.size w wr)) (fun a _ => n - (intOf a).toNat)
  case atStart => exact ⟨0, by omega, rfl, Lib.hid (by simp), Lib.hid (Below.refl _ _)⟩
  case round =>
    obtain ⟨i, hin, rfl, HT, HW⟩ := hrel
    by_cases hlt : i < n
    · obtain ⟨x, hx⟩ := get_some (xs := xs) (k := i) (by have := HLN.out; omega)
      obtain ⟨bi, oi, rfl, _, Ax, nx, cx, hxc⟩ := (bods_below HI.out HW.out).at_ i x hx
      have hcl := mid1_any x Ax nx cx wr
      have c0 := hxc.c0
      have c1 := hxc.c1
      have c2 := hxc.c2
      have c3 := hxc.c3
      have hk0 : (0 : Int) ≤ (i : Int) := by omega
      have hk1 : (i : Int) < (n : Int) := by omega
      have wr1 : IntKind.i64.wrap ((i : Int) + 1) = (i : Int) + 1 := IntWalk.i64_in _ (by omega)
      have HN : Hid (midRegs x = false → (xs.take (i + 1)).any midRegs = false) := Lib.hid (fun h => by
        rw [List.take_add_one, hx]; simp only [List.any_append, HT.out, Option.toList_some, List.any_cons, h, List.any_nil, Bool.or_self])
      have HF : Hid (midRegs x = true → xs.any midRegs = true) := Lib.hid (fun h => List.any_eq_true.2 ⟨x, List.mem_of_getElem? hx, h⟩)
      clear hxc hx
      unfold bodyV at hcl
      cases hfx : midRegs x with
      | false =>
        rw [hfx] at hcl
        have HN2 := Lib.hid (HN.out hfx)
        clear hfx HN HF
        go_wp2_with (go_at_call 38; refine hcl.mono ?_; rintro e w2 ⟨rfl, hb2⟩; have HB2 := Lib.hid (HW.out.trans (hb2.mono HW.out.size)); clear hb2 hcl)
        go_roundw
        case rel => exact ⟨i + 1, by omega, by go_num, HN2, HB2⟩
        case measure => simp [intOf]; omega
      | true =>
        rw [hfx] at hcl
        have HF2 := Lib.hid (HF.out hfx)
        clear hfx HN HF
        go_wp2_with (go_at_call 38; refine hcl.mono ?_; rintro e w2 ⟨rfl, hb2⟩; have HB2 := Lib.hid (HW.out.trans (hb2.mono HW.out.size)); clear hb2 hcl)
        go_ret
        exact ⟨⟨_, rfl, by rw [HF2.out]; simp⟩, HB2.out⟩
    · obtain rfl : i = n := by omega
      have HALL : Hid (xs.any midRegs = false) := Lib.hid (by have := HT.out; rwa [HLN.out, List.take_length] at this)
      go_wp2_with fail
      go_ret
      exact ⟨⟨_, rfl, by rw [HALL.out]; rfl⟩, HW.out⟩
set_option maxHeartbeats 4000000 in
theorem midCF_any (A : Option Addr) (n cn : Nat) (xs : List BodyL) (w : World) (hI : Bods w A n xs) (hn : n ≤ 100000) :
    Calls Tryz.prog 37 #[.slice A n cn, .func (.func 38) #[] #[]] w fun e w' => e = .returned (.bool (xs.any midRegs)) ∧ Below w.heap.size w w' := by
  have hi := midIdx_any A n cn xs w hI hn
  clear hI
  generalize xs.any midRegs = F at *
  go_enter Tryz.func37, Tryz.ntmps37
  go_wp2_with (go_at_call 73; refine hi.mono ?_; rintro e w2 ⟨⟨k, rfl, hk⟩, hb2⟩; have HB2 := Lib.hid hb2; clear hb2 hi)
  go_ret
  exact ⟨rfl, HB2.out⟩
def smallL (c : CodeL) : Bool := smallC 200 c && !c.bodies.any midRegs
theorem smallGo_len (most : Nat) : ∀ (l : List BodyL) (t : Nat), t ≤ most → smallGo most t l = true → t + l.length ≤ most ∧ ∀ b ∈ l, b.code.length ≤ most ∧ b.name.length ≤ 200 ∧ ∀ x ∈ b.code, smallI x = true
  | [], t, h, _ => ⟨by simpa using h, by simp⟩
  | b :: l, t, h, hs => by
    rw [smallGo, Bool.and_eq_true, Bool.and_eq_true, Bool.and_eq_true, decide_eq_true_eq, decide_eq_true_eq, List.all_eq_true] at hs
    have ih := smallGo_len most l (t + 1 + b.code.length) hs.1.1.1 hs.2
    refine ⟨by rw [List.length_cons]; omega, fun d hd => ?_⟩
    rcases List.mem_cons.1 hd with rfl | hd
    · exact ⟨by omega, hs.1.1.2, hs.1.2⟩
    · exact ih.2 d hd
set_option maxRecDepth 100000 in
set_option maxHeartbeats 8000000 in
theorem Small_any (c : CodeL) (A : Option Addr) (n cc most : Nat) (w : World) (hC : Bods w A n c.bodies) (hn : n ≤ 1000000000000000) (hl : ∀ b ∈ c.bodies, b.code.length ≤ 1000000000000000) (hm : most ≤ 1000) :
    Calls Tryz.prog 36 #[codeV c A n cc, .int .i64 most] w fun e w' => e = .returned (.bool (smallC most c)) ∧ Below w.heap.size w w' := by
  have HB0 := Lib.hid ((Below.refl w.heap.size w).alloc (Nat.le_refl _) (.cells #[.int .i64 c.globals, .slice A n cc] 24))
  have HX0 := Lib.hid (BlkAt.new w 24 #[.int .i64 c.globals, .slice A n cc])
  have HC := Lib.hid hC
  have HLN := Lib.hid hC.len
  have HL := Lib.hid hl
  have HR : Hid (smallC most c = smallGo most 0 c.bodies) := Lib.hid rfl
  generalize smallC most c = R at *
  have c0 := HX0.out.cell 0
  have c1 := HX0.out.cell 1
  simp only [List.getElem?_toArray, List.getElem?_cons_succ, List.getElem?_cons_zero] at c0 c1
  unfold codeV
  clear hC hl
  go_enter Tryz.func36, Tryz.ntmps36
  go_wp2_with fail
  clear c0 c1
  go_loopw [5, 11] (fun t a wr => ∃ i T : Nat, i ≤ n ∧ a = .int .i64 i ∧ t = .int .i64 T ∧ T ≤ most ∧ Hid (smallGo most T (c.bodies.drop i) = R) ∧ Hid (Below w.heap.size w wr)) (fun _ a _ => n - (intOf a).toNat)
  case atStart => exact ⟨0, 0, by omega, rfl, rfl, by omega, Lib.hid HR.out.symm, HB0⟩
  case round =>
    obtain ⟨i, T, hin, rfl, rfl, hT, HG, HW⟩ := hrel
    by_cases hlt : i < n
    · obtain ⟨x, hx⟩ := get_some (xs := c.bodies) (k := i) (by have := HLN.out; omega)
      obtain ⟨bi, oi, rfl, _, Ax, nx, cx, hxc⟩ := (bods_below HC.out HW.out).at_ i x hx
      have c0 := hxc.c0
      have c1 := hxc.c1
      have c2 := hxc.c2
      have c3 := hxc.c3
      have hcl := hxc.code.len
      have hxl := HL.out x (List.mem_of_getElem? hx)
      have hk0 : (0 : Int) ≤ (i : Int) := by omega
      have hk1 : (i : Int) < (n : Int) := by omega
      have wr1 : IntKind.i64.wrap ((i : Int) + 1) = (i : Int) + 1 := IntWalk.i64_in _ (by omega)
      have wr2 : IntKind.i64.wrap (1 + (nx : Int)) = 1 + (nx : Int) := IntWalk.i64_in _ (by omega)
      have wr3 : IntKind.i64.wrap ((T : Int) + (1 + (nx : Int))) = (T : Int) + (1 + (nx : Int)) := IntWalk.i64_in _ (by omega)
      have HG2 : Hid ((decide (T + 1 + nx ≤ most) && decide (x.name.length ≤ 200) && x.code.all smallI && smallGo most (T + 1 + nx) (c.bodies.drop (i + 1))) = R) := Lib.hid (by
        have := HG.out
        rwa [drop_cons hx, smallGo, ← hcl] at this)
      have HWA := Lib.hid (HW.out.alloc HW.out.size (.cells #[.string ⟨x.name.toArray⟩, .int .i64 x.regs, .int .i64 x.args, .slice Ax nx cx] 51))
      have HCD := Lib.hid (inss_below hxc.code ((Below.refl wr.heap.size wr).alloc (Nat.le_refl _) (.cells #[.string ⟨x.name.toArray⟩, .int .i64 x.regs, .int .i64 x.args, .slice Ax nx cx] 51)))
      clear hxc hx hcl hxl HG
      by_cases p1 : T + 1 + nx ≤ most
      · have f1 : decide ((most : Int) < (T : Int) + (1 + (nx : Int))) = false := decide_eq_false (by omega)
        by_cases p2 : x.name.length ≤ 200
        · have f2 : decide ((200 : Int) < (x.name.length : Int)) = false := decide_eq_false (by omega)
          have HG3 : Hid ((x.code.all smallI && smallGo most (T + 1 + nx) (c.bodies.drop (i + 1))) = R) := Lib.hid (by have := HG2.out; rwa [decide_eq_true p1, decide_eq_true p2, Bool.true_and, Bool.true_and] at this)
          have hcf := smCF_any Ax nx cx x.code _ HCD.out (by omega)
          clear p2 HG2
          cases hal : x.code.all smallI with
          | true =>
            rw [hal] at hcf HG3
            have HG4 : Hid (smallGo most (T + 1 + nx) (c.bodies.drop (i + 1)) = R) := Lib.hid (by have := HG3.out; rwa [Bool.true_and] at this)
            clear hal HG3
            go_wp2_with (go_at_call 71; refine hcf.mono ?_; rintro e w2 ⟨rfl, hb2⟩; have HB2 := Lib.hid (HWA.out.trans (hb2.mono HWA.out.size)); clear hb2 hcf)
            go_roundw
            case rel => exact ⟨i + 1, T + 1 + nx, by omega, by go_num, by go_num, by omega, HG4, HB2⟩
            case measure => simp [intOf]; omega
          | false =>
            rw [hal] at hcf HG3
            have HG4 : Hid (R = false) := Lib.hid (by have := HG3.out; rw [Bool.false_and] at this; exact this.symm)
            clear hal HG3
            go_wp2_with (go_at_call 71; refine hcf.mono ?_; rintro e w2 ⟨rfl, hb2⟩; have HB2 := Lib.hid (HWA.out.trans (hb2.mono HWA.out.size)); clear hb2 hcf)
            go_ret
            exact ⟨ret_bool HG4.out.symm, HB2.out⟩
        · have f2 : decide ((200 : Int) < (x.name.length : Int)) = true := decide_eq_true (by omega)
          have HG4 : Hid (R = false) := Lib.hid (by have := HG2.out; rw [decide_eq_false p2, Bool.and_false, Bool.false_and, Bool.false_and] at this; exact this.symm)
          clear p1 p2 HG2
          go_wp2_with fail
          go_ret
          exact ⟨ret_bool HG4.out.symm, HWA.out⟩
      · have f1 : decide ((most : Int) < (T : Int) + (1 + (nx : Int))) = true := decide_eq_true (by omega)
        have HG4 : Hid (R = false) := Lib.hid (by have := HG2.out; rw [decide_eq_false p1, Bool.false_and, Bool.false_and, Bool.false_and] at this; exact this.symm)
        clear p1 HG2
        go_wp2_with fail
        go_ret
        exact ⟨ret_bool HG4.out.symm, HWA.out⟩
    · obtain rfl : i = n := by omega
      have HT : Hid (R = true) := Lib.hid (by
        have := HG.out
        rw [List.drop_of_length_le (by have := HLN.out; omega), smallGo] at this
        exact this.symm)
      clear HG
      go_wp2_with fail
      go_ret
      exact ⟨ret_bool HT.out.symm, HW.out⟩
set_option maxRecDepth 100000 in
set_option maxHeartbeats 8000000 in
theorem small_any (c : CodeL) (A : Option Addr) (n cc : Nat) (w : World) (hC : Bods w A n c.bodies) (hn : n ≤ 1000000000000000) (hl : ∀ b ∈ c.bodies, b.code.length ≤ 1000000000000000) :
    Calls Tryz.prog 9 #[codeV c A n cc, .int .i64 200] w fun e w' => e = .returned (.bool (smallL c)) ∧ Below w.heap.size w w' := by
  have HB0 := Lib.hid ((Below.refl w.heap.size w).alloc (Nat.le_refl _) (.cells #[.int .i64 c.globals, .slice A n cc] 24))
  have HX0 := Lib.hid (BlkAt.new w 24 #[.int .i64 c.globals, .slice A n cc])
  have hsm := Small_any c A n cc 200 _ (bods_below hC HB0.out) hn hl (by omega)
  have HR : Hid (smallL c = (smallC 200 c && !c.bodies.any midRegs)) := Lib.hid rfl
  have c0 := HX0.out.cell 0
  have c1 := HX0.out.cell 1
  simp only [List.getElem?_toArray, List.getElem?_cons_succ, List.getElem?_cons_zero] at c0 c1
  have HC := Lib.hid hC
  rw [HR.out]
  unfold codeV at hsm ⊢
  cases hs : smallC 200 c with
  | false =>
    rw [hs] at hsm
    clear hC hl hs HR
    go_enter Tryz.func9, Tryz.ntmps9
    go_wp2_with (go_at_call 36; refine hsm.mono ?_; rintro e w2 ⟨rfl, hb2⟩; have HB2 := Lib.hid (HB0.out.trans (hb2.mono HB0.out.size)); clear hb2 hsm)
    go_ret
    exact ⟨rfl, HB2.out⟩
  | true =>
    rw [hs] at hsm
    have hn2 : n ≤ 1000 := by have := (smallGo_len 200 c.bodies 0 (by omega) hs).1; have := hC.len; omega
    clear hC hl hs HR
    go_enter Tryz.func9, Tryz.ntmps9
    go_wp2_with (first
      | (go_at_call 36
         refine hsm.mono ?_
         rintro e w2 ⟨rfl, hb2⟩
         have HB2 := Lib.hid (HB0.out.trans (hb2.mono HB0.out.size))
         have HX2 := Lib.hid (HX0.out.below hb2 HX0.out.lt)
         clear c0 c1
         have c0 := HX2.out.cell 0
         have c1 := HX2.out.cell 1
         simp only [List.getElem?_toArray, List.getElem?_cons_succ, List.getElem?_cons_zero] at c0 c1
         have hmf := midCF_any A n cc c.bodies w2 (bods_below HC.out HB2.out) (by omega)
         clear hb2 hsm)
      | (go_at_call 37
         refine hmf.mono ?_
         rintro e w3 ⟨rfl, hb3⟩
         have HB3 := Lib.hid (HB2.out.trans (hb3.mono HB2.out.size))
         clear hb3 hmf)
      | fail)
    go_ret
    exact ⟨ret_bool (by simp), HB3.out⟩
end Go.Proofs.YtpahhcmiimllaaaGreatDoor
