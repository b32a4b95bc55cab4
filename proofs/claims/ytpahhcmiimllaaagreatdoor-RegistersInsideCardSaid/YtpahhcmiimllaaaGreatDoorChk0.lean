/- DERIVED. The closures of the program's Check, and the searches with them. -/
import Derived.Test.YtpahhcmiimllaaaGreatDoorNmd2
set_option linter.unusedSimpArgs false
set_option linter.unusedVariables false
namespace Go.Proofs.YtpahhcmiimllaaaGreatDoor
open Go.RowKit Go.Shelf

def ShortI (x : InsL) : Prop := x.text.length ≤ 300 ∧ x.list.length ≤ 100
set_option maxRecDepth 100000 in
set_option maxHeartbeats 4000000 in
theorem chk2_any (c : CodeL) (b : BodyL) (x : InsL) (A : Option Addr) (nb cc : Nat) (Ab : Option Addr) (lb cb X Y : Nat) (Ai : Option Addr) (ni ci : Nat) (w : World) (hx : CBox w c b A nb cc Ab lb cb X Y) (hC : Bods w A nb c.bodies) (hI : Rd encI 1 w Ai ni x.list) (hs : ShortI x) (hV : VarsR w) :
    Calls Tryz.prog 102 #[insV x Ai ni ci, .pointer (some ⟨X, 0, none⟩), .pointer (some ⟨Y, 0, none⟩)] w fun e w' => e = .returned (.bool (!insOK c b x)) ∧ Below w.heap.size w w' := by
  have HB1 := Lib.hid ((Below.refl w.heap.size w).alloc (Nat.le_refl _) (.cells #[.int .i64 x.op, .int .i64 x.a, .int .i64 x.b, .int .i64 x.c, .int .i64 x.d, .string ⟨x.text.toArray⟩, .slice Ai ni ci] 55))
  have hr := right_any c b x A nb cc Ab lb cb Ai ni ci _ (bods_below hC HB1.out) hx.hlb (hI.below HB1.out) (by have := hI.len; have := hs.2; omega) (by have := hs.1; omega) (hV.below HB1.out)
  have c0 := hx.cx.cell 0
  have c1 := hx.cx.cell 1
  have d0 := hx.by_.cell 0
  have d1 := hx.by_.cell 1
  have d2 := hx.by_.cell 2
  have d3 := hx.by_.cell 3
  simp only [List.getElem?_toArray, List.getElem?_cons_succ, List.getElem?_cons_zero] at c0 c1 d0 d1 d2 d3
  have hl1 := hx.cx.lt
  have hl2 := hx.by_.lt
  clear hx hC hI hs hV
  unfold codeV bodyV insV at hr
  unfold insV
  generalize insOK c b x = F at *
  go_enter Tryz.func102, Tryz.ntmps102
  go_wp2_with (go_at_call 103; refine hr.mono ?_; rintro e w2 ⟨rfl, hb2⟩; have HB2 := Lib.hid (HB1.out.trans (hb2.mono HB1.out.size)); clear hb2 hr)
  go_ret
  exact ⟨rfl, HB2.out⟩
set_option maxRecDepth 100000 in
set_option maxHeartbeats 4000000 in
theorem insIdx_any (c : CodeL) (b : BodyL) (A : Option Addr) (nb cc : Nat) (Ab : Option Addr) (lb cb X Y : Nat) (n cn : Nat) (w : World) (hx : CBox w c b A nb cc Ab lb cb X Y) (hC : Bods w A nb c.bodies) (hI : Inss w Ab n b.code) (hn : n ≤ 100000) (hs : ∀ x ∈ b.code, ShortI x) (hV : VarsR w) :
    Calls Tryz.prog 99 #[.slice Ab n cn, .func (.func 102) #[] #[.pointer (some ⟨X, 0, none⟩), .pointer (some ⟨Y, 0, none⟩)]] w fun e w' => (∃ k : Int, e = .returned (.int .i64 k) ∧ decide (0 ≤ k) = !b.code.all (insOK c b)) ∧ Below w.heap.size w w' := by
  have HX := Lib.hid hx
  have HC := Lib.hid hC
  have HI := Lib.hid hI
  have HS := Lib.hid hs
  have HV := Lib.hid hV
  have HLN := Lib.hid hI.len
  clear hx hI hC hs hV
  go_enter Tryz.func99, Tryz.ntmps99
  go_wp2_with fail
  go_loopw [8] (fun a wr => ∃ i : Nat, i ≤ n ∧ a = .int .i64 i ∧ Hid ((b.code.take i).all (insOK c b) = true) ∧ Hid (Below w.heap.size w wr)) (fun a _ => n - (intOf a).toNat)
  case atStart => exact ⟨0, by omega, rfl, Lib.hid (by simp), Lib.hid (Below.refl _ _)⟩
  case round =>
    obtain ⟨i, hin, rfl, HT, HW⟩ := hrel
    by_cases hlt : i < n
    · obtain ⟨x, hx⟩ := get_some (xs := b.code) (k := i) (by have := HLN.out; omega)
      obtain ⟨bi, oi, hAe, _, Ax, nx, cx, hxc⟩ := (inss_below HI.out HW.out).at_ i x hx
      have hcl := chk2_any c b x A nb cc Ab lb cb X Y Ax nx cx wr (HX.out.below HW.out) (bods_below HC.out HW.out) hxc.list (HS.out x (List.mem_of_getElem? hx)) (HV.out.below HW.out)
      subst hAe
      have c0 := hxc.c0
      have c1 := hxc.c1
      have c2 := hxc.c2
      have c3 := hxc.c3
      have c4 := hxc.c4
      have c5 := hxc.c5
      have c6 := hxc.c6
      have hk0 : (0 : Int) ≤ (i : Int) := by omega
      have hk1 : (i : Int) < (n : Int) := by omega
      have wr1 : IntKind.i64.wrap ((i : Int) + 1) = (i : Int) + 1 := IntWalk.i64_in _ (by omega)
      have HN : Hid (insOK c b x = true → (b.code.take (i + 1)).all (insOK c b) = true) := Lib.hid (fun h => by
        rw [List.take_add_one, hx]; simp only [List.all_append, HT.out, Option.toList_some, List.all_cons, h, List.all_nil, Bool.and_self])
      have HF : Hid (insOK c b x = false → b.code.all (insOK c b) = false) := Lib.hid (fun h => by
        rw [Bool.eq_false_iff]
        intro hall
        have := List.all_eq_true.1 hall x (List.mem_of_getElem? hx)
        rw [h] at this; cases this)
      clear hxc hx
      unfold insV at hcl
      cases hfx : insOK c b x with
      | true =>
        rw [hfx] at hcl
        have HN2 := Lib.hid (HN.out hfx)
        clear hfx HN HF
        go_wp2_with (go_at_call 102; refine hcl.mono ?_; rintro e w2 ⟨rfl, hb2⟩; have HB2 := Lib.hid (HW.out.trans (hb2.mono HW.out.size)); clear hb2 hcl)
        go_roundw
        case rel => exact ⟨i + 1, by omega, by go_num, HN2, HB2⟩
        case measure => simp [intOf]; omega
      | false =>
        rw [hfx] at hcl
        have HF2 := Lib.hid (HF.out hfx)
        clear hfx HN HF
        go_wp2_with (go_at_call 102; refine hcl.mono ?_; rintro e w2 ⟨rfl, hb2⟩; have HB2 := Lib.hid (HW.out.trans (hb2.mono HW.out.size)); clear hb2 hcl)
        go_ret
        exact ⟨⟨_, rfl, by rw [HF2.out]; simp⟩, HB2.out⟩
    · obtain rfl : i = n := by omega
      have HALL : Hid (b.code.all (insOK c b) = true) := Lib.hid (by have := HT.out; rwa [HLN.out, List.take_length] at this)
      go_wp2_with fail
      go_ret
      exact ⟨⟨_, rfl, by rw [HALL.out]; rfl⟩, HW.out⟩
set_option maxHeartbeats 4000000 in
theorem insCF_any (c : CodeL) (b : BodyL) (A : Option Addr) (nb cc : Nat) (Ab : Option Addr) (lb cb X Y : Nat) (n cn : Nat) (w : World) (hx : CBox w c b A nb cc Ab lb cb X Y) (hC : Bods w A nb c.bodies) (hI : Inss w Ab n b.code) (hn : n ≤ 100000) (hs : ∀ x ∈ b.code, ShortI x) (hV : VarsR w) :
    Calls Tryz.prog 71 #[.slice Ab n cn, .func (.func 102) #[] #[.pointer (some ⟨X, 0, none⟩), .pointer (some ⟨Y, 0, none⟩)]] w fun e w' => e = .returned (.bool (!b.code.all (insOK c b))) ∧ Below w.heap.size w w' := by
  have hi := insIdx_any c b A nb cc Ab lb cb X Y n cn w hx hC hI hn hs hV
  clear hx hI hC hs hV
  generalize b.code.all (insOK c b) = F at *
  go_enter Tryz.func71, Tryz.ntmps71
  go_wp2_with (go_at_call 99; refine hi.mono ?_; rintro e w2 ⟨⟨k, rfl, hk⟩, hb2⟩; have HB2 := Lib.hid hb2; clear hb2 hi)
  go_ret
  exact ⟨rfl, HB2.out⟩
def manyRegs (b : BodyL) : Bool := decide (5000 < b.regs)
set_option maxHeartbeats 4000000 in
theorem chk1_any (b : BodyL) (Ab : Option Addr) (lb cb : Nat) (w : World) : Calls Tryz.prog 100 #[bodyV b Ab lb cb] w fun e w' => e = .returned (.bool (manyRegs b)) ∧ Below w.heap.size w w' := by
  have HB := Lib.hid ((Below.refl w.heap.size w).alloc (Nat.le_refl _) (.cells #[.string ⟨b.name.toArray⟩, .int .i64 b.regs, .int .i64 b.args, .slice Ab lb cb] 51))
  unfold bodyV manyRegs
  go_enter Tryz.func100, Tryz.ntmps100
  go_wp2_with fail
  go_ret
  exact ⟨rfl, HB.out⟩
set_option maxRecDepth 100000 in
set_option maxHeartbeats 4000000 in
theorem bodIdx_any (A : Option Addr) (n cn : Nat) (xs : List BodyL) (w : World) (hI : Bods w A n xs) (hn : n ≤ 100000) :
    Calls Tryz.prog 73 #[.slice A n cn, .func (.func 100) #[] #[]] w fun e w' => (∃ k : Int, e = .returned (.int .i64 k) ∧ decide (0 ≤ k) = xs.any manyRegs) ∧ Below w.heap.size w w' := by
  have HI := Lib.hid hI
  have HLN := Lib.hid hI.len
  clear hI
  go_enter Tryz.func73, Tryz.ntmps73
  go_wp2_with fail
  go_loopw [8] (fun a wr => ∃ i : Nat, i ≤ n ∧ a = .int .i64 i ∧ Hid ((xs.take i).any manyRegs = false) ∧ Hid (Below w.heap.size w wr)) (fun a _ => n - (intOf a).toNat)
  case atStart => exact ⟨0, by omega, rfl, Lib.hid (by simp), Lib.hid (Below.refl _ _)⟩
  case round =>
    obtain ⟨i, hin, rfl, HT, HW⟩ := hrel
    by_cases hlt : i < n
    · obtain ⟨x, hx⟩ := get_some (xs := xs) (k := i) (by have := HLN.out; omega)
      obtain ⟨bi, oi, rfl, _, Ax, nx, cx, hxc⟩ := (bods_below HI.out HW.out).at_ i x hx
      have hcl := chk1_any x Ax nx cx wr
      have c0 := hxc.c0
      have c1 := hxc.c1
      have c2 := hxc.c2
      have c3 := hxc.c3
      have hk0 : (0 : Int) ≤ (i : Int) := by omega
      have hk1 : (i : Int) < (n : Int) := by omega
      have wr1 : IntKind.i64.wrap ((i : Int) + 1) = (i : Int) + 1 := IntWalk.i64_in _ (by omega)
      have HN : Hid (manyRegs x = false → (xs.take (i + 1)).any manyRegs = false) := Lib.hid (fun h => by
        rw [List.take_add_one, hx]; simp only [List.any_append, HT.out, Option.toList_some, List.any_cons, h, List.any_nil, Bool.or_self])
      have HF : Hid (manyRegs x = true → xs.any manyRegs = true) := Lib.hid (fun h => List.any_eq_true.2 ⟨x, List.mem_of_getElem? hx, h⟩)
      clear hxc hx
      unfold bodyV at hcl
      cases hfx : manyRegs x with
      | false =>
        rw [hfx] at hcl
        have HN2 := Lib.hid (HN.out hfx)
        clear hfx HN HF
        go_wp2_with (go_at_call 100; refine hcl.mono ?_; rintro e w2 ⟨rfl, hb2⟩; have HB2 := Lib.hid (HW.out.trans (hb2.mono HW.out.size)); clear hb2 hcl)
        go_roundw
        case rel => exact ⟨i + 1, by omega, by go_num, HN2, HB2⟩
        case measure => simp [intOf]; omega
      | true =>
        rw [hfx] at hcl
        have HF2 := Lib.hid (HF.out hfx)
        clear hfx HN HF
        go_wp2_with (go_at_call 100; refine hcl.mono ?_; rintro e w2 ⟨rfl, hb2⟩; have HB2 := Lib.hid (HW.out.trans (hb2.mono HW.out.size)); clear hb2 hcl)
        go_ret
        exact ⟨⟨_, rfl, by rw [HF2.out]; simp⟩, HB2.out⟩
    · obtain rfl : i = n := by omega
      have HALL : Hid (xs.any manyRegs = false) := Lib.hid (by have := HT.out; rwa [HLN.out, List.take_length] at this)
      go_wp2_with fail
      go_ret
      exact ⟨⟨_, rfl, by rw [HALL.out]; rfl⟩, HW.out⟩
set_option maxHeartbeats 4000000 in
theorem bodCF_any (A : Option Addr) (n cn : Nat) (xs : List BodyL) (w : World) (hI : Bods w A n xs) (hn : n ≤ 100000) :
    Calls Tryz.prog 37 #[.slice A n cn, .func (.func 100) #[] #[]] w fun e w' => e = .returned (.bool (xs.any manyRegs)) ∧ Below w.heap.size w w' := by
  have hi := bodIdx_any A n cn xs w hI hn
  clear hI
  generalize xs.any manyRegs = F at *
  go_enter Tryz.func37, Tryz.ntmps37
  go_wp2_with (go_at_call 73; refine hi.mono ?_; rintro e w2 ⟨⟨k, rfl, hk⟩, hb2⟩; have HB2 := Lib.hid hb2; clear hb2 hi)
  go_ret
  exact ⟨rfl, HB2.out⟩
end Go.Proofs.YtpahhcmiimllaaaGreatDoor
