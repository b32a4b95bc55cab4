/- DERIVED. The package's variables that this seat reads; lists of words. -/
import Derived.Test.YtpahhcmiimllaaaGreatDoorRul2
import Derived.Lib.TrailingZeros
set_option linter.unusedSimpArgs false
set_option linter.unusedVariables false
namespace Go.Proofs.YtpahhcmiimllaaaGreatDoor
open Go.RowKit

/-- the two boxes that right's closure has captured -/
structure CBox (w : World) (c : CodeL) (b : BodyL) (A : Option Addr) (nb cc : Nat) (Ab : Option Addr) (lb cb : Nat) (X Y : Nat) : Prop where
  cx : BlkAt w X 24 #[.int .i64 c.globals, .slice A nb cc]
  by_ : BlkAt w Y 51 #[.string ⟨b.name.toArray⟩, .int .i64 b.regs, .int .i64 b.args, .slice Ab lb cb]
  hnb : nb = c.bodies.length
  hlb : lb = b.code.length
theorem CBox.below {w w' : World} {c : CodeL} {b : BodyL} {A : Option Addr} {nb cc : Nat} {Ab : Option Addr} {lb cb X Y : Nat} (h : CBox w c b A nb cc Ab lb cb X Y) (hb : Below w.heap.size w w') : CBox w' c b A nb cc Ab lb cb X Y :=
  ⟨h.cx.below hb h.cx.lt, h.by_.below hb h.by_.lt, h.hnb, h.hlb⟩
set_option maxRecDepth 100000 in
set_option maxHeartbeats 4000000 in
theorem right1_any (c : CodeL) (b : BodyL) (n : Int) (A : Option Addr) (nb cc : Nat) (Ab : Option Addr) (lb cb X Y : Nat) (w : World) (hx : CBox w c b A nb cc Ab lb cb X Y) :
    Calls Tryz.prog 119 #[.int .i64 n, .pointer (some ⟨X, 0, none⟩), .pointer (some ⟨Y, 0, none⟩)] w fun e w' => e = .returned (.bool (!fieldB c b 1 n)) ∧ Below w.heap.size w w' := by
  have hf := field_any c b 1 n A nb cc Ab lb cb w hx.hnb hx.hlb (by omega)
  have c0 := hx.cx.cell 0
  have c1 := hx.cx.cell 1
  have d0 := hx.by_.cell 0
  have d1 := hx.by_.cell 1
  have d2 := hx.by_.cell 2
  have d3 := hx.by_.cell 3
  simp only [List.getElem?_toArray, List.getElem?_cons_succ, List.getElem?_cons_zero] at c0 c1 d0 d1 d2 d3
  clear hx
  unfold codeV bodyV at hf
  generalize fieldB c b 1 n = F at *
  go_enter Tryz.func119, Tryz.ntmps119
  go_wp2_with (go_at_call 115; refine hf.mono ?_; rintro e w2 ⟨rfl, hb2⟩; have HB2 := Lib.hid hb2; clear hb2 hf)
  go_ret
  exact ⟨rfl, HB2.out⟩
set_option maxRecDepth 100000 in
set_option maxHeartbeats 4000000 in
theorem rightIdx_any (c : CodeL) (b : BodyL) (A : Option Addr) (nb cc : Nat) (Ab : Option Addr) (lb cb X Y : Nat) (Ai : Option Addr) (n ci : Nat) (xs : List Int) (w : World) (hx : CBox w c b A nb cc Ab lb cb X Y) (hI : Rd encI 1 w Ai n xs) (hn : n ≤ 100000) :
    Calls Tryz.prog 61 #[.slice Ai n ci, .func (.func 119) #[] #[.pointer (some ⟨X, 0, none⟩), .pointer (some ⟨Y, 0, none⟩)]] w fun e w' => (∃ k : Int, e = .returned (.int .i64 k) ∧ decide (0 ≤ k) = !xs.all (fieldB c b 1)) ∧ Below w.heap.size w w' := by
  have HX := Lib.hid hx
  have HI := Lib.hid hI
  have HLN := Lib.hid hI.len
  clear hx hI
  go_enter Tryz.func61, Tryz.ntmps61
  go_wp2_with fail
  go_loopw [8] (fun a wr => ∃ i : Nat, i ≤ n ∧ a = .int .i64 i ∧ Hid ((xs.take i).all (fieldB c b 1) = true) ∧ Hid (Below w.heap.size w wr)) (fun a _ => n - (intOf a).toNat)
  case atStart => exact ⟨0, by omega, rfl, Lib.hid (by simp), Lib.hid (Below.refl _ _)⟩
  case round =>
    obtain ⟨i, hin, rfl, HT, HW⟩ := hrel
    by_cases hlt : i < n
    · obtain ⟨x, hx⟩ := get_some (xs := xs) (k := i) (by have := HLN.out; omega)
      obtain ⟨bi, oi, rfl, _, hc⟩ := (HI.out.below HW.out).at_ i x hx
      have c0 := hc 0 _ rfl
      rw [Nat.mul_one, Nat.add_zero] at c0
      have hk0 : (0 : Int) ≤ (i : Int) := by omega
      have hk1 : (i : Int) < (n : Int) := by omega
      have wr1 : IntKind.i64.wrap ((i : Int) + 1) = (i : Int) + 1 := IntWalk.i64_in _ (by omega)
      have hcl := right1_any c b x A nb cc Ab lb cb X Y wr (HX.out.below HW.out)
      have HN : Hid (fieldB c b 1 x = true → (xs.take (i + 1)).all (fieldB c b 1) = true) := Lib.hid (fun h => by
        rw [List.take_add_one, hx]; simp only [List.all_append, HT.out, Option.toList_some, List.all_cons, h, List.all_nil, Bool.and_self])
      have HF : Hid (fieldB c b 1 x = false → xs.all (fieldB c b 1) = false) := Lib.hid (fun h => by
        rw [Bool.eq_false_iff]
        intro hall
        have := List.all_eq_true.1 hall x (List.mem_of_getElem? hx)
        rw [h] at this; cases this)
      clear hc hx
      cases hfx : fieldB c b 1 x with
      | true =>
        rw [hfx] at hcl
        have HN2 := Lib.hid (HN.out hfx)
        clear hfx HN HF
        go_wp2_with (go_at_call 119; refine hcl.mono ?_; rintro e w2 ⟨rfl, hb2⟩; have HB2 := Lib.hid (HW.out.trans (hb2.mono HW.out.size)); clear hb2 hcl)
        go_roundw
        case rel => exact ⟨i + 1, by omega, by go_num, HN2, HB2⟩
        case measure => simp [intOf]; omega
      | false =>
        rw [hfx] at hcl
        have HF2 := Lib.hid (HF.out hfx)
        clear hfx HN HF
        go_wp2_with (go_at_call 119; refine hcl.mono ?_; rintro e w2 ⟨rfl, hb2⟩; have HB2 := Lib.hid (HW.out.trans (hb2.mono HW.out.size)); clear hb2 hcl)
        go_ret
        exact ⟨⟨_, rfl, by rw [HF2.out]; simp⟩, HB2.out⟩
    · obtain rfl : i = n := by omega
      have HALL : Hid (xs.all (fieldB c b 1) = true) := Lib.hid (by have := HT.out; rwa [HLN.out, List.take_length] at this)
      go_wp2_with fail
      go_ret
      exact ⟨⟨_, rfl, by rw [HALL.out]; rfl⟩, HW.out⟩
set_option maxHeartbeats 4000000 in
theorem rightCF_any (c : CodeL) (b : BodyL) (A : Option Addr) (nb cc : Nat) (Ab : Option Addr) (lb cb X Y : Nat) (Ai : Option Addr) (n ci : Nat) (xs : List Int) (w : World) (hx : CBox w c b A nb cc Ab lb cb X Y) (hI : Rd encI 1 w Ai n xs) (hn : n ≤ 100000) :
    Calls Tryz.prog 24 #[.slice Ai n ci, .func (.func 119) #[] #[.pointer (some ⟨X, 0, none⟩), .pointer (some ⟨Y, 0, none⟩)]] w fun e w' => e = .returned (.bool (!xs.all (fieldB c b 1))) ∧ Below w.heap.size w w' := by
  have hi := rightIdx_any c b A nb cc Ab lb cb X Y Ai n ci xs w hx hI hn
  clear hx hI
  generalize xs.all (fieldB c b 1) = F at *
  go_enter Tryz.func24, Tryz.ntmps24
  go_wp2_with (go_at_call 61; refine hi.mono ?_; rintro e w2 ⟨⟨k, rfl, hk⟩, hb2⟩; have HB2 := Lib.hid hb2; clear hb2 hi)
  go_ret
  exact ⟨rfl, HB2.out⟩
end Go.Proofs.YtpahhcmiimllaaaGreatDoor
namespace Go.Proofs.YtpahhcmiimllaaaGreatDoor
open Go.RowKit Go.Shelf

/-- what the listed variables hold -/
structure VarsR (w : World) : Prop where
  tab : Lib.TabIs Tryz.prog w "strings.asciiSpace" .u8 Lib.asciiSpaceTab
  deb : Lib.TabIs Tryz.prog w "math/bits.deBruijn64tab" .u8 (Lib.deBruijn64tab.map Int.ofNat)
theorem var_lt {w : World} {n : String} {cs : Array Value} {g : Nat} (h : w.var? Tryz.prog n = some cs) (hg : Tryz.prog.globalNamed n = some g) : g < w.heap.size := by
  unfold World.var? at h
  rw [hg] at h
  simp only [Option.bind_some] at h
  rcases Nat.lt_or_ge g w.heap.size with h' | h'
  · exact h'
  · rw [Array.getElem?_eq_none h'] at h; cases h
theorem var_grown {w w' : World} {n : String} {cs : Array Value} {row : Option Nat} (h : w.var? Tryz.prog n = some cs) (hgr : w.grownBy w' row) (hX : ∀ X, row = some X → Tryz.prog.globalNamed n ≠ some X) : w'.var? Tryz.prog n = some cs := by
  rcases hg : Tryz.prog.globalNamed n with _ | g
  · unfold World.var? at h; rw [hg] at h; cases h
  · have hlt := var_lt h hg
    unfold World.var? at h ⊢
    rw [hg] at h ⊢
    simp only [Option.bind_some] at h ⊢
    rw [hgr.block g hlt (fun e => hX g e.symm hg)]
    exact h
theorem VarsR.below {w w' : World} (h : VarsR w) (hb : Below w.heap.size w w') : VarsR w' := ⟨var_grown (row := none) h.tab (grown_of_below hb) (fun _ e => by cases e), var_grown (row := none) h.deb (grown_of_below hb) (fun _ e => by cases e)⟩
theorem fields_ops (op : Int) (h : textsOf op ≠ []) : Lib.fields (textT op) = textsOf op ∧ (∀ x ∈ textT op, x.toNat < 128) ∧ (textT op).length ≤ 1000 ∧ (textsOf op).length ≤ 1000 := by
  have hop : op = 3 ∨ op = 4 ∨ op = 15 ∨ op = 34 ∨ op = 35 := by
    unfold textsOf at h
    split at h
    · omega
    · split at h
      · omega
      · split at h
        · omega
        · split at h
          · omega
          · split at h
            · omega
            · exact absurd rfl h
  rcases hop with rfl | rfl | rfl | rfl | rfl <;> exact ⟨by decide +kernel, by decide +kernel, by decide +kernel, by decide +kernel⟩
theorem text_nil (op : Int) : (textT op == []) = decide (textsOf op = []) := by
  by_cases h3 : op = 3
  · subst h3; decide +kernel
  by_cases h4 : op = 4
  · subst h4; decide +kernel
  by_cases h15 : op = 15
  · subst h15; decide +kernel
  by_cases h34 : op = 34
  · subst h34; decide +kernel
  by_cases h35 : op = 35
  · subst h35; decide +kernel
  have e : textsOf op = [] := by unfold textsOf; rw [if_neg h3, if_neg h4, if_neg h15, if_neg h34, if_neg h35]
  unfold textT
  rw [e]; rfl
theorem kinds_le (op : Int) : (0 ≤ (kindsOf op).1 ∧ (kindsOf op).1 ≤ 10) ∧ (0 ≤ (kindsOf op).2.1 ∧ (kindsOf op).2.1 ≤ 10) ∧ (0 ≤ (kindsOf op).2.2.1 ∧ (kindsOf op).2.2.1 ≤ 10) ∧ (0 ≤ (kindsOf op).2.2.2 ∧ (kindsOf op).2.2.2 ≤ 10) := by
  have h : ∀ x ∈ kindsT, (0 ≤ x.1 ∧ x.1 ≤ 10) ∧ (0 ≤ x.2.1 ∧ x.2.1 ≤ 10) ∧ (0 ≤ x.2.2.1 ∧ x.2.2.1 ≤ 10) ∧ (0 ≤ x.2.2.2 ∧ x.2.2.2 ≤ 10) := by decide +kernel
  unfold kindsOf
  rw [List.getD_eq_getElem?_getD]
  rcases hh : kindsT[op.toNat]? with _ | x
  · simp
  · exact h x (List.mem_of_getElem? hh)
theorem containsS_any (ws : List (List UInt8)) (s : List UInt8) (T : TypeId) (w : World) (hn : ws.length ≤ 1000) :
    Calls Tryz.prog 116 #[.slice (some ⟨w.heap.size, 0, none⟩) ws.length ws.length, .string ⟨s.toArray⟩] (w.alloc (.cells (ws.map fun l => Value.string ⟨l.toArray⟩).toArray T)) fun e w' => e = .returned (.bool (decide (s ∈ ws))) ∧ w' = w.alloc (.cells (ws.map fun l => Value.string ⟨l.toArray⟩).toArray T) := by
  refine (Tryz.slices_Contains_string w.heap.size 0 ws.length ws.length (ws.map (fun l => ⟨l.toArray⟩)) ⟨s.toArray⟩ _ (by rw [List.length_map]; omega) (by omega) ?_).mono ?_
  · intro j hj
    rw [List.length_map] at hj
    obtain ⟨x, hx⟩ := get_some hj
    rw [Nat.zero_add, BlkAt.cell (BlkAt.new w T _), List.getD_eq_getElem?_getD, List.getElem?_map, hx]
    simp [hx]
  · rintro e w' ⟨rfl, rfl⟩
    refine ⟨ret_bool ?_, rfl⟩
    rw [Bool.eq_iff_iff, Lib.containsS_iff, decide_eq_true_eq, List.take_of_length_le (by simp)]
    constructor
    · intro h
      obtain ⟨l, hl, e⟩ := List.mem_map.1 h
      have : l = s := by
        have := congrArg (fun x : ByteArray => x.data.toList) e
        simpa using this
      rwa [← this]
    · intro h; exact List.mem_map.2 ⟨s, h, rfl⟩
end Go.Proofs.YtpahhcmiimllaaaGreatDoor
