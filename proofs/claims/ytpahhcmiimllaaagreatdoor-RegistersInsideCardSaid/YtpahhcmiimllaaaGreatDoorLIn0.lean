/- DERIVED. RegistersInside: what is ahead of an instruction; the closures. -/
import Derived.Test.YtpahhcmiimllaaaGreatDoorLEn0
import Derived.Test.YtpahhcmiimllaaaGreatDoorLiveW
set_option linter.unusedSimpArgs false
set_option linter.unusedVariables false
namespace Go.Proofs.YtpahhcmiimllaaaGreatDoor
open Go.RowKit Go.Shelf

set_option maxHeartbeats 2000000 in
theorem itv_index2 (f : Nat) (cb : Array Value) (eg : ∀ args w, (callFunc f args).run Tryz.prog w = .ok (.enter f args) w) (p : Itv → Bool) (g c : Nat) (xs : List Itv) (cur : Array Value) (I : Nat → World → Prop) (w : World) (hn : xs.length ≤ 1000000)
    (hbk : BlkAt w g 44 cur) (hget : RowG g xs cur) (hp : ∀ k x W, xs[k]? = some x → I k W → Calls Tryz.prog f (#[.agg #[.int .i64 x.reg, .int .i64 x.frm, .int .i64 x.to]] ++ cb) W fun e W' => e = .returned (.bool (p x)) ∧ I (k + 1) W' ∧ KeepB W W') (hI : I 0 w) :
    Calls Tryz.prog 57 #[.slice (some ⟨g, 0, none⟩) xs.length c, .func (.func f) #[] cb] w fun e w' => e = .returned (.int .i64 (idxI p xs)) ∧ IdxP p xs I w' ∧ KeepB w w' := by
  have HBK := Lib.hid hbk
  have HG := Lib.hid hget
  have HP := Lib.hid hp
  have HI := Lib.hid hI
  clear hbk hget hp hI
  go_enter Tryz.func57, Tryz.ntmps57
  go_wp2_with fail
  go_loopw [8] (fun i wr => ∃ k : Nat, k ≤ xs.length ∧ i = .int .i64 k ∧ Hid (∀ j y, j < k → xs[j]? = some y → p y = false) ∧ Hid (I k wr) ∧ Hid (KeepB w wr)) (fun i _ => xs.length - (intOf i).toNat)
  case atStart => exact ⟨0, by omega, rfl, Lib.hid (by intro j y h; omega), HI, Lib.hid (KeepB.refl _)⟩
  case round =>
    obtain ⟨k, hk, rfl, HALL, HIK, HKB⟩ := hrel
    by_cases hlt : k < xs.length
    · obtain ⟨x, hx⟩ := get_some (xs := xs) (k := k) hlt
      have hb : BlkAt wr g 44 cur := HKB.out.2 _ _ HBK.out
      have c0 := (hb.cell (k * 3 + 0)).trans (HG.out k x hx 0 _ rfl)
      have c1 := (hb.cell (k * 3 + 1)).trans (HG.out k x hx 1 _ rfl)
      have c2 := (hb.cell (k * 3 + 2)).trans (HG.out k x hx 2 _ rfl)
      rw [Nat.add_zero] at c0
      have HC := Lib.hid (HP.out k x wr hx HIK.out)
      have HX := Lib.hid hx
      have k0 : (0 : Int) ≤ (k : Int) := by omega
      have k1 : (k : Int) < (xs.length : Int) := by omega
      have wr1 : IntKind.i64.wrap ((k : Int) + 1) = (k : Int) + 1 := IntWalk.i64_in _ (by omega)
      clear hx hb
      cases hq : p x with
      | true =>
        rw [hq] at HC
        have HQ := Lib.hid hq
        clear hq
        go_wp2_with (go_at_fn f; refine HC.out.mono ?_; rintro e w1 ⟨rfl, hi1, hk1⟩; have HI1 := Lib.hid hi1; have HK1 := Lib.hid hk1; clear hi1 hk1 HC)
        go_ret
        have hf := find_at HX.out HQ.out HALL.out
        exact ⟨ret_int (by unfold idxI; rw [hf]), ⟨(fun i h => by rw [hf] at h; cases h; exact HI1.out), (fun h => by rw [hf] at h; cases h)⟩, HKB.out.trans HK1.out⟩
      | false =>
        rw [hq] at HC
        have HQ := Lib.hid hq
        clear hq
        go_wp2_with (go_at_fn f; refine HC.out.mono ?_; rintro e w1 ⟨rfl, hi1, hk1⟩; have HI1 := Lib.hid hi1; have HK1 := Lib.hid hk1; clear hi1 hk1 HC)
        go_roundw
        case rel =>
          refine ⟨k + 1, by omega, by go_num, Lib.hid ?_, HI1, Lib.hid (HKB.out.trans HK1.out)⟩
          intro j y hj hy
          by_cases hjk : j = k
          · subst hjk
            have := HX.out.symm.trans hy
            injection this with this
            subst this
            exact HQ.out
          · exact HALL.out j y (by omega) hy
        case measure => simp [intOf]; omega
    · obtain rfl : k = xs.length := by omega
      go_wp2_with fail
      go_ret
      have hf := find_none (p := p) (xs := xs) (fun y hy => by
        obtain ⟨j, hj⟩ := List.getElem?_of_mem hy
        have := (List.getElem?_eq_some_iff.1 hj).1
        exact HALL.out j y (by omega) hj)
      exact ⟨ret_int (by unfold idxI; rw [hf]), ⟨(fun i h => by rw [hf] at h; cases h), fun _ => HIK.out⟩, HKB.out⟩
theorem any_find {p : Itv → Bool} {xs : List Itv} : decide (0 ≤ idxI p xs) = xs.any p := by
  unfold idxI
  cases h : xs.findIdx? p with
  | none =>
    have := List.findIdx?_eq_none_iff.1 h
    have e : xs.any p = false := by rw [List.any_eq_false]; intro x hx; simpa using this x hx
    rw [e]; simp
  | some i =>
    obtain ⟨hi, hp, _⟩ := List.findIdx?_eq_some_iff_getElem.1 h
    have e : xs.any p = true := List.any_eq_true.2 ⟨_, List.getElem_mem hi, hp⟩
    rw [e]; simp
/-- a row of intervals of the call's own, searched by a closure that makes memory at most -/
theorem itv_containsFunc (f : Nat) (cb : Array Value) (eg : ∀ args w, (callFunc f args).run Tryz.prog w = .ok (.enter f args) w) (p : Itv → Bool) (A : Option Addr) (c : Nat) (xs : List Itv) (w : World) (hn : xs.length ≤ 1000000)
    (hR : Rd encItv 3 w A xs.length xs) (hA : ∀ a, A = some a → ∃ cur, a.off = 0 ∧ a.spot = none ∧ BlkAt w a.block 44 cur)
    (hp : ∀ x W, x ∈ xs → Below w.heap.size w W → Calls Tryz.prog f (#[.agg #[.int .i64 x.reg, .int .i64 x.frm, .int .i64 x.to]] ++ cb) W fun e W' => e = .returned (.bool (p x)) ∧ Below W.heap.size W W') :
    Calls Tryz.prog 21 #[.slice A xs.length c, .func (.func f) #[] cb] w fun e w' => e = .returned (.bool (xs.any p)) ∧ Below w.heap.size w w' := by
  have hidx : Calls Tryz.prog 57 #[.slice A xs.length c, .func (.func f) #[] cb] w fun e w' => e = .returned (.int .i64 (idxI p xs)) ∧ Below w.heap.size w w' := by
    by_cases h0 : xs = []
    · subst h0
      refine (itv_indexNil f cb c A w).mono ?_
      rintro e w' ⟨rfl, rfl⟩
      exact ⟨rfl, Below.refl _ _⟩
    · obtain ⟨x0, hx0⟩ := get_some (xs := xs) (k := 0) (List.length_pos_iff.2 h0)
      obtain ⟨b, o, rfl, _, _⟩ := hR.at_ 0 x0 hx0
      obtain ⟨cur, ho, _, hcur⟩ := hA _ rfl
      have ho : o = 0 := ho
      subst ho
      have hg : RowG b xs cur := fun t x hx u v hu => by
        obtain ⟨b', o', e, _, hc⟩ := hR.at_ t x hx
        cases e
        have := hc u v hu
        rwa [hcur.cell, Nat.zero_add] at this
      refine (itv_index2 f cb eg p b c xs cur (fun _ W => Below w.heap.size w W) w hn hcur hg (fun k x W hx hW => ?_) (Below.refl _ _)).mono ?_
      · refine (hp x W (List.mem_of_getElem? hx) hW).mono ?_
        rintro e W' ⟨rfl, hb⟩
        exact ⟨rfl, hW.trans (hb.mono hW.size), hb.size, fun g c hc => hc.below hb hc.lt⟩
      · rintro e w' ⟨rfl, h1, _⟩
        refine ⟨rfl, ?_⟩
        rcases hf : xs.findIdx? p with _ | i
        · exact h1.2 hf
        · exact h1.1 i hf
  have HI := Lib.hid hidx
  rw [← any_find]
  generalize idxI p xs = z at *
  clear hidx hp hR hA
  go_enter Tryz.func21, Tryz.ntmps21
  go_wp2_with (first
    | (go_at_call 57
       refine HI.out.mono ?_
       rintro e w2 ⟨rfl, hb2⟩
       have HB2 := Lib.hid hb2
       clear hb2 HI)
    | fail)
  go_ret
  exact ⟨rfl, HB2.out⟩
def inB (r i : Nat) (v : Itv) : Bool := decide (v.reg = r) && decide (v.frm ≤ i) && decide (i ≤ v.to)
set_option maxHeartbeats 4000000 in
theorem inside2_any (v : Itv) (r i rb ib : Nat) (W : World) (hr : W.cell? ⟨rb, 0, none⟩ = some (.int .i64 r)) (hi : W.cell? ⟨ib, 0, none⟩ = some (.int .i64 i)) :
    Calls Tryz.prog 22 #[.agg #[.int .i64 v.reg, .int .i64 v.frm, .int .i64 v.to], .pointer (some ⟨rb, 0, none⟩), .pointer (some ⟨ib, 0, none⟩)] W fun e W' => e = .returned (.bool (inB r i v)) ∧ Below W.heap.size W W' := by
  have hb := (Below.refl W.heap.size W).alloc (Nat.le_refl _) (.cells #[.int .i64 v.reg, .int .i64 v.frm, .int .i64 v.to] 44)
  have hr' := cell_below hb (Nat.le_refl _) hr
  have hi' := cell_below hb (Nat.le_refl _) hi
  have HB := Lib.hid hb
  have HD : Hid (inB r i v = (decide (v.reg = r) && decide (v.frm ≤ i) && decide (i ≤ v.to))) := Lib.hid rfl
  clear hb hr hi
  by_cases h1 : v.reg = r
  · have g1 : ((v.reg : Int) == (r : Int)) = true := by simp [h1]
    by_cases h2 : v.frm ≤ i
    · by_cases h3 : i ≤ v.to
      · rw [decide_eq_true h1, decide_eq_true h2, decide_eq_true h3] at HD
        have H1 := Lib.hid h1
        clear h1
        go_enter Tryz.func22, Tryz.ntmps22
        go_wp2_with fail
        go_ret
        exact ⟨ret_bool HD.out.symm, HB.out⟩
      · rw [decide_eq_true h1, decide_eq_true h2, decide_eq_false h3] at HD
        have H1 := Lib.hid h1
        clear h1
        go_enter Tryz.func22, Tryz.ntmps22
        go_wp2_with fail
        go_ret
        exact ⟨ret_bool HD.out.symm, HB.out⟩
    · rw [decide_eq_true h1, decide_eq_false h2] at HD
      have H1 := Lib.hid h1
      clear h1
      go_enter Tryz.func22, Tryz.ntmps22
      go_wp2_with fail
      go_ret
      exact ⟨ret_bool HD.out.symm, HB.out⟩
  · have g1 : ((v.reg : Int) == (r : Int)) = false := by simp; omega
    rw [decide_eq_false h1] at HD
    have H1 := Lib.hid h1
    clear h1
    go_enter Tryz.func22, Tryz.ntmps22
    go_wp2_with fail
    go_ret
    exact ⟨ret_bool HD.out.symm, HB.out⟩
def natI (xs : List Nat) : List Int := xs.map (fun n : Nat => (n : Int))
/-- a row of the live registers -/
def LvR (w : World) (b o : Nat) (ws : List Nat) : Prop := ∃ A n c, w.cell? ⟨b, o, none⟩ = some (.slice A n c) ∧ Rd encI 1 w A n (natI (elemsW ws)) ∧ n ≤ 100000
theorem LvR.below {w w' : World} {b o : Nat} {ws : List Nat} (h : LvR w b o ws) (hb : Below w.heap.size w w') : LvR w' b o ws := by
  obtain ⟨A, n, c, h1, h2, h3⟩ := h
  exact ⟨A, n, c, cell_below hb (Nat.le_refl _) h1, h2.below hb, h3⟩
theorem rd_nats {w : World} {base n c : Nat} {A : Option Addr} {xs : List Nat} (h : w.ownsRow base 3 1 (.slice A n c) xs.length (xs.flatMap encNat)) : Rd encI 1 w A n (natI xs) := by
  have e : xs.flatMap encNat = (natI xs).map (Value.int .i64) := by
    unfold natI
    clear h
    induction xs with
    | nil => rfl
    | cons x xs ih => rw [List.flatMap_cons, ih]; rfl
  have hl : (natI xs).length = xs.length := by unfold natI; simp
  rw [e, ← hl] at h
  exact rd_ints h
theorem live_rows {w : World} {base : Nat} {v : Value} {be : List (List Nat)} (h : RowsI w base v (be.map elemsW)) (hbe : ∀ ws ∈ be, (elemsW ws).length ≤ 100000) : ∃ A c, v = .slice A be.length c ∧ RdR LvR 1 w A be.length be := by
  obtain ⟨vs, h1, h2, h3⟩ := h
  rw [List.length_map] at h1
  obtain ⟨A, c, rfl, _, _, hA⟩ := own_slice h2
  refine ⟨A, c, by rw [h1], rfl, fun i ws hws => ?_⟩
  have hi := (List.getElem?_eq_some_iff.1 hws).1
  obtain ⟨x, hx⟩ := get_some (xs := vs) (k := i) (by rw [h1]; exact hi)
  obtain ⟨g, rfl, _, hlt, hc⟩ := hA (by rw [h1]; omega)
  have hr := h3 i x (elemsW ws) hx (by rw [List.getElem?_map, hws]; rfl)
  obtain ⟨Ax, cx, rfl, _, _, _⟩ := own_slice hr
  refine ⟨g, 0, rfl, hlt, Ax, _, cx, ?_, rd_nats hr, hbe ws (List.mem_of_getElem? hws)⟩
  rw [Nat.zero_add, Nat.mul_one]
  exact hc i _ hx
theorem lvs_below {w w' : World} {A : Option Addr} {n : Nat} {xs : List (List Nat)} (h : RdR LvR 1 w A n xs) (hb : Below w.heap.size w w') : RdR LvR 1 w' A n xs := RdR.below (R := LvR) (fun h hb => LvR.below h hb) h hb
/-- is register r live ahead of instruction n? -/
def aheadB (code : List InsL) (be : List (List Nat)) (n : Int) (r : Nat) : Bool :=
  decide (0 ≤ n) && decide (n < code.length) && ((usesR (code.getD n.toNat default)).contains (r : Int) || (!decide (usesW (code.getD n.toNat default) = (r : Int)) && (natI (elemsW (be.getD n.toNat []))).contains (r : Int)))
theorem mem_natI {xs : List Nat} {r : Nat} : (natI xs).contains (r : Int) = true ↔ r ∈ xs := by
  unfold natI
  rw [List.contains_iff_mem, List.mem_map]
  constructor
  · rintro ⟨a, h, e⟩
    have : a = r := by omega
    rw [← this]; exact h
  · intro h
    exact ⟨r, h, rfl⟩
theorem live_ahead {nw : Nat} {code : List InsL} {ah be : List (List Nat)} (hf : FixL nw code ah be) {n r : Nat} (h : LiveA code n (r : Int)) : aheadB code be (n : Int) r = true := by
  obtain ⟨x, hx, h1⟩ := live_iff.1 h
  have hn := (List.getElem?_eq_some_iff.1 hx).1
  have hxd : code.getD (n : Int).toNat default = x := by rw [Int.toNat_natCast, List.getD_eq_getElem?_getD, hx]; rfl
  unfold aheadB
  rw [hxd, decide_eq_true (show (0 : Int) ≤ (n : Int) by omega), decide_eq_true (show (n : Int) < (code.length : Int) by omega), Bool.and_self, Bool.true_and, Bool.or_eq_true, Bool.and_eq_true]
  rcases h1 with h1 | ⟨h1, h2⟩
  · left; rw [List.contains_iff_mem]; exact h1
  · right
    refine ⟨by rw [decide_eq_false (fun e => h1 e.symm)]; rfl, ?_⟩
    rw [mem_natI, Int.toNat_natCast]
    exact (mem_elems (getD_ok hf.wb (i := n) (by rw [hf.lb]; exact hn))).2 ((hf.memB n r).2 h2)
theorem live_next {c : CodeL} {b : BodyL} (hb : BodyRight c b) {nw : Nat} {ah be : List (List Nat)} (hf : FixL nw b.code ah be) {i r : Nat} {x : InsL} (hx : b.code[i]? = some x) (h : LiveB b.code i (r : Int)) :
    x.op ≠ 22 ∧ ((x.op = 19 ∧ aheadB b.code be x.c r = true) ∨ (x.op = 20 ∧ (aheadB b.code be ((i : Int) + 1) r = true ∨ aheadB b.code be x.c r = true)) ∨ (x.op ≠ 19 ∧ x.op ≠ 20 ∧ aheadB b.code be ((i : Int) + 1) r = true)) := by
  obtain ⟨x', n, hx', hn, hl⟩ := h
  rw [hx] at hx'
  cases hx'
  have ha := live_ahead hf hl
  have hc : x.op = 19 ∨ x.op = 20 → ((x.c.toNat : Nat) : Int) = x.c := fun ho => Int.toNat_of_nonneg (next_c (ins_right (hb.ins x (List.mem_of_getElem? hx))) ho)
  unfold nextL at hn
  by_cases h1 : x.op = 22
  · rw [if_pos h1] at hn; cases hn
  · rw [if_neg h1] at hn
    refine ⟨h1, ?_⟩
    by_cases h2 : x.op = 19
    · rw [if_pos h2] at hn
      simp at hn; subst hn
      rw [hc (.inl h2)] at ha
      exact .inl ⟨h2, ha⟩
    · rw [if_neg h2] at hn
      by_cases h3 : x.op = 20
      · rw [if_pos h3] at hn
        simp at hn
        rcases hn with rfl | rfl
        · exact .inr (.inl ⟨h3, .inl (by rw [show ((i + 1 : Nat) : Int) = (i : Int) + 1 by omega] at ha; exact ha)⟩)
        · rw [hc (.inr h3)] at ha
          exact .inr (.inl ⟨h3, .inr ha⟩)
      · rw [if_neg h3] at hn
        simp at hn; subst hn
        exact .inr (.inr ⟨h2, h3, by rw [show ((i + 1 : Nat) : Int) = (i : Int) + 1 by omega] at ha; exact ha⟩)
theorem rd_len {w : World} {A : Option Addr} {n : Nat} {xs : List Int} (h : Rd encI 1 w A n xs) : n = xs.length := h.len
set_option maxRecDepth 100000 in
set_option maxHeartbeats 8000000 in
theorem inside1_any (code : List InsL) (be : List (List Nat)) (n : Int) (r Cb Lb : Nat) (Ab : Option Addr) (cb : Nat) (Lv : Option Addr) (cl : Nat) (W : World) (hC : BlkAt W Cb 49 #[.slice Ab code.length cb]) (hL : BlkAt W Lb 46 #[.slice Lv be.length cl])
    (hI : Inss W Ab code.length code) (hR : RdR LvR 1 W Lv be.length be) (hlb : be.length = code.length) (hlen : code.length ≤ 1000) (hsh : ∀ x ∈ code, ShortI x) :
    Calls Tryz.prog 18 #[.int .i64 n, .int .i64 r, .pointer (some ⟨Cb, 0, none⟩), .pointer (some ⟨Lb, 0, none⟩)] W fun e W' => e = .returned (.bool (aheadB code be n r)) ∧ Below W.heap.size W W' := by
  have HD : Hid (aheadB code be n r = (decide (0 ≤ n) && decide (n < code.length) && ((usesR (code.getD n.toNat default)).contains (r : Int) || (!decide (usesW (code.getD n.toNat default) = (r : Int)) && (natI (elemsW (be.getD n.toNat []))).contains (r : Int))))) := Lib.hid rfl
  have HC := Lib.hid hC
  have HL := Lib.hid hL
  have c0 := hC.cell 0
  simp only [List.getElem?_toArray, List.getElem?_cons_zero] at c0
  by_cases h0 : n < 0
  · rw [decide_eq_false (show ¬ 0 ≤ n by omega)] at HD
    clear hC hL hI hR hlb hsh
    go_enter Tryz.func18, Tryz.ntmps18
    go_wp2_with fail
    go_ret
    exact ⟨ret_bool HD.out.symm, Below.refl _ _⟩
  · by_cases h1 : n < (code.length : Int)
    · obtain ⟨k, rfl⟩ : ∃ k : Nat, n = (k : Int) := ⟨n.toNat, by omega⟩
      have hk : k < code.length := by omega
      obtain ⟨x, hx⟩ := get_some hk
      obtain ⟨ws, hws⟩ := get_some (xs := be) (k := k) (by omega)
      have hxd : code.getD (k : Int).toNat default = x := by rw [Int.toNat_natCast, List.getD_eq_getElem?_getD, hx]; rfl
      have hwd : be.getD (k : Int).toNat [] = ws := by rw [Int.toNat_natCast, List.getD_eq_getElem?_getD, hws]; rfl
      rw [decide_eq_true (show (0 : Int) ≤ (k : Int) by omega), decide_eq_true h1, Bool.and_self, Bool.true_and, hxd, hwd] at HD
      obtain ⟨gi, oi, hAb, _, Ai, ni, ci, hins⟩ := hI.at_ k x hx
      subst hAb
      have i0 := hins.c0
      have i1 := hins.c1
      have i2 := hins.c2
      have i3 := hins.c3
      have i4 := hins.c4
      have i5 := hins.c5
      have i6 := hins.c6
      have hus := uses_any x Ai ni ci W hins.list (by rw [hins.list.len]; exact Nat.le_trans (hsh x (List.mem_of_getElem? hx)).2 (by omega)) hins.nil
      unfold insV at hus
      have HUS := Lib.hid hus
      obtain ⟨gl, ol, hLv, _, Al, nl, cll, hcl, hrl, hnl⟩ := hR.at_ k ws hws
      subst hLv
      have HRL := Lib.hid hrl
      rw [Nat.mul_one] at hcl
      have HCL := Lib.hid hcl
      have hul := uses_len (hsh x (List.mem_of_getElem? hx)).2
      have k0 : (0 : Int) ≤ (k : Int) := by omega
      have k1 : (k : Int) < (code.length : Int) := by omega
      have k2 : (k : Int) < (be.length : Int) := by omega
      have HLB := Lib.hid hlb
      clear hC hL hI hR hsh hx hws hxd hwd hins hus hrl hcl h0 h1 hlb
      cases hcn : (usesR x).contains (r : Int) with
      | true =>
        rw [hcn, Bool.true_or] at HD
        have HCN := Lib.hid hcn
        clear hcn
        go_enter Tryz.func18, Tryz.ntmps18
        go_wp2_with (first
          | (go_at_call 19
             refine HUS.out.mono ?_
             rintro e w2 ⟨⟨A2, n2, c2, rfl, hr2, _⟩, hb2⟩
             have HCT := Lib.hid (containsI_any A2 n2 c2 (usesR x) r w2 hr2 (by rw [hr2.len]; omega))
             rw [HCN.out] at HCT
             have HB2 := Lib.hid hb2
             clear hr2 hb2 HUS i0 i1 i2 i3 i4 i5 i6 c0)
          | (go_at_call 20
             refine HCT.out.mono ?_
             rintro e w3 ⟨rfl, rfl⟩
             clear HCT)
          | fail)
        go_ret
        exact ⟨ret_bool HD.out.symm, HB2.out⟩
      | false =>
        rw [hcn, Bool.false_or] at HD
        have HCN := Lib.hid hcn
        clear hcn
        by_cases hw : usesW x = (r : Int)
        · rw [decide_eq_true hw] at HD
          have hwn : (usesW x != (r : Int)) = false := by simp [hw]
          have HW := Lib.hid hw
          clear hw
          go_enter Tryz.func18, Tryz.ntmps18
          go_wp2_with (first
            | (go_at_call 19
               refine HUS.out.mono ?_
               rintro e w2 ⟨⟨A2, n2, c2, rfl, hr2, _⟩, hb2⟩
               have HCT := Lib.hid (containsI_any A2 n2 c2 (usesR x) r w2 hr2 (by rw [hr2.len]; omega))
               rw [HCN.out] at HCT
               have HB2 := Lib.hid hb2
               clear hr2 hb2 HUS i0 i1 i2 i3 i4 i5 i6 c0)
            | (go_at_call 20
               refine HCT.out.mono ?_
               rintro e w3 ⟨rfl, rfl⟩
               clear HCT)
            | fail)
          go_ret
          exact ⟨ret_bool HD.out.symm, HB2.out⟩
        · rw [decide_eq_false hw, Bool.not_false, Bool.true_and] at HD
          obtain ⟨q2, hq2⟩ : ∃ q2, (natI (elemsW ws)).contains (r : Int) = q2 := ⟨_, rfl⟩
          rw [hq2] at HD
          have HQ2 := Lib.hid hq2
          clear hq2
          have hwn : (usesW x != (r : Int)) = true := by simp [hw]
          have HW := Lib.hid hw
          clear hw
          go_enter Tryz.func18, Tryz.ntmps18
          go_wp2_with (first
            | (go_at_call 19
               refine HUS.out.mono ?_
               rintro e w2 ⟨⟨A2, n2, c2, rfl, hr2, _⟩, hb2⟩
               have HCT := Lib.hid (containsI_any A2 n2 c2 (usesR x) r w2 hr2 (by rw [hr2.len]; omega))
               rw [HCN.out] at HCT
               have HB2 := Lib.hid hb2
               have l0 := (HL.out.below hb2 HL.out.lt).cell 0
               simp only [List.getElem?_toArray, List.getElem?_cons_zero] at l0
               have l1 := cell_below hb2 (Nat.le_refl _) HCL.out
               have HCT2 := Lib.hid (containsI_any Al nl cll _ r w2 (HRL.out.below hb2) (by omega))
               rw [HQ2.out] at HCT2
               clear hr2 hb2 HUS i0 i1 i2 i3 i4 i5 i6 c0)
            | (go_at_call 20
               refine HCT.out.mono ?_
               rintro e w3 ⟨rfl, rfl⟩
               clear HCT)
            | (go_at_call 20
               refine HCT2.out.mono ?_
               rintro e w3 ⟨rfl, rfl⟩
               clear HCT2)
            | fail)
          go_ret
          exact ⟨ret_bool HD.out.symm, HB2.out⟩
    · rw [decide_eq_true (show 0 ≤ n by omega), decide_eq_false h1] at HD
      have h2 : (code.length : Int) ≤ n := by omega
      clear hC hL hI hR hlb hsh h1
      go_enter Tryz.func18, Tryz.ntmps18
      go_wp2_with fail
      go_ret
      exact ⟨ret_bool HD.out.symm, Below.refl _ _⟩
end Go.Proofs.YtpahhcmiimllaaaGreatDoor
