/- DERIVED. slices.IndexFunc and slices.DeleteFunc at intervals, with a predicate that turns its own memory. -/
import Derived.Test.YtpahhcmiimllaaaGreatDoorIvlN
import Derived.Deep.MidRow
import Derived.Lib.SliceRun
import Derived.Shelf.Abstract
set_option linter.unusedSimpArgs false
set_option linter.unusedVariables false
namespace Go.Proofs.YtpahhcmiimllaaaGreatDoor
open Go.RowKit Go.Shelf Go.Sort

def idxI {α : Type} (p : α → Bool) (xs : List α) : Int := match xs.findIdx? p with | some i => i | none => -1
theorem find_at {α : Type} {p : α → Bool} {xs : List α} {k : Nat} {x : α} (hx : xs[k]? = some x) (hp : p x = true) (hb : ∀ j y, j < k → xs[j]? = some y → p y = false) : xs.findIdx? p = some k := by
  rw [List.findIdx?_eq_some_iff_getElem]
  obtain ⟨hk, rfl⟩ := List.getElem?_eq_some_iff.1 hx
  refine ⟨hk, hp, fun j hj => ?_⟩
  have := hb j _ hj (List.getElem?_eq_getElem (by omega))
  simp [this]
theorem find_none {α : Type} {p : α → Bool} {xs : List α} (hb : ∀ y ∈ xs, p y = false) : xs.findIdx? p = none := List.findIdx?_eq_none_iff.2 (fun x hx => by simp [hb x hx])
def KeepB (W W' : World) : Prop := W.heap.size ≤ W'.heap.size ∧ ∀ g cur, BlkAt W g 44 cur → BlkAt W' g 44 cur
theorem KeepB.refl (W : World) : KeepB W W := ⟨Nat.le_refl _, fun _ _ h => h⟩
theorem KeepB.trans {A B C : World} (h : KeepB A B) (k : KeepB B C) : KeepB A C := ⟨Nat.le_trans h.1 k.1, fun g c hc => k.2 g c (h.2 g c hc)⟩
/-- a predicate of intervals that turns its own memory: I k holds when k elements have been asked -/
structure PredV (f : Nat) (cb : Array Value) (p : Itv → Bool) (xs : List Itv) (g : Nat) (I : Nat → World → Prop) : Prop where
  step : ∀ k x W, xs[k]? = some x → I k W → Calls Tryz.prog f (#[.agg #[.int .i64 x.reg, .int .i64 x.frm, .int .i64 x.to]] ++ cb) W fun e W' => e = .returned (.bool (p x)) ∧ I (k + 1) W' ∧ KeepB W W'
  keep : ∀ k W W' cur, I k W → W.grownBy W' (some g) → BlkAt W' g 44 cur → I k W'
def RowG (g : Nat) (xs : List Itv) (cur : Array Value) : Prop := ∀ (t : Nat) (x : Itv), xs[t]? = some x → ∀ u v, (encItv x)[u]? = some v → cur[t * 3 + u]? = some v
def IdxP (p : Itv → Bool) (xs : List Itv) (I : Nat → World → Prop) (w' : World) : Prop := (∀ i, xs.findIdx? p = some i → I (i + 1) w') ∧ (xs.findIdx? p = none → I xs.length w')
set_option maxHeartbeats 2000000 in
theorem itv_indexFunc (f : Nat) (cb : Array Value) (eg : ∀ args w, (callFunc f args).run Tryz.prog w = .ok (.enter f args) w) (p : Itv → Bool) (g c : Nat) (xs : List Itv) (cur : Array Value) (I : Nat → World → Prop) (w : World) (hn : xs.length ≤ 1000000)
    (hbk : BlkAt w g 44 cur) (hget : RowG g xs cur) (hp : PredV f cb p xs g I) (hI : I 0 w) :
    Calls Tryz.prog 57 #[.slice (some ⟨g, 0, none⟩) xs.length c, .func (.func f) #[] cb] w fun e w' => e = .returned (.int .i64 (idxI p xs)) ∧ IdxP p xs I w' ∧ KeepB w w' := by
  have HBK := Lib.hid hbk
  have HG := Lib.hid hget
  have HP := Lib.hid hp
  have HI := Lib.hid hI
  clear hbk hget hp hI
  go_enter Tryz.func57, Tryz.ntmps57
  go_wp2_with fail
  go_loopw [8] (fun i wr => ∃ k : Nat, k ≤ xs.length ∧ i = .int .i64 k ∧ Hid (∀ j y, j < k → xs[j]? = some y → p y = false) ∧ Hid (I k wr) ∧ Hid (KeepB w wr)) (fun i _ => xs.length - (intOf i).toNat)
  case atStart => exact ⟨0, by omega, rfl, Lib.hid (by intro j y h; omega), HI, Lib.hid (KeepB.refl _)⟩
  case round =>
    obtain ⟨k, hk, rfl, HALL, HIK, HKB⟩ := hrel
    by_cases hlt : k < xs.length
    · obtain ⟨x, hx⟩ := get_some (xs := xs) (k := k) hlt
      have hb : BlkAt wr g 44 cur := HKB.out.2 _ _ HBK.out
      have c0 := (hb.cell (k * 3 + 0)).trans (HG.out k x hx 0 _ rfl)
      have c1 := (hb.cell (k * 3 + 1)).trans (HG.out k x hx 1 _ rfl)
      have c2 := (hb.cell (k * 3 + 2)).trans (HG.out k x hx 2 _ rfl)
      rw [Nat.add_zero] at c0
      have HC := Lib.hid (HP.out.step k x wr hx HIK.out)
      have HX := Lib.hid hx
      have k0 : (0 : Int) ≤ (k : Int) := by omega
      have k1 : (k : Int) < (xs.length : Int) := by omega
      have wr1 : IntKind.i64.wrap ((k : Int) + 1) = (k : Int) + 1 := IntWalk.i64_in _ (by omega)
      clear hx hb
      cases hq : p x with
      | true =>
        rw [hq] at HC
        have HQ := Lib.hid hq
        clear hq
        go_wp2_with (go_at_fn f; refine HC.out.mono ?_; rintro e w1 ⟨rfl, hi1, hk1⟩; have HI1 := Lib.hid hi1; have HK1 := Lib.hid hk1; clear hi1 hk1 HC)
        go_ret
        have hf := find_at HX.out HQ.out HALL.out
        exact ⟨ret_int (by unfold idxI; rw [hf]), ⟨(fun i h => by rw [hf] at h; cases h; exact HI1.out), (fun h => by rw [hf] at h; cases h)⟩, HKB.out.trans HK1.out⟩
      | false =>
        rw [hq] at HC
        have HQ := Lib.hid hq
        clear hq
        go_wp2_with (go_at_fn f; refine HC.out.mono ?_; rintro e w1 ⟨rfl, hi1, hk1⟩; have HI1 := Lib.hid hi1; have HK1 := Lib.hid hk1; clear hi1 hk1 HC)
        go_roundw
        case rel =>
          refine ⟨k + 1, by omega, by go_num, Lib.hid ?_, HI1, Lib.hid (HKB.out.trans HK1.out)⟩
          intro j y hj hy
          by_cases hjk : j = k
          · subst hjk
            have := HX.out.symm.trans hy
            injection this with this
            subst this
            exact HQ.out
          · exact HALL.out j y (by omega) hy
        case measure => simp [intOf]; omega
    · obtain rfl : k = xs.length := by omega
      go_wp2_with fail
      go_ret
      have hf := find_none (p := p) (xs := xs) (fun y hy => by
        obtain ⟨j, hj⟩ := List.getElem?_of_mem hy
        have := (List.getElem?_eq_some_iff.1 hj).1
        exact HALL.out j y (by omega) hj)
      exact ⟨ret_int (by unfold idxI; rw [hf]), ⟨(fun i h => by rw [hf] at h; cases h), fun _ => HIK.out⟩, HKB.out⟩
set_option maxHeartbeats 1000000 in
theorem itv_indexNil (f : Nat) (cb : Array Value) (c : Nat) (A : Option Addr) (w : World) : Calls Tryz.prog 57 #[.slice A 0 c, .func (.func f) #[] cb] w fun e w' => e = .returned (.int .i64 (-1)) ∧ w' = w := by
  go_enter Tryz.func57, Tryz.ntmps57
  go_wp2_with fail
  go_loopw [8] (fun i wr => i = .int .i64 0 ∧ wr = w) (fun _ _ => 0)
  case atStart => exact ⟨rfl, rfl⟩
  case round =>
    obtain ⟨rfl, rfl⟩ := hrel
    go_wp2_with fail
    go_ret
    exact ⟨rfl, rfl⟩
theorem setCells_grown (b : Nat) : ∀ (vs : List Value) (o : Nat) (w : World), w.grownBy (w.setCells b o vs) (some b)
  | [], _, w => World.grownBy.refl w _
  | v :: vs, o, w => grown_trans (setCell_grown w b o v) (setCells_grown b vs (o + 1) _)
theorem setCells_size (b : Nat) : ∀ (vs : List Value) (o : Nat) (w : World), (w.setCells b o vs).heap.size = w.heap.size
  | [], _, _ => rfl
  | v :: vs, o, w => (setCells_size b vs (o + 1) _).trans (by simp [World.setCell])
theorem run_clear_row {P : Program} (w : World) (t e ty : TypeId) (z : Value) (n b o c : Nat) (ht : P.underlying t = some (.slice e)) (hv : ∀ w, (zeroValue e).run P w = .ok z w) (h1 : ∀ v ∈ (Builtin.zeroCells z.cells n).toList, v.oneCell' = true) (hn : 0 < n)
    (hth : w.there b o (n * z.cells.size)) :
    (Builtin.clear_ #[t] ty #[.slice (some ⟨b, o, none⟩) n c]).run P w = .ok (.tuple #[]) (w.setCells b o (Builtin.zeroCells z.cells n).toList) := by
  have hl : (Builtin.zeroCells z.cells n).toList.length = n * z.cells.size := by simp [Builtin.zeroCells]
  have hst := run_storeCells_cells (P := P) b o (Builtin.zeroCells z.cells n).toList 0 w (fun j hj => by simpa using (hth j (by omega)).1) (fun j hj => by simpa using (hth j (by omega)).2) h1
  simp only [Nat.add_zero] at hst
  obtain ⟨m, rfl⟩ : ∃ m, n = m + 1 := ⟨n - 1, by omega⟩
  simp [Builtin.clear_, run_underlying ht, hv, hst]
theorem itv_size : (Tryz.prog.info? 44).map (·.size) = some 3 := by kernel_rfl
theorem itv_one (x : Itv) : (#[.int .i64 x.reg, .int .i64 x.frm, .int .i64 x.to] : Array Value).all (·.oneCell') = true := by simp [Value.oneCell']
def zI : Value := .agg #[.int .i64 0, .int .i64 0, .int .i64 0]
theorem zI_one (n : Nat) : ∀ v ∈ (Builtin.zeroCells zI.cells n).toList, v.oneCell' = true := by
  intro v hv
  simp only [Builtin.zeroCells, Array.toList_map, List.mem_map] at hv
  obtain ⟨i, _, rfl⟩ := hv
  have : i % 3 < 3 := Nat.mod_lt _ (by omega)
  show (#[Value.int .i64 0, .int .i64 0, .int .i64 0][i % 3]!).oneCell' = true
  rcases (show i % 3 = 0 ∨ i % 3 = 1 ∨ i % 3 = 2 by omega) with h | h | h <;> rw [h] <;> rfl
theorem zI_len (n : Nat) : (Builtin.zeroCells zI.cells n).toList.length = n * 3 := by simp [Builtin.zeroCells, zI, Value.cells]
theorem take_snoc {α : Type} {xs : List α} {k : Nat} {x : α} (h : xs[k]? = some x) : xs.take (k + 1) = xs.take k ++ [x] := by
  rw [List.take_add_one, h]; rfl
theorem encItv_len (x : Itv) : (encItv x).length = 3 := rfl
set_option maxRecDepth 100000 in
set_option maxHeartbeats 4000000 in
theorem itv_deleteSome (f : Nat) (cb : Array Value) (eg : ∀ args w, (callFunc f args).run Tryz.prog w = .ok (.enter f args) w) (p : Itv → Bool) (base g cap : Nat) (xs : List Itv) (I : Nat → World → Prop) (w : World) (hn : xs.length ≤ 1000000) (hn0 : xs ≠ [])
    (hown : w.ownsRow base 44 3 (.slice (some ⟨g, 0, none⟩) xs.length cap) xs.length (xs.flatMap encItv)) (hp : PredV f cb p xs g I) (hI : I 0 w) :
    Calls Tryz.prog 42 #[.slice (some ⟨g, 0, none⟩) xs.length cap, .func (.func f) #[] cb] w fun e w' => ∃ m, m = (xs.filter (fun x => !p x)).length ∧ e = .returned (.slice (some ⟨g, 0, none⟩) m cap) ∧
      w'.ownsRow base 44 3 (.slice (some ⟨g, 0, none⟩) m cap) m ((xs.filter (fun x => !p x)).flatMap encItv) ∧ I xs.length w' := by
  have hpos : 0 < xs.length := List.length_pos_iff.2 hn0
  obtain ⟨cur, hbg, hbk, hcap, hcm, hcs, hct⟩ : ∃ cur, base ≤ g ∧ BlkAt w g 44 cur ∧ xs.length ≤ cap ∧ cap ≤ maxLen ∧ cur.size = cap * 3 ∧ cur.toList.take (xs.length * 3) = xs.flatMap encItv := by
    rcases hown.2 with ⟨_, h0⟩ | ⟨g', cap', cur, hv, hb, hh, h1, h2, h3, ht⟩
    · omega
    · injection hv with ha _ hc
      injection ha with ha
      injection ha with ha
      subst ha hc
      exact ⟨cur, hb, hh, h1, h2, by omega, ht⟩
  have hget : RowG g xs cur := fun t x hx u v hu => by
    have hf := flat_at encItv_len xs t x u v hx hu
    rw [← hct] at hf
    have hlt : t * 3 + u < xs.length * 3 := by
      have := (List.getElem?_eq_some_iff.1 hf).1
      simp only [List.length_take] at this; omega
    rwa [List.getElem?_take_of_lt hlt, Array.getElem?_toList] at hf
  have HIX := Lib.hid (itv_indexFunc f cb eg p g cap xs cur I w hn hbk hget hp hI)
  have hcm' : cap ≤ 9223372036854775807 := hcm
  have hall0 : (∀ y ∈ xs, p y = false) → xs.filter (fun x => !p x) = xs := fun h => List.filter_eq_self.2 (fun x hx => by simp [h x hx])
  have HBK := Lib.hid hbk
  have HP := Lib.hid hp
  rcases hf : xs.findIdx? p with _ | k0
  · have hnone : ∀ y ∈ xs, p y = false := by
      intro y hy; have := List.findIdx?_eq_none_iff.1 hf y hy; simpa using this
    have e1 : idxI p xs = -1 := by simp [idxI, hf]
    rw [e1] at HIX
    have HF := Lib.hid hf
    rw [hall0 hnone]
    have HO := Lib.hid hown
    clear hown hct hget hnone hall0 hf e1 hp hbk hI
    go_enter Tryz.func42, Tryz.ntmps42
    go_wp2_with (first
      | (go_at_call 57; refine HIX.out.mono ?_; rintro e w1 ⟨rfl, hi1, hk1⟩; have HI1 := Lib.hid (hi1.2 HF.out); have HK1 := Lib.hid hk1; clear hi1 hk1 HIX)
      | fail)
    go_ret
    refine ⟨xs.length, rfl, rfl, ?_, HI1.out⟩
    refine ⟨HO.out.1, HO.out.2.imp id ?_⟩
    rintro ⟨g', cap', cur', h1, h2, h3, h4⟩
    have hg' : g' = g := by injection h1 with h1 _ _; injection h1 with h1; injection h1 with h1; exact h1.symm
    subst hg'
    exact ⟨g', cap', cur', h1, h2, HK1.out.2 _ _ h3, h4⟩
  · obtain ⟨hk0, hpk, hbef⟩ := List.findIdx?_eq_some_iff_getElem.1 hf
    have e1 : idxI p xs = k0 := by simp [idxI, hf]
    rw [e1] at HIX
    have HF := Lib.hid hf
    have hne1 : ((k0 : Int) == -1) = false := beq_eq_false_iff_ne.2 (by omega)
    have hstart : (xs.take (k0 + 1)).filter (fun x => !p x) = xs.take k0 := by
      rw [take_snoc (List.getElem?_eq_getElem hk0), List.filter_append]
      have h1 : (xs.take k0).filter (fun x => !p x) = xs.take k0 := List.filter_eq_self.2 (fun x hx => by
        obtain ⟨j, hj⟩ := List.getElem?_of_mem hx
        have hjl := (List.getElem?_eq_some_iff.1 hj).1
        simp only [List.length_take] at hjl
        have hjk : j < k0 := by omega
        rw [List.getElem?_take_of_lt hjk] at hj
        obtain ⟨hj', rfl⟩ := List.getElem?_eq_some_iff.1 hj
        have := hbef j hjk
        simpa using this)
      rw [h1]; simp [hpk]
    have HST := Lib.hid hstart
    have HG := Lib.hid hget
    have hbgl := hbk.lt
    clear hown hct hget hall0 hf e1 hpk hbef hstart hp hbk hI
    go_enter Tryz.func42, Tryz.ntmps42
    go_wp2_with (first
      | (go_at_call 57; refine HIX.out.mono ?_; rintro e w1 ⟨rfl, hi1, hk1⟩; have HI1 := Lib.hid (hi1.1 _ HF.out); have HK1 := Lib.hid hk1; clear hi1 hk1 HIX)
      | fail)
    have HBK1 : Hid (BlkAt w1 g 44 cur) := Lib.hid (HK1.out.2 _ _ HBK.out)
    clear HBK
    go_loopw [5, 6] (fun s5 s6 wr => ∃ (i j : Nat) (cur' : Array Value), s5 = .int .i64 i ∧ s6 = .int .i64 j ∧ i < j ∧ j ≤ xs.length ∧ Hid (((xs.take j).filter (fun x => !p x)).length = i) ∧ Hid (cur'.size = cap * 3) ∧
      Hid (∀ (t : Nat) (x : Itv), ((xs.take j).filter (fun x => !p x))[t]? = some x → ∀ u v, (encItv x)[u]? = some v → cur'[t * 3 + u]? = some v) ∧ Hid (∀ (t : Nat) (x : Itv), j ≤ t → xs[t]? = some x → ∀ u v, (encItv x)[u]? = some v → cur'[t * 3 + u]? = some v) ∧ Hid (BlkAt wr g 44 cur') ∧ Hid (I j wr)) (fun _ s6 _ => xs.length - (intOf s6).toNat)
    case atStart =>
      refine ⟨k0, k0 + 1, cur, rfl, by go_num, by omega, by omega, Lib.hid (by rw [HST.out]; simp; omega), Lib.hid hcs, Lib.hid ?_, Lib.hid (fun t x _ hx => HG.out t x hx), HBK1, HI1⟩
      intro t x hx
      rw [HST.out] at hx
      have ht := (List.getElem?_eq_some_iff.1 hx).1
      simp only [List.length_take] at ht
      rw [List.getElem?_take_of_lt (show t < k0 by omega)] at hx
      exact HG.out t x hx
    case round =>
      clear HI1
      obtain ⟨i, j, cur', rfl, rfl, hij, hjn, HL, HCS, H1, H2, HBK', HIJ⟩ := hrel
      by_cases hlt : j < xs.length
      · obtain ⟨x, hx⟩ := get_some hlt
        have c0 := (HBK'.out.cell (j * 3 + 0)).trans (H2.out j x (Nat.le_refl _) hx 0 _ rfl)
        have c1 := (HBK'.out.cell (j * 3 + 1)).trans (H2.out j x (Nat.le_refl _) hx 1 _ rfl)
        have c2 := (HBK'.out.cell (j * 3 + 2)).trans (H2.out j x (Nat.le_refl _) hx 2 _ rfl)
        rw [Nat.add_zero] at c0
        have hgl := HBK'.out.lt
        have HBA : Hid (BlkAt (wr.alloc (.cells #[.int .i64 x.reg, .int .i64 x.frm, .int .i64 x.to] 44)) g 44 cur') := Lib.hid (HBK'.out.alloc _)
        have HC := Lib.hid (HP.out.step j x (wr.alloc (.cells #[.int .i64 x.reg, .int .i64 x.frm, .int .i64 x.to] 44)) hx (HP.out.keep _ _ _ _ HIJ.out (World.grownBy_alloc _ _ _) HBA.out))
        have HX := Lib.hid (take_snoc hx)
        have HXX := Lib.hid hx
        have hj0 : (0 : Int) ≤ (j : Int) := by omega
        have hj1 : (j : Int) < (xs.length : Int) := by omega
        have hi0 : (0 : Int) ≤ (i : Int) := by omega
        have hi1 : (i : Int) < (xs.length : Int) := by omega
        have wr1 : IntKind.i64.wrap ((j : Int) + 1) = (j : Int) + 1 := IntWalk.i64_in _ (by omega)
        have wr2 : IntKind.i64.wrap ((i : Int) + 1) = (i : Int) + 1 := IntWalk.i64_in _ (by omega)
        clear hx
        cases hq : p x with
        | false =>
          rw [hq] at HC
          have HQ := Lib.hid hq
          clear hq
          go_wp2_with (first
            | (go_at_fn f; refine HC.out.mono ?_; rintro e w2 ⟨rfl, hi2, hk2⟩; clear HC
               have HI2 := Lib.hid hi2
               have HBK2 : Hid (BlkAt w2 g 44 cur') := Lib.hid (hk2.2 _ _ HBA.out)
               have hnn := hk2.2 _ _ (BlkAt.new wr 44 #[.int .i64 x.reg, .int .i64 x.frm, .int .i64 x.to])
               have n0 := hnn.cell 0
               have n1 := hnn.cell 1
               have n2 := hnn.cell 2
               simp only [List.getElem?_toArray, List.getElem?_cons_succ, List.getElem?_cons_zero] at n0 n1 n2
               clear hi2 hk2 hnn)
            | (refine wpList_store_mid rfl 44 (.tmp 33) (.tmp 32) rfl g (i * 3) #[.int .i64 x.reg, .int .i64 x.frm, .int .i64 x.to] rfl rfl ?_ ?_ ?_ ?_
               · exact HBK2.out.there _ 3 (by have := HCS.out; omega)
               · exact itv_size
               · exact itv_one x)
            | fail)
          have hfl : (xs.take (j + 1)).filter (fun x => !p x) = (xs.take j).filter (fun x => !p x) ++ [x] := by
            rw [HX.out, List.filter_append]; simp [HQ.out]
          have hcs := HCS.out
          obtain ⟨cs', k1, k2, k3, k4, k5⟩ := BlkAt.setCellsX [.int .i64 x.reg, .int .i64 x.frm, .int .i64 x.to] (i * 3) HBK2.out (by simp; omega)
          simp only [List.length_cons, List.length_nil] at k4
          go_roundw
          case rel =>
            refine ⟨i + 1, j + 1, cs', by go_num, by go_num, by omega, by omega, Lib.hid (by rw [hfl]; simp [HL.out]), Lib.hid (by rw [k2]; exact hcs), Lib.hid ?_, Lib.hid ?_, Lib.hid k1, Lib.hid (HP.out.keep _ _ _ _ HI2.out (setCells_grown g _ _ _) k1)⟩
            · intro t y hy u v hu
              have hu4 : u < 3 := (List.getElem?_eq_some_iff.1 hu).1
              rw [hfl] at hy
              by_cases hti : t < i
              · rw [List.getElem?_append_left (by rw [HL.out]; exact hti)] at hy
                rw [k3 _ (by omega)]
                exact H1.out t y hy u v hu
              · have ht := (List.getElem?_eq_some_iff.1 hy).1
                simp only [List.length_append, HL.out, List.length_cons, List.length_nil] at ht
                obtain rfl : t = i := by omega
                rw [List.getElem?_append_right (by rw [HL.out]; omega), HL.out] at hy
                simp at hy
                subst hy
                exact k5 u v hu
            · intro t y hjt hy u v hu
              rw [k4 _ (by omega)]
              exact H2.out t y (by omega) hy u v hu
          case measure => simp [intOf]; omega
        | true =>
          rw [hq] at HC
          have HQ := Lib.hid hq
          clear hq
          go_wp2_with (first
            | (go_at_fn f; refine HC.out.mono ?_; rintro e w2 ⟨rfl, hi2, hk2⟩; clear HC
               have HI2 := Lib.hid hi2
               have HBK2 : Hid (BlkAt w2 g 44 cur') := Lib.hid (hk2.2 _ _ HBA.out)
               clear hi2 hk2)
            | fail)
          have hfl : (xs.take (j + 1)).filter (fun x => !p x) = (xs.take j).filter (fun x => !p x) := by
            rw [HX.out, List.filter_append]; simp [HQ.out]
          go_roundw
          case rel => exact ⟨i, j + 1, cur', rfl, by go_num, by omega, by omega, Lib.hid (by rw [hfl]; exact HL.out), HCS, Lib.hid (by rw [hfl]; exact H1.out), Lib.hid (fun t y hjt hy => H2.out t y (by omega) hy), HBK2, HI2⟩
          case measure => simp [intOf]; omega
      · obtain rfl : j = xs.length := by omega
        have hcs := HCS.out
        have hzv : ∀ w, (zeroValue 44).run Tryz.prog w = .ok zI w := fun w => by kernel_rfl
        have hcl : ∀ ty, (Builtin.clear_ #[40] ty #[.slice (some ⟨g, i * 3, none⟩) (xs.length - i) (cap - i)]).run Tryz.prog wr = .ok (.tuple #[]) (wr.setCells g (i * 3) (Builtin.zeroCells zI.cells (xs.length - i)).toList) :=
          fun ty => run_clear_row wr 40 44 ty zI (xs.length - i) g (i * 3) (cap - i) Tryz.underlying40 hzv (zI_one _) (by omega) (HBK'.out.there _ _ (by rw [show zI.cells.size = 3 from rfl]; omega))
        have hzl := zI_len (xs.length - i)
        obtain ⟨cs2, k1, k2, k3, k4, k5⟩ := BlkAt.setCellsX (Builtin.zeroCells zI.cells (xs.length - i)).toList (i * 3) HBK'.out (by rw [hzl]; omega)
        have HI2 := Lib.hid (HP.out.keep _ _ _ _ HIJ.out (setCells_grown g (Builtin.zeroCells zI.cells (xs.length - i)).toList (i * 3) wr) k1)
        rw [List.take_length] at HL H1
        have HK1 := Lib.hid k1
        have HK2 := Lib.hid k2
        have HK3 := Lib.hid k3
        have HCC := Lib.hid hcs
        clear k1 k2 k3 k4 k5 hcs hzl hzv HIJ
        generalize (Builtin.zeroCells zI.cells (xs.length - i)).toList = zs at *
        go_wp2_with fail
        go_ret
        refine ⟨i, HL.out.symm, rfl, ⟨?_, .inr ⟨g, cap, cs2, rfl, hbg, HK1.out, by omega, hcm, by rw [HK2.out]; exact HCC.out, ?_⟩⟩, HI2.out⟩
        · rw [flat_len encItv_len, HL.out]
        · apply List.ext_getElem?
          intro t
          by_cases ht : t < i * 3
          · rw [List.getElem?_take_of_lt ht, Array.getElem?_toList, HK3.out t ht]
            obtain ⟨y, hy⟩ := get_some (xs := xs.filter (fun x => !p x)) (k := t / 3) (by rw [HL.out]; omega)
            obtain ⟨u, hu⟩ := get_some (xs := encItv y) (k := t % 3) (Nat.mod_lt _ (by omega))
            have h1 := H1.out _ y hy _ u hu
            have h2 := flat_at encItv_len _ _ _ _ _ hy hu
            rw [show t / 3 * 3 + t % 3 = t by omega] at h1 h2
            rw [h1, h2]
          · rw [List.getElem?_take_eq_none (by omega), List.getElem?_eq_none (by rw [flat_len encItv_len, HL.out]; omega)]
set_option maxHeartbeats 1000000 in
theorem itv_deleteNil (f : Nat) (cb : Array Value) (A : Option Addr) (c : Nat) (w : World) : Calls Tryz.prog 42 #[.slice A 0 c, .func (.func f) #[] cb] w fun e w' => e = .returned (.slice A 0 c) ∧ w' = w := by
  have HIX := Lib.hid (itv_indexNil f cb c A w)
  go_enter Tryz.func42, Tryz.ntmps42
  go_wp2_with (first
    | (go_at_call 57; refine HIX.out.mono ?_; rintro e w1 ⟨rfl, rfl⟩; clear HIX)
    | fail)
  go_ret
  exact ⟨rfl, rfl⟩
end Go.Proofs.YtpahhcmiimllaaaGreatDoor
