/- DERIVED. slices.IndexFunc and slices.DeleteFunc on edges, with the closure of Compare. -/
import Derived.Test.YtghjhlenkgkelaaGreatDoorChg1
import Derived.Deep.MidRow
set_option linter.unusedSimpArgs false
set_option linter.unusedVariables false
namespace Go.Proofs.YtghjhlenkgkelaaGreatDoor
open Go.RowKit Go.Shelf Go.Sort

def nilE (x : Edg) : Bool := x.acc == 0 && x.msg == 0

set_option maxHeartbeats 1000000 in
theorem e_indexFunc (A : Option Addr) (n c : Nat) (xs : List Edg) (w : World) (hn : n ≤ 1000000) (hs : ERow w A n xs) :
    Calls Tryz.prog 34 #[.slice A n c, .func (.func 16) #[] #[]] w fun e w' => e = .returned (.int .i64 (idxI nilE xs)) ∧ Below w.heap.size w w' := by
  have HL := Lib.hid hs.len
  go_enter Tryz.func34, Tryz.ntmps34
  go_wp2
  go_loopw [8] (fun i wr => ∃ k : Nat, k ≤ n ∧ i = .int .i64 k ∧ (∀ j y, j < k → xs[j]? = some y → nilE y = false) ∧ Below w.heap.size w wr) (fun i _ => n - (intOf i).toNat)
  case atStart => exact ⟨0, by omega, rfl, by intro j y h; omega, Below.refl _ _⟩
  case round =>
    obtain ⟨k, hk, rfl, hall, hbw⟩ := hrel
    by_cases hlt : k < n
    · obtain ⟨x, hx⟩ := get_some (xs := xs) (k := k) (by rw [← HL.out]; omega)
      obtain ⟨b, rfl, hb, c0, c1, c2, c3⟩ := hs.at_ k x hx
      have c0 := (hbw.cell (p := ⟨b, _, none⟩) hb).trans c0
      have c1 := (hbw.cell (p := ⟨b, _, none⟩) hb).trans c1
      have c2 := (hbw.cell (p := ⟨b, _, none⟩) hb).trans c2
      have c3 := (hbw.cell (p := ⟨b, _, none⟩) hb).trans c3
      have hcall := cmpClosure_any x wr
      unfold encE at hcall
      have HX := Lib.hid hx
      have HA := Lib.hid hall
      clear hx hall hs
      cases hq : nilE x with
      | true =>
        have hq' : (x.acc == 0 && x.msg == 0) = true := hq
        rw [hq'] at hcall
        have HQ := Lib.hid hq
        clear hq hq'
        go_wp2_with (go_at_call 16; refine hcall.mono ?_; rintro e w1 ⟨rfl, hb1⟩)
        go_ret
        exact ⟨ret_int (idxI_at HX.out HQ.out HA.out).symm, hbw.trans (hb1.mono hbw.size)⟩
      | false =>
        have hq' : (x.acc == 0 && x.msg == 0) = false := hq
        rw [hq'] at hcall
        have HQ := Lib.hid hq
        clear hq hq'
        go_wp2_with (go_at_call 16; refine hcall.mono ?_; rintro e w1 ⟨rfl, hb1⟩)
        go_roundw
        case rel =>
          refine ⟨k + 1, by omega, by go_num, ?_, hbw.trans (hb1.mono hbw.size)⟩
          intro j y hj hy
          by_cases hjk : j = k
          · subst hjk
            have := HX.out.symm.trans hy
            injection this with this
            subst this
            exact HQ.out
          · exact HA.out j y (by omega) hy
        case measure => simp [intOf]; omega
    · clear hs
      go_wp2
      go_ret
      refine ⟨ret_int (idxI_none fun y hy => ?_).symm, hbw⟩
      obtain ⟨j, hj⟩ := List.getElem?_of_mem hy
      have := (List.getElem?_eq_some_iff.1 hj).1
      have := HL.out
      exact hall j y (by omega) hj

theorem BlkAt.setCellsX {B : Nat} {t : TypeId} : ∀ (vs : List Value) (o : Nat) {W : World} {cs : Array Value}, BlkAt W B t cs → o + vs.length ≤ cs.size → ∃ cs', BlkAt (W.setCells B o vs) B t cs' ∧ cs'.size = cs.size ∧ (∀ j, j < o → cs'[j]? = cs[j]?) ∧ (∀ j, o + vs.length ≤ j → cs'[j]? = cs[j]?) ∧ ∀ u v, vs[u]? = some v → cs'[o + u]? = some v
  | [], _, _, cs, h, _ => ⟨cs, h, rfl, fun _ _ => rfl, fun _ _ => rfl, by simp⟩
  | v :: vs, o, W, cs, h, hl => by
    rw [List.length_cons] at hl
    obtain ⟨cs', h1, h2, h3, h4, h5⟩ := BlkAt.setCellsX vs (o + 1) (h.set o v) (by simp; omega)
    refine ⟨cs', h1, by simpa using h2, fun j hj => ?_, fun j hj => ?_, fun u x hu => ?_⟩
    · rw [h3 j (by omega), Array.getElem?_setIfInBounds_ne (by omega)]
    · rw [List.length_cons] at hj
      rw [h4 j (by omega), Array.getElem?_setIfInBounds_ne (by omega)]
    · cases u with
      | zero =>
        simp at hu; subst hu
        rw [Nat.add_zero, h3 o (by omega), Array.getElem?_setIfInBounds_self_of_lt (by omega)]
      | succ u =>
        have := h5 u x (by simpa using hu)
        rwa [show o + (u + 1) = o + 1 + u by omega]

theorem BlkAt.there {B : Nat} {t : TypeId} {W : World} {cs : Array Value} (h : BlkAt W B t cs) (o n : Nat) (hn : o + n ≤ cs.size) : W.there B o n := fun j hj => by
  refine ⟨?_, h.frozen _⟩
  rw [h.cell (o + j), Array.getElem?_eq_getElem (by omega)]; rfl

theorem run_clear_row {P : Program} (w : World) (t e ty : TypeId) (z : Value) (n b o c : Nat) (ht : P.underlying t = some (.slice e)) (hv : ∀ w, (zeroValue e).run P w = .ok z w) (h1 : ∀ v ∈ (Builtin.zeroCells z.cells n).toList, v.oneCell' = true) (hn : 0 < n)
    (hth : w.there b o (n * z.cells.size)) :
    (Builtin.clear_ #[t] ty #[.slice (some ⟨b, o, none⟩) n c]).run P w = .ok (.tuple #[]) (w.setCells b o (Builtin.zeroCells z.cells n).toList) := by
  have hl : (Builtin.zeroCells z.cells n).toList.length = n * z.cells.size := by simp [Builtin.zeroCells]
  have hst := run_storeCells_cells (P := P) b o (Builtin.zeroCells z.cells n).toList 0 w (fun j hj => by simpa using (hth j (by omega)).1) (fun j hj => by simpa using (hth j (by omega)).2) h1
  simp only [Nat.add_zero] at hst
  obtain ⟨m, rfl⟩ : ∃ m, n = m + 1 := ⟨n - 1, by omega⟩
  simp [Builtin.clear_, run_underlying ht, hv, hst]
theorem edge_size : (Tryz.prog.info? 52).map (·.size) = some 4 := by kernel_rfl
theorem edge_one (x : Edg) : (#[.int .i64 x.frm, .int .i64 x.at', .int .i64 x.acc, .int .i64 x.msg] : Array Value).all (·.oneCell') = true := by simp [Value.oneCell']
def zE : Value := .agg #[.int .i64 0, .int .i64 0, .int .i64 0, .int .i64 0]
theorem zE_one (n : Nat) : ∀ v ∈ (Builtin.zeroCells zE.cells n).toList, v.oneCell' = true := by
  intro v hv
  simp only [Builtin.zeroCells, Array.toList_map, List.mem_map] at hv
  obtain ⟨i, _, rfl⟩ := hv
  have : i % 4 < 4 := Nat.mod_lt _ (by omega)
  show (#[Value.int .i64 0, .int .i64 0, .int .i64 0, .int .i64 0][i % 4]!).oneCell' = true
  rcases (show i % 4 = 0 ∨ i % 4 = 1 ∨ i % 4 = 2 ∨ i % 4 = 3 by omega) with h | h | h | h <;> rw [h] <;> rfl
theorem zE_len (n : Nat) : (Builtin.zeroCells zE.cells n).toList.length = n * 4 := by simp [Builtin.zeroCells, zE, Value.cells]

set_option maxRecDepth 100000 in
set_option maxHeartbeats 2000000 in
theorem e_deleteSome (base g cap : Nat) (xs : List Edg) (w : World) (hn : xs.length ≤ 1000000) (hn0 : xs ≠ [])
    (hown : w.ownsRow base 52 4 (.slice (some ⟨g, 0, none⟩) xs.length cap) xs.length (xs.flatMap encEL)) :
    Calls Tryz.prog 15 #[.slice (some ⟨g, 0, none⟩) xs.length cap, .func (.func 16) #[] #[]] w fun e w' => ∃ m, m = (xs.filter (fun x => !nilE x)).length ∧ e = .returned (.slice (some ⟨g, 0, none⟩) m cap) ∧
      w'.ownsRow base 52 4 (.slice (some ⟨g, 0, none⟩) m cap) m ((xs.filter (fun x => !nilE x)).flatMap encEL) ∧ w.grownBy w' (some g) := by
  have hpos : 0 < xs.length := List.length_pos_iff.2 hn0
  have hsl := ERow.of hown rfl
  have hidx := e_indexFunc _ xs.length cap xs w hn hsl
  obtain ⟨cur, hbg, hbk, hcap, hcm, hcs, hct⟩ : ∃ cur, base ≤ g ∧ BlkAt w g 52 cur ∧ xs.length ≤ cap ∧ cap ≤ maxLen ∧ cur.size = cap * 4 ∧ cur.toList.take (xs.length * 4) = xs.flatMap encEL := by
    rcases hown.2 with ⟨_, h0⟩ | ⟨g', cap', cur, hv, hb, hh, h1, h2, h3, ht⟩
    · omega
    · injection hv with ha _ hc
      injection ha with ha
      injection ha with ha
      subst ha hc
      exact ⟨cur, hb, hh, h1, h2, by omega, ht⟩
  have hget : ∀ t x, xs[t]? = some x → ∀ u v, (encEL x)[u]? = some v → cur[t * 4 + u]? = some v := fun t x hx u v hu => by
    have hf := flat_at (enc := encEL) (k := 4) (fun _ => rfl) hx hu
    rw [← hct] at hf
    have hlt : t * 4 + u < xs.length * 4 := by
      have := (List.getElem?_eq_some_iff.1 hf).1
      simp only [List.length_take] at this; omega
    rwa [List.getElem?_take_of_lt hlt, Array.getElem?_toList] at hf
  have hcm' : cap ≤ 9223372036854775807 := hcm
  have hall0 : (∀ y ∈ xs, nilE y = false) → xs.filter (fun x => !nilE x) = xs := fun h => List.filter_eq_self.2 (fun x hx => by simp [h x hx])
  rcases hf : xs.findIdx? nilE with _ | k0
  · have hnone : ∀ y ∈ xs, nilE y = false := by
      intro y hy; have := List.findIdx?_eq_none_iff.1 hf y hy; simpa using this
    have e1 : idxI nilE xs = -1 := by simp [idxI, hf]
    rw [e1] at hidx
    rw [hall0 hnone]
    have HO := Lib.hid hown
    clear hown hct hget hnone hall0 hf e1 hsl hbk
    go_enter Tryz.func15, Tryz.ntmps15
    go_wp2_with (go_at_call 34; refine hidx.mono ?_; rintro e w1 ⟨rfl, hb1⟩)
    go_ret
    refine ⟨xs.length, rfl, rfl, ?_, grown_of_below hb1⟩
    exact HO.out.kept (grown_of_below (row := none) hb1) (by simp [Value.ownBlock])
  · obtain ⟨hk0, hpk, hbef⟩ := List.findIdx?_eq_some_iff_getElem.1 hf
    have e1 : idxI nilE xs = k0 := by simp [idxI, hf]
    rw [e1] at hidx
    have hne1 : ((k0 : Int) == -1) = false := beq_eq_false_iff_ne.2 (by omega)
    have hstart : (xs.take (k0 + 1)).filter (fun x => !nilE x) = xs.take k0 := by
      rw [take_snoc (List.getElem?_eq_getElem hk0), List.filter_append]
      have h1 : (xs.take k0).filter (fun x => !nilE x) = xs.take k0 := List.filter_eq_self.2 (fun x hx => by
        obtain ⟨j, hj⟩ := List.getElem?_of_mem hx
        have hjl := (List.getElem?_eq_some_iff.1 hj).1
        simp only [List.length_take] at hjl
        have hjk : j < k0 := by omega
        rw [List.getElem?_take_of_lt hjk] at hj
        obtain ⟨hj', rfl⟩ := List.getElem?_eq_some_iff.1 hj
        have := hbef j hjk
        simpa using this)
      rw [h1]; simp [hpk]
    have HST := Lib.hid hstart
    have HG := Lib.hid hget
    clear hown hct hget hall0 hf e1 hsl hpk hbef hstart
    go_enter Tryz.func15, Tryz.ntmps15
    go_wp2_with (go_at_call 34; refine hidx.mono ?_; rintro e w1 ⟨rfl, hb1⟩)
    have hbk1 : BlkAt w1 g 52 cur := hbk.below hb1 hbk.lt
    have hgr1 : w.grownBy w1 (some g) := grown_of_below hb1
    clear hidx hb1
    go_loopw [5, 6] (fun s5 s6 wr => ∃ (i j : Nat) (cur' : Array Value), s5 = .int .i64 i ∧ s6 = .int .i64 j ∧ i < j ∧ j ≤ xs.length ∧ Hid (((xs.take j).filter (fun x => !nilE x)).length = i) ∧ Hid (cur'.size = cap * 4) ∧
      Hid (∀ (t : Nat) (x : Edg), ((xs.take j).filter (fun x => !nilE x))[t]? = some x → ∀ u v, (encEL x)[u]? = some v → cur'[t * 4 + u]? = some v) ∧ Hid (∀ (t : Nat) (x : Edg), j ≤ t → xs[t]? = some x → ∀ u v, (encEL x)[u]? = some v → cur'[t * 4 + u]? = some v) ∧ Hid (BlkAt wr g 52 cur') ∧ w.grownBy wr (some g)) (fun _ s6 _ => xs.length - (intOf s6).toNat)
    case atStart =>
      refine ⟨k0, k0 + 1, cur, rfl, by go_num, by omega, by omega, Lib.hid (by rw [HST.out]; simp; omega), Lib.hid hcs, Lib.hid ?_, Lib.hid (fun t x _ hx => HG.out t x hx), Lib.hid hbk1, hgr1⟩
      intro t x hx
      rw [HST.out] at hx
      have ht := (List.getElem?_eq_some_iff.1 hx).1
      simp only [List.length_take] at ht
      rw [List.getElem?_take_of_lt (show t < k0 by omega)] at hx
      exact HG.out t x hx
    case round =>
      obtain ⟨i, j, cur', rfl, rfl, hij, hjn, HL, HCS, H1, H2, HBK', hgr⟩ := hrel
      by_cases hlt : j < xs.length
      · obtain ⟨x, hx⟩ := get_some hlt
        have c0 := (HBK'.out.cell (j * 4 + 0)).trans (H2.out j x (Nat.le_refl _) hx 0 _ rfl)
        have c1 := (HBK'.out.cell (j * 4 + 1)).trans (H2.out j x (Nat.le_refl _) hx 1 _ rfl)
        have c2 := (HBK'.out.cell (j * 4 + 2)).trans (H2.out j x (Nat.le_refl _) hx 2 _ rfl)
        have c3 := (HBK'.out.cell (j * 4 + 3)).trans (H2.out j x (Nat.le_refl _) hx 3 _ rfl)
        rw [Nat.add_zero] at c0
        have hgl := HBK'.out.lt
        have hcall := cmpClosure_any x (wr.alloc (.cells #[.int .i64 x.frm, .int .i64 x.at', .int .i64 x.acc, .int .i64 x.msg] 52))
        unfold encE at hcall
        have hba : Below wr.heap.size wr (wr.alloc (.cells #[.int .i64 x.frm, .int .i64 x.at', .int .i64 x.acc, .int .i64 x.msg] 52)) := (Below.refl _ _).alloc (Nat.le_refl _) _
        have hnb := BlkAt.new wr 52 #[.int .i64 x.frm, .int .i64 x.at', .int .i64 x.acc, .int .i64 x.msg]
        have HBA := Lib.hid hba
        have HNB := Lib.hid hnb
        have HX := Lib.hid (take_snoc hx)
        have HXX := Lib.hid hx
        clear hx hba hnb
        cases hq : nilE x with
        | false =>
          have hq' : (x.acc == 0 && x.msg == 0) = false := hq
          rw [hq'] at hcall
          have HQ := Lib.hid hq
          clear hq hq'
          go_wp2_with (first
            | (go_at_call 16; refine hcall.mono ?_; rintro e w2 ⟨rfl, hb2⟩; clear hcall
               have HB2 := Lib.hid (HBA.out.trans (hb2.mono HBA.out.size))
               have hnn := HNB.out.below hb2 HNB.out.lt
               have n0 := hnn.cell 0
               have n1 := hnn.cell 1
               have n2 := hnn.cell 2
               have n3 := hnn.cell 3
               simp only [List.getElem?_toArray, List.getElem?_cons_succ, List.getElem?_cons_zero] at n0 n1 n2 n3
               have hbk2 := HBK'.out.below HB2.out HBK'.out.lt
               have HBK2 := Lib.hid hbk2
               clear hb2 hnn hbk2)
            | (refine wpList_store_mid rfl 52 (.tmp 33) (.tmp 32) rfl g (i * 4) #[.int .i64 x.frm, .int .i64 x.at', .int .i64 x.acc, .int .i64 x.msg] rfl rfl ?_ ?_ ?_ ?_
               · exact HBK2.out.there _ 4 (by have := HCS.out; omega)
               · exact edge_size
               · exact edge_one x))
          have hfl : (xs.take (j + 1)).filter (fun x => !nilE x) = (xs.take j).filter (fun x => !nilE x) ++ [x] := by
            rw [HX.out, List.filter_append]; simp [HQ.out]
          have hcs := HCS.out
          obtain ⟨cs', k1, k2, k3, k4, k5⟩ := BlkAt.setCellsX [.int .i64 x.frm, .int .i64 x.at', .int .i64 x.acc, .int .i64 x.msg] (i * 4) HBK2.out (by simp; omega)
          simp only [List.length_cons, List.length_nil] at k4
          go_roundw
          case rel =>
            refine ⟨i + 1, j + 1, cs', by go_num, by go_num, by omega, by omega, Lib.hid (by rw [hfl]; simp [HL.out]), Lib.hid (by rw [k2]; exact hcs), Lib.hid ?_, Lib.hid ?_, Lib.hid k1, grown_trans (grown_trans hgr (grown_of_below HB2.out)) (setCells_grown g _ _ _)⟩
            · intro t y hy u v hu
              have hu4 : u < 4 := (List.getElem?_eq_some_iff.1 hu).1
              rw [hfl] at hy
              by_cases hti : t < i
              · rw [List.getElem?_append_left (by rw [HL.out]; exact hti)] at hy
                rw [k3 _ (by omega)]
                exact H1.out t y hy u v hu
              · have ht := (List.getElem?_eq_some_iff.1 hy).1
                simp only [List.length_append, HL.out, List.length_cons, List.length_nil] at ht
                obtain rfl : t = i := by omega
                rw [List.getElem?_append_right (by rw [HL.out]; omega), HL.out] at hy
                simp at hy
                subst hy
                exact k5 u v hu
            · intro t y hjt hy u v hu
              rw [k4 _ (by omega)]
              exact H2.out t y (by omega) hy u v hu
          case measure => simp [intOf]; omega
        | true =>
          have hq' : (x.acc == 0 && x.msg == 0) = true := hq
          rw [hq'] at hcall
          have HQ := Lib.hid hq
          clear hq hq'
          go_wp2_with (go_at_call 16; refine hcall.mono ?_; rintro e w2 ⟨rfl, hb2⟩; clear hcall
                       have HB2 := Lib.hid (HBA.out.trans (hb2.mono HBA.out.size))
                       clear hb2)
          have hfl : (xs.take (j + 1)).filter (fun x => !nilE x) = (xs.take j).filter (fun x => !nilE x) := by
            rw [HX.out, List.filter_append]; simp [HQ.out]
          go_roundw
          case rel => exact ⟨i, j + 1, cur', rfl, by go_num, by omega, by omega, Lib.hid (by rw [hfl]; exact HL.out), HCS, Lib.hid (by rw [hfl]; exact H1.out), Lib.hid (fun t y hjt hy => H2.out t y (by omega) hy), Lib.hid (HBK'.out.below HB2.out HBK'.out.lt), grown_trans hgr (grown_of_below HB2.out)⟩
          case measure => simp [intOf]; omega
      · obtain rfl : j = xs.length := by omega
        have hcs := HCS.out
        have hzv : ∀ w, (zeroValue 52).run Tryz.prog w = .ok zE w := fun w => by kernel_rfl
        have hcl : ∀ ty, (Builtin.clear_ #[28] ty #[.slice (some ⟨g, i * 4, none⟩) (xs.length - i) (cap - i)]).run Tryz.prog wr = .ok (.tuple #[]) (wr.setCells g (i * 4) (Builtin.zeroCells zE.cells (xs.length - i)).toList) :=
          fun ty => run_clear_row wr 28 52 ty zE (xs.length - i) g (i * 4) (cap - i) Tryz.underlying28 hzv (zE_one _) (by omega) (HBK'.out.there _ _ (by rw [show zE.cells.size = 4 from rfl]; omega))
        have hzl := zE_len (xs.length - i)
        obtain ⟨cs2, k1, k2, k3, k4, k5⟩ := BlkAt.setCellsX (Builtin.zeroCells zE.cells (xs.length - i)).toList (i * 4) HBK'.out (by rw [hzl]; omega)
        have hgr2 := grown_trans hgr (setCells_grown g (Builtin.zeroCells zE.cells (xs.length - i)).toList (i * 4) wr)
        rw [List.take_length] at HL H1
        have HK1 := Lib.hid k1
        have HK2 := Lib.hid k2
        have HK3 := Lib.hid k3
        have HGR2 := Lib.hid hgr2
        have HCC := Lib.hid hcs
        clear k1 k2 k3 k4 k5 hgr2 hcs hzl hzv
        generalize (Builtin.zeroCells zE.cells (xs.length - i)).toList = zs at *
        go_wp2
        go_ret
        refine ⟨i, HL.out.symm, rfl, ⟨?_, .inr ⟨g, cap, cs2, rfl, hbg, HK1.out, by omega, hcm, by rw [HK2.out]; exact HCC.out, ?_⟩⟩, HGR2.out⟩
        · rw [flat_len (enc := encEL) (k := 4) (fun _ => rfl), HL.out]
        · apply List.ext_getElem?
          intro t
          by_cases ht : t < i * 4
          · rw [List.getElem?_take_of_lt ht, Array.getElem?_toList, HK3.out t ht]
            obtain ⟨y, hy⟩ := get_some (xs := xs.filter (fun x => !nilE x)) (k := t / 4) (by rw [HL.out]; omega)
            obtain ⟨u, hu⟩ := get_some (xs := encEL y) (k := t % 4) (Nat.mod_lt _ (by omega))
            have h1 := H1.out _ y hy _ u hu
            have h2 := flat_at (enc := encEL) (k := 4) (fun _ => rfl) hy hu
            rw [show t / 4 * 4 + t % 4 = t by omega] at h1 h2
            rw [h1, h2]
          · rw [List.getElem?_take_eq_none (by omega), List.getElem?_eq_none (by rw [flat_len (enc := encEL) (k := 4) (fun _ => rfl), HL.out]; omega)]
theorem e_delete (base : Nat) (v : Value) (xs : List Edg) (w : World) (hn : xs.length ≤ 1000000)
    (hown : w.ownsRow base 52 4 v xs.length (xs.flatMap encEL)) :
    Calls Tryz.prog 15 #[v, .func (.func 16) #[] #[]] w fun e w' => ∃ v', e = .returned v' ∧ w'.ownsRow base 52 4 v' (xs.filter (fun x => !nilE x)).length ((xs.filter (fun x => !nilE x)).flatMap encEL) ∧ w.grownBy w' v.ownBlock ∧ v'.ownBlock = v.ownBlock := by
  by_cases h0 : xs = []
  · subst h0
    obtain ⟨A, c, rfl, _, _, _⟩ := own_slice hown
    have hidx := e_indexFunc A 0 c [] w (by omega) (ERow.of hown rfl)
    rw [show idxI nilE [] = -1 from rfl] at hidx
    have HO := Lib.hid hown
    clear hown
    go_enter Tryz.func15, Tryz.ntmps15
    go_wp2_with (go_at_call 34; refine hidx.mono ?_; rintro e w1 ⟨rfl, hb1⟩)
    go_ret
    exact ⟨_, rfl, HO.out.kept (grown_of_below (row := none) hb1) (by by_cases h : (Value.slice A 0 c).ownBlock = none; exact .inl h; exact .inr h), grown_of_below hb1, rfl⟩
  · obtain ⟨g, cap, rfl, _, _⟩ := hown.form (List.length_pos_iff.2 h0)
    refine (e_deleteSome base g cap xs w hn h0 hown).mono ?_
    rintro e w' ⟨m, rfl, rfl, h1, h2⟩
    exact ⟨_, rfl, h1, h2, rfl⟩
end Go.Proofs.YtghjhlenkgkelaaGreatDoor
