/- DERIVED. slices.IndexFunc, DeleteFunc, ContainsFunc of this program. -/
import Derived.Test.YtghjhlenkgkelaaGreatDoorOwn
set_option linter.unusedSimpArgs false
set_option linter.unusedVariables false
namespace Go.Proofs.YtghjhlenkgkelaaGreatDoor
open Go.RowKit Go.Shelf
abbrev ptr (g : Nat) : Value := .pointer (some ⟨g, 0, none⟩)
set_option maxHeartbeats 1000000 in
theorem g_indexFunc (f : Nat) (cb : Array Value) (eg : ∀ args w, (callFunc f args).run Tryz.prog w = .ok (.enter f args) w) (enc : Nat → Value) (p : Nat → Bool) (A : Option Addr) (n c : Nat) (xs : List Nat) (w : World) (hn : n ≤ 1000000) (hs : Sl w enc A n xs) (hp : PredB Tryz.prog f cb enc p xs w none) :
    Calls Tryz.prog 58 #[.slice A n c, .func (.func f) #[] cb] w fun e w' => e = .returned (.int .i64 (idxI p xs)) ∧ Below w.heap.size w w' := by
  have HL := Lib.hid hs.len
  go_enter Tryz.func58, Tryz.ntmps58
  go_wp2
  go_loopw [8] (fun i wr => ∃ k : Nat, k ≤ n ∧ i = .int .i64 k ∧ (∀ j y, j < k → xs[j]? = some y → p y = false) ∧ Below w.heap.size w wr) (fun i _ => n - (intOf i).toNat)
  case atStart => exact ⟨0, by omega, rfl, by intro j y h; omega, Below.refl _ _⟩
  case round =>
    obtain ⟨k, hk, rfl, hall, hbw⟩ := hrel
    by_cases hlt : k < n
    · obtain ⟨x, hx⟩ := get_some (xs := xs) (k := k) (by rw [← HL.out]; omega)
      obtain ⟨b, o, rfl, hb, hc0⟩ := hs.at_ k x hx
      have hc := (hbw.cell (p := ⟨b, o + k, none⟩) hb).trans hc0
      have hcall := hp wr (grown_of_below hbw) x (List.mem_of_getElem? hx)
      have HX := Lib.hid hx
      have HA := Lib.hid hall
      clear hx hc0 hall hp hs
      cases hq : p x with
      | true =>
        rw [hq] at hcall
        have HQ := Lib.hid hq
        clear hq
        go_wp2_with (go_at_fn f; refine hcall.mono ?_; rintro e w1 ⟨rfl, hb1⟩)
        go_ret
        exact ⟨ret_int (idxI_at HX.out HQ.out HA.out).symm, hbw.trans (hb1.mono hbw.size)⟩
      | false =>
        rw [hq] at hcall
        have HQ := Lib.hid hq
        clear hq
        go_wp2_with (go_at_fn f; refine hcall.mono ?_; rintro e w1 ⟨rfl, hb1⟩)
        go_roundw
        case rel =>
          refine ⟨k + 1, by omega, by go_num, ?_, hbw.trans (hb1.mono hbw.size)⟩
          intro j y hj hy
          by_cases hjk : j = k
          · subst hjk
            have := HX.out.symm.trans hy
            injection this with this
            subst this
            exact HQ.out
          · exact HA.out j y (by omega) hy
        case measure => simp [intOf]; omega
    · clear hp hs
      go_wp2
      go_ret
      refine ⟨ret_int (idxI_none fun y hy => ?_).symm, hbw⟩
      obtain ⟨j, hj⟩ := List.getElem?_of_mem hy
      have := (List.getElem?_eq_some_iff.1 hj).1
      have := HL.out
      exact hall j y (by omega) hj

set_option maxRecDepth 100000 in
set_option maxHeartbeats 2000000 in
theorem g_deleteSome (f : Nat) (cb : Array Value) (eg : ∀ args w, (callFunc f args).run Tryz.prog w = .ok (.enter f args) w) (p : Nat → Bool) (base g cap : Nat) (xs : List Nat) (w : World) (hn : xs.length ≤ 1000000) (hn0 : xs ≠ [])
    (hown : w.ownsRow base 84 1 (.slice (some ⟨g, 0, none⟩) xs.length cap) xs.length (xs.map ptr)) (hp : PredB Tryz.prog f cb ptr p xs w (some g)) :
    Calls Tryz.prog 68 #[.slice (some ⟨g, 0, none⟩) xs.length cap, .func (.func f) #[] cb] w fun e w' => ∃ m, m = (xs.filter (fun x => !p x)).length ∧ e = .returned (.slice (some ⟨g, 0, none⟩) m cap) ∧
      w'.ownsRow base 84 1 (.slice (some ⟨g, 0, none⟩) m cap) m ((xs.filter (fun x => !p x)).map ptr) ∧ w.grownBy w' (some g) := by
  have hpos : 0 < xs.length := List.length_pos_iff.2 hn0
  have hsl := sl_own hown
  have hidx := g_indexFunc f cb eg ptr p _ xs.length cap xs w hn hsl hp.none_
  obtain ⟨cur, hbg, hbk, hcap, hcm, hcs, hct⟩ : ∃ cur, base ≤ g ∧ BlkAt w g 84 cur ∧ xs.length ≤ cap ∧ cap ≤ maxLen ∧ cur.size = cap ∧ cur.toList.take xs.length = xs.map ptr := by
    rcases hown.2 with ⟨_, h0⟩ | ⟨g', cap', cur, hv, hb, hh, h1, h2, h3, ht⟩
    · omega
    · injection hv with ha _ hc
      injection ha with ha
      injection ha with ha
      subst ha hc
      exact ⟨cur, hb, hh, h1, h2, by simpa using h3, by simpa using ht⟩
  have hget : ∀ t x, xs[t]? = some x → cur[t]? = some (ptr x) := fun t x hx => by
    have ht := (List.getElem?_eq_some_iff.1 hx).1
    have := congrArg (fun l => l[t]?) hct
    simp only [List.getElem?_take_of_lt ht, List.getElem?_map, hx, Array.getElem?_toList] at this
    exact this
  have hcm' : cap ≤ 9223372036854775807 := hcm
  have hall0 : (∀ y ∈ xs, p y = false) → xs.filter (fun x => !p x) = xs := fun h => List.filter_eq_self.2 (fun x hx => by simp [h x hx])
  rcases hf : xs.findIdx? p with _ | k0
  · have hnone : ∀ y ∈ xs, p y = false := by
      intro y hy; have := List.findIdx?_eq_none_iff.1 hf y hy; simpa using this
    have e1 : idxI p xs = -1 := by simp [idxI, hf]
    rw [e1] at hidx
    rw [hall0 hnone]
    have HO := Lib.hid hown
    clear hown hct hget hnone hall0 hf e1 hp hsl hbk
    go_enter Tryz.func68, Tryz.ntmps68
    go_wp2_with (go_at_call 58; refine hidx.mono ?_; rintro e w1 ⟨rfl, hb1⟩)
    go_ret
    refine ⟨xs.length, rfl, rfl, ?_, grown_of_below hb1⟩
    exact HO.out.kept (grown_of_below (row := none) hb1) (by simp [Value.ownBlock])
  · obtain ⟨hk0, hpk, hbef⟩ := List.findIdx?_eq_some_iff_getElem.1 hf
    have e1 : idxI p xs = k0 := by simp [idxI, hf]
    rw [e1] at hidx
    have hne1 : ((k0 : Int) == -1) = false := beq_eq_false_iff_ne.2 (by omega)
    have hstart : (xs.take (k0 + 1)).filter (fun x => !p x) = xs.take k0 := by
      rw [take_snoc (List.getElem?_eq_getElem hk0), List.filter_append]
      have h1 : (xs.take k0).filter (fun x => !p x) = xs.take k0 := List.filter_eq_self.2 (fun x hx => by
        obtain ⟨j, hj⟩ := List.getElem?_of_mem hx
        have hjl := (List.getElem?_eq_some_iff.1 hj).1
        simp only [List.length_take] at hjl
        have hjk : j < k0 := by omega
        rw [List.getElem?_take_of_lt hjk] at hj
        obtain ⟨hj', rfl⟩ := List.getElem?_eq_some_iff.1 hj
        have := hbef j hjk
        simpa using this)
      rw [h1]; simp [hpk]
    have HST := Lib.hid hstart
    have HG := Lib.hid hget
    have HP := Lib.hid hp
    clear hown hct hget hall0 hf e1 hp hsl hpk hbef hstart
    go_enter Tryz.func68, Tryz.ntmps68
    go_wp2_with (go_at_call 58; refine hidx.mono ?_; rintro e w1 ⟨rfl, hb1⟩)
    have hbk1 : BlkAt w1 g 84 cur := hbk.below hb1 hbk.lt
    have hgr1 : w.grownBy w1 (some g) := grown_of_below hb1
    clear hidx hb1
    go_loopw [5, 6] (fun s5 s6 wr => ∃ (i j : Nat) (cur' : Array Value), s5 = .int .i64 i ∧ s6 = .int .i64 j ∧ i < j ∧ j ≤ xs.length ∧ Hid (((xs.take j).filter (fun x => !p x)).length = i) ∧ cur'.size = cap ∧
      Hid (∀ (t : Nat) (x : Nat), ((xs.take j).filter (fun x => !p x))[t]? = some x → cur'[t]? = some (ptr x)) ∧ Hid (∀ (t : Nat) (x : Nat), j ≤ t → xs[t]? = some x → cur'[t]? = some (ptr x)) ∧ BlkAt wr g 84 cur' ∧ w.grownBy wr (some g)) (fun _ s6 _ => xs.length - (intOf s6).toNat)
    case atStart =>
      refine ⟨k0, k0 + 1, cur, rfl, by go_num, by omega, by omega, Lib.hid (by rw [HST.out]; simp; omega), hcs, Lib.hid ?_, Lib.hid (fun t x _ hx => HG.out t x hx), hbk1, hgr1⟩
      intro t x hx
      rw [HST.out] at hx
      have ht := (List.getElem?_eq_some_iff.1 hx).1
      simp only [List.length_take] at ht
      rw [List.getElem?_take_of_lt (show t < k0 by omega)] at hx
      exact HG.out t x hx
    case round =>
      obtain ⟨i, j, cur', rfl, rfl, hij, hjn, HL, hcs', H1, H2, hbk', hgr⟩ := hrel
      by_cases hlt : j < xs.length
      · obtain ⟨x, hx⟩ := get_some hlt
        have hcj : wr.cell? ⟨g, j, none⟩ = some (ptr x) := (hbk'.cell j).trans (H2.out j x (Nat.le_refl _) hx)
        have hcall := HP.out wr hgr x (List.mem_of_getElem? hx)
        have HX := Lib.hid (take_snoc hx)
        have HXX := Lib.hid hx
        clear hx
        cases hq : p x with
        | false =>
          rw [hq] at hcall
          have HQ := Lib.hid hq
          clear hq
          have hfi := fun W' (hb : Below wr.heap.size wr W') => (hbk'.below hb hbk'.lt).frozen i
          have hci := fun W' (hb : Below wr.heap.size wr W') => (hbk'.below hb hbk'.lt).cell i
          have hsome : ∃ old, cur'[i]? = some old := ⟨cur'[i]'(by omega), Array.getElem?_eq_getElem (by omega)⟩
          obtain ⟨old, hold⟩ := hsome
          rw [hold] at hci
          go_wp2_with (go_at_fn f; refine hcall.mono ?_; rintro e w2 ⟨rfl, hb2⟩; have hc2 := hci w2 hb2; have hf2 := hfi w2 hb2)
          have hbk2 := (hbk'.below hb2 hbk'.lt).set i (ptr x)
          have hgr2 : w.grownBy (w2.setCell ⟨g, i, none⟩ (ptr x)) (some g) := grown_trans (grown_trans hgr (grown_of_below hb2)) (setCell_grown _ _ _ _)
          have hfl : (xs.take (j + 1)).filter (fun x => !p x) = (xs.take j).filter (fun x => !p x) ++ [x] := by
            rw [HX.out, List.filter_append]; simp [HQ.out]
          go_roundw
          case rel =>
            refine ⟨i + 1, j + 1, _, by go_num, by go_num, by omega, by omega, Lib.hid (by rw [hfl]; simp [HL.out]), by simpa using hcs', Lib.hid ?_, Lib.hid ?_, hbk2, hgr2⟩
            · intro t y hy
              rw [hfl] at hy
              by_cases hti : t < i
              · rw [List.getElem?_append_left (by rw [HL.out]; exact hti)] at hy
                rw [Array.getElem?_setIfInBounds_ne (by omega)]
                exact H1.out t y hy
              · have ht := (List.getElem?_eq_some_iff.1 hy).1
                simp only [List.length_append, HL.out, List.length_cons, List.length_nil] at ht
                obtain rfl : t = i := by omega
                rw [List.getElem?_append_right (by rw [HL.out]; omega), HL.out] at hy
                simp at hy
                subst hy
                exact Array.getElem?_setIfInBounds_self_of_lt (by omega)
            · intro t y hjt hy
              rw [Array.getElem?_setIfInBounds_ne (by omega)]
              exact H2.out t y (by omega) hy
          case measure => simp [intOf]; omega
        | true =>
          rw [hq] at hcall
          have HQ := Lib.hid hq
          clear hq
          go_wp2_with (go_at_fn f; refine hcall.mono ?_; rintro e w2 ⟨rfl, hb2⟩)
          have hbk2 := hbk'.below hb2 hbk'.lt
          have hgr2 : w.grownBy w2 (some g) := grown_trans hgr (grown_of_below hb2)
          have hfl : (xs.take (j + 1)).filter (fun x => !p x) = (xs.take j).filter (fun x => !p x) := by
            rw [HX.out, List.filter_append]; simp [HQ.out]
          go_roundw
          case rel => exact ⟨i, j + 1, cur', rfl, by go_num, by omega, by omega, Lib.hid (by rw [hfl]; exact HL.out), hcs', Lib.hid (by rw [hfl]; exact H1.out), Lib.hid (fun t y hjt hy => H2.out t y (by omega) hy), hbk2, hgr2⟩
          case measure => simp [intOf]; omega
      · obtain rfl : j = xs.length := by omega
        have hcl : ∀ ty, (Builtin.clear_ #[82] ty #[.slice (some ⟨g, i, none⟩) (xs.length - i) (cap - i)]).run Tryz.prog wr = .ok (.tuple #[]) (wr.setCells g i (List.replicate (xs.length - i) (.pointer none))) :=
          fun ty => Lib.run_clear_slice wr _ _ ty _ Tryz.underlying82 (fun _ => by kernel_rfl) rfl rfl g i _ _ (by omega) (fun t ht => by rw [hbk'.cell (i + t)]; rw [Array.getElem?_eq_getElem (by omega)]; rfl) (fun t ht => hbk'.frozen _)
        obtain ⟨cur2, hbk2, hs2, hk2⟩ := hbk'.setCells (List.replicate (xs.length - i) (.pointer none)) i
        have hgr2 := grown_trans hgr (setCells_grown g (List.replicate (xs.length - i) (.pointer none)) i wr)
        rw [List.take_length] at HL H1
        have HBK := Lib.hid hbk2
        clear hbk2 hbk'
        go_wp2
        go_ret
        refine ⟨i, HL.out.symm, rfl, ⟨by simp [HL.out], .inr ⟨g, cap, cur2, rfl, hbg, HBK.out, by omega, hcm, by omega, ?_⟩⟩, hgr2⟩
        apply List.ext_getElem?
        intro t
        by_cases ht : t < i
        · rw [Nat.mul_one, List.getElem?_take_of_lt ht, Array.getElem?_toList, hk2 t ht]
          obtain ⟨y, hy⟩ := get_some (xs := xs.filter (fun x => !p x)) (k := t) (by rw [HL.out]; exact ht)
          rw [H1.out t y hy, List.getElem?_map, hy]; rfl
        · rw [Nat.mul_one, List.getElem?_take_eq_none (by omega), List.getElem?_eq_none (by simp [HL.out]; omega)]

theorem g_delete (f : Nat) (cb : Array Value) (eg : ∀ args w, (callFunc f args).run Tryz.prog w = .ok (.enter f args) w) (p : Nat → Bool) (base : Nat) (v : Value) (xs : List Nat) (w : World) (hn : xs.length ≤ 1000000)
    (hown : w.ownsRow base 84 1 v xs.length (xs.map ptr)) (hp : PredB Tryz.prog f cb ptr p xs w v.ownBlock) :
    Calls Tryz.prog 68 #[v, .func (.func f) #[] cb] w fun e w' => ∃ v', e = .returned v' ∧ w'.ownsRow base 84 1 v' (xs.filter (fun x => !p x)).length ((xs.filter (fun x => !p x)).map ptr) ∧ w.grownBy w' v.ownBlock ∧ v'.ownBlock = v.ownBlock := by
  by_cases h0 : xs = []
  · subst h0
    obtain ⟨A, c, rfl, _, _, _⟩ := own_slice hown
    have hidx := g_indexFunc f cb eg ptr p A 0 c [] w (by omega) (sl_own hown) hp.none_
    rw [show idxI p [] = -1 from rfl] at hidx
    have HO := Lib.hid hown
    clear hown hp
    go_enter Tryz.func68, Tryz.ntmps68
    go_wp2_with (go_at_call 58; refine hidx.mono ?_; rintro e w1 ⟨rfl, hb1⟩)
    go_ret
    exact ⟨_, rfl, HO.out.kept (grown_of_below (row := none) hb1) (by by_cases h : (Value.slice A 0 c).ownBlock = none; exact .inl h; exact .inr h), grown_of_below hb1, rfl⟩
  · obtain ⟨g, cap, rfl, _, _⟩ := hown.form (List.length_pos_iff.2 h0)
    refine (g_deleteSome f cb eg p base g cap xs w hn h0 hown hp).mono ?_
    rintro e w' ⟨m, rfl, rfl, h1, h2⟩
    exact ⟨_, rfl, h1, h2, rfl⟩

abbrev intV (i : Nat) : Value := .int .i64 i
set_option maxHeartbeats 1000000 in
theorem i_indexFunc (f : Nat) (cb : Array Value) (eg : ∀ args w, (callFunc f args).run Tryz.prog w = .ok (.enter f args) w) (enc : Nat → Value) (p : Nat → Bool) (A : Option Addr) (n c : Nat) (xs : List Nat) (w : World) (hn : n ≤ 1000000) (hs : Sl w enc A n xs) (hp : PredB Tryz.prog f cb enc p xs w none) :
    Calls Tryz.prog 89 #[.slice A n c, .func (.func f) #[] cb] w fun e w' => e = .returned (.int .i64 (idxI p xs)) ∧ Below w.heap.size w w' := by
  have HL := Lib.hid hs.len
  go_enter Tryz.func89, Tryz.ntmps89
  go_wp2
  go_loopw [8] (fun i wr => ∃ k : Nat, k ≤ n ∧ i = .int .i64 k ∧ (∀ j y, j < k → xs[j]? = some y → p y = false) ∧ Below w.heap.size w wr) (fun i _ => n - (intOf i).toNat)
  case atStart => exact ⟨0, by omega, rfl, by intro j y h; omega, Below.refl _ _⟩
  case round =>
    obtain ⟨k, hk, rfl, hall, hbw⟩ := hrel
    by_cases hlt : k < n
    · obtain ⟨x, hx⟩ := get_some (xs := xs) (k := k) (by rw [← HL.out]; omega)
      obtain ⟨b, o, rfl, hb, hc0⟩ := hs.at_ k x hx
      have hc := (hbw.cell (p := ⟨b, o + k, none⟩) hb).trans hc0
      have hcall := hp wr (grown_of_below hbw) x (List.mem_of_getElem? hx)
      have HX := Lib.hid hx
      have HA := Lib.hid hall
      clear hx hc0 hall hp hs
      cases hq : p x with
      | true =>
        rw [hq] at hcall
        have HQ := Lib.hid hq
        clear hq
        go_wp2_with (go_at_fn f; refine hcall.mono ?_; rintro e w1 ⟨rfl, hb1⟩)
        go_ret
        exact ⟨ret_int (idxI_at HX.out HQ.out HA.out).symm, hbw.trans (hb1.mono hbw.size)⟩
      | false =>
        rw [hq] at hcall
        have HQ := Lib.hid hq
        clear hq
        go_wp2_with (go_at_fn f; refine hcall.mono ?_; rintro e w1 ⟨rfl, hb1⟩)
        go_roundw
        case rel =>
          refine ⟨k + 1, by omega, by go_num, ?_, hbw.trans (hb1.mono hbw.size)⟩
          intro j y hj hy
          by_cases hjk : j = k
          · subst hjk
            have := HX.out.symm.trans hy
            injection this with this
            subst this
            exact HQ.out
          · exact HA.out j y (by omega) hy
        case measure => simp [intOf]; omega
    · clear hp hs
      go_wp2
      go_ret
      refine ⟨ret_int (idxI_none fun y hy => ?_).symm, hbw⟩
      obtain ⟨j, hj⟩ := List.getElem?_of_mem hy
      have := (List.getElem?_eq_some_iff.1 hj).1
      have := HL.out
      exact hall j y (by omega) hj

theorem idxI_ge {α : Type} (p : α → Bool) (xs : List α) : decide (0 ≤ idxI p xs) = xs.any p := by
  unfold idxI
  cases h : xs.findIdx? p with
  | none =>
    have := List.findIdx?_eq_none_iff.1 h
    have e : xs.any p = false := by rw [List.any_eq_false]; intro x hx; simpa using this x hx
    rw [e]; simp
  | some i =>
    obtain ⟨hi, hp, _⟩ := List.findIdx?_eq_some_iff_getElem.1 h
    have e : xs.any p = true := List.any_eq_true.2 ⟨_, List.getElem_mem hi, hp⟩
    rw [e]; simp
theorem containsFunc (f : Nat) (cb : Array Value) (eg : ∀ args w, (callFunc f args).run Tryz.prog w = .ok (.enter f args) w) (p : Nat → Bool) (A : Option Addr) (n c : Nat) (xs : List Nat) (w : World) (hn : n ≤ 1000000) (hs : Sl w intV A n xs) (hp : PredB Tryz.prog f cb intV p xs w none) :
    Calls Tryz.prog 69 #[.slice A n c, .func (.func f) #[] cb] w fun e w' => e = .returned (.bool (xs.any p)) ∧ Below w.heap.size w w' := by
  have H := i_indexFunc f cb eg intV p A n c xs w hn hs hp
  rw [← idxI_ge]
  generalize idxI p xs = z at *
  clear hs hp
  go_enter Tryz.func69, Tryz.ntmps69
  go_wp2_with (go_at_call 89; refine H.mono ?_; rintro e w1 ⟨rfl, hb1⟩)
  go_ret
  exact ⟨rfl, hb1⟩
end Go.Proofs.YtghjhlenkgkelaaGreatDoor
