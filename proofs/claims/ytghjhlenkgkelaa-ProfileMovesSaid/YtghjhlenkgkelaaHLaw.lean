/- DERIVED. ProfileHomes: the walk. -/
import Derived.Test.YtghjhlenkgkelaaHPure
import Derived.Test.YtghjhlenkgkelaaCounts
set_option linter.unusedSimpArgs false
set_option linter.unusedVariables false
namespace Go.Proofs.Ytghjhlenkgkelaa
open Go.RowKit Go.Shelf Go.Sort

theorem trace_of_own {w : World} {base n c : Nat} {A : Option Addr} {ys : List Acc} (h : w.ownsRow base 46 7 (.slice A n c) n (ys.flatMap accL)) : Trace w w.heap.size A n ys := by
  have hl := h.1
  rw [flat_len (k := 7) (fun _ => rfl)] at hl
  have hn : n = ys.length := by omega
  refine ⟨hn, fun i x hx => ?_⟩
  have hi := (List.getElem?_eq_some_iff.1 hx).1
  obtain ⟨g, rfl, hg, hc⟩ := row_cells' h (by omega)
  have hcc := fun (j : Nat) (u : Value) (hu : (accL x)[j]? = some u) => hc _ _ (flat_at (enc := accL) (k := 7) (fun _ => rfl) hx hu)
  refine ⟨g, 0, rfl, hg, ?_⟩
  rw [Nat.zero_add]
  exact ⟨hcc 0 _ rfl, hcc 1 _ rfl, hcc 2 _ rfl, hcc 3 _ rfl, hcc 4 _ rfl, hcc 5 _ rfl, hcc 6 _ rfl⟩
set_option maxRecDepth 100000 in
theorem Homes_err (A : Option Addr) (n c : Nat) (xs : List Acc) (w : World) (hl : n ≤ 5000) (hr : Trace w w.heap.size A n xs) (hg : givenL xs ≠ 0) :
    Calls Try.prog 18 #[.slice A n c] w fun e w' => e = .returned (.tuple #[.slice none 0 0, .int .i64 (givenL xs)]) ∧ Below w.heap.size w w' := by
  have hgiv := given_any A n c xs w hl hr
  have h0b : (givenL xs != 0) = true := by simpa using hg
  clear hr hg
  generalize givenL xs = e0 at *
  go_enter Try.func18, Try.ntmps18
  go_wp2_with (go_at_call 22; refine hgiv.mono ?_; rintro e w1 ⟨rfl, hb1⟩; clear hgiv)
  go_ret2
  exact ⟨rfl, hb1⟩

set_option maxRecDepth 100000 in
theorem hlaw_big (A AO : Option Addr) (n c m mc : Nat) (w : World) (hn : 150 < n) (hm : n ≤ 9223372036854775807) :
    Calls Try.prog 8 #[.slice A n c, .slice AO m mc] w (True1 w) := by
  go_enter Try.func8, Try.ntmps8
  go_wp2_with (go_at_call 9; refine (awake_any _).mono ?_; rintro e w1 ⟨rfl, hb1⟩)
  go_ret
  exact ⟨rfl, hb1⟩
set_option maxRecDepth 100000 in
set_option maxHeartbeats 1000000 in
theorem hlaw_err (A AO : Option Addr) (n c m mc : Nat) (xs : List Acc) (w : World) (hn : n ≤ 150) (hr : Trace w w.heap.size A n xs) (hg : givenL xs ≠ 0) :
    Calls Try.prog 8 #[.slice A n c, .slice AO m mc] w (True1 w) := by
  have hho := Homes_err A n c xs w (by omega) hr hg
  have hgb : (givenL xs != 0) = true := by simpa using hg
  clear hr hg
  generalize givenL xs = e0 at *
  go_enter Try.func8, Try.ntmps8
  go_wp2_with (first
    | (go_at_call 18; refine hho.mono ?_; rintro e w2 ⟨rfl, hb2⟩; clear hho; have HB2 := Lib.hid hb2; clear hb2)
    | (go_at_call 9; refine (awake_any _).mono ?_; rintro e w3 ⟨rfl, hb3⟩))
  go_ret
  exact ⟨rfl, HB2.out.trans (hb3.mono HB2.out.size)⟩

/-- the other homes: bytes, cut to what there are -/
def othG (bs : List Int) (k : Nat) : Int := match bs[k]? with | some b => b % 8 | none => 0
theorem othG_rg (bs : List Int) (k : Nat) : 0 ≤ othG bs k ∧ othG bs k < 8 := by
  unfold othG; split <;> omega
abbrev bv (n : Int) : Value := .int .u8 n
theorem sl_ints {w : World} {base : Nat} {A : Option Addr} {n c : Nat} {hs : List Nat} (h : w.ownsRow base 3 1 (.slice A n c) n (hs.map intV)) : Sl w iv A n (hs.map (fun h : Nat => (h : Int))) := by
  have : hs.map intV = (hs.map (fun h : Nat => (h : Int))).map iv := by rw [List.map_map]; rfl
  rw [this] at h
  exact sl_own h

set_option maxRecDepth 100000 in
set_option maxHeartbeats 2000000 in
theorem hlaw_ok (A AO : Option Addr) (n c m mc : Nat) (xs : List Acc) (bs : List Int) (w : World) (hn : n ≤ 150) (hr : Trace w w.heap.size A n xs) (hg : givenL xs = 0) (hO : Sl w bv AO m bs) (hbs : ∀ b ∈ bs, 0 ≤ b ∧ b < 256) (hmm : m ≤ 9223372036854775807) :
    Calls Try.prog 8 #[.slice A n c, .slice AO m mc] w (True1 w) := by
  have hho := Homes_any A n c xs w (by omega) hr hg
  have HN := Lib.hid hr.len
  have HR := Lib.hid hr
  have HG := Lib.hid hg
  have HO := Lib.hid hO
  have HBS := Lib.hid hbs
  clear hr hg hO hbs
  obtain ⟨i0, hi, hz0, hz1, hz2⟩ := info_parts int_info
  go_enter Try.func8, Try.ntmps8
  go_wp2_with (first
    | (go_at_call 18
       refine hho.mono ?_
       rintro e w1 ⟨v, hs, rfl, hH, hrow, hb1⟩
       clear hho
       obtain ⟨Ah, ch, rfl, _, _, _⟩ := own_slice hrow
       have HH := Lib.hid hH
       have hhl : hs.length = (spotsR xs).length := by
         obtain ⟨ss, p1, _, rfl⟩ := hH
         have := p1.length_eq
         rw [home_keys] at this
         simpa using this
       have hhr : ∀ h ∈ hs, h < 8 := by
         obtain ⟨ss, _, _, rfl⟩ := hH
         intro h hh
         obtain ⟨x, _, rfl⟩ := List.mem_map.1 hh
         exact bestUp_lt _ 8 (Nat.le_refl _)
       have hhb : hs.length ≤ 150 := by have h1 := spotsR_len xs; have := HN.out; omega
       have HHL := Lib.hid hhl
       have hmv := Moved_any A Ah n c hs.length ch xs (hs.map (fun h : Nat => (h : Int))) w1 (by omega) ((HR.out.below hb1 (Nat.le_refl _)).mono hb1.size) (sl_ints hrow) HG.out (by rw [List.length_map]; exact hhl) (fun h hh => by
         obtain ⟨k, hk, rfl⟩ := List.mem_map.1 hh
         have := hhr k hk; omega)
       have HB1 := Lib.hid hb1
       have HROW := Lib.hid hrow
       clear hH hrow hb1 hhl hhr)
    | (go_at_call 20
       refine hmv.mono ?_
       rintro e w2 ⟨v, ys, rfl, hM, hrow2, hb2⟩
       clear hmv
       obtain ⟨Am, cm, rfl, _, _, _⟩ := own_slice hrow2
       have HM := Lib.hid hM
       have HROW2 := Lib.hid hrow2
       have HB2 := Lib.hid (HB1.out.trans (hb2.mono HB1.out.size))
       have hs12 := hb2.size
       clear hM hrow2 hb2))
  go_loopw [8, 9] (fun v i wr => ∃ k : Nat, k ≤ hs.length ∧ i = .int .i64 k ∧ wr.ownsRow w2.heap.size 3 1 v k (((List.range k).map (othG bs)).map iv) ∧ Below w2.heap.size w2 wr) (fun _ i _ => hs.length - (intOf i).toNat)
  case atStart => exact ⟨0, by omega, rfl, World.ownsRow_nil _ _ _ _, Below.refl _ _⟩
  case round => as_aux_lemma =>
    obtain ⟨k, hk, rfl, hrow, hb⟩ := hrel
    obtain ⟨Ao, co, rfl, _, _, _⟩ := own_slice hrow
    by_cases hlt : k < hs.length
    · have hts : ((List.range (k + 1)).map (othG bs)).map iv = ((List.range k).map (othG bs)).map iv ++ [iv (othG bs k)] := by rw [List.range_succ]; simp
      have HTS := Lib.hid hts
      have hbs := hb.size
      have HB := Lib.hid hb
      by_cases hkm : k < m
      · obtain ⟨b, hbk⟩ := get_some (xs := bs) (k := k) (by have := HO.out.len; omega)
        obtain ⟨ob, oo, rfl, _, hoc⟩ := (HO.out.below (HB2.out.trans (hb.mono HB2.out.size))).at_ k b hbk
        obtain ⟨g1, g2⟩ := HBS.out b (List.mem_of_getElem? hbk)
        have HE : Hid (othG bs k = b % 8) := Lib.hid (by unfold othG; rw [hbk])
        have hk0 : (0 : Int) ≤ (k : Int) := by omega
        have hk1 : (k : Int) < (m : Int) := by omega
        clear hts hb hbk
        go_wp2_with
          (at_builtin; refine wpList_append_own_at _ rfl _ _ 44 rfl w2.heap.size 3 i0 (.int .i64 0) 1 8 Try.underlying44 hi hz0 hz1 hz2 rfl (by decide) (.slice Ao k co) _ _ rfl (hrow.alloc _) ⟨wr.heap.size, 0, none⟩ 1 1 [iv (b % 8)] rfl rfl (cells_new' _ [iv (b % 8)] _ _ (by simp)) (by simp [Value.oneCell']) (by unfold maxLen; omega) (by omega) (by simp; omega) ?_; intro v' w6 hrow' hgrow _ hob)
        go_roundw
        case rel =>
          refine ⟨k + 1, by omega, by go_num, by rw [HTS.out, HE.out]; exact hrow', ?_⟩
          have h1 : Below w2.heap.size w2 (wr.alloc (.cells #[iv (b % 8)] 3)) := HB.out.alloc hbs _
          exact h1.grown hgrow (by simp; omega) (fun j e => (own_lt' hrow e).1)
        case measure => simp [intOf]; omega
      · have HE : Hid (othG bs k = 0) := Lib.hid (by unfold othG; rw [List.getElem?_eq_none (by have := HO.out.len; omega)])
        clear hts hb
        go_wp2_with
          (at_builtin; refine wpList_append_own_at _ rfl _ _ 44 rfl w2.heap.size 3 i0 (.int .i64 0) 1 8 Try.underlying44 hi hz0 hz1 hz2 rfl (by decide) (.slice Ao k co) _ _ rfl (hrow.alloc _) ⟨wr.heap.size, 0, none⟩ 1 1 [iv 0] rfl rfl (cells_new' _ [iv 0] _ _ (by simp)) (by simp [Value.oneCell']) (by unfold maxLen; omega) (by omega) (by simp; omega) ?_; intro v' w6 hrow' hgrow _ hob)
        go_roundw
        case rel =>
          refine ⟨k + 1, by omega, by go_num, by rw [HTS.out, HE.out]; exact hrow', ?_⟩
          have h1 : Below w2.heap.size w2 (wr.alloc (.cells #[iv 0] 3)) := HB.out.alloc hbs _
          exact h1.grown hgrow (by simp; omega) (fun j e => (own_lt' hrow e).1)
        case measure => simp [intOf]; omega
    · obtain rfl : k = hs.length := by omega
      obtain ⟨wg, rfl⟩ : ∃ wg : World, wg = wr := ⟨_, rfl⟩
      have HBG : Hid (Below w.heap.size w wg) := Lib.hid (HB2.out.trans (hb.mono HB2.out.size))
      have hmv := Moved_any A Ao n c hs.length co xs ((List.range hs.length).map (othG bs)) wg (by omega) ((HR.out.below HBG.out (Nat.le_refl _)).mono HBG.out.size) (sl_own hrow) HG.out (by rw [List.length_map, List.length_range]; exact HHL.out) (fun h hh => by
        obtain ⟨j, _, rfl⟩ := List.mem_map.1 hh
        exact othG_rg bs j)
      have HROW2G : Hid (wg.ownsRow w1.heap.size 46 7 (.slice Am n cm) n (ys.flatMap accL)) := Lib.hid (HROW2.out.kept (grown_of_below (row := none) hb) (none_or _))
      clear hrow hb
      go_wp2_with (first
        | (go_at_call 20
           refine hmv.mono ?_
           rintro e w3 ⟨v, zs, rfl, hM3, hrow3, hb3⟩
           clear hmv
           obtain ⟨An, cn, rfl, _, _, _⟩ := own_slice hrow3
           have hbest : decide (remN ys ≤ remN zs) = true := decide_eq_true (homes_best (valid_of HG.out) HH.out HM.out hM3 (by rw [List.length_map, List.length_range]) (fun g hg => by
             obtain ⟨j, _, rfl⟩ := List.mem_map.1 hg
             exact othG_rg bs j))
           have hr1 := remote_any Am n cm ys w3 (by omega) (trace_of_own (HROW2G.out.kept (grown_of_below (row := none) hb3) (none_or _)))
           have HB3 : Hid (Below w.heap.size w w3) := Lib.hid (HBG.out.trans (hb3.mono HBG.out.size))
           have HT3 := Lib.hid (trace_of_own hrow3)
           clear hM3 hrow3 hb3
           generalize remN ys = q1 at *)
        | (go_at_call 12
           refine hr1.mono ?_
           rintro e w4 ⟨rfl, hb4⟩
           clear hr1
           have hr2 := remote_any An n cn zs w4 (by omega) ((HT3.out.below hb4 (Nat.le_refl _)).mono hb4.size)
           have HB4 : Hid (Below w.heap.size w w4) := Lib.hid (HB3.out.trans (hb4.mono HB3.out.size))
           clear hb4
           generalize remN zs = q2 at *)
        | (go_at_call 12
           refine hr2.mono ?_
           rintro e w5 ⟨rfl, hb5⟩
           clear hr2
           have HB5 : Hid (Below w.heap.size w w5) := Lib.hid (HB4.out.trans (hb5.mono HB4.out.size))
           clear hb5)
        | (go_at_call 9; refine (awake_any _).mono ?_; rintro e w6 ⟨rfl, hb6⟩))
      go_ret
      exact ⟨rfl, HB5.out.trans (hb6.mono HB5.out.size)⟩
end Go.Proofs.Ytghjhlenkgkelaa
