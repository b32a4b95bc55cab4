/- DERIVED. ProfileMoves: the walk of the law. -/
import Derived.Test.YtghjhlenkgkelaaAccEq
set_option linter.unusedSimpArgs false
set_option linter.unusedVariables false
namespace Go.Proofs.Ytghjhlenkgkelaa
open Go.RowKit Go.Shelf Go.Sort

theorem short_any (A : Option Addr) (n c : Nat) (k : Int) (w : World) (hn : n ≤ 9223372036854775807) :
    Calls Try.prog 13 #[.slice A n c, .int .i64 k] w fun e w' => e = .returned (.bool (decide ((n : Int) ≤ k) || (decide (5000 < n) && decide (n ≤ 5002)))) ∧ w' = w := by
  go_enter Try.func13, Try.ntmps13
  by_cases h1 : (n : Int) ≤ k
  · have f1 : decide ((n : Int) ≤ k) = true := decide_eq_true h1
    go_wp2
    all_goals go_ret
    all_goals exact ⟨ret_bool (by simp [h1]), rfl⟩
  · have f1 : decide ((n : Int) ≤ k) = false := decide_eq_false h1
    by_cases h2 : 5000 < n
    · have f2 : decide ((5000 : Int) < (n : Int)) = true := decide_eq_true (by omega)
      by_cases h3 : n ≤ 5002
      · have f3 : decide ((n : Int) ≤ 5002) = true := decide_eq_true (by omega)
        go_wp2
        all_goals go_ret
        all_goals exact ⟨ret_bool (by simp [h1, h2, h3]), rfl⟩
      · have f3 : decide ((n : Int) ≤ 5002) = false := decide_eq_false (by omega)
        go_wp2
        all_goals go_ret
        all_goals exact ⟨ret_bool (by simp [h1, h2, h3]), rfl⟩
    · have f2 : decide ((5000 : Int) < (n : Int)) = false := decide_eq_false (by omega)
      go_wp2
      all_goals go_ret
      all_goals exact ⟨ret_bool (by simp [h1, h2]), rfl⟩
theorem short_iff (n : Nat) (k : Int) : (decide ((n : Int) ≤ k) || (decide (5000 < n) && decide (n ≤ 5002))) = true ↔ ((n : Int) ≤ k ∨ (5000 < n ∧ n ≤ 5002)) := by simp

set_option maxRecDepth 100000 in
set_option maxHeartbeats 1000000 in
theorem mlaw_out (A AH : Option Addr) (n c m ch : Nat) (w : World) (hn : n ≤ 9223372036854775807) (hm : m ≤ 9223372036854775807) (h : ¬ ((n : Int) ≤ 100 ∨ (5000 < n ∧ n ≤ 5002)) ∨ 120 < m) :
    Calls Try.prog 7 #[.slice A n c, .slice AH m ch] w (True1 w) := by
  have hsh := short_any A n c 100 w hn
  by_cases h1 : ((n : Int) ≤ 100 ∨ (5000 < n ∧ n ≤ 5002))
  · rw [(short_iff n 100).2 h1] at hsh
    have hm2 : decide ((120 : Int) < (m : Int)) = true := decide_eq_true (by omega)
    clear h h1
    go_enter Try.func7, Try.ntmps7
    go_wp2_with (first
      | (go_at_call 13; refine hsh.mono ?_; rintro e w0 ⟨rfl, rfl⟩; clear hsh)
      | (go_at_call 9; refine (awake_any _).mono ?_; rintro e w1 ⟨rfl, hb1⟩))
    all_goals go_ret
    all_goals exact ⟨rfl, hb1⟩
  · rw [Bool.eq_false_iff.2 (fun h2 => h1 ((short_iff n 100).1 h2))] at hsh
    clear h h1
    go_enter Try.func7, Try.ntmps7
    go_wp2_with (first
      | (go_at_call 13; refine hsh.mono ?_; rintro e w0 ⟨rfl, rfl⟩; clear hsh)
      | (go_at_call 9; refine (awake_any _).mono ?_; rintro e w1 ⟨rfl, hb1⟩))
    all_goals go_ret
    all_goals exact ⟨rfl, hb1⟩

set_option maxRecDepth 100000 in
set_option maxHeartbeats 2000000 in
theorem mlaw_core (A AH : Option Addr) (n c m ch : Nat) (w : World) (hn : n ≤ 9223372036854775807) (hsht : (n : Int) ≤ 100 ∨ (5000 < n ∧ n ≤ 5002)) (hm : m ≤ 120) (e0 : Int) (out : List Int) (E : List Int → Int) (O : List Int → List Acc) (hout : out.length ≤ 5000) (hO : ∀ hs, (O hs).length ≤ 5000) (hs : List Int) (hh : Sl w iv AH m hs)
    (H1 : ∀ W, Below w.heap.size w W → Calls Try.prog 18 #[.slice A n c] W (HoC W e0 out))
    (H2 : ∀ W, Below w.heap.size w W → Calls Try.prog 19 #[.slice A n c] W (HoC W e0 out))
    (H3 : ∀ W, Below w.heap.size w W → ∀ AH m ch hs, Sl W iv AH m hs → m ≤ 5000 → Calls Try.prog 20 #[.slice A n c, .slice AH m ch] W (MvC W (E hs) (O hs)))
    (H4 : ∀ W, Below w.heap.size w W → ∀ AH m ch hs, Sl W iv AH m hs → m ≤ 5000 → Calls Try.prog 21 #[.slice A n c, .slice AH m ch] W (MvC W (E hs) (O hs))) :
    Calls Try.prog 7 #[.slice A n c, .slice AH m ch] w (True1 w) := by
  have hsh := short_any A n c 100 w hn
  rw [(short_iff n 100).2 hsht] at hsh
  have h1 := H1 w (Below.refl _ _)
  have hm2 : decide ((120 : Int) < (m : Int)) = false := decide_eq_false (by omega)
  have HH := Lib.hid hh
  have HH2 := Lib.hid H2
  have HMV := Lib.hid H3
  have HMR := Lib.hid H4
  have hee : (e0 != e0) = false := bne_self_eq_false e0
  have hll : ((out.length : Int) != (out.length : Int)) = false := bne_self_eq_false _
  clear hsht hh H1 H2 H3 H4
  go_enter Try.func7, Try.ntmps7
  go_wp2_with (first
    | (go_at_call 13; refine hsh.mono ?_; rintro e w0 ⟨rfl, hw0⟩; replace hw0 := hw0.symm; subst hw0; clear hsh)
    | (go_at_call 18
       refine h1.mono ?_
       rintro e w1 ⟨v, rfl, hrow1, hb1⟩
       clear h1
       obtain ⟨A1, c1, rfl, _, _, _⟩ := own_slice hrow1
       have h2 := HH2.out w1 hb1
       have HROW1 := Lib.hid hrow1
       have HB1 := Lib.hid hb1
       have hs1 := hb1.size
       clear hrow1 hb1)
    | (go_at_call 19
       refine h2.mono ?_
       rintro e w2 ⟨v, rfl, hrow2, hb2⟩
       clear h2
       obtain ⟨A2, c2, rfl, _, _, _⟩ := own_slice hrow2
       have HROW2 := Lib.hid hrow2
       have HB2 := Lib.hid hb2
       have hs2 := hb2.size
       clear hrow2 hb2))
  go_loopw [9] (fun i wr => ∃ k : Nat, k ≤ out.length ∧ i = .int .i64 k ∧ Below w2.heap.size w2 wr) (fun i _ => out.length - (intOf i).toNat)
  case atStart => exact ⟨0, by omega, rfl, Below.refl _ _⟩
  case round => as_aux_lemma =>
    obtain ⟨k, hk, rfl, hb⟩ := hrel
    by_cases hlt : k < out.length
    · obtain ⟨h, hh⟩ := get_some hlt
      have r1 := HROW1.out.kept (grown_of_below (row := none) (HB2.out.trans (hb.mono hs2))) (none_or _)
      have r2 := HROW2.out.kept (grown_of_below (row := none) hb) (none_or _)
      obtain ⟨g1, rfl, hg1, hc1⟩ := row_cells' r1 (by omega)
      obtain ⟨g2, rfl, hg2, hc2⟩ := row_cells' r2 (by omega)
      have d1 := hc1 k (iv h) (by rw [List.getElem?_map, hh]; rfl)
      have d2 := hc2 k (iv h) (by rw [List.getElem?_map, hh]; rfl)
      have hhh : (h != h) = false := bne_self_eq_false h
      have hk0 : (0 : Int) ≤ (k : Int) := by omega
      have hk1 : (k : Int) < (out.length : Int) := by omega
      have HBX := Lib.hid hb
      clear hc1 hc2 r1 r2 hh hb
      go_wp2
      go_quiet (fail)
      go_wp2
      go_roundw
      case rel => exact ⟨k + 1, by omega, by go_num, below_draw HBX.out _⟩
      case measure => simp [intOf]; omega
    · obtain rfl : k = out.length := by omega
      obtain ⟨wg, rfl⟩ : ∃ wg : World, wg = wr := ⟨_, rfl⟩
      have HBG : Hid (Below w.heap.size w wg) := Lib.hid (HB1.out.trans ((HB2.out.trans (hb.mono hs2)).mono hs1))
      have HROWG := Lib.hid (sl_own (HROW2.out.kept (grown_of_below (row := none) hb) (none_or _)))
      have HHG := Lib.hid (HH.out.below HBG.out)
      clear hb hk hlt
      go_wp2
      go_loopw [1, 10] (fun vh r wr => ∃ (k : Nat) (AX : Option Addr) (mx cx : Nat) (hx : List Int), k ≤ 2 ∧ r = .int .i64 k ∧ vh = .slice AX mx cx ∧ Sl wr iv AX mx hx ∧ mx ≤ 5000 ∧ Below wg.heap.size wg wr) (fun _ r _ => 2 - (intOf r).toNat)
      case atStart => exact ⟨0, AH, m, ch, hs, by omega, rfl, rfl, HHG.out, by omega, Below.refl _ _⟩
      case round => as_aux_lemma =>
        obtain ⟨k, AX, mx, cx, hx, hk, rfl, rfl, hsl, hmx, hb⟩ := hrel
        have HBR := Lib.hid hb
        have HBWR : Hid (Below w.heap.size w wr) := Lib.hid (HBG.out.trans (hb.mono HBG.out.size))
        have HSLX := Lib.hid hsl
        have HSLB := Lib.hid (HROWG.out.below hb)
        have HMXL := Lib.hid hmx
        clear hsl hb
        obtain ⟨wo, rfl⟩ : ∃ wo : World, wo = wr := ⟨_, rfl⟩
        obtain rfl | rfl | rfl : k = 0 ∨ k = 1 ∨ k = 2 := by omega
        · skip
          have hmv := HMV.out wo HBWR.out AX mx cx hx HSLX.out HMXL.out
          have HMR2 : Hid (∀ W, Below wo.heap.size wo W → Calls Try.prog 21 #[.slice A n c, .slice AX mx cx] W (MvC W (E hx) (O hx))) := Lib.hid (fun W hW => HMR.out W (HBWR.out.trans (hW.mono HBWR.out.size)) AX mx cx hx (HSLX.out.below hW) HMXL.out)
          have hyl := hO hx
          generalize E hx = e1 at *
          generalize O hx = ys at *
          have hee : (e1 != e1) = false := bne_self_eq_false e1
          have hll : ((ys.length : Int) != (ys.length : Int)) = false := bne_self_eq_false _
          go_wp2_with (first
            | (go_at_call 20
               refine hmv.mono ?_
               rintro e w3 ⟨v, rfl, hrow3, hb3⟩
               clear hmv
               obtain ⟨A3, c3, rfl, _, _, _⟩ := own_slice hrow3
               have hmr3 := HMR2.out w3 hb3
               have HROW3 := Lib.hid hrow3
               have HB3 := Lib.hid hb3
               clear hrow3 hb3)
            | (go_at_call 21
               refine hmr3.mono ?_
               rintro e w4 ⟨v, rfl, hrow4, hb4⟩
               clear hmr3
               obtain ⟨A4, c4, rfl, _, _, _⟩ := own_slice hrow4
               have HROW4 := Lib.hid hrow4
               have HB4 := Lib.hid hb4
               clear hrow4 hb4))
          go_loopw [15] (fun i wr => ∃ q : Nat, q ≤ ys.length ∧ i = .int .i64 q ∧ Below w4.heap.size w4 wr) (fun i _ => ys.length - (intOf i).toNat)
          case atStart => exact ⟨0, by omega, rfl, Below.refl _ _⟩
          case round => as_aux_lemma =>
            obtain ⟨q, hq, rfl, hb⟩ := hrel
            by_cases hlt3 : q < ys.length
            · obtain ⟨y, hy⟩ := get_some hlt3
              have r3 := HROW3.out.kept (grown_of_below (row := none) (HB4.out.trans (hb.mono HB4.out.size))) (none_or _)
              have r4 := HROW4.out.kept (grown_of_below (row := none) hb) (none_or _)
              obtain ⟨g3, rfl, hg3, hc3⟩ := row_cells' r3 (by omega)
              obtain ⟨g4, rfl, hg4, hc4⟩ := row_cells' r4 (by omega)
              have hc3 := fun (i : Nat) (u : Value) (hu : (accL y)[i]? = some u) => hc3 _ _ (flat_at (enc := accL) (k := 7) (fun _ => rfl) hy hu)
              have hc4 := fun (i : Nat) (u : Value) (hu : (accL y)[i]? = some u) => hc4 _ _ (flat_at (enc := accL) (k := 7) (fun _ => rfl) hy hu)
              have a0 := hc3 0 _ rfl
              have a1 := hc3 1 _ rfl
              have a2 := hc3 2 _ rfl
              have a3 := hc3 3 _ rfl
              have a4 := hc3 4 _ rfl
              have a5 := hc3 5 _ rfl
              have a6 := hc3 6 _ rfl
              have b0 := hc4 0 _ rfl
              have b1 := hc4 1 _ rfl
              have b2 := hc4 2 _ rfl
              have b3 := hc4 3 _ rfl
              have b4 := hc4 4 _ rfl
              have b5 := hc4 5 _ rfl
              have b6 := hc4 6 _ rfl
              rw [Nat.add_zero] at a0 b0
              have hq0 : (0 : Int) ≤ (q : Int) := by omega
              have hq1 : (q : Int) < (ys.length : Int) := by omega
              have HBX := Lib.hid hb
              have hneq := fun w => neq_acc y.task y.p0 y.p1 y.p2 y.kind y.frm y.at' w
              clear hc3 hc4 r3 r4 hy hb
              go_wp2
              go_quiet (fail)
              go_wp2
              go_roundw
              case rel => exact ⟨q + 1, by omega, by go_num, below_draw HBX.out _⟩
              case measure => simp [intOf]; omega
            · obtain rfl : q = ys.length := by omega
              have HBX : Hid (Below wg.heap.size wg wr) := Lib.hid (HBR.out.trans ((HB3.out.trans ((HB4.out.trans (hb.mono HB4.out.size)).mono HB3.out.size)).mono HBR.out.size))
              have HBL := Lib.hid hb
              clear hb
              go_wp2
              go_roundw
              case rel => exact ⟨1, AX, mx, cx, hx, by omega, rfl, rfl, HSLX.out.below (HB3.out.trans ((HB4.out.trans (HBL.out.mono HB4.out.size)).mono HB3.out.size)), HMXL.out, HBX.out⟩
              case measure => simp [intOf]
        · skip
          have hmv := HMV.out wo HBWR.out A2 out.length c2 out HSLB.out hout
          have HMR2 : Hid (∀ W, Below wo.heap.size wo W → Calls Try.prog 21 #[.slice A n c, .slice A2 out.length c2] W (MvC W (E out) (O out))) := Lib.hid (fun W hW => HMR.out W (HBWR.out.trans (hW.mono HBWR.out.size)) A2 out.length c2 out (HSLB.out.below hW) hout)
          have hyl := hO out
          generalize E out = e1 at *
          generalize O out = ys at *
          have hee : (e1 != e1) = false := bne_self_eq_false e1
          have hll : ((ys.length : Int) != (ys.length : Int)) = false := bne_self_eq_false _
          go_wp2_with (first
            | (go_at_call 20
               refine hmv.mono ?_
               rintro e w3 ⟨v, rfl, hrow3, hb3⟩
               clear hmv
               obtain ⟨A3, c3, rfl, _, _, _⟩ := own_slice hrow3
               have hmr3 := HMR2.out w3 hb3
               have HROW3 := Lib.hid hrow3
               have HB3 := Lib.hid hb3
               clear hrow3 hb3)
            | (go_at_call 21
               refine hmr3.mono ?_
               rintro e w4 ⟨v, rfl, hrow4, hb4⟩
               clear hmr3
               obtain ⟨A4, c4, rfl, _, _, _⟩ := own_slice hrow4
               have HROW4 := Lib.hid hrow4
               have HB4 := Lib.hid hb4
               clear hrow4 hb4))
          go_loopw [15] (fun i wr => ∃ q : Nat, q ≤ ys.length ∧ i = .int .i64 q ∧ Below w4.heap.size w4 wr) (fun i _ => ys.length - (intOf i).toNat)
          case atStart => exact ⟨0, by omega, rfl, Below.refl _ _⟩
          case round => as_aux_lemma =>
            obtain ⟨q, hq, rfl, hb⟩ := hrel
            by_cases hlt3 : q < ys.length
            · obtain ⟨y, hy⟩ := get_some hlt3
              have r3 := HROW3.out.kept (grown_of_below (row := none) (HB4.out.trans (hb.mono HB4.out.size))) (none_or _)
              have r4 := HROW4.out.kept (grown_of_below (row := none) hb) (none_or _)
              obtain ⟨g3, rfl, hg3, hc3⟩ := row_cells' r3 (by omega)
              obtain ⟨g4, rfl, hg4, hc4⟩ := row_cells' r4 (by omega)
              have hc3 := fun (i : Nat) (u : Value) (hu : (accL y)[i]? = some u) => hc3 _ _ (flat_at (enc := accL) (k := 7) (fun _ => rfl) hy hu)
              have hc4 := fun (i : Nat) (u : Value) (hu : (accL y)[i]? = some u) => hc4 _ _ (flat_at (enc := accL) (k := 7) (fun _ => rfl) hy hu)
              have a0 := hc3 0 _ rfl
              have a1 := hc3 1 _ rfl
              have a2 := hc3 2 _ rfl
              have a3 := hc3 3 _ rfl
              have a4 := hc3 4 _ rfl
              have a5 := hc3 5 _ rfl
              have a6 := hc3 6 _ rfl
              have b0 := hc4 0 _ rfl
              have b1 := hc4 1 _ rfl
              have b2 := hc4 2 _ rfl
              have b3 := hc4 3 _ rfl
              have b4 := hc4 4 _ rfl
              have b5 := hc4 5 _ rfl
              have b6 := hc4 6 _ rfl
              rw [Nat.add_zero] at a0 b0
              have hq0 : (0 : Int) ≤ (q : Int) := by omega
              have hq1 : (q : Int) < (ys.length : Int) := by omega
              have HBX := Lib.hid hb
              have hneq := fun w => neq_acc y.task y.p0 y.p1 y.p2 y.kind y.frm y.at' w
              clear hc3 hc4 r3 r4 hy hb
              go_wp2
              go_quiet (fail)
              go_wp2
              go_roundw
              case rel => exact ⟨q + 1, by omega, by go_num, below_draw HBX.out _⟩
              case measure => simp [intOf]; omega
            · obtain rfl : q = ys.length := by omega
              have HBX : Hid (Below wg.heap.size wg wr) := Lib.hid (HBR.out.trans ((HB3.out.trans ((HB4.out.trans (hb.mono HB4.out.size)).mono HB3.out.size)).mono HBR.out.size))
              have HBL := Lib.hid hb
              clear hb
              go_wp2
              go_roundw
              case rel => exact ⟨2, A2, out.length, c2, out, by omega, rfl, rfl, HROWG.out.below HBX.out, hout, HBX.out⟩
              case measure => simp [intOf]
        · go_wp2_with (go_at_call 9; refine (awake_any _).mono ?_; rintro e w6 ⟨rfl, hb6⟩)
          go_ret
          exact ⟨rfl, HBWR.out.trans (hb6.mono HBWR.out.size)⟩
end Go.Proofs.Ytghjhlenkgkelaa
