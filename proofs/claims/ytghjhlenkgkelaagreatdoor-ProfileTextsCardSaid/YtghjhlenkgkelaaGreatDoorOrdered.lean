/- DERIVED. 'ordered': the values of a map in the order of its keys. -/
import Derived.Test.YtghjhlenkgkelaaGreatDoorMK
set_option linter.unusedSimpArgs false
set_option linter.unusedVariables false
namespace Go.Proofs.YtghjhlenkgkelaaGreatDoor
open Go.RowKit Go.Sort Go.Shelf
/-- an edge -/
structure Edg where
  frm : Int
  at' : Int
  acc : Int
  msg : Int
  deriving DecidableEq, Inhabited
def encE (x : Edg) : Value := .agg #[.int .i64 x.frm, .int .i64 x.at', .int .i64 x.acc, .int .i64 x.msg]
def encEL (x : Edg) : List Value := [.int .i64 x.frm, .int .i64 x.at', .int .i64 x.acc, .int .i64 x.msg]
/-- a spot -/
structure Spt where
  place : K3
  reads : Int
  writes : Int
  other : Int
  remote : Int
  deriving DecidableEq, Inhabited
def encS (x : Spt) : Value := .agg #[.int .i64 x.place.a, .int .i64 x.place.b, .int .i64 x.place.c, .int .i64 x.reads, .int .i64 x.writes, .int .i64 x.other, .int .i64 x.remote]
def encSL (x : Spt) : List Value := [.int .i64 x.place.a, .int .i64 x.place.b, .int .i64 x.place.c, .int .i64 x.reads, .int .i64 x.writes, .int .i64 x.other, .int .i64 x.remote]
theorem e2_appendC {ν : Type} {encV : ν → Value} (Bm b : Nat) (R : List (K2 × ν)) (w : World) (hBm : Bm < w.heap.size) (hm : w.cell? ⟨Bm, 0, none⟩ = some (.map (some b))) (hown : MapOf enc2 encV w b R) (hR : R.length ≤ 1000000) :
    Calls Tryz.prog 62 #[.slice none 0 0, .func (.func 47) #[] #[.pointer (some ⟨Bm, 0, none⟩)]] w fun e w' => ∃ (v : Value) (ss : List K2), e = .returned v ∧ ss.Perm (R.map (·.1)) ∧ w'.ownsRow w.heap.size 55 2 v ss.length (ss.flatMap encL2) ∧ (v = .slice none 0 0 ↔ ss = []) ∧ Below w.heap.size w w' :=
  (callsIn_wide (n := 6)).1 (e2_append Fence.wide 6 trivial rfl (by omega) 47 _ trivial (enters_of Tryz.func47 (by kernel_rfl) rfl) _ _ R.length (by unfold maxLen; omega) (by omega) w
    (e2_stops Fence.wide 5 trivial rfl (by omega) Bm b R w hBm hm hown))
theorem e2_collect {ν : Type} {encV : ν → Value} (Bm b : Nat) (R : List (K2 × ν)) (w : World) (hBm : Bm < w.heap.size) (hm : w.cell? ⟨Bm, 0, none⟩ = some (.map (some b))) (hown : MapOf enc2 encV w b R) (hR : R.length ≤ 1000000) :
    Calls Tryz.prog 45 #[.func (.func 47) #[] #[.pointer (some ⟨Bm, 0, none⟩)]] w fun e w' => ∃ (v : Value) (ss : List K2), e = .returned v ∧ ss.Perm (R.map (·.1)) ∧ w'.ownsRow w.heap.size 55 2 v ss.length (ss.flatMap encL2) ∧ (v = .slice none 0 0 ↔ ss = []) ∧ Below w.heap.size w w' := by
  have H := e2_appendC Bm b R w hBm hm hown hR
  clear hm hown
  go_enter Tryz.func45, Tryz.ntmps45
  go_wp2_with (go_at_call 62; refine H.mono ?_; rintro e w' ⟨v, ss, rfl, hS, hrow, hnil, hb⟩)
  go_ret
  exact ⟨v, ss, rfl, hS, hrow, hnil, hb⟩
theorem e2_sorted {ν : Type} {encV : ν → Value} (Bm b : Nat) (R : List (K2 × ν)) (w : World) (hBm : Bm < w.heap.size) (hm : w.cell? ⟨Bm, 0, none⟩ = some (.map (some b))) (hown : MapOf enc2 encV w b R) (hR : R.length ≤ 1000000) :
    Calls Tryz.prog 31 #[.func (.func 47) #[] #[.pointer (some ⟨Bm, 0, none⟩)], .func (.func 14) #[] #[]] w fun e w' => ∃ (v : Value) (ss : List K2), e = .returned v ∧ ss.Perm (R.map (·.1)) ∧ ss.Pairwise (fun x y => ¬ lt2 y x) ∧ w'.ownsRow w.heap.size 55 2 v ss.length (ss.flatMap encL2) ∧ Below w.heap.size w w' := by
  have H := e2_collect Bm b R w hBm hm hown hR
  clear hm hown
  go_enter Tryz.func31, Tryz.ntmps31
  go_wp2_with fail
  refine H.mono ?_
  rintro e w1 ⟨v, ss, rfl, hS, hrow, hnil, hb⟩
  clear H
  by_cases h0 : ss = []
  · obtain rfl := hnil.2 h0
    subst h0
    go_wp2_with (go_at_call 46; refine (e2_sortNone _ _).mono ?_; rintro e w' ⟨rfl, rfl⟩)
    go_ret
    exact ⟨_, [], rfl, hS, List.Pairwise.nil, hrow, hb⟩
  · obtain ⟨g, cap, hv, hgb, _⟩ := hrow.form (List.length_pos_iff.2 h0)
    have H2 := e2_sort g ss.length cap ss w1 w.heap.size rfl (by simpa using h0) (by have := hS.length_eq; simp at this; omega) (hv ▸ hrow)
    subst hv
    clear hrow
    go_wp2_with (go_at_call 46; refine H2.mono ?_; rintro e w2 ⟨rfl, ts, hp, hpw, hrow2, hg2⟩)
    go_ret
    have hl := hp.length_eq
    exact ⟨_, ts, rfl, hp.trans hS, hpw, by rw [hl]; exact hrow2, hb.grown hg2 hb.size (fun j e => by cases e; exact hgb)⟩

theorem e2_vinfo : (Tryz.prog.info? 52).map (fun i => (i.zero, i.size, i.bytes)) = some (some (encE ⟨0, 0, 0, 0⟩), 4, 32) := by kernel_rfl
set_option maxRecDepth 100000 in
set_option maxHeartbeats 1000000 in
theorem e2_ordered (b : Nat) (R : List (K2 × Edg)) (w : World) (hown : MapOf enc2 encE w b R) (hR : R.length ≤ 1000000) :
    Calls Tryz.prog 13 #[.map (some b), .func (.func 14) #[] #[]] w fun e w' => ∃ (v : Value) (ss : List K2), e = .returned v ∧ ss.Perm (R.map (·.1)) ∧ ss.Pairwise (fun x y => ¬ lt2 y x) ∧
      w'.ownsRow w.heap.size 52 4 v ss.length ((ss.map (fun x => (look R x).getD ⟨0, 0, 0, 0⟩)).flatMap encEL) ∧ Below w.heap.size w w' := by
  have hbw := hown.lt
  obtain ⟨i0, hi, hz0, hz1, hz2⟩ := info_parts e2_vinfo
  have hm : (w.alloc (.cells #[.map (some b)] 54)).cell? ⟨w.heap.size, 0, none⟩ = some (.map (some b)) := (BlkAt.new w 54 #[.map (some b)]).cell 0
  have H := e2_sorted w.heap.size b R (w.alloc (.cells #[.map (some b)] 54)) (by simp) hm (hown.alloc _) hR
  clear hm
  go_enter Tryz.func13, Tryz.ntmps13
  go_wp2_with (first
    | (go_at_call 32; refine ((callsIn_wide (n := 6)).1 (e2_keys Fence.wide 6 trivial rfl _ _)).mono ?_; rintro e w' ⟨rfl, rfl⟩)
    | (go_at_call 31; refine H.mono ?_; rintro e w1 ⟨v, ss, rfl, hS, hpw, hrow, hb⟩; clear H; obtain ⟨A, c, rfl, hnc, hcm, hA⟩ := own_slice hrow))
  have hmap : MapOf enc2 encE w1 b R := (hown.alloc _).below hb (by simp; omega)
  have hb0 : Below w.heap.size w w1 := ((Below.refl _ w).alloc (Nat.le_refl _) _).trans (hb.mono (by simp))
  have hlen := hS.length_eq
  simp at hlen
  have hlen' : ss.length ≤ 1000000 := by omega
  clear hlen hR
  have HS := Lib.hid (And.intro hS hpw)
  clear hown hb hS hpw hrow
  go_loopw [5, 13] (fun v i wr => ∃ k : Nat, k ≤ ss.length ∧ i = .int .i64 k ∧ wr.ownsRow w1.heap.size 52 4 v k (((ss.take k).map (fun x => (look R x).getD ⟨0, 0, 0, 0⟩)).flatMap encEL) ∧ Below w1.heap.size w1 wr) (fun _ i _ => ss.length - (intOf i).toNat)
  case atStart => exact ⟨0, by omega, rfl, World.ownsRow_nil _ _ _ _, Below.refl _ _⟩
  case round =>
    obtain ⟨k, hk, rfl, hrow, hbw⟩ := hrel
    by_cases hlt : k < ss.length
    · obtain ⟨x, hx⟩ := get_some hlt
      obtain ⟨g, rfl, hgb, hgl, hcell⟩ := hA (by omega)
      have hc := fun (j : Nat) (u : Value) (hu : (encL2 x)[j]? = some u) => (hbw.cell (p := ⟨g, k * 2 + j, none⟩) hgl).trans (hcell _ _ (flat_at (enc := encL2) (k := 2) (fun _ => rfl) hx hu))
      have hc0 := hc 0 _ rfl; have hc1 := hc 1 _ rfl
      rw [Nat.add_zero] at hc0
      have hm := hmap.below hbw hmap.lt
      have hz : ∀ w, (zeroValue 52).run Tryz.prog w = .ok (encE ⟨0, 0, 0, 0⟩) w := fun _ => by kernel_rfl
      have hts : ((ss.take (k+1)).map (fun x => (look R x).getD ⟨0, 0, 0, 0⟩)).flatMap encEL = ((ss.take k).map (fun x => (look R x).getD ⟨0, 0, 0, 0⟩)).flatMap encEL ++ encEL ((look R x).getD ⟨0, 0, 0, 0⟩) := by rw [take_snoc hx]; simp
      have HTS := Lib.hid hts
      clear hts hc hcell hx
      unfold enc2 at *
      go_wp2_with (first
        | (at_lookup; refine wpList_lookup_of _ rfl _ _ 54 rfl 52 mkey2 Tryz.underlying54 ⟨0, 0, 0, 0⟩ (hz _) b R rfl (hm.alloc _) x rfl ?_; generalize (look R x).getD ⟨0, 0, 0, 0⟩ = y at *; unfold encE)
        | (at_builtin; refine wpList_append_own _ rfl _ _ 28 rfl w1.heap.size 52 i0 (encE ⟨0, 0, 0, 0⟩) 4 32 Tryz.underlying28 hi hz0 hz1 hz2 rfl (by decide) _ _ _ rfl ((hrow.alloc _).alloc _) ⟨wr.heap.size + 1, 0, none⟩ 1 1 (encEL y) rfl rfl (cells_new' (wr.alloc _) (encEL y) _ _ (by simp)) (by simp [Value.oneCell', encEL]) (by unfold maxLen; omega) (by omega) (by have := hbw.size; simp; omega) ?_; intro v' w2 hown' hgrow _))
      go_roundw
      case rel =>
        refine ⟨k + 1, by omega, by go_num, by rw [HTS.out]; exact hown', ?_⟩
        exact (((hbw.alloc hbw.size _).alloc (by have := hbw.size; simp; omega) _).grown hgrow (by have := hbw.size; simp; omega) (fun j e => (hrow.lt j e).1))
      case measure => simp [intOf]; omega
    · obtain rfl : k = ss.length := by omega
      go_wp2
      go_ret
      rw [List.take_length] at hrow
      exact ⟨_, ss, rfl, HS.out.1, HS.out.2, own_base hrow hb0.size, hb0.trans (hbw.mono hb0.size)⟩

theorem s3_appendC {ν : Type} {encV : ν → Value} (Bm b : Nat) (R : List (K3 × ν)) (w : World) (hBm : Bm < w.heap.size) (hm : w.cell? ⟨Bm, 0, none⟩ = some (.map (some b))) (hown : MapOf enc3 encV w b R) (hR : R.length ≤ 1000000) :
    Calls Tryz.prog 90 #[.slice none 0 0, .func (.func 73) #[] #[.pointer (some ⟨Bm, 0, none⟩)]] w fun e w' => ∃ (v : Value) (ss : List K3), e = .returned v ∧ ss.Perm (R.map (·.1)) ∧ w'.ownsRow w.heap.size 43 3 v ss.length (ss.flatMap encL3) ∧ (v = .slice none 0 0 ↔ ss = []) ∧ Below w.heap.size w w' :=
  (callsIn_wide (n := 6)).1 (e3_append Fence.wide 6 trivial rfl (by omega) 73 _ trivial (enters_of Tryz.func73 (by kernel_rfl) rfl) _ _ R.length (by unfold maxLen; omega) (by omega) w
    (s3_stops Fence.wide 5 trivial rfl (by omega) Bm b R w hBm hm hown))
theorem s3_collect {ν : Type} {encV : ν → Value} (Bm b : Nat) (R : List (K3 × ν)) (w : World) (hBm : Bm < w.heap.size) (hm : w.cell? ⟨Bm, 0, none⟩ = some (.map (some b))) (hown : MapOf enc3 encV w b R) (hR : R.length ≤ 1000000) :
    Calls Tryz.prog 71 #[.func (.func 73) #[] #[.pointer (some ⟨Bm, 0, none⟩)]] w fun e w' => ∃ (v : Value) (ss : List K3), e = .returned v ∧ ss.Perm (R.map (·.1)) ∧ w'.ownsRow w.heap.size 43 3 v ss.length (ss.flatMap encL3) ∧ (v = .slice none 0 0 ↔ ss = []) ∧ Below w.heap.size w w' := by
  have H := s3_appendC Bm b R w hBm hm hown hR
  clear hm hown
  go_enter Tryz.func71, Tryz.ntmps71
  go_wp2_with (go_at_call 90; refine H.mono ?_; rintro e w' ⟨v, ss, rfl, hS, hrow, hnil, hb⟩)
  go_ret
  exact ⟨v, ss, rfl, hS, hrow, hnil, hb⟩
theorem s3_sorted {ν : Type} {encV : ν → Value} (Bm b : Nat) (R : List (K3 × ν)) (w : World) (hBm : Bm < w.heap.size) (hm : w.cell? ⟨Bm, 0, none⟩ = some (.map (some b))) (hown : MapOf enc3 encV w b R) (hR : R.length ≤ 1000000) :
    Calls Tryz.prog 59 #[.func (.func 73) #[] #[.pointer (some ⟨Bm, 0, none⟩)], .func (.func 42) #[] #[]] w fun e w' => ∃ (v : Value) (ss : List K3), e = .returned v ∧ ss.Perm (R.map (·.1)) ∧ ss.Pairwise (fun x y => ¬ lt3 y x) ∧ w'.ownsRow w.heap.size 43 3 v ss.length (ss.flatMap encL3) ∧ Below w.heap.size w w' := by
  have H := s3_collect Bm b R w hBm hm hown hR
  clear hm hown
  go_enter Tryz.func59, Tryz.ntmps59
  go_wp2_with fail
  refine H.mono ?_
  rintro e w1 ⟨v, ss, rfl, hS, hrow, hnil, hb⟩
  clear H
  by_cases h0 : ss = []
  · obtain rfl := hnil.2 h0
    subst h0
    go_wp2_with (go_at_call 72; refine (e3_sortNone _ _).mono ?_; rintro e w' ⟨rfl, rfl⟩)
    go_ret
    exact ⟨_, [], rfl, hS, List.Pairwise.nil, hrow, hb⟩
  · obtain ⟨g, cap, hv, hgb, _⟩ := hrow.form (List.length_pos_iff.2 h0)
    have H2 := e3_sort g ss.length cap ss w1 w.heap.size rfl (by simpa using h0) (by have := hS.length_eq; simp at this; omega) (hv ▸ hrow)
    subst hv
    clear hrow
    go_wp2_with (go_at_call 72; refine H2.mono ?_; rintro e w2 ⟨rfl, ts, hp, hpw, hrow2, hg2⟩)
    go_ret
    have hl := hp.length_eq
    exact ⟨_, ts, rfl, hp.trans hS, hpw, by rw [hl]; exact hrow2, hb.grown hg2 hb.size (fun j e => by cases e; exact hgb)⟩

theorem s3_vinfo : (Tryz.prog.info? 63).map (fun i => (i.zero, i.size, i.bytes)) = some (some (encS ⟨⟨0, 0, 0⟩, 0, 0, 0, 0⟩), 7, 56) := by kernel_rfl
set_option maxRecDepth 100000 in
set_option maxHeartbeats 1000000 in
theorem s3_ordered (b : Nat) (R : List (K3 × Spt)) (w : World) (hown : MapOf enc3 encS w b R) (hR : R.length ≤ 1000000) :
    Calls Tryz.prog 41 #[.map (some b), .func (.func 42) #[] #[]] w fun e w' => ∃ (v : Value) (ss : List K3), e = .returned v ∧ ss.Perm (R.map (·.1)) ∧ ss.Pairwise (fun x y => ¬ lt3 y x) ∧
      w'.ownsRow w.heap.size 63 7 v ss.length ((ss.map (fun x => (look R x).getD ⟨⟨0, 0, 0⟩, 0, 0, 0, 0⟩)).flatMap encSL) ∧ Below w.heap.size w w' := by
  have hbw := hown.lt
  obtain ⟨i0, hi, hz0, hz1, hz2⟩ := info_parts s3_vinfo
  have hm : (w.alloc (.cells #[.map (some b)] 110)).cell? ⟨w.heap.size, 0, none⟩ = some (.map (some b)) := (BlkAt.new w 110 #[.map (some b)]).cell 0
  have H := s3_sorted w.heap.size b R (w.alloc (.cells #[.map (some b)] 110)) (by simp) hm (hown.alloc _) hR
  clear hm
  go_enter Tryz.func41, Tryz.ntmps41
  go_wp2_with (first
    | (go_at_call 60; refine ((callsIn_wide (n := 6)).1 (s3_keys Fence.wide 6 trivial rfl _ _)).mono ?_; rintro e w' ⟨rfl, rfl⟩)
    | (go_at_call 59; refine H.mono ?_; rintro e w1 ⟨v, ss, rfl, hS, hpw, hrow, hb⟩; clear H; obtain ⟨A, c, rfl, hnc, hcm, hA⟩ := own_slice hrow))
  have hmap : MapOf enc3 encS w1 b R := (hown.alloc _).below hb (by simp; omega)
  have hb0 : Below w.heap.size w w1 := ((Below.refl _ w).alloc (Nat.le_refl _) _).trans (hb.mono (by simp))
  have hlen := hS.length_eq
  simp at hlen
  have hlen' : ss.length ≤ 1000000 := by omega
  clear hlen hR
  have HS := Lib.hid (And.intro hS hpw)
  clear hown hb hS hpw hrow
  go_loopw [5, 13] (fun v i wr => ∃ k : Nat, k ≤ ss.length ∧ i = .int .i64 k ∧ wr.ownsRow w1.heap.size 63 7 v k (((ss.take k).map (fun x => (look R x).getD ⟨⟨0, 0, 0⟩, 0, 0, 0, 0⟩)).flatMap encSL) ∧ Below w1.heap.size w1 wr) (fun _ i _ => ss.length - (intOf i).toNat)
  case atStart => exact ⟨0, by omega, rfl, World.ownsRow_nil _ _ _ _, Below.refl _ _⟩
  case round =>
    obtain ⟨k, hk, rfl, hrow, hbw⟩ := hrel
    by_cases hlt : k < ss.length
    · obtain ⟨x, hx⟩ := get_some hlt
      obtain ⟨g, rfl, hgb, hgl, hcell⟩ := hA (by omega)
      have hc := fun (j : Nat) (u : Value) (hu : (encL3 x)[j]? = some u) => (hbw.cell (p := ⟨g, k * 3 + j, none⟩) hgl).trans (hcell _ _ (flat_at (enc := encL3) (k := 3) (fun _ => rfl) hx hu))
      have hc0 := hc 0 _ rfl; have hc1 := hc 1 _ rfl; have hc2 := hc 2 _ rfl
      rw [Nat.add_zero] at hc0
      have hm := hmap.below hbw hmap.lt
      have hz : ∀ w, (zeroValue 63).run Tryz.prog w = .ok (encS ⟨⟨0, 0, 0⟩, 0, 0, 0, 0⟩) w := fun _ => by kernel_rfl
      have hts : ((ss.take (k+1)).map (fun x => (look R x).getD ⟨⟨0, 0, 0⟩, 0, 0, 0, 0⟩)).flatMap encSL = ((ss.take k).map (fun x => (look R x).getD ⟨⟨0, 0, 0⟩, 0, 0, 0, 0⟩)).flatMap encSL ++ encSL ((look R x).getD ⟨⟨0, 0, 0⟩, 0, 0, 0, 0⟩) := by rw [take_snoc hx]; simp
      have HTS := Lib.hid hts
      clear hts hc hcell hx
      unfold enc3 at *
      go_wp2_with (first
        | (at_lookup; refine wpList_lookup_of _ rfl _ _ 110 rfl 63 mkey3 Tryz.underlying110 ⟨⟨0, 0, 0⟩, 0, 0, 0, 0⟩ (hz _) b R rfl (hm.alloc _) x rfl ?_; generalize (look R x).getD ⟨⟨0, 0, 0⟩, 0, 0, 0, 0⟩ = y at *; unfold encS)
        | (at_builtin; refine wpList_append_own _ rfl _ _ 32 rfl w1.heap.size 63 i0 (encS ⟨⟨0, 0, 0⟩, 0, 0, 0, 0⟩) 7 56 Tryz.underlying32 hi hz0 hz1 hz2 rfl (by decide) _ _ _ rfl ((hrow.alloc _).alloc _) ⟨wr.heap.size + 1, 0, none⟩ 1 1 (encSL y) rfl rfl (cells_new' (wr.alloc _) (encSL y) _ _ (by simp)) (by simp [Value.oneCell', encSL]) (by unfold maxLen; omega) (by omega) (by have := hbw.size; simp; omega) ?_; intro v' w2 hown' hgrow _))
      go_roundw
      case rel =>
        refine ⟨k + 1, by omega, by go_num, by rw [HTS.out]; exact hown', ?_⟩
        exact (((hbw.alloc hbw.size _).alloc (by have := hbw.size; simp; omega) _).grown hgrow (by have := hbw.size; simp; omega) (fun j e => (hrow.lt j e).1))
      case measure => simp [intOf]; omega
    · obtain rfl : k = ss.length := by omega
      go_wp2
      go_ret
      rw [List.take_length] at hrow
      exact ⟨_, ss, rfl, HS.out.1, HS.out.2, own_base hrow hb0.size, hb0.trans (hbw.mono hb0.size)⟩

end Go.Proofs.YtghjhlenkgkelaaGreatDoor
