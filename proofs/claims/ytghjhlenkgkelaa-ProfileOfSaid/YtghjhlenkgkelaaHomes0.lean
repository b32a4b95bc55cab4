/- DERIVED. The map of places to counters. -/
import Derived.Test.YtghjhlenkgkelaaSpots
set_option linter.unusedSimpArgs false
set_option linter.unusedVariables false
namespace Go.Proofs.Ytghjhlenkgkelaa
open Go.RowKit Go.Shelf Go.Sort
attribute [local go_sem] Oper.semAt_some
/-- eight counters -/
structure K8 where
  c0 : Int
  c1 : Int
  c2 : Int
  c3 : Int
  c4 : Int
  c5 : Int
  c6 : Int
  c7 : Int
  deriving DecidableEq, Inhabited
def encH (x : K8) : Value := .agg #[.int .i64 x.c0, .int .i64 x.c1, .int .i64 x.c2, .int .i64 x.c3, .int .i64 x.c4, .int .i64 x.c5, .int .i64 x.c6, .int .i64 x.c7]
def encHL (x : K8) : List Value := [.int .i64 x.c0, .int .i64 x.c1, .int .i64 x.c2, .int .i64 x.c3, .int .i64 x.c4, .int .i64 x.c5, .int .i64 x.c6, .int .i64 x.c7]
def k80 : K8 := ⟨0, 0, 0, 0, 0, 0, 0, 0⟩
set_option maxRecDepth 100000 in
set_option maxHeartbeats 1000000 in
/-- maps.Keys's iterator: the keys come, each once, in some order; a round may stop it. -/
theorem h8_keys1 {ν : Type} {encV : ν → Value} (F : Fence) (n : Nat) (h10 : F.fn 70) (hro : F.round = none) (hn : 1 ≤ n) (l Bm b : Nat) (R : List (K3 × ν)) (J Jx : List K3 → World → Prop)
    (hY : ∀ pre x W, J pre W → pre.length < R.length → YieldAt F (n - 1) Try.prog l #[enc3 x] W fun e W' => (e = .returned (.bool true) ∧ J (pre ++ [x]) W' ∧ KeepsWalks W W') ∨ (e = .returned (.bool false) ∧ Jx (pre ++ [x]) W'))
    (W : World) (hJ : AbidesFrom W.heap.size J) (hm : W.cell? ⟨Bm, 0, none⟩ = some (.map (some b))) (hown : MapOf enc3 encV W b R) (h0 : J [] W) :
    CallsIn F n Try.prog 70 #[.func (.yield l) #[] #[], .pointer (some ⟨Bm, 0, none⟩)] W fun e W' => (∃ v, e = .returned v) ∧ ((∃ ss : List K3, ss.Perm (R.map (·.1)) ∧ J ss W') ∨ (∃ pre, True ∧ Jx pre W')) := by
  refine callsIn_of_wp Try.func70 rfl h10 ?_ hro
  simp only [Try.ntmps70, List.size_toArray, List.length_cons, List.length_nil, Nat.reduceAdd, Nat.reduceSub, Array.replicate_succ, Array.replicate_zero, List.push_toArray, List.append_toArray, List.nil_append, List.cons_append]
  gi_wp2_with (first
    | (gi_at_range; refine wpListIn_range_of (k := 39) _ rfl _ 96 rfl 81 Try.underlying96 b R rfl hown ?_; intro w0 hrg0 hg0 hs0)
    | gi_in)
  go_frame
  gi_loopw [3] (fun _ wr => ∃ (left : List (K3 × ν)) (ss : List K3), IterOf enc3 encV wr W.heap.size b R left ∧ (ss ++ left.map (·.1)).Perm (R.map (·.1)) ∧ J ss wr)
    (fun _ wr => iterLeft b W.heap.size wr)
  case atStart =>
    exact ⟨R, [], hrg0, by simp, hJ [] W w0 none h0 hg0 (fun r e => by cases e)⟩
  case round =>
    obtain ⟨left, ss, hrg, hC, hJs⟩ := hrel
    have hmeas := hrg.left_eq
    gi_wp2_with (first
      | (gi_at_next; refine wpListIn_next_of _ rfl _ rfl W.heap.size b R left rfl hrg ?_ ?_)
      | gi_in)
    · intro hl0
      subst hl0
      gi_wp2
      go_end0
      exact ⟨⟨_, rfl⟩, .inl ⟨ss, by simpa using hC, hJs⟩⟩
    · intro x v left' w2 hp hrg2 hg2 hs2 hen
      have hJ2 : J ss w2 := hJ ss wr w2 (some W.heap.size) hJs hg2 (fun r e => by cases e; exact ⟨Nat.le_refl _, hrg.walk⟩)
      have hJ3 : J ss (w2.alloc (.cells #[.int .i64 x.a, .int .i64 x.b, .int .i64 x.c] 39)) := hJ ss w2 _ none hJ2 (World.grownBy_alloc _ _ _) (fun r e => by cases e)
      have hlen : ss.length < R.length := by
        have h1 := hC.length_eq
        have h2 := hp.length_eq
        simp at h1 h2
        omega
      obtain ⟨fn, tmps, assign, body, hy, hR⟩ := hY ss x _ hJ3 hlen
      have hC' : ((ss ++ [x]) ++ left'.map (·.1)).Perm (R.map (·.1)) := by
        refine List.Perm.trans ?_ hC
        rw [List.append_assoc]
        refine List.Perm.append_left ss ?_
        have := (hp.map (·.1)).symm
        simpa using this
      have hml : left'.length < left.length := by have := hp.length_eq; simp at this; omega
      clear hs2 hC hp hJ2 hJ3
      unfold enc3 at hen hy
      gi_wp2
      refine hR.mono ?_
      rintro e W3 (⟨rfl, hJ3, hk3⟩ | ⟨rfl, hJ3⟩)
      · gi_wp2
        have hrg3 := (hrg2.alloc (.cells #[.int .i64 x.a, .int .i64 x.b, .int .i64 x.c] 39)).of_walks hk3
        go_roundw
        case rel => exact ⟨left', ss ++ [x], hrg3, hC', hJ3⟩
        case measure => rw [hrg3.left_eq, hmeas]; exact hml
      · gi_wp2
        refine bodyPost_ret (results_none rfl _ _ _) rfl ?_
        exact ⟨⟨_, rfl⟩, .inr ⟨ss ++ [x], trivial, hJ3⟩⟩

theorem h8_stops {ν : Type} {encV : ν → Value} (F : Fence) (n : Nat) (h10 : F.fn 70) (hro : F.round = none) (hn : 1 ≤ n) (Bm b : Nat) (R : List (K3 × ν)) (w : World) (hBm : Bm < w.heap.size)
    (hm : w.cell? ⟨Bm, 0, none⟩ = some (.map (some b))) (hown : MapOf enc3 encV w b R) :
    SeqStopsK F n Try.prog 70 #[.pointer (some ⟨Bm, 0, none⟩)] (fun x => #[enc3 x]) KeepsWalks (fun ss => ss.Perm (R.map (·.1))) (fun _ => True) R.length w := fun l J Jx W hW hJ _ hY h0 =>
  h8_keys1 F n h10 hro hn l Bm b R J Jx hY W hJ ((hW.cell (p := ⟨Bm, 0, none⟩) hBm).trans hm) (hown.below hW hown.lt) h0

set_option maxHeartbeats 1000000 in
theorem h8_keys (F : Fence) (n : Nat) (h7 : F.fn 53) (hro : F.round = none) (mb : Option Nat) (w : World) :
    CallsIn F n Try.prog 53 #[.map mb] w fun e w' => e = .returned (.func (.func 70) #[] #[.pointer (some ⟨w.heap.size, 0, none⟩)]) ∧ w' = w.alloc (.cells #[.map mb] 96) := by
  refine callsIn_of_wp Try.func53 rfl h7 ?_ hro
  simp only [Try.ntmps53, List.size_toArray, List.length_cons, List.length_nil, Nat.reduceAdd, Nat.reduceSub, Array.replicate_succ, Array.replicate_zero, List.push_toArray, List.append_toArray, List.nil_append, List.cons_append]
  gi_wp2
  go_ret
  exact ⟨rfl, rfl⟩

theorem h8_appendC {ν : Type} {encV : ν → Value} (Bm b : Nat) (R : List (K3 × ν)) (w : World) (hBm : Bm < w.heap.size) (hm : w.cell? ⟨Bm, 0, none⟩ = some (.map (some b))) (hown : MapOf enc3 encV w b R) (hR : R.length ≤ 1000000) :
    Calls Try.prog 79 #[.slice none 0 0, .func (.func 70) #[] #[.pointer (some ⟨Bm, 0, none⟩)]] w fun e w' => ∃ (v : Value) (ss : List K3), e = .returned v ∧ ss.Perm (R.map (·.1)) ∧ w'.ownsRow w.heap.size 39 3 v ss.length (ss.flatMap encL3) ∧ (v = .slice none 0 0 ↔ ss = []) ∧ Below w.heap.size w w' :=
  (callsIn_wide (n := 6)).1 (e3_append Fence.wide 6 trivial rfl (by omega) 70 _ trivial (enters_of Try.func70 (by kernel_rfl) rfl) _ _ R.length (by unfold maxLen; omega) (by omega) w
    (h8_stops Fence.wide 5 trivial rfl (by omega) Bm b R w hBm hm hown))
theorem h8_collect {ν : Type} {encV : ν → Value} (Bm b : Nat) (R : List (K3 × ν)) (w : World) (hBm : Bm < w.heap.size) (hm : w.cell? ⟨Bm, 0, none⟩ = some (.map (some b))) (hown : MapOf enc3 encV w b R) (hR : R.length ≤ 1000000) :
    Calls Try.prog 68 #[.func (.func 70) #[] #[.pointer (some ⟨Bm, 0, none⟩)]] w fun e w' => ∃ (v : Value) (ss : List K3), e = .returned v ∧ ss.Perm (R.map (·.1)) ∧ w'.ownsRow w.heap.size 39 3 v ss.length (ss.flatMap encL3) ∧ (v = .slice none 0 0 ↔ ss = []) ∧ Below w.heap.size w w' := by
  have H := h8_appendC Bm b R w hBm hm hown hR
  clear hm hown
  go_enter Try.func68, Try.ntmps68
  go_wp2_with (go_at_call 79; refine H.mono ?_; rintro e w' ⟨v, ss, rfl, hS, hrow, hnil, hb⟩)
  go_ret
  exact ⟨v, ss, rfl, hS, hrow, hnil, hb⟩
theorem h8_sorted {ν : Type} {encV : ν → Value} (Bm b : Nat) (R : List (K3 × ν)) (w : World) (hBm : Bm < w.heap.size) (hm : w.cell? ⟨Bm, 0, none⟩ = some (.map (some b))) (hown : MapOf enc3 encV w b R) (hR : R.length ≤ 1000000) :
    Calls Try.prog 52 #[.func (.func 70) #[] #[.pointer (some ⟨Bm, 0, none⟩)], .func (.func 40) #[] #[]] w fun e w' => ∃ (v : Value) (ss : List K3), e = .returned v ∧ ss.Perm (R.map (·.1)) ∧ ss.Pairwise (fun x y => ¬ lt3 y x) ∧ w'.ownsRow w.heap.size 39 3 v ss.length (ss.flatMap encL3) ∧ Below w.heap.size w w' := by
  have H := h8_collect Bm b R w hBm hm hown hR
  clear hm hown
  go_enter Try.func52, Try.ntmps52
  go_wp2_with fail
  refine H.mono ?_
  rintro e w1 ⟨v, ss, rfl, hS, hrow, hnil, hb⟩
  clear H
  by_cases h0 : ss = []
  · obtain rfl := hnil.2 h0
    subst h0
    go_wp2_with (go_at_call 69; refine (e3_sortNone _ _).mono ?_; rintro e w' ⟨rfl, rfl⟩)
    go_ret
    exact ⟨_, [], rfl, hS, List.Pairwise.nil, hrow, hb⟩
  · obtain ⟨g, cap, hv, hgb, _⟩ := hrow.form (List.length_pos_iff.2 h0)
    have H2 := e3_sort g ss.length cap ss w1 w.heap.size rfl (by simpa using h0) (by have := hS.length_eq; simp at this; omega) (hv ▸ hrow)
    subst hv
    clear hrow
    go_wp2_with (go_at_call 69; refine H2.mono ?_; rintro e w2 ⟨rfl, ts, hp, hpw, hrow2, hg2⟩)
    go_ret
    have hl := hp.length_eq
    exact ⟨_, ts, rfl, hp.trans hS, hpw, by rw [hl]; exact hrow2, hb.grown hg2 hb.size (fun j e => by cases e; exact hgb)⟩

theorem h8_vinfo : (Try.prog.info? 81).map (fun i => (i.zero, i.size, i.bytes)) = some (some (encH ⟨0, 0, 0, 0, 0, 0, 0, 0⟩), 8, 64) := by kernel_rfl
set_option maxRecDepth 100000 in
set_option maxHeartbeats 1000000 in
theorem h8_ordered (b : Nat) (R : List (K3 × K8)) (w : World) (hown : MapOf enc3 encH w b R) (hR : R.length ≤ 1000000) :
    Calls Try.prog 39 #[.map (some b), .func (.func 40) #[] #[]] w fun e w' => ∃ (v : Value) (ss : List K3), e = .returned v ∧ ss.Perm (R.map (·.1)) ∧ ss.Pairwise (fun x y => ¬ lt3 y x) ∧
      w'.ownsRow w.heap.size 81 8 v ss.length ((ss.map (fun x => (look R x).getD ⟨0, 0, 0, 0, 0, 0, 0, 0⟩)).flatMap encHL) ∧ Below w.heap.size w w' := by
  have hbw := hown.lt
  obtain ⟨i0, hi, hz0, hz1, hz2⟩ := info_parts h8_vinfo
  have hm : (w.alloc (.cells #[.map (some b)] 96)).cell? ⟨w.heap.size, 0, none⟩ = some (.map (some b)) := (BlkAt.new w 96 #[.map (some b)]).cell 0
  have H := h8_sorted w.heap.size b R (w.alloc (.cells #[.map (some b)] 96)) (by simp) hm (hown.alloc _) hR
  clear hm
  go_enter Try.func39, Try.ntmps39
  go_wp2_with (first
    | (go_at_call 53; refine ((callsIn_wide (n := 6)).1 (h8_keys Fence.wide 6 trivial rfl _ _)).mono ?_; rintro e w' ⟨rfl, rfl⟩)
    | (go_at_call 52; refine H.mono ?_; rintro e w1 ⟨v, ss, rfl, hS, hpw, hrow, hb⟩; clear H; obtain ⟨A, c, rfl, hnc, hcm, hA⟩ := own_slice hrow))
  have hmap : MapOf enc3 encH w1 b R := (hown.alloc _).below hb (by simp; omega)
  have hb0 : Below w.heap.size w w1 := ((Below.refl _ w).alloc (Nat.le_refl _) _).trans (hb.mono (by simp))
  have hlen := hS.length_eq
  simp at hlen
  have hlen' : ss.length ≤ 1000000 := by omega
  clear hlen hR
  have HS := Lib.hid (And.intro hS hpw)
  clear hown hb hS hpw hrow
  go_loopw [5, 13] (fun v i wr => ∃ k : Nat, k ≤ ss.length ∧ i = .int .i64 k ∧ wr.ownsRow w1.heap.size 81 8 v k (((ss.take k).map (fun x => (look R x).getD ⟨0, 0, 0, 0, 0, 0, 0, 0⟩)).flatMap encHL) ∧ Below w1.heap.size w1 wr) (fun _ i _ => ss.length - (intOf i).toNat)
  case atStart => exact ⟨0, by omega, rfl, World.ownsRow_nil _ _ _ _, Below.refl _ _⟩
  case round =>
    obtain ⟨k, hk, rfl, hrow, hbw⟩ := hrel
    by_cases hlt : k < ss.length
    · obtain ⟨x, hx⟩ := get_some hlt
      obtain ⟨g, rfl, hgb, hgl, hcell⟩ := hA (by omega)
      have hc := fun (j : Nat) (u : Value) (hu : (encL3 x)[j]? = some u) => (hbw.cell (p := ⟨g, k * 3 + j, none⟩) hgl).trans (hcell _ _ (flat_at (enc := encL3) (k := 3) (fun _ => rfl) hx hu))
      have hc0 := hc 0 _ rfl; have hc1 := hc 1 _ rfl; have hc2 := hc 2 _ rfl
      rw [Nat.add_zero] at hc0
      have hm := hmap.below hbw hmap.lt
      have hz : ∀ w, (zeroValue 81).run Try.prog w = .ok (encH ⟨0, 0, 0, 0, 0, 0, 0, 0⟩) w := fun _ => by kernel_rfl
      have hts : ((ss.take (k+1)).map (fun x => (look R x).getD ⟨0, 0, 0, 0, 0, 0, 0, 0⟩)).flatMap encHL = ((ss.take k).map (fun x => (look R x).getD ⟨0, 0, 0, 0, 0, 0, 0, 0⟩)).flatMap encHL ++ encHL ((look R x).getD ⟨0, 0, 0, 0, 0, 0, 0, 0⟩) := by rw [take_snoc hx]; simp
      have HTS := Lib.hid hts
      clear hts hc hcell hx
      unfold enc3 at *
      go_wp2_with (first
        | (at_lookup; refine wpList_lookup_of _ rfl _ _ 96 rfl 81 mkey3 Try.underlying96 ⟨0, 0, 0, 0, 0, 0, 0, 0⟩ (hz _) b R rfl (hm.alloc _) x rfl ?_; generalize (look R x).getD ⟨0, 0, 0, 0, 0, 0, 0, 0⟩ = y at *; unfold encH)
        | (at_builtin; refine wpList_append_own _ rfl _ _ 97 rfl w1.heap.size 81 i0 (encH ⟨0, 0, 0, 0, 0, 0, 0, 0⟩) 8 64 Try.underlying97 hi hz0 hz1 hz2 rfl (by decide) _ _ _ rfl ((hrow.alloc _).alloc _) ⟨wr.heap.size + 1, 0, none⟩ 1 1 (encHL y) rfl rfl (cells_new' (wr.alloc _) (encHL y) _ _ (by simp)) (by simp [Value.oneCell', encHL]) (by unfold maxLen; omega) (by omega) (by have := hbw.size; simp; omega) ?_; intro v' w2 hown' hgrow _))
      go_roundw
      case rel =>
        refine ⟨k + 1, by omega, by go_num, by rw [HTS.out]; exact hown', ?_⟩
        exact (((hbw.alloc hbw.size _).alloc (by have := hbw.size; simp; omega) _).grown hgrow (by have := hbw.size; simp; omega) (fun j e => (hrow.lt j e).1))
      case measure => simp [intOf]; omega
    · obtain rfl : k = ss.length := by omega
      go_wp2
      go_ret
      rw [List.take_length] at hrow
      exact ⟨_, ss, rfl, HS.out.1, HS.out.2, own_base hrow hb0.size, hb0.trans (hbw.mono hb0.size)⟩

end Go.Proofs.Ytghjhlenkgkelaa
