/- DERIVED. The program's Compare: the changes of edges from one profile to another one, of any numbers (sums wrap). -/
import Derived.Test.YtghjhlenkgkelaaGreatDoorPAsc
set_option linter.unusedSimpArgs false
set_option linter.unusedVariables false
namespace Go.Proofs.YtghjhlenkgkelaaGreatDoor
open Go.RowKit Go.Shelf Go.Sort

theorem run_store_float' {P : Program} {w : World} {a : Addr} {m : Mode} (k : FloatKind) (b : Nat) : (store a (.float k b) m).run P w = stored P w a (.float k b) m := run_store P w a _ m rfl
attribute [local go_sem] run_store_float'

def negE (x : Edg) : Edg := ⟨x.frm, x.at', wrap64 (-x.acc), wrap64 (-x.msg)⟩
def chgA (R : List (K2 × Edg)) (x : Edg) : List (K2 × Edg) := upd R ⟨x.frm, x.at'⟩ (negE x)
def chgB (R : List (K2 × Edg)) (x : Edg) : List (K2 × Edg) := upd R ⟨x.frm, x.at'⟩ ⟨x.frm, x.at', wrap64 ((edgAt R x.frm x.at').acc + x.acc), wrap64 ((edgAt R x.frm x.at').msg + x.msg)⟩
def chgR (xs ys : List Edg) : List (K2 × Edg) := ys.foldl chgB (xs.foldl chgA [])
theorem chgA_len : ∀ (xs : List Edg) (R : List (K2 × Edg)), (xs.foldl chgA R).length ≤ R.length + xs.length
  | [], _ => by simp
  | x :: xs, R => by
    have := chgA_len xs (chgA R x)
    have h1 : (chgA R x).length ≤ R.length + 1 := upd_length_le _ _ _
    simp only [List.foldl_cons, List.length_cons]; omega
theorem chgB_len : ∀ (xs : List Edg) (R : List (K2 × Edg)), (xs.foldl chgB R).length ≤ R.length + xs.length
  | [], _ => by simp
  | x :: xs, R => by
    have := chgB_len xs (chgB R x)
    have h1 : (chgB R x).length ≤ R.length + 1 := upd_length_le _ _ _
    simp only [List.foldl_cons, List.length_cons]; omega

/-- what Compare holds in memory while it counts -/
structure CmpMem (w wr : World) (b : Nat) (p q : Array Value) (R : List (K2 × Edg)) : Prop where
  box1 : BlkAt wr w.heap.size 34 p
  box2 : BlkAt wr (w.heap.size + 1) 34 q
  map : MapOf enc2 encE wr b R
  lowb : w.heap.size + 2 ≤ b
  below : Below w.heap.size w wr
section
variable {w wr w' : World} {b : Nat} {p q : Array Value} {R R' : List (K2 × Edg)}
theorem CmpMem.after (h : CmpMem w wr b p q R) (hb : Below wr.heap.size wr w') : CmpMem w w' b p q R :=
  ⟨h.box1.kept (grown_of_below (row := none) hb) (by simp), h.box2.kept (grown_of_below (row := none) hb) (by simp), h.map.below hb h.map.lt, h.lowb, h.below.trans (hb.mono h.below.size)⟩
theorem CmpMem.alloc (h : CmpMem w wr b p q R) (o : Obj) : CmpMem w (wr.alloc o) b p q R := h.after ((Below.refl _ _).alloc (Nat.le_refl _) o)
theorem CmpMem.upd (h : CmpMem w wr b p q R) (hm : MapOf enc2 encE w' b R') (hg : wr.grownBy w' (some b)) : CmpMem w w' b p q R' :=
  ⟨h.box1.kept hg (fun e => by have := h.lowb; injection e with e; omega), h.box2.kept hg (fun e => by have := h.lowb; injection e with e; omega), hm, h.lowb, h.below.grown hg h.below.size (fun k e => by have := h.lowb; injection e with e; omega)⟩
end
/-- the changes in order -/
def IsChg (xs ys : List Edg) (out : List Edg) : Prop := ∃ ss : List K2, ss.Perm ((chgR xs ys).map (·.1)) ∧ ss.Pairwise (fun x y => ¬ lt2 y x) ∧ out = (ss.map (fun x => (look (chgR xs ys) x).getD ⟨0, 0, 0, 0⟩)).filter (fun x => !nilE x)
def CmpRes (w : World) (xs ys : List Edg) (e : Ending) (w' : World) : Prop :=
  ∃ out v, IsChg xs ys out ∧ e = .returned (.tuple #[v, .int .i64 0]) ∧ w'.ownsRow w.heap.size 52 4 v out.length (out.flatMap encEL) ∧ Below w.heap.size w w'

set_option maxRecDepth 100000 in
set_option maxHeartbeats 2000000 in
theorem Compare_any (A1 A2 S1 S2 : Option Addr) (n c m d s1 d1 s2 d2 f1 f2 : Nat) (xs ys : List Edg) (w : World) (hn : n ≤ 10000) (hm : m ≤ 10000) (hX : ERow w A1 n xs) (hY : ERow w A2 m ys) (hAX : ascB xs = true) (hAY : ascB ys = true) :
    Calls Tryz.prog 5 #[.agg #[.slice A1 n c, .slice S1 s1 d1, .float .f32 f1], .agg #[.slice A2 m d, .slice S2 s2 d2, .float .f32 f2]] w (CmpRes w xs ys) := by
  have HLX := Lib.hid hX.len
  have HLY := Lib.hid hY.len
  have HX := Lib.hid hX
  have HY := Lib.hid hY
  have hasc1 := fun W hb => pasc_any A1 n c xs W (by omega) (hX.below hb)
  have hasc2 := fun W hb => pasc_any A2 m d ys W (by omega) (hY.below hb)
  rw [hAX] at hasc1
  rw [hAY] at hasc2
  have hmm := @run_makeMap Tryz.prog
  have B0 := (BlkAt.new w 34 #[.slice A1 n c, .slice S1 s1 d1, .float .f32 f1]).alloc (.cells #[.slice A2 m d, .slice S2 s2 d2, .float .f32 f2] 34)
  have B1 := BlkAt.new (w.alloc (.cells #[.slice A1 n c, .slice S1 s1 d1, .float .f32 f1] 34)) 34 #[.slice A2 m d, .slice S2 s2 d2, .float .f32 f2]
  rw [World.size_alloc] at B1
  have hbl0 : Below w.heap.size w ((w.alloc (.cells #[.slice A1 n c, .slice S1 s1 d1, .float .f32 f1] 34)).alloc (.cells #[.slice A2 m d, .slice S2 s2 d2, .float .f32 f2] 34)) := ((Below.refl w.heap.size w).alloc (Nat.le_refl _) _).alloc (by simp) _
  have hasc1' := hasc1 _ hbl0
  have HB0 := Lib.hid B0
  have HB1 := Lib.hid B1
  have HBL0 := Lib.hid hbl0
  have HA2 := Lib.hid hasc2
  clear hX hY hAX hAY B0 B1 hbl0 hasc1 hasc2
  go_enter Tryz.func5, Tryz.ntmps5
  go_wp2_with (go_at_call 12
               first
                 | (refine hasc1'.mono ?_
                    rintro e w1 ⟨rfl, hb1⟩
                    clear hasc1'
                    have q0 := HB0.out.below hb1 HB0.out.lt
                    have q1 := HB1.out.below hb1 HB1.out.lt
                    have r1 := q1.cell 0
                    have r0 := q0.cell 0
                    simp only [List.getElem?_toArray, List.getElem?_cons_succ, List.getElem?_cons_zero] at r0 r1
                    have hbl1 := HBL0.out.trans (hb1.mono HBL0.out.size)
                    have hasc2' := HA2.out w1 hbl1
                    have HQ0 := Lib.hid q0
                    have HQ1 := Lib.hid q1
                    have HBL1 := Lib.hid hbl1
                    have hsz1 : w.heap.size + 2 ≤ w1.heap.size := by have := hb1.size; simpa using this
                    clear hb1 q0 q1 hbl1)
                 | (refine hasc2'.mono ?_
                    rintro e w2 ⟨rfl, hb2⟩
                    clear hasc2'
                    have q0 := HQ0.out.below hb2 HQ0.out.lt
                    have q1 := HQ1.out.below hb2 HQ1.out.lt
                    have r1 := q1.cell 0
                    have r0 := q0.cell 0
                    simp only [List.getElem?_toArray, List.getElem?_cons_succ, List.getElem?_cons_zero] at r0 r1
                    have hsz2 : w.heap.size + 2 ≤ w2.heap.size := Nat.le_trans hsz1 hb2.size
                    have H0 : CmpMem w (w2.alloc (.map #[] 0)) w2.heap.size _ _ [] := ⟨q0.alloc _, q1.alloc _, MapOf.made w2, hsz2, (HBL1.out.trans (hb2.mono HBL1.out.size)).alloc (by omega) _⟩
                    have hz1 : w.heap.size < w2.heap.size := by omega
                    have hz2 : w.heap.size + 1 < w2.heap.size := by omega
                    have H0' := Lib.hid H0
                    clear hb2 q0 q1 H0))
  clear r0 r1
  go_loopw [27] (fun i wr => ∃ k : Nat, k ≤ n ∧ i = .int .i64 k ∧ CmpMem w wr w2.heap.size _ _ ((xs.take k).foldl chgA [])) (fun i _ => n - (intOf i).toNat)
  case atStart => exact ⟨0, by omega, rfl, H0'.out⟩
  case round =>
    obtain ⟨k, hk, rfl, hm⟩ := hrel
    by_cases hlt : k < n
    · obtain ⟨x, hx⟩ := get_some (xs := xs) (k := k) (by rw [← HLX.out]; omega)
      obtain ⟨g, rfl, hg, c0, c1, c2, c3⟩ := (HX.out.below hm.below).at_ k x hx
      have HS : Hid ((xs.take (k + 1)).foldl chgA [] = chgA ((xs.take k).foldl chgA []) x) := Lib.hid (by rw [take_snoc hx, List.foldl_append]; rfl)
      have HM := Lib.hid hm
      clear hx hm
      go_wp2_with (at_mapUpdate; refine wpList_mapUpdate_of _ rfl _ _ _ 54 rfl 52 mkey2 Tryz.underlying54 w2.heap.size _ rfl (HM.out.map.alloc _) ⟨x.frm, x.at'⟩ rfl ⟨x.frm, x.at', wrap64 (-x.acc), wrap64 (-x.msg)⟩ rfl ?_; intro w3 hm3 hg3 hs3)
      go_roundw
      case rel => exact ⟨k + 1, by omega, by go_num, by rw [HS.out]; exact (HM.out.alloc _).upd hm3 hg3⟩
      case measure => simp [intOf]; omega
    · obtain ⟨wa, rfl⟩ : ∃ wa : World, wa = wr := ⟨_, rfl⟩
      obtain rfl : k = n := by omega
      have hxs : xs.take k = xs := by rw [HLX.out]; exact List.take_length
      rw [hxs] at hm
      have HM := Lib.hid hm
      have r1 := hm.box2.cell 0
      simp only [List.getElem?_toArray, List.getElem?_cons_succ, List.getElem?_cons_zero] at r1
      clear hm hxs hlt H0'
      go_wp2
      clear r1
      go_loopw [52] (fun i wr => ∃ k : Nat, k ≤ m ∧ i = .int .i64 k ∧ CmpMem w wr w2.heap.size _ _ ((ys.take k).foldl chgB (xs.foldl chgA []))) (fun i _ => m - (intOf i).toNat)
      case atStart => exact ⟨0, by omega, rfl, HM.out⟩
      case round => as_aux_lemma =>
        obtain ⟨j, hj, rfl, hm⟩ := hrel
        by_cases hlt : j < m
        · obtain ⟨y, hy⟩ := get_some (xs := ys) (k := j) (by rw [← HLY.out]; omega)
          obtain ⟨g, rfl, hg, c0, c1, c2, c3⟩ := (HY.out.below hm.below).at_ j y hy
          have HS : Hid ((ys.take (j + 1)).foldl chgB (xs.foldl chgA []) = chgB ((ys.take j).foldl chgB (xs.foldl chgA [])) y) := Lib.hid (by rw [take_snoc hy, List.foldl_append]; rfl)
          have HM := Lib.hid hm
          have HU : Hid (∀ z, edgAt ((ys.take j).foldl chgB (xs.foldl chgA [])) y.frm y.at' = z → chgB ((ys.take j).foldl chgB (xs.foldl chgA [])) y = upd ((ys.take j).foldl chgB (xs.foldl chgA [])) ⟨y.frm, y.at'⟩ ⟨y.frm, y.at', wrap64 (z.acc + y.acc), wrap64 (z.msg + y.msg)⟩) := Lib.hid (fun z e => by rw [← e]; rfl)
          have hyd : (look ((ys.take j).foldl chgB (xs.foldl chgA [])) ⟨y.frm, y.at'⟩).getD edg0 = edgAt ((ys.take j).foldl chgB (xs.foldl chgA [])) y.frm y.at' := rfl
          generalize edgAt ((ys.take j).foldl chgB (xs.foldl chgA [])) y.frm y.at' = z at *
          have HYD := Lib.hid hyd
          have HU2 := Lib.hid (HU.out z rfl)
          clear hy hm hyd HU
          go_wp2_with (first
            | (at_lookup; refine wpList_lookup_of _ rfl _ _ 54 rfl 52 mkey2 Tryz.underlying54 edg0 (by kernel_rfl) w2.heap.size _ rfl (HM.out.map.alloc _) ⟨y.frm, y.at'⟩ rfl ?_; rw [HYD.out]; unfold encE)
            | (at_mapUpdate; refine wpList_mapUpdate_of _ rfl _ _ _ 54 rfl 52 mkey2 Tryz.underlying54 w2.heap.size _ rfl ((HM.out.map.alloc _).alloc _) ⟨y.frm, y.at'⟩ rfl ⟨y.frm, y.at', wrap64 (z.acc + y.acc), wrap64 (z.msg + y.msg)⟩ rfl ?_; intro w3 hm3 hg3 hs3))
          go_roundw
          case rel => exact ⟨j + 1, by omega, by go_num, by rw [HS.out, HU2.out]; exact ((HM.out.alloc _).alloc _).upd hm3 hg3⟩
          case measure => simp [intOf]; omega
        · obtain ⟨wb, rfl⟩ : ∃ wb : World, wb = wr := ⟨_, rfl⟩
          obtain rfl : j = m := by omega
          have hys : ys.take j = ys := by rw [HLY.out]; exact List.take_length
          rw [hys] at hm
          have HM : Hid (CmpMem w wb w2.heap.size _ _ (chgR xs ys)) := Lib.hid hm
          have hlen : (chgR xs ys).length ≤ 20000 := by
            have h1 := chgB_len ys (xs.foldl chgA [])
            have h2 := chgA_len xs []
            have := HLX.out
            have := HLY.out
            simp only [chgR, List.length_nil] at *; omega
          have hord := e2_ordered w2.heap.size (chgR xs ys) wb HM.out.map (by omega)
          have HLEN := Lib.hid hlen
          clear hm hys hlt hlen
          go_wp2_with (first
            | (go_at_call 13
               refine hord.mono ?_
               rintro e w4 ⟨ve, ss, rfl, hp4, hs4, hr4, hb4⟩
               clear hord
               obtain ⟨Ae, ce, rfl, _, _, _⟩ := own_slice hr4
               have HM4 := Lib.hid (HM.out.after hb4)
               have hl4 : ss.length ≤ 20000 := by have := hp4.length_eq; have h10 := HLEN.out; rw [List.length_map] at this; omega
               have hdl := e_delete wb.heap.size _ (ss.map (fun x => (look (chgR xs ys) x).getD ⟨0, 0, 0, 0⟩)) w4 (by rw [List.length_map]; omega) (by rw [List.length_map]; exact hr4)
               have HP4 := Lib.hid hp4
               have HS4 := Lib.hid hs4
               have HR4 := Lib.hid hr4
               have HB4 := Lib.hid hb4
               clear hp4 hs4 hr4 hb4)
            | (go_at_call 15
               refine hdl.mono ?_
               rintro e w5 ⟨v5, rfl, hr5, hg5, ho5⟩
               clear hdl
               have HR5 := Lib.hid hr5
               have HG5 := Lib.hid hg5
               clear hr5 hg5 ho5))
          refine bodyPost_ret (v := .tuple #[v5, .int .i64 0]) (by simp [results, Tryz.results5, go_sem]) rfl ?_
          have e1 : w.heap.size ≤ wb.heap.size := HM.out.below.size
          refine ⟨_, v5, ⟨ss, HP4.out, HS4.out, rfl⟩, rfl, own_base HR5.out e1, ?_⟩
          exact HM4.out.below.grown HG5.out HM4.out.below.size (fun k e => by have := (own_lt HR4.out e).1; omega)
end Go.Proofs.YtghjhlenkgkelaaGreatDoor
