/- DERIVED. Of. -/
import Derived.Test.YtghjhlenkgkelaaGreatDoorOf0
import Derived.StillTailTactics
set_option linter.unusedSimpArgs false
set_option linter.unusedVariables false
namespace Go.Proofs.YtghjhlenkgkelaaGreatDoor
open Go.RowKit Go.Shelf Go.Sort

theorem run_store_float {P : Program} {w : World} {a : Addr} {m : Mode} (k : FloatKind) (b : Nat) : (store a (.float k b) m).run P w = stored P w a (.float k b) m := run_store P w a _ m rfl
attribute [local go_sem] run_store_float

def edgA (R : List (K2 × Edg)) (x : Acc) : List (K2 × Edg) := if x.frm = x.at' then R else edgUpd R x.frm x.at' 1 0
def edgesA (xs : List Acc) : List (K2 × Edg) := xs.foldl edgA []
def edgG (R : List (K2 × Edg)) (g : Grp) : List (K2 × Edg) := edgUpd R g.frm g.at' 0 1
def edgesR (xs : List Acc) : List (K2 × Edg) := ((runR xs xs.length).map (·.1)).foldl edgG (edgesA xs)
def EdgLe (R : List (K2 × Edg)) (k : Nat) : Prop := ∀ x y, look R x = some y → 0 ≤ y.acc ∧ y.acc ≤ k ∧ 0 ≤ y.msg ∧ y.msg ≤ k
theorem EdgLe.at_ {R : List (K2 × Edg)} {k : Nat} (h : EdgLe R k) (f a : Int) : 0 ≤ (edgAt R f a).acc ∧ (edgAt R f a).acc ≤ k ∧ 0 ≤ (edgAt R f a).msg ∧ (edgAt R f a).msg ≤ k := by
  unfold edgAt
  cases hl : look R ⟨f, a⟩ with
  | none => simp [edg0]
  | some y => exact h _ _ hl
theorem EdgLe.upd {R : List (K2 × Edg)} {k : Nat} (h : EdgLe R k) (f a p q : Int) (hp : 0 ≤ p) (hp' : p ≤ 1) (hq : 0 ≤ q) (hq' : q ≤ 1) : EdgLe (edgUpd R f a p q) (k + 1) := by
  intro x y hy
  unfold edgUpd at hy
  rw [look_upd] at hy
  split at hy
  · injection hy with hy; subst hy
    have := h.at_ f a
    simp only; omega
  · have := h x y hy; omega
theorem EdgLe.mono {R : List (K2 × Edg)} {k m : Nat} (h : EdgLe R k) (hm : k ≤ m) : EdgLe R m := fun x y hy => by have := h x y hy; omega
theorem edgesA_snoc (l : List Acc) (x : Acc) : edgesA (l ++ [x]) = edgA (edgesA l) x := by simp [edgesA]
theorem edgesA_le : ∀ (l : List Acc) (R : List (K2 × Edg)) (k : Nat), EdgLe R k → EdgLe (l.foldl edgA R) (k + l.length)
  | [], _, _, h => h
  | x :: l, R, k, h => by
    have h1 : EdgLe (edgA R x) (k + 1) := by
      unfold edgA; split
      · exact h.mono (by omega)
      · exact h.upd _ _ _ _ (by omega) (by omega) (by omega) (by omega)
    have := edgesA_le l _ _ h1
    rw [List.foldl_cons, List.length_cons]; rwa [show k + (l.length + 1) = k + 1 + l.length by omega]
theorem edgesG_le : ∀ (l : List Grp) (R : List (K2 × Edg)) (k : Nat), EdgLe R k → EdgLe (l.foldl edgG R) (k + l.length)
  | [], _, _, h => h
  | x :: l, R, k, h => by
    have h1 : EdgLe (edgG R x) (k + 1) := h.upd _ _ _ _ (by omega) (by omega) (by omega) (by omega)
    have := edgesG_le l _ _ h1
    rw [List.foldl_cons, List.length_cons]; rwa [show k + (l.length + 1) = k + 1 + l.length by omega]
theorem edgesA_le' (l : List Acc) : EdgLe (edgesA l) l.length := by
  have := edgesA_le l [] 0 (by intro x y h; simp [look] at h)
  simpa [edgesA] using this
theorem edgUpd_len (R : List (K2 × Edg)) (f a p q : Int) : (edgUpd R f a p q).length ≤ R.length + 1 := upd_length_le _ _ _
theorem edgesA_len : ∀ (l : List Acc) (R : List (K2 × Edg)), (l.foldl edgA R).length ≤ R.length + l.length
  | [], _ => by simp
  | x :: l, R => by
    have := edgesA_len l (edgA R x)
    have h1 : (edgA R x).length ≤ R.length + 1 := by
      unfold edgA; split
      · omega
      · exact edgUpd_len _ _ _ _ _
    simp only [List.foldl_cons, List.length_cons]; omega
theorem edgesG_len : ∀ (l : List Grp) (R : List (K2 × Edg)), (l.foldl edgG R).length ≤ R.length + l.length
  | [], _ => by simp
  | x :: l, R => by
    have := edgesG_len l (edgG R x)
    have h1 : (edgG R x).length ≤ R.length + 1 := edgUpd_len _ _ _ _ _
    simp only [List.foldl_cons, List.length_cons]; omega

theorem Coll.beside {w w' : World} {B C b : Nat} {T va vo : Value} {gs : List (Nat × Grp)} {op : List Nat} {mv : Nat → Value} (h : Coll w B C T gs op va vo mv) (hg : w.grownBy w' (some b)) (hb : b < B) : Coll w' B C T gs op va vo mv :=
  have ne : ∀ o : Option Nat, (∀ k, o = some k → B ≤ k) → o = none ∨ o ≠ some b := fun o ho => by
    cases o with
    | none => exact .inl rfl
    | some k => right; intro e; have := ho k rfl; injection e with e; omega
  h.kept hg (fun e => by have := h.lowC; injection e with e; omega) (ne _ fun k e => (own_lt h.all_ e).1) (ne _ fun k e => (own_lt h.opn e).1) (fun p hp => ⟨fun e => by have := h.lowG p hp; injection e with e; omega, ne _ fun k e => (own_lt (h.mem p hp) e).1⟩)

def IsEdges (xs : List Acc) (es : List Edg) : Prop := ∃ ss : List K2, ss.Perm ((edgesR xs).map (·.1)) ∧ ss.Pairwise (fun x y => ¬ lt2 y x) ∧ es = ss.map (fun x => (look (edgesR xs) x).getD ⟨0, 0, 0, 0⟩)
def IsSpots (xs : List Acc) (sl : List Spt) : Prop := ∃ ts : List K3, ts.Perm ((spotsR xs).map (·.1)) ∧ ts.Pairwise (fun x y => ¬ lt3 y x) ∧ sl = ts.map (fun x => (look (spotsR xs) x).getD spot0)
/-- what Of returns -/
def OfRes (w : World) (xs : List Acc) (mm me : Nat) (e : Ending) (w' : World) : Prop :=
  ∃ es sl ve vs cst, IsEdges xs es ∧ IsSpots xs sl ∧ costF mm me es 0 = some cst ∧ e = .returned (.tuple #[.agg #[ve, vs, .float .f32 cst], .int .i64 0]) ∧
    w'.ownsRow w.heap.size 52 4 ve es.length (es.flatMap encEL) ∧ w'.ownsRow w.heap.size 63 7 vs sl.length (sl.flatMap encSL) ∧ Below w.heap.size w w'
theorem own_kept_row {w w' : World} {base b : Nat} {e : TypeId} {k n : Nat} {v : Value} {xs : List Value} (h : w.ownsRow base e k v n xs) (hg : w.grownBy w' (some b)) (hb : b < base ∨ w.heap.size ≤ b) : w'.ownsRow base e k v n xs :=
  h.kept hg (by
    cases ho : v.ownBlock with
    | none => exact .inl rfl
    | some j => right; intro e; injection e with e; have := own_lt h ho; omega)
theorem row_cells {w : World} {base : Nat} {e : TypeId} {k n c : Nat} {A : Option Addr} {xs : List Value} (h : w.ownsRow base e k (.slice A n c) n xs) (hn : 0 < n) : ∃ g, A = some ⟨g, 0, none⟩ ∧ g < w.heap.size ∧ ∀ j u, xs[j]? = some u → w.cell? ⟨g, j, none⟩ = some u := by
  obtain ⟨A', c', hv, _, _, hA⟩ := own_slice h
  injection hv with hv
  obtain ⟨g, e, _, hl, hc⟩ := hA hn
  exact ⟨g, hv.trans e, hl, hc⟩

/-- what Of holds in memory while it counts -/
structure OfMem (w wr : World) (M b mm me : Nat) (R : List (K2 × Edg)) : Prop where
  box : BlkAt wr w.heap.size 50 #[.float .f32 mm, .float .f32 me]
  res : BlkAt wr (w.heap.size + 1) 34 #[.slice none 0 0, .slice none 0 0, .float .f32 0]
  ref : BlkAt wr M 54 #[.map (some b)]
  map : MapOf enc2 encE wr b R
  lowb : w.heap.size + 2 ≤ b
  lowM : w.heap.size + 2 ≤ M
  below : Below w.heap.size w wr
theorem blk_map_ne {w : World} {M b : Nat} {t : TypeId} {cs : Array Value} {R : List (K2 × Edg)} (h : BlkAt w M t cs) (hm : MapOf enc2 encE w b R) : M ≠ b := by
  rintro rfl
  obtain ⟨es, clock, hb, _⟩ := hm
  have := h.symm.trans hb
  cases this
section
variable {w wr w' : World} {M b mm me : Nat} {R R' : List (K2 × Edg)}
theorem OfMem.after (h : OfMem w wr M b mm me R) (hb : Below wr.heap.size wr w') : OfMem w w' M b mm me R :=
  ⟨h.box.kept (grown_of_below (row := none) hb) (by simp), h.res.kept (grown_of_below (row := none) hb) (by simp), h.ref.kept (grown_of_below (row := none) hb) (by simp), h.map.below hb h.map.lt, h.lowb, h.lowM, h.below.trans (hb.mono h.below.size)⟩
theorem OfMem.alloc (h : OfMem w wr M b mm me R) (o : Obj) : OfMem w (wr.alloc o) M b mm me R := h.after ((Below.refl _ _).alloc (Nat.le_refl _) o)
theorem OfMem.upd (h : OfMem w wr M b mm me R) (hm : MapOf enc2 encE w' b R') (hg : wr.grownBy w' (some b)) : OfMem w w' M b mm me R' :=
  ⟨h.box.kept hg (fun e => by have := h.lowb; injection e with e; omega), h.res.kept hg (fun e => by have := h.lowb; injection e with e; omega), h.ref.kept hg (fun e => blk_map_ne h.ref h.map (Option.some.inj e)), hm, h.lowb, h.lowM, h.below.grown hg h.below.size (fun k e => by have := h.lowb; injection e with e; omega)⟩
end

set_option maxRecDepth 100000 in
set_option maxHeartbeats 2000000 in
theorem Of_any (A : Option Addr) (n c mm me : Nat) (xs : List Acc) (w : World) (hl : n ≤ 5000) (hr : Trace w w.heap.size A n xs) (hg : givenL xs = 0) (hpm : priceB mm = true) (hpe : priceB me = true) (hcost : ∀ es, IsEdges xs es → (costF mm me es 0).isSome = true) :
    Calls Tryz.prog 11 #[.slice A n c, .agg #[.float .f32 mm, .float .f32 me]] w (OfRes w xs mm me) := by
  have HCO := Lib.hid hcost
  clear hcost
  have hgiv := fun W hb => given_any A n c xs W hl ((hr.below hb (Nat.le_refl _)).mono (Below.size hb))
  have HG := Lib.hid hg
  have HN := Lib.hid hr.len
  have HR := Lib.hid hr
  have hmm := @run_makeMap Tryz.prog
  have hz0 := (BlkAt.new w 50 #[.float .f32 mm, .float .f32 me]).alloc (.cells #[.slice none 0 0, .slice none 0 0, .float .f32 0] 34)
  have hz1 : BlkAt ((w.alloc (.cells #[.float .f32 mm, .float .f32 me] 50)).alloc (.cells #[.slice none 0 0, .slice none 0 0, .float .f32 0] 34)) (w.heap.size + 1) 34 #[.slice none 0 0, .slice none 0 0, .float .f32 0] := by
    have := BlkAt.new (w.alloc (.cells #[.float .f32 mm, .float .f32 me] 50)) 34 #[.slice none 0 0, .slice none 0 0, .float .f32 0]
    simpa using this
  have hbl0 : Below w.heap.size w ((w.alloc (.cells #[.float .f32 mm, .float .f32 me] 50)).alloc (.cells #[.slice none 0 0, .slice none 0 0, .float .f32 0] 34)) := ((Below.refl w.heap.size w).alloc (Nat.le_refl _) _).alloc (by simp) _
  have HZ0 := Lib.hid hz0
  have HZ1 := Lib.hid hz1
  have HBL0 := Lib.hid hbl0
  have hgiv1 := hgiv _ hbl0
  clear hz0 hz1 hbl0 hgiv
  rw [hg] at hgiv1
  clear hr hg
  have hpr1 := price_any mm
  have hpr2 := price_any me
  rw [hpm] at hpr1
  rw [hpe] at hpr2
  go_enter Tryz.func11, Tryz.ntmps11
  go_wp2_with (first
    | (go_at_call 24
       refine hgiv1.mono ?_
       rintro e w1 ⟨rfl, hb1⟩
       clear hgiv1
       have HB1 := Lib.hid hb1
       have B0 := HZ0.out.below hb1 HZ0.out.lt
       have B1 := HZ1.out.below hb1 HZ1.out.lt
       have hcb1 := B0.cell 0
       have hcb2 := B0.cell 1
       simp only [List.getElem?_toArray, List.getElem?_cons_succ, List.getElem?_cons_zero] at hcb1 hcb2
       have HB0 := Lib.hid B0
       have HB01 := Lib.hid B1
       have hsz : w.heap.size + 2 ≤ w1.heap.size := by have := hb1.size; simpa using this
       clear hb1 B0 B1)
    | (go_at_call 25; first | (refine (hpr1 _).mono ?_; rintro e w' ⟨rfl, hww⟩; obtain rfl := hww.symm; clear hpr1) | (refine (hpr2 _).mono ?_; rintro e w' ⟨rfl, hww⟩; obtain rfl := hww.symm; clear hpr2)))
  clear hcb1 hcb2
  have H0 : OfMem w ((w1.alloc (.map #[] 0)).alloc (.cells #[.map (some w1.heap.size)] 54)) (w1.heap.size + 1) w1.heap.size mm me [] := by
    refine ⟨(HB0.out.alloc _).alloc _, (HB01.out.alloc _).alloc _, ?_, (MapOf.made w1).alloc _, hsz, by omega, (((HBL0.out.trans (HB1.out.mono (by simp; omega))).alloc (by omega) _).alloc (by simp; omega) _)⟩
    have := BlkAt.new (w1.alloc (.map #[] 0)) 54 #[.map (some w1.heap.size)]
    simpa using this
  have H0' := Lib.hid H0
  clear H0
  go_loopw [39] (fun i wr => ∃ k : Nat, k ≤ n ∧ i = .int .i64 k ∧ OfMem w wr (w1.heap.size + 1) w1.heap.size mm me (edgesA (xs.take k))) (fun i _ => n - (intOf i).toNat)
  case atStart => exact ⟨0, by omega, rfl, H0'.out⟩
  case round =>
    obtain ⟨k, hk, rfl, hm⟩ := hrel
    by_cases hlt : k < n
    · obtain ⟨x, hx⟩ := get_some (xs := xs) (k := k) (by rw [← HN.out]; omega)
      obtain ⟨b, off, rfl, hb, hc⟩ := HR.out.at_ k x hx
      obtain ⟨c0, c1, c2, c3, c4, c5, c6⟩ := hc.below hm.below hb
      have HS : Hid (edgesA (xs.take (k + 1)) = edgA (edgesA (xs.take k)) x) := Lib.hid (by rw [take_snoc hx, edgesA_snoc])
      have hed := (edgesA_le' (xs.take k)).at_ x.frm x.at'
      have htl : (xs.take k).length ≤ k := List.length_take_le _ _
      have HM := Lib.hid hm
      obtain ⟨ha, hb1, hc1, hd1⟩ := hed
      have hca := change_any (w1.heap.size + 1) w1.heap.size x.frm x.at' 1 0 (edgesA (xs.take k)) ((wr.alloc (.cells x.cells 45)).alloc (.cells x.cells 45)) ((hm.ref.alloc _).alloc _) ((hm.map.alloc _).alloc _) ha (by omega) hc1 (by omega) (by omega) (by omega) (by omega) (by omega)
      clear ha hb1 hc1 hd1 hc hx hm htl
      by_cases hre : x.frm = x.at'
      · have hre1 : (x.frm != x.at') = false := by simpa using hre
        have hre2 : (x.frm == x.at') = true := by simpa using hre
        have HRE := Lib.hid hre
        clear hre hca
        go_wp2_with (go_at_call 27; go_in)
        go_roundw
        case rel => exact ⟨k + 1, by omega, by go_num, by rw [HS.out]; unfold edgA; rw [if_pos HRE.out]; exact (HM.out.alloc _).alloc _⟩
        case measure => simp [intOf]; omega
      · have hre1 : (x.frm != x.at') = true := by simpa using hre
        have hre2 : (x.frm == x.at') = false := by simpa using hre
        have HRE := Lib.hid hre
        clear hre
        unfold Acc.cells at hca
        go_wp2_with (first
          | (go_at_call 27; go_in)
          | (go_at_call 26; refine hca.mono ?_; rintro e w2 ⟨rfl, hm2, hg2⟩; clear hca))
        go_roundw
        case rel => exact ⟨k + 1, by omega, by go_num, by rw [HS.out]; unfold edgA; rw [if_neg HRE.out]; exact ((HM.out.alloc _).alloc _).upd hm2 hg2⟩
        case measure => simp [intOf]; omega
    · obtain ⟨wg, rfl⟩ : ∃ wg : World, wg = wr := ⟨_, rfl⟩
      obtain rfl : k = n := by omega
      have hxs : xs.take k = xs := by rw [HN.out]; exact List.take_length
      rw [hxs] at hm
      have HM := Lib.hid hm
      have hgr := groups_any A k c xs wg hl ((HR.out.below hm.below (Nat.le_refl _)).mono hm.below.size)
      clear hm hxs hlt
      go_wp2_with (go_at_call 28; refine hgr.mono ?_; rintro e w2 ⟨C, va, rfl, gs, op, vo, mv, hcl, hS, hb2⟩; clear hgr; obtain ⟨Av, cv, rfl, hav, _, _⟩ := own_slice hcl.all_; have HC := Lib.hid hcl; have HS := Lib.hid hS; have HB2 := Lib.hid hb2; clear hcl hS hb2)
      have hbg : w1.heap.size < wg.heap.size := HM.out.map.lt
      have hgl : gs.length ≤ 5000 := by
        have h1 := (inv_run xs k (by have := HN.out; omega)).len
        have h2 := HS.out.eq
        rw [h2, List.length_map] at h1; omega
      go_loopw [55] (fun i wr => ∃ j : Nat, j ≤ gs.length ∧ i = .int .i64 j ∧ OfMem w wr (w1.heap.size + 1) w1.heap.size mm me (((gs.take j).map (·.2)).foldl edgG (edgesA xs)) ∧ w2.grownBy wr (some w1.heap.size)) (fun i _ => gs.length - (intOf i).toNat)
      case atStart => exact ⟨0, by omega, rfl, HM.out.after HB2.out, World.grownBy.refl _ _⟩
      case round =>
        obtain ⟨j, hj, rfl, hm, hg⟩ := hrel
        by_cases hlt : j < gs.length
        · obtain ⟨q, hq⟩ := get_some (xs := gs) hlt
          have hcr := HC.out.beside hg hbg
          obtain ⟨gb, go, hA, hgl', hgc⟩ := (sl_own hcr.all_).at_ j q hq
          have hqm := List.mem_of_getElem? hq
          have hg2 := (hcr.grp q hqm).cell 2
          have hg3 := (hcr.grp q hqm).cell 3
          simp only [gcells, List.getElem?_toArray, List.getElem?_cons_succ, List.getElem?_cons_zero] at hg2 hg3
          have HE : Hid (((gs.take (j + 1)).map (·.2)).foldl edgG (edgesA xs) = edgG (((gs.take j).map (·.2)).foldl edgG (edgesA xs)) q.2) := Lib.hid (by rw [List.take_add_one, hq]; simp)
          have hed := (edgesG_le ((gs.take j).map (·.2)) (edgesA xs) xs.length (edgesA_le' xs)).at_ q.2.frm q.2.at'
          have htl : ((gs.take j).map (·.2)).length ≤ j := by simp; omega
          have hxl := HN.out
          obtain ⟨ha, hb1, hc1, hd1⟩ := hed
          have hmd : OfMem w wr.drew _ _ _ _ _ := hm.after (below_draw (Below.refl _ wr) 1)
          have hca := change_any (w1.heap.size + 1) w1.heap.size q.2.frm q.2.at' 0 1 _ wr.drew hmd.ref hmd.map ha (by omega) hc1 (by omega) (by omega) (by omega) (by omega) (by omega)
          have HMD := Lib.hid hmd
          have HGG := Lib.hid hg
          clear ha hb1 hc1 hd1 hmd hxl htl hcr hq hm hg
          subst hA
          go_wp2
          go_still_tail 9, (by kernel_rfl)
          change wpList _ _ _ _ _ wr.drew
          go_wp2_with (go_at_call 26; refine hca.mono ?_; rintro e w3 ⟨rfl, hm3, hg3⟩; clear hca)
          go_roundw
          case rel => exact ⟨j + 1, by omega, by go_num, by rw [HE.out]; exact HMD.out.upd hm3 hg3, grown_trans (grown_trans HGG.out (grown_of_below (below_draw (Below.refl _ wr) 1))) hg3⟩
          case measure => simp [intOf]; omega
        · obtain rfl : j = gs.length := by omega
          rw [List.take_length] at hm
          obtain ⟨wh, rfl⟩ : ∃ wh : World, wh = wr := ⟨_, rfl⟩
          have hed : gs.map (·.2) = (runR xs xs.length).map (·.1) := by
            rw [← HN.out, HS.out.eq, List.map_map]; rfl
          rw [hed] at hm
          have hlen : (edgesR xs).length ≤ 10000 := by
            have h1 := edgesG_len ((runR xs xs.length).map (·.1)) (edgesA xs)
            have h2 := edgesA_len xs []
            have h3 := (inv_run xs xs.length (Nat.le_refl _)).len
            have := HN.out
            simp only [edgesR, edgesA] at *
            simp only [List.length_map, List.length_nil] at *; omega
          have HM2 : Hid (OfMem w wh (w1.heap.size + 1) w1.heap.size mm me (edgesR xs)) := Lib.hid hm
          have hcb := HM2.out.ref.cell 0
          simp only [List.getElem?_toArray, List.getElem?_cons_zero] at hcb
          have hord := e2_ordered w1.heap.size (edgesR xs) wh HM2.out.map (by omega)
          have HLEN := Lib.hid hlen
          clear hm hg hed hlen hlt
          go_wp2_with (first
            | (go_at_call 13
               refine hord.mono ?_
               rintro e w4 ⟨ve, ss, rfl, hp4, hs4, hr4, hb4⟩
               clear hord
               obtain ⟨Ae, ce, rfl, _, _, _⟩ := own_slice hr4
               have HM4 := Lib.hid (HM2.out.after hb4)
               have hsp := spots_any A k c xs w4 hl ((HR.out.below HM4.out.below (Nat.le_refl _)).mono HM4.out.below.size)
               have HP4 := Lib.hid hp4
               have HS4 := Lib.hid hs4
               have HR4 := Lib.hid hr4
               have HB4 := Lib.hid hb4
               clear hp4 hs4 hr4 hb4)
            | (go_at_call 29
               refine hsp.mono ?_
               rintro e w5 ⟨vs, ts, rfl, hp5, hs5, hr5, hb5⟩
               clear hsp
               obtain ⟨As, cs, rfl, _, _, _⟩ := own_slice hr5
               have HM5 := Lib.hid (HM4.out.after hb5)
               have HP5 := Lib.hid hp5
               have HS5 := Lib.hid hs5
               have HR5 := Lib.hid hr5
               have HB5 := Lib.hid hb5
               clear hp5 hs5 hr5 hb5))
          have hR4 := HR4.out.kept (grown_of_below (row := none) HB5.out) (none_or _)
          have HIE : Hid (IsEdges xs (ss.map (fun x => (look (edgesR xs) x).getD ⟨0, 0, 0, 0⟩))) := Lib.hid ⟨ss, HP4.out, HS4.out, rfl⟩
          have HIS : Hid (IsSpots xs (ts.map (fun x => (look (spotsR xs) x).getD spot0))) := Lib.hid ⟨ts, HP5.out, HS5.out, rfl⟩
          have hco := HCO.out _ HIE.out
          have hle : (ss.map (fun x => (look (edgesR xs) x).getD ⟨0, 0, 0, 0⟩)).length = ss.length := List.length_map _
          have hR5 := HR5.out
          have hts : (ts.map (fun x => (look (spotsR xs) x).getD spot0)).length = ts.length := List.length_map _
          rw [← hle] at hR4
          rw [← hts] at hR5
          rw [← hle, ← hts]
          have hlen5 : ss.length ≤ 10000 := by have := HP4.out.length_eq; have h10 := HLEN.out; rw [List.length_map] at this; omega
          rw [← hle] at hlen5
          generalize ss.map (fun x => (look (edgesR xs) x).getD ⟨0, 0, 0, 0⟩) = es at *
          generalize ts.map (fun x => (look (spotsR xs) x).getD spot0) = sl at *
          have hcv : ∀ (n : Int) (W : World), (convert 3 24 (.int .i64 n)).run Tryz.prog W = .ok (.float .f32 (cvt n)) W := fun n W => by kernel_rfl
          clear hts hle
          go_loopw [78] (fun i wr => ∃ (j ck : Nat), j ≤ es.length ∧ i = .int .i64 j ∧ costF mm me (es.take j) 0 = some ck ∧ BlkAt wr w5.heap.size 34 #[.slice Ae es.length ce, .slice As sl.length cs, .float .f32 ck] ∧ w5.grownBy wr (some w5.heap.size)) (fun i _ => es.length - (intOf i).toNat)
          case atStart =>
            refine ⟨0, 0, by omega, rfl, rfl, BlkAt.new w5 _ _, grown_of_below ((Below.refl _ w5).alloc (Nat.le_refl _) _)⟩
          case round =>
            obtain ⟨j, ck, hj, rfl, hck, hB, hg⟩ := hrel
            have hb1 := hB.cell 0
            have hb2 := hB.cell 1
            have hb3 := hB.cell 2
            have hb4 := hB.frozen 2
            simp only [List.getElem?_toArray, List.getElem?_cons_succ, List.getElem?_cons_zero] at hb1 hb2 hb3
            have hbx := HM5.out.box.kept hg (fun e => by have := HM5.out.box.lt; injection e with e; omega)
            have hx1 := hbx.cell 0
            have hx2 := hbx.cell 1
            simp only [List.getElem?_toArray, List.getElem?_cons_succ, List.getElem?_cons_zero] at hx1 hx2
            have HB := Lib.hid hB
            have HG5 := Lib.hid hg
            by_cases hlt : j < es.length
            · obtain ⟨x, hx⟩ := get_some hlt
              obtain ⟨a, b, s, r, ha, hb, hs, hr, hcr⟩ := costF_take hco hx hck
              have hrow := own_kept_row hR4 hg (.inr (Nat.le_refl _))
              obtain ⟨ge, rfl, hge, hce⟩ := row_cells hrow (by omega)
              have hc := fun (i : Nat) (u : Value) (hu : (encEL x)[i]? = some u) => hce _ _ (flat_at (enc := encEL) (k := 4) (fun _ => rfl) hx hu)
              have hc0 := hc 0 _ rfl
              have hc1 := hc 1 _ rfl
              have hc2 := hc 2 _ rfl
              have hc3 := hc 3 _ rfl
              rw [Nat.add_zero] at hc0
              have hf1 := fun W => run_float_arith (P := Tryz.prog) W .mul 24 .f32 (cvt x.msg) mm a ha
              have hf2 := fun W => run_float_arith (P := Tryz.prog) W .mul 24 .f32 (cvt x.acc) me b hb
              have hf3 := fun W => run_float_arith (P := Tryz.prog) W .add 24 .f32 a b s hs
              have hf4 := fun W => run_float_arith (P := Tryz.prog) W .add 24 .f32 ck s r hr
              have HCR := Lib.hid hcr
              have hgB := hB.lt
              have hwB := hbx.lt
              clear hcr ha hb hs hr hc hx hck hrow hce hbx hB hg
              go_wp2
              go_roundw
              case rel =>
                refine ⟨j + 1, r, by omega, by go_num, HCR.out, BlkAt.alloc ?_ _, ?_⟩
                · have := HB.out.set 2 (.float .f32 r); simpa using this
                · exact grown_trans (grown_trans HG5.out (setCell_grown _ _ _ _)) (grown_of_below ((Below.refl _ _).alloc (Nat.le_refl _) _))
              case measure => simp [intOf]; omega
            · obtain rfl : j = es.length := by omega
              rw [List.take_length] at hck
              have hres := HM5.out.res.kept hg (fun e => by have := HM5.out.res.lt; injection e with e; omega)
              have hr0 := hres.cell 0
              have hr1 := hres.cell 1
              have hr2 := hres.cell 2
              have hf0 := hres.frozen 0
              have hf1 := hres.frozen 1
              have hf2 := hres.frozen 2
              simp only [List.getElem?_toArray, List.getElem?_cons_succ, List.getElem?_cons_zero] at hr0 hr1 hr2
              have HCK := Lib.hid hck
              have HRES := Lib.hid hres
              clear hck hbx hx1 hx2 hres hB hg
              go_wp2
              have B3 := ((HRES.out.set 0 (.slice Ae es.length ce)).set 1 (.slice As sl.length cs)).set 2 (.float .f32 ck)
              have q0 := B3.cell 0
              have q1 := B3.cell 1
              have q2 := B3.cell 2
              simp only [List.setIfInBounds_toArray, List.set_cons_zero, List.set_cons_succ, List.getElem?_toArray, List.getElem?_cons_succ, List.getElem?_cons_zero] at q0 q1 q2
              refine bodyPost_ret (v := .tuple #[.agg #[.slice Ae es.length ce, .slice As sl.length cs, .float .f32 ck], .int .i64 0]) (by simp [results, Tryz.results11, go_sem, q0, q1, q2]) rfl ?_
              have hg3 : w5.grownBy wr (some w5.heap.size) := HG5.out
              have n4 := (HM2.out.below.size)
              have n5 := (HM4.out.below.size)
              have hwh : w.heap.size + 2 ≤ wh.heap.size := by have := HM2.out.lowb; have := HM2.out.map.lt; omega
              have hw4 : wh.heap.size ≤ w4.heap.size := HB4.out.size
              have e1 := own_kept_row hR4 HG5.out (.inr (Nat.le_refl _))
              have e2 := own_kept_row hR5 HG5.out (.inr (Nat.le_refl _))
              have k1 := own_kept_row (own_kept_row (own_kept_row e1 (setCell_grown wr (w.heap.size + 1) 0 (.slice Ae es.length ce)) (.inl (by omega))) (setCell_grown _ (w.heap.size + 1) 1 (.slice As sl.length cs)) (.inl (by omega))) (setCell_grown _ (w.heap.size + 1) 2 (.float .f32 ck)) (.inl (by omega))
              have k2 := own_kept_row (own_kept_row (own_kept_row e2 (setCell_grown wr (w.heap.size + 1) 0 (.slice Ae es.length ce)) (.inl (by omega))) (setCell_grown _ (w.heap.size + 1) 1 (.slice As sl.length cs)) (.inl (by omega))) (setCell_grown _ (w.heap.size + 1) 2 (.float .f32 ck)) (.inl (by omega))
              refine ⟨es, sl, _, _, ck, HIE.out, HIS.out, HCK.out, rfl, own_base k1 (by omega), own_base k2 (by omega), ?_⟩
              have b5 := HM5.out.below
              have b6 := b5.grown HG5.out b5.size (fun k e => by injection e with e; have := b5.size; omega)
              exact ((b6.setCell (p := ⟨w.heap.size + 1, 0, none⟩) (by simp) _).setCell (p := ⟨w.heap.size + 1, 1, none⟩) (by simp) _).setCell (p := ⟨w.heap.size + 1, 2, none⟩) (by simp) _
end Go.Proofs.YtghjhlenkgkelaaGreatDoor
