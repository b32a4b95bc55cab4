/- DERIVED. The reference's Compare: the merging. -/
import Derived.Test.YtghjhlenkgkelaaGreatDoorRCmp
import Derived.Test.YtghjhlenkgkelaaGreatDoorHeld
set_option linter.unusedSimpArgs false
set_option linter.unusedVariables false
namespace Go.Proofs.YtghjhlenkgkelaaGreatDoor
open Go.RowKit Go.Shelf Go.Sort

/-- which of the two heads a round takes -/
def Takes (xs ys : List Edg) (p q : Nat) (F S : Bool) : Prop :=
  (F = true ∧ S = false ∧ p < xs.length ∧ ∀ x y, xs[p]? = some x → ys[q]? = some y → lt2 x.key y.key) ∨
  (F = false ∧ S = true ∧ q < ys.length ∧ ∀ x y, xs[p]? = some x → ys[q]? = some y → lt2 y.key x.key) ∨
  (F = true ∧ S = true ∧ p < xs.length ∧ q < ys.length ∧ ∀ x y, xs[p]? = some x → ys[q]? = some y → x.key = y.key)
/-- the first head is taken, or not -/
def TF (xs ys : List Edg) (p q : Nat) (F : Bool) : Prop :=
  (F = true ∧ p < xs.length ∧ ∀ x y, xs[p]? = some x → ys[q]? = some y → ¬ lt2 y.key x.key) ∨
  (F = false ∧ q < ys.length ∧ ∀ x y, xs[p]? = some x → ys[q]? = some y → lt2 y.key x.key)
def HalfF (xs : List Edg) (p : Nat) (F : Bool) (p' : Nat) (f a r g : Int) : Prop :=
  (F = true ∧ p' = p + 1 ∧ ∀ x, xs[p]? = some x → f = x.frm ∧ a = x.at' ∧ r = wrap64 (-x.acc) ∧ g = wrap64 (-x.msg)) ∨ (F = false ∧ p' = p ∧ r = 0 ∧ g = 0)
def HalfS (ys : List Edg) (q : Nat) (S : Bool) (q' : Nat) (f a r g f' a' r' g' : Int) : Prop :=
  (S = true ∧ q' = q + 1 ∧ ∀ y, ys[q]? = some y → f' = y.frm ∧ a' = y.at' ∧ r' = wrap64 (r + y.acc) ∧ g' = wrap64 (g + y.msg)) ∨ (S = false ∧ q' = q ∧ f' = f ∧ a' = a ∧ r' = r ∧ g' = g)
structure RcMem (w wr : World) (A1 A2 S1 S2 : Option Addr) (n c m d s1 d1 s2 d2 f1 f2 : Nat) : Prop where
  box1 : BlkAt wr w.heap.size 26 #[.slice A1 n c, .slice S1 s1 d1, .float .f32 f1]
  box2 : BlkAt wr (w.heap.size + 1) 26 #[.slice A2 m d, .slice S2 s2 d2, .float .f32 f2]
  below : Below w.heap.size w wr
theorem RcMem.after {w wr w' : World} {A1 A2 S1 S2 : Option Addr} {n c m d s1 d1 s2 d2 f1 f2 : Nat} (h : RcMem w wr A1 A2 S1 S2 n c m d s1 d1 s2 d2 f1 f2) (hb : Below wr.heap.size wr w') : RcMem w w' A1 A2 S1 S2 n c m d s1 d1 s2 d2 f1 f2 :=
  ⟨h.box1.kept (grown_of_below (row := none) hb) (by simp), h.box2.kept (grown_of_below (row := none) hb) (by simp), h.below.trans (hb.mono h.below.size)⟩

theorem mrg_first {xs ys : List Edg} {p q : Nat} {x : Edg} (hx : xs[p]? = some x) (hlt : ∀ y, ys[q]? = some y → lt2 x.key y.key) : mrgAll (xs.drop p) (ys.drop q) = negE x :: mrgAll (xs.drop (p + 1)) (ys.drop q) := by
  rw [drop_cons hx]
  rcases hy : ys[q]? with _ | y
  · have : ys.drop q = [] := List.drop_eq_nil_of_le (List.getElem?_eq_none_iff.1 hy)
    rw [this, mrgAll]
    cases xs.drop (p + 1) with
    | nil => simp [mrgAll]
    | cons a r => rw [mrgAll]; rfl
  · rw [drop_cons hy, mrgAll, if_pos (hlt y hy)]
theorem mrg_second {xs ys : List Edg} {p q : Nat} {y : Edg} (hy : ys[q]? = some y) (hlt : ∀ x, xs[p]? = some x → lt2 y.key x.key) : mrgAll (xs.drop p) (ys.drop q) = posE y :: mrgAll (xs.drop p) (ys.drop (q + 1)) := by
  rw [drop_cons hy]
  rcases hx : xs[p]? with _ | x
  · have : xs.drop p = [] := List.drop_eq_nil_of_le (List.getElem?_eq_none_iff.1 hx)
    rw [this, mrgAll, mrgAll]; rfl
  · have h1 := hlt x hx
    rw [drop_cons hx, mrgAll, if_neg (fun h => k2_irr _ (k2_trans h h1)), if_pos h1]
theorem mrg_both {xs ys : List Edg} {p q : Nat} {x y : Edg} (hx : xs[p]? = some x) (hy : ys[q]? = some y) (he : x.key = y.key) : mrgAll (xs.drop p) (ys.drop q) = bothE x y :: mrgAll (xs.drop (p + 1)) (ys.drop (q + 1)) := by
  rw [drop_cons hx, drop_cons hy, mrgAll, if_neg (by rw [he]; exact k2_irr _), if_neg (by rw [he]; exact k2_irr _)]

/-- the round's memory: the new edge lies in block X -/
structure RX (w W : World) (A1 A2 S1 S2 : Option Addr) (n c m d s1 d1 s2 d2 f1 f2 X : Nat) (f a r g : Int) (Ao : Option Addr) (co : Nat) (L : List Edg) : Prop where
  mem : RcMem w W A1 A2 S1 S2 n c m d s1 d1 s2 d2 f1 f2
  blk : BlkAt W X 60 #[.int .i64 f, .int .i64 a, .int .i64 r, .int .i64 g]
  row : W.ownsRow w.heap.size 60 4 (.slice Ao L.length co) L.length (L.flatMap encEL)
  ne : (Value.slice Ao L.length co).ownBlock ≠ some X
  low : w.heap.size ≤ X
theorem RX.keep {w W W' : World} {A1 A2 S1 S2 : Option Addr} {n c m d s1 d1 s2 d2 f1 f2 X : Nat} {f a r g f' a' r' g' : Int} {Ao : Option Addr} {co : Nat} {L : List Edg}
    (h : RX w W A1 A2 S1 S2 n c m d s1 d1 s2 d2 f1 f2 X f a r g Ao co L) (hg : W.grownBy W' (some X)) (hb : BlkAt W' X 60 #[.int .i64 f', .int .i64 a', .int .i64 r', .int .i64 g']) : RX w W' A1 A2 S1 S2 n c m d s1 d1 s2 d2 f1 f2 X f' a' r' g' Ao co L :=
  ⟨⟨h.mem.box1.kept hg (fun e => blk_blk_ne h.mem.box1 h.blk (by decide) (Option.some.inj e)), h.mem.box2.kept hg (fun e => blk_blk_ne h.mem.box2 h.blk (by decide) (Option.some.inj e)), h.mem.below.trans (grown_below hg h.mem.below.size (fun k e => by rw [← Option.some.inj e]; exact h.low))⟩,
    hb, h.row.kept hg (.inr h.ne), h.ne, h.low⟩
theorem RX.drew {w W : World} {A1 A2 S1 S2 : Option Addr} {n c m d s1 d1 s2 d2 f1 f2 X : Nat} {f a r g : Int} {Ao : Option Addr} {co : Nat} {L : List Edg}
    (h : RX w W A1 A2 S1 S2 n c m d s1 d1 s2 d2 f1 f2 X f a r g Ao co L) (k : Nat) : RX w (W.drewN k) A1 A2 S1 S2 n c m d s1 d1 s2 d2 f1 f2 X f a r g Ao co L :=
  h.keep (grown_of_below (row := some X) (below_draw (Below.refl _ _) k)) h.blk
theorem RX.set0 {w W : World} {A1 A2 S1 S2 : Option Addr} {n c m d s1 d1 s2 d2 f1 f2 X : Nat} {f a r g : Int} {Ao : Option Addr} {co : Nat} {L : List Edg} (h : RX w W A1 A2 S1 S2 n c m d s1 d1 s2 d2 f1 f2 X f a r g Ao co L) (v : Int) : RX w (W.setCell ⟨X, 0, none⟩ (.int .i64 v)) A1 A2 S1 S2 n c m d s1 d1 s2 d2 f1 f2 X v a r g Ao co L := h.keep (setCell_grown _ _ _ _) (h.blk.set 0 _)
theorem RX.set1 {w W : World} {A1 A2 S1 S2 : Option Addr} {n c m d s1 d1 s2 d2 f1 f2 X : Nat} {f a r g : Int} {Ao : Option Addr} {co : Nat} {L : List Edg} (h : RX w W A1 A2 S1 S2 n c m d s1 d1 s2 d2 f1 f2 X f a r g Ao co L) (v : Int) : RX w (W.setCell ⟨X, 1, none⟩ (.int .i64 v)) A1 A2 S1 S2 n c m d s1 d1 s2 d2 f1 f2 X f v r g Ao co L := h.keep (setCell_grown _ _ _ _) (h.blk.set 1 _)
theorem RX.set2 {w W : World} {A1 A2 S1 S2 : Option Addr} {n c m d s1 d1 s2 d2 f1 f2 X : Nat} {f a r g : Int} {Ao : Option Addr} {co : Nat} {L : List Edg} (h : RX w W A1 A2 S1 S2 n c m d s1 d1 s2 d2 f1 f2 X f a r g Ao co L) (v : Int) : RX w (W.setCell ⟨X, 2, none⟩ (.int .i64 v)) A1 A2 S1 S2 n c m d s1 d1 s2 d2 f1 f2 X f a v g Ao co L := h.keep (setCell_grown _ _ _ _) (h.blk.set 2 _)
theorem RX.set3 {w W : World} {A1 A2 S1 S2 : Option Addr} {n c m d s1 d1 s2 d2 f1 f2 X : Nat} {f a r g : Int} {Ao : Option Addr} {co : Nat} {L : List Edg} (h : RX w W A1 A2 S1 S2 n c m d s1 d1 s2 d2 f1 f2 X f a r g Ao co L) (v : Int) : RX w (W.setCell ⟨X, 3, none⟩ (.int .i64 v)) A1 A2 S1 S2 n c m d s1 d1 s2 d2 f1 f2 X f a r v Ao co L := h.keep (setCell_grown _ _ _ _) (h.blk.set 3 _)

theorem half_mrg {xs ys : List Edg} {p q p' q' : Nat} {F S : Bool} {f a r g f' a' r' g' : Int} (h1 : TF xs ys p q F) (h2 : TF ys xs q p S) (hP : HalfF xs p F p' f a r g) (hQ : HalfS ys q S q' f a r g f' a' r' g') :
    ∃ z : Edg, mrgAll (xs.drop p) (ys.drop q) = z :: mrgAll (xs.drop p') (ys.drop q') ∧ z.frm = f' ∧ z.at' = a' ∧ z.acc = r' ∧ z.msg = g' ∧ (p ≤ xs.length → p' ≤ xs.length) ∧ (q ≤ ys.length → q' ≤ ys.length) ∧ p ≤ p' ∧ q ≤ q' ∧ p + q < p' + q' := by
  rcases h1 with ⟨rfl, hp, h1⟩ | ⟨rfl, hq, h1⟩
  · obtain ⟨x, hx⟩ := get_some hp
    rcases hP with ⟨_, rfl, hP⟩ | ⟨h, _⟩
    · obtain ⟨rfl, rfl, rfl, rfl⟩ := hP x hx
      rcases h2 with ⟨rfl, hq, h2⟩ | ⟨rfl, _, h2⟩
      · obtain ⟨y, hy⟩ := get_some hq
        rcases hQ with ⟨_, rfl, hQ⟩ | ⟨h, _⟩
        · obtain ⟨rfl, rfl, rfl, rfl⟩ := hQ y hy
          refine ⟨bothE x y, mrg_both hx hy (k2_tri (h2 y x hy hx) (h1 x y hx hy)), rfl, rfl, rfl, rfl, fun _ => hp, fun _ => hq, by omega, by omega, by omega⟩
        · cases h
      · rcases hQ with ⟨h, _⟩ | ⟨_, rfl, rfl, rfl, rfl, rfl⟩
        · cases h
        · exact ⟨negE x, mrg_first hx (fun y hy => h2 y x hy hx), rfl, rfl, rfl, rfl, fun _ => hp, fun h => h, by omega, by omega, by omega⟩
    · cases h
  · rcases hP with ⟨h, _⟩ | ⟨_, rfl, rfl, rfl⟩
    · cases h
    · obtain ⟨y, hy⟩ := get_some hq
      rcases h2 with ⟨rfl, _, h2⟩ | ⟨rfl, hp, h2⟩
      · rcases hQ with ⟨_, rfl, hQ⟩ | ⟨h, _⟩
        · obtain ⟨rfl, rfl, rfl, rfl⟩ := hQ y hy
          exact ⟨posE y, mrg_second hy (fun x hx => h1 x y hx hy), rfl, rfl, rfl, rfl, fun h => h, fun _ => hq, by omega, by omega, by omega⟩
        · cases h
      · obtain ⟨x, hx⟩ := get_some hp
        exact absurd (k2_trans (h1 x y hx hy) (h2 y x hy hx)) (k2_irr _)
theorem redge_info2 : (Tryz.prog.info? 60).map (fun i => (i.zero, i.size, i.bytes)) = some (some (.agg #[.int .i64 0, .int .i64 0, .int .i64 0, .int .i64 0]), 4, 32) := by kernel_rfl
theorem edg_one2 (x : Edg) : ∀ u ∈ encEL x, u.oneCell' = true := by
  intro u hu; simp [encEL] at hu; rcases hu with rfl | rfl | rfl | rfl <;> rfl
theorem RcMem.grow {w W w6 : World} {A1 A2 S1 S2 : Option Addr} {n c m d s1 d1 s2 d2 f1 f2 k : Nat} {v : Value} {l : List Value} {o : Obj} (h : RcMem w W A1 A2 S1 S2 n c m d s1 d1 s2 d2 f1 f2) (hr : W.ownsRow w.heap.size 60 4 v k l) (hg : (W.alloc o).grownBy w6 v.ownBlock) : RcMem w w6 A1 A2 S1 S2 n c m d s1 d1 s2 d2 f1 f2 := by
  have ha := h.after ((Below.refl W.heap.size W).alloc (Nat.le_refl _) o)
  have hra := hr.alloc o
  exact ⟨ha.box1.kept hg (own_blk_ne hra ha.box1 (by decide)), ha.box2.kept hg (own_blk_ne hra ha.box2 (by decide)), ha.below.grown hg (by have := h.below.size; simp; omega) (fun j e => (own_lt hra e).1)⟩

set_option maxRecDepth 100000 in
set_option maxHeartbeats 8000000 in
theorem rCompare_any (A1 A2 S1 S2 : Option Addr) (n c m d s1 d1 s2 d2 f1 f2 : Nat) (xs ys : List Edg) (w : World) (hn : n ≤ 10000) (hm : m ≤ 10000) (hX : Rd encEL 4 w A1 n xs) (hY : Rd encEL 4 w A2 m ys) (hAX : ascB xs = true) (hAY : ascB ys = true) :
    Calls Tryz.prog 7 #[.agg #[.slice A1 n c, .slice S1 s1 d1, .float .f32 f1], .agg #[.slice A2 m d, .slice S2 s2 d2, .float .f32 f2]] w fun e w' => ∃ v, e = .returned (.tuple #[v, .int .i64 0]) ∧ w'.ownsRow w.heap.size 60 4 v ((mrgAll xs ys).filter (fun x => !nilE x)).length (((mrgAll xs ys).filter (fun x => !nilE x)).flatMap encEL) ∧ Below w.heap.size w w' := by
  have hasc1 := fun W hb => rasc_any A1 n c xs W (by omega) (hX.below hb)
  have hasc2 := fun W hb => rasc_any A2 m d ys W (by omega) (hY.below hb)
  rw [hAX] at hasc1
  rw [hAY] at hasc2
  have B0 := (BlkAt.new w 26 #[.slice A1 n c, .slice S1 s1 d1, .float .f32 f1]).alloc (.cells #[.slice A2 m d, .slice S2 s2 d2, .float .f32 f2] 26)
  have B1 := BlkAt.new (w.alloc (.cells #[.slice A1 n c, .slice S1 s1 d1, .float .f32 f1] 26)) 26 #[.slice A2 m d, .slice S2 s2 d2, .float .f32 f2]
  rw [World.size_alloc] at B1
  have hbl0 : Below w.heap.size w ((w.alloc (.cells #[.slice A1 n c, .slice S1 s1 d1, .float .f32 f1] 26)).alloc (.cells #[.slice A2 m d, .slice S2 s2 d2, .float .f32 f2] 26)) := ((Below.refl w.heap.size w).alloc (Nat.le_refl _) _).alloc (by simp) _
  have hasc1' := hasc1 _ hbl0
  have HM0 := Lib.hid (show RcMem w _ A1 A2 S1 S2 n c m d s1 d1 s2 d2 f1 f2 from ⟨B0, B1, hbl0⟩)
  have HA2 := Lib.hid hasc2
  have HX := Lib.hid hX
  have HY := Lib.hid hY
  clear hX hY B0 B1 hbl0 hasc1 hasc2 hAX hAY
  obtain ⟨i0, hi, hy0, hy1, hy2⟩ := info_parts redge_info2
  go_enter Tryz.func7, Tryz.ntmps7
  go_wp2_with (go_at_call 17
               first
                 | (refine hasc1'.mono ?_
                    rintro e w1 ⟨rfl, hb1⟩
                    clear hasc1'
                    have hm1 := HM0.out.after hb1
                    have r1 := hm1.box2.cell 0
                    simp only [List.getElem?_toArray, List.getElem?_cons_succ, List.getElem?_cons_zero] at r1
                    have hasc2' := HA2.out w1 hm1.below
                    have HM1 := Lib.hid hm1
                    clear hb1 hm1)
                 | (refine hasc2'.mono ?_
                    rintro e w2 ⟨rfl, hb2⟩
                    clear hasc2'
                    have HM2 := Lib.hid (HM1.out.after hb2)
                    clear hb2))
  clear r1
  go_loopw [6, 7, 8] (fun v i k wr => ∃ (p q : Nat) (D : List Edg), p ≤ n ∧ q ≤ m ∧ i = .int .i64 p ∧ k = .int .i64 q ∧ Hid (mrgAll xs ys = D ++ mrgAll (xs.drop p) (ys.drop q)) ∧ D.length ≤ p + q ∧ wr.ownsRow w.heap.size 60 4 v (D.filter (fun x => !nilE x)).length ((D.filter (fun x => !nilE x)).flatMap encEL) ∧ RcMem w wr A1 A2 S1 S2 n c m d s1 d1 s2 d2 f1 f2) (fun _ i k _ => (n - (intOf i).toNat) + (m - (intOf k).toNat))
  case atStart => exact ⟨0, 0, [], by omega, by omega, rfl, rfl, Lib.hid rfl, by simp, World.ownsRow_nil _ _ _ _, HM2.out⟩
  case round =>
    obtain ⟨p, q, D, hp, hq, rfl, rfl, HD, hDl, hrow, hmem⟩ := hrel
    have r0 := hmem.box1.cell 0
    have r1 := hmem.box2.cell 0
    simp only [List.getElem?_toArray, List.getElem?_cons_succ, List.getElem?_cons_zero] at r0 r1
    by_cases hend : p = n ∧ q = m
    · obtain ⟨rfl, rfl⟩ := hend
      have hd : mrgAll xs ys = D := by
        rw [HD.out, List.drop_of_length_le (by rw [← HX.out.len]; exact Nat.le_refl _), List.drop_of_length_le (by rw [← HY.out.len]; exact Nat.le_refl _)]
        simp [mrgAll]
      obtain ⟨Ao, co, rfl, _, _, _⟩ := own_slice hrow
      have HROW := Lib.hid hrow
      have HMEM := Lib.hid hmem
      have HDD := Lib.hid hd
      clear hrow hmem hd
      go_wp2
      go_ret2
      exact ⟨_, rfl, by rw [HDD.out]; exact HROW.out, HMEM.out.below⟩
    · obtain ⟨Ao, co, rfl, _, _, _⟩ := own_slice hrow
      obtain ⟨wq, rfl⟩ : ∃ wq : World, wq = wr := ⟨_, rfl⟩
      have hnb := BlkAt.new wq 60 #[.int .i64 0, .int .i64 0, .int .i64 0, .int .i64 0]
      have hwm := hmem.after ((Below.refl wq.heap.size wq).alloc (Nat.le_refl _) (.cells #[.int .i64 0, .int .i64 0, .int .i64 0, .int .i64 0] 60))
      have HRX : Hid (RX w (wq.alloc (.cells #[.int .i64 0, .int .i64 0, .int .i64 0, .int .i64 0] 60)) A1 A2 S1 S2 n c m d s1 d1 s2 d2 f1 f2 wq.heap.size 0 0 0 0 Ao co (D.filter (fun x => !nilE x))) :=
        Lib.hid ⟨hwm, hnb, hrow.alloc _, fun e => by have := (own_lt hrow e).2; omega, hmem.below.size⟩
      have HNL := Lib.hid HX.out.len
      have HML := Lib.hid HY.out.len
      have HBQ := Lib.hid hmem.below
      clear hrow hwm hmem hnb
      have hp0 : (0 : Int) ≤ (p : Int) := by omega
      have hq0 : (0 : Int) ≤ (q : Int) := by omega
      go_upto_region 5 with fail
      go_cut [33] from 22 to 229 (fun v33 wx => v33 = .bool true ∧ wq = wx)
      case first =>
        by_cases hpn : p < n
        · have g1 : decide (p < n) = true := decide_eq_true hpn
          clear hpn hend
          go_wp2_with fail
          go_meet
          case rel => exact ⟨rfl, rfl⟩
        · have g1 : decide (p < n) = false := decide_eq_false hpn
          have g2 : decide (q < m) = true := decide_eq_true (by omega)
          clear hpn hend
          go_wp2_with fail
          go_meet
          case rel => exact ⟨rfl, rfl⟩
      case rest =>
      obtain ⟨rfl, rfl⟩ := hcut
      go_upto_region 7 with fail
      clear r0 r1
      obtain ⟨X, hX⟩ : ∃ X, wq.heap.size = X := ⟨_, rfl⟩
      rw [hX] at HRX
      rw [hX]
      generalize (wq.alloc (.cells #[.int .i64 0, .int .i64 0, .int .i64 0, .int .i64 0] 60)) = W1 at *
      have t0 := HRX.out.mem.box1.cell 0
      have t1 := HRX.out.mem.box2.cell 0
      simp only [List.getElem?_toArray, List.getElem?_cons_succ, List.getElem?_cons_zero] at t0 t1
      go_cut [10] from 22 to 229 (fun v10 wx => ∃ F : Bool, v10 = .bool F ∧ Hid (TF xs ys p q F) ∧ ∃ dq, wx = W1.drewN dq)
      case first =>
        by_cases hqm : q = m
        · have g1 : ((q : Int) == (m : Int)) = true := by simp; omega
          have g4 : (q == m) = true := by simp; omega
          have HT : Hid (TF xs ys p q true) := Lib.hid (.inl ⟨rfl, by rw [← HNL.out]; omega, fun x y _ hy => by
            have h1 := (List.getElem?_eq_some_iff.1 hy).1
            have h2 := HML.out
            omega⟩)
          clear hqm hend
          as_aux_lemma =>
            go_quiet (fail)
            go_wp2_with fail
            go_meet
            case rel => exact ⟨_, rfl, HT, _, rfl⟩
        · have g1 : ((q : Int) == (m : Int)) = false := by simp; omega
          have g4 : (q == m) = false := by simp; omega
          by_cases hpn : p = n
          · have g2 : decide (p < n) = false := decide_eq_false (by omega)
            have HT : Hid (TF xs ys p q false) := Lib.hid (.inr ⟨rfl, by rw [← HML.out]; omega, fun x y hx _ => by
              have h1 := (List.getElem?_eq_some_iff.1 hx).1
              have h2 := HNL.out
              omega⟩)
            clear hqm hend hpn
            as_aux_lemma =>
              go_quiet (fail)
              go_wp2_with fail
              go_meet
              case rel => exact ⟨_, rfl, HT, _, rfl⟩
          · have g2 : decide (p < n) = true := decide_eq_true (by omega)
            have k1 : (p : Int) < (n : Int) := by omega
            have k2 : (q : Int) < (m : Int) := by omega
            obtain ⟨x, hx⟩ := get_some (xs := xs) (k := p) (by rw [← HNL.out]; omega)
            obtain ⟨y, hy⟩ := get_some (xs := ys) (k := q) (by rw [← HML.out]; omega)
            obtain ⟨b1, o1, rfl, _, hc⟩ := (HX.out.below HRX.out.mem.below).at_ p x hx
            obtain ⟨b2, o2, rfl, _, hd⟩ := (HY.out.below HRX.out.mem.below).at_ q y hy
            have c0 := hc 0 _ rfl
            have c1 := hc 1 _ rfl
            have d0 := hd 0 _ rfl
            have d1 := hd 1 _ rfl
            rw [Nat.add_zero] at c0 d0
            by_cases h1 : x.frm < y.frm
            · have f1 : decide (x.frm < y.frm) = true := decide_eq_true h1
              have HT : Hid (TF xs ys p q true) := Lib.hid (.inl ⟨rfl, by rw [← HNL.out]; omega, fun u v hu hv => by
                rw [hx] at hu; rw [hy] at hv; cases hu; cases hv
                unfold lt2 Edg.key; simp only; omega⟩)
              clear hqm hend hpn hx hy hc hd h1
              as_aux_lemma =>
                go_quiet (fail)
                go_wp2_with fail
                go_meet
                case rel => exact ⟨_, rfl, HT, _, rfl⟩
            · have f1 : decide (x.frm < y.frm) = false := decide_eq_false h1
              by_cases h2 : x.frm = y.frm
              · have f2 : (x.frm == y.frm) = true := by simpa using h2
                by_cases h3 : x.at' ≤ y.at'
                · have f3 : decide (x.at' ≤ y.at') = true := decide_eq_true h3
                  have HT : Hid (TF xs ys p q true) := Lib.hid (.inl ⟨rfl, by rw [← HNL.out]; omega, fun u v hu hv => by
                    rw [hx] at hu; rw [hy] at hv; cases hu; cases hv
                    unfold lt2 Edg.key; simp only; omega⟩)
                  clear hqm hend hpn hx hy hc hd h1 h2 h3
                  as_aux_lemma =>
                    go_quiet (fail)
                    go_wp2_with fail
                    go_meet
                    case rel => exact ⟨_, rfl, HT, _, rfl⟩
                · have f3 : decide (x.at' ≤ y.at') = false := decide_eq_false h3
                  have HT : Hid (TF xs ys p q false) := Lib.hid (.inr ⟨rfl, by rw [← HML.out]; omega, fun u v hu hv => by
                    rw [hx] at hu; rw [hy] at hv; cases hu; cases hv
                    unfold lt2 Edg.key; simp only; omega⟩)
                  clear hqm hend hpn hx hy hc hd h1 h2 h3
                  as_aux_lemma =>
                    go_quiet (fail)
                    go_wp2_with fail
                    go_meet
                    case rel => exact ⟨_, rfl, HT, _, rfl⟩
              · have f2 : (x.frm == y.frm) = false := by simpa using h2
                have HT : Hid (TF xs ys p q false) := Lib.hid (.inr ⟨rfl, by rw [← HML.out]; omega, fun u v hu hv => by
                  rw [hx] at hu; rw [hy] at hv; cases hu; cases hv
                  unfold lt2 Edg.key; simp only; omega⟩)
                clear hqm hend hpn hx hy hc hd h1 h2
                as_aux_lemma =>
                  go_quiet (fail)
                  go_wp2_with fail
                  go_meet
                  case rel => exact ⟨_, rfl, HT, _, rfl⟩
      case rest =>
      obtain ⟨F, rfl, HF, dq, rfl⟩ := hcut
      have HRX2 := Lib.hid (HRX.out.drew dq)
      clear t0 t1 HRX
      generalize W1.drewN dq = W2 at *
      clear W1
      have HRX := HRX2
      clear HRX2
      have t0 := HRX.out.mem.box1.cell 0
      have t1 := HRX.out.mem.box2.cell 0
      simp only [List.getElem?_toArray, List.getElem?_cons_succ, List.getElem?_cons_zero] at t0 t1
      go_upto_region 8 with fail
      go_cut [11] from 22 to 229 (fun v11 wx => ∃ S : Bool, v11 = .bool S ∧ Hid (TF ys xs q p S) ∧ ∃ dq, wx = W2.drewN dq)
      case first =>
        by_cases hqm : p = n
        · have g1 : ((p : Int) == (n : Int)) = true := by simp; omega
          have g4 : (p == n) = true := by simp; omega
          have HT : Hid (TF ys xs q p true) := Lib.hid (.inl ⟨rfl, by rw [← HML.out]; omega, fun x y _ hy => by
            have h1 := (List.getElem?_eq_some_iff.1 hy).1
            have h2 := HNL.out
            omega⟩)
          clear hqm hend
          as_aux_lemma =>
            go_quiet (fail)
            go_wp2_with fail
            go_meet
            case rel => exact ⟨_, rfl, HT, _, rfl⟩
        · have g1 : ((p : Int) == (n : Int)) = false := by simp; omega
          have g4 : (p == n) = false := by simp; omega
          by_cases hpn : q = m
          · have g2 : decide (q < m) = false := decide_eq_false (by omega)
            have HT : Hid (TF ys xs q p false) := Lib.hid (.inr ⟨rfl, by rw [← HNL.out]; omega, fun x y hx _ => by
              have h1 := (List.getElem?_eq_some_iff.1 hx).1
              have h2 := HML.out
              omega⟩)
            clear hqm hend hpn
            as_aux_lemma =>
              go_quiet (fail)
              go_wp2_with fail
              go_meet
              case rel => exact ⟨_, rfl, HT, _, rfl⟩
          · have g2 : decide (q < m) = true := decide_eq_true (by omega)
            have k1 : (q : Int) < (m : Int) := by omega
            have k2 : (p : Int) < (n : Int) := by omega
            obtain ⟨x, hx⟩ := get_some (xs := ys) (k := q) (by rw [← HML.out]; omega)
            obtain ⟨y, hy⟩ := get_some (xs := xs) (k := p) (by rw [← HNL.out]; omega)
            obtain ⟨b1, o1, rfl, _, hc⟩ := (HY.out.below HRX.out.mem.below).at_ q x hx
            obtain ⟨b2, o2, rfl, _, hd⟩ := (HX.out.below HRX.out.mem.below).at_ p y hy
            have c0 := hc 0 _ rfl
            have c1 := hc 1 _ rfl
            have d0 := hd 0 _ rfl
            have d1 := hd 1 _ rfl
            rw [Nat.add_zero] at c0 d0
            by_cases h1 : x.frm < y.frm
            · have f1 : decide (x.frm < y.frm) = true := decide_eq_true h1
              have HT : Hid (TF ys xs q p true) := Lib.hid (.inl ⟨rfl, by rw [← HML.out]; omega, fun u v hu hv => by
                rw [hx] at hu; rw [hy] at hv; cases hu; cases hv
                unfold lt2 Edg.key; simp only; omega⟩)
              clear hqm hend hpn hx hy hc hd h1
              as_aux_lemma =>
                go_quiet (fail)
                go_wp2_with fail
                go_meet
                case rel => exact ⟨_, rfl, HT, _, rfl⟩
            · have f1 : decide (x.frm < y.frm) = false := decide_eq_false h1
              by_cases h2 : x.frm = y.frm
              · have f2 : (x.frm == y.frm) = true := by simpa using h2
                by_cases h3 : x.at' ≤ y.at'
                · have f3 : decide (x.at' ≤ y.at') = true := decide_eq_true h3
                  have HT : Hid (TF ys xs q p true) := Lib.hid (.inl ⟨rfl, by rw [← HML.out]; omega, fun u v hu hv => by
                    rw [hx] at hu; rw [hy] at hv; cases hu; cases hv
                    unfold lt2 Edg.key; simp only; omega⟩)
                  clear hqm hend hpn hx hy hc hd h1 h2 h3
                  as_aux_lemma =>
                    go_quiet (fail)
                    go_wp2_with fail
                    go_meet
                    case rel => exact ⟨_, rfl, HT, _, rfl⟩
                · have f3 : decide (x.at' ≤ y.at') = false := decide_eq_false h3
                  have HT : Hid (TF ys xs q p false) := Lib.hid (.inr ⟨rfl, by rw [← HNL.out]; omega, fun u v hu hv => by
                    rw [hx] at hu; rw [hy] at hv; cases hu; cases hv
                    unfold lt2 Edg.key; simp only; omega⟩)
                  clear hqm hend hpn hx hy hc hd h1 h2 h3
                  as_aux_lemma =>
                    go_quiet (fail)
                    go_wp2_with fail
                    go_meet
                    case rel => exact ⟨_, rfl, HT, _, rfl⟩
              · have f2 : (x.frm == y.frm) = false := by simpa using h2
                have HT : Hid (TF ys xs q p false) := Lib.hid (.inr ⟨rfl, by rw [← HNL.out]; omega, fun u v hu hv => by
                  rw [hx] at hu; rw [hy] at hv; cases hu; cases hv
                  unfold lt2 Edg.key; simp only; omega⟩)
                clear hqm hend hpn hx hy hc hd h1 h2
                as_aux_lemma =>
                  go_quiet (fail)
                  go_wp2_with fail
                  go_meet
                  case rel => exact ⟨_, rfl, HT, _, rfl⟩
      case rest =>
      obtain ⟨S, rfl, HS, dq, rfl⟩ := hcut
      have HRX2 := Lib.hid (HRX.out.drew dq)
      clear t0 t1 HRX
      generalize W2.drewN dq = W3 at *
      clear W2
      go_upto_if 148 with fail
      go_cut [7] from 22 to 229 (fun v7 wx => ∃ (p' : Nat) (f a r g : Int), v7 = .int .i64 p' ∧ Hid (HalfF xs p F p' f a r g) ∧ Hid (RX w wx A1 A2 S1 S2 n c m d s1 d1 s2 d2 f1 f2 X f a r g Ao co (D.filter (fun x => !nilE x))))
      case first =>
        cases F with
        | false =>
          go_wp2_with fail
          go_meet
          case rel => exact ⟨p, 0, 0, 0, 0, rfl, Lib.hid (.inr ⟨rfl, rfl, rfl, rfl⟩), HRX2⟩
        | true => as_aux_lemma =>
          obtain ⟨x, hx⟩ : ∃ x, xs[p]? = some x := by
            rcases HF.out with ⟨_, h, _⟩ | ⟨h, _⟩
            · exact get_some h
            · cases h
          obtain ⟨b1, o1, rfl, _, hc⟩ := HX.out.at_ p x hx
          have HCL : Hid (∀ W, Below w.heap.size w W → ∀ (j : Nat) (u : Value), (encEL x)[j]? = some u → W.cell? ⟨b1, o1 + p * 4 + j, none⟩ = some u) := Lib.hid (fun W hW j u hu => by
            obtain ⟨b, o, e, _, h⟩ := (HX.out.below hW).at_ p x hx
            injection e with e
            injection e with e1 e2
            subst e1 e2
            exact h j u hu)
          have HSA : Hid (∀ W f a r g, RX w W (some ⟨b1, o1, none⟩) A2 S1 S2 n c m d s1 d1 s2 d2 f1 f2 X f a r g Ao co (D.filter (fun x => !nilE x)) → W.cell? ⟨w.heap.size, 0, none⟩ = some (.slice (some ⟨b1, o1, none⟩) n c) ∧ W.cell? ⟨b1, o1 + p * 4, none⟩ = some (.int .i64 x.frm) ∧ W.cell? ⟨b1, o1 + p * 4 + 1, none⟩ = some (.int .i64 x.at')) := Lib.hid (fun W f a r g h => ⟨h.mem.box1.cell 0, HCL.out W h.mem.below 0 _ rfl, HCL.out W h.mem.below 1 _ rfl⟩)
          have HSB : Hid (∀ W f a r g, RX w W (some ⟨b1, o1, none⟩) A2 S1 S2 n c m d s1 d1 s2 d2 f1 f2 X f a r g Ao co (D.filter (fun x => !nilE x)) → W.cell? ⟨w.heap.size, 0, none⟩ = some (.slice (some ⟨b1, o1, none⟩) n c) ∧ W.cell? ⟨b1, o1 + p * 4 + 2, none⟩ = some (.int .i64 x.acc) ∧ W.cell? ⟨b1, o1 + p * 4 + 3, none⟩ = some (.int .i64 x.msg)) := Lib.hid (fun W f a r g h => ⟨h.mem.box1.cell 0, HCL.out W h.mem.below 2 _ rfl, HCL.out W h.mem.below 3 _ rfl⟩)
          have k1 : (p : Int) < (n : Int) := by have := (List.getElem?_eq_some_iff.1 hx).1; have := HNL.out; omega
          have HXS := Lib.hid hx
          clear hc hx hend
          go_wp2_with fail
          refine wp_region_held_drew (S := fun W => W.cell? ⟨w.heap.size, 0, none⟩ = some (.slice (some ⟨b1, o1, none⟩) n c) ∧ W.cell? ⟨b1, o1 + p * 4, none⟩ = some (.int .i64 x.frm) ∧ W.cell? ⟨b1, o1 + p * 4 + 1, none⟩ = some (.int .i64 x.at')) (by kernel_rfl) (HSA.out _ _ _ _ _ (HRX2.out.drew 1)) ?_
          intro _
          have HRD := Lib.hid (HRX2.out.drew 1)
          have z0 := HRD.out.blk.frozen 0
          have z1 := HRD.out.blk.frozen 1
          have z2 := HRD.out.blk.frozen 2
          have z3 := HRD.out.blk.frozen 3
          have y0 := HRD.out.blk.cell 0
          have y1 := HRD.out.blk.cell 1
          have y2 := HRD.out.blk.cell 2
          have y3 := HRD.out.blk.cell 3
          simp only [List.getElem?_toArray, List.getElem?_cons_succ, List.getElem?_cons_zero] at y0 y1 y2 y3
          clear HRX2
          change wpAnyH _ _ _ _ _ _ _ _ (W3.drewN 1)
          generalize W3.drewN 1 = WD at *
          have hHeld := HSA.out _ _ _ _ _ HRD.out
          refine take_drop 0 (v := ?_) rfl (by kernel_rfl) (by kernel_rfl) (by kernel_rfl) (fun _ _ _ h => h) (by rfl) ?_ (by assumption) ?_
          rotate_left 1
          · (intro w hSw; obtain ⟨hSw1, hSw2, hSw3⟩ := hSw; go_simp; try with_reducible rfl)
          try simp only [Act.put, List.setIfInBounds_toArray, List.set_cons_zero, List.set_cons_succ]
          refine take_drop 1 (v := ?_) rfl (by kernel_rfl) (by kernel_rfl) (by kernel_rfl) (fun _ _ _ h => h) (by rfl) ?_ (by assumption) ?_
          rotate_left 1
          · (intro w hSw; obtain ⟨hSw1, hSw2, hSw3⟩ := hSw; go_simp; try with_reducible rfl)
          try simp only [Act.put, List.setIfInBounds_toArray, List.set_cons_zero, List.set_cons_succ]
          refine take_drop 2 (v := ?_) rfl (by kernel_rfl) (by kernel_rfl) (by kernel_rfl) (fun _ _ _ h => h) (by rfl) ?_ (by assumption) ?_
          rotate_left 1
          · (intro w hSw; obtain ⟨hSw1, hSw2, hSw3⟩ := hSw; go_simp; try with_reducible rfl)
          try simp only [Act.put, List.setIfInBounds_toArray, List.set_cons_zero, List.set_cons_succ]
          refine take_drop 3 (v := ?_) rfl (by kernel_rfl) (by kernel_rfl) (by kernel_rfl) (fun _ _ _ h => h) (by rfl) ?_ (by assumption) ?_
          rotate_left 1
          · (intro w hSw; obtain ⟨hSw1, hSw2, hSw3⟩ := hSw; go_simp; try with_reducible rfl)
          try simp only [Act.put, List.setIfInBounds_toArray, List.set_cons_zero, List.set_cons_succ]
          refine take_drop 4 (v := ?_) rfl (by kernel_rfl) (by kernel_rfl) (by kernel_rfl) (fun _ _ _ h => h) (by rfl) ?_ (by assumption) ?_
          rotate_left 1
          · (intro w hSw; obtain ⟨hSw1, hSw2, hSw3⟩ := hSw; go_simp; try with_reducible rfl)
          try simp only [Act.put, List.setIfInBounds_toArray, List.set_cons_zero, List.set_cons_succ]
          refine take_drop 5 (v := ?_) rfl (by kernel_rfl) (by kernel_rfl) (by kernel_rfl) (fun _ _ _ h => h) (by rfl) ?_ (by assumption) ?_
          rotate_left 1
          · (intro w hSw; obtain ⟨hSw1, hSw2, hSw3⟩ := hSw; go_simp; try with_reducible rfl)
          try simp only [Act.put, List.setIfInBounds_toArray, List.set_cons_zero, List.set_cons_succ]
          refine take_drop 6 (v := ?_) rfl (by kernel_rfl) (by kernel_rfl) (by kernel_rfl) (fun _ _ _ h => h) (by rfl) ?_ (by assumption) ?_
          rotate_left 1
          · (intro w hSw; obtain ⟨hSw1, hSw2, hSw3⟩ := hSw; go_simp; try with_reducible rfl)
          try simp only [Act.put, List.setIfInBounds_toArray, List.set_cons_zero, List.set_cons_succ]
          refine take_drop 7 (v := ?_) rfl (by kernel_rfl) (by kernel_rfl) (by kernel_rfl) (fun _ _ _ h => h) (by rfl) ?_ (by assumption) ?_
          rotate_left 1
          · (intro w hSw; obtain ⟨hSw1, hSw2, hSw3⟩ := hSw; go_simp; try with_reducible rfl)
          try simp only [Act.put, List.setIfInBounds_toArray, List.set_cons_zero, List.set_cons_succ]
          refine take_drop 8 (v := ?_) rfl (by kernel_rfl) (by kernel_rfl) (by kernel_rfl) (fun _ _ _ h => h) (by rfl) ?_ (by assumption) ?_
          rotate_left 1
          · (intro w hSw; obtain ⟨hSw1, hSw2, hSw3⟩ := hSw; go_simp; try with_reducible rfl)
          try simp only [Act.put, List.setIfInBounds_toArray, List.set_cons_zero, List.set_cons_succ]
          refine take_drop 9 (v := ?_) rfl (by kernel_rfl) (by kernel_rfl) (by kernel_rfl) (fun _ _ _ h => h) (by rfl) ?_ (by assumption) ?_
          rotate_left 1
          · (intro w hSw; obtain ⟨hSw1, hSw2, hSw3⟩ := hSw; go_simp; try with_reducible rfl)
          try simp only [Act.put, List.setIfInBounds_toArray, List.set_cons_zero, List.set_cons_succ]
          refine take_drop 10 (v := ?_) rfl (by kernel_rfl) (by kernel_rfl) (by kernel_rfl) (fun _ _ _ h => h) (by rfl) ?_ (by assumption) ?_
          rotate_left 1
          · (intro w hSw; obtain ⟨hSw1, hSw2, hSw3⟩ := hSw; go_simp; try with_reducible rfl)
          try simp only [Act.put, List.setIfInBounds_toArray, List.set_cons_zero, List.set_cons_succ]
          refine take_drop 11 (v := ?_) rfl (by kernel_rfl) (by kernel_rfl) (by kernel_rfl) (fun _ _ _ h => h) (by rfl) ?_ (by assumption) ?_
          rotate_left 1
          · (intro w hSw; obtain ⟨hSw1, hSw2, hSw3⟩ := hSw; go_simp; try with_reducible rfl)
          try simp only [Act.put, List.setIfInBounds_toArray, List.set_cons_zero, List.set_cons_succ]
          refine take_drop 12 (v := ?_) rfl (by kernel_rfl) (by kernel_rfl) (by kernel_rfl) (fun _ _ _ h => h) (by rfl) ?_ (by assumption) ?_
          rotate_left 1
          · (intro w hSw; obtain ⟨hSw1, hSw2, hSw3⟩ := hSw; go_simp; try with_reducible rfl)
          try simp only [Act.put, List.setIfInBounds_toArray, List.set_cons_zero, List.set_cons_succ]
          have HR1 := Lib.hid (HRD.out.set0 x.frm)
          refine wpAnyH_ready (rs := [13]) (by kernel_rfl) (by simp) ?_
          refine ready_drop rfl (fun K hK => ?_) AllReadyH.nil
          go_simp
          refine hK.out _ _ (HSA.out _ _ _ _ _ HR1.out) (fun hHeld2 => ?_)
          clear hK K hHeld
          have hHeld := hHeld2
          clear hHeld2
          try simp only [Act.put, List.setIfInBounds_toArray, List.set_cons_zero, List.set_cons_succ]
          refine take_drop 14 (v := ?_) rfl (by kernel_rfl) (by kernel_rfl) (by kernel_rfl) (fun _ _ _ h => h) (by rfl) ?_ (by assumption) ?_
          rotate_left 1
          · (intro w hSw; obtain ⟨hSw1, hSw2, hSw3⟩ := hSw; go_simp; try with_reducible rfl)
          try simp only [Act.put, List.setIfInBounds_toArray, List.set_cons_zero, List.set_cons_succ]
          have HR2 := Lib.hid (HR1.out.set1 x.at')
          clear HR1
          refine wpAnyH_ready (rs := [15]) (by kernel_rfl) (by simp) ?_
          refine ready_drop rfl (fun K hK => ?_) AllReadyH.nil
          go_simp
          refine hK.out _ _ (HSA.out _ _ _ _ _ HR2.out) (fun hHeld2 => ?_)
          clear hK K hHeld
          have hHeld := hHeld2
          clear hHeld2
          try simp only [Act.put, List.setIfInBounds_toArray, List.set_cons_zero, List.set_cons_succ]
          refine wpAnyH_done (by kernel_rfl) ?_ _
          clear z0 z1 z2 z3 y0 y1 y2 y3 HRD hHeld
          generalize (WD.setCell ⟨X, 0, none⟩ (.int .i64 x.frm)).setCell ⟨X, 1, none⟩ (.int .i64 x.at') = WE at *
          clear WD
          go_wp2_with fail
          have hw1 : IntKind.i64.wrap (-x.acc) = wrap64 (-x.acc) := IntWalk.i64_left _
          have hw2 : IntKind.i64.wrap (-x.msg) = wrap64 (-x.msg) := IntWalk.i64_left _
          refine wp_region_held_drew (S := fun W => W.cell? ⟨w.heap.size, 0, none⟩ = some (.slice (some ⟨b1, o1, none⟩) n c) ∧ W.cell? ⟨b1, o1 + p * 4 + 2, none⟩ = some (.int .i64 x.acc) ∧ W.cell? ⟨b1, o1 + p * 4 + 3, none⟩ = some (.int .i64 x.msg)) (by kernel_rfl) (HSB.out _ _ _ _ _ (HR2.out.drew 1)) ?_
          intro _
          have HRD := Lib.hid (HR2.out.drew 1)
          have z0 := HRD.out.blk.frozen 0
          have z1 := HRD.out.blk.frozen 1
          have z2 := HRD.out.blk.frozen 2
          have z3 := HRD.out.blk.frozen 3
          have y0 := HRD.out.blk.cell 0
          have y1 := HRD.out.blk.cell 1
          have y2 := HRD.out.blk.cell 2
          have y3 := HRD.out.blk.cell 3
          simp only [List.getElem?_toArray, List.getElem?_cons_succ, List.getElem?_cons_zero] at y0 y1 y2 y3
          clear HR2
          change wpAnyH _ _ _ _ _ _ _ _ (WE.drewN 1)
          generalize WE.drewN 1 = WD at *
          have hHeld := HSB.out _ _ _ _ _ HRD.out
          refine take_drop 0 (v := ?_) rfl (by kernel_rfl) (by kernel_rfl) (by kernel_rfl) (fun _ _ _ h => h) (by rfl) ?_ (by assumption) ?_
          rotate_left 1
          · (intro w hSw; obtain ⟨hSw1, hSw2, hSw3⟩ := hSw; go_simp; try with_reducible rfl)
          try simp only [Act.put, List.setIfInBounds_toArray, List.set_cons_zero, List.set_cons_succ]
          refine take_drop 1 (v := ?_) rfl (by kernel_rfl) (by kernel_rfl) (by kernel_rfl) (fun _ _ _ h => h) (by rfl) ?_ (by assumption) ?_
          rotate_left 1
          · (intro w hSw; obtain ⟨hSw1, hSw2, hSw3⟩ := hSw; go_simp; try with_reducible rfl)
          try simp only [Act.put, List.setIfInBounds_toArray, List.set_cons_zero, List.set_cons_succ]
          refine take_drop 2 (v := ?_) rfl (by kernel_rfl) (by kernel_rfl) (by kernel_rfl) (fun _ _ _ h => h) (by rfl) ?_ (by assumption) ?_
          rotate_left 1
          · (intro w hSw; obtain ⟨hSw1, hSw2, hSw3⟩ := hSw; go_simp; try with_reducible rfl)
          try simp only [Act.put, List.setIfInBounds_toArray, List.set_cons_zero, List.set_cons_succ]
          refine take_drop 3 (v := ?_) rfl (by kernel_rfl) (by kernel_rfl) (by kernel_rfl) (fun _ _ _ h => h) (by rfl) ?_ (by assumption) ?_
          rotate_left 1
          · (intro w hSw; obtain ⟨hSw1, hSw2, hSw3⟩ := hSw; go_simp; try with_reducible rfl)
          try simp only [Act.put, List.setIfInBounds_toArray, List.set_cons_zero, List.set_cons_succ]
          refine take_drop 4 (v := ?_) rfl (by kernel_rfl) (by kernel_rfl) (by kernel_rfl) (fun _ _ _ h => h) (by rfl) ?_ (by assumption) ?_
          rotate_left 1
          · (intro w hSw; obtain ⟨hSw1, hSw2, hSw3⟩ := hSw; go_simp; try with_reducible rfl)
          try simp only [Act.put, List.setIfInBounds_toArray, List.set_cons_zero, List.set_cons_succ]
          refine take_drop 5 (v := ?_) rfl (by kernel_rfl) (by kernel_rfl) (by kernel_rfl) (fun _ _ _ h => h) (by rfl) ?_ (by assumption) ?_
          rotate_left 1
          · (intro w hSw; obtain ⟨hSw1, hSw2, hSw3⟩ := hSw; go_simp; try with_reducible rfl)
          try simp only [Act.put, List.setIfInBounds_toArray, List.set_cons_zero, List.set_cons_succ]
          refine take_drop 6 (v := ?_) rfl (by kernel_rfl) (by kernel_rfl) (by kernel_rfl) (fun _ _ _ h => h) (by rfl) ?_ (by assumption) ?_
          rotate_left 1
          · (intro w hSw; obtain ⟨hSw1, hSw2, hSw3⟩ := hSw; go_simp; try with_reducible rfl)
          try simp only [Act.put, List.setIfInBounds_toArray, List.set_cons_zero, List.set_cons_succ]
          refine take_drop 7 (v := ?_) rfl (by kernel_rfl) (by kernel_rfl) (by kernel_rfl) (fun _ _ _ h => h) (by rfl) ?_ (by assumption) ?_
          rotate_left 1
          · (intro w hSw; obtain ⟨hSw1, hSw2, hSw3⟩ := hSw; go_simp; try with_reducible rfl)
          try simp only [Act.put, List.setIfInBounds_toArray, List.set_cons_zero, List.set_cons_succ]
          refine take_drop 8 (v := ?_) rfl (by kernel_rfl) (by kernel_rfl) (by kernel_rfl) (fun _ _ _ h => h) (by rfl) ?_ (by assumption) ?_
          rotate_left 1
          · (intro w hSw; obtain ⟨hSw1, hSw2, hSw3⟩ := hSw; go_simp; try with_reducible rfl)
          try simp only [Act.put, List.setIfInBounds_toArray, List.set_cons_zero, List.set_cons_succ]
          refine take_drop 9 (v := ?_) rfl (by kernel_rfl) (by kernel_rfl) (by kernel_rfl) (fun _ _ _ h => h) (by rfl) ?_ (by assumption) ?_
          rotate_left 1
          · (intro w hSw; obtain ⟨hSw1, hSw2, hSw3⟩ := hSw; go_simp; try with_reducible rfl)
          try simp only [Act.put, List.setIfInBounds_toArray, List.set_cons_zero, List.set_cons_succ]
          refine take_drop 10 (v := ?_) rfl (by kernel_rfl) (by kernel_rfl) (by kernel_rfl) (fun _ _ _ h => h) (by rfl) ?_ (by assumption) ?_
          rotate_left 1
          · (intro w hSw; obtain ⟨hSw1, hSw2, hSw3⟩ := hSw; go_simp; try with_reducible rfl)
          try simp only [Act.put, List.setIfInBounds_toArray, List.set_cons_zero, List.set_cons_succ]
          refine take_drop 11 (v := ?_) rfl (by kernel_rfl) (by kernel_rfl) (by kernel_rfl) (fun _ _ _ h => h) (by rfl) ?_ (by assumption) ?_
          rotate_left 1
          · (intro w hSw; obtain ⟨hSw1, hSw2, hSw3⟩ := hSw; go_simp; try with_reducible rfl)
          try simp only [Act.put, List.setIfInBounds_toArray, List.set_cons_zero, List.set_cons_succ]
          refine take_drop 12 (v := ?_) rfl (by kernel_rfl) (by kernel_rfl) (by kernel_rfl) (fun _ _ _ h => h) (by rfl) ?_ (by assumption) ?_
          rotate_left 1
          · (intro w hSw; obtain ⟨hSw1, hSw2, hSw3⟩ := hSw; go_simp; try with_reducible rfl)
          try simp only [Act.put, List.setIfInBounds_toArray, List.set_cons_zero, List.set_cons_succ]
          refine take_drop 13 (v := ?_) rfl (by kernel_rfl) (by kernel_rfl) (by kernel_rfl) (fun _ _ _ h => h) (by rfl) ?_ (by assumption) ?_
          rotate_left 1
          · (intro w hSw; obtain ⟨hSw1, hSw2, hSw3⟩ := hSw; go_simp; try with_reducible rfl)
          try simp only [Act.put, List.setIfInBounds_toArray, List.set_cons_zero, List.set_cons_succ]
          refine take_drop 14 (v := ?_) rfl (by kernel_rfl) (by kernel_rfl) (by kernel_rfl) (fun _ _ _ h => h) (by rfl) ?_ (by assumption) ?_
          rotate_left 1
          · (intro w hSw; obtain ⟨hSw1, hSw2, hSw3⟩ := hSw; go_simp; try with_reducible rfl)
          try simp only [Act.put, List.setIfInBounds_toArray, List.set_cons_zero, List.set_cons_succ]
          have HR3 := Lib.hid (HRD.out.set2 (wrap64 (-x.acc)))
          refine wpAnyH_ready (rs := [15]) (by kernel_rfl) (by simp) ?_
          refine ready_drop rfl (fun K hK => ?_) AllReadyH.nil
          go_simp
          refine hK.out _ _ (HSB.out _ _ _ _ _ HR3.out) (fun hHeld2 => ?_)
          clear hK K hHeld
          have hHeld := hHeld2
          clear hHeld2
          try simp only [Act.put, List.setIfInBounds_toArray, List.set_cons_zero, List.set_cons_succ]
          refine take_drop 16 (v := ?_) rfl (by kernel_rfl) (by kernel_rfl) (by kernel_rfl) (fun _ _ _ h => h) (by rfl) ?_ (by assumption) ?_
          rotate_left 1
          · (intro w hSw; obtain ⟨hSw1, hSw2, hSw3⟩ := hSw; go_simp; try with_reducible rfl)
          try simp only [Act.put, List.setIfInBounds_toArray, List.set_cons_zero, List.set_cons_succ]
          have HR4 := Lib.hid (HR3.out.set3 (wrap64 (-x.msg)))
          clear HR3
          refine wpAnyH_ready (rs := [17]) (by kernel_rfl) (by simp) ?_
          refine ready_drop rfl (fun K hK => ?_) AllReadyH.nil
          go_simp
          refine hK.out _ _ (HSB.out _ _ _ _ _ HR4.out) (fun hHeld2 => ?_)
          clear hK K hHeld
          have hHeld := hHeld2
          clear hHeld2
          try simp only [Act.put, List.setIfInBounds_toArray, List.set_cons_zero, List.set_cons_succ]
          refine wpAnyH_done (by kernel_rfl) ?_ _
          clear z0 z1 z2 z3 y0 y1 y2 y3 HRD hHeld
          generalize (WD.setCell ⟨X, 2, none⟩ (.int .i64 (wrap64 (-x.acc)))).setCell ⟨X, 3, none⟩ (.int .i64 (wrap64 (-x.msg))) = WF at *
          clear WD
          go_wp2_with fail
          go_meet
          case rel => exact ⟨p + 1, _, _, _, _, by go_num, Lib.hid (.inl ⟨rfl, rfl, fun u hu => by rw [HXS.out] at hu; cases hu; exact ⟨rfl, rfl, rfl, rfl⟩⟩), HR4⟩
      case rest =>
      obtain ⟨p', f, a, r, g, rfl, HP, HRX3⟩ := hcut
      clear HRX2
      generalize wc = W4 at *
      go_upto_if 181 with fail
      go_cut [8] from 22 to 229 (fun v8 wx => ∃ (q' : Nat) (f' a' r' g' : Int), v8 = .int .i64 q' ∧ Hid (HalfS ys q S q' f a r g f' a' r' g') ∧ Hid (RX w wx A1 A2 S1 S2 n c m d s1 d1 s2 d2 f1 f2 X f' a' r' g' Ao co (D.filter (fun x => !nilE x))))
      case first =>
        cases S with
        | false =>
          go_wp2_with fail
          go_meet
          case rel => exact ⟨q, f, a, r, g, rfl, Lib.hid (.inr ⟨rfl, rfl, rfl, rfl, rfl, rfl⟩), HRX3⟩
        | true => as_aux_lemma =>
          obtain ⟨y, hy⟩ : ∃ y, ys[q]? = some y := by
            rcases HS.out with ⟨_, h, _⟩ | ⟨h, _⟩
            · exact get_some h
            · cases h
          obtain ⟨b1, o1, rfl, _, hc⟩ := HY.out.at_ q y hy
          have HCL : Hid (∀ W, Below w.heap.size w W → ∀ (j : Nat) (u : Value), (encEL y)[j]? = some u → W.cell? ⟨b1, o1 + q * 4 + j, none⟩ = some u) := Lib.hid (fun W hW j u hu => by
            obtain ⟨b, o, e, _, h⟩ := (HY.out.below hW).at_ q y hy
            injection e with e
            injection e with e1 e2
            subst e1 e2
            exact h j u hu)
          have HSA : Hid (∀ W f a r g, RX w W A1 (some ⟨b1, o1, none⟩) S1 S2 n c m d s1 d1 s2 d2 f1 f2 X f a r g Ao co (D.filter (fun x => !nilE x)) → W.cell? ⟨w.heap.size + 1, 0, none⟩ = some (.slice (some ⟨b1, o1, none⟩) m d) ∧ W.cell? ⟨b1, o1 + q * 4, none⟩ = some (.int .i64 y.frm) ∧ W.cell? ⟨b1, o1 + q * 4 + 1, none⟩ = some (.int .i64 y.at')) := Lib.hid (fun W f a r g h => ⟨h.mem.box2.cell 0, HCL.out W h.mem.below 0 _ rfl, HCL.out W h.mem.below 1 _ rfl⟩)
          have HSB : Hid (∀ W f a r g, RX w W A1 (some ⟨b1, o1, none⟩) S1 S2 n c m d s1 d1 s2 d2 f1 f2 X f a r g Ao co (D.filter (fun x => !nilE x)) → W.cell? ⟨w.heap.size + 1, 0, none⟩ = some (.slice (some ⟨b1, o1, none⟩) m d) ∧ W.cell? ⟨b1, o1 + q * 4 + 2, none⟩ = some (.int .i64 y.acc) ∧ W.cell? ⟨b1, o1 + q * 4 + 3, none⟩ = some (.int .i64 y.msg)) := Lib.hid (fun W f a r g h => ⟨h.mem.box2.cell 0, HCL.out W h.mem.below 2 _ rfl, HCL.out W h.mem.below 3 _ rfl⟩)
          have k1 : (q : Int) < (m : Int) := by have := (List.getElem?_eq_some_iff.1 hy).1; have := HML.out; omega
          have HYS := Lib.hid hy
          clear hc hy hend
          go_wp2_with fail
          refine wp_region_held_drew (S := fun W => W.cell? ⟨w.heap.size + 1, 0, none⟩ = some (.slice (some ⟨b1, o1, none⟩) m d) ∧ W.cell? ⟨b1, o1 + q * 4, none⟩ = some (.int .i64 y.frm) ∧ W.cell? ⟨b1, o1 + q * 4 + 1, none⟩ = some (.int .i64 y.at')) (by kernel_rfl) (HSA.out _ _ _ _ _ (HRX3.out.drew 1)) ?_
          intro _
          have HRD := Lib.hid (HRX3.out.drew 1)
          have z0 := HRD.out.blk.frozen 0
          have z1 := HRD.out.blk.frozen 1
          have z2 := HRD.out.blk.frozen 2
          have z3 := HRD.out.blk.frozen 3
          have y0 := HRD.out.blk.cell 0
          have y1 := HRD.out.blk.cell 1
          have y2 := HRD.out.blk.cell 2
          have y3 := HRD.out.blk.cell 3
          simp only [List.getElem?_toArray, List.getElem?_cons_succ, List.getElem?_cons_zero] at y0 y1 y2 y3
          clear HRX3
          change wpAnyH _ _ _ _ _ _ _ _ (W4.drewN 1)
          generalize W4.drewN 1 = WD at *
          have hHeld := HSA.out _ _ _ _ _ HRD.out
          refine take_drop 0 (v := ?_) rfl (by kernel_rfl) (by kernel_rfl) (by kernel_rfl) (fun _ _ _ h => h) (by rfl) ?_ (by assumption) ?_
          rotate_left 1
          · (intro w hSw; obtain ⟨hSw1, hSw2, hSw3⟩ := hSw; go_simp; try with_reducible rfl)
          try simp only [Act.put, List.setIfInBounds_toArray, List.set_cons_zero, List.set_cons_succ]
          refine take_drop 1 (v := ?_) rfl (by kernel_rfl) (by kernel_rfl) (by kernel_rfl) (fun _ _ _ h => h) (by rfl) ?_ (by assumption) ?_
          rotate_left 1
          · (intro w hSw; obtain ⟨hSw1, hSw2, hSw3⟩ := hSw; go_simp; try with_reducible rfl)
          try simp only [Act.put, List.setIfInBounds_toArray, List.set_cons_zero, List.set_cons_succ]
          refine take_drop 2 (v := ?_) rfl (by kernel_rfl) (by kernel_rfl) (by kernel_rfl) (fun _ _ _ h => h) (by rfl) ?_ (by assumption) ?_
          rotate_left 1
          · (intro w hSw; obtain ⟨hSw1, hSw2, hSw3⟩ := hSw; go_simp; try with_reducible rfl)
          try simp only [Act.put, List.setIfInBounds_toArray, List.set_cons_zero, List.set_cons_succ]
          refine take_drop 3 (v := ?_) rfl (by kernel_rfl) (by kernel_rfl) (by kernel_rfl) (fun _ _ _ h => h) (by rfl) ?_ (by assumption) ?_
          rotate_left 1
          · (intro w hSw; obtain ⟨hSw1, hSw2, hSw3⟩ := hSw; go_simp; try with_reducible rfl)
          try simp only [Act.put, List.setIfInBounds_toArray, List.set_cons_zero, List.set_cons_succ]
          refine take_drop 4 (v := ?_) rfl (by kernel_rfl) (by kernel_rfl) (by kernel_rfl) (fun _ _ _ h => h) (by rfl) ?_ (by assumption) ?_
          rotate_left 1
          · (intro w hSw; obtain ⟨hSw1, hSw2, hSw3⟩ := hSw; go_simp; try with_reducible rfl)
          try simp only [Act.put, List.setIfInBounds_toArray, List.set_cons_zero, List.set_cons_succ]
          refine take_drop 5 (v := ?_) rfl (by kernel_rfl) (by kernel_rfl) (by kernel_rfl) (fun _ _ _ h => h) (by rfl) ?_ (by assumption) ?_
          rotate_left 1
          · (intro w hSw; obtain ⟨hSw1, hSw2, hSw3⟩ := hSw; go_simp; try with_reducible rfl)
          try simp only [Act.put, List.setIfInBounds_toArray, List.set_cons_zero, List.set_cons_succ]
          refine take_drop 6 (v := ?_) rfl (by kernel_rfl) (by kernel_rfl) (by kernel_rfl) (fun _ _ _ h => h) (by rfl) ?_ (by assumption) ?_
          rotate_left 1
          · (intro w hSw; obtain ⟨hSw1, hSw2, hSw3⟩ := hSw; go_simp; try with_reducible rfl)
          try simp only [Act.put, List.setIfInBounds_toArray, List.set_cons_zero, List.set_cons_succ]
          refine take_drop 7 (v := ?_) rfl (by kernel_rfl) (by kernel_rfl) (by kernel_rfl) (fun _ _ _ h => h) (by rfl) ?_ (by assumption) ?_
          rotate_left 1
          · (intro w hSw; obtain ⟨hSw1, hSw2, hSw3⟩ := hSw; go_simp; try with_reducible rfl)
          try simp only [Act.put, List.setIfInBounds_toArray, List.set_cons_zero, List.set_cons_succ]
          refine take_drop 8 (v := ?_) rfl (by kernel_rfl) (by kernel_rfl) (by kernel_rfl) (fun _ _ _ h => h) (by rfl) ?_ (by assumption) ?_
          rotate_left 1
          · (intro w hSw; obtain ⟨hSw1, hSw2, hSw3⟩ := hSw; go_simp; try with_reducible rfl)
          try simp only [Act.put, List.setIfInBounds_toArray, List.set_cons_zero, List.set_cons_succ]
          refine take_drop 9 (v := ?_) rfl (by kernel_rfl) (by kernel_rfl) (by kernel_rfl) (fun _ _ _ h => h) (by rfl) ?_ (by assumption) ?_
          rotate_left 1
          · (intro w hSw; obtain ⟨hSw1, hSw2, hSw3⟩ := hSw; go_simp; try with_reducible rfl)
          try simp only [Act.put, List.setIfInBounds_toArray, List.set_cons_zero, List.set_cons_succ]
          refine take_drop 10 (v := ?_) rfl (by kernel_rfl) (by kernel_rfl) (by kernel_rfl) (fun _ _ _ h => h) (by rfl) ?_ (by assumption) ?_
          rotate_left 1
          · (intro w hSw; obtain ⟨hSw1, hSw2, hSw3⟩ := hSw; go_simp; try with_reducible rfl)
          try simp only [Act.put, List.setIfInBounds_toArray, List.set_cons_zero, List.set_cons_succ]
          refine take_drop 11 (v := ?_) rfl (by kernel_rfl) (by kernel_rfl) (by kernel_rfl) (fun _ _ _ h => h) (by rfl) ?_ (by assumption) ?_
          rotate_left 1
          · (intro w hSw; obtain ⟨hSw1, hSw2, hSw3⟩ := hSw; go_simp; try with_reducible rfl)
          try simp only [Act.put, List.setIfInBounds_toArray, List.set_cons_zero, List.set_cons_succ]
          refine take_drop 12 (v := ?_) rfl (by kernel_rfl) (by kernel_rfl) (by kernel_rfl) (fun _ _ _ h => h) (by rfl) ?_ (by assumption) ?_
          rotate_left 1
          · (intro w hSw; obtain ⟨hSw1, hSw2, hSw3⟩ := hSw; go_simp; try with_reducible rfl)
          try simp only [Act.put, List.setIfInBounds_toArray, List.set_cons_zero, List.set_cons_succ]
          have HR1 := Lib.hid (HRD.out.set0 y.frm)
          refine wpAnyH_ready (rs := [13]) (by kernel_rfl) (by simp) ?_
          refine ready_drop rfl (fun K hK => ?_) AllReadyH.nil
          go_simp
          refine hK.out _ _ (HSA.out _ _ _ _ _ HR1.out) (fun hHeld2 => ?_)
          clear hK K hHeld
          have hHeld := hHeld2
          clear hHeld2
          try simp only [Act.put, List.setIfInBounds_toArray, List.set_cons_zero, List.set_cons_succ]
          refine take_drop 14 (v := ?_) rfl (by kernel_rfl) (by kernel_rfl) (by kernel_rfl) (fun _ _ _ h => h) (by rfl) ?_ (by assumption) ?_
          rotate_left 1
          · (intro w hSw; obtain ⟨hSw1, hSw2, hSw3⟩ := hSw; go_simp; try with_reducible rfl)
          try simp only [Act.put, List.setIfInBounds_toArray, List.set_cons_zero, List.set_cons_succ]
          have HR2 := Lib.hid (HR1.out.set1 y.at')
          clear HR1
          refine wpAnyH_ready (rs := [15]) (by kernel_rfl) (by simp) ?_
          refine ready_drop rfl (fun K hK => ?_) AllReadyH.nil
          go_simp
          refine hK.out _ _ (HSA.out _ _ _ _ _ HR2.out) (fun hHeld2 => ?_)
          clear hK K hHeld
          have hHeld := hHeld2
          clear hHeld2
          try simp only [Act.put, List.setIfInBounds_toArray, List.set_cons_zero, List.set_cons_succ]
          refine wpAnyH_done (by kernel_rfl) ?_ _
          clear z0 z1 z2 z3 y0 y1 y2 y3 HRD hHeld
          generalize (WD.setCell ⟨X, 0, none⟩ (.int .i64 y.frm)).setCell ⟨X, 1, none⟩ (.int .i64 y.at') = WE at *
          clear WD
          go_wp2_with fail
          have hw1 : IntKind.i64.wrap (r + y.acc) = wrap64 (r + y.acc) := IntWalk.i64_left _
          have hw2 : IntKind.i64.wrap (g + y.msg) = wrap64 (g + y.msg) := IntWalk.i64_left _
          refine wp_region_held_drew (S := fun W => W.cell? ⟨w.heap.size + 1, 0, none⟩ = some (.slice (some ⟨b1, o1, none⟩) m d) ∧ W.cell? ⟨b1, o1 + q * 4 + 2, none⟩ = some (.int .i64 y.acc) ∧ W.cell? ⟨b1, o1 + q * 4 + 3, none⟩ = some (.int .i64 y.msg)) (by kernel_rfl) (HSB.out _ _ _ _ _ (HR2.out.drew 1)) ?_
          intro _
          have HRD := Lib.hid (HR2.out.drew 1)
          have z0 := HRD.out.blk.frozen 0
          have z1 := HRD.out.blk.frozen 1
          have z2 := HRD.out.blk.frozen 2
          have z3 := HRD.out.blk.frozen 3
          have y0 := HRD.out.blk.cell 0
          have y1 := HRD.out.blk.cell 1
          have y2 := HRD.out.blk.cell 2
          have y3 := HRD.out.blk.cell 3
          simp only [List.getElem?_toArray, List.getElem?_cons_succ, List.getElem?_cons_zero] at y0 y1 y2 y3
          clear HR2
          change wpAnyH _ _ _ _ _ _ _ _ (WE.drewN 1)
          generalize WE.drewN 1 = WD at *
          have hHeld := HSB.out _ _ _ _ _ HRD.out
          refine take_drop 0 (v := ?_) rfl (by kernel_rfl) (by kernel_rfl) (by kernel_rfl) (fun _ _ _ h => h) (by rfl) ?_ (by assumption) ?_
          rotate_left 1
          · (intro w hSw; obtain ⟨hSw1, hSw2, hSw3⟩ := hSw; go_simp; try with_reducible rfl)
          try simp only [Act.put, List.setIfInBounds_toArray, List.set_cons_zero, List.set_cons_succ]
          refine take_drop 2 (v := ?_) rfl (by kernel_rfl) (by kernel_rfl) (by kernel_rfl) (fun _ _ _ h => h) (by rfl) ?_ (by assumption) ?_
          rotate_left 1
          · (intro w hSw; obtain ⟨hSw1, hSw2, hSw3⟩ := hSw; go_simp; try with_reducible rfl)
          try simp only [Act.put, List.setIfInBounds_toArray, List.set_cons_zero, List.set_cons_succ]
          refine take_drop 3 (v := ?_) rfl (by kernel_rfl) (by kernel_rfl) (by kernel_rfl) (fun _ _ _ h => h) (by rfl) ?_ (by assumption) ?_
          rotate_left 1
          · (intro w hSw; obtain ⟨hSw1, hSw2, hSw3⟩ := hSw; go_simp; try with_reducible rfl)
          try simp only [Act.put, List.setIfInBounds_toArray, List.set_cons_zero, List.set_cons_succ]
          refine take_drop 4 (v := ?_) rfl (by kernel_rfl) (by kernel_rfl) (by kernel_rfl) (fun _ _ _ h => h) (by rfl) ?_ (by assumption) ?_
          rotate_left 1
          · (intro w hSw; obtain ⟨hSw1, hSw2, hSw3⟩ := hSw; go_simp; try with_reducible rfl)
          try simp only [Act.put, List.setIfInBounds_toArray, List.set_cons_zero, List.set_cons_succ]
          refine take_drop 5 (v := ?_) rfl (by kernel_rfl) (by kernel_rfl) (by kernel_rfl) (fun _ _ _ h => h) (by rfl) ?_ (by assumption) ?_
          rotate_left 1
          · (intro w hSw; obtain ⟨hSw1, hSw2, hSw3⟩ := hSw; go_simp; try with_reducible rfl)
          try simp only [Act.put, List.setIfInBounds_toArray, List.set_cons_zero, List.set_cons_succ]
          refine take_drop 6 (v := ?_) rfl (by kernel_rfl) (by kernel_rfl) (by kernel_rfl) (fun _ _ _ h => h) (by rfl) ?_ (by assumption) ?_
          rotate_left 1
          · (intro w hSw; obtain ⟨hSw1, hSw2, hSw3⟩ := hSw; go_simp; try with_reducible rfl)
          try simp only [Act.put, List.setIfInBounds_toArray, List.set_cons_zero, List.set_cons_succ]
          refine take_drop 7 (v := ?_) rfl (by kernel_rfl) (by kernel_rfl) (by kernel_rfl) (fun _ _ _ h => h) (by rfl) ?_ (by assumption) ?_
          rotate_left 1
          · (intro w hSw; obtain ⟨hSw1, hSw2, hSw3⟩ := hSw; go_simp; try with_reducible rfl)
          try simp only [Act.put, List.setIfInBounds_toArray, List.set_cons_zero, List.set_cons_succ]
          refine take_drop 9 (v := ?_) rfl (by kernel_rfl) (by kernel_rfl) (by kernel_rfl) (fun _ _ _ h => h) (by rfl) ?_ (by assumption) ?_
          rotate_left 1
          · (intro w hSw; obtain ⟨hSw1, hSw2, hSw3⟩ := hSw; go_simp; try with_reducible rfl)
          try simp only [Act.put, List.setIfInBounds_toArray, List.set_cons_zero, List.set_cons_succ]
          refine take_drop 11 (v := ?_) rfl (by kernel_rfl) (by kernel_rfl) (by kernel_rfl) (fun _ _ _ h => h) (by rfl) ?_ (by assumption) ?_
          rotate_left 1
          · (intro w hSw; obtain ⟨hSw1, hSw2, hSw3⟩ := hSw; go_simp; try with_reducible rfl)
          try simp only [Act.put, List.setIfInBounds_toArray, List.set_cons_zero, List.set_cons_succ]
          refine take_drop 12 (v := ?_) rfl (by kernel_rfl) (by kernel_rfl) (by kernel_rfl) (fun _ _ _ h => h) (by rfl) ?_ (by assumption) ?_
          rotate_left 1
          · (intro w hSw; obtain ⟨hSw1, hSw2, hSw3⟩ := hSw; go_simp; try with_reducible rfl)
          try simp only [Act.put, List.setIfInBounds_toArray, List.set_cons_zero, List.set_cons_succ]
          refine take_drop 13 (v := ?_) rfl (by kernel_rfl) (by kernel_rfl) (by kernel_rfl) (fun _ _ _ h => h) (by rfl) ?_ (by assumption) ?_
          rotate_left 1
          · (intro w hSw; obtain ⟨hSw1, hSw2, hSw3⟩ := hSw; go_simp; try with_reducible rfl)
          try simp only [Act.put, List.setIfInBounds_toArray, List.set_cons_zero, List.set_cons_succ]
          refine take_drop 14 (v := ?_) rfl (by kernel_rfl) (by kernel_rfl) (by kernel_rfl) (fun _ _ _ h => h) (by rfl) ?_ (by assumption) ?_
          rotate_left 1
          · (intro w hSw; obtain ⟨hSw1, hSw2, hSw3⟩ := hSw; go_simp; try with_reducible rfl)
          try simp only [Act.put, List.setIfInBounds_toArray, List.set_cons_zero, List.set_cons_succ]
          refine take_drop 15 (v := ?_) rfl (by kernel_rfl) (by kernel_rfl) (by kernel_rfl) (fun _ _ _ h => h) (by rfl) ?_ (by assumption) ?_
          rotate_left 1
          · (intro w hSw; obtain ⟨hSw1, hSw2, hSw3⟩ := hSw; go_simp; try with_reducible rfl)
          try simp only [Act.put, List.setIfInBounds_toArray, List.set_cons_zero, List.set_cons_succ]
          refine take_drop 16 (v := ?_) rfl (by kernel_rfl) (by kernel_rfl) (by kernel_rfl) (fun _ _ _ h => h) (by rfl) ?_ (by assumption) ?_
          rotate_left 1
          · (intro w hSw; obtain ⟨hSw1, hSw2, hSw3⟩ := hSw; go_simp; try with_reducible rfl)
          try simp only [Act.put, List.setIfInBounds_toArray, List.set_cons_zero, List.set_cons_succ]
          refine wpAnyH_ready (rs := [1, 10]) (by kernel_rfl) (by simp) ?_
          refine ready_drop rfl (fun K hK => ?_) (ready_drop rfl (fun K hK => ?_) AllReadyH.nil)
          · go_simp
            refine hK.out _ _ hHeld (fun hHeld2 => ?_)
            clear hK K hHeld
            have hHeld := hHeld2
            clear hHeld2
            try simp only [Act.put, List.setIfInBounds_toArray, List.set_cons_zero, List.set_cons_succ]
            refine take_drop 8 (v := ?_) rfl (by kernel_rfl) (by kernel_rfl) (by kernel_rfl) (fun _ _ _ h => h) (by rfl) ?_ (by assumption) ?_
            rotate_left 1
            · (intro w hSw; obtain ⟨hSw1, hSw2, hSw3⟩ := hSw; go_simp; try with_reducible rfl)
            try simp only [Act.put, List.setIfInBounds_toArray, List.set_cons_zero, List.set_cons_succ]
            refine wpAnyH_ready (rs := [10]) (by kernel_rfl) (by simp) ?_
            refine ready_drop rfl (fun K hK => ?_) AllReadyH.nil
            go_simp
            refine hK.out _ _ hHeld (fun hHeld2 => ?_)
            clear hK K hHeld
            have hHeld := hHeld2
            clear hHeld2
            try simp only [Act.put, List.setIfInBounds_toArray, List.set_cons_zero, List.set_cons_succ]
            refine take_drop 17 (v := ?_) rfl (by kernel_rfl) (by kernel_rfl) (by kernel_rfl) (fun _ _ _ h => h) (by rfl) ?_ (by assumption) ?_
            rotate_left 1
            · (intro w hSw; obtain ⟨hSw1, hSw2, hSw3⟩ := hSw; go_simp; try with_reducible rfl)
            try simp only [Act.put, List.setIfInBounds_toArray, List.set_cons_zero, List.set_cons_succ]
            refine take_drop 18 (v := ?_) rfl (by kernel_rfl) (by kernel_rfl) (by kernel_rfl) (fun _ _ _ h => h) (by rfl) ?_ (by assumption) ?_
            rotate_left 1
            · (intro w hSw; obtain ⟨hSw1, hSw2, hSw3⟩ := hSw; go_simp; try with_reducible rfl)
            try simp only [Act.put, List.setIfInBounds_toArray, List.set_cons_zero, List.set_cons_succ]
            have HR3 := Lib.hid (HRD.out.set2 (wrap64 (r + y.acc)))
            refine wpAnyH_ready (rs := [19]) (by kernel_rfl) (by simp) ?_
            refine ready_drop rfl (fun K hK => ?_) AllReadyH.nil
            go_simp
            refine hK.out _ _ (HSB.out _ _ _ _ _ HR3.out) (fun hHeld2 => ?_)
            clear hK K hHeld
            have hHeld := hHeld2
            clear hHeld2
            try simp only [Act.put, List.setIfInBounds_toArray, List.set_cons_zero, List.set_cons_succ]
            refine take_drop 20 (v := ?_) rfl (by kernel_rfl) (by kernel_rfl) (by kernel_rfl) (fun _ _ _ h => h) (by rfl) ?_ (by assumption) ?_
            rotate_left 1
            · (intro w hSw; obtain ⟨hSw1, hSw2, hSw3⟩ := hSw; go_simp; try with_reducible rfl)
            try simp only [Act.put, List.setIfInBounds_toArray, List.set_cons_zero, List.set_cons_succ]
            have HR4 := Lib.hid (HR3.out.set3 (wrap64 (g + y.msg)))
            clear HR3
            refine wpAnyH_ready (rs := [21]) (by kernel_rfl) (by simp) ?_
            refine ready_drop rfl (fun K hK => ?_) AllReadyH.nil
            go_simp
            refine hK.out _ _ (HSB.out _ _ _ _ _ HR4.out) (fun hHeld2 => ?_)
            clear hK K hHeld
            have hHeld := hHeld2
            clear hHeld2
            try simp only [Act.put, List.setIfInBounds_toArray, List.set_cons_zero, List.set_cons_succ]
            refine wpAnyH_done (by kernel_rfl) ?_ _
            clear z0 z1 z2 z3 y0 y1 y2 y3 HRD hHeld
            generalize (WD.setCell ⟨X, 2, none⟩ (.int .i64 (wrap64 (r + y.acc)))).setCell ⟨X, 3, none⟩ (.int .i64 (wrap64 (g + y.msg))) = WF at *
            clear WD
            go_wp2_with fail
            go_meet
            case rel => exact ⟨q + 1, _, _, _, _, by go_num, Lib.hid (.inl ⟨rfl, rfl, fun u hu => by rw [HYS.out] at hu; cases hu; exact ⟨rfl, rfl, rfl, rfl⟩⟩), HR4⟩
          · go_simp
            refine hK.out _ _ hHeld (fun hHeld2 => ?_)
            clear hK K hHeld
            have hHeld := hHeld2
            clear hHeld2
            try simp only [Act.put, List.setIfInBounds_toArray, List.set_cons_zero, List.set_cons_succ]
            refine take_drop 17 (v := ?_) rfl (by kernel_rfl) (by kernel_rfl) (by kernel_rfl) (fun _ _ _ h => h) (by rfl) ?_ (by assumption) ?_
            rotate_left 1
            · (intro w hSw; obtain ⟨hSw1, hSw2, hSw3⟩ := hSw; go_simp; try with_reducible rfl)
            try simp only [Act.put, List.setIfInBounds_toArray, List.set_cons_zero, List.set_cons_succ]
            refine wpAnyH_ready (rs := [1]) (by kernel_rfl) (by simp) ?_
            refine ready_drop rfl (fun K hK => ?_) AllReadyH.nil
            go_simp
            refine hK.out _ _ hHeld (fun hHeld2 => ?_)
            clear hK K hHeld
            have hHeld := hHeld2
            clear hHeld2
            try simp only [Act.put, List.setIfInBounds_toArray, List.set_cons_zero, List.set_cons_succ]
            refine take_drop 8 (v := ?_) rfl (by kernel_rfl) (by kernel_rfl) (by kernel_rfl) (fun _ _ _ h => h) (by rfl) ?_ (by assumption) ?_
            rotate_left 1
            · (intro w hSw; obtain ⟨hSw1, hSw2, hSw3⟩ := hSw; go_simp; try with_reducible rfl)
            try simp only [Act.put, List.setIfInBounds_toArray, List.set_cons_zero, List.set_cons_succ]
            refine take_drop 18 (v := ?_) rfl (by kernel_rfl) (by kernel_rfl) (by kernel_rfl) (fun _ _ _ h => h) (by rfl) ?_ (by assumption) ?_
            rotate_left 1
            · (intro w hSw; obtain ⟨hSw1, hSw2, hSw3⟩ := hSw; go_simp; try with_reducible rfl)
            try simp only [Act.put, List.setIfInBounds_toArray, List.set_cons_zero, List.set_cons_succ]
            have HR3 := Lib.hid (HRD.out.set2 (wrap64 (r + y.acc)))
            refine wpAnyH_ready (rs := [19]) (by kernel_rfl) (by simp) ?_
            refine ready_drop rfl (fun K hK => ?_) AllReadyH.nil
            go_simp
            refine hK.out _ _ (HSB.out _ _ _ _ _ HR3.out) (fun hHeld2 => ?_)
            clear hK K hHeld
            have hHeld := hHeld2
            clear hHeld2
            try simp only [Act.put, List.setIfInBounds_toArray, List.set_cons_zero, List.set_cons_succ]
            refine take_drop 20 (v := ?_) rfl (by kernel_rfl) (by kernel_rfl) (by kernel_rfl) (fun _ _ _ h => h) (by rfl) ?_ (by assumption) ?_
            rotate_left 1
            · (intro w hSw; obtain ⟨hSw1, hSw2, hSw3⟩ := hSw; go_simp; try with_reducible rfl)
            try simp only [Act.put, List.setIfInBounds_toArray, List.set_cons_zero, List.set_cons_succ]
            have HR4 := Lib.hid (HR3.out.set3 (wrap64 (g + y.msg)))
            clear HR3
            refine wpAnyH_ready (rs := [21]) (by kernel_rfl) (by simp) ?_
            refine ready_drop rfl (fun K hK => ?_) AllReadyH.nil
            go_simp
            refine hK.out _ _ (HSB.out _ _ _ _ _ HR4.out) (fun hHeld2 => ?_)
            clear hK K hHeld
            have hHeld := hHeld2
            clear hHeld2
            try simp only [Act.put, List.setIfInBounds_toArray, List.set_cons_zero, List.set_cons_succ]
            refine wpAnyH_done (by kernel_rfl) ?_ _
            clear z0 z1 z2 z3 y0 y1 y2 y3 HRD hHeld
            generalize (WD.setCell ⟨X, 2, none⟩ (.int .i64 (wrap64 (r + y.acc)))).setCell ⟨X, 3, none⟩ (.int .i64 (wrap64 (g + y.msg))) = WF at *
            clear WD
            go_wp2_with fail
            go_meet
            case rel => exact ⟨q + 1, _, _, _, _, by go_num, Lib.hid (.inl ⟨rfl, rfl, fun u hu => by rw [HYS.out] at hu; cases hu; exact ⟨rfl, rfl, rfl, rfl⟩⟩), HR4⟩
      case rest =>
      obtain ⟨q', f', a', r', g', rfl, HQ, HRX4⟩ := hcut
      obtain ⟨z, hz, rfl, rfl, rfl, rfl, hp', hq', hpp, hqq, hsum⟩ := half_mrg HF.out HS.out HP.out HQ.out
      have hp1 : p' ≤ n := by rw [HNL.out]; exact hp' (by rw [← HNL.out]; exact hp)
      have hq1 : q' ≤ m := by rw [HML.out]; exact hq' (by rw [← HML.out]; exact hq)
      clear hp' hq'
      have HMG := Lib.hid hz
      have hz1 := HRX4.out.blk.cell 2
      have hz2 := HRX4.out.blk.cell 3
      have hz3 := HRX4.out.blk.cell 0
      have hz4 := HRX4.out.blk.cell 1
      simp only [List.getElem?_toArray, List.getElem?_cons_succ, List.getElem?_cons_zero] at hz1 hz2 hz3 hz4
      clear hz HRX3 HF HS HP HQ hend
      generalize wc = W5 at *
      by_cases hnil : nilE z = true
      · as_aux_lemma =>
        obtain ⟨n1, n2⟩ : z.acc = 0 ∧ z.msg = 0 := by simpa [nilE] using hnil
        have m1 : (z.acc != 0) = false := by simp [n1]
        have m2 : (z.msg != 0) = false := by simp [n2]
        have HN := Lib.hid hnil
        clear n1 n2 hnil
        go_wp2_with fail
        go_roundw
        case rel =>
          refine ⟨p', q', D ++ [z], by omega, by omega, by go_num, by go_num, Lib.hid (by rw [HD.out, HMG.out]; simp), by simp; omega, ?_, HRX4.out.mem⟩
          rw [List.filter_append, show ([z].filter (fun x => !nilE x)) = [] by simp [HN.out], List.append_nil]
          exact HRX4.out.row
        case measure => simp [intOf]; omega
      · have HN : Hid ((D ++ [z]).filter (fun x => !nilE x) = D.filter (fun x => !nilE x) ++ [z]) := Lib.hid (by rw [List.filter_append]; simp [hnil])
        have hll : (D.filter (fun x => !nilE x)).length ≤ D.length := List.length_filter_le _ _
        have hbs := HRX4.out.mem.below.size
        by_cases hacc : z.acc = 0
        · as_aux_lemma =>
          have m1 : (z.acc != 0) = false := by simp [hacc]
          have m2 : (z.msg != 0) = true := by
            have : z.msg ≠ 0 := fun h => hnil (by simp [nilE, hacc, h])
            simpa using this
          clear hacc hnil
          go_wp2_with
            (at_builtin
             refine wpList_append_own_at _ rfl _ _ 22 rfl w.heap.size 60 i0 (.agg #[.int .i64 0, .int .i64 0, .int .i64 0, .int .i64 0]) 4 32 Tryz.underlying22 hi hy0 hy1 hy2 rfl (by decide) (.slice Ao (D.filter (fun x => !nilE x)).length co) _ _ rfl (HRX4.out.row.alloc _) ⟨W5.heap.size, 0, none⟩ 1 1 (encEL z) rfl rfl (cells_new' _ (encEL z) _ _ rfl) (edg_one2 _) (by unfold maxLen; omega) (by omega) (by simp; omega) ?_
             intro v' w6 hrow' hgrow _ hob)
          go_roundw
          case rel =>
            refine ⟨p', q', D ++ [z], by omega, by omega, by go_num, by go_num, Lib.hid (by rw [HD.out, HMG.out]; simp), by simp; omega, ?_, HRX4.out.mem.grow HRX4.out.row hgrow⟩
            rw [HN.out, List.length_append, List.flatMap_append]
            simpa [encEL] using hrow'
          case measure => simp [intOf]; omega
        · as_aux_lemma =>
          have m1 : (z.acc != 0) = true := by simpa using hacc
          clear hacc hnil
          go_wp2_with
            (at_builtin
             refine wpList_append_own_at _ rfl _ _ 22 rfl w.heap.size 60 i0 (.agg #[.int .i64 0, .int .i64 0, .int .i64 0, .int .i64 0]) 4 32 Tryz.underlying22 hi hy0 hy1 hy2 rfl (by decide) (.slice Ao (D.filter (fun x => !nilE x)).length co) _ _ rfl (HRX4.out.row.alloc _) ⟨W5.heap.size, 0, none⟩ 1 1 (encEL z) rfl rfl (cells_new' _ (encEL z) _ _ rfl) (edg_one2 _) (by unfold maxLen; omega) (by omega) (by simp; omega) ?_
             intro v' w6 hrow' hgrow _ hob)
          go_roundw
          case rel =>
            refine ⟨p', q', D ++ [z], by omega, by omega, by go_num, by go_num, Lib.hid (by rw [HD.out, HMG.out]; simp), by simp; omega, ?_, HRX4.out.mem.grow HRX4.out.row hgrow⟩
            rw [HN.out, List.length_append, List.flatMap_append]
            simpa [encEL] using hrow'
          case measure => simp [intOf]; omega
end Go.Proofs.YtghjhlenkgkelaaGreatDoor
