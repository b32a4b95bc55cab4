/- DERIVED. Allocate: the interval that goes without is taken out of those that are active. -/
import Derived.Test.YtpahhcmiimllaaaGreatDoorPush
import Derived.Test.YtpahhcmiimllaaaGreatDoorHeldL
import Derived.Laws.StructEq
set_option linter.unusedSimpArgs false
set_option linter.unusedVariables false
namespace Go.Proofs.YtpahhcmiimllaaaGreatDoor
open Go.RowKit Go.Shelf
attribute [local go_sem] Oper.semAt_some

/-- all blocks but those of ints, and of slices of ints, are as they were -/
def KeptI (W W' : World) : Prop := W.heap.size ≤ W'.heap.size ∧ ∀ g t cs, BlkAt W g t cs → t ≠ 3 → t ≠ 27 → BlkAt W' g t cs
theorem KeptI.refl (W : World) : KeptI W W := ⟨Nat.le_refl _, fun _ _ _ h _ _ => h⟩
theorem KeptI.trans {A B C : World} (h : KeptI A B) (k : KeptI B C) : KeptI A C := ⟨Nat.le_trans h.1 k.1, fun g t cs hb h1 h2 => k.2 g t cs (h.2 g t cs hb h1 h2) h1 h2⟩
theorem KeptI.below {W W' : World} (h : Below W.heap.size W W') : KeptI W W' := ⟨h.size, fun _ _ _ hb _ _ => hb.below h hb.lt⟩
/-- plan and free registers in memory -/
structure ScanM (B Pb Fb : Nat) (vm vs : Value) (Af : Option Addr) (cf : Nat) (p : Pln) (free : List Int) (W : World) : Prop where
  plan : BlkAt W Pb 29 #[vm, vs, .int .i64 p.slots]
  fvar : BlkAt W Fb 27 #[.slice Af free.length cf]
  fr : FRow W B Af free.length cf free
  mach : W.ownsRow B 3 1 vm p.mach.length (p.mach.map (Value.int .i64))
  slot : W.ownsRow B 3 1 vs p.slot.length (p.slot.map (Value.int .i64))
  ne1 : ∀ j, vm.ownBlock = some j → vs.ownBlock ≠ some j
  ne2 : ∀ j, (Value.slice Af free.length cf).ownBlock = some j → vm.ownBlock ≠ some j ∧ vs.ownBlock ≠ some j
  lowP : B ≤ Pb
  lowF : B ≤ Fb
theorem frow_int {W : World} {B n c j : Nat} {A : Option Addr} {xs : List Int} (h : FRow W B A n c xs) (hj : (Value.slice A n c).ownBlock = some j) : B ≤ j ∧ j < W.heap.size ∧ ∃ cs, BlkAt W j 3 cs := by
  rcases h.form with ⟨rfl, _⟩ | ⟨g, off, cs, rfl, h2, h3, _⟩
  · simp [Value.ownBlock] at hj
  · simp [Value.ownBlock] at hj
    subst hj
    exact ⟨h2, h3.lt, cs, h3⟩
theorem own_int {W : World} {B n j : Nat} {e : TypeId} {v : Value} {xs : List Value} (h : W.ownsRow B e 1 v n xs) (hj : v.ownBlock = some j) : ∃ cs, BlkAt W j e cs := by
  rcases h.2 with ⟨rfl, _⟩ | ⟨g, cap, cur, rfl, _, h3, _⟩
  · simp [Value.ownBlock] at hj
  · simp [Value.ownBlock] at hj
    subst hj
    exact ⟨cur, h3⟩
section
variable {B Pb Fb : Nat} {vm vs : Value} {Af : Option Addr} {cf : Nat} {p : Pln} {free : List Int} {W W' : World}
theorem ScanM.kept {row : Option Nat} (h : ScanM B Pb Fb vm vs Af cf p free W) (hg : W.grownBy W' row) (hr : ∀ j, row = some j → ∃ t cs, BlkAt W j t cs ∧ t ≠ 3 ∧ t ≠ 27 ∧ t ≠ 29) : ScanM B Pb Fb vm vs Af cf p free W' := by
  have hp : some Pb ≠ row := fun e => by
    obtain ⟨t, cs, h1, _, _, h2⟩ := hr Pb e.symm
    exact blk_blk_ne h1 h.plan h2 rfl
  have hf : some Fb ≠ row := fun e => by
    obtain ⟨t, cs, h1, _, h2, _⟩ := hr Fb e.symm
    exact blk_blk_ne h1 h.fvar h2 rfl
  have hi : ∀ j cs', BlkAt W j 3 cs' → some j ≠ row := fun j cs' hb e => by
    obtain ⟨t, cs, h1, h2, _⟩ := hr j e.symm
    exact blk_blk_ne h1 hb h2 rfl
  exact ⟨h.plan.kept hg hp, h.fvar.kept hg hf, h.fr.kept hg (fun j hj => by obtain ⟨_, _, cs, hb⟩ := frow_int h.fr hj; exact hi j cs hb),
    own_keepG h.mach hg (fun j hj => by obtain ⟨cs, hb⟩ := own_int h.mach hj; exact hi j cs hb), own_keepG h.slot hg (fun j hj => by obtain ⟨cs, hb⟩ := own_int h.slot hj; exact hi j cs hb), h.ne1, h.ne2, h.lowP, h.lowF⟩
theorem ScanM.size (h : ScanM B Pb Fb vm vs Af cf p free W) : B ≤ W.heap.size := Nat.le_trans h.lowP (Nat.le_of_lt h.plan.lt)
theorem ScanM.below (h : ScanM B Pb Fb vm vs Af cf p free W) (hb : Below W.heap.size W W') : ScanM B Pb Fb vm vs Af cf p free W' := h.kept (row := none) (grown_of_below hb) (fun _ e => by cases e)
/-- the free registers' row is another one -/
theorem ScanM.setFree (h : ScanM B Pb Fb vm vs Af cf p free W) {Af' : Option Addr} {cf' : Nat} {free' : List Int} (hg : W.grownBy W' (Value.slice Af free.length cf).ownBlock) (hf : FRow W' B Af' free'.length cf' free') (hob : ∀ j, (Value.slice Af' free'.length cf').ownBlock = some j → some j = (Value.slice Af free.length cf).ownBlock ∨ W.heap.size ≤ j) :
    ScanM B Pb Fb vm vs Af' cf' p free' (W'.setCell ⟨Fb, 0, none⟩ (.slice Af' free'.length cf')) := by
  have hF : some Fb ≠ (Value.slice Af free.length cf).ownBlock := fun e => by
    obtain ⟨_, _, cs, hb⟩ := frow_int h.fr e.symm
    exact blk_blk_ne hb h.fvar (by decide) rfl
  have hP : some Pb ≠ (Value.slice Af free.length cf).ownBlock := fun e => by
    obtain ⟨_, _, cs, hb⟩ := frow_int h.fr e.symm
    exact blk_blk_ne hb h.plan (by decide) rfl
  have hfv := h.fvar.kept hg hF
  have hgs := setCell_grown W' Fb 0 (.slice Af' free'.length cf')
  have hm := own_keepG h.mach hg (fun j hj e => (h.ne2 j e.symm).1 hj)
  have hs := own_keepG h.slot hg (fun j hj e => (h.ne2 j e.symm).2 hj)
  have hne : ∀ j cs, BlkAt W' j 3 cs → some j ≠ some Fb := fun j cs hb e => by
    cases e
    exact blk_blk_ne hb hfv (by decide) rfl
  refine ⟨(h.plan.kept hg hP).kept hgs (fun e => ?_), ?_, hf.kept hgs (fun j hj => by obtain ⟨_, _, cs, hb⟩ := frow_int hf hj; exact hne j cs hb), own_keepG hm hgs (fun j hj => by obtain ⟨cs, hb⟩ := own_int hm hj; exact hne j cs hb), own_keepG hs hgs (fun j hj => by obtain ⟨cs, hb⟩ := own_int hs hj; exact hne j cs hb), h.ne1, fun j hj => ?_, h.lowP, h.lowF⟩
  · cases e
    exact blk_blk_ne h.plan h.fvar (by decide) rfl
  · have := hfv.set 0 (.slice Af' free'.length cf')
    simpa using this
  · rcases hob j hj with e | e
    · exact h.ne2 j e.symm
    · exact ⟨fun e2 => by have := (own_lt h.mach e2).2; omega, fun e2 => by have := (own_lt h.slot e2).2; omega⟩
end
theorem gone_dec (v a : Itv) : decide ((v.frm : Int) ≤ (a.to : Int)) = !gone v a := by
  unfold gone
  by_cases h : a.to < v.frm
  · rw [decide_eq_true h, decide_eq_false (by omega)]; rfl
  · rw [decide_eq_false h, decide_eq_true (by omega)]; rfl
set_option maxRecDepth 100000 in
set_option maxHeartbeats 8000000 in
theorem alloc1_any (B Pb Fb Vb : Nat) (vm vs : Value) (Af : Option Addr) (cf : Nat) (p : Pln) (free : List Int) (a v : Itv) (W : World) (hM : ScanM B Pb Fb vm vs Af cf p free W) (hV : BlkAt W Vb 44 #[.int .i64 v.reg, .int .i64 v.frm, .int .i64 v.to]) (ha : a.reg < p.mach.length) (hs : free.Pairwise (· ≤ ·)) (hn : free.length ≤ 100000) (hpl : p.mach.length ≤ 100000) (hB : B ≤ W.heap.size) :
    Calls Tryz.prog 43 #[.agg #[.int .i64 a.reg, .int .i64 a.frm, .int .i64 a.to], .pointer (some ⟨Vb, 0, none⟩), .pointer (some ⟨Fb, 0, none⟩), .pointer (some ⟨Pb, 0, none⟩)] W fun e W' => e = .returned (.bool (gone v a)) ∧ (∃ Af' cf', ScanM B Pb Fb vm vs Af' cf' p (if gone v a then pushL free (p.mach.getD a.reg (-1)) else free) W') ∧ KeptI W W' ∧ Below B W W' := by
  have HBW := Lib.hid ((Below.refl W.heap.size W).alloc (Nat.le_refl _) (.cells #[.int .i64 a.reg, .int .i64 a.frm, .int .i64 a.to] 44))
  have HA := Lib.hid (BlkAt.new W 44 #[.int .i64 a.reg, .int .i64 a.frm, .int .i64 a.to])
  have HM := Lib.hid (hM.below HBW.out)
  have HV := Lib.hid (hV.below HBW.out hV.lt)
  have v1 := HV.out.cell 1
  have a2 := HA.out.cell 2
  simp only [List.getElem?_toArray, List.getElem?_cons_succ, List.getElem?_cons_zero] at v1 a2
  have hgd := gone_dec v a
  clear hM hV
  cases hg : gone v a with
  | false =>
    have f1 : v.frm ≤ a.to := by
      unfold gone at hg
      have := of_decide_eq_false hg
      omega
    clear hg hgd
    go_enter Tryz.func43, Tryz.ntmps43
    go_wp2_with fail
    go_ret
    exact ⟨rfl, ⟨Af, cf, HM.out⟩, KeptI.below HBW.out, HBW.out.mono hB⟩
  | true =>
    have f1 : ¬ v.frm ≤ a.to := by
      unfold gone at hg
      have := of_decide_eq_true hg
      omega
    have hpl2 : p.mach.length ≤ 100000 := hpl
    obtain ⟨m, hm⟩ := get_some (xs := p.mach) (k := a.reg) ha
    have HMD : Hid (p.mach.getD a.reg (-1) = m) := Lib.hid (by rw [List.getD_eq_getElem?_getD, hm]; rfl)
    rw [HMD.out]
    obtain ⟨Am, cm, hvm, _, _, hAm⟩ := own_slice HM.out.mach
    obtain ⟨gm, hgm, _, _, hcm⟩ := hAm (by omega)
    subst hgm
    subst hvm
    have m0 := hcm a.reg (.int .i64 m) (by rw [List.getElem?_map, hm]; rfl)
    have p0 := HM.out.plan.cell 0
    have e0 := HM.out.fvar.cell 0
    have a0 := HA.out.cell 0
    simp only [List.getElem?_toArray, List.getElem?_cons_succ, List.getElem?_cons_zero] at p0 e0 a0
    have HPU := Lib.hid (fun (q : Nat) => push_any B Af free.length cf m free ((W.alloc (.cells #[.int .i64 a.reg, .int .i64 a.frm, .int .i64 a.to] 44)).drewN q) (HM.out.below (below_draw (Below.refl _ _) q)).fr hs (Nat.le_trans hB HBW.out.size) hn)
    clear hg hgd hcm hAm hm
    go_enter Tryz.func43, Tryz.ntmps43
    go_wp2_with fail
    refine heldL (fun _ => True) (fun w' => w'.cell? ⟨Fb, 0, none⟩ = some (.slice Af free.length cf) ∧ w'.cell? ⟨Pb, 0, none⟩ = some (.slice (some ⟨gm, 0, none⟩) p.mach.length cm) ∧ w'.cell? ⟨W.heap.size, 0, none⟩ = some (.int .i64 a.reg) ∧ w'.cell? ⟨gm, a.reg, none⟩ = some (.int .i64 m)) 8 (by kernel_rfl) ?_
    have HMd := Lib.hid (HM.out.below (below_draw (Below.refl _ _) 1))
    have HAd := Lib.hid (HA.out.below (below_draw (Below.refl (W.alloc (.cells #[.int .i64 a.reg, .int .i64 a.frm, .int .i64 a.to] 44)).heap.size (W.alloc (.cells #[.int .i64 a.reg, .int .i64 a.frm, .int .i64 a.to] 44))) 1) HA.out.lt)
    have HPd := Lib.hid (HPU.out 1)
    have HBd := Lib.hid (below_draw HBW.out 1)
    have hHeld : True ∧ (((W.alloc (.cells #[.int .i64 a.reg, .int .i64 a.frm, .int .i64 a.to] 44)).drewN 1).cell? ⟨Fb, 0, none⟩ = some (.slice Af free.length cf) ∧ ((W.alloc (.cells #[.int .i64 a.reg, .int .i64 a.frm, .int .i64 a.to] 44)).drewN 1).cell? ⟨Pb, 0, none⟩ = some (.slice (some ⟨gm, 0, none⟩) p.mach.length cm) ∧ ((W.alloc (.cells #[.int .i64 a.reg, .int .i64 a.frm, .int .i64 a.to] 44)).drewN 1).cell? ⟨W.heap.size, 0, none⟩ = some (.int .i64 a.reg) ∧ ((W.alloc (.cells #[.int .i64 a.reg, .int .i64 a.frm, .int .i64 a.to] 44)).drewN 1).cell? ⟨gm, a.reg, none⟩ = some (.int .i64 m)) := ⟨trivial, e0, p0, a0, m0⟩
    generalize (W.alloc (.cells #[.int .i64 a.reg, .int .i64 a.frm, .int .i64 a.to] 44)).drewN 1 = W3 at *
    clear HPU HM HA HV v1 a2 m0 p0 e0 a0
    have k0 : (0 : Int) ≤ (a.reg : Int) := by omega
    have k1 : (a.reg : Int) < (p.mach.length : Int) := by omega
    refine takeL 0 (v := ?_) rfl (by kernel_rfl) (by kernel_rfl) (by kernel_rfl) (by kernel_rfl) (fun _ _ _ h => h) (by rfl) ?_ (by assumption) ?_
    rotate_left 1
    · (intro w hSw; (try dsimp only at hSw); obtain ⟨_, hSw1, hSw2, hSw3, hSw4⟩ := hSw; go_simp; try with_reducible rfl)
    try simp only [Act.put, List.setIfInBounds_toArray, List.set_cons_zero, List.set_cons_succ]
    refine takeL 1 (v := ?_) rfl (by kernel_rfl) (by kernel_rfl) (by kernel_rfl) (by kernel_rfl) (fun _ _ _ h => h) (by rfl) ?_ (by assumption) ?_
    rotate_left 1
    · (intro w hSw; (try dsimp only at hSw); obtain ⟨_, hSw1, hSw2, hSw3, hSw4⟩ := hSw; go_simp; try with_reducible rfl)
    try simp only [Act.put, List.setIfInBounds_toArray, List.set_cons_zero, List.set_cons_succ]
    refine takeL 2 (v := ?_) rfl (by kernel_rfl) (by kernel_rfl) (by kernel_rfl) (by kernel_rfl) (fun _ _ _ h => h) (by rfl) ?_ (by assumption) ?_
    rotate_left 1
    · (intro w hSw; (try dsimp only at hSw); obtain ⟨_, hSw1, hSw2, hSw3, hSw4⟩ := hSw; go_simp; try with_reducible rfl)
    try simp only [Act.put, List.setIfInBounds_toArray, List.set_cons_zero, List.set_cons_succ]
    refine takeL 3 (v := ?_) rfl (by kernel_rfl) (by kernel_rfl) (by kernel_rfl) (by kernel_rfl) (fun _ _ _ h => h) (by rfl) ?_ (by assumption) ?_
    rotate_left 1
    · (intro w hSw; (try dsimp only at hSw); obtain ⟨_, hSw1, hSw2, hSw3, hSw4⟩ := hSw; go_simp; try with_reducible rfl)
    try simp only [Act.put, List.setIfInBounds_toArray, List.set_cons_zero, List.set_cons_succ]
    refine takeL 4 (v := ?_) rfl (by kernel_rfl) (by kernel_rfl) (by kernel_rfl) (by kernel_rfl) (fun _ _ _ h => h) (by rfl) ?_ (by assumption) ?_
    rotate_left 1
    · (intro w hSw; (try dsimp only at hSw); obtain ⟨_, hSw1, hSw2, hSw3, hSw4⟩ := hSw; go_simp; try with_reducible rfl)
    try simp only [Act.put, List.setIfInBounds_toArray, List.set_cons_zero, List.set_cons_succ]
    refine takeL 5 (v := ?_) rfl (by kernel_rfl) (by kernel_rfl) (by kernel_rfl) (by kernel_rfl) (fun _ _ _ h => h) (by rfl) ?_ (by assumption) ?_
    rotate_left 1
    · (intro w hSw; (try dsimp only at hSw); obtain ⟨_, hSw1, hSw2, hSw3, hSw4⟩ := hSw; go_simp; try with_reducible rfl)
    try simp only [Act.put, List.setIfInBounds_toArray, List.set_cons_zero, List.set_cons_succ]
    refine takeL 6 (v := ?_) rfl (by kernel_rfl) (by kernel_rfl) (by kernel_rfl) (by kernel_rfl) (fun _ _ _ h => h) (by rfl) ?_ (by assumption) ?_
    rotate_left 1
    · (intro w hSw; (try dsimp only at hSw); obtain ⟨_, hSw1, hSw2, hSw3, hSw4⟩ := hSw; go_simp; try with_reducible rfl)
    try simp only [Act.put, List.setIfInBounds_toArray, List.set_cons_zero, List.set_cons_succ]
    refine callL 7 (by kernel_rfl) rfl rfl 44 (enters_of Tryz.func44 (by kernel_rfl) rfl) [.tmp 11, .tmp 17] _ rfl [.slice Af free.length cf, .int .i64 m] rfl HPd.out ?_
    rintro e W4 ⟨⟨Af', cf', rfl, hf4, hob4⟩, hg4⟩
    have hlen : (pushL free m).length = free.length + 1 := pushL_length free m
    have HFIN : Hid (ScanM B Pb Fb (.slice (some ⟨gm, 0, none⟩) p.mach.length cm) vs Af' cf' p (pushL free m) (W4.setCell ⟨Fb, 0, none⟩ (.slice Af' (pushL free m).length cf'))) := Lib.hid (HMd.out.setFree hg4 (by rw [hlen]; exact hf4) (by rw [hlen]; exact hob4))
    rw [hlen] at HFIN
    have hF : some Fb ≠ (Value.slice Af free.length cf).ownBlock := fun e => by
      obtain ⟨_, _, cs, hb⟩ := frow_int HMd.out.fr e.symm
      exact blk_blk_ne hb HMd.out.fvar (by decide) rfl
    have hP : some Pb ≠ (Value.slice Af free.length cf).ownBlock := fun e => by
      obtain ⟨_, _, cs, hb⟩ := frow_int HMd.out.fr e.symm
      exact blk_blk_ne hb HMd.out.plan (by decide) rfl
    have hAne : some W.heap.size ≠ (Value.slice Af free.length cf).ownBlock := fun e => by
      obtain ⟨_, _, cs, hb⟩ := frow_int HMd.out.fr e.symm
      exact blk_blk_ne hb HAd.out (by decide) rfl
    have hMne : some gm ≠ (Value.slice Af free.length cf).ownBlock := fun e => (HMd.out.ne2 gm e.symm).1 rfl
    have hfv4 := HMd.out.fvar.kept hg4 hF
    have d0 := hfv4.cell 0
    have d1 := hfv4.frozen 0
    have d2 := (HMd.out.plan.kept hg4 hP).cell 0
    have d3 := (HAd.out.kept hg4 hAne).cell 0
    simp only [List.getElem?_toArray, List.getElem?_cons_succ, List.getElem?_cons_zero] at d0 d2 d3
    have d4 : W4.cell? ⟨gm, a.reg, none⟩ = some (.int .i64 m) := by
      obtain ⟨_, _, cs, hb⟩ : True ∧ True ∧ ∃ cs, BlkAt W3 gm 3 cs := ⟨trivial, trivial, own_int HMd.out.mach rfl⟩
      rw [(hb.kept hg4 hMne).cell, ← hb.cell]; exact hHeld.2.2.2.2
    have HKI : Hid (KeptI W (W4.setCell ⟨Fb, 0, none⟩ (.slice Af' (free.length + 1) cf'))) := Lib.hid (by
      refine (KeptI.below HBd.out).trans ⟨?_, fun g t cs hb h1 h2 => ?_⟩
      · have := hg4.size; simpa [World.setCell] using this
      · refine (hb.kept hg4 (fun e => ?_)).far (fun e => ?_) _
        · obtain ⟨_, _, cs', hb'⟩ := frow_int HMd.out.fr e.symm
          exact blk_blk_ne hb hb' h1 rfl
        · subst e
          exact blk_blk_ne hb HMd.out.fvar h2 rfl)
    have HBE : Hid (Below B W (W4.setCell ⟨Fb, 0, none⟩ (.slice Af' (free.length + 1) cf'))) := Lib.hid (((HBd.out.mono hB).grown hg4 (Nat.le_trans hB HBd.out.size) (fun j e => (frow_int HMd.out.fr e).1)).setCell HMd.out.lowF _)
    have hKeep : (fun w' : World => w'.cell? ⟨Fb, 0, none⟩ = some (.slice Af free.length cf) ∧ w'.cell? ⟨Pb, 0, none⟩ = some (.slice (some ⟨gm, 0, none⟩) p.mach.length cm) ∧ w'.cell? ⟨W.heap.size, 0, none⟩ = some (.int .i64 a.reg) ∧ w'.cell? ⟨gm, a.reg, none⟩ = some (.int .i64 m)) W4 := ⟨d0, d2, d3, d4⟩
    clear hg4 hf4 hob4 hF hP hAne hMne hfv4 d2 d3 d4 HMd HAd HPd HBd hHeld
    refine ⟨_, rfl, ⟨trivial, hKeep⟩, ?_⟩
    clear hKeep
    try simp only [Act.put, List.setIfInBounds_toArray, List.set_cons_zero, List.set_cons_succ]
    refine oneL 8 (by kernel_rfl) rfl (fun K hK => ?_)
    go_simp
    refine hK.out _ _ ⟨trivial, fun h => absurd h (by decide)⟩ ?_
    clear hK d0 d1
    try simp only [Act.put, List.setIfInBounds_toArray, List.set_cons_zero, List.set_cons_succ]
    refine doneL (by kernel_rfl) ?_ _
    go_step
    go_wp2_with fail
    go_ret
    exact ⟨rfl, ⟨_, _, HFIN.out⟩, HKI.out, HBE.out⟩
end Go.Proofs.YtpahhcmiimllaaaGreatDoor
namespace Go.Proofs.YtpahhcmiimllaaaGreatDoor
open Go.RowKit Go.Shelf

section
variable {P : Program} {ops : Array Oper} {Q : Exit → Act → World → Prop} {md : Region.Mode} {S T : World → Prop} {t : Nat}
/-- two operations may come up -/
theorem twoL {fuel : Nat} {listed : Array Bool} {a : Act} {w : World} (i j : Nat) {o o' : Oper} {tl tl' : List Oper} (hr : Region.ready md ops listed = [i, j]) (ho : ops.toList.drop i = o :: tl) (ho' : ops.toList.drop j = o' :: tl')
    (h : ∀ K' : Act → World → Prop, Shut (∀ a w, HS S T t (listed.setIfInBounds i true) w → wpAnyL P md ops Q S T t fuel (listed.setIfInBounds i true) a w → K' a w) → if Region.wanted o (yielded ops a.tmps) = true then Oper.wp P o a w K' Q else K' (a.put o.dst undef) w)
    (h' : ∀ K' : Act → World → Prop, Shut (∀ a w, HS S T t (listed.setIfInBounds j true) w → wpAnyL P md ops Q S T t fuel (listed.setIfInBounds j true) a w → K' a w) → if Region.wanted o' (yielded ops a.tmps) = true then Oper.wp P o' a w K' Q else K' (a.put o'.dst undef) w) : wpAnyL P md ops Q S T t (fuel + 1) listed a w :=
  ⟨fun h0 => (by rw [hr] at h0; cases h0), fun k hk => by
    rw [hr] at hk
    rcases List.mem_cons.1 hk with rfl | hk
    · exact wpOp_step (at_of_drop ho) (fun K' hK => h K' (fun a w hS hW => hK a w ⟨hS, hW⟩))
    · obtain rfl := List.mem_singleton.1 hk
      exact wpOp_step (at_of_drop ho') (fun K' hK => h' K' (fun a w hS hW => hK a w ⟨hS, hW⟩))⟩
end
/-- the plan's block, and two rows of ints that are on their way into it; block B is the body -/
structure PlanX (w0 : World) (bc : Array Value) (B Pb : Nat) (vm vs : Value) (slots : Int) (v1 : Value) (xs1 : List Int) (v2 : Value) (xs2 : List Int) (W : World) : Prop where
  plan : BlkAt W Pb 29 #[vm, vs, .int .i64 slots]
  one : W.ownsRow B 3 1 v1 xs1.length (xs1.map (Value.int .i64))
  two : W.ownsRow B 3 1 v2 xs2.length (xs2.map (Value.int .i64))
  ne : ∀ j, v1.ownBlock = some j → v2.ownBlock ≠ some j
  low : B ≤ Pb
  body : BlkAt W B 51 bc
  bel : Below B w0 W
section
variable {w0 : World} {bc : Array Value} {B Pb : Nat} {vm vs v1 v2 v1' v2' : Value} {slots x : Int} {xs1 xs2 : List Int} {W W' : World}
theorem PlanX.size (h : PlanX w0 bc B Pb vm vs slots v1 xs1 v2 xs2 W) : B ≤ W.heap.size := Nat.le_of_lt h.body.lt
theorem PlanX.kept {row : Option Nat} (h : PlanX w0 bc B Pb vm vs slots v1 xs1 v2 xs2 W) (hg : W.grownBy W' row) (hr : ∀ j, row = some j → B ≤ j ∧ ∃ t cs, BlkAt W j t cs ∧ t ≠ 3 ∧ t ≠ 29 ∧ t ≠ 51) : PlanX w0 bc B Pb vm vs slots v1 xs1 v2 xs2 W' := by
  have hi : ∀ j cs', BlkAt W j 3 cs' → some j ≠ row := fun j cs' hb e => by
    obtain ⟨_, t, cs, h1, h2, _⟩ := hr j e.symm
    exact blk_blk_ne h1 hb h2 rfl
  refine ⟨h.plan.kept hg (fun e => ?_), own_keepG h.one hg (fun j hj => by obtain ⟨cs, hb⟩ := own_int h.one hj; exact hi j cs hb), own_keepG h.two hg (fun j hj => by obtain ⟨cs, hb⟩ := own_int h.two hj; exact hi j cs hb), h.ne, h.low, h.body.kept hg (fun e => ?_), h.bel.grown hg h.size (fun j e => (hr j e).1)⟩
  · obtain ⟨_, t, cs, h1, _, h2, _⟩ := hr Pb e.symm
    exact blk_blk_ne h1 h.plan h2 rfl
  · obtain ⟨_, t, cs, h1, _, _, h2⟩ := hr B e.symm
    exact blk_blk_ne h1 h.body h2 rfl
theorem PlanX.below (h : PlanX w0 bc B Pb vm vs slots v1 xs1 v2 xs2 W) (hb : Below W.heap.size W W') : PlanX w0 bc B Pb vm vs slots v1 xs1 v2 xs2 W' := h.kept (row := none) (grown_of_below hb) (fun _ e => by cases e)
theorem PlanX.alloc (h : PlanX w0 bc B Pb vm vs slots v1 xs1 v2 xs2 W) (o : Obj) : PlanX w0 bc B Pb vm vs slots v1 xs1 v2 xs2 (W.alloc o) := h.below ((Below.refl _ W).alloc (Nat.le_refl _) o)
theorem PlanX.plan_ne (h : PlanX w0 bc B Pb vm vs slots v1 xs1 v2 xs2 W) : some Pb ≠ v1.ownBlock ∧ some Pb ≠ v2.ownBlock :=
  ⟨fun e => by obtain ⟨cs, hb⟩ := own_int h.one e.symm; exact blk_blk_ne hb h.plan (by decide) rfl, fun e => by obtain ⟨cs, hb⟩ := own_int h.two e.symm; exact blk_blk_ne hb h.plan (by decide) rfl⟩
theorem PlanX.body_ne (h : PlanX w0 bc B Pb vm vs slots v1 xs1 v2 xs2 W) : some B ≠ v1.ownBlock ∧ some B ≠ v2.ownBlock :=
  ⟨fun e => by obtain ⟨cs, hb⟩ := own_int h.one e.symm; exact blk_blk_ne hb h.body (by decide) rfl, fun e => by obtain ⟨cs, hb⟩ := own_int h.two e.symm; exact blk_blk_ne hb h.body (by decide) rfl⟩
theorem PlanX.app1 (h : PlanX w0 bc B Pb vm vs slots v1 xs1 v2 xs2 W) (hr : W'.ownsRow B 3 1 v1' (xs1.length + 1) (xs1.map (Value.int .i64) ++ [.int .i64 x])) (hg : W.grownBy W' v1.ownBlock) (hob : v1'.ownBlock = v1.ownBlock ∨ v1'.ownBlock = some W.heap.size) : PlanX w0 bc B Pb vm vs slots v1' (xs1 ++ [x]) v2 xs2 W' := by
  refine ⟨h.plan.kept hg h.plan_ne.1, by simpa using hr, own_keepG h.two hg (fun j hj e => h.ne j e.symm hj), fun j hj => ?_, h.low, h.body.kept hg h.body_ne.1, h.bel.grown hg h.size (fun j e => (own_lt h.one e).1)⟩
  rcases hob with e | e
  · exact h.ne j (by rw [← e]; exact hj)
  · rw [e] at hj
    cases hj
    exact fun e2 => by have := (own_lt h.two e2).2; omega
theorem PlanX.app2 (h : PlanX w0 bc B Pb vm vs slots v1 xs1 v2 xs2 W) (hr : W'.ownsRow B 3 1 v2' (xs2.length + 1) (xs2.map (Value.int .i64) ++ [.int .i64 x])) (hg : W.grownBy W' v2.ownBlock) (hob : v2'.ownBlock = v2.ownBlock ∨ v2'.ownBlock = some W.heap.size) : PlanX w0 bc B Pb vm vs slots v1 xs1 v2' (xs2 ++ [x]) W' := by
  refine ⟨h.plan.kept hg h.plan_ne.2, own_keepG h.one hg (fun j hj e => h.ne j hj e.symm), by simpa using hr, fun j hj => ?_, h.low, h.body.kept hg h.body_ne.2, h.bel.grown hg h.size (fun j e => (own_lt h.two e).1)⟩
  rcases hob with e | e
  · rw [e]; exact h.ne j hj
  · rw [e]
    intro e2
    cases e2
    have := (own_lt h.one hj).2; omega
theorem PlanX.stores (h : PlanX w0 bc B Pb vm vs slots v1 xs1 v2 xs2 W) : PlanX w0 bc B Pb v1 v2 slots v1 xs1 v2 xs2 ((W.setCell ⟨Pb, 0, none⟩ v1).setCell ⟨Pb, 1, none⟩ v2) := by
  have g1 := setCell_grown W Pb 0 v1
  have g2 := setCell_grown (W.setCell ⟨Pb, 0, none⟩ v1) Pb 1 v2
  have hb := (h.plan.set 0 v1).set 1 v2
  have hne : B ≠ Pb := fun e => by
    have := h.body
    rw [e] at this
    exact blk_blk_ne this h.plan (by decide) rfl
  refine ⟨by simpa using hb, own_keepG (own_keepG h.one g1 (fun j hj e => h.plan_ne.1 (by rw [← e]; exact hj.symm))) g2 (fun j hj e => h.plan_ne.1 (by rw [← e]; exact hj.symm)), own_keepG (own_keepG h.two g1 (fun j hj e => h.plan_ne.2 (by rw [← e]; exact hj.symm))) g2 (fun j hj e => h.plan_ne.2 (by rw [← e]; exact hj.symm)), h.ne, h.low, (h.body.far hne _).far hne _, (h.bel.setCell h.low _).setCell h.low _⟩
theorem PlanX.keptHigh {row : Option Nat} {K : Nat} (h : PlanX w0 bc B Pb vm vs slots v1 xs1 v2 xs2 W) (hg : W.grownBy W' row) (hr : ∀ j, row = some j → K ≤ j) (hP : Pb < K) (h1 : ∀ j, v1.ownBlock = some j → j < K) (h2 : ∀ j, v2.ownBlock = some j → j < K) : PlanX w0 bc B Pb vm vs slots v1 xs1 v2 xs2 W' := by
  have hl := h.low
  exact ⟨h.plan.kept hg (fun e => by have := hr Pb e.symm; omega), own_keepG h.one hg (fun j hj e => by have := hr j e.symm; have := h1 j hj; omega), own_keepG h.two hg (fun j hj e => by have := hr j e.symm; have := h2 j hj; omega), h.ne, h.low, h.body.kept hg (fun e => by have := hr B e.symm; omega), h.bel.grown hg h.size (fun j e => by have := hr j e; omega)⟩
end
def PlanM (w0 : World) (bc : Array Value) (B Pb : Nat) (vm vs : Value) (p : Pln) (W : World) : Prop := PlanX w0 bc B Pb vm vs p.slots vm p.mach vs p.slot W
theorem news_blk {W : World} {bl : Nat} {u : Value} (h : BlkAt W bl 3 #[u]) : ∀ j v, [u][j]? = some v → W.cell? ((⟨bl, 0, none⟩ : Addr).add j) = some v := fun j v hj => by
  rw [add_plain', h.cell]; simpa using hj
def slotOf (args r : Nat) : Int := if r < args then (r : Int) else -1
theorem plan0_succ (r args : Nat) : (plan0 (r + 1) args).mach = (plan0 r args).mach ++ [-1] ∧ (plan0 (r + 1) args).slot = (plan0 r args).slot ++ [slotOf args r] := by
  unfold plan0 slotOf
  simp only
  rw [List.replicate_succ', List.range_succ, List.map_append]
  exact ⟨rfl, rfl⟩
theorem plan0_len (r args : Nat) : (plan0 r args).mach.length = r ∧ (plan0 r args).slot.length = r := by unfold plan0; simp
theorem map_ofNat_snoc (m : Nat) : ((List.range m).map Int.ofNat).map (Value.int .i64) ++ [.int .i64 (m : Int)] = ((List.range (m + 1)).map Int.ofNat).map (Value.int .i64) := by
  rw [List.range_succ, List.map_append, List.map_append]; rfl
theorem frow_own {W : World} {base n c : Nat} {A : Option Addr} {xs : List Int} (h : W.ownsRow base 3 1 (.slice A n c) n (xs.map (Value.int .i64))) : FRow W base A n c xs := by
  have hl := h.1
  rw [List.length_map, Nat.mul_one] at hl
  rcases h.2 with ⟨hv, h0⟩ | ⟨g, cap, cur, hv, hb, hh, h1, h2, h3, ht⟩
  · cases hv
    exact ⟨hl, Nat.le_refl _, Nat.zero_le _, .inl ⟨rfl, rfl⟩⟩
  · cases hv
    refine ⟨hl, h1, h2, .inr ⟨g, 0, cur, rfl, hb, hh, by omega, fun j x hj => ?_⟩⟩
    rw [Nat.mul_one] at ht
    have hjl := (List.getElem?_eq_some_iff.1 hj).1
    have := congrArg (fun l => l[j]?) ht
    simp only [List.getElem?_take_of_lt (show j < n by omega), List.getElem?_map, hj, Array.getElem?_toList] at this
    rw [Nat.zero_add]; exact this
/-- the steps of the scan -/
theorem step_some {args : Nat} {s : Scn} {v : Itv} {m : Int} {rest : List Int} (h : freed s.p.mach s.free (s.active.filter (gone v)) = m :: rest) : scanStep args s v = ⟨rest, s.active.filter (fun a => !gone v a) ++ [v], ⟨s.p.mach.set v.reg m, s.p.slot, s.p.slots⟩⟩ := by
  unfold scanStep
  simp only [h]
theorem step_own {args : Nat} {s : Scn} {v : Itv} (h : freed s.p.mach s.free (s.active.filter (gone v)) = []) (hw : worstOf v (s.active.filter (fun a => !gone v a)) = v) : scanStep args s v = ⟨[], s.active.filter (fun a => !gone v a), spill args v s.p⟩ := by
  unfold scanStep
  simp only [h, hw, if_true]
theorem step_other2 {args : Nat} {s : Scn} {v x : Itv} (h : freed s.p.mach s.free (s.active.filter (gone v)) = []) (hw : worstOf v (s.active.filter (fun a => !gone v a)) = x) (hne : x ≠ v) : scanStep args s v = ⟨[], (s.active.filter (fun a => !gone v a)).filter (fun a => !decide (a = x)) ++ [v], ⟨((spill args x s.p).mach.set v.reg ((spill args x s.p).mach.getD x.reg (-1))).set x.reg (-1), (spill args x s.p).slot, (spill args x s.p).slots⟩⟩ := by
  unfold scanStep
  simp only [h, hw]
  rw [if_neg hne]
theorem worse_or (a w : Itv) : decide ((0 : Int) < orI (cmpI (a.to : Int) (w.to : Int)) (cmpI (a.reg : Int) (w.reg : Int))) = worse a w := by
  unfold worse orI cmpI
  rcases Nat.lt_trichotomy a.to w.to with h | h | h
  · have h1 : (a.to : Int) < (w.to : Int) := by omega
    rw [if_pos h1, if_pos (by omega), decide_eq_false (by omega), decide_eq_false (by omega), decide_eq_false (show ¬ a.to = w.to by omega)]; rfl
  · have h1 : ¬ (a.to : Int) < (w.to : Int) := by omega
    have h2 : ¬ (w.to : Int) < (a.to : Int) := by omega
    rw [if_neg h1, if_neg h2, if_neg (by omega), decide_eq_false (show ¬ w.to < a.to by omega), decide_eq_true h, Bool.false_or, Bool.true_and]
    rcases Nat.lt_trichotomy a.reg w.reg with k | k | k
    · rw [if_pos (by omega), decide_eq_false (by omega), decide_eq_false (by omega)]
    · rw [if_neg (by omega), if_neg (by omega), decide_eq_false (by omega), decide_eq_false (by omega)]
    · rw [if_neg (by omega), if_pos (by omega), decide_eq_true (by omega), decide_eq_true (by omega)]
  · have h1 : ¬ (a.to : Int) < (w.to : Int) := by omega
    have h2 : (w.to : Int) < (a.to : Int) := by omega
    rw [if_neg h1, if_pos h2, if_pos (by omega), decide_eq_true (by omega), decide_eq_true (show w.to < a.to by omega)]; rfl
end Go.Proofs.YtpahhcmiimllaaaGreatDoor
namespace Go.Proofs.YtpahhcmiimllaaaGreatDoor
open Go.RowKit Go.Shelf

/-- what the scan leaves as it was -/
structure Ctx (w0 : World) (bc : Array Value) (B K : Nat) (vI : Value) (l : List Itv) (W : World) : Prop where
  bel : Below B w0 W
  body : BlkAt W B 51 bc
  rowI : W.ownsRow B 44 3 vI l.length (l.flatMap encItv)
  hI : ∀ j, vI.ownBlock = some j → j < K
  hK : K ≤ W.heap.size
  hB : B < K
section
variable {w0 : World} {bc : Array Value} {B K : Nat} {vI : Value} {l : List Itv} {W W' : World}
theorem Ctx.size (h : Ctx w0 bc B K vI l W) : B ≤ W.heap.size := Nat.le_of_lt h.body.lt
theorem Ctx.grown {row : Option Nat} (h : Ctx w0 bc B K vI l W) (hg : W.grownBy W' row) (hr : ∀ j, row = some j → B ≤ j ∧ j ≠ B ∧ vI.ownBlock ≠ some j) : Ctx w0 bc B K vI l W' :=
  ⟨h.bel.grown hg h.size (fun j e => (hr j e).1), h.body.kept hg (fun e => (hr B e.symm).2.1 rfl), own_keepG h.rowI hg (fun j hj e => (hr j e.symm).2.2 hj), h.hI, Nat.le_trans h.hK hg.size, h.hB⟩
theorem Ctx.high {row : Option Nat} (h : Ctx w0 bc B K vI l W) (hg : W.grownBy W' row) (hr : ∀ j, row = some j → K ≤ j) : Ctx w0 bc B K vI l W' :=
  h.grown hg (fun j e => by have := hr j e; have := h.hB; exact ⟨by omega, by omega, fun e2 => by have := h.hI j e2; omega⟩)
theorem Ctx.below (h : Ctx w0 bc B K vI l W) (hb : Below W.heap.size W W') : Ctx w0 bc B K vI l W' := h.grown (row := none) (grown_of_below hb) (fun _ e => by cases e)
theorem Ctx.keptI (h : Ctx w0 bc B K vI l W) (hk : KeptI W W') (hb : Below B W W') : Ctx w0 bc B K vI l W' := by
  refine ⟨h.bel.trans hb, hk.2 _ _ _ h.body (by decide) (by decide), ⟨h.rowI.1, h.rowI.2.imp id ?_⟩, h.hI, Nat.le_trans h.hK hb.size, h.hB⟩
  rintro ⟨g, cap, cur, h1, h2, h3, h4⟩
  exact ⟨g, cap, cur, h1, h2, hk.2 _ _ _ h3 (by decide) (by decide), h4⟩
/-- a store into another kind of block -/
theorem Ctx.cell (h : Ctx w0 bc B K vI l W) {g i : Nat} {t : TypeId} {cs : Array Value} (hg : BlkAt W g t cs) (hB : B ≤ g) (h1 : t ≠ 51) (h2 : t ≠ 44) (u : Value) : Ctx w0 bc B K vI l (W.setCell ⟨g, i, none⟩ u) :=
  h.grown (setCell_grown W g i u) (fun j e => by
    cases e
    refine ⟨hB, fun e => ?_, fun e => ?_⟩
    · subst e; exact blk_blk_ne hg h.body h1 rfl
    · rcases h.rowI.2 with ⟨rfl, _⟩ | ⟨g', cap, cur, rfl, _, h3, _⟩
      · simp [Value.ownBlock] at e
      · simp [Value.ownBlock] at e
        subst e
        exact blk_blk_ne hg h3 h2 rfl)
end
/-- an element of a row of ints is stored -/
theorem own_setI {W : World} {B n g i : Nat} {v : Value} {xs : List Int} (h : W.ownsRow B 3 1 v n (xs.map (Value.int .i64))) (hv : v.ownBlock = some g) (hi : i < n) (y : Int) : (W.setCell ⟨g, i, none⟩ (.int .i64 y)).ownsRow B 3 1 v n ((xs.set i y).map (Value.int .i64)) := by
  have hl := h.1
  refine ⟨by simpa using hl, h.2.imp (fun hh => hh) ?_⟩
  rintro ⟨g', cap, cur, rfl, h2, h3, h4, h5, h6, h7⟩
  simp [Value.ownBlock] at hv
  subst hv
  refine ⟨g', cap, cur.setIfInBounds i (.int .i64 y), rfl, h2, BlkAt.set (show BlkAt W g' 3 cur from h3) i _, h4, h5, by simpa using h6, ?_⟩
  rw [Array.toList_setIfInBounds, List.map_set, ← h7, List.take_set]
section
variable {B Pb Fb : Nat} {vm vs : Value} {Af : Option Addr} {cf : Nat} {p : Pln} {free : List Int} {W W' : World}
theorem ScanM.blkM (h : ScanM B Pb Fb vm vs Af cf p free W) {g : Nat} (hg : vm.ownBlock = some g) : B ≤ g ∧ ∃ cs, BlkAt W g 3 cs := ⟨(own_lt h.mach hg).1, own_int h.mach hg⟩
theorem ScanM.blkS (h : ScanM B Pb Fb vm vs Af cf p free W) {g : Nat} (hg : vs.ownBlock = some g) : B ≤ g ∧ ∃ cs, BlkAt W g 3 cs := ⟨(own_lt h.slot hg).1, own_int h.slot hg⟩
theorem ScanM.setMach (h : ScanM B Pb Fb vm vs Af cf p free W) {g r : Nat} (hg : vm.ownBlock = some g) (hr : r < p.mach.length) (m : Int) : ScanM B Pb Fb vm vs Af cf ⟨p.mach.set r m, p.slot, p.slots⟩ free (W.setCell ⟨g, r, none⟩ (.int .i64 m)) := by
  obtain ⟨_, cs, hb⟩ := h.blkM hg
  have hgs := setCell_grown W g r (.int .i64 m)
  refine ⟨h.plan.kept hgs (fun e => by cases e; exact blk_blk_ne hb h.plan (by decide) rfl), h.fvar.kept hgs (fun e => by cases e; exact blk_blk_ne hb h.fvar (by decide) rfl), h.fr.kept hgs (fun j hj e => by cases e; exact (h.ne2 _ hj).1 hg), ?_, own_keepG h.slot hgs (fun j hj e => by cases e; exact h.ne1 _ hg hj), h.ne1, h.ne2, h.lowP, h.lowF⟩
  have := own_setI h.mach hg hr m
  simpa using this
theorem ScanM.setSlot (h : ScanM B Pb Fb vm vs Af cf p free W) {g r : Nat} (hg : vs.ownBlock = some g) (hr : r < p.slot.length) (m : Int) : ScanM B Pb Fb vm vs Af cf ⟨p.mach, p.slot.set r m, p.slots⟩ free (W.setCell ⟨g, r, none⟩ (.int .i64 m)) := by
  obtain ⟨_, cs, hb⟩ := h.blkS hg
  have hgs := setCell_grown W g r (.int .i64 m)
  refine ⟨h.plan.kept hgs (fun e => by cases e; exact blk_blk_ne hb h.plan (by decide) rfl), h.fvar.kept hgs (fun e => by cases e; exact blk_blk_ne hb h.fvar (by decide) rfl), h.fr.kept hgs (fun j hj e => by cases e; exact (h.ne2 _ hj).2 hg), own_keepG h.mach hgs (fun j hj e => by cases e; exact h.ne1 _ hj hg), ?_, h.ne1, h.ne2, h.lowP, h.lowF⟩
  have := own_setI h.slot hg hr m
  simpa using this
theorem ScanM.setSlots (h : ScanM B Pb Fb vm vs Af cf p free W) (s : Int) : ScanM B Pb Fb vm vs Af cf ⟨p.mach, p.slot, s⟩ free (W.setCell ⟨Pb, 2, none⟩ (.int .i64 s)) := by
  have hgs := setCell_grown W Pb 2 (.int .i64 s)
  have hi : ∀ j cs', BlkAt W j 3 cs' → some j ≠ some Pb := fun j cs' hb e => by
    cases e
    exact blk_blk_ne hb h.plan (by decide) rfl
  refine ⟨by simpa using h.plan.set 2 (.int .i64 s), h.fvar.kept hgs (fun e => by cases e; exact blk_blk_ne h.fvar h.plan (by decide) rfl), h.fr.kept hgs (fun j hj => by obtain ⟨_, _, cs, hb⟩ := frow_int h.fr hj; exact hi j cs hb), own_keepG h.mach hgs (fun j hj => by obtain ⟨cs, hb⟩ := own_int h.mach hj; exact hi j cs hb), own_keepG h.slot hgs (fun j hj => by obtain ⟨cs, hb⟩ := own_int h.slot hj; exact hi j cs hb), h.ne1, h.ne2, h.lowP, h.lowF⟩
/-- the first free register is taken -/
theorem ScanM.pop {m : Int} {rest : List Int} (h : ScanM B Pb Fb vm vs Af cf p (m :: rest) W) : ∃ g off, Af = some ⟨g, off, none⟩ ∧ W.cell? ⟨g, off, none⟩ = some (.int .i64 m) ∧ (cf = 1 → rest = [] ∧ ScanM B Pb Fb vm vs (some ⟨g, off, none⟩) 0 p rest (W.setCell ⟨Fb, 0, none⟩ (.slice (some ⟨g, off, none⟩) rest.length 0))) ∧ (cf ≠ 1 → ScanM B Pb Fb vm vs (some ⟨g, off + 1, none⟩) (cf - 1) p rest (W.setCell ⟨Fb, 0, none⟩ (.slice (some ⟨g, off + 1, none⟩) rest.length (cf - 1)))) := by
  have hcap := h.fr.cap
  rw [List.length_cons] at hcap
  rcases h.fr.form with ⟨_, hc⟩ | ⟨g, off, cs, rfl, h2, h3, h4, h5⟩
  · omega
  · have hgr : W.grownBy W (Value.slice (some ⟨g, off, none⟩) (m :: rest).length cf).ownBlock := World.grownBy.refl W _
    refine ⟨g, off, rfl, by rw [h3.cell]; have := h5 0 m rfl; rwa [Nat.add_zero] at this, fun hc => ?_, fun hc => ?_⟩
    · have hr : rest = [] := List.length_eq_zero_iff.1 (by omega)
      subst hr
      exact ⟨rfl, h.setFree hgr ⟨rfl, Nat.le_refl _, Nat.zero_le _, .inr ⟨g, off, cs, rfl, h2, h3, by omega, by simp⟩⟩ (fun j hj => .inl (by simpa [Value.ownBlock] using hj.symm))⟩
    · refine h.setFree hgr ⟨rfl, by omega, by have := h.fr.max; omega, .inr ⟨g, off + 1, cs, rfl, h2, h3, by omega, fun j x hj => ?_⟩⟩ (fun j hj => .inl (by simpa [Value.ownBlock] using hj.symm))
      have := h5 (j + 1) x (by simpa using hj)
      rwa [show off + (j + 1) = off + 1 + j by omega] at this
end
theorem freed_append (m : List Int) (f : List Int) (us bs : List Itv) : freed m f (us ++ bs) = freed m (freed m f us) bs := by unfold freed; rw [List.foldl_append]
theorem freed_sorted {m : List Int} : ∀ {us : List Itv} {f : List Int}, f.Pairwise (· ≤ ·) → (freed m f us).Pairwise (· ≤ ·)
  | [], _, h => h
  | a :: us, f, h => by
    unfold freed
    rw [List.foldl_cons]
    exact freed_sorted (us := us) (pushL_sorted h _)
/-- the closure that frees -/
theorem pred1 (B Pb Fb Vb g K : Nat) (vm vs : Value) (p : Pln) (free : List Int) (v : Itv) (xs : List Itv) (w0 : World) (bc : Array Value) (vI : Value) (l : List Itv) (hs : free.Pairwise (· ≤ ·)) (hn : free.length + xs.length ≤ 50000) (hrg : ∀ a ∈ xs, a.reg < p.mach.length) (hml : p.mach.length ≤ 100000) (ob : Option Nat) (hob : ob = some g) (hgK : K ≤ g) (hgV : g < Vb) :
    PredV 43 #[.pointer (some ⟨Vb, 0, none⟩), .pointer (some ⟨Fb, 0, none⟩), .pointer (some ⟨Pb, 0, none⟩)] (gone v) xs g
      (fun k W => (∃ Af cf, ScanM B Pb Fb vm vs Af cf p (freed p.mach free ((xs.take k).filter (gone v))) W) ∧ BlkAt W Vb 44 #[.int .i64 v.reg, .int .i64 v.frm, .int .i64 v.to] ∧ Ctx w0 bc B K vI l W ∧ ∀ j, ob = some j → ∃ cur, BlkAt W j 44 cur) where
  step := by
    rintro k x W hx ⟨⟨Af, cf, hM⟩, hV, hC, hcur⟩
    have hfl : (freed p.mach free ((xs.take k).filter (gone v))).length ≤ 100000 := by
      rw [freed_length]
      have h1 := List.length_filter_le (gone v) (xs.take k)
      have h2 := List.length_take_le' k xs
      omega
    refine (alloc1_any B Pb Fb Vb vm vs Af cf p _ x v W hM hV (hrg x (List.mem_of_getElem? hx)) (freed_sorted hs) hfl hml hC.size).mono ?_
    rintro e W' ⟨rfl, ⟨Af', cf', hM'⟩, hk, hb⟩
    refine ⟨rfl, ⟨⟨Af', cf', ?_⟩, hk.2 _ _ _ hV (by decide) (by decide), hC.keptI hk hb, fun j hj => by obtain ⟨cur, hc⟩ := hcur j hj; exact ⟨cur, hk.2 _ _ _ hc (by decide) (by decide)⟩⟩, hk.1, fun g c hc => hk.2 _ _ _ hc (by decide) (by decide)⟩
    rw [take_snoc hx, List.filter_append, freed_append]
    cases hg : gone v x with
    | true =>
      rw [hg] at hM'
      rw [List.filter_cons_of_pos hg]
      exact hM'
    | false =>
      rw [hg] at hM'
      rw [List.filter_cons_of_neg (by simp [hg])]
      exact hM'
  keep := by
    rintro k W W' cur' ⟨⟨Af, cf, hM⟩, hV, hC, hcur⟩ hg hc'
    obtain ⟨cur, hcur⟩ := hcur g hob
    exact ⟨⟨Af, cf, hM.kept hg (fun j e => by cases e; exact ⟨_, cur, hcur, by decide, by decide, by decide⟩)⟩, hV.kept hg (fun e => by cases e; omega), hC.high hg (fun j e => by cases e; exact hgK), fun j hj => by rw [hob] at hj; cases hj; exact ⟨cur', hc'⟩⟩
theorem itv_delete (f : Nat) (cb : Array Value) (eg : ∀ args w, (callFunc f args).run Tryz.prog w = .ok (.enter f args) w) (p : Itv → Bool) (base : Nat) (va : Value) (xs : List Itv) (I : Nat → World → Prop) (w : World) (hn : xs.length ≤ 1000000)
    (hown : w.ownsRow base 44 3 va xs.length (xs.flatMap encItv)) (hp : ∀ g, va.ownBlock = some g → PredV f cb p xs g I) (hI : I 0 w) :
    Calls Tryz.prog 42 #[va, .func (.func f) #[] cb] w fun e w' => ∃ v', e = .returned v' ∧ w'.ownsRow base 44 3 v' (xs.filter (fun x => !p x)).length ((xs.filter (fun x => !p x)).flatMap encItv) ∧ v'.ownBlock = va.ownBlock ∧ I xs.length w' := by
  by_cases h0 : xs = []
  · subst h0
    obtain ⟨A, c, rfl, _, _, _⟩ := own_slice hown
    refine (itv_deleteNil f cb A c w).mono ?_
    rintro e w' ⟨rfl, rfl⟩
    exact ⟨_, rfl, hown, rfl, hI⟩
  · obtain ⟨g, cap, rfl, _, _⟩ := hown.form (List.length_pos_iff.2 h0)
    refine (itv_deleteSome f cb eg p base g cap xs I w hn h0 hown (hp g rfl) hI).mono ?_
    rintro e w' ⟨m, rfl, rfl, h1, h2⟩
    exact ⟨_, rfl, h1, rfl, h2⟩
def eqItv (a x : Itv) : Bool := decide (a = x)
theorem eqI_struct (a x : Itv) (w : World) : (binOp .eql 44 (.agg #[.int .i64 a.reg, .int .i64 a.frm, .int .i64 a.to]) (.agg #[.int .i64 x.reg, .int .i64 x.frm, .int .i64 x.to])).run Tryz.prog w = .ok (.bool (eqItv a x)) w := by
  have u3 := Tryz.underlying3
  have a3 := Tryz.isAgg3
  have z3 := Tryz.sizeOf3
  rw [run_eql_struct, show (10000 : Nat) = 9999 + 1 from rfl, run_equalIn_agg _ _ _ _ _ (by kernel_rfl) (by kernel_rfl)]
  unfold Program.fieldsOf
  rw [Tryz.underlying44]
  simp only [Op.eqFields]
  go_simp
  unfold eqItv
  rcases a with ⟨a1, a2, a3⟩
  rcases x with ⟨x1, x2, x3⟩
  simp only [Itv.mk.injEq]
  by_cases h1 : a1 = x1 <;> by_cases h2 : a2 = x2 <;> by_cases h3 : a3 = x3 <;> simp [h1, h2, h3] <;> omega
theorem neqI_struct (a x : Itv) (w : World) : (binOp .neq 44 (.agg #[.int .i64 a.reg, .int .i64 a.frm, .int .i64 a.to]) (.agg #[.int .i64 x.reg, .int .i64 x.frm, .int .i64 x.to])).run Tryz.prog w = .ok (.bool (!eqItv a x)) w := by
  have u3 := Tryz.underlying3
  have a3 := Tryz.isAgg3
  have z3 := Tryz.sizeOf3
  rw [run_neq_struct, show (10000 : Nat) = 9999 + 1 from rfl, run_equalIn_agg _ _ _ _ _ (by kernel_rfl) (by kernel_rfl)]
  unfold Program.fieldsOf
  rw [Tryz.underlying44]
  simp only [Op.eqFields]
  go_simp
  unfold eqItv
  rcases a with ⟨a1, a2, a3⟩
  rcases x with ⟨x1, x2, x3⟩
  simp only [Itv.mk.injEq]
  by_cases h1 : a1 = x1 <;> by_cases h2 : a2 = x2 <;> by_cases h3 : a3 = x3 <;> simp [h1, h2, h3] <;> omega
set_option maxHeartbeats 2000000 in
theorem alloc2_any (a x : Itv) (Wb : Nat) (W : World) (hx : BlkAt W Wb 44 #[.int .i64 x.reg, .int .i64 x.frm, .int .i64 x.to]) :
    Calls Tryz.prog 47 #[.agg #[.int .i64 a.reg, .int .i64 a.frm, .int .i64 a.to], .pointer (some ⟨Wb, 0, none⟩)] W fun e W' => e = .returned (.bool (eqItv a x)) ∧ Below W.heap.size W W' := by
  have hb := (Below.refl W.heap.size W).alloc (Nat.le_refl _) (.cells #[.int .i64 a.reg, .int .i64 a.frm, .int .i64 a.to] 44)
  have hx' := hx.below hb hx.lt
  have x0 := hx'.cell 0
  have x1 := hx'.cell 1
  have x2 := hx'.cell 2
  simp only [List.getElem?_toArray, List.getElem?_cons_succ, List.getElem?_cons_zero] at x0 x1 x2
  have HEQ := fun W => eqI_struct a x W
  have HB := Lib.hid hb
  clear hx hx' hb
  go_enter Tryz.func47, Tryz.ntmps47
  go_wp2_with fail
  go_ret
  exact ⟨rfl, HB.out⟩
theorem pred2 (g Wb : Nat) (x : Itv) (xs : List Itv) (J : World → Prop) (ob : Option Nat) (hob : ob = some g) (hJb : ∀ W W', J W → Below W.heap.size W W' → J W') (hJ : ∀ W W' cur, J W → BlkAt W g 44 cur → W.grownBy W' (some g) → J W') (hg : g ≠ Wb) :
    PredV 47 #[.pointer (some ⟨Wb, 0, none⟩)] (fun a => eqItv a x) xs g (fun _ W => J W ∧ BlkAt W Wb 44 #[.int .i64 x.reg, .int .i64 x.frm, .int .i64 x.to] ∧ ∀ j, ob = some j → ∃ cur, BlkAt W j 44 cur) where
  step := by
    rintro k a W _ ⟨h1, h2, h3⟩
    refine (alloc2_any a x Wb W h2).mono ?_
    rintro e W' ⟨rfl, hb⟩
    exact ⟨rfl, ⟨hJb _ _ h1 hb, h2.below hb h2.lt, fun j hj => by obtain ⟨cur, hc⟩ := h3 j hj; exact ⟨cur, hc.below hb hc.lt⟩⟩, hb.size, fun g c hc => hc.below hb hc.lt⟩
  keep := by
    rintro k W W' cur' ⟨h1, h2, h3⟩ hgr hc'
    obtain ⟨cur, hc⟩ := h3 g hob
    exact ⟨hJ _ _ _ h1 hc hgr, h2.kept hgr (fun e => by cases e; exact hg rfl), fun j hj => by rw [hob] at hj; cases hj; exact ⟨cur', hc'⟩⟩
end Go.Proofs.YtpahhcmiimllaaaGreatDoor
namespace Go.Proofs.YtpahhcmiimllaaaGreatDoor
open Go.RowKit

theorem FRow.low {W : World} {base base' n c : Nat} {A : Option Addr} {xs : List Int} (h : FRow W base A n c xs) (hb : base' ≤ base) : FRow W base' A n c xs :=
  ⟨h.len, h.cap, h.max, h.form.imp id (by
    rintro ⟨g, off, cs, h1, h2, h3⟩
    exact ⟨g, off, cs, h1, Nat.le_trans hb h2, h3⟩)⟩
theorem own_blkE {W : World} {B k n j : Nat} {e : TypeId} {v : Value} {xs : List Value} (h : W.ownsRow B e k v n xs) (hj : v.ownBlock = some j) : ∃ cs, BlkAt W j e cs := by
  rcases h.2 with ⟨rfl, _⟩ | ⟨g, cap, cur, rfl, _, h3, _⟩
  · simp [Value.ownBlock] at hj
  · simp [Value.ownBlock] at hj
    subst hj
    exact ⟨cur, h3⟩
def scanAt (r G mc : Nat) (l : List Itv) (i : Nat) : Scn := (l.take i).foldl (scanStep G) (scan0 r G mc)
theorem scan_succ {r G mc : Nat} {l : List Itv} {i : Nat} {v : Itv} (h : l[i]? = some v) : scanAt r G mc l (i + 1) = scanStep G (scanAt r G mc l i) v := by
  unfold scanAt
  rw [take_snoc h, List.foldl_append]; rfl
theorem scan_end (r G mc : Nat) (l : List Itv) : (scanAt r G mc l l.length).p = planOf r G mc l := by unfold scanAt planOf; rw [List.take_length]
theorem itvOK_take {r : Nat} {l : List Itv} (h : ItvOK r l) (i : Nat) : ItvOK r (l.take i) := by
  obtain ⟨h1, h2, h3⟩ := h
  exact ⟨fun v hv => h1 v (List.mem_of_mem_take hv), h2.sublist (List.take_sublist _ _), h3.sublist (List.take_sublist _ _)⟩
theorem scan_inv (G mc : Nat) {r : Nat} {l : List Itv} (h : ItvOK r l) (i : Nat) : ∃ t, ScanInv r G mc (l.take i) t (scanAt r G mc l i) := by
  obtain ⟨t, h1⟩ := scan_fold (args := G) (machine := mc) (l.take i) [] 0 _ (scan_start r G mc) (itvOK_take h i) (by simp) (by simp)
  rw [List.nil_append] at h1
  exact ⟨t, h1⟩
theorem nodup_leI : ∀ (l1 l2 : List Int), l1.Nodup → (∀ a ∈ l1, a ∈ l2) → l1.length ≤ l2.length
  | [], _, _, _ => Nat.zero_le _
  | a :: l1, l2, h, hs => by
    have h' := List.nodup_cons.1 h
    have hm := hs a (by simp)
    have ih := nodup_leI l1 (l2.erase a) h'.2 (fun b hb => (List.mem_erase_of_ne (fun e => h'.1 (by rw [← e]; exact hb))).2 (hs b (by simp [hb])))
    rw [List.length_erase_of_mem hm] at ih
    have := List.length_pos_of_mem hm
    rw [List.length_cons]; omega
theorem free_len {r G mc t : Nat} {L : List Itv} {s : Scn} (h : ScanInv r G mc L t s) : s.free.length ≤ mc := by
  have := nodup_leI s.free ((List.range mc).map Int.ofNat) h.fnod (fun m hm => by
    have := h.frange m hm
    exact List.mem_map.2 ⟨m.toNat, List.mem_range.2 (by omega), by simp; omega⟩)
  simpa using this
theorem act_len {r G mc t : Nat} {L : List Itv} {s : Scn} (h : ScanInv r G mc L t s) : s.active.length ≤ L.length :=
  nodup_le s.active L (pair_nodup (act_pair h)) (fun a ha => (h.act a ha).1)
theorem step_sorted {G : Nat} {s : Scn} {v : Itv} (h : s.free.Pairwise (· ≤ ·)) : (scanStep G s v).free.Pairwise (· ≤ ·) := by
  have hf := freed_sorted (m := s.p.mach) (us := s.active.filter (gone v)) h
  rcases hq : freed s.p.mach s.free (s.active.filter (gone v)) with _ | ⟨m, rest⟩
  · by_cases hw : worstOf v (s.active.filter (fun a => !gone v a)) = v
    · rw [step_own hq hw]; exact List.Pairwise.nil
    · rw [step_other2 hq rfl hw]; exact List.Pairwise.nil
  · rw [step_some hq]
    rw [hq] at hf
    exact (List.pairwise_cons.1 hf).2
theorem range_sorted (mc : Nat) : ((List.range mc).map Int.ofNat).Pairwise (· ≤ ·) := by
  rw [List.pairwise_map]
  exact (List.pairwise_lt_range (n := mc)).imp (fun h => by simp; omega)
theorem fold_sorted {G : Nat} : ∀ (l : List Itv) (s : Scn), s.free.Pairwise (· ≤ ·) → (l.foldl (scanStep G) s).free.Pairwise (· ≤ ·)
  | [], _, h => h
  | v :: l, s, h => by rw [List.foldl_cons]; exact fold_sorted l _ (step_sorted h)
theorem scan_sorted (r G mc : Nat) (l : List Itv) (i : Nat) : (scanAt r G mc l i).free.Pairwise (· ≤ ·) := fold_sorted _ _ (range_sorted mc)
theorem spill_slots (G : Nat) (x : Itv) (p : Pln) : p.slots ≤ (spill G x p).slots ∧ (spill G x p).slots ≤ p.slots + 1 := by unfold spill; split <;> simp <;> omega
theorem step_slots {G : Nat} {s : Scn} {v : Itv} : s.p.slots ≤ (scanStep G s v).p.slots ∧ (scanStep G s v).p.slots ≤ s.p.slots + 1 := by
  rcases hq : freed s.p.mach s.free (s.active.filter (gone v)) with _ | ⟨m, rest⟩
  · by_cases hw : worstOf v (s.active.filter (fun a => !gone v a)) = v
    · rw [step_own hq hw]; exact spill_slots _ _ _
    · rw [step_other2 hq rfl hw]; exact spill_slots _ _ _
  · rw [step_some hq]; simp; omega
theorem fold_slots {G : Nat} : ∀ (l : List Itv) (s : Scn), s.p.slots ≤ (l.foldl (scanStep G) s).p.slots ∧ (l.foldl (scanStep G) s).p.slots ≤ s.p.slots + l.length
  | [], _ => by simp
  | v :: l, s => by
    rw [List.foldl_cons, List.length_cons]
    have h1 := fold_slots (G := G) l (scanStep G s v)
    have h2 := step_slots (G := G) (s := s) (v := v)
    omega
theorem scan_slots (r G mc : Nat) (l : List Itv) (i : Nat) (hi : i ≤ l.length) : (G : Int) ≤ (scanAt r G mc l i).p.slots ∧ (scanAt r G mc l i).p.slots ≤ G + i := by
  have h := fold_slots (G := G) (l.take i) (scan0 r G mc)
  rw [List.length_take, Nat.min_eq_left hi] at h
  exact h
theorem worst_take (v : Itv) (us : List Itv) (k : Nat) (a : Itv) (h : us[k]? = some a) : worstOf v (us.take (k + 1)) = if worse a (worstOf v (us.take k)) then a else worstOf v (us.take k) := by
  unfold worstOf
  rw [take_snoc h, List.foldl_append]; rfl
end Go.Proofs.YtpahhcmiimllaaaGreatDoor
namespace Go.Proofs.YtpahhcmiimllaaaGreatDoor
open Go.RowKit Go.Shelf

theorem itv_ne {r : Nat} {l : List Itv} (h : ItvOK r l) {i : Nat} {v : Itv} (hv : l[i]? = some v) : ∀ u ∈ l.take i, u.reg ≠ v.reg := by
  intro u hu
  obtain ⟨_, h2, _⟩ := h
  obtain ⟨hi, rfl⟩ := List.getElem?_eq_some_iff.1 hv
  rw [← List.take_append_drop i l, List.pairwise_append] at h2
  exact h2.2.2 u hu _ (by rw [List.drop_eq_getElem_cons hi]; exact List.mem_cons_self ..)
theorem news_itv {W : World} {bl : Nat} {v : Itv} (h : BlkAt W bl 44 #[.int .i64 v.reg, .int .i64 v.frm, .int .i64 v.to]) : ∀ j u, (encItv v)[j]? = some u → W.cell? ((⟨bl, 0, none⟩ : Addr).add j) = some u := fun j u hj => by
  rw [add_plain', h.cell]; simpa [encItv] using hj
/-- what is left alone -/
structure StJ (Bb Fb Vb nb Kb : Nat) (vm vs : Value) (Af : Option Addr) (cf : Nat) (p : Pln) (v : Itv) (w1 : World) (bc : Array Value) (vI : Value) (l : List Itv) (W : World) : Prop where
  sm : ScanM Bb (Bb + 1) Fb vm vs Af cf p [] W
  vb : BlkAt W Vb 44 #[.int .i64 v.reg, .int .i64 v.frm, .int .i64 v.to]
  nb : BlkAt W nb 44 #[.int .i64 v.reg, .int .i64 v.frm, .int .i64 v.to]
  ctx : Ctx w1 bc Bb Kb vI l W
section
variable {Bb Fb Vb nb Kb : Nat} {vm vs : Value} {Af : Option Addr} {cf : Nat} {p : Pln} {v x : Itv} {w1 W W' : World} {bc : Array Value} {vI : Value} {l us : List Itv}
theorem StJ.below (h : StJ Bb Fb Vb nb Kb vm vs Af cf p v w1 bc vI l W) (hb : Below W.heap.size W W') : StJ Bb Fb Vb nb Kb vm vs Af cf p v w1 bc vI l W' :=
  ⟨h.sm.below hb, h.vb.below hb h.vb.lt, h.nb.below hb h.nb.lt, h.ctx.below hb⟩
theorem StJ.grown (h : StJ Bb Fb Vb nb Kb vm vs Af cf p v w1 bc vI l W) {g : Nat} {cur : Array Value} (hc : BlkAt W g 44 cur) (hg : W.grownBy W' (some g)) (h1 : Kb ≤ g) (h2 : g ≠ Vb) (h3 : g ≠ nb) : StJ Bb Fb Vb nb Kb vm vs Af cf p v w1 bc vI l W' :=
  ⟨h.sm.kept hg (fun j e => by cases e; exact ⟨_, cur, hc, by decide, by decide, by decide⟩), h.vb.kept hg (fun e => by cases e; exact h2 rfl), h.nb.kept hg (fun e => by cases e; exact h3 rfl), h.ctx.high hg (fun j e => by cases e; exact h1)⟩
theorem del2 {Aa : Option Addr} {ca Wb : Nat} (h : StJ Bb Fb Vb nb Kb vm vs Af cf p v w1 bc vI l W) (hown : W.ownsRow Kb 44 3 (.slice Aa us.length ca) us.length (us.flatMap encItv)) (hW : BlkAt W Wb 44 #[.int .i64 x.reg, .int .i64 x.frm, .int .i64 x.to]) (hn : us.length ≤ 5000)
    (hob : ∀ j, (Value.slice Aa us.length ca).ownBlock = some j → j ≠ Vb ∧ j ≠ nb ∧ j ≠ Wb) :
    Calls Tryz.prog 42 #[.slice Aa us.length ca, .func (.func 47) #[] #[.pointer (some ⟨Wb, 0, none⟩)]] W fun e w' => ∃ v', e = .returned v' ∧ w'.ownsRow Kb 44 3 v' (us.filter (fun a => !decide (a = x))).length ((us.filter (fun a => !decide (a = x))).flatMap encItv) ∧ v'.ownBlock = (Value.slice Aa us.length ca).ownBlock ∧ StJ Bb Fb Vb nb Kb vm vs Af cf p v w1 bc vI l w' := by
  have hd := itv_delete 47 #[.pointer (some ⟨Wb, 0, none⟩)] (enters_of Tryz.func47 (by kernel_rfl) rfl) (fun a => eqItv a x) Kb (.slice Aa us.length ca) us _ W (by omega) hown
    (fun g hg => pred2 g Wb x us (StJ Bb Fb Vb nb Kb vm vs Af cf p v w1 bc vI l) _ hg (fun _ _ h hb => h.below hb) (fun _ _ cur h hc hgr => h.grown hc hgr (own_lt hown hg).1 (hob g hg).1 (hob g hg).2.1) (hob g hg).2.2)
    ⟨h, hW, fun j hj => own_blkE hown hj⟩
  refine hd.mono ?_
  rintro e w' ⟨v', rfl, h1, h3, h2, _⟩
  exact ⟨v', rfl, h1, h3, h2⟩
end
end Go.Proofs.YtpahhcmiimllaaaGreatDoor
