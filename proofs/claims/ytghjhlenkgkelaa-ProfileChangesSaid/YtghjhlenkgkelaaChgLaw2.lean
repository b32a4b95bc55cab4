/- DERIVED. ProfileChanges: the walk where both traces are given. -/
import Derived.Test.YtghjhlenkgkelaaChgLaw
set_option linter.unusedSimpArgs false
set_option linter.unusedVariables false
namespace Go.Proofs.Ytghjhlenkgkelaa
open Go.RowKit Go.Shelf Go.Sort
attribute [local go_sem] run_store_float

theorem edges_B {xs : List Acc} {es : List Edg} (h : IsEdges xs es) (hn : xs.length ≤ 100) : EdgB es ∧ es.length ≤ 200 := by
  refine ⟨fun y hy => ?_, by have := edges_len h; omega⟩
  have := edge_ok h y hy
  omega
theorem chg_B {xs ys out : List Edg} (h : IsChg xs ys out) (hx : EdgB xs) (hy : EdgB ys) (hl : ys.length ≤ 200) : ∀ y ∈ out, -10000000 ≤ y.acc ∧ y.acc ≤ 10000000 ∧ -10000000 ≤ y.msg ∧ y.msg ≤ 10000000 := by
  obtain ⟨ss, hp, _, rfl⟩ := h
  intro y hy'
  obtain ⟨hm, _⟩ := List.mem_filter.1 hy'
  obtain ⟨k, hk, rfl⟩ := List.mem_map.1 hm
  have h1 := chgA_abs xs [] hx (by intro a b h; simp [look] at h)
  have h2 := chgB_abs ys (xs.foldl chgA []) 0 hy (by intro a b h; have := h1 a b h; omega)
  have hk' := mem_keys.1 (hp.mem_iff.1 hk)
  cases hl : look (chgR xs ys) k with
  | none => exact absurd hl hk'
  | some z =>
    have := h2 k z hl
    simp only [Option.getD_some]
    omega
theorem chg_len {xs ys out : List Edg} (h : IsChg xs ys out) (hx : xs.length ≤ 200) (hy : ys.length ≤ 200) : out.length ≤ 400 := by
  obtain ⟨ss, h1, h2, rfl⟩ := h
  refine Nat.le_trans (List.length_filter_le _ _) ?_
  rw [List.length_map, h1.length_eq, List.length_map]
  have h1 := chgB_len ys (xs.foldl chgA [])
  have h2 := chgA_len xs []
  simp only [chgR, List.length_nil] at *; omega

/-- a profile in the heap -/
def ProfAt (w : World) (P : Nat) (A : Option Addr) (n c : Nat) (S : Option Addr) (s d f : Nat) : Prop := BlkAt w P 28 #[.slice A n c, .slice S s d, .float .f32 f]
theorem ProfAt.cells {w : World} {P : Nat} {A : Option Addr} {n c : Nat} {S : Option Addr} {s d f : Nat} (h : ProfAt w P A n c S s d f) :
    w.cell? ⟨P, 0, none⟩ = some (.slice A n c) ∧ w.cell? ⟨P, 1, none⟩ = some (.slice S s d) ∧ w.cell? ⟨P, 2, none⟩ = some (.float .f32 f) := ⟨BlkAt.cell h 0, BlkAt.cell h 1, BlkAt.cell h 2⟩

set_option maxRecDepth 100000 in
set_option maxHeartbeats 2000000 in
theorem chg_ok (A B : Option Addr) (n c m d : Nat) (xs ys : List Acc) (w : World) (hn : n ≤ 100) (hm : m ≤ 100) (hx : Trace w w.heap.size A n xs) (hy : Trace w w.heap.size B m ys) (hg1 : givenL xs = 0) (hg2 : givenL ys = 0) :
    Calls Try.prog 6 #[.slice A n c, .slice B m d] w (True1 w) := by
  have hof1 := Of_both A n c xs w hn hx
  have hof2 := fun w1 (hb : Below w.heap.size w w1) => Of_both B m d ys w1 hm ((hy.below hb (Nat.le_refl _)).mono hb.size)
  have HO2 := Lib.hid hof2
  have hlx : xs.length ≤ 100 := by have := hx.len; omega
  have hly : ys.length ≤ 100 := by have := hy.len; omega
  unfold OfBoth at hof1 HO2
  rw [hg1] at hof1
  rw [hg2] at HO2
  clear hx hy hof2 hg1 hg2
  go_enter Try.func6, Try.ntmps6
  go_wp2_with (first
    | (go_at_call 10
       first
         | (refine hof1.mono ?_
            rintro e w1 ⟨A1, n1, c1, A2, n2, c2, cst, rfl, hok1, hb1⟩
            clear hof1
            obtain ⟨es, rfl, hes, hrow1⟩ := hok1 (by first | rfl | trivial)
            have hba := (Below.refl w1.heap.size w1).alloc (Nat.le_refl _) (.cells #[.slice A1 es.length c1, .slice A2 n2 c2, .float .f32 cst] 28)
            have HB1 := Lib.hid (hb1.alloc hb1.size (.cells #[.slice A1 es.length c1, .slice A2 n2 c2, .float .f32 cst] 28))
            have HP1 : Hid (ProfAt _ w1.heap.size A1 es.length c1 A2 n2 c2 cst) := Lib.hid (BlkAt.new w1 28 #[.slice A1 es.length c1, .slice A2 n2 c2, .float .f32 cst])
            have HR1 := Lib.hid (hrow1.below hba)
            have HES := Lib.hid hes
            have hof2' := HO2.out _ HB1.out
            clear hb1 hba hes hrow1 hok1)
         | (refine hof2'.mono ?_
            rintro e w2 ⟨B1, m1, d1, B2, m2, d2, dst, rfl, hok2, hb2⟩
            clear hof2'
            obtain ⟨fs, rfl, hfs, hrow2⟩ := hok2 (by first | rfl | trivial)
            have hbb := (Below.refl w2.heap.size w2).alloc (Nat.le_refl _) (.cells #[.slice B1 fs.length d1, .slice B2 m2 d2, .float .f32 dst] 28)
            have hb12 := hb2.trans (hbb.mono hb2.size)
            have HB2 := Lib.hid (HB1.out.trans (hb12.mono HB1.out.size))
            have HP2 : Hid (ProfAt _ w2.heap.size B1 fs.length d1 B2 m2 d2 dst) := Lib.hid (BlkAt.new w2 28 #[.slice B1 fs.length d1, .slice B2 m2 d2, .float .f32 dst])
            have HP1' : Hid (ProfAt _ w1.heap.size A1 es.length c1 A2 n2 c2 cst) := Lib.hid (BlkAt.below HP1.out hb12 (BlkAt.lt HP1.out))
            have HR1' := Lib.hid (HR1.out.below hb12)
            have HR2 := Lib.hid (hrow2.below hbb)
            have HFS := Lib.hid hfs
            obtain ⟨p0, p1, p2⟩ := HP1'.out.cells
            obtain ⟨q0, q1, q2⟩ := HP2.out.cells
            obtain ⟨be, le⟩ := edges_B HES.out hlx
            obtain ⟨bf, lf⟩ := edges_B HFS.out hly
            have ae := edges_asc HES.out
            have af := edges_asc HFS.out
            have hca := Compare_any A1 A1 A2 A2 es.length c1 es.length c1 n2 c2 n2 c2 cst cst es es _ (by omega) (by omega) HR1'.out HR1'.out ae ae be be
            have hcb := fun W hb => Compare_any A1 B1 A2 B2 es.length c1 fs.length d1 n2 c2 m2 d2 cst dst es fs W (by omega) (by omega) (HR1'.out.below hb) (HR2.out.below hb) ae af be bf
            have hcc := fun W hb => Compare_any B1 A1 B2 A2 fs.length d1 es.length c1 m2 d2 n2 c2 dst cst fs es W (by omega) (by omega) (HR2.out.below hb) (HR1'.out.below hb) af ae bf be
            have HCB := Lib.hid hcb
            have HCC := Lib.hid hcc
            have HBE := Lib.hid be
            have HBF := Lib.hid bf
            clear hb2 hbb hb12 hfs hrow2 hok2 hcb hcc ae af be bf))
    | (go_at_call 17
       first
         | (refine hca.mono ?_
            rintro e w4 ⟨o1, v1, hi1, rfl, hr1, hb4⟩
            clear hca
            obtain ⟨C1, k1, rfl, _, _, _⟩ := own_slice hr1
            have ho1 := chg_self (edges_keys HES.out).1 hi1
            subst ho1
            have hcb' := HCB.out w4 hb4
            have HB4 := Lib.hid hb4
            obtain ⟨p0, p1, p2⟩ := ProfAt.cells (BlkAt.below HP1'.out hb4 (BlkAt.lt HP1'.out))
            obtain ⟨q0, q1, q2⟩ := ProfAt.cells (BlkAt.below HP2.out hb4 (BlkAt.lt HP2.out))
            clear hi1 hr1 hb4)
         | (refine hcb'.mono ?_
            rintro e w5 ⟨o2, v2, hi2, rfl, hr2, hb5⟩
            clear hcb'
            obtain ⟨C2, k2, rfl, _, _, _⟩ := own_slice hr2
            have HR2' := Lib.hid (ERow.of hr2 rfl)
            have HI2 := Lib.hid hi2
            have hb45 := HB4.out.trans (hb5.mono HB4.out.size)
            have hcc' := HCC.out w5 hb45
            have HB5 := Lib.hid hb45
            obtain ⟨p0, p1, p2⟩ := ProfAt.cells (BlkAt.below HP1'.out hb45 (BlkAt.lt HP1'.out))
            obtain ⟨q0, q1, q2⟩ := ProfAt.cells (BlkAt.below HP2.out hb45 (BlkAt.lt HP2.out))
            clear hi2 hr2 hb5 hb45)
         | (refine hcc'.mono ?_
            rintro e w6 ⟨o3, v3, hi3, rfl, hr3, hb6⟩
            clear hcc'
            have ho3 := chg_undo (edges_keys HES.out).1 (edges_keys HFS.out).1 HI2.out hi3
            subst ho3
            obtain ⟨C3, k3, rfl, _, _, _⟩ := own_slice hr3
            have HR3 := Lib.hid (ERow.of hr3 rfl)
            have HR2'' := Lib.hid (HR2'.out.below hb6)
            have HB6 := Lib.hid (HB2.out.trans ((HB5.out.trans (hb6.mono HB5.out.size)).mono HB2.out.size))
            have hle : (o2.map negE).length = o2.length := List.length_map _
            rw [hle]
            clear hi3 hr3 hb6)))
  have hlo := chg_len HI2.out (edges_B HES.out hlx).2 (edges_B HFS.out hly).2
  have HCBD := Lib.hid (chg_B HI2.out HBE.out HBF.out (edges_B HFS.out hly).2)
  clear p0 p1 p2 q0 q1 q2
  go_loopw [13] (fun i wr => ∃ j : Nat, j ≤ o2.length ∧ i = .int .i64 j ∧ Below w6.heap.size w6 wr) (fun i _ => o2.length - (intOf i).toNat)
  case atStart => exact ⟨0, by omega, rfl, Below.refl _ _⟩
  case round => as_aux_lemma =>
    obtain ⟨j, hj, rfl, hb⟩ := hrel
    by_cases hlt : j < o2.length
    · obtain ⟨y, hy⟩ := get_some hlt
      have hz : (o2.map negE)[j]? = some (negE y) := by simp [hy]
      obtain ⟨g2, rfl, hg2, c0, c1', c2', c3⟩ := (HR2''.out.below hb).at_ j y hy
      obtain ⟨g3, rfl, hg3, d0, d1', d2', d3⟩ := (HR3.out.below hb).at_ j (negE y) hz
      obtain ⟨b1, b2, b3, b4⟩ := HCBD.out y (List.mem_of_getElem? hy)
      have hn1 : IntKind.i64.wrap (-(negE y).acc) = y.acc := by
        have : -(negE y).acc = y.acc := by simp [negE]
        rw [this]; exact IntWalk.i64_in _ (by omega)
      have hn2 : IntKind.i64.wrap (-(negE y).msg) = y.msg := by
        have : -(negE y).msg = y.msg := by simp [negE]
        rw [this]; exact IntWalk.i64_in _ (by omega)
      have e0 : (y.frm != (negE y).frm) = false := by simp [negE]
      have e1 : (y.at' != (negE y).at') = false := by simp [negE]
      have hj0 : (0 : Int) ≤ (j : Int) := by omega
      have hj1 : (j : Int) < (o2.length : Int) := by omega
      have HB := Lib.hid hb
      generalize negE y = z at *
      clear hy hz hb b1 b2 b3 b4
      go_wp2
      go_quiet (fail)
      go_wp2
      go_roundw
      case rel => exact ⟨j + 1, by omega, by go_num, below_draw HB.out _⟩
      case measure => simp [intOf]; omega
    · have HB := Lib.hid (HB6.out.trans (hb.mono HB6.out.size))
      clear hb
      go_wp2_with (go_at_call 9; refine (awake_any _).mono ?_; rintro e w7 ⟨rfl, hb7⟩)
      go_ret
      exact ⟨rfl, HB.out.trans (hb7.mono HB.out.size)⟩
end Go.Proofs.Ytghjhlenkgkelaa
