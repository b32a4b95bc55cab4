/- DERIVED. The tokens as they come: the iterator of the scanner. -/
import Derived.Test.YtdloadeidijcoaaGreatDoorPOne3
import Derived.Test.YtdloadeidijcoaaGreatDoorRangeX
import Derived.Shelf.AbstractIn
import Derived.RangeFuncSeq
import Derived.Shelf.RegionOpen
import Derived.OwnWalkIn
import Derived.TacticsInMore
import Derived.RegionIn
import Derived.Sort.QuietTacIn
import Derived.LoopNIn
import Derived.LoopIn
set_option linter.unusedSimpArgs false
set_option linter.unusedVariables false
namespace Go.Proofs.YtdloadeidijcoaaGreatDoor
open Go.RowKit Go.Shelf Go
attribute [local go_sem] Oper.semAt_some

/-- the variables lie below K0 -/
def VLow (K0 : Nat) : Prop := (∀ g, Tryz.prog.globalNamed "strconv.ErrSyntax" = some g → g < K0) ∧ (∀ g, Tryz.prog.globalNamed "strconv.ErrRange" = some g → g < K0) ∧ (∀ g, Tryz.prog.globalNamed "strings.asciiSpace" = some g → g < K0)
theorem Vars.low {w : World} (h : Vars w) {K0 : Nat} (hK : w.heap.size ≤ K0) : VLow K0 := by
  obtain ⟨_, _, e1⟩ := h.syn
  obtain ⟨_, _, e2⟩ := h.rng
  exact ⟨fun g e => by have := var_lt e1 e; omega, fun g e => by have := var_lt e2 e; omega, fun g e => by have := var_lt h.tab e; omega⟩
/-- the blocks below K0 lie as they lay -/
def KpX (K0 : Nat) (a b : World) : Prop := a.heap.size ≤ b.heap.size ∧ ∀ k, k < K0 → b.heap[k]? = a.heap[k]?
theorem KpX.trans {K0 : Nat} {a b c : World} (h : KpX K0 a b) (g : KpX K0 b c) : KpX K0 a c := ⟨Nat.le_trans h.1 g.1, fun k hk => (g.2 k hk).trans (h.2 k hk)⟩
theorem var_kp {K0 : Nat} {a b : World} {n : String} {cs : Array Value} (h : a.var? Tryz.prog n = some cs) (hl : ∀ g, Tryz.prog.globalNamed n = some g → g < K0) (hk : KpX K0 a b) : b.var? Tryz.prog n = some cs := by
  rcases hg : Tryz.prog.globalNamed n with _ | g
  · unfold World.var? at h; rw [hg] at h; cases h
  · unfold World.var? at h ⊢
    rw [hg] at h ⊢
    simp only [Option.bind_some] at h ⊢
    rw [hk.2 g (hl g hg)]; exact h
theorem Vars.kp {K0 : Nat} {a b : World} (h : Vars a) (hl : VLow K0) (hk : KpX K0 a b) : Vars b :=
  ⟨by obtain ⟨tp, p, e⟩ := h.syn; exact ⟨tp, p, var_kp e hl.1 hk⟩, by obtain ⟨tp, p, e⟩ := h.rng; exact ⟨tp, p, var_kp e hl.2.1 hk⟩, var_kp h.tab hl.2.2 hk⟩
/-- a step of the iterator: of the old blocks the scanner's alone may turn -/
def StX (X : Nat) (a b : World) : Prop := a.grownBy b (some X) ∧ ∃ cs, BlkAt a X SC cs
theorem StX.other {X : Nat} {a b : World} (h : StX X a b) (k : Nat) (o : Obj) (hk : a.heap[k]? = some o) (ho : o.isCells = false) : b.heap[k]? = some o := by
  obtain ⟨cs, e⟩ := h.2
  have hne : k ≠ X := by rintro rfl; unfold BlkAt at e; rw [hk] at e; cases e; cases ho
  rw [h.1.block k (Array.getElem?_eq_some_iff.1 hk).1 (fun e => hne (Option.some.inj e)), hk]
theorem ScAt.st {a b : World} {X : Nat} {t : List UInt8} {k e : Int} (h : ScAt a X t k e) (hg : a.grownBy b (some X)) : StX X a b := ⟨hg, _, h⟩
/-- what the iterator starts from -/
def StartX (t : List UInt8) (X Bx K0 : Nat) (w : World) : Prop := ScAt w X t 0 0 ∧ BlkAt w Bx 60 #[pX X] ∧ Vars w ∧ K0 ≤ w.heap.size
/-- what is told at the end -/
def DoneX (t : List UInt8) (X : Nat) (xs : List Tok) (w : World) : Prop := ∃ k e : Int, ScAt w X t k e ∧ ((e = 0 ∧ scanL t.length t = .ok xs) ∨ (e ≠ 0 ∧ ∃ i : Nat, k = i ∧ i ≤ t.length ∧ scanL t.length t = .bad i e))
theorem begins_cases {t : List UInt8} {k : Nat} (h : Begins t k) (hk : k < t.length) : (∃ e, oneL k (t.drop k) = .bad e ∧ e ≠ 0 ∧ scanL t.length (t.drop k) = .bad k e) ∨
    (∃ x r, oneL k (t.drop k) = .tok x r ∧ r.length < t.length - k ∧ r = t.drop (t.length - r.length) ∧ scanL t.length (t.drop k) = (scanL t.length r).cons x) := by
  rcases h with h | ⟨c, hc, hw, hn⟩
  · omega
  · have hd := drop_cons hc
    have hnl : ((t.length - (t.drop k).length : Nat) : Int) = k := by rw [List.length_drop]; omega
    rcases ho : oneL k (t.drop k) with ⟨x, r⟩ | e
    · refine .inr ⟨x, r, rfl, ?_, suf_drop (one_suf ho), ?_⟩
      · have := oneL_len ho
        rwa [List.length_drop] at this
      · rw [hd]; exact scan_tok hw hn (by rw [← hd, hnl]; exact ho)
    · refine .inl ⟨e, rfl, one_err ho, ?_⟩
      rw [hd, scan_bad hw hn (by rw [← hd, hnl]; exact ho), ← hd, List.length_drop]
      congr 1; omega
def wsAt (X : Nat) (w : World) : Nat := match w.cell? ⟨X, 1, none⟩ with | some v => (intOf v).toNat | none => 0
theorem ScAt.ws {w : World} {X : Nat} {t : List UInt8} {k : Nat} {e : Int} (h : ScAt w X t k e) : wsAt X w = k := by
  unfold wsAt; rw [h.c1]; simp [intOf]
set_option maxRecDepth 100000 in
set_option maxHeartbeats 8000000 in
theorem all_seq (n : Nat) (hn : 1 ≤ n) (t : List UInt8) (X Bx K0 : Nat) (ht : t.length ≤ 1000000) (hX : Off X) (hXK : X < K0) (hBK : Bx < K0) (hXB : X ≠ Bx) (hVL : VLow K0) :
    SeqX Fence.wide n Tryz.prog 46 #[.pointer (some ⟨Bx, 0, none⟩)] (fun x : Tok => #[encT x]) (StX X) (KpX K0) (DoneX t X) t.length (StartX t X Bx K0) := by
  intro l J W hW hJ hY h0
  have HJ := Lib.hid hJ
  have HY := Lib.hid hY
  have HW := Lib.hid hW
  have H0 := Lib.hid h0
  have HVL := Lib.hid hVL
  have HX := Lib.hid hX
  clear hJ hY hW h0 hVL hX
  refine callsIn_of_wp Tryz.func46 rfl trivial ?_ rfl
  simp only [Tryz.ntmps46, List.size_toArray, List.length_cons, List.length_nil, Nat.reduceAdd, Nat.reduceSub, Array.replicate_succ, Array.replicate_zero, List.push_toArray, List.append_toArray, List.nil_append, List.cons_append]
  gi_wp2
  gi_loopw [3] (fun _ wr => ∃ (k : Nat) (pre : List Tok), k ≤ t.length ∧ pre.length ≤ k ∧ Hid (ScAt wr X t k 0) ∧ Hid (BlkAt wr Bx 60 #[pX X]) ∧ Hid (Vars wr) ∧ Hid (scanL t.length t = (scanL t.length (t.drop k)).pre pre) ∧ Hid (J pre wr) ∧ K0 ≤ wr.heap.size) (fun _ wr => t.length - wsAt X wr)
  case atStart => exact ⟨0, [], by omega, by simp, Lib.hid HW.out.1, Lib.hid HW.out.2.1, Lib.hid HW.out.2.2.1, Lib.hid (by rw [Sc.pre_nil]; rfl), H0, HW.out.2.2.2⟩
  case round =>
    obtain ⟨k, pre, hk, hp, HS, HB, HV, HK, HJP, hKr⟩ := hrel
    have hbx := HB.out.cell 0
    simp only [List.getElem?_toArray, List.getElem?_cons_zero, pX] at hbx
    gi_wp2
    refine ⟨trivial, ?_⟩
    refine (callsIn_wide.2 (white_any X k t wr ht hk HS.out)).mono ?_
    rintro e w2 ⟨rfl, hg2, hend⟩
    have hbx2 := HB.out.kept hg2 (fun e => hXB (Option.some.inj e).symm)
    have HB2 := Lib.hid hbx2
    have HV2 := Lib.hid (HV.out.grown hg2 (fun X' e => by cases e; exact HX.out))
    have HJ2 := Lib.hid (HJ.out _ _ _ HJP.out (HS.out.st hg2))
    have hK2 : K0 ≤ w2.heap.size := Nat.le_trans hKr hg2.size
    have hb2 := hbx2.cell 0
    simp only [List.getElem?_toArray, List.getElem?_cons_zero, pX] at hb2
    have HEND := Lib.hid hend
    clear hg2 hbx2 hbx hend
    rcases HEND.out with ⟨k', hs2, hsc, hk'⟩ | ⟨k', hk', hkk', hs2, hsc, hbg⟩
    · have HD : Hid (scanL t.length t = .bad k' 112) := Lib.hid (by rw [HK.out, hsc]; rfl)
      have hc0 := hs2.c0
      have hc1 := hs2.c1
      have hc2 := hs2.c2
      have HS2 := Lib.hid hs2
      clear hs2 hsc HEND
      gi_wp2
      gi_quiet_th (fail)
      gi_wp2
      refine bodyPost_ret (results_none rfl _ _ _) rfl ?_
      exact ⟨⟨_, rfl⟩, pre, ⟨k', 112, HS2.out.drew nq, .inr ⟨by decide, k', rfl, hk', HD.out⟩⟩, HJ.out _ _ _ HJ2.out (HS2.out.st (grown_draw (grown_refl _ _) nq))⟩
    · have hc0 := hs2.c0
      have hc1 := hs2.c1
      have hc2 := hs2.c2
      have HS2 := Lib.hid hs2
      by_cases hkn : k' = t.length
      · have HD : Hid (scanL t.length t = .ok pre) := Lib.hid (by rw [HK.out, hsc, hkn, List.drop_length, scanL]; simp [Sc.pre])
        have hkl : ((k' : Int) == (t.length : Int)) = true := by rw [hkn]; simp
        clear hs2 hsc HEND hbg hkn
        gi_wp2
        gi_quiet_th (fail)
        gi_wp2
        refine bodyPost_ret (results_none rfl _ _ _) rfl ?_
        exact ⟨⟨_, rfl⟩, pre, ⟨k', 0, HS2.out.drew nq, .inl ⟨rfl, HD.out⟩⟩, HJ.out _ _ _ HJ2.out (HS2.out.st (grown_draw (grown_refl _ _) nq))⟩
      · have hlt : k' < t.length := by omega
        have hkl : ((k' : Int) == (t.length : Int)) = false := beq_eq_false_iff_ne.2 (by omega)
        rcases begins_cases hbg hlt with ⟨er, ho, hne, hse⟩ | ⟨x, r, ho, hrl, hrd, hse⟩
        · have HD : Hid (scanL t.length t = .bad k' er) := Lib.hid (by rw [HK.out, hsc, hse]; rfl)
          have hone := fun W (hV' : Vars W) (h' : ScAt W X t k' 0) => pone_any X k' t W ht hlt hV' HX.out h'
          rw [ho] at hone
          have HNE := Lib.hid hne
          have hneb : (er != 0) = true := bne_iff_ne.2 hne
          clear hs2 hsc HEND hbg hkn ho hse hne
          gi_wp2
          gi_quiet_th (fail)
          gi_wp2
          refine ⟨trivial, ?_⟩
          refine (callsIn_wide.2 (hone _ (HV2.out.below (below_draw (Below.refl _ _) nq)) (HS2.out.drew nq))).mono ?_
          rintro e w3 ⟨rfl, hs3, hg3⟩
          have HS3 := Lib.hid (hs3.below ((Below.refl w3.heap.size w3).alloc (Nat.le_refl _) (.cells #[.int .i64 0, .string ⟨#[]⟩, .int .i64 0, .int .i64 0] PT)))
          have HJ3 := Lib.hid (HJ.out _ _ _ (HJ.out _ _ _ HJ2.out (HS2.out.st (grown_draw (grown_refl _ _) nq))) ((HS2.out.drew nq).st hg3))
          have HJ4 := Lib.hid (HJ.out _ _ _ HJ3.out (hs3.st (grown_below (grown_refl w3 (some X)) ((Below.refl w3.heap.size w3).alloc (Nat.le_refl _) (.cells #[.int .i64 0, .string ⟨#[]⟩, .int .i64 0, .int .i64 0] PT)))))
          have hblk3 := HB2.out.kept (W' := w3) (row := some X) (grown_trans (grown_draw (grown_refl _ _) nq) hg3) (fun e => hXB (Option.some.inj e).symm)
          have hb3 := hblk3.cell 0
          have hlB := hblk3.lt
          have hlX := hs3.lt
          clear hblk3
          simp only [List.getElem?_toArray, List.getElem?_cons_zero, pX] at hb3
          have hd2 := hs3.c2
          clear hs3 hg3 hone hb2 hc0 hc1 hc2
          gi_wp2
          refine ⟨fun f hf => (by cases hf), ?_⟩
          gi_wp2
          refine bodyPost_ret (results_none rfl _ _ _) rfl ?_
          exact ⟨⟨_, rfl⟩, pre, ⟨k', er, HS3.out, .inr ⟨HNE.out, k', rfl, hk', HD.out⟩⟩, HJ4.out⟩
        · have HK2 : Hid (scanL t.length t = (scanL t.length (t.drop (t.length - r.length))).pre (pre ++ [x])) := Lib.hid (by
            rw [HK.out, hsc, hse, Sc.pre_cons, ← hrd])
          have hone := fun W (hV' : Vars W) (h' : ScAt W X t k' 0) => pone_any X k' t W ht hlt hV' HX.out h'
          rw [ho] at hone
          simp only [OneEnd, encT, strV] at hone
          have hplen : pre.length < t.length := by omega
          clear hs2 hsc HEND hbg hkn ho hse hrd
          generalize hM : t.length - r.length = M at *
          gi_wp2
          gi_quiet_th (fail)
          gi_wp2
          refine ⟨trivial, ?_⟩
          refine (callsIn_wide.2 (hone _ (HV2.out.below (below_draw (Below.refl _ _) nq)) (HS2.out.drew nq))).mono ?_
          rintro e w3 ⟨rfl, hs3, hg3⟩
          have hal := (Below.refl w3.heap.size w3).alloc (Nat.le_refl _) (.cells #[.int .i64 x.kind, .string ⟨x.text.toArray⟩, .int .i64 x.value, .int .i64 x.at_] PT)
          have HS4 := Lib.hid (hs3.below hal)
          have hJ4 := HJ.out _ _ _ (HJ.out _ _ _ (HJ.out _ _ _ HJ2.out (HS2.out.st (grown_draw (grown_refl _ _) nq))) ((HS2.out.drew nq).st hg3)) (hs3.st (grown_below (grown_refl w3 (some X)) hal))
          have hblk3 := HB2.out.kept (W' := w3) (row := some X) (grown_trans (grown_draw (grown_refl _ _) nq) hg3) (fun e => hXB (Option.some.inj e).symm)
          have HB4 := Lib.hid (hblk3.alloc (.cells #[.int .i64 x.kind, .string ⟨x.text.toArray⟩, .int .i64 x.value, .int .i64 x.at_] PT))
          have HV4 := Lib.hid (((HV2.out.below (below_draw (Below.refl _ _) nq)).grown hg3 (fun X' e => by cases e; exact HX.out)).below hal)
          have hK4 : K0 ≤ w3.heap.size := Nat.le_trans hK2 (by have := hg3.size; simpa using this)
          obtain ⟨fn, tmps, assign, body, hy, hR⟩ := HY.out pre x _ hJ4 hplen
          have hb3 := hblk3.cell 0
          have hlB := hblk3.lt
          have hlX := hs3.lt
          simp only [List.getElem?_toArray, List.getElem?_cons_zero, pX] at hb3
          have hd2 := hs3.c2
          unfold encT strV at hy
          clear hs3 hg3 hone hb2 hc0 hc1 hc2 hblk3 hal hJ4
          gi_wp2
          refine hR.mono ?_
          rintro e W3 ⟨rfl, hJ5, hk5⟩
          have HS5 := Lib.hid (BlkAt.block HS4.out (hk5.2 X hXK))
          have HB5 := Lib.hid (BlkAt.block HB4.out (hk5.2 Bx hBK))
          have HV5 := Lib.hid (HV4.out.kp HVL.out hk5)
          have HJ5 := Lib.hid hJ5
          have hK5 : K0 ≤ W3.heap.size := Nat.le_trans hK4 (by have := hk5.1; simp at this; omega)
          clear hJ5 hk5
          gi_wp2
          go_roundw
          case rel => exact ⟨M, pre ++ [x], by omega, by simp; omega, HS5, HB5, HV5, HK2, HJ5, hK5⟩
          case measure => rw [ScAt.ws HS5.out, ScAt.ws HS.out]; omega
end Go.Proofs.YtdloadeidijcoaaGreatDoor
