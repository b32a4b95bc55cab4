/- DERIVED. The program's apart: must a space stand between two tokens? -/
import Derived.Test.YtdloadeidijcoaaGreatDoorPEqs
import Derived.Test.YtdloadeidijcoaaGreatDoorJoin0
set_option linter.unusedSimpArgs false
set_option linter.unusedVariables false
namespace Go.Proofs.YtdloadeidijcoaaGreatDoor
open Go.RowKit Go.Shelf

/-- a block just made reads as the elements that it holds -/
theorem rd_new {α : Type} {enc : α → List Value} {k : Nat} (hk : ∀ x, (enc x).length = k) (W : World) (xs : List α) (T : TypeId) (n : Nat) (hn : n = xs.length) (cs : Array Value) (hcs : cs = (xs.flatMap enc).toArray) (b : Nat) (hb : b = W.heap.size) :
    Rd enc k (W.alloc (.cells cs T)) (some ⟨b, 0, none⟩) n xs := by
  subst hcs; subst hb
  refine ⟨hn, fun i x hx => ⟨_, 0, rfl, by simp, fun j u hu => ?_⟩⟩
  rw [BlkAt.cell (BlkAt.new W T (xs.flatMap enc).toArray), Nat.zero_add]
  simpa using flat_at hk xs i x j u hx hu
theorem own_setc {w : World} {base : Nat} {e : TypeId} {k n : Nat} {v : Value} {xs : List Value} (h : w.ownsRow base e k v n xs) (b i : Nat) (u : Value) (hb : b < base) : (w.setCell ⟨b, i, none⟩ u).ownsRow base e k v n xs :=
  h.kept (setCell_grown w b i u) (.inr (by
    intro he
    have := (own_lt h he).1
    omega))
theorem rd_own' {α : Type} {enc : α → List Value} {k : Nat} {w : World} {base n c : Nat} {T : TypeId} {A : Option Addr} {xs : List α} (hk : ∀ x, (enc x).length = k) (h : w.ownsRow base T k (.slice A n c) xs.length (xs.flatMap enc)) : Rd enc k w A n xs := by
  obtain ⟨A', c', e, hr, _⟩ := rd_own hk h
  cases e
  exact hr
theorem ba_app2 (a b : List UInt8) : (⟨a.toArray⟩ : ByteArray) ++ ⟨b.toArray⟩ = ⟨(a ++ b).toArray⟩ := by
  apply ByteArray.ext
  simp
theorem scan_err (n : Nat) : ∀ (k : Nat) (l : List UInt8) (i : Nat) (e : Int), l.length ≤ k → scanL n l = .bad i e → e ≠ 0
  | _, [], i, e, _, h => by rw [scanL] at h; cases h
  | 0, _ :: _, _, _, hk, _ => by simp at hk
  | k + 1, c :: r, i, e, hk, h => by
    rcases scan_cases n c r with ⟨l', h1, _, h3⟩ | ⟨_, _, _, h3⟩ | ⟨_, _, ⟨e', ho, h3⟩ | ⟨t, r', ho, h2, h3⟩⟩
    · rw [h3] at h
      exact scan_err n k l' i e (by simp only [List.length_cons] at h1 hk; omega) h
    · rw [h3] at h; cases h; decide
    · rw [h3] at h; cases h; exact one_err ho
    · rw [h3] at h
      rcases hs : scanL n r' with ts | ⟨i', e2⟩
      · rw [hs] at h; cases h
      · rw [hs] at h
        cases h
        exact scan_err n k r' _ _ (by simp only [List.length_cons] at h2 hk; omega) hs
/-- what apart asks -/
def apA (x y : Tok) (s t : List UInt8) : Bool := decide (scanL (s ++ t).length (s ++ t) ≠ .ok [x.put 0, y.put (s.length : Int)])
set_option maxRecDepth 100000 in
set_option maxHeartbeats 8000000 in
theorem apart_any (x y : Tok) (s t : List UInt8) (w : World) (hl : s.length + t.length ≤ 40000) (hV : Vars w) :
    Calls Tryz.prog 28 #[encT x, encT y, strV s, strV t] w fun e w' => e = .returned (.bool (apA x y s t)) ∧ Below w.heap.size w w' := by
  have hb0 : Below w.heap.size w ((w.alloc (.cells #[.int .i64 x.kind, .string ⟨x.text.toArray⟩, .int .i64 x.value, .int .i64 x.at_] PT)).alloc (.cells #[.int .i64 y.kind, .string ⟨y.text.toArray⟩, .int .i64 y.value, .int .i64 y.at_] PT)) :=
    ((Below.refl w.heap.size w).alloc (Nat.le_refl _) _).alloc (by simp) _
  have hsz : ((w.alloc (.cells #[.int .i64 x.kind, .string ⟨x.text.toArray⟩, .int .i64 x.value, .int .i64 x.at_] PT)).alloc (.cells #[.int .i64 y.kind, .string ⟨y.text.toArray⟩, .int .i64 y.value, .int .i64 y.at_] PT)).heap.size = w.heap.size + 2 := by simp
  have HX0 : Hid (BlkAt ((w.alloc (.cells #[.int .i64 x.kind, .string ⟨x.text.toArray⟩, .int .i64 x.value, .int .i64 x.at_] PT)).alloc (.cells #[.int .i64 y.kind, .string ⟨y.text.toArray⟩, .int .i64 y.value, .int .i64 y.at_] PT)) w.heap.size PT #[.int .i64 x.kind, .string ⟨x.text.toArray⟩, .int .i64 x.value, .int .i64 x.at_]) := Lib.hid ((BlkAt.new w PT _).alloc _)
  have HY0 : Hid (BlkAt ((w.alloc (.cells #[.int .i64 x.kind, .string ⟨x.text.toArray⟩, .int .i64 x.value, .int .i64 x.at_] PT)).alloc (.cells #[.int .i64 y.kind, .string ⟨y.text.toArray⟩, .int .i64 y.value, .int .i64 y.at_] PT)) (w.heap.size + 1) PT #[.int .i64 y.kind, .string ⟨y.text.toArray⟩, .int .i64 y.value, .int .i64 y.at_]) := Lib.hid (by
    have := BlkAt.new (w.alloc (.cells #[.int .i64 x.kind, .string ⟨x.text.toArray⟩, .int .i64 x.value, .int .i64 x.at_] PT)) PT #[.int .i64 y.kind, .string ⟨y.text.toArray⟩, .int .i64 y.value, .int .i64 y.at_]
    rwa [show (w.alloc (.cells #[.int .i64 x.kind, .string ⟨x.text.toArray⟩, .int .i64 x.value, .int .i64 x.at_] PT)).heap.size = w.heap.size + 1 from Array.size_push _] at this)
  have hsc := pscan_any (s ++ t) _ (by rw [List.length_append]; exact hl) (hV.below hb0)
  have HB0 := Lib.hid hb0
  have HSZ := Lib.hid hsz
  have HT : Hid (∀ ts, scanL (s ++ t).length (s ++ t) = .ok ts → ts.length ≤ 40000) := Lib.hid (fun ts h => by
    have := (scan_sum _ _ _ ts (Nat.le_refl _) h).2
    rw [List.length_append] at this; omega)
  have HAP : Hid (apA x y s t = decide (scanL (s ++ t).length (s ++ t) ≠ .ok [x.put 0, y.put (s.length : Int)])) := Lib.hid rfl
  have hcat : (⟨s.toArray⟩ : ByteArray) ++ ⟨t.toArray⟩ = ⟨(s ++ t).toArray⟩ := ba_app2 _ _
  have hn1 : (9223372036854775807 < s.length + t.length) = False := by simp; omega
  clear hV hb0 hsz hl
  generalize apA x y s t = AP at *
  generalize hst : s ++ t = S at *
  clear hst
  unfold strV at hsc
  unfold encT strV
  rcases hS : scanL S.length S with ts | ⟨i, er⟩
  · rw [hS] at hsc
    have HTS := Lib.hid (HT.out ts hS)
    have HR : Hid (AP = !decide (ts = [x.put 0, y.put (s.length : Int)])) := Lib.hid (by rw [HAP.out, hS]; simp [decide_not])
    clear hS HAP HT
    go_enter Tryz.func28, Tryz.ntmps28
    go_wp2_with (first
      | (go_at_call 13
         refine hsc.mono ?_
         rintro e w2 ⟨⟨v, rfl, hr⟩, hb2⟩
         have HO2 := Lib.hid hr
         have HB2 := Lib.hid (HB0.out.trans (hb2.mono HB0.out.size))
         have HX2 := Lib.hid (HX0.out.below hb2 HX0.out.lt)
         have HY2 := Lib.hid (HY0.out.below hb2 HY0.out.lt)
         obtain ⟨A2, c2, rfl, _, _⟩ := rd_own (enc := encTL) (k := 4) encTL_len hr
         have fz1 := HX2.out.frozen 3
         have fz2 := HY2.out.frozen 3
         have HX3 : Hid (BlkAt ((w2.setCell ⟨w.heap.size, 3, none⟩ (.int .i64 0)).setCell ⟨w.heap.size + 1, 3, none⟩ (.int .i64 s.length)) w.heap.size PT #[.int .i64 x.kind, .string ⟨x.text.toArray⟩, .int .i64 x.value, .int .i64 0]) := Lib.hid ((HX2.out.set 3 (.int .i64 0)).far (by simp) _)
         have HY3 : Hid (BlkAt ((w2.setCell ⟨w.heap.size, 3, none⟩ (.int .i64 0)).setCell ⟨w.heap.size + 1, 3, none⟩ (.int .i64 s.length)) (w.heap.size + 1) PT #[.int .i64 y.kind, .string ⟨y.text.toArray⟩, .int .i64 y.value, .int .i64 s.length]) := Lib.hid ((HY2.out.far (by simp) _).set 3 (.int .i64 s.length))
         have HO3 := Lib.hid (own_setc (own_setc HO2.out w.heap.size 3 (.int .i64 0) (by rw [HSZ.out]; omega)) (w.heap.size + 1) 3 (.int .i64 s.length) (by rw [HSZ.out]; omega))
         have HB3 : Hid (Below w.heap.size w ((w2.setCell ⟨w.heap.size, 3, none⟩ (.int .i64 0)).setCell ⟨w.heap.size + 1, 3, none⟩ (.int .i64 s.length))) := Lib.hid ((HB2.out.setCell (p := ⟨w.heap.size, 3, none⟩) (Nat.le_refl _) _).setCell (p := ⟨w.heap.size + 1, 3, none⟩) (Nat.le_succ _) _)
         have e0 := HX3.out.cell 0
         have e1 := HX3.out.cell 1
         have e2 := HX3.out.cell 2
         have e3 := HX3.out.cell 3
         simp only [List.getElem?_toArray, List.getElem?_cons_succ, List.getElem?_cons_zero] at e0 e1 e2 e3
         have g0 := HY3.out.cell 0
         have g1 := HY3.out.cell 1
         have g2 := HY3.out.cell 2
         have g3 := HY3.out.cell 3
         simp only [List.getElem?_toArray, List.getElem?_cons_succ, List.getElem?_cons_zero] at g0 g1 g2 g3
         have k0 := HX2.out.cell 0
         have k1 := HX2.out.cell 1
         have k2 := HX2.out.cell 2
         have k3 := HX2.out.cell 3
         have m0 := HY2.out.cell 0
         have m1 := HY2.out.cell 1
         have m2 := HY2.out.cell 2
         have m3 := HY2.out.cell 3
         simp only [List.getElem?_toArray, List.getElem?_cons_succ, List.getElem?_cons_zero] at k0 k1 k2 k3 m0 m1 m2 m3
         clear hr hb2 hsc)
      | (go_at_call 42
         refine (eqs2_any _ _ _ _ _ _ ts [x.put 0, y.put (s.length : Int)] _ ((rd_own' encTL_len HO3.out).below ((Below.refl _ _).alloc (Nat.le_refl _) _)) (rd_new encTL_len _ [x.put 0, y.put (s.length : Int)] PT 2 rfl _ rfl _ (by simp)) (by have := HTS.out; omega) (by decide)).mono ?_
         rintro e w4 ⟨rfl, hb4⟩
         have HB4 := Lib.hid ((HB3.out.alloc HB3.out.size _).trans (hb4.mono (HB3.out.alloc HB3.out.size _).size))
         clear hb4))
    go_ret
    exact ⟨ret_bool HR.out.symm, HB4.out⟩
  · rw [hS] at hsc
    have HR : Hid (AP = true) := Lib.hid (by rw [HAP.out, hS]; simp)
    have hne : (er != 0) = true := bne_iff_ne.2 (scan_err _ _ _ _ _ (Nat.le_refl _) hS)
    clear hS HAP HT
    go_enter Tryz.func28, Tryz.ntmps28
    go_wp2_with (first
      | (go_at_call 13
         refine hsc.mono ?_
         rintro e w2 ⟨rfl, hb2⟩
         have HB2 := Lib.hid (HB0.out.trans (hb2.mono HB0.out.size))
         have HX2 := Lib.hid (HX0.out.below hb2 HX0.out.lt)
         have HY2 := Lib.hid (HY0.out.below hb2 HY0.out.lt)
         have fz1 := HX2.out.frozen 3
         have fz2 := HY2.out.frozen 3
         have HX3 : Hid (BlkAt ((w2.setCell ⟨w.heap.size, 3, none⟩ (.int .i64 0)).setCell ⟨w.heap.size + 1, 3, none⟩ (.int .i64 s.length)) w.heap.size PT #[.int .i64 x.kind, .string ⟨x.text.toArray⟩, .int .i64 x.value, .int .i64 0]) := Lib.hid ((HX2.out.set 3 (.int .i64 0)).far (by simp) _)
         have HB3 : Hid (Below w.heap.size w ((w2.setCell ⟨w.heap.size, 3, none⟩ (.int .i64 0)).setCell ⟨w.heap.size + 1, 3, none⟩ (.int .i64 s.length))) := Lib.hid ((HB2.out.setCell (p := ⟨w.heap.size, 3, none⟩) (Nat.le_refl _) _).setCell (p := ⟨w.heap.size + 1, 3, none⟩) (Nat.le_succ _) _)
         have k3 := HX2.out.cell 3
         have m3 := HY2.out.cell 3
         simp only [List.getElem?_toArray, List.getElem?_cons_succ, List.getElem?_cons_zero] at k3 m3
         clear hb2 hsc))
    go_ret
    exact ⟨ret_bool HR.out.symm, HB3.out⟩
end Go.Proofs.YtdloadeidijcoaaGreatDoor
