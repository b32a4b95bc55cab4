/- DERIVED. The life of a body: what is live ahead of and behind each instruction. -/
import Derived.Test.YtpahhcmiimllaaaGreatDoorUs
import Derived.Test.YtpahhcmiimllaaaGreatDoorLoopR
import Derived.Test.YtpahhcmiimllaaaGreatDoorHeldL
import Derived.Test.YtpahhcmiimllaaaGreatDoorChk
import Derived.Deep.LoopGhost
set_option linter.unusedSimpArgs false
set_option linter.unusedVariables false
namespace Go.Proofs.YtpahhcmiimllaaaGreatDoor
open Go.RowKit Go.Shelf Go.Sort
attribute [local go_sem] Oper.semAt_some

theorem use_info : (Tryz.prog.info? 111).map (fun i => (i.zero, i.size, i.bytes)) = some (some (.agg #[.slice none 0 0, .int .i64 0]), 2, 32) := by kernel_rfl
theorem set_info : (Tryz.prog.info? 94).map (fun i => (i.zero, i.size, i.bytes)) = some (some (.slice none 0 0), 1, 24) := by kernel_rfl
theorem newSetI (r : Int) (w : World) (h0 : 0 ≤ r) (hr : r ≤ 1000000) :
    Calls Tryz.prog 75 #[.int .i64 r] w fun e w' => e = .returned (.slice (some ⟨w.heap.size, 0, none⟩) (r.toNat / 64 + 1) (r.toNat / 64 + 1)) ∧ RowW w' w.heap.size (List.replicate (r.toNat / 64 + 1) 0) ∧ Below w.heap.size w w' := by
  have := newSet_any r.toNat w (by omega)
  rwa [Int.toNat_of_nonneg h0] at this
theorem life_fresh {w : World} {B0 X : Nat} {b : BodyL} {A : Option Addr} {n c nw : Nat} {us : List UseV} {vU vA vB : Value} {gA gB : List (Nat × Nat)} {ah be : List (List Nat)} (h : LifeAt w B0 X b A n c nw us vU vA vB gA gB ah be) : w.heap.size ∉ (gA ++ gB).map Prod.fst := by
  intro hm
  obtain ⟨g, hg, e⟩ := List.mem_map.1 hm
  rcases List.mem_append.1 hg with hg | hg
  · obtain ⟨i, hi⟩ := List.getElem?_of_mem hg
    obtain ⟨ws, hws⟩ := get_some (xs := ah) (k := i) (by rw [← h.wsA.len]; exact (List.getElem?_eq_some_iff.1 hi).1)
    have := (h.wsA.row i g ws hi hws).1.lt
    omega
  · obtain ⟨i, hi⟩ := List.getElem?_of_mem hg
    obtain ⟨ws, hws⟩ := get_some (xs := be) (k := i) (by rw [← h.wsB.len]; exact (List.getElem?_eq_some_iff.1 hi).1)
    have := (h.wsB.row i g ws hi hws).1.lt
    omega
theorem life_new (w : World) (B0 : Nat) (b : BodyL) (A : Option Addr) (n c nw : Nat) (hB : B0 ≤ w.heap.size) : LifeAt (w.alloc (.cells #[.string ⟨b.name.toArray⟩, .int .i64 b.regs, .int .i64 b.args, .slice A n c, .slice none 0 0, .slice none 0 0, .slice none 0 0] 85)) B0 w.heap.size b A n c nw [] (.slice none 0 0) (.slice none 0 0) (.slice none 0 0) [] [] [] [] :=
  ⟨BlkAt.new w _ _, hB, ⟨rfl, .inl ⟨rfl, rfl⟩⟩, by simp, ⟨rfl, .inl ⟨rfl, rfl⟩⟩, ⟨rfl, .inl ⟨rfl, rfl⟩⟩, ⟨rfl, by simp⟩, ⟨rfl, by simp⟩, by simp, .inl rfl⟩
theorem next_c {c : CodeL} {b : BodyL} {x : InsL} (h : InsRight c b x) (ho : x.op = 19 ∨ x.op = 20) : 0 ≤ x.c := by
  have := h.fs ((kindsOf x.op).2.2.1, x.c) (by simp [fieldsOf])
  rcases ho with ho | ho <;> rw [ho] at this <;> simp [kindsOf, kindsT, fieldB] at this <;> omega
def frameOf (f : Nat → Value) (p q : Value) : Array Value := ((((List.range 190).map f).set 7 p).set 12 q).toArray
set_option maxRecDepth 100000 in
theorem frameOf_lit (f : Nat → Value) (p q : Value) : frameOf f p q = #[f 0, f 1, f 2, f 3, f 4, f 5, f 6, p, f 8, f 9, f 10, f 11, q, f 13, f 14, f 15, f 16, f 17, f 18, f 19, f 20, f 21, f 22, f 23, f 24, f 25, f 26, f 27, f 28, f 29, f 30, f 31, f 32, f 33, f 34, f 35, f 36, f 37, f 38, f 39, f 40, f 41, f 42, f 43, f 44, f 45, f 46, f 47, f 48, f 49, f 50, f 51, f 52, f 53, f 54, f 55, f 56, f 57, f 58, f 59, f 60, f 61, f 62, f 63, f 64, f 65, f 66, f 67, f 68, f 69, f 70, f 71, f 72, f 73, f 74, f 75, f 76, f 77, f 78, f 79, f 80, f 81, f 82, f 83, f 84, f 85, f 86, f 87, f 88, f 89, f 90, f 91, f 92, f 93, f 94, f 95, f 96, f 97, f 98, f 99, f 100, f 101, f 102, f 103, f 104, f 105, f 106, f 107, f 108, f 109, f 110, f 111, f 112, f 113, f 114, f 115, f 116, f 117, f 118, f 119, f 120, f 121, f 122, f 123, f 124, f 125, f 126, f 127, f 128, f 129, f 130, f 131, f 132, f 133, f 134, f 135, f 136, f 137, f 138, f 139, f 140, f 141, f 142, f 143, f 144, f 145, f 146, f 147, f 148, f 149, f 150, f 151, f 152, f 153, f 154, f 155, f 156, f 157, f 158, f 159, f 160, f 161, f 162, f 163, f 164, f 165, f 166, f 167, f 168, f 169, f 170, f 171, f 172, f 173, f 174, f 175, f 176, f 177, f 178, f 179, f 180, f 181, f 182, f 183, f 184, f 185, f 186, f 187, f 188, f 189] := rfl
theorem frame_ex (l : List Value) (p q : Value) (h : l.length = 190) (h7 : l[7]? = some p) (h12 : l[12]? = some q) : l.toArray = frameOf (fun k => l.getD k undef) p q := by
  unfold frameOf
  congr 1
  refine List.ext_getElem? fun k => ?_
  rw [List.getElem?_set, List.length_set, List.length_map, List.length_range]
  by_cases e : 12 = k
  · subst e; simp [h12]
  · rw [if_neg e, List.getElem?_set, List.length_map, List.length_range]
    by_cases e2 : 7 = k
    · subst e2; simp [h7]
    · rw [if_neg e2, List.getElem?_map]
      rcases Nat.lt_or_ge k 190 with hk | hk
      · rw [List.getElem?_range hk]
        simp [List.getD_eq_getElem?_getD, List.getElem?_eq_getElem (show k < l.length by omega)]
      · rw [List.getElem?_eq_none (by omega), List.getElem?_eq_none (by simpa using hk)]; rfl
set_option maxRecDepth 100000 in
set_option maxHeartbeats 16000000 in
theorem lives_ok (c : CodeL) (A : Option Addr) (n cc k : Nat) (b : BodyL) (w : World) (hC : Bods w A n c.bodies) (hf : FewC c) (hV : VarsR w) (hc0 : chkC c = 0) (hb : c.bodies[k]? = some b) :
    Calls Tryz.prog 40 #[codeV c A n cc, .int .i64 k] w fun e w' => (∃ X Ab nb cb us vU vA vB gA gB ah be, e = .returned (.tuple #[.pointer (some ⟨X, 0, none⟩), .int .i64 0]) ∧ LifeAt w' w.heap.size X b Ab nb cb (b.regs.toNat / 64 + 1) us vU vA vB gA gB ah be ∧ us.length = b.code.length ∧ FixL (b.regs.toNat / 64 + 1) b.code ah be) ∧ Below w.heap.size w w' := by
  have hbm := List.mem_of_getElem? hb
  have HR := Lib.hid (chk_right hc0 hbm)
  have HB0 := Lib.hid ((Below.refl w.heap.size w).alloc (Nat.le_refl _) (.cells #[.int .i64 c.globals, .slice A n cc] 24))
  have HX0 := Lib.hid (BlkAt.new w 24 #[.int .i64 c.globals, .slice A n cc])
  have hn1 : n ≤ 1000 := by have := hf.nb; have := hC.len; omega
  have hkn : k < n := by have := hC.len; have := (List.getElem?_eq_some_iff.1 hb).1; omega
  have hlb : b.code.length ≤ 1000 := hf.len b hbm
  have hchk := chkC_any c A n cc (w.alloc (.cells #[.int .i64 c.globals, .slice A n cc] 24)) (bods_below hC HB0.out) hf (hV.below HB0.out)
  rw [hc0] at hchk
  have HCHK := Lib.hid hchk
  have HC := Lib.hid hC
  have HV := Lib.hid hV
  have HF := Lib.hid hf
  obtain ⟨bi, oi, hA, hbw, Ab, nb, cb, hbc0⟩ := hC.at_ k b hb
  have HBC := Lib.hid hbc0
  have HCD := Lib.hid hbc0.code
  have HNB := Lib.hid hbc0.code.len
  have hnb : nb ≤ 1000 := by have := hbc0.code.len; omega
  have HSH := Lib.hid (hf.short b hbm)
  subst hA
  clear hbc0 hbw
  clear hchk hC hf hV hc0 hb hbm
  have c0 := HX0.out.cell 0
  have c1 := HX0.out.cell 1
  simp only [List.getElem?_toArray, List.getElem?_cons_succ, List.getElem?_cons_zero] at c0 c1
  have hk0 : (0 : Int) ≤ (k : Int) := by omega
  have hk1 : (k : Int) < (n : Int) := by omega
  have hk2 : decide ((k : Int) < 0) = false := decide_eq_false (by omega)
  have hk3 : decide ((n : Int) ≤ (k : Int)) = false := decide_eq_false (by omega)
  have hk4 : decide (n ≤ k) = false := decide_eq_false (by omega)
  unfold codeV at HCHK ⊢
  refine calls_of_marks Tryz.func40 rfl ?_
  simp only [Tryz.ntmps40, List.size_toArray, List.length_cons, List.length_nil, Nat.reduceAdd, Nat.reduceSub, Array.replicate_succ, Array.replicate_zero, List.push_toArray, List.append_toArray, List.nil_append, List.cons_append]
  go_wp2_with (first
    | (go_at_call 74
       refine HCHK.out.mono ?_
       rintro e w1 ⟨rfl, hb1⟩
       have HB1 := Lib.hid (HB0.out.trans (hb1.mono HB0.out.size))
       have HX1 := Lib.hid (HX0.out.below hb1 HX0.out.lt)
       have hbc := HBC.out.below HB1.out
       clear c0 c1
       have c0 := HX1.out.cell 0
       have c1 := HX1.out.cell 1
       simp only [List.getElem?_toArray, List.getElem?_cons_succ, List.getElem?_cons_zero] at c0 c1
       have d0 := hbc.c0
       have d1 := hbc.c1
       have d2 := hbc.c2
       have d3 := hbc.c3
       clear hbc hb1 HCHK)
    | fail)
  clear c0 c1 d0 d1 d2 d3 hk0 hk1 hk2 hk3 hk4 HX1 HX0 HB0
  have HL0 := Lib.hid ((life_new w1 w.heap.size b Ab nb cb (b.regs.toNat / 64 + 1) HB1.out.size).alloc (.cells #[.pointer (some ⟨w1.heap.size, 0, none⟩)] 79))
  have HX0 := Lib.hid (BlkAt.new (w1.alloc (.cells #[.string ⟨b.name.toArray⟩, .int .i64 b.regs, .int .i64 b.args, .slice Ab nb cb, .slice none 0 0, .slice none 0 0, .slice none 0 0] 85)) 79 #[.pointer (some ⟨w1.heap.size, 0, none⟩)])
  have HB2 := Lib.hid ((HB1.out.alloc HB1.out.size (.cells #[.string ⟨b.name.toArray⟩, .int .i64 b.regs, .int .i64 b.args, .slice Ab nb cb, .slice none 0 0, .slice none 0 0, .slice none 0 0] 85)).alloc (alloc_sz HB1.out.size) (.cells #[.pointer (some ⟨w1.heap.size, 0, none⟩)] 79))
  rw [World.size_alloc] at HX0
  obtain ⟨W0, hW0⟩ : ∃ W0, ((w1.alloc (.cells #[.string ⟨b.name.toArray⟩, .int .i64 b.regs, .int .i64 b.args, .slice Ab nb cb, .slice none 0 0, .slice none 0 0, .slice none 0 0] 85)).alloc (.cells #[.pointer (some ⟨w1.heap.size, 0, none⟩)] 79)) = W0 := ⟨_, rfl⟩
  rw [hW0] at HL0 HX0 HB2 ⊢
  have hbl : w.heap.size ≤ w1.heap.size := HB1.out.size
  obtain ⟨Bx, hBx⟩ : ∃ Bx, w1.heap.size + 1 = Bx := ⟨_, rfl⟩
  obtain ⟨X, hX⟩ : ∃ X, w1.heap.size = X := ⟨_, rfl⟩
  rw [hBx] at HX0 ⊢
  have hBl : w.heap.size ≤ Bx := by omega
  rw [hX] at HX0 HL0 hbl ⊢
  clear hW0 hBx hX HB1
  obtain ⟨i0, hi, hz0, hz1, hz2⟩ := info_parts use_info
  have HI := Lib.hid hi
  obtain ⟨j0, hj, hy0, hy1, hy2⟩ := info_parts set_info
  have HJ := Lib.hid hj
  clear hi hj
  obtain ⟨rg, hrg⟩ : ∃ rg : Nat, b.regs = (rg : Int) := ⟨b.regs.toNat, by have := HR.out.args0; have := HR.out.args1; omega⟩
  have hrl : rg ≤ 5000 := by have := HR.out.regs; omega
  have HRG := Lib.hid hrg
  have HNS := Lib.hid (fun W => newSetI b.regs W (by omega) (by omega))
  clear hrg
  go_loopw [49] (fun ix wr => ∃ (i : Nat) (us : List UseV) (vU vA vB : Value) (gA gB : List (Nat × Nat)), i ≤ nb ∧ ix = .int .i64 i ∧ Hid (us.length = i) ∧ Hid (gA.length = i) ∧ Hid (gB.length = i) ∧ Hid (LifeAt wr w.heap.size X b Ab nb cb (b.regs.toNat / 64 + 1) us vU vA vB gA gB (List.replicate i (List.replicate (b.regs.toNat / 64 + 1) 0)) (List.replicate i (List.replicate (b.regs.toNat / 64 + 1) 0))) ∧ Hid (BlkAt wr Bx 79 #[.pointer (some ⟨X, 0, none⟩)]) ∧ Hid (Below w.heap.size w wr)) (fun ix _ => nb - (intOf ix).toNat)
  case atStart => exact ⟨0, [], .slice none 0 0, .slice none 0 0, .slice none 0 0, [], [], by omega, rfl, Lib.hid rfl, Lib.hid rfl, Lib.hid rfl, HL0, HX0, HB2⟩
  case round =>
    obtain ⟨i, us, vU, vA, vB, gA, gB, hin, rfl, HUL, HGA, HGB, HL, HX, HW⟩ := hrel
    have hul : us.length ≤ 1000 := by have := HUL.out; omega
    have hal : gA.length ≤ 1000 := by have := HGA.out; omega
    have hbll : gB.length ≤ 1000 := by have := HGB.out; omega
    by_cases hlt : i < nb
    · obtain ⟨x, hx⟩ := get_some (xs := b.code) (k := i) (by have := HNB.out; omega)
      obtain ⟨bj, oj, hAj, _, Ax, nx, cx, hxc⟩ := (inss_below HCD.out HW.out).at_ i x hx
      subst hAj
      have c0 := hxc.c0
      have c1 := hxc.c1
      have c2 := hxc.c2
      have c3 := hxc.c3
      have c4 := hxc.c4
      have c5 := hxc.c5
      have c6 := hxc.c6
      have hk0 : (0 : Int) ≤ (i : Int) := by omega
      have hk1 : (i : Int) < (nb : Int) := by omega
      have wr1 : IntKind.i64.wrap ((i : Int) + 1) = (i : Int) + 1 := IntWalk.i64_in _ (by omega)
      have HIX := Lib.hid hx
      have hshx := HSH.out x (List.mem_of_getElem? hx)
      have hnx : nx ≤ 100 := by have := hxc.list.len; have := hshx.2; omega
      have HA1 := Lib.hid ((Below.refl wr.heap.size wr).alloc (Nat.le_refl _) (.cells #[.int .i64 x.op, .int .i64 x.a, .int .i64 x.b, .int .i64 x.c, .int .i64 x.d, .string ⟨x.text.toArray⟩, .slice Ax nx cx] 55))
      have hus2 := uses_any x Ax nx cx (wr.alloc (.cells #[.int .i64 x.op, .int .i64 x.a, .int .i64 x.b, .int .i64 x.c, .int .i64 x.d, .string ⟨x.text.toArray⟩, .slice Ax nx cx] 55)) (hxc.list.below HA1.out) (by omega) hxc.nil
      unfold insV at hus2
      have HUS := Lib.hid hus2
      clear hus2 hxc hx hshx
      go_wp2_with (first
        | (go_at_call 19
           refine HUS.out.mono ?_
           rintro e w2 ⟨⟨A2, n2, k2, rfl, hr2⟩, hb2⟩
           have HB3 := Lib.hid (HA1.out.trans (hb2.mono HA1.out.size))
           have HR2 := Lib.hid hr2
           clear hr2 hb2 HUS)
        | fail)
      have HL2 := Lib.hid (HL.out.below HB3.out)
      have HX2 := Lib.hid (HX.out.below HB3.out HX.out.lt)
      have HW2 := Lib.hid (HW.out.trans (HB3.out.mono HW.out.size))
      have HUW : Hid (usesW x = usesW x) := Lib.hid rfl
      obtain ⟨uw, huw⟩ : ∃ uw, usesW x = uw := ⟨_, rfl⟩
      rw [huw]
      have HUW := Lib.hid huw
      clear huw HX HL HW HB3 HA1 HL0 HX0 HB2 c0 c1 c2 c3 c4 c5 c6
      refine heldL (fun w' => w'.cell? ⟨Bx, 0, none⟩ = some (.pointer (some ⟨X, 0, none⟩))) (fun w' => w'.cell? ⟨X, 4, none⟩ = some vU) 12 (by kernel_rfl) ?_
      have HLd := Lib.hid (HL2.out.below (below_draw (Below.refl w2.heap.size w2) 1))
      have HXd := Lib.hid (HX2.out.below (below_draw (Below.refl w2.heap.size w2) 1) HX2.out.lt)
      have HWd := Lib.hid (below_draw HW2.out 1)
      have HRd : Hid (RdT (w2.drewN 1) ⟨A2, n2, k2, uw⟩ (usesR x)) := Lib.hid (rdT_below (u := ⟨A2, n2, k2, uw⟩) HR2.out (below_draw (Below.refl w2.heap.size w2) 1))
      clear HL2 HX2 HW2 HR2
      generalize w2.drewN 1 = W3 at *
      have hHeld : W3.cell? ⟨Bx, 0, none⟩ = some (.pointer (some ⟨X, 0, none⟩)) ∧ W3.cell? ⟨X, 4, none⟩ = some vU := ⟨HXd.out.cell 0, HLd.out.blk.cell 4⟩
      refine takeL 0 (v := ?_) rfl (by kernel_rfl) (by kernel_rfl) (by kernel_rfl) (by kernel_rfl) (fun _ _ _ h => h) (by rfl) ?_ (by assumption) ?_
      rotate_left 1
      · (intro w hSw; (try dsimp only at hSw); obtain ⟨hSw1, hSw2⟩ := hSw; go_simp; try with_reducible rfl)
      try simp only [Act.put, List.setIfInBounds_toArray, List.set_cons_zero, List.set_cons_succ]
      refine takeL 1 (v := ?_) rfl (by kernel_rfl) (by kernel_rfl) (by kernel_rfl) (by kernel_rfl) (fun _ _ _ h => h) (by rfl) ?_ (by assumption) ?_
      rotate_left 1
      · (intro w hSw; (try dsimp only at hSw); obtain ⟨hSw1, hSw2⟩ := hSw; go_simp; try with_reducible rfl)
      try simp only [Act.put, List.setIfInBounds_toArray, List.set_cons_zero, List.set_cons_succ]
      refine takeL 2 (v := ?_) rfl (by kernel_rfl) (by kernel_rfl) (by kernel_rfl) (by kernel_rfl) (fun _ _ _ h => h) (by rfl) ?_ (by assumption) ?_
      rotate_left 1
      · (intro w hSw; (try dsimp only at hSw); obtain ⟨hSw1, hSw2⟩ := hSw; go_simp; try with_reducible rfl)
      try simp only [Act.put, List.setIfInBounds_toArray, List.set_cons_zero, List.set_cons_succ]
      refine takeL 3 (v := ?_) rfl (by kernel_rfl) (by kernel_rfl) (by kernel_rfl) (by kernel_rfl) (fun _ _ _ h => h) (by rfl) ?_ (by assumption) ?_
      rotate_left 1
      · (intro w hSw; (try dsimp only at hSw); obtain ⟨hSw1, hSw2⟩ := hSw; go_simp; try with_reducible rfl)
      try simp only [Act.put, List.setIfInBounds_toArray, List.set_cons_zero, List.set_cons_succ]
      refine takeL 4 (v := ?_) rfl (by kernel_rfl) (by kernel_rfl) (by kernel_rfl) (by kernel_rfl) (fun _ _ _ h => h) (by rfl) ?_ (by assumption) ?_
      rotate_left 1
      · (intro w hSw; (try dsimp only at hSw); obtain ⟨hSw1, hSw2⟩ := hSw; go_simp; try with_reducible rfl)
      try simp only [Act.put, List.setIfInBounds_toArray, List.set_cons_zero, List.set_cons_succ]
      refine takeL 5 (v := ?_) rfl (by kernel_rfl) (by kernel_rfl) (by kernel_rfl) (by kernel_rfl) (fun _ _ _ h => h) (by rfl) ?_ (by assumption) ?_
      rotate_left 1
      · (intro w hSw; (try dsimp only at hSw); obtain ⟨hSw1, hSw2⟩ := hSw; go_simp; try with_reducible rfl)
      try simp only [Act.put, List.setIfInBounds_toArray, List.set_cons_zero, List.set_cons_succ]
      refine takeL 6 (v := ?_) rfl (by kernel_rfl) (by kernel_rfl) (by kernel_rfl) (by kernel_rfl) (fun _ _ _ h => h) (by rfl) ?_ (by assumption) ?_
      rotate_left 1
      · (intro w hSw; (try dsimp only at hSw); obtain ⟨hSw1, hSw2⟩ := hSw; go_simp; try with_reducible rfl)
      try simp only [Act.put, List.setIfInBounds_toArray, List.set_cons_zero, List.set_cons_succ]
      refine takeL 7 (v := ?_) rfl (by kernel_rfl) (by kernel_rfl) (by kernel_rfl) (by kernel_rfl) (fun _ _ _ h => h) (by rfl) ?_ (by assumption) ?_
      rotate_left 1
      · (intro w hSw; (try dsimp only at hSw); obtain ⟨hSw1, hSw2⟩ := hSw; go_simp; try with_reducible rfl)
      try simp only [Act.put, List.setIfInBounds_toArray, List.set_cons_zero, List.set_cons_succ]
      refine oneL 8 (by kernel_rfl) rfl (fun K hK => ?_)
      go_simp
      refine hK.out _ _ ⟨cell_alloc _ hHeld.1, fun _ => cell_alloc _ hHeld.2⟩ ?_
      clear hK hHeld
      try simp only [Act.put, List.setIfInBounds_toArray, List.set_cons_zero, List.set_cons_succ]
      refine appendL 9 (by kernel_rfl) rfl rfl (.tmp 62) (.tmp 66) 82 rfl w.heap.size 111 i0 (.agg #[.slice none 0 0, .int .i64 0]) 2 32 Tryz.underlying82 HI.out hz0 hz1 hz2 rfl (by decide) vU us.length (us.flatMap encUse) rfl (HLd.out.uses.alloc _) ⟨W3.heap.size, 0, none⟩ 1 1 (encUse ⟨A2, n2, k2, uw⟩) rfl rfl (cells_new' _ (encUse ⟨A2, n2, k2, uw⟩) _ _ rfl) (by simp [Value.oneCell', encUse]) (by unfold maxLen; omega) (by omega) (alloc_sz HWd.out.size) ?_
      intro v4 w4 hrow4 hgr4 hob4
      have HLf := Lib.hid ((HLd.out.alloc (.cells #[.slice A2 n2 k2, .int .i64 uw] 111)).addU (u := ⟨A2, n2, k2, uw⟩) (x := x) hgr4 hrow4 (by rw [HUL.out]; exact HIX.out) (rdT_below HRd.out ((Below.refl _ _).alloc (Nat.le_refl _) _)) HUW.out.symm)
      have HXf := Lib.hid ((HXd.out.alloc (.cells #[.slice A2 n2 k2, .int .i64 uw] 111)).kept hgr4 (own_blk_ne (HLd.out.uses.alloc (.cells #[.slice A2 n2 k2, .int .i64 uw] 111)) (HXd.out.alloc _) (by decide)))
      have HYf := Lib.hid ((HLd.out.blk.alloc (.cells #[.slice A2 n2 k2, .int .i64 uw] 111)).kept hgr4 (own_blk_ne (HLd.out.uses.alloc (.cells #[.slice A2 n2 k2, .int .i64 uw] 111)) (HLd.out.blk.alloc _) (by decide)))
      have HWf := Lib.hid ((HWd.out.alloc HWd.out.size (.cells #[.slice A2 n2 k2, .int .i64 uw] 111)).grown hgr4 (alloc_sz HWd.out.size) (fun j e => (own_lt HLd.out.uses e).1))
      obtain ⟨Av4, cv4, rfl, _, _, _⟩ := own_slice hrow4
      clear hrow4 hgr4 hob4
      have hHeld : w4.cell? ⟨Bx, 0, none⟩ = some (.pointer (some ⟨X, 0, none⟩)) ∧ w4.cell? ⟨X, 4, none⟩ = some vU := ⟨HXf.out.cell 0, HYf.out.cell 4⟩
      refine ⟨hHeld, ?_⟩
      try simp only [Act.put, List.setIfInBounds_toArray, List.set_cons_zero, List.set_cons_succ]
      refine oneL 10 (by kernel_rfl) rfl (fun K hK => ?_)
      go_simp
      refine hK.out _ _ ⟨hHeld.1, fun _ => hHeld.2⟩ ?_
      clear hK
      try simp only [Act.put, List.setIfInBounds_toArray, List.set_cons_zero, List.set_cons_succ]
      refine oneL 11 (by kernel_rfl) rfl (fun K hK => ?_)
      go_simp
      refine hK.out _ _ ⟨hHeld.1, fun _ => hHeld.2⟩ ?_
      clear hK
      try simp only [Act.put, List.setIfInBounds_toArray, List.set_cons_zero, List.set_cons_succ]
      have q4 := hHeld.2
      have r4 := HYf.out.frozen 4
      have HXg := Lib.hid (HXf.out.far (p := ⟨X, 4, none⟩) (blk_blk_ne HXf.out HYf.out (by decide)) (.slice Av4 (us.length + 1) cv4))
      have HWg := Lib.hid (HWf.out.setCell (p := ⟨X, 4, none⟩) hbl (.slice Av4 (us.length + 1) cv4))
      refine oneL 12 (by kernel_rfl) rfl (fun K hK => ?_)
      go_simp
      refine hK.out _ _ ⟨HXg.out.cell 0, fun h => absurd h (by decide)⟩ ?_
      clear hK hHeld q4 r4 HLd HXd HWd HRd HXf HYf HWf
      try simp only [Act.put, List.setIfInBounds_toArray, List.set_cons_zero, List.set_cons_succ]
      generalize (w4.setCell ⟨X, 4, none⟩ (.slice Av4 (us.length + 1) cv4)) = Wg at *
      refine doneL (by kernel_rfl) ?_ _
      go_wp2_with fail
      refine heldL (fun w' => w'.cell? ⟨Bx, 0, none⟩ = some (.pointer (some ⟨X, 0, none⟩)) ∧ w'.cell? ⟨X, 1, none⟩ = some (.int .i64 b.regs)) (fun w' => w'.cell? ⟨X, 5, none⟩ = some vA) 15 (by kernel_rfl) ?_
      have HLd5 := Lib.hid (HLf.out.below (below_draw (Below.refl Wg.heap.size Wg) 1))
      have HXd5 := Lib.hid (HXg.out.below (below_draw (Below.refl Wg.heap.size Wg) 1) HXg.out.lt)
      have HWd5 := Lib.hid (below_draw HWg.out 1)
      generalize Wg.drewN 1 = Wd5 at *
      have hHeld : (Wd5.cell? ⟨Bx, 0, none⟩ = some (.pointer (some ⟨X, 0, none⟩)) ∧ Wd5.cell? ⟨X, 1, none⟩ = some (.int .i64 b.regs)) ∧ Wd5.cell? ⟨X, 5, none⟩ = some vA := ⟨⟨HXd5.out.cell 0, HLd5.out.blk.cell 1⟩, HLd5.out.blk.cell 5⟩
      refine takeL 0 (v := ?_) rfl (by kernel_rfl) (by kernel_rfl) (by kernel_rfl) (by kernel_rfl) (fun _ _ _ h => h) (by rfl) ?_ (by assumption) ?_
      rotate_left 1
      · (intro w hSw; (try dsimp only at hSw); obtain ⟨⟨hSw1, hSw2⟩, hSw3⟩ := hSw; go_simp; try with_reducible rfl)
      try simp only [Act.put, List.setIfInBounds_toArray, List.set_cons_zero, List.set_cons_succ]
      refine takeL 1 (v := ?_) rfl (by kernel_rfl) (by kernel_rfl) (by kernel_rfl) (by kernel_rfl) (fun _ _ _ h => h) (by rfl) ?_ (by assumption) ?_
      rotate_left 1
      · (intro w hSw; (try dsimp only at hSw); obtain ⟨⟨hSw1, hSw2⟩, hSw3⟩ := hSw; go_simp; try with_reducible rfl)
      try simp only [Act.put, List.setIfInBounds_toArray, List.set_cons_zero, List.set_cons_succ]
      refine takeL 2 (v := ?_) rfl (by kernel_rfl) (by kernel_rfl) (by kernel_rfl) (by kernel_rfl) (fun _ _ _ h => h) (by rfl) ?_ (by assumption) ?_
      rotate_left 1
      · (intro w hSw; (try dsimp only at hSw); obtain ⟨⟨hSw1, hSw2⟩, hSw3⟩ := hSw; go_simp; try with_reducible rfl)
      try simp only [Act.put, List.setIfInBounds_toArray, List.set_cons_zero, List.set_cons_succ]
      refine takeL 3 (v := ?_) rfl (by kernel_rfl) (by kernel_rfl) (by kernel_rfl) (by kernel_rfl) (fun _ _ _ h => h) (by rfl) ?_ (by assumption) ?_
      rotate_left 1
      · (intro w hSw; (try dsimp only at hSw); obtain ⟨⟨hSw1, hSw2⟩, hSw3⟩ := hSw; go_simp; try with_reducible rfl)
      try simp only [Act.put, List.setIfInBounds_toArray, List.set_cons_zero, List.set_cons_succ]
      refine takeL 4 (v := ?_) rfl (by kernel_rfl) (by kernel_rfl) (by kernel_rfl) (by kernel_rfl) (fun _ _ _ h => h) (by rfl) ?_ (by assumption) ?_
      rotate_left 1
      · (intro w hSw; (try dsimp only at hSw); obtain ⟨⟨hSw1, hSw2⟩, hSw3⟩ := hSw; go_simp; try with_reducible rfl)
      try simp only [Act.put, List.setIfInBounds_toArray, List.set_cons_zero, List.set_cons_succ]
      refine takeL 5 (v := ?_) rfl (by kernel_rfl) (by kernel_rfl) (by kernel_rfl) (by kernel_rfl) (fun _ _ _ h => h) (by rfl) ?_ (by assumption) ?_
      rotate_left 1
      · (intro w hSw; (try dsimp only at hSw); obtain ⟨⟨hSw1, hSw2⟩, hSw3⟩ := hSw; go_simp; try with_reducible rfl)
      try simp only [Act.put, List.setIfInBounds_toArray, List.set_cons_zero, List.set_cons_succ]
      refine takeL 6 (v := ?_) rfl (by kernel_rfl) (by kernel_rfl) (by kernel_rfl) (by kernel_rfl) (fun _ _ _ h => h) (by rfl) ?_ (by assumption) ?_
      rotate_left 1
      · (intro w hSw; (try dsimp only at hSw); obtain ⟨⟨hSw1, hSw2⟩, hSw3⟩ := hSw; go_simp; try with_reducible rfl)
      try simp only [Act.put, List.setIfInBounds_toArray, List.set_cons_zero, List.set_cons_succ]
      refine takeL 7 (v := ?_) rfl (by kernel_rfl) (by kernel_rfl) (by kernel_rfl) (by kernel_rfl) (fun _ _ _ h => h) (by rfl) ?_ (by assumption) ?_
      rotate_left 1
      · (intro w hSw; (try dsimp only at hSw); obtain ⟨⟨hSw1, hSw2⟩, hSw3⟩ := hSw; go_simp; try with_reducible rfl)
      try simp only [Act.put, List.setIfInBounds_toArray, List.set_cons_zero, List.set_cons_succ]
      refine takeL 8 (v := ?_) rfl (by kernel_rfl) (by kernel_rfl) (by kernel_rfl) (by kernel_rfl) (fun _ _ _ h => h) (by rfl) ?_ (by assumption) ?_
      rotate_left 1
      · (intro w hSw; (try dsimp only at hSw); obtain ⟨⟨hSw1, hSw2⟩, hSw3⟩ := hSw; go_simp; try with_reducible rfl)
      try simp only [Act.put, List.setIfInBounds_toArray, List.set_cons_zero, List.set_cons_succ]
      refine takeL 9 (v := ?_) rfl (by kernel_rfl) (by kernel_rfl) (by kernel_rfl) (by kernel_rfl) (fun _ _ _ h => h) (by rfl) ?_ (by assumption) ?_
      rotate_left 1
      · (intro w hSw; (try dsimp only at hSw); obtain ⟨⟨hSw1, hSw2⟩, hSw3⟩ := hSw; go_simp; try with_reducible rfl)
      try simp only [Act.put, List.setIfInBounds_toArray, List.set_cons_zero, List.set_cons_succ]
      refine callL 10 (by kernel_rfl) rfl rfl 75 (enters_of Tryz.func75 (by kernel_rfl) rfl) [.tmp 79] _ rfl [.int .i64 b.regs] rfl (HNS.out Wd5) ?_
      rintro e We5 ⟨rfl, hrw5, hbw5⟩
      have HLe5 := Lib.hid (HLd5.out.below hbw5)
      have HXe5 := Lib.hid (HXd5.out.below hbw5 HXd5.out.lt)
      have HWe5 := Lib.hid (HWd5.out.trans (hbw5.mono HWd5.out.size))
      have HRe5 := Lib.hid hrw5
      have HNe5 := Lib.hid (life_fresh HLd5.out)
      have hge5 : w.heap.size ≤ Wd5.heap.size := HWd5.out.size
      generalize Wd5.heap.size = g5 at *
      clear hrw5 hbw5 hHeld
      have hHeld : (We5.cell? ⟨Bx, 0, none⟩ = some (.pointer (some ⟨X, 0, none⟩)) ∧ We5.cell? ⟨X, 1, none⟩ = some (.int .i64 b.regs)) ∧ We5.cell? ⟨X, 5, none⟩ = some vA := ⟨⟨HXe5.out.cell 0, HLe5.out.blk.cell 1⟩, HLe5.out.blk.cell 5⟩
      refine ⟨_, rfl, hHeld, ?_⟩
      try simp only [Act.put, List.setIfInBounds_toArray, List.set_cons_zero, List.set_cons_succ]
      refine oneL 11 (by kernel_rfl) rfl (fun K hK => ?_)
      go_simp
      refine hK.out _ _ ⟨⟨cell_alloc _ hHeld.1.1, cell_alloc _ hHeld.1.2⟩, fun _ => cell_alloc _ hHeld.2⟩ ?_
      clear hK hHeld
      try simp only [Act.put, List.setIfInBounds_toArray, List.set_cons_zero, List.set_cons_succ]
      refine appendL 12 (by kernel_rfl) rfl rfl (.tmp 74) (.tmp 81) 83 rfl w.heap.size 94 j0 (.slice none 0 0) 1 24 Tryz.underlying83 HJ.out hy0 hy1 hy2 rfl (by decide) vA gA.length (setsV (b.regs.toNat / 64 + 1) gA) rfl (HLe5.out.rowA.alloc _) ⟨We5.heap.size, 0, none⟩ 1 1 [.slice (some ⟨g5, 0, none⟩) (b.regs.toNat / 64 + 1) (b.regs.toNat / 64 + 1)] rfl rfl (cells_new' _ [.slice (some ⟨g5, 0, none⟩) (b.regs.toNat / 64 + 1) (b.regs.toNat / 64 + 1)] _ _ rfl) (by simp [Value.oneCell']) (by unfold maxLen; omega) (by omega) (alloc_sz HWe5.out.size) ?_
      intro v5 w5 hrow5 hgr5 hob5
      have HLf5 := Lib.hid ((HLe5.out.alloc (.cells #[.slice (some ⟨g5, 0, none⟩) (b.regs.toNat / 64 + 1) (b.regs.toNat / 64 + 1)] 94)).addA (g := (g5, b.regs.toNat / 64 + 1)) hgr5 hrow5 (HRe5.out.below ((Below.refl _ _).alloc (Nat.le_refl _) _)) hge5 HNe5.out hob5)
      have HXf5 := Lib.hid ((HXe5.out.alloc (.cells #[.slice (some ⟨g5, 0, none⟩) (b.regs.toNat / 64 + 1) (b.regs.toNat / 64 + 1)] 94)).kept hgr5 (own_blk_ne (HLe5.out.rowA.alloc (.cells #[.slice (some ⟨g5, 0, none⟩) (b.regs.toNat / 64 + 1) (b.regs.toNat / 64 + 1)] 94)) (HXe5.out.alloc _) (by decide)))
      have HYf5 := Lib.hid ((HLe5.out.blk.alloc (.cells #[.slice (some ⟨g5, 0, none⟩) (b.regs.toNat / 64 + 1) (b.regs.toNat / 64 + 1)] 94)).kept hgr5 (own_blk_ne (HLe5.out.rowA.alloc (.cells #[.slice (some ⟨g5, 0, none⟩) (b.regs.toNat / 64 + 1) (b.regs.toNat / 64 + 1)] 94)) (HLe5.out.blk.alloc _) (by decide)))
      have HWf5 := Lib.hid ((HWe5.out.alloc HWe5.out.size (.cells #[.slice (some ⟨g5, 0, none⟩) (b.regs.toNat / 64 + 1) (b.regs.toNat / 64 + 1)] 94)).grown hgr5 (alloc_sz HWe5.out.size) (fun j e => (own_lt HLe5.out.rowA e).1))
      obtain ⟨Av5, cv5, rfl, _, _, _⟩ := own_slice hrow5
      clear hrow5 hgr5 hob5
      have hHeld : (w5.cell? ⟨Bx, 0, none⟩ = some (.pointer (some ⟨X, 0, none⟩)) ∧ w5.cell? ⟨X, 1, none⟩ = some (.int .i64 b.regs)) ∧ w5.cell? ⟨X, 5, none⟩ = some vA := ⟨⟨HXf5.out.cell 0, HYf5.out.cell 1⟩, HYf5.out.cell 5⟩
      refine ⟨hHeld, ?_⟩
      try simp only [Act.put, List.setIfInBounds_toArray, List.set_cons_zero, List.set_cons_succ]
      refine oneL 13 (by kernel_rfl) rfl (fun K hK => ?_)
      go_simp
      refine hK.out _ _ ⟨hHeld.1, fun _ => hHeld.2⟩ ?_
      clear hK
      try simp only [Act.put, List.setIfInBounds_toArray, List.set_cons_zero, List.set_cons_succ]
      refine oneL 14 (by kernel_rfl) rfl (fun K hK => ?_)
      go_simp
      refine hK.out _ _ ⟨hHeld.1, fun _ => hHeld.2⟩ ?_
      clear hK
      try simp only [Act.put, List.setIfInBounds_toArray, List.set_cons_zero, List.set_cons_succ]
      have q5 := hHeld.2
      have r5 := HYf5.out.frozen 5
      have HXg5 := Lib.hid (HXf5.out.far (p := ⟨X, 5, none⟩) (blk_blk_ne HXf5.out HYf5.out (by decide)) (.slice Av5 (gA.length + 1) cv5))
      have HYg5 := Lib.hid (HYf5.out.set 5 (.slice Av5 (gA.length + 1) cv5))
      have HWg5 := Lib.hid (HWf5.out.setCell (p := ⟨X, 5, none⟩) hbl (.slice Av5 (gA.length + 1) cv5))
      refine oneL 15 (by kernel_rfl) rfl (fun K hK => ?_)
      go_simp
      refine hK.out _ _ ⟨⟨HXg5.out.cell 0, by rw [HYg5.out.cell 1]; simp⟩, fun h => absurd h (by decide)⟩ ?_
      clear hK hHeld q5 r5
      try simp only [Act.put, List.setIfInBounds_toArray, List.set_cons_zero, List.set_cons_succ]
      generalize (w5.setCell ⟨X, 5, none⟩ (.slice Av5 (gA.length + 1) cv5)) = Wg5 at *
      refine doneL (by kernel_rfl) ?_ _
      clear HLd5 HXd5 HWd5 HLe5 HXe5 HWe5 HRe5 HNe5 HXf5 HYf5 HWf5 HYg5 HLf HXg HWg
      go_wp2_with fail
      refine heldL (fun w' => w'.cell? ⟨Bx, 0, none⟩ = some (.pointer (some ⟨X, 0, none⟩)) ∧ w'.cell? ⟨X, 1, none⟩ = some (.int .i64 b.regs)) (fun w' => w'.cell? ⟨X, 6, none⟩ = some vB) 15 (by kernel_rfl) ?_
      have HLd6 := Lib.hid (HLf5.out.below (below_draw (Below.refl Wg5.heap.size Wg5) 1))
      have HXd6 := Lib.hid (HXg5.out.below (below_draw (Below.refl Wg5.heap.size Wg5) 1) HXg5.out.lt)
      have HWd6 := Lib.hid (below_draw HWg5.out 1)
      generalize Wg5.drewN 1 = Wd6 at *
      have hHeld : (Wd6.cell? ⟨Bx, 0, none⟩ = some (.pointer (some ⟨X, 0, none⟩)) ∧ Wd6.cell? ⟨X, 1, none⟩ = some (.int .i64 b.regs)) ∧ Wd6.cell? ⟨X, 6, none⟩ = some vB := ⟨⟨HXd6.out.cell 0, HLd6.out.blk.cell 1⟩, HLd6.out.blk.cell 6⟩
      refine takeL 0 (v := ?_) rfl (by kernel_rfl) (by kernel_rfl) (by kernel_rfl) (by kernel_rfl) (fun _ _ _ h => h) (by rfl) ?_ (by assumption) ?_
      rotate_left 1
      · (intro w hSw; (try dsimp only at hSw); obtain ⟨⟨hSw1, hSw2⟩, hSw3⟩ := hSw; go_simp; try with_reducible rfl)
      try simp only [Act.put, List.setIfInBounds_toArray, List.set_cons_zero, List.set_cons_succ]
      refine takeL 1 (v := ?_) rfl (by kernel_rfl) (by kernel_rfl) (by kernel_rfl) (by kernel_rfl) (fun _ _ _ h => h) (by rfl) ?_ (by assumption) ?_
      rotate_left 1
      · (intro w hSw; (try dsimp only at hSw); obtain ⟨⟨hSw1, hSw2⟩, hSw3⟩ := hSw; go_simp; try with_reducible rfl)
      try simp only [Act.put, List.setIfInBounds_toArray, List.set_cons_zero, List.set_cons_succ]
      refine takeL 2 (v := ?_) rfl (by kernel_rfl) (by kernel_rfl) (by kernel_rfl) (by kernel_rfl) (fun _ _ _ h => h) (by rfl) ?_ (by assumption) ?_
      rotate_left 1
      · (intro w hSw; (try dsimp only at hSw); obtain ⟨⟨hSw1, hSw2⟩, hSw3⟩ := hSw; go_simp; try with_reducible rfl)
      try simp only [Act.put, List.setIfInBounds_toArray, List.set_cons_zero, List.set_cons_succ]
      refine takeL 3 (v := ?_) rfl (by kernel_rfl) (by kernel_rfl) (by kernel_rfl) (by kernel_rfl) (fun _ _ _ h => h) (by rfl) ?_ (by assumption) ?_
      rotate_left 1
      · (intro w hSw; (try dsimp only at hSw); obtain ⟨⟨hSw1, hSw2⟩, hSw3⟩ := hSw; go_simp; try with_reducible rfl)
      try simp only [Act.put, List.setIfInBounds_toArray, List.set_cons_zero, List.set_cons_succ]
      refine takeL 4 (v := ?_) rfl (by kernel_rfl) (by kernel_rfl) (by kernel_rfl) (by kernel_rfl) (fun _ _ _ h => h) (by rfl) ?_ (by assumption) ?_
      rotate_left 1
      · (intro w hSw; (try dsimp only at hSw); obtain ⟨⟨hSw1, hSw2⟩, hSw3⟩ := hSw; go_simp; try with_reducible rfl)
      try simp only [Act.put, List.setIfInBounds_toArray, List.set_cons_zero, List.set_cons_succ]
      refine takeL 5 (v := ?_) rfl (by kernel_rfl) (by kernel_rfl) (by kernel_rfl) (by kernel_rfl) (fun _ _ _ h => h) (by rfl) ?_ (by assumption) ?_
      rotate_left 1
      · (intro w hSw; (try dsimp only at hSw); obtain ⟨⟨hSw1, hSw2⟩, hSw3⟩ := hSw; go_simp; try with_reducible rfl)
      try simp only [Act.put, List.setIfInBounds_toArray, List.set_cons_zero, List.set_cons_succ]
      refine takeL 6 (v := ?_) rfl (by kernel_rfl) (by kernel_rfl) (by kernel_rfl) (by kernel_rfl) (fun _ _ _ h => h) (by rfl) ?_ (by assumption) ?_
      rotate_left 1
      · (intro w hSw; (try dsimp only at hSw); obtain ⟨⟨hSw1, hSw2⟩, hSw3⟩ := hSw; go_simp; try with_reducible rfl)
      try simp only [Act.put, List.setIfInBounds_toArray, List.set_cons_zero, List.set_cons_succ]
      refine takeL 7 (v := ?_) rfl (by kernel_rfl) (by kernel_rfl) (by kernel_rfl) (by kernel_rfl) (fun _ _ _ h => h) (by rfl) ?_ (by assumption) ?_
      rotate_left 1
      · (intro w hSw; (try dsimp only at hSw); obtain ⟨⟨hSw1, hSw2⟩, hSw3⟩ := hSw; go_simp; try with_reducible rfl)
      try simp only [Act.put, List.setIfInBounds_toArray, List.set_cons_zero, List.set_cons_succ]
      refine takeL 8 (v := ?_) rfl (by kernel_rfl) (by kernel_rfl) (by kernel_rfl) (by kernel_rfl) (fun _ _ _ h => h) (by rfl) ?_ (by assumption) ?_
      rotate_left 1
      · (intro w hSw; (try dsimp only at hSw); obtain ⟨⟨hSw1, hSw2⟩, hSw3⟩ := hSw; go_simp; try with_reducible rfl)
      try simp only [Act.put, List.setIfInBounds_toArray, List.set_cons_zero, List.set_cons_succ]
      refine takeL 9 (v := ?_) rfl (by kernel_rfl) (by kernel_rfl) (by kernel_rfl) (by kernel_rfl) (fun _ _ _ h => h) (by rfl) ?_ (by assumption) ?_
      rotate_left 1
      · (intro w hSw; (try dsimp only at hSw); obtain ⟨⟨hSw1, hSw2⟩, hSw3⟩ := hSw; go_simp; try with_reducible rfl)
      try simp only [Act.put, List.setIfInBounds_toArray, List.set_cons_zero, List.set_cons_succ]
      refine callL 10 (by kernel_rfl) rfl rfl 75 (enters_of Tryz.func75 (by kernel_rfl) rfl) [.tmp 94] _ rfl [.int .i64 b.regs] rfl (HNS.out Wd6) ?_
      rintro e We6 ⟨rfl, hrw6, hbw6⟩
      have HLe6 := Lib.hid (HLd6.out.below hbw6)
      have HXe6 := Lib.hid (HXd6.out.below hbw6 HXd6.out.lt)
      have HWe6 := Lib.hid (HWd6.out.trans (hbw6.mono HWd6.out.size))
      have HRe6 := Lib.hid hrw6
      have HNe6 := Lib.hid (life_fresh HLd6.out)
      have hge6 : w.heap.size ≤ Wd6.heap.size := HWd6.out.size
      generalize Wd6.heap.size = g6 at *
      clear hrw6 hbw6 hHeld
      have hHeld : (We6.cell? ⟨Bx, 0, none⟩ = some (.pointer (some ⟨X, 0, none⟩)) ∧ We6.cell? ⟨X, 1, none⟩ = some (.int .i64 b.regs)) ∧ We6.cell? ⟨X, 6, none⟩ = some vB := ⟨⟨HXe6.out.cell 0, HLe6.out.blk.cell 1⟩, HLe6.out.blk.cell 6⟩
      refine ⟨_, rfl, hHeld, ?_⟩
      try simp only [Act.put, List.setIfInBounds_toArray, List.set_cons_zero, List.set_cons_succ]
      refine oneL 11 (by kernel_rfl) rfl (fun K hK => ?_)
      go_simp
      refine hK.out _ _ ⟨⟨cell_alloc _ hHeld.1.1, cell_alloc _ hHeld.1.2⟩, fun _ => cell_alloc _ hHeld.2⟩ ?_
      clear hK hHeld
      try simp only [Act.put, List.setIfInBounds_toArray, List.set_cons_zero, List.set_cons_succ]
      refine appendL 12 (by kernel_rfl) rfl rfl (.tmp 89) (.tmp 96) 83 rfl w.heap.size 94 j0 (.slice none 0 0) 1 24 Tryz.underlying83 HJ.out hy0 hy1 hy2 rfl (by decide) vB gB.length (setsV (b.regs.toNat / 64 + 1) gB) rfl (HLe6.out.rowB.alloc _) ⟨We6.heap.size, 0, none⟩ 1 1 [.slice (some ⟨g6, 0, none⟩) (b.regs.toNat / 64 + 1) (b.regs.toNat / 64 + 1)] rfl rfl (cells_new' _ [.slice (some ⟨g6, 0, none⟩) (b.regs.toNat / 64 + 1) (b.regs.toNat / 64 + 1)] _ _ rfl) (by simp [Value.oneCell']) (by unfold maxLen; omega) (by omega) (alloc_sz HWe6.out.size) ?_
      intro v6 w6 hrow6 hgr6 hob6
      have HLf6 := Lib.hid ((HLe6.out.alloc (.cells #[.slice (some ⟨g6, 0, none⟩) (b.regs.toNat / 64 + 1) (b.regs.toNat / 64 + 1)] 94)).addB (g := (g6, b.regs.toNat / 64 + 1)) hgr6 hrow6 (HRe6.out.below ((Below.refl _ _).alloc (Nat.le_refl _) _)) hge6 HNe6.out hob6)
      have HXf6 := Lib.hid ((HXe6.out.alloc (.cells #[.slice (some ⟨g6, 0, none⟩) (b.regs.toNat / 64 + 1) (b.regs.toNat / 64 + 1)] 94)).kept hgr6 (own_blk_ne (HLe6.out.rowB.alloc (.cells #[.slice (some ⟨g6, 0, none⟩) (b.regs.toNat / 64 + 1) (b.regs.toNat / 64 + 1)] 94)) (HXe6.out.alloc _) (by decide)))
      have HYf6 := Lib.hid ((HLe6.out.blk.alloc (.cells #[.slice (some ⟨g6, 0, none⟩) (b.regs.toNat / 64 + 1) (b.regs.toNat / 64 + 1)] 94)).kept hgr6 (own_blk_ne (HLe6.out.rowB.alloc (.cells #[.slice (some ⟨g6, 0, none⟩) (b.regs.toNat / 64 + 1) (b.regs.toNat / 64 + 1)] 94)) (HLe6.out.blk.alloc _) (by decide)))
      have HWf6 := Lib.hid ((HWe6.out.alloc HWe6.out.size (.cells #[.slice (some ⟨g6, 0, none⟩) (b.regs.toNat / 64 + 1) (b.regs.toNat / 64 + 1)] 94)).grown hgr6 (alloc_sz HWe6.out.size) (fun j e => (own_lt HLe6.out.rowB e).1))
      obtain ⟨Av6, cv6, rfl, _, _, _⟩ := own_slice hrow6
      clear hrow6 hgr6 hob6
      have hHeld : (w6.cell? ⟨Bx, 0, none⟩ = some (.pointer (some ⟨X, 0, none⟩)) ∧ w6.cell? ⟨X, 1, none⟩ = some (.int .i64 b.regs)) ∧ w6.cell? ⟨X, 6, none⟩ = some vB := ⟨⟨HXf6.out.cell 0, HYf6.out.cell 1⟩, HYf6.out.cell 6⟩
      refine ⟨hHeld, ?_⟩
      try simp only [Act.put, List.setIfInBounds_toArray, List.set_cons_zero, List.set_cons_succ]
      refine oneL 13 (by kernel_rfl) rfl (fun K hK => ?_)
      go_simp
      refine hK.out _ _ ⟨hHeld.1, fun _ => hHeld.2⟩ ?_
      clear hK
      try simp only [Act.put, List.setIfInBounds_toArray, List.set_cons_zero, List.set_cons_succ]
      refine oneL 14 (by kernel_rfl) rfl (fun K hK => ?_)
      go_simp
      refine hK.out _ _ ⟨hHeld.1, fun _ => hHeld.2⟩ ?_
      clear hK
      try simp only [Act.put, List.setIfInBounds_toArray, List.set_cons_zero, List.set_cons_succ]
      have q6 := hHeld.2
      have r6 := HYf6.out.frozen 6
      have HXg6 := Lib.hid (HXf6.out.far (p := ⟨X, 6, none⟩) (blk_blk_ne HXf6.out HYf6.out (by decide)) (.slice Av6 (gB.length + 1) cv6))
      have HYg6 := Lib.hid (HYf6.out.set 6 (.slice Av6 (gB.length + 1) cv6))
      have HWg6 := Lib.hid (HWf6.out.setCell (p := ⟨X, 6, none⟩) hbl (.slice Av6 (gB.length + 1) cv6))
      refine oneL 15 (by kernel_rfl) rfl (fun K hK => ?_)
      go_simp
      refine hK.out _ _ ⟨⟨HXg6.out.cell 0, by rw [HYg6.out.cell 1]; simp⟩, fun h => absurd h (by decide)⟩ ?_
      clear hK hHeld q6 r6
      try simp only [Act.put, List.setIfInBounds_toArray, List.set_cons_zero, List.set_cons_succ]
      generalize (w6.setCell ⟨X, 6, none⟩ (.slice Av6 (gB.length + 1) cv6)) = Wg6 at *
      refine doneL (by kernel_rfl) ?_ _
      clear HLd6 HXd6 HWd6 HLe6 HXe6 HWe6 HRe6 HNe6 HXf6 HYf6 HWf6 HYg6 HLf5 HXg5 HWg5
      go_step
      go_step
      go_wp2_with fail
      go_roundw
      case rel => exact ⟨i + 1, us ++ [⟨A2, n2, k2, uw⟩], _, _, _, gA ++ [(g5, b.regs.toNat / 64 + 1)], gB ++ [(g6, b.regs.toNat / 64 + 1)], by omega, by go_num, Lib.hid (by simp [HUL.out]), Lib.hid (by simp [HGA.out]), Lib.hid (by simp [HGB.out]), Lib.hid (by rw [List.replicate_succ']; exact HLf6.out), HXg6, HWg6⟩
      case measure => simp [intOf]; omega
    · obtain rfl : i = nb := by omega
      clear hlt HL0 HX0 HB2
      have HL0 := Lib.hid (HL.out.alloc (.cells #[.bool true] 4))
      have HX0 := Lib.hid (HX.out.alloc (.cells #[.bool true] 4))
      have HW0 := Lib.hid (HW.out.alloc HW.out.size (.cells #[.bool true] 4))
      have HC0 := Lib.hid (BlkAt.new wr 4 #[.bool true])
      have hcb : w.heap.size ≤ wr.heap.size := HW.out.size
      go_wp2_with fail
      clear HL HX HW
      obtain ⟨W1, hW1⟩ : ∃ W1, wr.alloc (.cells #[.bool true] 4) = W1 := ⟨_, rfl⟩
      rw [hW1] at HL0 HX0 HW0 HC0 ⊢
      obtain ⟨Bc, hBc⟩ : ∃ Bc, wr.heap.size = Bc := ⟨_, rfl⟩
      rw [hBc] at HC0 hcb ⊢
      clear hW1 hBc
      have hi0 : 0 < i := by
        have := List.length_pos_iff.2 HR.out.ne
        have := HNB.out
        omega
      have HCOK := Lib.hid (code_ok HR.out)
      obtain ⟨nw, hnw⟩ : ∃ nw, b.regs.toNat / 64 + 1 = nw := ⟨_, rfl⟩
      rw [hnw] at HL0 HCOK
      have hnwb : 0 < nw ∧ nw ≤ 1000 := by have := HRG.out; omega
      have HNW := Lib.hid hnw
      obtain ⟨bU, cU, cu, hvU, hbU, hbUl, hcu⟩ := own_blk HL0.out.uses (by have := HUL.out; omega)
      subst hvU
      have HI0 : Hid (LoopI w X Bx b Ab i cb nw us (.slice (some ⟨bU, 0, none⟩) us.length cU) W1 (start nw b.code.length).ah (start nw b.code.length).be true gA gB vA vB Bc []) := Lib.hid ⟨by have := HL0.out; rw [HNB.out] at this; rw [HNB.out]; exact this, HX0.out, HC0.out, hcb, HW0.out, trivial⟩
      clear HL0 HX0 HW0 HC0 hul hal hbll HGA HGB hnw hbU hbUl hcu hin
      refine wp_loop_ghost_k (fun gk a W => ∃ (f : Nat → Value) (s : LS) (gA gB : List (Nat × Nat)) (vA vB : Value) (Bc : Nat) (ds : List Deferred),
        a = { tmps := frameOf f (.pointer (some ⟨Bx, 0, none⟩)) (.pointer (some ⟨Bc, 0, none⟩)), defers := ds } ∧
        Hid (LoopI w X Bx b Ab i cb nw us (.slice (some ⟨bU, 0, none⟩) us.length cU) W s.ah s.be s.ch gA gB vA vB Bc ds) ∧ Hid (InvL nw b.code s) ∧ Hid (s.ch = false → ∀ j, j < b.code.length → StableAt b.code s j) ∧ Hid (gk = if s.ch = true then b.code.length * (64 * nw) + 1 - muL s else 0)) _ ⟨_, start nw b.code.length, gA, gB, vA, vB, Bc, [], congrArg (fun t => Act.mk t []) (frame_ex _ _ _ (by rfl) (by rfl) (by rfl)), HI0, Lib.hid (start_inv nw b.code), Lib.hid (fun h => by cases h), Lib.hid rfl⟩ ?_
      rintro gk a wr ⟨f, s, gA, gB, vA, vB, Bc, ds, rfl, HL, HI, HS, HG⟩ J K hJ hK
      rw [frameOf_lit]
      have HBX := Lib.hid (HL.out.box.cell 0)
      cases hch : s.ch with
      | false =>
        have HFX := Lib.hid (stable_fix HCOK.out HI.out (HS.out hch))
        have HCH := Lib.hid hch
        have c0 := HL.out.chg.cell 0
        rw [hch] at c0
        have d0 := HL.out.box.cell 0
        simp only [List.getElem?_toArray, List.getElem?_cons_zero] at c0 d0
        clear hch HS HG
        go_wp2_with fail
        refine leaves_marks (base := w.heap.size) (v := .tuple #[.pointer (some ⟨X, 0, none⟩), .int .i64 0]) (fun W => by rw [results_tmp2 (t := 4) (u := 5) rfl]; rfl) ds wr HL.out.mrk (fun W' hc hb => ?_)
        have hk : KeptT 1000000 wr W' := ⟨hb.size, fun B t cs hB _ => hc B _ hB rfl⟩
        exact ⟨⟨X, Ab, i, cb, us, _, _, _, gA, gB, s.ah, s.be, rfl, by rw [HNW.out]; exact HL.out.life.keptT hk (by decide) (by decide) (by decide) (by decide) (by decide), by rw [HUL.out, HNB.out], by rw [HNW.out]; exact HFX.out⟩, HL.out.bel.trans hb⟩
      | true =>
        have c0 := HL.out.chg.cell 0
        rw [hch] at c0
        have c1 := HL.out.chg.frozen 0
        have d0 := HL.out.box.cell 0
        have e4 := HL.out.life.blk.cell 4
        simp only [List.getElem?_toArray, List.getElem?_cons_zero, List.getElem?_cons_succ] at c0 d0 e4
        have HL1 := Lib.hid (HL.out.flag false)
        have d1 := HL1.out.box.cell 0
        have e1 := HL1.out.life.blk.cell 4
        simp only [List.getElem?_toArray, List.getElem?_cons_zero, List.getElem?_cons_succ] at d1 e1
        clear d0 e4
        go_wp2_with (first
          | (go_at_call 76
             refine (back_any _ _ ⟨_, _, _, rfl⟩).mono ?_
             rintro e w2 ⟨rfl, rfl⟩)
          | fail)
        clear c0 c1 d1 e1
        have HL2 := Lib.hid (HL1.out.alloc (.cells #[.slice (some ⟨bU, 0, none⟩) us.length cU] 82))
        have HBS : Hid (BlkAt ((wr.setCell ⟨Bc, 0, none⟩ (.bool false)).alloc (.cells #[.slice (some ⟨bU, 0, none⟩) us.length cU] 82)) wr.heap.size 82 #[.slice (some ⟨bU, 0, none⟩) us.length cU]) := Lib.hid (by
          have := BlkAt.new (wr.setCell ⟨Bc, 0, none⟩ (.bool false)) 82 #[.slice (some ⟨bU, 0, none⟩) us.length cU]
          simpa [World.setCell] using this)
        have hBsl : w.heap.size ≤ wr.heap.size := HL.out.bel.size
        obtain ⟨W2, hW2⟩ : ∃ W2, ((wr.setCell ⟨Bc, 0, none⟩ (.bool false)).alloc (.cells #[.slice (some ⟨bU, 0, none⟩) us.length cU] 82)) = W2 := ⟨_, rfl⟩
        rw [hW2] at HL2 HBS ⊢
        obtain ⟨Bs, hBs⟩ : ∃ Bs, wr.heap.size = Bs := ⟨_, rfl⟩
        rw [hBs] at HBS hBsl ⊢
        clear hW2 hBs HL1
        obtain ⟨g1, c1, cu, hv, hbU, hbUl, hcu⟩ := own_blk HL2.out.life.uses (by have := HUL.out; omega)
        cases hv
        have HBU := Lib.hid hbU
        have HML := Lib.hid (HL2.out.mrk.lt)
        have hW2l : w.heap.size ≤ W2.heap.size := HL2.out.bel.size
        have HBA : Hid (BackAt Bs bU us.length cU us W2) := Lib.hid ⟨HBS.out.cell 0, rfl, fun j u hj => ⟨by
            rw [HBU.out.cell]; exact hcu _ _ (by have := flat_at encUse_len us j u 0 _ hj rfl; rwa [Nat.add_zero] at this), by
            rw [HBU.out.cell]; exact hcu _ _ (flat_at encUse_len us j u 1 _ hj rfl)⟩, by have := HUL.out; have := hnb; omega⟩
        clear hbU hcu
        have hBsW : Bs < W2.heap.size := HBS.out.lt
        have hbUW : bU < W2.heap.size := HBU.out.lt
        refine (wpIn_wide (n := 3)).1 (wpIn_rangeL rfl (by omega) (gf := 104) (lb := #[.pointer (some ⟨Bs, 0, none⟩)]) rfl trivial (enters_of Tryz.func104 (by kernel_rfl) rfl) (back1_seq 2 (by omega) Bs bU us.length cU us) KpB.trans
          (fun W l o o' hl _ _ _ => ⟨World.putObj_heap_other (by omega), World.putObj_heap_other (by omega)⟩) (fun _ => rfl)
          (fun pre W => ∃ gA gB vA vB, Hid (LoopI w X Bx b Ab i cb nw us (.slice (some ⟨bU, 0, none⟩) us.length cU) W ((pre.map Prod.fst).foldl (stepL b.code) ⟨s.ah, s.be, false⟩).ah ((pre.map Prod.fst).foldl (stepL b.code) ⟨s.ah, s.be, false⟩).be ((pre.map Prod.fst).foldl (stepL b.code) ⟨s.ah, s.be, false⟩).ch gA gB vA vB Bc ds) ∧ Hid (InvL nw b.code ((pre.map Prod.fst).foldl (stepL b.code) ⟨s.ah, s.be, false⟩)) ∧ Hid (BlkAt W Bs 82 #[.slice (some ⟨bU, 0, none⟩) us.length cU]) ∧ Hid (BlkAt W bU 111 cu))
          (fun _ _ _ => False) ?hI (fun _ _ _ _ _ h _ _ => h) ⟨gA, gB, vA, vB, HL2, Lib.hid ⟨HI.out.la, HI.out.lb, HI.out.wa, HI.out.wb, HI.out.sa, HI.out.sb, HI.out.grow⟩, HBS, HBU⟩ HBA.out (fun W o h => h.alloc o)
          (fun x a' W => ∃ Bu, w.heap.size ≤ Bu ∧ BlkAt W Bu 111 #[.slice x.2.A x.2.n x.2.c, .int .i64 x.2.wr] ∧ a' = { tmps := #[f 0, f 1, f 2, f 3, f 4, f 5, f 6, .pointer (some ⟨Bx, 0, none⟩), f 8, f 9, f 10, f 11, .pointer (some ⟨Bc, 0, none⟩), .int .i64 x.1, .pointer (some ⟨Bu, 0, none⟩), f 15, f 16, f 17, f 18, f 19, f 20, f 21, f 22, f 23, f 24, f 25, f 26, f 27, f 28, f 29, f 30, f 31, f 32, f 33, f 34, f 35, f 36, f 37, f 38, f 39, f 40, f 41, f 42, f 43, f 44, f 45, f 46, f 47, f 48, f 49, f 50, f 51, f 52, f 53, f 54, f 55, f 56, f 57, f 58, f 59, f 60, f 61, f 62, f 63, f 64, f 65, f 66, f 67, f 68, f 69, f 70, f 71, f 72, f 73, f 74, f 75, f 76, f 77, f 78, f 79, f 80, f 81, f 82, f 83, f 84, f 85, f 86, f 87, f 88, f 89, f 90, f 91, f 92, f 93, f 94, f 95, f 96, f 97, f 98, f 99, f 100, .bool true, .pointer (some ⟨X, 0, none⟩), .pointer (some ⟨X, 0, none⟩), .pointer (some ⟨X, 4, none⟩), .slice (some ⟨bU, 0, none⟩) us.length cU, .func (.func 104) #[] #[.pointer (some ⟨Bs, 0, none⟩)], .int .i64 x.1, .agg #[.slice x.2.A x.2.n x.2.c, .int .i64 x.2.wr], f 109, f 110, f 111, f 112, f 113, f 114, f 115, f 116, f 117, f 118, f 119, f 120, f 121, f 122, f 123, f 124, f 125, f 126, f 127, f 128, f 129, f 130, f 131, f 132, f 133, f 134, f 135, f 136, f 137, f 138, f 139, f 140, f 141, f 142, f 143, f 144, f 145, f 146, f 147, f 148, f 149, f 150, f 151, f 152, f 153, f 154, f 155, f 156, f 157, f 158, f 159, f 160, f 161, f 162, f 163, f 164, f 165, f 166, f 167, f 168, f 169, f 170, f 171, f 172, f 173, f 174, f 175, f 176, f 177, f 178, f 179, f 180, f 181, f 182, f 183, f 184, f 185, f 186, f 187, f 188, f 189], defers := [] })
          ?hAx ?assign ?body ?done ?stop)
        case hI =>
          rintro pre A B row ⟨gA, gB, vA, vB, h1, h2, h3, h4⟩ hg hr
          have hk := keptT_nocells hg (fun r e => (hr r e).2)
          exact ⟨gA, gB, vA, vB, Lib.hid (h1.out.nocells hW2l HML.out hg hr), h2, Lib.hid (hk.blk _ _ _ h3.out (by decide)), Lib.hid (hk.blk _ _ _ h4.out (by decide))⟩
        case hAx =>
          rintro x a' s A B row ⟨Bu, h1, h2, h3⟩ hg hr
          exact ⟨Bu, h1, (keptT_nocells hg (fun r e => (hr r e).2)).blk _ _ _ h2 (by decide), h3⟩
        case assign =>
          rintro l pre x W Kk ⟨gA, gB, vA, vB, h1, h2, h3, h4⟩ hKk
          unfold encsB
          gi_wp2
          refine hKk _ _ ((KeepsOthers.alloc _ _).from _) ⟨Below.heap_alloc _ _ _ h3.out.lt, Below.heap_alloc _ _ _ h4.out.lt⟩ ⟨gA, gB, vA, vB, Lib.hid (h1.out.alloc _), h2, Lib.hid (h3.out.alloc _), Lib.hid (h4.out.alloc _)⟩ ⟨W.heap.size, h1.out.bel.size, BlkAt.new W _ _, rfl⟩
        case body =>
          rintro l pre ⟨j, u⟩ a' W hpre hl ⟨gA, gB, vA, vB, h1, h2, h3, h4⟩ ⟨Bu, hBu, hbu, rfl⟩
          have hju := backL_mem rfl hpre
          have HPO : Hid (((pre ++ [(j, u)]).map Prod.fst).foldl (stepL b.code) ⟨s.ah, s.be, false⟩ = stepL b.code ((pre.map Prod.fst).foldl (stepL b.code) ⟨s.ah, s.be, false⟩) j) := Lib.hid (by rw [List.map_append, List.foldl_append]; rfl)
          obtain ⟨s1, hs1⟩ : ∃ s1, (pre.map Prod.fst).foldl (stepL b.code) ⟨s.ah, s.be, false⟩ = s1 := ⟨_, rfl⟩
          rw [hs1] at h1 h2 HPO
          clear hs1 hpre HL2 HBA HI HS HG HL
          obtain ⟨x, hx, hrd, hwr⟩ := h1.out.life.rds j u hju
          have hjl : j < b.code.length := (List.getElem?_eq_some_iff.1 hx).1
          have hjn : j < i := by have := HNB.out; omega
          have HX := Lib.hid hx
          have HRDU := Lib.hid hrd
          have HWRU := Lib.hid hwr
          have HJU := Lib.hid hju
          have HBu := Lib.hid hbu
          have HNXT := Lib.hid (HCOK.out.nx j x hx)
          have hIW := inss_below HCD.out h1.out.bel
          have hop : x.op = 19 ∨ x.op = 20 → 0 ≤ x.c := fun h => next_c (ins_right (HR.out.ins x (List.mem_of_getElem? hx))) h
          have hnx := next_any X b.code Ab i cb j x W (by have := h1.out.life.blk.cell 3; simpa using this) hIW hx (by omega) hop
          have HNX := Lib.hid hnx
          obtain ⟨gb, hgb⟩ := get_some (xs := gB) (k := j) (by rw [h1.out.life.wsB.len, h2.out.lb]; exact hjl)
          obtain ⟨b0, hb0⟩ := get_some (xs := s1.be) (k := j) (by rw [h2.out.lb]; exact hjl)
          have HGB := Lib.hid hgb
          have HB0 := Lib.hid hb0
          have hb0ok := h2.out.wb b0 (List.mem_of_getElem? hb0)
          have HB0K := Lib.hid hb0ok
          have d0 := h1.out.box.cell 0
          simp only [List.getElem?_toArray, List.getElem?_cons_zero] at d0
          have HIK : Hid (InK Bs bU (.slice (some ⟨bU, 0, none⟩) us.length cU) cu W W) := Lib.hid ⟨KeepsOthers.refl W, h3.out, h4.out⟩
          clear hx hrd hwr hju hbu hIW hop hnx hgb hb0 hb0ok
          gi_wp2_with (first
            | (refine ⟨trivial, ?_⟩
               gi_at_call 77
               refine (CallsIn.inRound l (callsIn_wide.2 HNX.out)).mono ?_
               rintro e W1 ⟨⟨A1, n1, c1, rfl, hr1⟩, hb1⟩
               have HL1 := Lib.hid (h1.out.below hb1)
               have HR1 := Lib.hid hr1
               have HK1 := Lib.hid (HIK.out.below hb1)
               have HBu1 := Lib.hid (HBu.out.below hb1 HBu.out.lt)
               have HRD1 := Lib.hid (rdT_below HRDU.out hb1)
               have HN1 := Lib.hid hr1.1.len
               clear hr1 hb1 HNX)
            | gi_in)
          have HBI := Lib.hid (BodyI.mk HL1.out HK1.out HBu1.out HRD1.out)
          have HSB : Hid (s1.be = s1.be.set j (joinW s1.ah b0 ((nextL j x).take 0))) := Lib.hid (by rw [List.take_zero]; exact (set_self HB0.out).symm)
          rw [HSB.out] at HBI
          obtain ⟨ga, ca, _, hvA, _, _, _⟩ := own_blk HL1.out.life.rowA (by rw [HL1.out.life.wsA.len, h2.out.la]; omega)
          obtain ⟨gv, cv, _, hvB, _, _, _⟩ := own_blk HL1.out.life.rowB (by rw [HL1.out.life.wsB.len, h2.out.lb]; omega)
          subst hvA
          subst hvB
          have hgal : gA.length = b.code.length := by rw [HL1.out.life.wsA.len, h2.out.la]
          have hgbl : gB.length = b.code.length := by rw [HL1.out.life.wsB.len, h2.out.lb]
          have HGAL := Lib.hid hgal
          have HGBL := Lib.hid hgbl
          have hgas : gA.length ≤ 1000 := by omega
          have hgbs : gB.length ≤ 1000 := by omega
          have hjg : (j : Int) < (gB.length : Int) := by omega
          have hj0 : (0 : Int) ≤ (j : Int) := by omega
          have H2 := Lib.hid h2
          have hn1 : n1 ≤ 10 := by
            have := HN1.out
            have : (nextL j x).length ≤ 2 := by unfold nextL; split <;> (try split) <;> (try split) <;> simp
            omega
          have HIB := Lib.hid (And.intro h3.out h4.out)
          have HR0 := Lib.hid (HSH.out x (List.mem_of_getElem? HX.out)).2
          clear hgal hgbl h1 h2 h3 h4 HL1 HK1 HBu1 HRD1 HIK HBu HRDU d0
          gi_loopw [113] (fun a wr => ∃ m : Nat, m ≤ n1 ∧ a = .int .i64 m ∧ Hid (RdN wr A1 n1 (nextL j x)) ∧ Hid (BodyI w X Bx b Ab i cb nw us (.slice (some ⟨bU, 0, none⟩) us.length cU) Bs bU cu Bu u (usesR x) W wr s1.ah (s1.be.set j (joinW s1.ah b0 ((nextL j x).take m))) s1.ch gA gB (.slice (some ⟨ga, 0, none⟩) gA.length ca) (.slice (some ⟨gv, 0, none⟩) gB.length cv) Bc ds)) (fun a _ => n1 - (intOf a).toNat)
          case atStart => exact ⟨0, by omega, rfl, HR1, HBI⟩
          case round =>
            obtain ⟨m, hmn, rfl, HR, HB⟩ := hrel
            by_cases hlt : m < n1
            · obtain ⟨nn, hnn⟩ := get_some (xs := nextL j x) (k := m) (by have := HN1.out; omega)
              obtain ⟨bq, oq, hAq, _, hcq⟩ := HR.out.1.at_ m nn hnn
              subst hAq
              have q0 := hcq 0 _ rfl
              rw [Nat.add_zero, Nat.mul_one] at q0
              have hnl := HNXT.out nn (List.mem_of_getElem? hnn)
              have HNN := Lib.hid hnn
              obtain ⟨Gn, hGn⟩ := get_some (xs := gA) (k := nn) (by rw [HGAL.out]; exact hnl)
              obtain ⟨an, han⟩ := get_some (xs := s1.ah) (k := nn) (by rw [H2.out.la]; exact hnl)
              have HGN := Lib.hid hGn
              have HAN := Lib.hid han
              have d0 := HB.out.li.box.cell 0
              have e5 := HB.out.li.life.blk.cell 5
              simp only [List.getElem?_toArray, List.getElem?_cons_succ, List.getElem?_cons_zero] at d0 e5
              have f5 := own_set_cell HB.out.li.life.rowA hGn
              have k0 : (0 : Int) ≤ (m : Int) := by omega
              have k1 : (m : Int) < (n1 : Int) := by omega
              have k2 : (0 : Int) ≤ (nn : Int) := by omega
              have k3 : (nn : Int) < (gA.length : Int) := by have := HGAL.out; omega
              have wr1 : IntKind.i64.wrap ((m : Int) + 1) = (m : Int) + 1 := IntWalk.i64_in _ (by omega)
              clear hcq hnn hGn han hnl
              gi_wp2
              clear q0 d0 e5 f5 k0 k1 k2 k3
              have hanok := H2.out.wa an (List.mem_of_getElem? HAN.out)
              have HANK := Lib.hid hanok
              obtain ⟨bm, hbm⟩ : ∃ bm, joinW s1.ah b0 ((nextL j x).take m) = bm := ⟨_, rfl⟩
              have HBMK : Hid (WOK nw bm) := Lib.hid (by
                rw [← hbm]
                exact (join_spec H2.out.wa _ b0 HB0K.out (fun n hn => by rw [H2.out.la]; exact HNXT.out n (List.mem_of_mem_take hn))).1)
              have HJN : Hid (joinW s1.ah b0 ((nextL j x).take (m + 1)) = orW bm an) := Lib.hid (by
                rw [join_snoc _ _ _ HNN.out, hbm, List.getD_eq_getElem?_getD, HAN.out]; rfl)
              rw [hbm] at HB
              rw [show bm = orN bm an 0 from (orN_zero bm an).symm] at HB
              clear hbm hanok
              obtain ⟨wo, hwo⟩ : ∃ wo : World, wo = wr := ⟨_, rfl⟩
              subst hwo
              gi_loopw [125] (fun a wr => ∃ q : Nat, q ≤ nw ∧ a = .int .i64 q ∧ Hid (RdN wr (some ⟨bq, oq, none⟩) n1 (nextL j x)) ∧ Hid (BodyI w X Bx b Ab i cb nw us (.slice (some ⟨bU, 0, none⟩) us.length cU) Bs bU cu Bu u (usesR x) W wr s1.ah (s1.be.set j (orN bm an q)) s1.ch gA gB (.slice (some ⟨ga, 0, none⟩) gA.length ca) (.slice (some ⟨gv, 0, none⟩) gB.length cv) Bc ds)) (fun a _ => nw - (intOf a).toNat)
              case atStart => exact ⟨0, by omega, rfl, HR, HB⟩
              case round =>
                obtain ⟨q, hqn, rfl, HR, HB⟩ := hrel
                by_cases hlq : q < nw
                · obtain ⟨xa, hxa⟩ := get_some (xs := an) (k := q) (by rw [HANK.out.1]; exact hlq)
                  obtain ⟨yb, hyb⟩ := get_some (xs := bm) (k := q) (by rw [HBMK.out.1]; exact hlq)
                  have d0 := HB.out.li.box.cell 0
                  have e6 := HB.out.li.life.blk.cell 6
                  simp only [List.getElem?_toArray, List.getElem?_cons_succ, List.getElem?_cons_zero] at d0 e6
                  have f6 := own_set_cell HB.out.li.life.rowB HGB.out
                  have hbej : (s1.be.set j (orN bm an q))[j]? = some (orN bm an q) := by
                    rw [List.getElem?_set, if_pos rfl, if_pos (by rw [H2.out.lb]; exact hjl)]
                  have hrow := HB.out.li.life.wsB.row j gb _ HGB.out hbej
                  have ga0 := (HB.out.li.life.wsA.row nn Gn an HGN.out HAN.out).1.cell q xa hxa
                  have gb0 := hrow.1.cell q yb (orN_at HBMK.out HANK.out hyb)
                  have gf0 := hrow.1.frz q
                  have ob := or_nat (x := xa) (y := yb) (HANK.out.2 xa (List.mem_of_getElem? hxa)) (HBMK.out.2 yb (List.mem_of_getElem? hyb))
                  have HSU := Lib.hid (orN_succ HBMK.out HANK.out hxa hyb)
                  have hqo : q < (orN bm an q).length := by rw [orN_len HBMK.out HANK.out q hqn]; exact hlq
                  have HRW := Lib.hid (hrow.1.set q (yb ||| xa) hqo)
                  have HBEJ := Lib.hid hbej
                  have HGS := Lib.hid (setCell_grown wr gb.1 q (.int .u64 ((yb ||| xa : Nat) : Int)))
                  have HBT := Lib.hid hrow.1
                  have k0 : (0 : Int) ≤ (q : Int) := by omega
                  have k1 : (q : Int) < (nw : Int) := by omega
                  have wr2 : IntKind.i64.wrap ((q : Int) + 1) = (q : Int) + 1 := IntWalk.i64_in _ (by omega)
                  clear hbej hrow hxa hyb hqo
                  generalize yb ||| xa = yx at *
                  gi_wp2
                  go_roundw
                  case rel =>
                    refine ⟨q + 1, by omega, by go_num, ?_, ?_⟩
                    · obtain ⟨cs, hb, _⟩ := HBT.out
                      exact Lib.hid (rdN_keptT HR.out (keptT_row HGS.out hb) (by decide))
                    · have := HB.out.rowB HGB.out HBEJ.out HGS.out HRW.out
                      rw [List.set_set, HSU.out] at this
                      exact Lib.hid this
                  case measure => simp [intOf]; omega
                · obtain rfl : q = nw := by omega
                  rw [orN_all HBMK.out HANK.out, ← HJN.out] at HB
                  gi_wp2
                  go_roundw
                  case rel => exact ⟨m + 1, by omega, by go_num, HR, HB⟩
                  case measure => simp [intOf]; omega
            · obtain rfl : m = n1 := by omega
              obtain ⟨bj, hbj⟩ : ∃ bj, joinW s1.ah b0 (nextL j x) = bj := ⟨_, rfl⟩
              have HBJK : Hid (WOK nw bj) := Lib.hid (by
                rw [← hbj]
                exact (join_spec H2.out.wa _ b0 HB0K.out (fun n hn => by rw [H2.out.la]; exact HNXT.out n hn)).1)
              rw [show (nextL j x).take m = nextL j x from List.take_of_length_le (by have := HN1.out; omega), hbj] at HB
              clear hlt HR
              obtain ⟨Gj, hGj⟩ := get_some (xs := gA) (k := j) (by rw [HGAL.out]; exact hjl)
              obtain ⟨aj, haj⟩ := get_some (xs := s1.ah) (k := j) (by rw [H2.out.la]; exact hjl)
              have HGJ := Lib.hid hGj
              have HAJ := Lib.hid haj
              have HAJK := Lib.hid (H2.out.wa aj (List.mem_of_getElem? haj))
              have HRDX := Lib.hid (HCOK.out.rd x (List.mem_of_getElem? HX.out))
              have hwx := HCOK.out.wr x (List.mem_of_getElem? HX.out)
              rw [← HWRU.out] at hwx
              have hbej : (s1.be.set j bj)[j]? = some bj := set_get1 HB0.out
              have hrow := HB.out.li.life.wsB.row j gb _ HGB.out hbej
              have HCL := Lib.hid (clone_any gb.1 nw gb.2 bj wr hrow.1 HBJK.out.1 hnwb.1 (by omega))
              have HFR := Lib.hid (life_fresh2 HB.out.li.life)
              have d0 := HB.out.li.box.cell 0
              have e6 := HB.out.li.life.blk.cell 6
              simp only [List.getElem?_toArray, List.getElem?_cons_succ, List.getElem?_cons_zero] at d0 e6
              have f6 := own_set_cell HB.out.li.life.rowB HGB.out
              have hwrl : w.heap.size ≤ wr.heap.size := HB.out.li.bel.size
              have hun : u.n ≤ 100000 := by
                have h1 := HB.out.rd.1.len
                have h2 := uses_len HR0.out
                omega
              clear hGj haj hbej hrow
              by_cases hw0 : 0 ≤ u.wr
              · have fw : decide (0 ≤ u.wr) = true := decide_eq_true hw0
                have hw0' : 0 ≤ u.wr := hw0
                have HBASE : Hid ((if 0 ≤ usesW x then dropW bj (usesW x).toNat else bj) = dropW bj u.wr.toNat) := Lib.hid (by rw [← HWRU.out, if_pos hw0])
                gi_wp2_with (first
                  | (refine ⟨trivial, ?_⟩
                     gi_at_call 78
                     refine (CallsIn.inRound l (callsIn_wide.2 HCL.out)).mono ?_
                     rintro e W3 ⟨⟨gc, cc2, rfl, hrc, hgc⟩, hb3⟩
                     have HB3 := Lib.hid (HB.out.below hb3)
                     have HRC3 := Lib.hid hrc
                     have HGF : Hid (gc ∉ (gA ++ gB).map Prod.fst) := Lib.hid (fun hm => by have := HFR.out gc hm; omega)
                     have hgcl : w.heap.size ≤ gc := by omega
                     have k15 := HB3.out.bu.cell 1
                     simp only [List.getElem?_toArray, List.getElem?_cons_succ, List.getElem?_cons_zero] at k15
                     have HDR := Lib.hid (drop_int gc nw cc2 u.wr bj W3 hw0' hrc hwx.2 HBJK.out (by omega))
                     clear hrc hgc hb3 HCL)
                  | (refine ⟨trivial, ?_⟩
                     gi_at_call 79
                     refine (CallsIn.inRound l (callsIn_wide.2 HDR.out)).mono ?_
                     rintro e W4 ⟨rfl, hr4, hg4⟩
                     have HB4 := Lib.hid (HB3.out.other hg4 HRC3.out HGF.out hgcl)
                     have HRC4 := Lib.hid hr4
                     have k14 := HB4.out.bu.cell 0
                     simp only [List.getElem?_toArray, List.getElem?_cons_zero] at k14
                     clear hr4 hg4 HDR)
                  | gi_in)
                have HBK4 : Hid (WOK nw (dropW bj u.wr.toNat)) := Lib.hid (dropW_ok HBJK.out _)
                clear fw hw0 hw0' k15 k14 d0 e6 f6 HB HB3 HRC3
                gi_loopw [163] (fun a wr => ∃ m : Nat, m ≤ u.n ∧ a = .int .i64 m ∧ Hid (RowW wr gc ((((usesR x).take m).map Int.toNat).foldl putW (dropW bj u.wr.toNat))) ∧ Hid (BodyI w X Bx b Ab i cb nw us (.slice (some ⟨bU, 0, none⟩) us.length cU) Bs bU cu Bu u (usesR x) W wr s1.ah (s1.be.set j bj) s1.ch gA gB (.slice (some ⟨ga, 0, none⟩) gA.length ca) (.slice (some ⟨gv, 0, none⟩) gB.length cv) Bc ds)) (fun a _ => u.n - (intOf a).toNat)
                case atStart => exact ⟨0, by omega, rfl, HRC4, HB4⟩
                case round =>
                  obtain ⟨m, hmn, rfl, HRM, HB⟩ := hrel
                  by_cases hlt : m < u.n
                  · obtain ⟨r, hr⟩ := get_some (xs := usesR x) (k := m) (by have := HB.out.rd.1.len; omega)
                    obtain ⟨br, or', hAr, _, hcr⟩ := HB.out.rd.1.at_ m r hr
                    have q0 := hcr 0 _ rfl
                    rw [Nat.add_zero, Nat.mul_one] at q0
                    have hrr := HRDX.out r (List.mem_of_getElem? hr)
                    have hwk := (puts_spec ((usesR x).take m) (dropW bj u.wr.toNat) HBK4.out (fun r hr => HRDX.out r (List.mem_of_mem_take hr))).1
                    have HPT := Lib.hid (put_int gc nw cc2 r _ wr hrr.1 HRM.out hrr.2 hwk (by omega))
                    have HPS := Lib.hid (puts_snoc (usesR x) (dropW bj u.wr.toNat) hr)
                    have HAR := Lib.hid hAr
                    have k0 : (0 : Int) ≤ (m : Int) := by omega
                    have k1 : (m : Int) < (u.n : Int) := by omega
                    have wr1 : IntKind.i64.wrap ((m : Int) + 1) = (m : Int) + 1 := IntWalk.i64_in _ (by omega)
                    clear hr hcr hrr hwk
                    rw [hAr]
                    clear hAr
                    gi_wp2_with (first
                      | (refine ⟨trivial, ?_⟩
                         gi_at_call 80
                         refine (CallsIn.inRound l (callsIn_wide.2 HPT.out)).mono ?_
                         rintro e W6 ⟨rfl, hr6, hg6⟩
                         have HR6 := Lib.hid hr6
                         have HB6 := Lib.hid (HB.out.other hg6 HRM.out HGF.out hgcl)
                         clear hr6 hg6 HPT)
                      | gi_in)
                    go_roundw
                    case rel => exact ⟨m + 1, by omega, by go_num, Lib.hid (by rw [HPS.out]; exact HR6.out), HB6⟩
                    case measure => simp [intOf]; omega
                  · obtain rfl : m = u.n := by omega
                    have hlen := HB.out.rd.1.len
                    rw [show (usesR x).take u.n = usesR x from List.take_of_length_le (by omega)] at HRM
                    have hAO : ((usesR x).map Int.toNat).foldl putW (dropW bj u.wr.toNat) = aheadOf x bj := by unfold aheadOf; rw [HBASE.out]
                    rw [hAO] at HRM
                    clear hlen hAO hlt
                    have haok := (ahead_spec HCOK.out (List.mem_of_getElem? HX.out) HBJK.out).1
                    have HAOK := Lib.hid haok
                    have HST := Lib.hid (step_eq HX.out HB0.out HAJ.out)
                    rw [hbj] at HST
                    have HINV := Lib.hid (step_inv HCOK.out H2.out hjl).1
                    have HEQ := Lib.hid (equalW_any gc Gj.1 nw cc2 Gj.2 (aheadOf x bj) aj wr HRM.out (HB.out.li.life.wsA.row j Gj aj HGJ.out HAJ.out).1 haok.1 HAJK.out.1 (by omega))
                    have d0 := HB.out.li.box.cell 0
                    have e5 := HB.out.li.life.blk.cell 5
                    simp only [List.getElem?_toArray, List.getElem?_cons_succ, List.getElem?_cons_zero] at d0 e5
                    have f5 := own_set_cell HB.out.li.life.rowA HGJ.out
                    have hjA : (j : Int) < (gA.length : Int) := by have := HGAL.out; omega
                    clear haok
                    by_cases hae : aheadOf x bj = aj
                    · have hd : decide (aheadOf x bj = aj) = true := decide_eq_true hae
                      rw [hd] at HEQ
                      rw [if_pos hae] at HST
                      clear hd hae
                      gi_wp2_with (first
                        | (refine ⟨trivial, ?_⟩
                           gi_at_call 81
                           refine (CallsIn.inRound l (callsIn_wide.2 HEQ.out)).mono ?_
                           rintro e W7 ⟨rfl, hb7⟩
                           have HB7 := Lib.hid (HB.out.below hb7)
                           clear hb7 HEQ)
                        | gi_in)
                      refine ⟨?_, ?_, ?_⟩
                      · exact HB7.out.ik.ko.from _
                      · exact HB7.out.ik.kpB HIB.out.1 HIB.out.2
                      · refine ⟨gA, gB, .slice (some ⟨ga, 0, none⟩) gA.length ca, .slice (some ⟨gv, 0, none⟩) gB.length cv, ?_, ?_, Lib.hid HB7.out.ik.bs, Lib.hid HB7.out.ik.bu⟩
                        · rw [HPO.out.trans HST.out]; exact Lib.hid HB7.out.li
                        · rw [HPO.out]; exact HINV
                    · have hd : decide (aheadOf x bj = aj) = false := decide_eq_false hae
                      rw [hd] at HEQ
                      rw [if_neg hae] at HST
                      clear hd hae
                      gi_wp2_with (first
                        | (refine ⟨trivial, ?_⟩
                           gi_at_call 81
                           refine (CallsIn.inRound l (callsIn_wide.2 HEQ.out)).mono ?_
                           rintro e W7 ⟨rfl, hb7⟩
                           have HB7 := Lib.hid (HB.out.below hb7)
                           have HR7 := Lib.hid (HRM.out.below hb7)
                           have d1 := HB7.out.li.box.cell 0
                           have e6 := HB7.out.li.life.blk.cell 5
                           simp only [List.getElem?_toArray, List.getElem?_cons_succ, List.getElem?_cons_zero] at d1 e6
                           have f6 := own_set_cell HB7.out.li.life.rowA HGJ.out
                           have f7 := own_frz HB7.out.li.life.rowA (by omega) j
                           have HB8 := Lib.hid ((HB7.out.rowA (G := (gc, cc2)) rfl (i := j) (by have := HGAL.out; omega) HR7.out hgcl HGF.out).flag true)
                           have g8 := (HB7.out.rowA (G := (gc, cc2)) rfl (i := j) (by have := HGAL.out; omega) HR7.out hgcl HGF.out).li.chg.cell 0
                           have g9 := (HB7.out.rowA (G := (gc, cc2)) rfl (i := j) (by have := HGAL.out; omega) HR7.out hgcl HGF.out).li.chg.frozen 0
                           simp only [List.getElem?_toArray, List.getElem?_cons_zero] at g8
                           clear hb7 HEQ)
                        | gi_in)
                      refine ⟨?_, ?_, ?_⟩
                      · exact HB8.out.ik.ko.from _
                      · exact HB8.out.ik.kpB HIB.out.1 HIB.out.2
                      · refine ⟨gA.set j (gc, cc2), gB, .slice (some ⟨ga, 0, none⟩) gA.length ca, .slice (some ⟨gv, 0, none⟩) gB.length cv, ?_, ?_, Lib.hid HB8.out.ik.bs, Lib.hid HB8.out.ik.bu⟩
                        · rw [HPO.out.trans HST.out]; exact Lib.hid HB8.out.li
                        · rw [HPO.out]; exact HINV
              · have fw : decide (0 ≤ u.wr) = false := decide_eq_false hw0
                have HBASE : Hid ((if 0 ≤ usesW x then dropW bj (usesW x).toNat else bj) = bj) := Lib.hid (by rw [← HWRU.out, if_neg hw0])
                clear hw0
                gi_wp2_with (first
                  | (refine ⟨trivial, ?_⟩
                     gi_at_call 78
                     refine (CallsIn.inRound l (callsIn_wide.2 HCL.out)).mono ?_
                     rintro e W3 ⟨⟨gc, cc2, rfl, hrc, hgc⟩, hb3⟩
                     have HB3 := Lib.hid (HB.out.below hb3)
                     have HRC3 := Lib.hid hrc
                     have HGF : Hid (gc ∉ (gA ++ gB).map Prod.fst) := Lib.hid (fun hm => by have := HFR.out gc hm; omega)
                     have hgcl : w.heap.size ≤ gc := by omega
                     have k15 := HB3.out.bu.cell 1
                     have k14 := HB3.out.bu.cell 0
                     simp only [List.getElem?_toArray, List.getElem?_cons_succ, List.getElem?_cons_zero] at k15 k14
                     clear hrc hgc hb3 HCL)
                  | gi_in)
                clear fw k15 k14 d0 e6 f6 HB
                gi_loopw [163] (fun a wr => ∃ m : Nat, m ≤ u.n ∧ a = .int .i64 m ∧ Hid (RowW wr gc ((((usesR x).take m).map Int.toNat).foldl putW bj)) ∧ Hid (BodyI w X Bx b Ab i cb nw us (.slice (some ⟨bU, 0, none⟩) us.length cU) Bs bU cu Bu u (usesR x) W wr s1.ah (s1.be.set j bj) s1.ch gA gB (.slice (some ⟨ga, 0, none⟩) gA.length ca) (.slice (some ⟨gv, 0, none⟩) gB.length cv) Bc ds)) (fun a _ => u.n - (intOf a).toNat)
                case atStart => exact ⟨0, by omega, rfl, HRC3, HB3⟩
                case round =>
                  obtain ⟨m, hmn, rfl, HRM, HB⟩ := hrel
                  by_cases hlt : m < u.n
                  · obtain ⟨r, hr⟩ := get_some (xs := usesR x) (k := m) (by have := HB.out.rd.1.len; omega)
                    obtain ⟨br, or', hAr, _, hcr⟩ := HB.out.rd.1.at_ m r hr
                    have q0 := hcr 0 _ rfl
                    rw [Nat.add_zero, Nat.mul_one] at q0
                    have hrr := HRDX.out r (List.mem_of_getElem? hr)
                    have hwk := (puts_spec ((usesR x).take m) bj HBJK.out (fun r hr => HRDX.out r (List.mem_of_mem_take hr))).1
                    have HPT := Lib.hid (put_int gc nw cc2 r _ wr hrr.1 HRM.out hrr.2 hwk (by omega))
                    have HPS := Lib.hid (puts_snoc (usesR x) bj hr)
                    have HAR := Lib.hid hAr
                    have k0 : (0 : Int) ≤ (m : Int) := by omega
                    have k1 : (m : Int) < (u.n : Int) := by omega
                    have wr1 : IntKind.i64.wrap ((m : Int) + 1) = (m : Int) + 1 := IntWalk.i64_in _ (by omega)
                    clear hr hcr hrr hwk
                    rw [hAr]
                    clear hAr
                    gi_wp2_with (first
                      | (refine ⟨trivial, ?_⟩
                         gi_at_call 80
                         refine (CallsIn.inRound l (callsIn_wide.2 HPT.out)).mono ?_
                         rintro e W6 ⟨rfl, hr6, hg6⟩
                         have HR6 := Lib.hid hr6
                         have HB6 := Lib.hid (HB.out.other hg6 HRM.out HGF.out hgcl)
                         clear hr6 hg6 HPT)
                      | gi_in)
                    go_roundw
                    case rel => exact ⟨m + 1, by omega, by go_num, Lib.hid (by rw [HPS.out]; exact HR6.out), HB6⟩
                    case measure => simp [intOf]; omega
                  · obtain rfl : m = u.n := by omega
                    have hlen := HB.out.rd.1.len
                    rw [show (usesR x).take u.n = usesR x from List.take_of_length_le (by omega)] at HRM
                    have hAO : ((usesR x).map Int.toNat).foldl putW bj = aheadOf x bj := by unfold aheadOf; rw [HBASE.out]
                    rw [hAO] at HRM
                    clear hlen hAO hlt
                    have haok := (ahead_spec HCOK.out (List.mem_of_getElem? HX.out) HBJK.out).1
                    have HAOK := Lib.hid haok
                    have HST := Lib.hid (step_eq HX.out HB0.out HAJ.out)
                    rw [hbj] at HST
                    have HINV := Lib.hid (step_inv HCOK.out H2.out hjl).1
                    have HEQ := Lib.hid (equalW_any gc Gj.1 nw cc2 Gj.2 (aheadOf x bj) aj wr HRM.out (HB.out.li.life.wsA.row j Gj aj HGJ.out HAJ.out).1 haok.1 HAJK.out.1 (by omega))
                    have d0 := HB.out.li.box.cell 0
                    have e5 := HB.out.li.life.blk.cell 5
                    simp only [List.getElem?_toArray, List.getElem?_cons_succ, List.getElem?_cons_zero] at d0 e5
                    have f5 := own_set_cell HB.out.li.life.rowA HGJ.out
                    have hjA : (j : Int) < (gA.length : Int) := by have := HGAL.out; omega
                    clear haok
                    by_cases hae : aheadOf x bj = aj
                    · have hd : decide (aheadOf x bj = aj) = true := decide_eq_true hae
                      rw [hd] at HEQ
                      rw [if_pos hae] at HST
                      clear hd hae
                      gi_wp2_with (first
                        | (refine ⟨trivial, ?_⟩
                           gi_at_call 81
                           refine (CallsIn.inRound l (callsIn_wide.2 HEQ.out)).mono ?_
                           rintro e W7 ⟨rfl, hb7⟩
                           have HB7 := Lib.hid (HB.out.below hb7)
                           clear hb7 HEQ)
                        | gi_in)
                      refine ⟨?_, ?_, ?_⟩
                      · exact HB7.out.ik.ko.from _
                      · exact HB7.out.ik.kpB HIB.out.1 HIB.out.2
                      · refine ⟨gA, gB, .slice (some ⟨ga, 0, none⟩) gA.length ca, .slice (some ⟨gv, 0, none⟩) gB.length cv, ?_, ?_, Lib.hid HB7.out.ik.bs, Lib.hid HB7.out.ik.bu⟩
                        · rw [HPO.out.trans HST.out]; exact Lib.hid HB7.out.li
                        · rw [HPO.out]; exact HINV
                    · have hd : decide (aheadOf x bj = aj) = false := decide_eq_false hae
                      rw [hd] at HEQ
                      rw [if_neg hae] at HST
                      clear hd hae
                      gi_wp2_with (first
                        | (refine ⟨trivial, ?_⟩
                           gi_at_call 81
                           refine (CallsIn.inRound l (callsIn_wide.2 HEQ.out)).mono ?_
                           rintro e W7 ⟨rfl, hb7⟩
                           have HB7 := Lib.hid (HB.out.below hb7)
                           have HR7 := Lib.hid (HRM.out.below hb7)
                           have d1 := HB7.out.li.box.cell 0
                           have e6 := HB7.out.li.life.blk.cell 5
                           simp only [List.getElem?_toArray, List.getElem?_cons_succ, List.getElem?_cons_zero] at d1 e6
                           have f6 := own_set_cell HB7.out.li.life.rowA HGJ.out
                           have f7 := own_frz HB7.out.li.life.rowA (by omega) j
                           have HB8 := Lib.hid ((HB7.out.rowA (G := (gc, cc2)) rfl (i := j) (by have := HGAL.out; omega) HR7.out hgcl HGF.out).flag true)
                           have g8 := (HB7.out.rowA (G := (gc, cc2)) rfl (i := j) (by have := HGAL.out; omega) HR7.out hgcl HGF.out).li.chg.cell 0
                           have g9 := (HB7.out.rowA (G := (gc, cc2)) rfl (i := j) (by have := HGAL.out; omega) HR7.out hgcl HGF.out).li.chg.frozen 0
                           simp only [List.getElem?_toArray, List.getElem?_cons_zero] at g8
                           clear hb7 HEQ)
                        | gi_in)
                      refine ⟨?_, ?_, ?_⟩
                      · exact HB8.out.ik.ko.from _
                      · exact HB8.out.ik.kpB HIB.out.1 HIB.out.2
                      · refine ⟨gA.set j (gc, cc2), gB, .slice (some ⟨ga, 0, none⟩) gA.length ca, .slice (some ⟨gv, 0, none⟩) gB.length cv, ?_, ?_, Lib.hid HB8.out.ik.bs, Lib.hid HB8.out.ik.bu⟩
                        · rw [HPO.out.trans HST.out]; exact Lib.hid HB8.out.li
                        · rw [HPO.out]; exact HINV
        case done =>
          rintro D W hD ⟨gA, gB, vA, vB, h1, h2, h3, h4⟩ hdD
          have hS : ((backL us us.length).map Prod.fst).foldl (stepL b.code) ⟨s.ah, s.be, false⟩ = passL b.code s := by rw [backL_idx, HUL.out, HNB.out]; rfl
          rw [hS] at h1 h2
          obtain ⟨p1, p2, p3⟩ := pass_inv HCOK.out HI.out
          generalize passL b.code s = s2 at *
          have hmu := mu_le p1
          have HM := Lib.hid (MarksAt.cons_at h1.out.mrk (D := D) (by omega) hdD (fun d' hd' e => by have := HML.out D ⟨d', hd', e⟩; omega))
          have c0 := h1.out.chg.cell 0
          simp only [List.getElem?_toArray, List.getElem?_cons_zero] at c0
          have HL3 := Lib.hid (h1.out.alloc (.cells #[.bool s2.ch] 4))
          have HM3 := Lib.hid (HM.out.from ((KeepsOthers.alloc W (.cells #[.bool s2.ch] 4)).from _))
          have HC3 := Lib.hid (BlkAt.new W 4 #[.bool s2.ch])
          have hWl : w.heap.size ≤ W.heap.size := h1.out.bel.size
          have HP1 := Lib.hid p1
          have HP2 := Lib.hid p2
          have HP3 := Lib.hid p3
          have HMU := Lib.hid hmu
          clear hS p1 p2 p3 h1 h2 hmu HM hdD
          go_wp2_with fail
          refine Handed.intro (if s2.ch = true then b.code.length * (64 * nw) + 1 - muL s2 else 0) ?_ (hJ _ _ _ ⟨_, s2, gA, gB, vA, vB, W.heap.size, _, congrArg (fun t => Act.mk t _) (frame_ex _ _ _ (by rfl) (by rfl) (by rfl)), Lib.hid ⟨HL3.out.life, HL3.out.box, HC3.out, hWl, HL3.out.bel, HM3.out⟩, HP1, HP3, Lib.hid rfl⟩)
          rw [HG.out, if_pos hch]
          have := mu_le HI.out
          have := HMU.out
          split
          · have := HP2.out (by assumption); omega
          · omega
        case stop =>
          rintro D c pre W _ h _
          exact h.elim
end Go.Proofs.YtpahhcmiimllaaaGreatDoor
