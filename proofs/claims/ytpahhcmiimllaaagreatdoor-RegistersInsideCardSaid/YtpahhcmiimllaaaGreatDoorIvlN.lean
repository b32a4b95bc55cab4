/- DERIVED. Intervals: its other ends. -/
import Derived.Test.YtpahhcmiimllaaaGreatDoorLives
import Derived.Test.YtpahhcmiimllaaaGreatDoorIvl
set_option linter.unusedSimpArgs false
set_option linter.unusedVariables false
namespace Go.Proofs.YtpahhcmiimllaaaGreatDoor
open Go.RowKit

set_option maxRecDepth 100000 in
set_option maxHeartbeats 4000000 in
theorem lives_bad (c : CodeL) (A : Option Addr) (n cc : Nat) (k : Int) (w : World) (hC : Bods w A n c.bodies) (hf : FewC c) (hV : VarsR w) (hc0 : chkC c ≠ 0) :
    Calls Tryz.prog 40 #[codeV c A n cc, .int .i64 k] w fun e w' => e = .returned (.tuple #[.pointer none, .int .i64 (chkC c)]) ∧ Below w.heap.size w w' := by
  have HB0 := Lib.hid ((Below.refl w.heap.size w).alloc (Nat.le_refl _) (.cells #[.int .i64 c.globals, .slice A n cc] 24))
  have hchk := chkC_any c A n cc (w.alloc (.cells #[.int .i64 c.globals, .slice A n cc] 24)) (bods_below hC HB0.out) hf (hV.below HB0.out)
  have HCHK := Lib.hid hchk
  generalize chkC c = q at *
  have fq : ((q : Int) != 0) = true := by simp; omega
  clear hchk hC hf hV
  unfold codeV at HCHK ⊢
  go_enter Tryz.func40, Tryz.ntmps40
  go_wp2_with (first
    | (go_at_call 74
       refine HCHK.out.mono ?_
       rintro e w1 ⟨rfl, hb1⟩
       have HB1 := Lib.hid (HB0.out.trans (hb1.mono HB0.out.size))
       clear hb1 HCHK)
    | fail)
  go_ret2
  exact ⟨rfl, HB1.out⟩
set_option maxRecDepth 100000 in
set_option maxHeartbeats 4000000 in
theorem lives_out (c : CodeL) (A : Option Addr) (n cc : Nat) (k : Int) (w : World) (hC : Bods w A n c.bodies) (hf : FewC c) (hV : VarsR w) (hc0 : chkC c = 0) (hk : k < 0 ∨ (c.bodies.length : Int) ≤ k) :
    Calls Tryz.prog 40 #[codeV c A n cc, .int .i64 k] w fun e w' => e = .returned (.tuple #[.pointer none, .int .i64 4]) ∧ Below w.heap.size w w' := by
  have HB0 := Lib.hid ((Below.refl w.heap.size w).alloc (Nat.le_refl _) (.cells #[.int .i64 c.globals, .slice A n cc] 24))
  have HX0 := Lib.hid (BlkAt.new w 24 #[.int .i64 c.globals, .slice A n cc])
  have hchk := chkC_any c A n cc (w.alloc (.cells #[.int .i64 c.globals, .slice A n cc] 24)) (bods_below hC HB0.out) hf (hV.below HB0.out)
  rw [hc0] at hchk
  have HCHK := Lib.hid hchk
  have hl := hC.len
  have c1 := HX0.out.cell 1
  simp only [List.getElem?_toArray, List.getElem?_cons_succ, List.getElem?_cons_zero] at c1
  clear hchk hC hf hV hc0
  unfold codeV at HCHK ⊢
  by_cases hk0 : k < 0
  · have f1 : decide (k < 0) = true := decide_eq_true hk0
    clear hk hl
    go_enter Tryz.func40, Tryz.ntmps40
    go_wp2_with (first
      | (go_at_call 74
         refine HCHK.out.mono ?_
         rintro e w1 ⟨rfl, hb1⟩
         have HB1 := Lib.hid (HB0.out.trans (hb1.mono HB0.out.size))
         clear hb1 HCHK)
      | fail)
    go_ret2
    exact ⟨rfl, HB1.out⟩
  · have f1 : decide (k < 0) = false := decide_eq_false hk0
    have f2 : decide ((n : Int) ≤ k) = true := decide_eq_true (by omega)
    clear hk hl hk0
    go_enter Tryz.func40, Tryz.ntmps40
    go_wp2_with (first
      | (go_at_call 74
         refine HCHK.out.mono ?_
         rintro e w1 ⟨rfl, hb1⟩
         have HB1 := Lib.hid (HB0.out.trans (hb1.mono HB0.out.size))
         have d1 := (HX0.out.below hb1 HX0.out.lt).cell 1
         simp only [List.getElem?_toArray, List.getElem?_cons_succ, List.getElem?_cons_zero] at d1
         clear hb1 HCHK c1)
      | fail)
    go_ret2
    exact ⟨rfl, HB1.out⟩
end Go.Proofs.YtpahhcmiimllaaaGreatDoor
namespace Go.Proofs.YtpahhcmiimllaaaGreatDoor
open Go.RowKit

theorem itv_len (code : List InsL) (ah be : List (List Nat)) (regs : Nat) : (itvL code ah be regs).length ≤ regs := by
  have h1 := nodup_le (itvL code ah be regs) ((List.range regs).map (fun r => (⟨r, (firstT (tchB code ah be) code.length r).getD 0, lastT (tchB code ah be) code.length r⟩ : Itv))) ?_ ?_
  · simpa using h1
  · unfold itvL List.Nodup
    refine (itvs_sorted _ _ _).imp ?_
    rintro a b h rfl
    exact ltI_irr h
  · intro v hv
    obtain ⟨h1, h2, h3⟩ := mem_itvs.1 hv
    refine List.mem_map.2 ⟨v.reg, List.mem_range.2 h1, ?_⟩
    rw [h2, ← h3]; rfl
theorem deb_of {w : World} (hV : VarsR w) : DebAt w := by
  intro j hj
  have h := hV.deb
  unfold Lib.TabIs World.var? at h
  rw [show Tryz.prog.globalNamed "math/bits.deBruijn64tab" = some 0 by kernel_rfl] at h
  simp only [Option.bind_some] at h
  rcases hh : w.heap[0]? with _ | o
  · rw [hh] at h; cases h
  · rw [hh] at h
    cases o <;> simp at h
    rw [cell_of_row w _ j _ _ _ hh, h]
    have hl : j < Lib.deBruijn64tab.length := Nat.lt_of_lt_of_le hj (by decide +kernel)
    simp [List.getD_eq_getElem?_getD, List.getElem?_eq_getElem hl]
set_option maxRecDepth 100000 in
set_option maxHeartbeats 4000000 in
theorem Intervals_ok (c : CodeL) (A : Option Addr) (n cc k : Nat) (b : BodyL) (w : World) (hC : Bods w A n c.bodies) (hf : FewC c) (hV : VarsR w) (hc0 : chkC c = 0) (hb : c.bodies[k]? = some b) :
    Calls Tryz.prog 16 #[codeV c A n cc, .int .i64 k] w fun e w' => (∃ ah be v, FixL (b.regs.toNat / 64 + 1) b.code ah be ∧ e = .returned (.tuple #[v, .int .i64 0]) ∧ w'.ownsRow w.heap.size 44 3 v (itvL b.code ah be b.regs.toNat).length ((itvL b.code ah be b.regs.toNat).flatMap encItv)) ∧ Below w.heap.size w w' := by
  have hbm := List.mem_of_getElem? hb
  have HR := Lib.hid (chk_right hc0 hbm)
  have HB0 := Lib.hid ((Below.refl w.heap.size w).alloc (Nat.le_refl _) (.cells #[.int .i64 c.globals, .slice A n cc] 24))
  have HX0 := Lib.hid (BlkAt.new w 24 #[.int .i64 c.globals, .slice A n cc])
  have hlv := lives_ok c A n cc k b (w.alloc (.cells #[.int .i64 c.globals, .slice A n cc] 24)) (bods_below hC HB0.out) hf (hV.below HB0.out) hc0 hb
  have HLV := Lib.hid hlv
  have HDB := Lib.hid (deb_of (hV.below HB0.out))
  have HLB : Hid (b.code.length ≤ 1000) := Lib.hid (hf.len b hbm)
  have HSH := Lib.hid (hf.short b hbm)
  have HCO := Lib.hid (code_ok HR.out)
  have c0 := HX0.out.cell 0
  have c1 := HX0.out.cell 1
  simp only [List.getElem?_toArray, List.getElem?_cons_succ, List.getElem?_cons_zero] at c0 c1
  clear hlv hC hf hV hc0 hb hbm HX0
  unfold codeV at HLV ⊢
  go_enter Tryz.func16, Tryz.ntmps16
  go_wp2_with (first
    | (go_at_call 40
       refine HLV.out.mono ?_
       rintro e w1 ⟨⟨X, Ab, nb, cb, us, vU, vA, vB, gA, gB, ah, be, rfl, hL, hul, hfx⟩, hb1⟩
       have HB1 := Lib.hid (HB0.out.trans (hb1.mono HB0.out.size))
       have HFX := Lib.hid hfx
       have HIV := Lib.hid (intervals_any _ X b Ab nb cb (b.regs.toNat / 64 + 1) b.regs.toNat us vU vA vB gA gB ah be w1 hL hul hfx HCO.out (HDB.out.below hb1 HDB.out.lt) (by have := HR.out.regs; omega) HLB.out HR.out.ne (fun i r hi h => tch_range HR.out hfx hi h) (fun x hx => (HSH.out x hx).2) (Nat.le_trans (itv_len _ _ _ _) (by have := HR.out.regs; omega)))
       clear hL hul hfx hb1 HLV c0 c1)
    | (go_at_call 41
       refine HIV.out.mono ?_
       rintro e w2 ⟨⟨v, rfl, hrow⟩, hb2⟩
       have HROW := Lib.hid (own_low hrow HB1.out.size)
       have HB2 := Lib.hid (HB1.out.trans (hb2.mono HB1.out.size))
       clear hrow hb2 HIV)
    | fail)
  go_ret2
  exact ⟨⟨_, _, _, HFX.out, rfl, HROW.out⟩, HB2.out⟩
end Go.Proofs.YtpahhcmiimllaaaGreatDoor
namespace Go.Proofs.YtpahhcmiimllaaaGreatDoor
open Go.RowKit

/-- what lives tells where it gives no life -/
def errOf (c : CodeL) (k : Int) : Int := if chkC c ≠ 0 then chkC c else if k < 0 ∨ (c.bodies.length : Int) ≤ k then 4 else 0
theorem lives_err (c : CodeL) (A : Option Addr) (n cc : Nat) (k : Int) (w : World) (hC : Bods w A n c.bodies) (hf : FewC c) (hV : VarsR w) (he : errOf c k ≠ 0) :
    Calls Tryz.prog 40 #[codeV c A n cc, .int .i64 k] w fun e w' => e = .returned (.tuple #[.pointer none, .int .i64 (errOf c k)]) ∧ Below w.heap.size w w' := by
  unfold errOf at he ⊢
  by_cases h0 : chkC c ≠ 0
  · rw [if_pos h0]; exact lives_bad c A n cc k w hC hf hV h0
  · rw [if_neg h0] at he ⊢
    by_cases h1 : k < 0 ∨ (c.bodies.length : Int) ≤ k
    · rw [if_pos h1]; exact lives_out c A n cc k w hC hf hV (by omega) h1
    · rw [if_neg h1] at he; exact absurd rfl he
theorem errOf_zero {c : CodeL} {k : Int} (h : errOf c k = 0) : chkC c = 0 ∧ ∃ (i : Nat) (b : BodyL), k = (i : Int) ∧ c.bodies[i]? = some b := by
  unfold errOf at h
  split at h
  · rename_i h0; exact absurd h h0
  · rename_i h0
    split at h
    · cases h
    · rename_i h1
      obtain ⟨i, rfl⟩ : ∃ i : Nat, k = (i : Int) := ⟨k.toNat, by omega⟩
      obtain ⟨b, hb⟩ := get_some (xs := c.bodies) (k := i) (by omega)
      exact ⟨by omega, i, b, rfl, hb⟩
set_option maxRecDepth 100000 in
set_option maxHeartbeats 4000000 in
theorem Intervals_err (c : CodeL) (A : Option Addr) (n cc : Nat) (k : Int) (w : World) (hC : Bods w A n c.bodies) (hf : FewC c) (hV : VarsR w) (he : errOf c k ≠ 0) :
    Calls Tryz.prog 16 #[codeV c A n cc, .int .i64 k] w fun e w' => e = .returned (.tuple #[.slice none 0 0, .int .i64 (errOf c k)]) ∧ Below w.heap.size w w' := by
  have HB0 := Lib.hid ((Below.refl w.heap.size w).alloc (Nat.le_refl _) (.cells #[.int .i64 c.globals, .slice A n cc] 24))
  have HX0 := Lib.hid (BlkAt.new w 24 #[.int .i64 c.globals, .slice A n cc])
  have HLV := Lib.hid (lives_err c A n cc k (w.alloc (.cells #[.int .i64 c.globals, .slice A n cc] 24)) (bods_below hC HB0.out) hf (hV.below HB0.out) he)
  generalize errOf c k = q at *
  have fq : ((q : Int) != 0) = true := by simp; omega
  have c0 := HX0.out.cell 0
  have c1 := HX0.out.cell 1
  simp only [List.getElem?_toArray, List.getElem?_cons_succ, List.getElem?_cons_zero] at c0 c1
  clear hC hf hV he HX0
  unfold codeV at HLV ⊢
  go_enter Tryz.func16, Tryz.ntmps16
  go_wp2_with (first
    | (go_at_call 40
       refine HLV.out.mono ?_
       rintro e w1 ⟨rfl, hb1⟩
       have HB1 := Lib.hid (HB0.out.trans (hb1.mono HB0.out.size))
       clear hb1 HLV c0 c1)
    | fail)
  go_ret2
  exact ⟨rfl, HB1.out⟩
end Go.Proofs.YtpahhcmiimllaaaGreatDoor
