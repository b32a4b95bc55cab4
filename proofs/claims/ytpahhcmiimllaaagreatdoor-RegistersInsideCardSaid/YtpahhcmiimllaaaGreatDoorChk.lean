/- DERIVED. The program's Check of flow code. -/
import Derived.Test.YtpahhcmiimllaaaGreatDoorChk0
set_option linter.unusedSimpArgs false
set_option linter.unusedVariables false
namespace Go.Proofs.YtpahhcmiimllaaaGreatDoor
open Go.RowKit Go.Shelf

theorem all_bodies_iff (c : CodeL) : ∀ (l : List BodyL) (k : Nat), allBodies c k l = true ↔ ∀ (i : Nat) (b : BodyL), l[i]? = some b → bodyOK c (k + i) b = true
  | [], k => by simp [allBodies]
  | a :: l, k => by
    rw [allBodies, Bool.and_eq_true, all_bodies_iff c l (k + 1)]
    constructor
    · rintro ⟨h1, h2⟩ i b hb
      cases i with
      | zero => simp at hb; subst hb; exact h1
      | succ i => rw [show k + (i + 1) = k + 1 + i by omega]; exact h2 i b (by simpa using hb)
    · intro h
      exact ⟨h 0 a rfl, fun i b hb => by rw [show k + 1 + i = k + (i + 1) by omega]; exact h (i + 1) b (by simpa using hb)⟩
theorem totalI_snoc (b : BodyL) : ∀ (l : List BodyL), totalI (l ++ [b]) = totalI l + b.code.length
  | [] => by simp [totalI]
  | a :: l => by rw [List.cons_append, totalI, totalI, totalI_snoc b l]; omega
theorem totalI_le {m : Nat} : ∀ (l : List BodyL), (∀ b ∈ l, b.code.length ≤ m) → totalI l ≤ l.length * m
  | [], _ => by simp [totalI]
  | a :: l, h => by
    have := totalI_le l fun b hb => h b (List.mem_cons_of_mem _ hb)
    have := h a List.mem_cons_self
    rw [totalI, List.length_cons, Nat.succ_mul]; omega
structure FewC (c : CodeL) : Prop where
  nb : c.bodies.length ≤ 1000
  len : ∀ b ∈ c.bodies, b.code.length ≤ 1000
  short : ∀ b ∈ c.bodies, ∀ x ∈ b.code, ShortI x
theorem last_get {l : List InsL} (h : l ≠ []) : ∃ x, l[l.length - 1]? = some x ∧ l.getLast? = some x := by
  have hl := List.length_pos_iff.2 h
  refine ⟨l[l.length - 1]'(by omega), List.getElem?_eq_getElem (by omega), ?_⟩
  rw [List.getLast?_eq_getElem?, List.getElem?_eq_getElem (by omega)]
set_option maxRecDepth 100000 in
set_option maxHeartbeats 16000000 in
theorem chkC_any (c : CodeL) (A : Option Addr) (n cc : Nat) (w : World) (hC : Bods w A n c.bodies) (hf : FewC c) (hV : VarsR w) :
    Calls Tryz.prog 74 #[codeV c A n cc] w fun e w' => e = .returned (.int .i64 (chkC c)) ∧ Below w.heap.size w w' := by
  have HB0 := Lib.hid ((Below.refl w.heap.size w).alloc (Nat.le_refl _) (.cells #[.int .i64 c.globals, .slice A n cc] 24))
  have HX0 := Lib.hid (BlkAt.new w 24 #[.int .i64 c.globals, .slice A n cc])
  obtain ⟨W0, hW0⟩ : ∃ W0, w.alloc (.cells #[.int .i64 c.globals, .slice A n cc] 24) = W0 := ⟨_, rfl⟩
  rw [hW0] at HB0 HX0
  have HC := Lib.hid (bods_below hC HB0.out)
  have HV := Lib.hid (hV.below HB0.out)
  have HF := Lib.hid hf
  have HLN := Lib.hid hC.len
  have hn1 : n ≤ 1000 := by have := hf.nb; have := hC.len; omega
  have HR : Hid (chkC c = if c.bodies = [] ∨ 800 < c.bodies.length ∨ 20000 < totalI c.bodies ∨ c.globals < 0 ∨ 1000 < c.globals then 5 else if c.bodies.any manyRegs then 5 else if allBodies c 0 c.bodies then 0 else 190) := Lib.hid rfl
  generalize chkC c = R at *
  have c0 := HX0.out.cell 0
  have c1 := HX0.out.cell 1
  simp only [List.getElem?_toArray, List.getElem?_cons_succ, List.getElem?_cons_zero] at c0 c1
  clear hC hf hV
  unfold codeV
  go_enter Tryz.func74, Tryz.ntmps74
  go_wp2_with fail
  clear hW0
  go_loopw [3, 12] (fun t a wr => ∃ i : Nat, i ≤ n ∧ a = .int .i64 i ∧ t = .int .i64 (totalI (c.bodies.take i) : Nat) ∧ Hid (Below W0.heap.size W0 wr)) (fun _ a _ => n - (intOf a).toNat)
  case atStart => exact ⟨0, by omega, rfl, rfl, Lib.hid (Below.refl _ _)⟩
  case round =>
    obtain ⟨i, hin, rfl, rfl, HW⟩ := hrel
    by_cases hlt : i < n
    · obtain ⟨x, hx⟩ := get_some (xs := c.bodies) (k := i) (by have := HLN.out; omega)
      obtain ⟨bi, oi, rfl, _, Ax, nx, cx, hxc⟩ := (bods_below HC.out HW.out).at_ i x hx
      have d0 := hxc.c0
      have d1 := hxc.c1
      have d2 := hxc.c2
      have d3 := hxc.c3
      have hcl := hxc.code.len
      have hb1 := HF.out.len x (List.mem_of_getElem? hx)
      have HTN : Hid (totalI (c.bodies.take (i + 1)) = totalI (c.bodies.take i) + nx) := Lib.hid (by rw [List.take_add_one, hx, hcl]; exact totalI_snoc x _)
      have htl := totalI_le (m := 1000) (c.bodies.take i) (fun b hb => HF.out.len b (List.mem_of_mem_take hb))
      rw [List.length_take] at htl
      have hnx : nx ≤ 1000 := by omega
      have hti : totalI (c.bodies.take i) ≤ 1000000 := by
        have : min i c.bodies.length * 1000 ≤ 1000 * 1000 := Nat.mul_le_mul_right _ (by omega)
        omega
      have hk0 : (0 : Int) ≤ (i : Int) := by omega
      have hk1 : (i : Int) < (n : Int) := by omega
      have wr1 : IntKind.i64.wrap ((i : Int) + 1) = (i : Int) + 1 := IntWalk.i64_in _ (by omega)
      have HWA := Lib.hid (HW.out.alloc HW.out.size (.cells #[.string ⟨x.name.toArray⟩, .int .i64 x.regs, .int .i64 x.args, .slice Ax nx cx] 51))
      clear hxc hx hcl hb1 htl
      generalize totalI (c.bodies.take i) = T at *
      have wr2 : IntKind.i64.wrap ((T : Int) + (nx : Int)) = (T : Int) + (nx : Int) := IntWalk.i64_in _ (by omega)
      go_wp2_with fail
      go_roundw
      case rel => exact ⟨i + 1, by omega, by go_num, by rw [HTN.out]; go_num, HWA⟩
      case measure => simp [intOf]; omega
    · obtain rfl : i = n := by omega
      rw [show c.bodies.take i = c.bodies from List.take_of_length_le (by have := HLN.out; omega)]
      have HBW := Lib.hid (HB0.out.trans (HW.out.mono HB0.out.size))
      have HXW := Lib.hid (HX0.out.below HW.out HX0.out.lt)
      have HCW := Lib.hid (bods_below HC.out HW.out)
      have HVW := Lib.hid (HV.out.below HW.out)
      clear c0 c1 hlt HB0 HX0 HC HV HW
      have c0 := HXW.out.cell 0
      have c1 := HXW.out.cell 1
      simp only [List.getElem?_toArray, List.getElem?_cons_succ, List.getElem?_cons_zero] at c0 c1
      have HTE : Hid (totalI c.bodies = totalI c.bodies) := Lib.hid rfl
      have h5 : (i = 0 ∨ 800 < i ∨ 20000 < totalI c.bodies ∨ c.globals < 0 ∨ 1000 < c.globals) → Hid (R = 5) := fun h => Lib.hid (by
        rw [HR.out, if_pos]
        have := HLN.out
        rcases h with h | h
        · left; exact List.length_eq_zero_iff.1 (by omega)
        · right; rw [← HLN.out]; exact h)
      by_cases g1 : i = 0
      · have HR5 := h5 (.inl g1)
        have f1 : ((i : Int) == 0) = true := by simp [g1]
        clear h5 HR g1
        go_wp2_with fail
        go_ret
        exact ⟨ret_int HR5.out.symm, HBW.out⟩
      have f1 : ((i : Int) == 0) = false := by simp [g1]
      by_cases g2 : 800 < i
      · have HR5 := h5 (.inr (.inl g2))
        have f2 : decide ((800 : Int) < (i : Int)) = true := decide_eq_true (by omega)
        clear h5 HR g1 g2
        go_wp2_with fail
        go_ret
        exact ⟨ret_int HR5.out.symm, HBW.out⟩
      have f2 : decide ((800 : Int) < (i : Int)) = false := decide_eq_false (by omega)
      by_cases g3 : 20000 < totalI c.bodies
      · have HR5 := h5 (.inr (.inr (.inl g3)))
        have f3 : decide ((20000 : Int) < (totalI c.bodies : Int)) = true := decide_eq_true (by omega)
        clear h5 HR g1 g2 g3
        go_wp2_with fail
        go_ret
        exact ⟨ret_int HR5.out.symm, HBW.out⟩
      have f3 : decide ((20000 : Int) < (totalI c.bodies : Int)) = false := decide_eq_false (by omega)
      by_cases g4 : c.globals < 0
      · have HR5 := h5 (.inr (.inr (.inr (.inl g4))))
        have f4 : decide (c.globals < 0) = true := decide_eq_true g4
        clear h5 HR g1 g2 g3 g4
        go_wp2_with fail
        go_ret
        exact ⟨ret_int HR5.out.symm, HBW.out⟩
      have f4 : decide (c.globals < 0) = false := decide_eq_false g4
      by_cases g5 : 1000 < c.globals
      · have HR5 := h5 (.inr (.inr (.inr (.inr g5))))
        have f5 : decide (1000 < c.globals) = true := decide_eq_true g5
        clear h5 HR g1 g2 g3 g4 g5
        go_wp2_with fail
        go_ret
        exact ⟨ret_int HR5.out.symm, HBW.out⟩
      have f5 : decide (1000 < c.globals) = false := decide_eq_false g5
      have HR0 : Hid (R = if c.bodies.any manyRegs then 5 else if allBodies c 0 c.bodies then 0 else 190) := Lib.hid (by
        rw [HR.out, if_neg]
        rintro (h | h | h | h | h)
        · have := HLN.out; rw [h] at this; exact g1 (by simpa using this)
        · have := HLN.out; omega
        · exact g3 h
        · exact g4 h
        · exact g5 h)
      have hcf := bodCF_any A i cc c.bodies wr HCW.out (by omega)
      clear h5 HR g1 g2 g3 g4 g5
      cases hmr : c.bodies.any manyRegs with
      | true =>
        rw [hmr] at hcf HR0
        have HR5 : Hid (R = 5) := Lib.hid (by rw [HR0.out, if_pos rfl])
        clear HR0 hmr
        go_wp2_with (go_at_call 37; refine hcf.mono ?_; rintro e w5 ⟨rfl, hb5⟩; have HB5 := Lib.hid (HBW.out.trans (hb5.mono HBW.out.size)); clear hb5 hcf)
        go_ret
        exact ⟨ret_int HR5.out.symm, HB5.out⟩
      | false =>
        rw [hmr] at hcf HR0
        have HR1 : Hid (R = if allBodies c 0 c.bodies then 0 else 190) := Lib.hid (by rw [HR0.out]; simp)
        clear HR0 hmr
        obtain ⟨wo, hwo⟩ : ∃ wo : World, wo = wr := ⟨_, rfl⟩
        subst hwo
        go_wp2_with (go_at_call 37
                     refine hcf.mono ?_
                     rintro e w5 ⟨rfl, hb5⟩
                     have HB5 := Lib.hid (HBW.out.trans (hb5.mono HBW.out.size))
                     have HX5 := Lib.hid (HXW.out.below hb5 HXW.out.lt)
                     have HC5 := Lib.hid (bods_below HCW.out hb5)
                     have HV5 := Lib.hid (HVW.out.below hb5)
                     clear c0 c1
                     have c0 := HX5.out.cell 0
                     have c1 := HX5.out.cell 1
                     simp only [List.getElem?_toArray, List.getElem?_cons_succ, List.getElem?_cons_zero] at c0 c1
                     clear hb5 hcf)
        clear f1 f2 f3 f4 f5 HXW HCW HVW HBW
        go_loopw [54] (fun a wr => ∃ k : Nat, k ≤ i ∧ a = .int .i64 k ∧ Hid (∀ j b, j < k → c.bodies[j]? = some b → bodyOK c j b = true) ∧ Hid (Below w5.heap.size w5 wr)) (fun a _ => i - (intOf a).toNat)
        case atStart => exact ⟨0, by omega, rfl, Lib.hid (fun j b hj => by omega), Lib.hid (Below.refl _ _)⟩
        case round =>
          obtain ⟨k, hki, rfl, HK, HW⟩ := hrel
          have HBK := Lib.hid (HB5.out.trans (HW.out.mono HB5.out.size))
          by_cases hlt : k < i
          · obtain ⟨x, hx⟩ := get_some (xs := c.bodies) (k := k) (by have := HLN.out; omega)
            obtain ⟨bi, oi, hAe, _, Ax, nx, cx, hxc⟩ := (bods_below HC5.out HW.out).at_ k x hx
            have HCK := Lib.hid (bods_below HC5.out HW.out)
            have HVK := Lib.hid (HV5.out.below HW.out)
            have HXK := Lib.hid (HX5.out.below HW.out HX5.out.lt)
            subst hAe
            have d0 := hxc.c0
            have d1 := hxc.c1
            have d2 := hxc.c2
            have d3 := hxc.c3
            have HCD := Lib.hid hxc.code
            have HCL := Lib.hid hxc.code.len
            have hb1 := HF.out.len x (List.mem_of_getElem? hx)
            have HSH := Lib.hid (HF.out.short x (List.mem_of_getElem? hx))
            have HBAD : Hid (bodyOK c k x = false → R = 190) := Lib.hid (fun h => by
              rw [HR1.out, if_neg]
              intro hall
              have := (all_bodies_iff c c.bodies 0).1 hall k x hx
              rw [Nat.zero_add, h] at this; cases this)
            have HGO : Hid (bodyOK c k x = true → ∀ j b, j < k + 1 → c.bodies[j]? = some b → bodyOK c j b = true) := Lib.hid (fun h j b hj hb => by
              by_cases e : j = k
              · subst e; rw [hx] at hb; cases hb; exact h
              · exact HK.out j b (by omega) hb)
            have HOKE : Hid (bodyOK c k x = (namedB x.name && decide (0 ≤ x.args) && decide (x.args ≤ x.regs) && !(decide (k = 0) && decide (0 < x.args)) && decide (x.code ≠ []) && (decide (lastOp x = 22) || decide (lastOp x = 19)) && x.code.all (insOK c x))) := Lib.hid rfl
            generalize bodyOK c k x = OKB at *
            have hk0 : (0 : Int) ≤ (k : Int) := by omega
            have hk1 : (k : Int) < (i : Int) := by omega
            have wr1 : IntKind.i64.wrap ((k : Int) + 1) = (k : Int) + 1 := IntWalk.i64_in _ (by omega)
            have HKA := Lib.hid (HBK.out.alloc HBK.out.size (.cells #[.string ⟨x.name.toArray⟩, .int .i64 x.regs, .int .i64 x.args, .slice Ax nx cx] 51))
            have HWA := Lib.hid (HW.out.alloc HW.out.size (.cells #[.string ⟨x.name.toArray⟩, .int .i64 x.regs, .int .i64 x.args, .slice Ax nx cx] 51))
            have HT0 := Lib.hid (BlkAt.new wr 51 #[.string ⟨x.name.toArray⟩, .int .i64 x.regs, .int .i64 x.args, .slice Ax nx cx])
            have hnm := named_any x.name (wr.alloc (.cells #[.string ⟨x.name.toArray⟩, .int .i64 x.regs, .int .i64 x.args, .slice Ax nx cx] 51))
            clear hxc hx
            cases hnb : namedB x.name with
            | false =>
              rw [hnb] at hnm HOKE
              have HBAD2 : Hid (R = 190) := Lib.hid (HBAD.out (by rw [HOKE.out]; rfl))
              clear hnb HBAD HGO HOKE
              go_wp2_with (first
                |
                  (go_at_call 101
                   refine hnm.mono ?_
                   rintro e w5 ⟨rfl, hb5⟩
                   have HB5 := Lib.hid (HKA.out.trans (hb5.mono HKA.out.size))
                   have HT5 := Lib.hid (HT0.out.below hb5 HT0.out.lt)
                   clear d0 d1 d2 d3
                   have d0 := HT5.out.cell 0
                   have d1 := HT5.out.cell 1
                   have d2 := HT5.out.cell 2
                   have d3 := HT5.out.cell 3
                   simp only [List.getElem?_toArray, List.getElem?_cons_succ, List.getElem?_cons_zero] at d0 d1 d2 d3
                   have HO5 := Lib.hid hb5
                   clear hb5 hnm)
                | fail)
              go_ret
              exact ⟨ret_int HBAD2.out.symm, HB5.out⟩
            | true =>
              rw [hnb] at hnm HOKE
              clear hnb
              have HIFF : Hid (OKB = true ↔ (0 ≤ x.args ∧ x.args ≤ x.regs ∧ ¬ (k = 0 ∧ 0 < x.args) ∧ x.code ≠ [] ∧ (lastOp x = 22 ∨ lastOp x = 19) ∧ x.code.all (insOK c x) = true)) := Lib.hid (by
                rw [HOKE.out]
                simp only [Bool.and_eq_true, Bool.or_eq_true, decide_eq_true_eq, Bool.not_eq_true', Bool.and_eq_false_iff, decide_eq_false_iff_not, Bool.true_and, and_assoc]
                constructor
                · rintro ⟨h1, h2, h3, h4, h5, h6⟩
                  exact ⟨h1, h2, fun h => by rcases h3 with h3 | h3 <;> omega, h4, h5, h6⟩
                · rintro ⟨h1, h2, h3, h4, h5, h6⟩
                  refine ⟨h1, h2, ?_, h4, h5, h6⟩
                  by_cases e : k = 0
                  · exact .inr (fun h => h3 ⟨e, h⟩)
                  · exact .inl e)
              clear HOKE
              have HBD : Hid (¬ (0 ≤ x.args ∧ x.args ≤ x.regs ∧ ¬ (k = 0 ∧ 0 < x.args) ∧ x.code ≠ [] ∧ (lastOp x = 22 ∨ lastOp x = 19) ∧ x.code.all (insOK c x) = true) → Hid (R = 190)) := Lib.hid (fun h => Lib.hid (HBAD.out (by
                cases hb : OKB with
                | false => rfl
                | true => exact absurd (HIFF.out.1 hb) h)))
              have HWR := Lib.hid ((Below.refl wr.heap.size wr).alloc (Nat.le_refl _) (.cells #[.string ⟨x.name.toArray⟩, .int .i64 x.regs, .int .i64 x.args, .slice Ax nx cx] 51))
              have HINS : Hid (∀ W, Below (wr.alloc (.cells #[.string ⟨x.name.toArray⟩, .int .i64 x.regs, .int .i64 x.args, .slice Ax nx cx] 51)).heap.size (wr.alloc (.cells #[.string ⟨x.name.toArray⟩, .int .i64 x.regs, .int .i64 x.args, .slice Ax nx cx] 51)) W → Calls Tryz.prog 71 #[.slice Ax nx cx, .func (.func 102) #[] #[.pointer (some ⟨w.heap.size, 0, none⟩), .pointer (some ⟨wr.heap.size, 0, none⟩)]] W fun e w' => e = .returned (.bool (!x.code.all (insOK c x))) ∧ Below W.heap.size W w') := Lib.hid (fun W hW => by
                have hbw := HWR.out.trans (hW.mono HWR.out.size)
                exact insCF_any c x _ i cc Ax nx cx w.heap.size wr.heap.size nx cx W ⟨HXK.out.below hbw HXK.out.lt, HT0.out.below hW HT0.out.lt, HLN.out, HCL.out⟩ (bods_below HCK.out hbw) (inss_below HCD.out hbw) (by have := HCL.out; omega) HSH.out (HVK.out.below hbw))
              by_cases g1 : x.args < 0
              · have f1 : decide (x.args < 0) = true := decide_eq_true g1
                have HBAD2 := HBD.out (fun h => by omega)
                clear HBD HBAD HGO HIFF HINS
                go_wp2_with (first
                  |
                    (go_at_call 101
                     refine hnm.mono ?_
                     rintro e w6 ⟨rfl, hb6⟩
                     have HB6 := Lib.hid (HKA.out.trans (hb6.mono HKA.out.size))
                     have HT6 := Lib.hid (HT0.out.below hb6 HT0.out.lt)
                     have HO6 := Lib.hid hb6
                     clear d0 d1 d2 d3
                     have d0 := HT6.out.cell 0
                     have d1 := HT6.out.cell 1
                     have d2 := HT6.out.cell 2
                     have d3 := HT6.out.cell 3
                     simp only [List.getElem?_toArray, List.getElem?_cons_succ, List.getElem?_cons_zero] at d0 d1 d2 d3
                     clear hb6 hnm)
                  | fail)
                go_ret
                exact ⟨ret_int HBAD2.out.symm, HB6.out⟩
              have f1 : decide (x.args < 0) = false := decide_eq_false g1
              by_cases g2 : x.regs < x.args
              · have f2 : decide (x.regs < x.args) = true := decide_eq_true g2
                have HBAD2 := HBD.out (fun h => by omega)
                clear HBD HBAD HGO HIFF HINS
                go_wp2_with (first
                  |
                    (go_at_call 101
                     refine hnm.mono ?_
                     rintro e w6 ⟨rfl, hb6⟩
                     have HB6 := Lib.hid (HKA.out.trans (hb6.mono HKA.out.size))
                     have HT6 := Lib.hid (HT0.out.below hb6 HT0.out.lt)
                     have HO6 := Lib.hid hb6
                     clear d0 d1 d2 d3
                     have d0 := HT6.out.cell 0
                     have d1 := HT6.out.cell 1
                     have d2 := HT6.out.cell 2
                     have d3 := HT6.out.cell 3
                     simp only [List.getElem?_toArray, List.getElem?_cons_succ, List.getElem?_cons_zero] at d0 d1 d2 d3
                     clear hb6 hnm)
                  | fail)
                go_ret
                exact ⟨ret_int HBAD2.out.symm, HB6.out⟩
              have f2 : decide (x.regs < x.args) = false := decide_eq_false g2
              have hC3 : (k = 0 ∧ 0 < x.args) ∨ k ≠ 0 ∨ (k = 0 ∧ ¬ 0 < x.args) := by omega
              rcases hC3 with ⟨g3, g4⟩ | hC3
              · have f3 : ((k : Int) == 0) = true := by simp [g3]
                have f4 : decide (0 < x.args) = true := decide_eq_true g4
                have HE : Hid (k = 0 ∧ 0 < x.args) := Lib.hid ⟨g3, g4⟩
                clear g3 g4
                have HBAD2 := HBD.out (fun h => h.2.2.1 HE.out)
                clear HBD HBAD HGO HIFF HINS
                go_wp2_with (first
                  |
                    (go_at_call 101
                     refine hnm.mono ?_
                     rintro e w6 ⟨rfl, hb6⟩
                     have HB6 := Lib.hid (HKA.out.trans (hb6.mono HKA.out.size))
                     have HT6 := Lib.hid (HT0.out.below hb6 HT0.out.lt)
                     have HO6 := Lib.hid hb6
                     clear d0 d1 d2 d3
                     have d0 := HT6.out.cell 0
                     have d1 := HT6.out.cell 1
                     have d2 := HT6.out.cell 2
                     have d3 := HT6.out.cell 3
                     simp only [List.getElem?_toArray, List.getElem?_cons_succ, List.getElem?_cons_zero] at d0 d1 d2 d3
                     clear hb6 hnm)
                  | fail)
                go_ret
                exact ⟨ret_int HBAD2.out.symm, HB6.out⟩
              have HG3 : Hid (¬ (k = 0 ∧ 0 < x.args)) := Lib.hid (by omega)
              by_cases g5 : nx = 0
              · have f5 : ((nx : Int) == 0) = true := by simp [g5]
                have HE : Hid (x.code = []) := Lib.hid (List.length_eq_zero_iff.1 (by have := HCL.out; omega))
                clear g5
                rcases hC3 with g3 | ⟨g3, g4⟩
                · have f3 : ((k : Int) == 0) = false := by simp [g3]
                  have HBAD2 := HBD.out (fun h => h.2.2.2.1 HE.out)
                  clear HBD HBAD HGO HIFF HINS
                  go_wp2_with (first
                    |
                      (go_at_call 101
                       refine hnm.mono ?_
                       rintro e w6 ⟨rfl, hb6⟩
                       have HB6 := Lib.hid (HKA.out.trans (hb6.mono HKA.out.size))
                       have HT6 := Lib.hid (HT0.out.below hb6 HT0.out.lt)
                       have HO6 := Lib.hid hb6
                       clear d0 d1 d2 d3
                       have d0 := HT6.out.cell 0
                       have d1 := HT6.out.cell 1
                       have d2 := HT6.out.cell 2
                       have d3 := HT6.out.cell 3
                       simp only [List.getElem?_toArray, List.getElem?_cons_succ, List.getElem?_cons_zero] at d0 d1 d2 d3
                       clear hb6 hnm)
                    | fail)
                  go_ret
                  exact ⟨ret_int HBAD2.out.symm, HB6.out⟩
                · have f3 : ((k : Int) == 0) = true := by simp [g3]
                  have f4 : decide (0 < x.args) = false := decide_eq_false g4
                  clear g3
                  have HBAD2 := HBD.out (fun h => h.2.2.2.1 HE.out)
                  clear HBD HBAD HGO HIFF HINS
                  go_wp2_with (first
                    |
                      (go_at_call 101
                       refine hnm.mono ?_
                       rintro e w6 ⟨rfl, hb6⟩
                       have HB6 := Lib.hid (HKA.out.trans (hb6.mono HKA.out.size))
                       have HT6 := Lib.hid (HT0.out.below hb6 HT0.out.lt)
                       have HO6 := Lib.hid hb6
                       clear d0 d1 d2 d3
                       have d0 := HT6.out.cell 0
                       have d1 := HT6.out.cell 1
                       have d2 := HT6.out.cell 2
                       have d3 := HT6.out.cell 3
                       simp only [List.getElem?_toArray, List.getElem?_cons_succ, List.getElem?_cons_zero] at d0 d1 d2 d3
                       clear hb6 hnm)
                    | fail)
                  go_ret
                  exact ⟨ret_int HBAD2.out.symm, HB6.out⟩
              have f5 : ((nx : Int) == 0) = false := by simp [g5]
              have HNE : Hid (x.code ≠ []) := Lib.hid (by rw [← List.length_pos_iff]; have := HCL.out; omega)
              have HA1 : Hid (0 ≤ x.args) := Lib.hid (by omega)
              have HA2 : Hid (x.args ≤ x.regs) := Lib.hid (by omega)
              clear g1 g2 g5
              rcases hC3 with g3 | ⟨g3, g4⟩
              · have f3 : ((k : Int) == 0) = false := by simp [g3]
                clear g3
                obtain ⟨y, hy, hyl⟩ := last_get HNE.out
                have HLO : Hid (lastOp x = y.op) := Lib.hid (by unfold lastOp; rw [hyl]; rfl)
                obtain ⟨b7, o7, hA7, _, A7, n7, c7, hyc⟩ := HCD.out.at_ _ y hy
                subst hA7
                obtain ⟨m, hm⟩ : ∃ m, m = x.code.length - 1 := ⟨_, rfl⟩
                rw [← hm] at hyc
                have HY0 := Lib.hid hyc.c0
                have wr7 : IntKind.i64.wrap ((nx : Int) - 1) = (m : Int) := by
                  have := HCL.out
                  have := List.length_pos_iff.2 HNE.out
                  rw [IntWalk.i64_in _ (by omega)]
                  omega
                have hm0 : (0 : Int) ≤ (m : Int) := by omega
                have hm1 : (m : Int) < (nx : Int) := by
                  have := HCL.out
                  have := List.length_pos_iff.2 HNE.out
                  omega
                clear hy hyl hyc hm
                by_cases p1 : y.op = 22
                · rw [p1] at HY0
                  have HOP : Hid (lastOp x = 22 ∨ lastOp x = 19) := Lib.hid (.inl (by rw [HLO.out, p1]))
                  clear p1
                  cases hal : x.code.all (insOK c x) with
                  | false =>
                    rw [hal] at HINS
                    have HBAD2 := HBD.out (fun h => by rw [hal] at h; cases h.2.2.2.2.2)
                    clear HBD HBAD HGO HIFF hal
                    go_wp2_with (first
                      |
                        (go_at_call 101
                         refine hnm.mono ?_
                         rintro e w6 ⟨rfl, hb6⟩
                         have HB6 := Lib.hid (HKA.out.trans (hb6.mono HKA.out.size))
                         have HT6 := Lib.hid (HT0.out.below hb6 HT0.out.lt)
                         have HO6 := Lib.hid hb6
                         have e0 := cell_below (HWR.out.trans (hb6.mono HWR.out.size)) (Nat.le_refl _) HY0.out
                         clear d0 d1 d2 d3
                         have d0 := HT6.out.cell 0
                         have d1 := HT6.out.cell 1
                         have d2 := HT6.out.cell 2
                         have d3 := HT6.out.cell 3
                         simp only [List.getElem?_toArray, List.getElem?_cons_succ, List.getElem?_cons_zero] at d0 d1 d2 d3
                         clear hb6 hnm)
                      |
                        (go_at_call 71
                         refine (HINS.out w6 HO6.out).mono ?_
                         rintro e w7 ⟨rfl, hb7⟩
                         have HB7 := Lib.hid (HB6.out.trans (hb7.mono HB6.out.size))
                         have HO7 := Lib.hid (HO6.out.trans (hb7.mono HO6.out.size))
                         clear hb7)
                      | fail)
                    go_ret
                    exact ⟨ret_int HBAD2.out.symm, HB7.out⟩
                  | true =>
                    rw [hal] at HINS
                    have HG7 := Lib.hid (HGO.out (HIFF.out.2 ⟨HA1.out, HA2.out, HG3.out, HNE.out, HOP.out, hal⟩))
                    clear HBD HBAD HGO HIFF hal
                    go_wp2_with (first
                      |
                        (go_at_call 101
                         refine hnm.mono ?_
                         rintro e w6 ⟨rfl, hb6⟩
                         have HB6 := Lib.hid (HKA.out.trans (hb6.mono HKA.out.size))
                         have HT6 := Lib.hid (HT0.out.below hb6 HT0.out.lt)
                         have HO6 := Lib.hid hb6
                         have e0 := cell_below (HWR.out.trans (hb6.mono HWR.out.size)) (Nat.le_refl _) HY0.out
                         clear d0 d1 d2 d3
                         have d0 := HT6.out.cell 0
                         have d1 := HT6.out.cell 1
                         have d2 := HT6.out.cell 2
                         have d3 := HT6.out.cell 3
                         simp only [List.getElem?_toArray, List.getElem?_cons_succ, List.getElem?_cons_zero] at d0 d1 d2 d3
                         clear hb6 hnm)
                      |
                        (go_at_call 71
                         refine (HINS.out w6 HO6.out).mono ?_
                         rintro e w7 ⟨rfl, hb7⟩
                         have HB7 := Lib.hid (HB6.out.trans (hb7.mono HB6.out.size))
                         have HO7 := Lib.hid (HO6.out.trans (hb7.mono HO6.out.size))
                         clear hb7)
                      | fail)
                    go_roundw
                    case rel => exact ⟨k + 1, by omega, by go_num, HG7, Lib.hid (HWA.out.trans (HO7.out.mono HWA.out.size))⟩
                    case measure => simp [intOf]; omega
                by_cases p2 : y.op = 19
                · rw [p2] at HY0
                  have HOP : Hid (lastOp x = 22 ∨ lastOp x = 19) := Lib.hid (.inr (by rw [HLO.out, p2]))
                  clear p1 p2
                  cases hal : x.code.all (insOK c x) with
                  | false =>
                    rw [hal] at HINS
                    have HBAD2 := HBD.out (fun h => by rw [hal] at h; cases h.2.2.2.2.2)
                    clear HBD HBAD HGO HIFF hal
                    go_wp2_with (first
                      |
                        (go_at_call 101
                         refine hnm.mono ?_
                         rintro e w6 ⟨rfl, hb6⟩
                         have HB6 := Lib.hid (HKA.out.trans (hb6.mono HKA.out.size))
                         have HT6 := Lib.hid (HT0.out.below hb6 HT0.out.lt)
                         have HO6 := Lib.hid hb6
                         have e0 := cell_below (HWR.out.trans (hb6.mono HWR.out.size)) (Nat.le_refl _) HY0.out
                         clear d0 d1 d2 d3
                         have d0 := HT6.out.cell 0
                         have d1 := HT6.out.cell 1
                         have d2 := HT6.out.cell 2
                         have d3 := HT6.out.cell 3
                         simp only [List.getElem?_toArray, List.getElem?_cons_succ, List.getElem?_cons_zero] at d0 d1 d2 d3
                         clear hb6 hnm)
                      |
                        (go_at_call 71
                         refine (HINS.out w6 HO6.out).mono ?_
                         rintro e w7 ⟨rfl, hb7⟩
                         have HB7 := Lib.hid (HB6.out.trans (hb7.mono HB6.out.size))
                         have HO7 := Lib.hid (HO6.out.trans (hb7.mono HO6.out.size))
                         clear hb7)
                      | fail)
                    go_ret
                    exact ⟨ret_int HBAD2.out.symm, HB7.out⟩
                  | true =>
                    rw [hal] at HINS
                    have HG7 := Lib.hid (HGO.out (HIFF.out.2 ⟨HA1.out, HA2.out, HG3.out, HNE.out, HOP.out, hal⟩))
                    clear HBD HBAD HGO HIFF hal
                    go_wp2_with (first
                      |
                        (go_at_call 101
                         refine hnm.mono ?_
                         rintro e w6 ⟨rfl, hb6⟩
                         have HB6 := Lib.hid (HKA.out.trans (hb6.mono HKA.out.size))
                         have HT6 := Lib.hid (HT0.out.below hb6 HT0.out.lt)
                         have HO6 := Lib.hid hb6
                         have e0 := cell_below (HWR.out.trans (hb6.mono HWR.out.size)) (Nat.le_refl _) HY0.out
                         clear d0 d1 d2 d3
                         have d0 := HT6.out.cell 0
                         have d1 := HT6.out.cell 1
                         have d2 := HT6.out.cell 2
                         have d3 := HT6.out.cell 3
                         simp only [List.getElem?_toArray, List.getElem?_cons_succ, List.getElem?_cons_zero] at d0 d1 d2 d3
                         clear hb6 hnm)
                      |
                        (go_at_call 71
                         refine (HINS.out w6 HO6.out).mono ?_
                         rintro e w7 ⟨rfl, hb7⟩
                         have HB7 := Lib.hid (HB6.out.trans (hb7.mono HB6.out.size))
                         have HO7 := Lib.hid (HO6.out.trans (hb7.mono HO6.out.size))
                         clear hb7)
                      | fail)
                    go_roundw
                    case rel => exact ⟨k + 1, by omega, by go_num, HG7, Lib.hid (HWA.out.trans (HO7.out.mono HWA.out.size))⟩
                    case measure => simp [intOf]; omega
                have f6 : (y.op != 22) = true := by simp [p1]
                have f7 : (y.op != 19) = true := by simp [p2]
                have HBAD2 := HBD.out (fun h => h.2.2.2.2.1.elim (fun q => p1 (HLO.out.symm.trans q)) (fun q => p2 (HLO.out.symm.trans q)))
                clear HBD HBAD HGO HIFF HINS
                go_wp2_with (first
                  |
                    (go_at_call 101
                     refine hnm.mono ?_
                     rintro e w6 ⟨rfl, hb6⟩
                     have HB6 := Lib.hid (HKA.out.trans (hb6.mono HKA.out.size))
                     have HT6 := Lib.hid (HT0.out.below hb6 HT0.out.lt)
                     have HO6 := Lib.hid hb6
                     have e0 := cell_below (HWR.out.trans (hb6.mono HWR.out.size)) (Nat.le_refl _) HY0.out
                     clear d0 d1 d2 d3
                     have d0 := HT6.out.cell 0
                     have d1 := HT6.out.cell 1
                     have d2 := HT6.out.cell 2
                     have d3 := HT6.out.cell 3
                     simp only [List.getElem?_toArray, List.getElem?_cons_succ, List.getElem?_cons_zero] at d0 d1 d2 d3
                     clear hb6 hnm)
                  | fail)
                go_ret
                exact ⟨ret_int HBAD2.out.symm, HB6.out⟩
              · have f3 : ((k : Int) == 0) = true := by simp [g3]
                have f4 : decide (0 < x.args) = false := decide_eq_false g4
                clear g3 g4
                obtain ⟨y, hy, hyl⟩ := last_get HNE.out
                have HLO : Hid (lastOp x = y.op) := Lib.hid (by unfold lastOp; rw [hyl]; rfl)
                obtain ⟨b7, o7, hA7, _, A7, n7, c7, hyc⟩ := HCD.out.at_ _ y hy
                subst hA7
                obtain ⟨m, hm⟩ : ∃ m, m = x.code.length - 1 := ⟨_, rfl⟩
                rw [← hm] at hyc
                have HY0 := Lib.hid hyc.c0
                have wr7 : IntKind.i64.wrap ((nx : Int) - 1) = (m : Int) := by
                  have := HCL.out
                  have := List.length_pos_iff.2 HNE.out
                  rw [IntWalk.i64_in _ (by omega)]
                  omega
                have hm0 : (0 : Int) ≤ (m : Int) := by omega
                have hm1 : (m : Int) < (nx : Int) := by
                  have := HCL.out
                  have := List.length_pos_iff.2 HNE.out
                  omega
                clear hy hyl hyc hm
                by_cases p1 : y.op = 22
                · rw [p1] at HY0
                  have HOP : Hid (lastOp x = 22 ∨ lastOp x = 19) := Lib.hid (.inl (by rw [HLO.out, p1]))
                  clear p1
                  cases hal : x.code.all (insOK c x) with
                  | false =>
                    rw [hal] at HINS
                    have HBAD2 := HBD.out (fun h => by rw [hal] at h; cases h.2.2.2.2.2)
                    clear HBD HBAD HGO HIFF hal
                    go_wp2_with (first
                      |
                        (go_at_call 101
                         refine hnm.mono ?_
                         rintro e w6 ⟨rfl, hb6⟩
                         have HB6 := Lib.hid (HKA.out.trans (hb6.mono HKA.out.size))
                         have HT6 := Lib.hid (HT0.out.below hb6 HT0.out.lt)
                         have HO6 := Lib.hid hb6
                         have e0 := cell_below (HWR.out.trans (hb6.mono HWR.out.size)) (Nat.le_refl _) HY0.out
                         clear d0 d1 d2 d3
                         have d0 := HT6.out.cell 0
                         have d1 := HT6.out.cell 1
                         have d2 := HT6.out.cell 2
                         have d3 := HT6.out.cell 3
                         simp only [List.getElem?_toArray, List.getElem?_cons_succ, List.getElem?_cons_zero] at d0 d1 d2 d3
                         clear hb6 hnm)
                      |
                        (go_at_call 71
                         refine (HINS.out w6 HO6.out).mono ?_
                         rintro e w7 ⟨rfl, hb7⟩
                         have HB7 := Lib.hid (HB6.out.trans (hb7.mono HB6.out.size))
                         have HO7 := Lib.hid (HO6.out.trans (hb7.mono HO6.out.size))
                         clear hb7)
                      | fail)
                    go_ret
                    exact ⟨ret_int HBAD2.out.symm, HB7.out⟩
                  | true =>
                    rw [hal] at HINS
                    have HG7 := Lib.hid (HGO.out (HIFF.out.2 ⟨HA1.out, HA2.out, HG3.out, HNE.out, HOP.out, hal⟩))
                    clear HBD HBAD HGO HIFF hal
                    go_wp2_with (first
                      |
                        (go_at_call 101
                         refine hnm.mono ?_
                         rintro e w6 ⟨rfl, hb6⟩
                         have HB6 := Lib.hid (HKA.out.trans (hb6.mono HKA.out.size))
                         have HT6 := Lib.hid (HT0.out.below hb6 HT0.out.lt)
                         have HO6 := Lib.hid hb6
                         have e0 := cell_below (HWR.out.trans (hb6.mono HWR.out.size)) (Nat.le_refl _) HY0.out
                         clear d0 d1 d2 d3
                         have d0 := HT6.out.cell 0
                         have d1 := HT6.out.cell 1
                         have d2 := HT6.out.cell 2
                         have d3 := HT6.out.cell 3
                         simp only [List.getElem?_toArray, List.getElem?_cons_succ, List.getElem?_cons_zero] at d0 d1 d2 d3
                         clear hb6 hnm)
                      |
                        (go_at_call 71
                         refine (HINS.out w6 HO6.out).mono ?_
                         rintro e w7 ⟨rfl, hb7⟩
                         have HB7 := Lib.hid (HB6.out.trans (hb7.mono HB6.out.size))
                         have HO7 := Lib.hid (HO6.out.trans (hb7.mono HO6.out.size))
                         clear hb7)
                      | fail)
                    go_roundw
                    case rel => exact ⟨k + 1, by omega, by go_num, HG7, Lib.hid (HWA.out.trans (HO7.out.mono HWA.out.size))⟩
                    case measure => simp [intOf]; omega
                by_cases p2 : y.op = 19
                · rw [p2] at HY0
                  have HOP : Hid (lastOp x = 22 ∨ lastOp x = 19) := Lib.hid (.inr (by rw [HLO.out, p2]))
                  clear p1 p2
                  cases hal : x.code.all (insOK c x) with
                  | false =>
                    rw [hal] at HINS
                    have HBAD2 := HBD.out (fun h => by rw [hal] at h; cases h.2.2.2.2.2)
                    clear HBD HBAD HGO HIFF hal
                    go_wp2_with (first
                      |
                        (go_at_call 101
                         refine hnm.mono ?_
                         rintro e w6 ⟨rfl, hb6⟩
                         have HB6 := Lib.hid (HKA.out.trans (hb6.mono HKA.out.size))
                         have HT6 := Lib.hid (HT0.out.below hb6 HT0.out.lt)
                         have HO6 := Lib.hid hb6
                         have e0 := cell_below (HWR.out.trans (hb6.mono HWR.out.size)) (Nat.le_refl _) HY0.out
                         clear d0 d1 d2 d3
                         have d0 := HT6.out.cell 0
                         have d1 := HT6.out.cell 1
                         have d2 := HT6.out.cell 2
                         have d3 := HT6.out.cell 3
                         simp only [List.getElem?_toArray, List.getElem?_cons_succ, List.getElem?_cons_zero] at d0 d1 d2 d3
                         clear hb6 hnm)
                      |
                        (go_at_call 71
                         refine (HINS.out w6 HO6.out).mono ?_
                         rintro e w7 ⟨rfl, hb7⟩
                         have HB7 := Lib.hid (HB6.out.trans (hb7.mono HB6.out.size))
                         have HO7 := Lib.hid (HO6.out.trans (hb7.mono HO6.out.size))
                         clear hb7)
                      | fail)
                    go_ret
                    exact ⟨ret_int HBAD2.out.symm, HB7.out⟩
                  | true =>
                    rw [hal] at HINS
                    have HG7 := Lib.hid (HGO.out (HIFF.out.2 ⟨HA1.out, HA2.out, HG3.out, HNE.out, HOP.out, hal⟩))
                    clear HBD HBAD HGO HIFF hal
                    go_wp2_with (first
                      |
                        (go_at_call 101
                         refine hnm.mono ?_
                         rintro e w6 ⟨rfl, hb6⟩
                         have HB6 := Lib.hid (HKA.out.trans (hb6.mono HKA.out.size))
                         have HT6 := Lib.hid (HT0.out.below hb6 HT0.out.lt)
                         have HO6 := Lib.hid hb6
                         have e0 := cell_below (HWR.out.trans (hb6.mono HWR.out.size)) (Nat.le_refl _) HY0.out
                         clear d0 d1 d2 d3
                         have d0 := HT6.out.cell 0
                         have d1 := HT6.out.cell 1
                         have d2 := HT6.out.cell 2
                         have d3 := HT6.out.cell 3
                         simp only [List.getElem?_toArray, List.getElem?_cons_succ, List.getElem?_cons_zero] at d0 d1 d2 d3
                         clear hb6 hnm)
                      |
                        (go_at_call 71
                         refine (HINS.out w6 HO6.out).mono ?_
                         rintro e w7 ⟨rfl, hb7⟩
                         have HB7 := Lib.hid (HB6.out.trans (hb7.mono HB6.out.size))
                         have HO7 := Lib.hid (HO6.out.trans (hb7.mono HO6.out.size))
                         clear hb7)
                      | fail)
                    go_roundw
                    case rel => exact ⟨k + 1, by omega, by go_num, HG7, Lib.hid (HWA.out.trans (HO7.out.mono HWA.out.size))⟩
                    case measure => simp [intOf]; omega
                have f6 : (y.op != 22) = true := by simp [p1]
                have f7 : (y.op != 19) = true := by simp [p2]
                have HBAD2 := HBD.out (fun h => h.2.2.2.2.1.elim (fun q => p1 (HLO.out.symm.trans q)) (fun q => p2 (HLO.out.symm.trans q)))
                clear HBD HBAD HGO HIFF HINS
                go_wp2_with (first
                  |
                    (go_at_call 101
                     refine hnm.mono ?_
                     rintro e w6 ⟨rfl, hb6⟩
                     have HB6 := Lib.hid (HKA.out.trans (hb6.mono HKA.out.size))
                     have HT6 := Lib.hid (HT0.out.below hb6 HT0.out.lt)
                     have HO6 := Lib.hid hb6
                     have e0 := cell_below (HWR.out.trans (hb6.mono HWR.out.size)) (Nat.le_refl _) HY0.out
                     clear d0 d1 d2 d3
                     have d0 := HT6.out.cell 0
                     have d1 := HT6.out.cell 1
                     have d2 := HT6.out.cell 2
                     have d3 := HT6.out.cell 3
                     simp only [List.getElem?_toArray, List.getElem?_cons_succ, List.getElem?_cons_zero] at d0 d1 d2 d3
                     clear hb6 hnm)
                  | fail)
                go_ret
                exact ⟨ret_int HBAD2.out.symm, HB6.out⟩
          · obtain rfl : k = i := by omega
            have HALL : Hid (R = 0) := Lib.hid (by
              rw [HR1.out, if_pos]
              exact (all_bodies_iff c c.bodies 0).2 (fun j b hb => by
                rw [Nat.zero_add]
                exact HK.out j b (by have := (List.getElem?_eq_some_iff.1 hb).1; have := HLN.out; omega) hb))
            go_wp2_with fail
            go_ret
            exact ⟨ret_int HALL.out.symm, HBK.out⟩
end Go.Proofs.YtpahhcmiimllaaaGreatDoor
