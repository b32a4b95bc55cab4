/- DERIVED. The program's right: is an instruction right? -/
import Derived.Test.YtpahhcmiimllaaaGreatDoorVarR
import Derived.Test.YtpahhcmiimllaaaGreatDoorHeldL
import Derived.Lib.QuietBelow
set_option linter.unusedSimpArgs false
set_option linter.unusedVariables false
namespace Go.Proofs.YtpahhcmiimllaaaGreatDoor
open Go.RowKit Go.Shelf Go.Sort

theorem two_sz (w : World) : (sizeOf 103).run Tryz.prog w = .ok 2 w := Tryz.sizeOf103 w
theorem two_agg (w : World) : (isAgg 103).run Tryz.prog w = .ok true w := Tryz.isAgg103 w
theorem four_at (cs : Array Value) (k : Nat) (hk : k < 4) (W : World) : (Instr.index 104 (.agg cs) (.int .i64 (k : Nat))).run Tryz.prog W = .ok (.agg (cs.extract (k * 2) (k * 2 + 2))) W := by
  have := run_index_arr 104 103 4 2 cs .i64 (k : Nat) W Tryz.underlying104 (two_sz W) (two_agg W) (by omega) (by omega)
  rwa [Int.toNat_natCast] at this
theorem idx_str (t : List UInt8) (k : Nat) (c : UInt8) (h : t[k]? = some c) : ∀ h', (⟨t.toArray⟩ : ByteArray)[k]'h' = c := by
  intro h'
  obtain ⟨hk, e⟩ := List.getElem?_eq_some_iff.1 h
  rw [← e]; rfl
theorem u8_all {p : UInt8 → Prop} [DecidablePred p] (h : ∀ n : Fin 256, p (UInt8.ofNat n.val)) (c : UInt8) : p c := by
  have := h ⟨c.toNat, c.toNat_lt⟩
  simpa using this
theorem byte_iff (c : UInt8) : byteOK c = !(((c.toNat : Int) != 0) && (decide ((c.toNat : Int) < 32) || decide ((126 : Int) < (c.toNat : Int)))) := by
  have := u8_all (p := fun c => byteOK c = !(((c.toNat : Int) != 0) && (decide ((c.toNat : Int) < 32) || decide ((126 : Int) < (c.toNat : Int))))) (by decide +kernel) c
  exact this
/-- a field of an instruction, by number -/
def fldB (c : CodeL) (b : BodyL) (i : InsL) : Nat → Bool
  | 0 => fieldB c b (kindsOf i.op).1 i.a
  | 1 => fieldB c b (kindsOf i.op).2.1 i.b
  | 2 => fieldB c b (kindsOf i.op).2.2.1 i.c
  | _ => fieldB c b (kindsOf i.op).2.2.2 i.d
def fldK (i : InsL) : Nat → Int
  | 0 => (kindsOf i.op).1
  | 1 => (kindsOf i.op).2.1
  | 2 => (kindsOf i.op).2.2.1
  | _ => (kindsOf i.op).2.2.2
def fldN (i : InsL) : Nat → Int
  | 0 => i.a
  | 1 => i.b
  | 2 => i.c
  | _ => i.d
theorem fld_eq (c : CodeL) (b : BodyL) (i : InsL) (k : Nat) : fieldB c b (fldK i k) (fldN i k) = fldB c b i k := by
  match k with
  | 0 => rfl
  | 1 => rfl
  | 2 => rfl
  | _ + 3 => rfl
theorem fldK_le (i : InsL) (k : Nat) : 0 ≤ fldK i k ∧ fldK i k ≤ 10 := by
  obtain ⟨h0, h1, h2, h3⟩ := kinds_le i.op
  match k with
  | 0 => exact h0
  | 1 => exact h1
  | 2 => exact h2
  | _ + 3 => exact h3
theorem fields_ext (i : InsL) (k : Nat) (hk : k < 4) : (fieldsC i.op i).extract (k * 2) (k * 2 + 2) = #[.int .i64 (fldK i k), .int .i64 (fldN i k)] := by
  match k, hk with
  | 0, _ => rfl
  | 1, _ => rfl
  | 2, _ => rfl
  | 3, _ => rfl
def insTail (c : CodeL) (b : BodyL) (i : InsL) : Bool := decide ((lengthsOf c i).1 ≤ i.list.length) && decide ((i.list.length : Int) ≤ (lengthsOf c i).2) && i.list.all (fieldB c b 1)
theorem insOK_eq (c : CodeL) (b : BodyL) (i : InsL) : insOK c b i = (opOK i.op && (fldB c b i 0 && (fldB c b i 1 && (fldB c b i 2 && fldB c b i 3))) && textOK i && insTail c b i) := by
  unfold insOK opOK insTail fldB
  simp only [Bool.and_assoc]
set_option maxRecDepth 100000 in
set_option maxHeartbeats 16000000 in
theorem right_any (c : CodeL) (b : BodyL) (i : InsL) (A : Option Addr) (nb cc : Nat) (Ab : Option Addr) (lb cb : Nat) (Ai : Option Addr) (ni ci : Nat) (w : World) (hC : Bods w A nb c.bodies) (hlb : lb = b.code.length) (hI : Rd encI 1 w Ai ni i.list) (hni : ni ≤ 100000) (ht : i.text.length ≤ 100000) (hV : VarsR w) :
    Calls Tryz.prog 103 #[codeV c A nb cc, bodyV b Ab lb cb, insV i Ai ni ci] w fun e w' => e = .returned (.bool (insOK c b i)) ∧ Below w.heap.size w w' := by
  obtain ⟨W1, hW1⟩ : ∃ W1, ((w.alloc (.cells #[.int .i64 c.globals, .slice A nb cc] 24)).alloc (.cells #[.string ⟨b.name.toArray⟩, .int .i64 b.regs, .int .i64 b.args, .slice Ab lb cb] 51)).alloc (.cells #[.int .i64 i.op, .int .i64 i.a, .int .i64 i.b, .int .i64 i.c, .int .i64 i.d, .string ⟨i.text.toArray⟩, .slice Ai ni ci] 55) = W1 := ⟨_, rfl⟩
  have HB1 : Hid (Below w.heap.size w W1) := Lib.hid (by rw [← hW1]; exact (((Below.refl w.heap.size w).alloc (Nat.le_refl _) _).alloc (by simp) _).alloc (by simp; omega) _)
  have HX1 : Hid (CBox W1 c b A nb cc Ab lb cb w.heap.size (w.heap.size + 1)) := Lib.hid (by
    rw [← hW1]
    exact ⟨((BlkAt.new w _ _).alloc _).alloc _, (blk_new' _ _ _ _ (by simp)).alloc _, hC.len, hlb⟩)
  have HI1 : Hid (BlkAt W1 (w.heap.size + 1 + 1) 55 #[.int .i64 i.op, .int .i64 i.a, .int .i64 i.b, .int .i64 i.c, .int .i64 i.d, .string ⟨i.text.toArray⟩, .slice Ai ni ci]) := Lib.hid (by
    rw [← hW1]
    exact blk_new' _ _ _ _ (by simp))
  have HC := Lib.hid (bods_below hC HB1.out)
  have HL := Lib.hid (hI.below HB1.out)
  have HV := Lib.hid (hV.below HB1.out)
  have HNI := Lib.hid hI.len
  have HRU := Lib.hid (ruleOf_any i.op W1)
  have HOK := Lib.hid (insOK_eq c b i)
  clear hC hI hV hlb
  have e0 := HI1.out.cell 0
  have e1 := HI1.out.cell 1
  have e2 := HI1.out.cell 2
  have e3 := HI1.out.cell 3
  have e4 := HI1.out.cell 4
  have e5 := HI1.out.cell 5
  have e6 := HI1.out.cell 6
  simp only [List.getElem?_toArray, List.getElem?_cons_succ, List.getElem?_cons_zero] at e0 e1 e2 e3 e4 e5 e6
  unfold codeV bodyV insV
  generalize insOK c b i = R at *
  cases hop : opOK i.op with
  | false =>
    have hru := HRU.out
    rw [hop] at hru HOK
    have HR : Hid (R = false) := Lib.hid (by rw [HOK.out]; rfl)
    clear HOK HRU hop
    unfold rule0V at hru
    simp only [Bool.false_eq_true, if_false] at hru
    go_enter Tryz.func103, Tryz.ntmps103
    go_wp2_with (go_at_call 52
                 refine hru.mono ?_
                 rintro e w2 ⟨rfl, hb2⟩
                 have HB2 := Lib.hid (HB1.out.trans (hb2.mono HB1.out.size))
                 clear hb2 hru)
    go_ret
    exact ⟨ret_bool HR.out.symm, HB2.out.alloc HB2.out.size _⟩
  | true =>
    have hru := HRU.out
    rw [hop] at hru HOK
    clear HRU hop
    simp only [if_true] at hru
    have HFA := Lib.hid (fun W => fields_any i.op i Ai ni ci W)
    unfold insV at HFA
    have hru' := hru
    unfold ruleV at hru
    have HFC : Hid (∀ (k : Nat) (W : World), k < 4 → (Instr.index 104 (.agg (fieldsC i.op i)) (.int .i64 (k : Nat))).run Tryz.prog W = .ok (.agg #[.int .i64 (fldK i k), .int .i64 (fldN i k)]) W) := Lib.hid (fun k W hk => by rw [four_at _ k hk W, fields_ext i k hk])
    have HTX : Hid (textT i.op = textT i.op) := Lib.hid rfl
    have hfa := HFA.out
    unfold ruleV at hfa
    have HFA2 := Lib.hid hfa
    clear HFA hfa hru'
    generalize fieldsC i.op i = FC at *
    generalize (wordT.getD i.op.toNat []).toArray = WD at *
    generalize hk1 : (kindsOf i.op).1 = k1 at *
    generalize hk2 : (kindsOf i.op).2.1 = k2 at *
    generalize hk3 : (kindsOf i.op).2.2.1 = k3 at *
    generalize hk4 : (kindsOf i.op).2.2.2 = k4 at *
    clear hk1 hk3 hk4
    have HK2 := Lib.hid hk2
    clear hk2
    go_enter Tryz.func103, Tryz.ntmps103
    go_wp2_with (first
      | (go_at_call 52
         refine hru.mono ?_
         rintro e w2 ⟨rfl, hb2⟩
         have HB2 := Lib.hid (HB1.out.trans (hb2.mono HB1.out.size))
         have HX2 := Lib.hid (HX1.out.below hb2)
         have HI2 := Lib.hid (HI1.out.below hb2 HI1.out.lt)
         have HC2 := Lib.hid (bods_below HC.out hb2)
         have HL2 := Lib.hid (HL.out.below hb2)
         have HV2 := Lib.hid (HV.out.below hb2)
         clear e0 e1 e2 e3 e4 e5 e6
         have e0 := HI2.out.cell 0
         have e1 := HI2.out.cell 1
         have e2 := HI2.out.cell 2
         have e3 := HI2.out.cell 3
         have e4 := HI2.out.cell 4
         have e5 := HI2.out.cell 5
         have e6 := HI2.out.cell 6
         simp only [List.getElem?_toArray, List.getElem?_cons_succ, List.getElem?_cons_zero] at e0 e1 e2 e3 e4 e5 e6
         have hl2 := HI2.out.lt
         clear hb2 hru)
      | (go_at_call 53
         refine (HFA2.out _).mono ?_
         rintro e w3 ⟨rfl, hb3⟩
         have HB23 := Lib.hid (((Below.refl w2.heap.size w2).alloc (Nat.le_refl _) (.cells #[.string ⟨WD⟩, .int .i64 k1, .int .i64 k2, .int .i64 k3, .int .i64 k4, .string ⟨(textT i.op).toArray⟩] 100)).trans (hb3.mono (alloc_sz (Nat.le_refl _))))
         have HRB := Lib.hid ((BlkAt.new w2 100 #[.string ⟨WD⟩, .int .i64 k1, .int .i64 k2, .int .i64 k3, .int .i64 k4, .string ⟨(textT i.op).toArray⟩]).below hb3 (by simp))
         have HX3 := Lib.hid (HX2.out.below HB23.out)
         have HI3 := Lib.hid (HI2.out.below HB23.out HI2.out.lt)
         have HC3 := Lib.hid (bods_below HC2.out HB23.out)
         have HL3 := Lib.hid (HL2.out.below HB23.out)
         have HV3 := Lib.hid (HV2.out.below HB23.out)
         have HB3 := Lib.hid (HB2.out.trans (HB23.out.mono HB2.out.size))
         clear hb3 e0 e1 e2 e3 e4 e5 e6 hl2))
    clear hW1 HB1 HX1 HI1 HC HL HV HB2 HX2 HI2 HC2 HL2 HV2
    go_loopw [26] (fun a wr => ∃ k : Nat, k ≤ 4 ∧ a = .int .i64 k ∧ Hid (∀ j, j < k → fldB c b i j = true) ∧ Hid (Below w3.heap.size w3 wr)) (fun a _ => 4 - (intOf a).toNat)
    case atStart => exact ⟨0, by omega, rfl, Lib.hid (fun j hj => by omega), Lib.hid (Below.refl _ _)⟩
    case round =>
      obtain ⟨k, hk4, rfl, HT, HW⟩ := hrel
      have HBW := Lib.hid (HB3.out.trans (HW.out.mono HB3.out.size))
      have HXW := Lib.hid (HX3.out.below HW.out)
      by_cases hlt : k < 4
      · have hix := fun W => HFC.out k W hlt
        have HF : Hid (fldB c b i k = false → R = false) := Lib.hid (fun h => by
          rw [HOK.out]
          match k, hlt, h with
          | 0, _, h => simp [h]
          | 1, _, h => simp [h]
          | 2, _, h => simp [h]
          | 3, _, h => simp [h])
        have hf := field_any c b (fldK i k) (fldN i k) A nb cc Ab lb cb (wr.alloc (.cells #[.int .i64 (fldK i k), .int .i64 (fldN i k)] 103)) HXW.out.hnb HXW.out.hlb (fldK_le i k)
        rw [fld_eq c b i k] at hf
        have HN : Hid (fldB c b i k = true → ∀ j, j < k + 1 → fldB c b i j = true) := Lib.hid (fun h j hj => by
          by_cases e : j = k
          · rw [e]; exact h
          · exact HT.out j (by omega))
        have c0 := HXW.out.cx.cell 0
        have c1 := HXW.out.cx.cell 1
        have d0 := HXW.out.by_.cell 0
        have d1 := HXW.out.by_.cell 1
        have d2 := HXW.out.by_.cell 2
        have d3 := HXW.out.by_.cell 3
        simp only [List.getElem?_toArray, List.getElem?_cons_succ, List.getElem?_cons_zero] at c0 c1 d0 d1 d2 d3
        have hl1 := HXW.out.cx.lt
        have hl2 := HXW.out.by_.lt
        have hk1' : (k : Int) < 4 := by omega
        have wr1 : IntKind.i64.wrap ((k : Int) + 1) = (k : Int) + 1 := IntWalk.i64_in _ (by omega)
        have HWA := Lib.hid (HW.out.alloc HW.out.size (.cells #[.int .i64 (fldK i k), .int .i64 (fldN i k)] 103))
        unfold codeV bodyV at hf
        generalize fldK i k = KK at *
        generalize fldN i k = NN at *
        cases hfk : fldB c b i k with
        | false =>
          rw [hfk] at hf
          have HF2 := Lib.hid (HF.out hfk)
          clear hfk HF HN
          go_wp2_with (go_at_call 115; refine hf.mono ?_; rintro e w5 ⟨rfl, hb5⟩; have HB5 := Lib.hid (HWA.out.trans (hb5.mono HWA.out.size)); clear hb5 hf)
          go_ret
          exact ⟨ret_bool HF2.out.symm, HB3.out.trans (HB5.out.mono HB3.out.size)⟩
        | true =>
          rw [hfk] at hf
          have HN2 := Lib.hid (HN.out hfk)
          clear hfk HF HN
          go_wp2_with (go_at_call 115; refine hf.mono ?_; rintro e w5 ⟨rfl, hb5⟩; have HB5 := Lib.hid (HWA.out.trans (hb5.mono HWA.out.size)); clear hb5 hf)
          go_roundw
          case rel => exact ⟨k + 1, by omega, by go_num, HN2, HB5⟩
          case measure => simp [intOf]; omega
      · obtain rfl : k = 4 := by omega
        have HR : Hid (R = (textOK i && insTail c b i)) := Lib.hid (by
          rw [HOK.out, HT.out 0 (by omega), HT.out 1 (by omega), HT.out 2 (by omega), HT.out 3 (by omega)]; simp)
        have HB8 : Hid (i.op = 21 ∨ i.op = 27 → 0 ≤ i.b ∧ i.b < nb) := Lib.hid (fun h => by
          have h1 := HT.out 1 (by omega)
          have hk : (kindsOf i.op).2.1 = 8 := by rcases h with h | h <;> rw [h] <;> rfl
          have hh : fldB c b i 1 = fieldB c b 8 i.b := by rw [← hk]; rfl
          rw [hh] at h1
          have hnb := HXW.out.hnb
          unfold fieldB at h1
          simp at h1
          omega)
        have HIW := Lib.hid (HI3.out.below HW.out HI3.out.lt)
        have HRW := Lib.hid (HRB.out.below HW.out HRB.out.lt)
        have HCW := Lib.hid (bods_below HC3.out HW.out)
        have HLW := Lib.hid (HL3.out.below HW.out)
        have HVW := Lib.hid (HV3.out.below HW.out)
        have e0 := HIW.out.cell 0
        have e1 := HIW.out.cell 1
        have e2 := HIW.out.cell 2
        have e3 := HIW.out.cell 3
        have e4 := HIW.out.cell 4
        have e5 := HIW.out.cell 5
        have e6 := HIW.out.cell 6
        simp only [List.getElem?_toArray, List.getElem?_cons_succ, List.getElem?_cons_zero] at e0 e1 e2 e3 e4 e5 e6
        clear hlt HT HOK HW HX3 HI3 HC3 HL3 HV3 HRB HB3 HFA2 HFC
        have HTL : Hid (insTail c b i = (decide ((lengthsOf c i).1 ≤ (ni : Int)) && decide ((ni : Int) ≤ (lengthsOf c i).2) && i.list.all (fieldB c b 1))) := Lib.hid (by
          unfold insTail; rw [← HNI.out])
        by_cases h36 : i.op = 36
        · have f36 : (i.op == 36) = true := by simp [h36]
          have HTX2 : Hid (textOK i = i.text.all byteOK) := Lib.hid (by unfold textOK; rw [if_pos h36])
          clear h36 HTX
          obtain ⟨wo, hwo⟩ : ∃ wo : World, wo = wr := ⟨_, rfl⟩
          subst hwo
          go_wp2_with fail
          go_loopw [45] (fun a wr => ∃ j : Nat, j ≤ i.text.length ∧ a = .int .i64 j ∧ Hid ((i.text.take j).all byteOK = true) ∧ Hid (Below wo.heap.size wo wr)) (fun a _ => i.text.length - (intOf a).toNat)
          case atStart => exact ⟨0, by omega, rfl, Lib.hid (by simp), Lib.hid (Below.refl _ _)⟩
          case round =>
            obtain ⟨j, hj, rfl, HJ, HWJ⟩ := hrel
            by_cases hlt : j < i.text.length
            · obtain ⟨x, hx⟩ := get_some hlt
              have hidx := idx_str i.text j x hx
              have HN : Hid (byteOK x = true → (i.text.take (j + 1)).all byteOK = true) := Lib.hid (fun h => by
                rw [List.take_add_one, hx]; simp only [List.all_append, HJ.out, Option.toList_some, List.all_cons, h, List.all_nil, Bool.and_self])
              have HF : Hid (byteOK x = false → R = false) := Lib.hid (fun h => by
                rw [HR.out, HTX2.out]
                rw [show i.text.all byteOK = false by
                  rw [Bool.eq_false_iff]
                  intro hall
                  have := List.all_eq_true.1 hall x (List.mem_of_getElem? hx)
                  rw [h] at this; cases this]
                rfl)
              have HBJ := Lib.hid (HBW.out.trans (HWJ.out.mono HBW.out.size))
              have HIJ := Lib.hid (HIW.out.below HWJ.out HIW.out.lt)
              clear e0 e1 e2 e3 e4 e5 e6
              have e5 := HIJ.out.cell 5
              simp only [List.getElem?_toArray, List.getElem?_cons_succ, List.getElem?_cons_zero] at e5
              have wr1 : IntKind.i64.wrap ((j : Int) + 1) = (j : Int) + 1 := IntWalk.i64_in _ (by omega)
              have hbi := byte_iff x
              clear hx
              cases g1 : ((x.toNat : Int) != 0) <;> cases g2 : decide ((x.toNat : Int) < 32) <;> cases g3 : decide ((126 : Int) < (x.toNat : Int)) <;> rw [g1, g2, g3] at hbi <;> simp only [Bool.false_and, Bool.true_and, Bool.or_self, Bool.or_true, Bool.true_or, Bool.or_false, Bool.not_true, Bool.not_false] at hbi <;>
              first
              | (have HN2 := Lib.hid (HN.out hbi)
                 clear HN HF hbi
                 go_wp2_with fail
                 go_roundw
                 case rel => exact ⟨j + 1, by omega, by go_num, HN2, HWJ⟩
                 case measure => simp [intOf]; omega)
              | (have HF2 := Lib.hid (HF.out hbi)
                 clear HN HF hbi
                 go_wp2_with fail
                 go_ret
                 exact ⟨ret_bool HF2.out.symm, HBJ.out⟩)
            · obtain rfl : j = i.text.length := by omega
              have HR2 : Hid (R = insTail c b i) := Lib.hid (by
                have := HJ.out
                rw [List.take_length] at this
                rw [HR.out, HTX2.out, this]; rfl)
              clear e0 e1 e2 e3 e4 e5 e6 HR HTX2 hlt
              have HIV := Lib.hid (HIW.out.below HWJ.out HIW.out.lt)
              have HXV := Lib.hid (HXW.out.below HWJ.out)
              have HCV := Lib.hid (bods_below HCW.out HWJ.out)
              have hlen := lengths_any c i A nb cc Ai ni ci wr HCV.out HB8.out
              unfold lngV codeV insV at hlen
              generalize (lengthsOf c i).1 = L1 at *
              generalize (lengthsOf c i).2 = L2 at *
              have c0 := HXV.out.cx.cell 0
              have c1 := HXV.out.cx.cell 1
              have e0 := HIV.out.cell 0
              have e1 := HIV.out.cell 1
              have e2 := HIV.out.cell 2
              have e3 := HIV.out.cell 3
              have e4 := HIV.out.cell 4
              have e5 := HIV.out.cell 5
              have e6 := HIV.out.cell 6
              simp only [List.getElem?_toArray, List.getElem?_cons_succ, List.getElem?_cons_zero] at c0 c1 e0 e1 e2 e3 e4 e5 e6
              cases q1 : decide (L1 ≤ (ni : Int)) <;> cases q2 : decide ((ni : Int) ≤ L2) <;> rw [q1, q2] at HTL <;>
              · go_wp2_with (first
                  | (go_at_call 118
                     refine hlen.mono ?_
                     rintro e w7 ⟨rfl, hb7⟩
                     have HB7 := Lib.hid (HWJ.out.trans (hb7.mono HWJ.out.size))
                     clear c0 c1 e0 e1 e2 e3 e4 e5 e6 hlen
                     have HI7 := Lib.hid (HIV.out.below hb7 HIV.out.lt)
                     have e6 := HI7.out.cell 6
                     simp only [List.getElem?_toArray, List.getElem?_cons_succ, List.getElem?_cons_zero] at e6
                     clear hb7)
                  | (go_at_call 24
                     refine (rightCF_any c b A nb cc Ab lb cb w.heap.size (w.heap.size + 1) Ai ni ci i.list w7 (HXW.out.below HB7.out) (HLW.out.below HB7.out) hni).mono ?_
                     rintro e w8 ⟨rfl, hb8⟩
                     have HB7 := Lib.hid (HB7.out.trans (hb8.mono HB7.out.size))
                     clear hb8))
                go_ret
                exact ⟨ret_bool (by rw [HR2.out, HTL.out]; rfl), HBW.out.trans (HB7.out.mono HBW.out.size)⟩
        · have f36 : (i.op == 36) = false := by simp [h36]
          have r5 := HRW.out.cell 5
          simp only [List.getElem?_toArray, List.getElem?_cons_succ, List.getElem?_cons_zero] at r5
          have hrl := HRW.out.lt
          have hil := HIW.out.lt
          by_cases htx : textsOf i.op = []
          · have HTX2 : Hid (textOK i = decide (i.text = [])) := Lib.hid (by unfold textOK; rw [if_neg h36, if_pos htx])
            have htt : textT i.op = [] := by unfold textT; rw [htx]; rfl
            rw [htt] at r5
            clear h36 htx htt HTX HRW
            have r5' := cell_regrown r5
            have e5' := cell_regrown e5
            cases hte : (i.text == []) with
            | true =>
              have HR2 : Hid (R = insTail c b i) := Lib.hid (by rw [HR.out, HTX2.out, decide_eq_true (by simpa using hte)]; rfl)
              clear HR HTX2
              go_wp2_with fail
              refine wp_region_quiet_below (by kernel_rfl) (by kernel_rfl) ?_
              repeat (any_goals (first | go_big_quiet_step ((fail)) | quiet_step ((fail)) | (refine wpQuiet_step (fun K hK => ?_); go_simp; split <;> (refine hK _ ?_; clear hK K))))
              all_goals (refine wpQuiet_nil ?_; intro _ hw'; obtain ⟨⟨dq, osq⟩, hw''⟩ := hw'; subst hw'')
              have HBQ := Lib.hid (below_regrown wr dq osq)
              generalize grow (redrawn wr dq) osq = wq at *
              clear r5 r5' e5' e0 e1 e2 e3 e4 e5 e6
              have HIV := Lib.hid (HIW.out.below HBQ.out HIW.out.lt)
              have HXV := Lib.hid (HXW.out.below HBQ.out)
              have HCV := Lib.hid (bods_below HCW.out HBQ.out)
              have hlen := lengths_any c i A nb cc Ai ni ci wq HCV.out HB8.out
              unfold lngV codeV insV at hlen
              generalize (lengthsOf c i).1 = L1 at *
              generalize (lengthsOf c i).2 = L2 at *
              have c0 := HXV.out.cx.cell 0
              have c1 := HXV.out.cx.cell 1
              have e0 := HIV.out.cell 0
              have e1 := HIV.out.cell 1
              have e2 := HIV.out.cell 2
              have e3 := HIV.out.cell 3
              have e4 := HIV.out.cell 4
              have e5 := HIV.out.cell 5
              have e6 := HIV.out.cell 6
              simp only [List.getElem?_toArray, List.getElem?_cons_succ, List.getElem?_cons_zero] at c0 c1 e0 e1 e2 e3 e4 e5 e6
              cases q1 : decide (L1 ≤ (ni : Int)) <;> cases q2 : decide ((ni : Int) ≤ L2) <;> rw [q1, q2] at HTL <;>
              · go_wp2_with (first
                  | (go_at_call 118
                     refine hlen.mono ?_
                     rintro e w7 ⟨rfl, hb7⟩
                     have HB7 := Lib.hid (HBQ.out.trans (hb7.mono HBQ.out.size))
                     clear c0 c1 e0 e1 e2 e3 e4 e5 e6 hlen
                     have HI7 := Lib.hid (HIV.out.below hb7 HIV.out.lt)
                     have e6 := HI7.out.cell 6
                     simp only [List.getElem?_toArray, List.getElem?_cons_succ, List.getElem?_cons_zero] at e6
                     clear hb7)
                  | (go_at_call 24
                     refine (rightCF_any c b A nb cc Ab lb cb w.heap.size (w.heap.size + 1) Ai ni ci i.list w7 (HXW.out.below HB7.out) (HLW.out.below HB7.out) hni).mono ?_
                     rintro e w8 ⟨rfl, hb8⟩
                     have HB7 := Lib.hid (HB7.out.trans (hb8.mono HB7.out.size))
                     clear hb8))
                go_ret
                exact ⟨ret_bool (by rw [HR2.out, HTL.out]; rfl), HBW.out.trans (HB7.out.mono HBW.out.size)⟩
            | false =>
              have HR2 : Hid (R = false) := Lib.hid (by rw [HR.out, HTX2.out, decide_eq_false (by simpa using hte)]; rfl)
              clear HR HTX2
              go_wp2_with fail
              refine wp_region_quiet_below (by kernel_rfl) (by kernel_rfl) ?_
              repeat (any_goals (first | go_big_quiet_step ((fail)) | quiet_step ((fail)) | (refine wpQuiet_step (fun K hK => ?_); go_simp; split <;> (refine hK _ ?_; clear hK K))))
              all_goals (refine wpQuiet_nil ?_; intro _ hw'; obtain ⟨⟨dq, osq⟩, hw''⟩ := hw'; subst hw'')
              go_wp2_with fail
              go_ret
              exact ⟨ret_bool HR2.out.symm, HBW.out.trans ((below_regrown wr dq osq).mono HBW.out.size)⟩
          · have HTX2 : Hid (textOK i = decide (i.text ∈ textsOf i.op)) := Lib.hid (by unfold textOK; rw [if_neg h36, if_neg htx])
            obtain ⟨hfs, hfa, hfl, hwl⟩ := fields_ops i.op htx
            have htt : (textT i.op == []) = false := by rw [text_nil]; simp [htx]
            have hfd := fun (W : World) (hV : VarsR W) => Tryz.strings_Fields ⟨(textT i.op).toArray⟩ W (by show (textT i.op).length < _; omega) (fun j x hx => hfa x (List.mem_of_getElem? hx)) hV.tab
            have HFS : Hid (Lib.fields (⟨(textT i.op).toArray⟩ : ByteArray).data.toList = textsOf i.op) := Lib.hid hfs
            rw [HFS.out] at hfd
            have HFD := Lib.hid hfd
            clear h36 htx HTX HRW hfs hfa hfl hfd HFS
            generalize textT i.op = TT at *
            generalize textsOf i.op = WS at *
            have hco := fun W => containsS_any WS i.text 9 W hwl
            cases hm : decide (i.text ∈ WS) with
            | true =>
              rw [hm] at hco
              have HR2 : Hid (R = insTail c b i) := Lib.hid (by rw [HR.out, HTX2.out, hm]; rfl)
              clear HR HTX2 hm
              go_wp2_with fail
              refine wp_region_held_drew (S := fun w' => w'.cell? ⟨w2.heap.size, 5, none⟩ = some (.string ⟨TT.toArray⟩) ∧ w'.cell? ⟨w.heap.size + 1 + 1, 5, none⟩ = some (.string ⟨i.text.toArray⟩)) (by kernel_rfl) ⟨r5, e5⟩ ?_
              intro _
              have HBD := Lib.hid (below_draw (Below.refl wr.heap.size wr) 1)
              have hHeld : (wr.drewN 1).cell? ⟨w2.heap.size, 5, none⟩ = some (.string ⟨TT.toArray⟩) ∧ (wr.drewN 1).cell? ⟨w.heap.size + 1 + 1, 5, none⟩ = some (.string ⟨i.text.toArray⟩) := ⟨r5, e5⟩
              have HVD := Lib.hid (HVW.out.below HBD.out)
              change wpAnyH _ _ _ _ _ _ _ _ (wr.drewN 1)
              generalize wr.drewN 1 = WD1 at *
              refine take_drop 0 (v := ?_) rfl (by kernel_rfl) (by kernel_rfl) (by kernel_rfl) (fun _ _ _ h => h) (by rfl) ?_ (by assumption) ?_
              rotate_left 1
              · (intro w hSw; obtain ⟨hSw1, hSw2⟩ := hSw; go_simp; try with_reducible rfl)
              try simp only [Act.put, List.setIfInBounds_toArray, List.set_cons_zero, List.set_cons_succ]
              refine take_drop 1 (v := ?_) rfl (by kernel_rfl) (by kernel_rfl) (by kernel_rfl) (fun _ _ _ h => h) (by rfl) ?_ (by assumption) ?_
              rotate_left 1
              · (intro w hSw; obtain ⟨hSw1, hSw2⟩ := hSw; go_simp; try with_reducible rfl)
              try simp only [Act.put, List.setIfInBounds_toArray, List.set_cons_zero, List.set_cons_succ]
              refine take_drop 2 (v := ?_) rfl (by kernel_rfl) (by kernel_rfl) (by kernel_rfl) (fun _ _ _ h => h) (by rfl) ?_ (by assumption) ?_
              rotate_left 1
              · (intro w hSw; obtain ⟨hSw1, hSw2⟩ := hSw; go_simp; try with_reducible rfl)
              try simp only [Act.put, List.setIfInBounds_toArray, List.set_cons_zero, List.set_cons_succ]
              refine take_drop 3 (v := ?_) rfl (by kernel_rfl) (by kernel_rfl) (by kernel_rfl) (fun _ _ _ h => h) (by rfl) ?_ (by assumption) ?_
              rotate_left 1
              · (intro w hSw; obtain ⟨hSw1, hSw2⟩ := hSw; go_simp; try with_reducible rfl)
              try simp only [Act.put, List.setIfInBounds_toArray, List.set_cons_zero, List.set_cons_succ]
              refine wpAnyH_ready (rs := [4]) (by kernel_rfl) (by simp) ?_
              refine ready_drop rfl (fun K hK => ?_) AllReadyH.nil
              go_simp
              refine hK.out _ _ (by assumption) (fun hHeldN => ?_)
              clear hK hHeld
              have hHeld := hHeldN
              clear hHeldN
              try simp only [Act.put, List.setIfInBounds_toArray, List.set_cons_zero, List.set_cons_succ]
              refine wpAnyH_ready (rs := [5]) (by kernel_rfl) (by simp) ?_
              refine ready_drop rfl (fun K hK => ?_) AllReadyH.nil
              go_simp
              refine hK.out _ _ (by assumption) (fun hHeldN => ?_)
              clear hK hHeld
              have hHeld := hHeldN
              clear hHeldN
              try simp only [Act.put, List.setIfInBounds_toArray, List.set_cons_zero, List.set_cons_succ]
              refine wpAnyH_ready (rs := [6]) (by kernel_rfl) (by simp) ?_
              refine ready_drop rfl (fun K hK => ?_) AllReadyH.nil
              go_simp
              refine hK.out _ _ (by assumption) (fun hHeldN => ?_)
              clear hK hHeld
              have hHeld := hHeldN
              clear hHeldN
              try simp only [Act.put, List.setIfInBounds_toArray, List.set_cons_zero, List.set_cons_succ]
              refine take_drop 7 (v := ?_) rfl (by kernel_rfl) (by kernel_rfl) (by kernel_rfl) (fun _ _ _ h => h) (by rfl) ?_ (by assumption) ?_
              rotate_left 1
              · (intro w hSw; obtain ⟨hSw1, hSw2⟩ := hSw; go_simp; try with_reducible rfl)
              try simp only [Act.put, List.setIfInBounds_toArray, List.set_cons_zero, List.set_cons_succ]
              refine take_drop 8 (v := ?_) rfl (by kernel_rfl) (by kernel_rfl) (by kernel_rfl) (fun _ _ _ h => h) (by rfl) ?_ (by assumption) ?_
              rotate_left 1
              · (intro w hSw; obtain ⟨hSw1, hSw2⟩ := hSw; go_simp; try with_reducible rfl)
              try simp only [Act.put, List.setIfInBounds_toArray, List.set_cons_zero, List.set_cons_succ]
              refine take_drop 9 (v := ?_) rfl (by kernel_rfl) (by kernel_rfl) (by kernel_rfl) (fun _ _ _ h => h) (by rfl) ?_ (by assumption) ?_
              rotate_left 1
              · (intro w hSw; obtain ⟨hSw1, hSw2⟩ := hSw; go_simp; try with_reducible rfl)
              try simp only [Act.put, List.setIfInBounds_toArray, List.set_cons_zero, List.set_cons_succ]
              refine take_drop 10 (v := ?_) rfl (by kernel_rfl) (by kernel_rfl) (by kernel_rfl) (fun _ _ _ h => h) (by rfl) ?_ (by assumption) ?_
              rotate_left 1
              · (intro w hSw; obtain ⟨hSw1, hSw2⟩ := hSw; go_simp; try with_reducible rfl)
              try simp only [Act.put, List.setIfInBounds_toArray, List.set_cons_zero, List.set_cons_succ]
              refine take_drop 11 (v := ?_) rfl (by kernel_rfl) (by kernel_rfl) (by kernel_rfl) (fun _ _ _ h => h) (by rfl) ?_ (by assumption) ?_
              rotate_left 1
              · (intro w hSw; obtain ⟨hSw1, hSw2⟩ := hSw; go_simp; try with_reducible rfl)
              try simp only [Act.put, List.setIfInBounds_toArray, List.set_cons_zero, List.set_cons_succ]
              refine take_drop 12 (v := ?_) rfl (by kernel_rfl) (by kernel_rfl) (by kernel_rfl) (fun _ _ _ h => h) (by rfl) ?_ (by assumption) ?_
              rotate_left 1
              · (intro w hSw; obtain ⟨hSw1, hSw2⟩ := hSw; go_simp; try with_reducible rfl)
              try simp only [Act.put, List.setIfInBounds_toArray, List.set_cons_zero, List.set_cons_succ]
              refine take_drop 13 (v := ?_) rfl (by kernel_rfl) (by kernel_rfl) (by kernel_rfl) (fun _ _ _ h => h) (by rfl) ?_ (by assumption) ?_
              rotate_left 1
              · (intro w hSw; obtain ⟨hSw1, hSw2⟩ := hSw; go_simp; try with_reducible rfl)
              try simp only [Act.put, List.setIfInBounds_toArray, List.set_cons_zero, List.set_cons_succ]
              refine take_drop 14 (v := ?_) rfl (by kernel_rfl) (by kernel_rfl) (by kernel_rfl) (fun _ _ _ h => h) (by rfl) ?_ (by assumption) ?_
              rotate_left 1
              · (intro w hSw; obtain ⟨hSw1, hSw2⟩ := hSw; go_simp; try with_reducible rfl)
              try simp only [Act.put, List.setIfInBounds_toArray, List.set_cons_zero, List.set_cons_succ]
              refine take_drop 16 (v := ?_) rfl (by kernel_rfl) (by kernel_rfl) (by kernel_rfl) (fun _ _ _ h => h) (by rfl) ?_ (by assumption) ?_
              rotate_left 1
              · (intro w hSw; obtain ⟨hSw1, hSw2⟩ := hSw; go_simp; try with_reducible rfl)
              try simp only [Act.put, List.setIfInBounds_toArray, List.set_cons_zero, List.set_cons_succ]
              refine take_drop 17 (v := ?_) rfl (by kernel_rfl) (by kernel_rfl) (by kernel_rfl) (fun _ _ _ h => h) (by rfl) ?_ (by assumption) ?_
              rotate_left 1
              · (intro w hSw; obtain ⟨hSw1, hSw2⟩ := hSw; go_simp; try with_reducible rfl)
              try simp only [Act.put, List.setIfInBounds_toArray, List.set_cons_zero, List.set_cons_succ]
              refine wpAnyH_ready (rs := [15]) (by kernel_rfl) (by simp) ?_
              refine ready_drop rfl (fun K hK => ?_) AllReadyH.nil
              go_simp
              go_at_call 117
              refine (HFD.out WD1 HVD.out).mono ?_
              rintro e w5 ⟨rfl, rfl⟩
              have HBQ := Lib.hid (HBD.out.trans (((Below.refl WD1.heap.size WD1).alloc (Nat.le_refl _) (.cells (WS.map fun l => Value.string ⟨l.toArray⟩).toArray 9)).mono HBD.out.size))
              have hHeldN : (WD1.alloc (.cells (WS.map fun l => Value.string ⟨l.toArray⟩).toArray 9)).cell? ⟨w2.heap.size, 5, none⟩ = some (.string ⟨TT.toArray⟩) ∧ (WD1.alloc (.cells (WS.map fun l => Value.string ⟨l.toArray⟩).toArray 9)).cell? ⟨w.heap.size + 1 + 1, 5, none⟩ = some (.string ⟨i.text.toArray⟩) := ⟨cell_alloc _ hHeld.1, cell_alloc _ hHeld.2⟩
              refine hK.out _ _ hHeldN (fun _ => ?_)
              clear hK hHeld
              try simp only [Act.put, List.setIfInBounds_toArray, List.set_cons_zero, List.set_cons_succ]
              refine wpAnyH_ready (rs := [18]) (by kernel_rfl) (by simp) ?_
              refine ready_drop rfl (fun K hK => ?_) AllReadyH.nil
              go_simp
              go_at_call 116
              refine (hco WD1).mono ?_
              rintro e w6 ⟨rfl, rfl⟩
              refine hK.out _ _ hHeldN (fun _ => ?_)
              clear hK
              have hHeld := hHeldN
              clear hHeldN
              try simp only [Act.put, List.setIfInBounds_toArray, List.set_cons_zero, List.set_cons_succ]
              refine take_drop 19 (v := ?_) rfl (by kernel_rfl) (by kernel_rfl) (by kernel_rfl) (fun _ _ _ h => h) (by rfl) ?_ (by assumption) ?_
              rotate_left 1
              · (intro w hSw; obtain ⟨hSw1, hSw2⟩ := hSw; go_simp; try with_reducible rfl)
              try simp only [Act.put, List.setIfInBounds_toArray, List.set_cons_zero, List.set_cons_succ]
              refine take_drop 20 (v := ?_) rfl (by kernel_rfl) (by kernel_rfl) (by kernel_rfl) (fun _ _ _ h => h) (by rfl) ?_ (by assumption) ?_
              rotate_left 1
              · (intro w hSw; obtain ⟨hSw1, hSw2⟩ := hSw; go_simp; try with_reducible rfl)
              try simp only [Act.put, List.setIfInBounds_toArray, List.set_cons_zero, List.set_cons_succ]
              refine take_drop 21 (v := ?_) rfl (by kernel_rfl) (by kernel_rfl) (by kernel_rfl) (fun _ _ _ h => h) (by rfl) ?_ (by assumption) ?_
              rotate_left 1
              · (intro w hSw; obtain ⟨hSw1, hSw2⟩ := hSw; go_simp; try with_reducible rfl)
              try simp only [Act.put, List.setIfInBounds_toArray, List.set_cons_zero, List.set_cons_succ]
              refine take_drop 22 (v := ?_) rfl (by kernel_rfl) (by kernel_rfl) (by kernel_rfl) (fun _ _ _ h => h) (by rfl) ?_ (by assumption) ?_
              rotate_left 1
              · (intro w hSw; obtain ⟨hSw1, hSw2⟩ := hSw; go_simp; try with_reducible rfl)
              try simp only [Act.put, List.setIfInBounds_toArray, List.set_cons_zero, List.set_cons_succ]
              refine wpAnyH_done (by kernel_rfl) ?_ _
              clear r5 e0 e1 e2 e3 e4 e5 e6 hHeld
              generalize WD1.alloc (.cells (WS.map fun l => Value.string ⟨l.toArray⟩).toArray 9) = wq at *
              have HIV := Lib.hid (HIW.out.below HBQ.out HIW.out.lt)
              have HXV := Lib.hid (HXW.out.below HBQ.out)
              have HCV := Lib.hid (bods_below HCW.out HBQ.out)
              have hlen := lengths_any c i A nb cc Ai ni ci wq HCV.out HB8.out
              unfold lngV codeV insV at hlen
              generalize (lengthsOf c i).1 = L1 at *
              generalize (lengthsOf c i).2 = L2 at *
              have c0 := HXV.out.cx.cell 0
              have c1 := HXV.out.cx.cell 1
              have e0 := HIV.out.cell 0
              have e1 := HIV.out.cell 1
              have e2 := HIV.out.cell 2
              have e3 := HIV.out.cell 3
              have e4 := HIV.out.cell 4
              have e5 := HIV.out.cell 5
              have e6 := HIV.out.cell 6
              simp only [List.getElem?_toArray, List.getElem?_cons_succ, List.getElem?_cons_zero] at c0 c1 e0 e1 e2 e3 e4 e5 e6
              cases q1 : decide (L1 ≤ (ni : Int)) <;> cases q2 : decide ((ni : Int) ≤ L2) <;> rw [q1, q2] at HTL <;>
              · go_wp2_with (first
                  | (go_at_call 118
                     refine hlen.mono ?_
                     rintro e w7 ⟨rfl, hb7⟩
                     have HB7 := Lib.hid (HBQ.out.trans (hb7.mono HBQ.out.size))
                     clear c0 c1 e0 e1 e2 e3 e4 e5 e6 hlen
                     have HI7 := Lib.hid (HIV.out.below hb7 HIV.out.lt)
                     have e6 := HI7.out.cell 6
                     simp only [List.getElem?_toArray, List.getElem?_cons_succ, List.getElem?_cons_zero] at e6
                     clear hb7)
                  | (go_at_call 24
                     refine (rightCF_any c b A nb cc Ab lb cb w.heap.size (w.heap.size + 1) Ai ni ci i.list w7 (HXW.out.below HB7.out) (HLW.out.below HB7.out) hni).mono ?_
                     rintro e w8 ⟨rfl, hb8⟩
                     have HB7 := Lib.hid (HB7.out.trans (hb8.mono HB7.out.size))
                     clear hb8))
                go_ret
                exact ⟨ret_bool (by rw [HR2.out, HTL.out]; rfl), HBW.out.trans (HB7.out.mono HBW.out.size)⟩
            | false =>
              rw [hm] at hco
              have HR2 : Hid (R = false) := Lib.hid (by rw [HR.out, HTX2.out, hm]; rfl)
              clear HR HTX2 hm
              go_wp2_with fail
              refine wp_region_held_drew (S := fun w' => w'.cell? ⟨w2.heap.size, 5, none⟩ = some (.string ⟨TT.toArray⟩) ∧ w'.cell? ⟨w.heap.size + 1 + 1, 5, none⟩ = some (.string ⟨i.text.toArray⟩)) (by kernel_rfl) ⟨r5, e5⟩ ?_
              intro _
              have HBD := Lib.hid (below_draw (Below.refl wr.heap.size wr) 1)
              have hHeld : (wr.drewN 1).cell? ⟨w2.heap.size, 5, none⟩ = some (.string ⟨TT.toArray⟩) ∧ (wr.drewN 1).cell? ⟨w.heap.size + 1 + 1, 5, none⟩ = some (.string ⟨i.text.toArray⟩) := ⟨r5, e5⟩
              have HVD := Lib.hid (HVW.out.below HBD.out)
              change wpAnyH _ _ _ _ _ _ _ _ (wr.drewN 1)
              generalize wr.drewN 1 = WD1 at *
              refine take_drop 0 (v := ?_) rfl (by kernel_rfl) (by kernel_rfl) (by kernel_rfl) (fun _ _ _ h => h) (by rfl) ?_ (by assumption) ?_
              rotate_left 1
              · (intro w hSw; obtain ⟨hSw1, hSw2⟩ := hSw; go_simp; try with_reducible rfl)
              try simp only [Act.put, List.setIfInBounds_toArray, List.set_cons_zero, List.set_cons_succ]
              refine take_drop 1 (v := ?_) rfl (by kernel_rfl) (by kernel_rfl) (by kernel_rfl) (fun _ _ _ h => h) (by rfl) ?_ (by assumption) ?_
              rotate_left 1
              · (intro w hSw; obtain ⟨hSw1, hSw2⟩ := hSw; go_simp; try with_reducible rfl)
              try simp only [Act.put, List.setIfInBounds_toArray, List.set_cons_zero, List.set_cons_succ]
              refine take_drop 2 (v := ?_) rfl (by kernel_rfl) (by kernel_rfl) (by kernel_rfl) (fun _ _ _ h => h) (by rfl) ?_ (by assumption) ?_
              rotate_left 1
              · (intro w hSw; obtain ⟨hSw1, hSw2⟩ := hSw; go_simp; try with_reducible rfl)
              try simp only [Act.put, List.setIfInBounds_toArray, List.set_cons_zero, List.set_cons_succ]
              refine take_drop 3 (v := ?_) rfl (by kernel_rfl) (by kernel_rfl) (by kernel_rfl) (fun _ _ _ h => h) (by rfl) ?_ (by assumption) ?_
              rotate_left 1
              · (intro w hSw; obtain ⟨hSw1, hSw2⟩ := hSw; go_simp; try with_reducible rfl)
              try simp only [Act.put, List.setIfInBounds_toArray, List.set_cons_zero, List.set_cons_succ]
              refine wpAnyH_ready (rs := [4]) (by kernel_rfl) (by simp) ?_
              refine ready_drop rfl (fun K hK => ?_) AllReadyH.nil
              go_simp
              refine hK.out _ _ (by assumption) (fun hHeldN => ?_)
              clear hK hHeld
              have hHeld := hHeldN
              clear hHeldN
              try simp only [Act.put, List.setIfInBounds_toArray, List.set_cons_zero, List.set_cons_succ]
              refine wpAnyH_ready (rs := [5]) (by kernel_rfl) (by simp) ?_
              refine ready_drop rfl (fun K hK => ?_) AllReadyH.nil
              go_simp
              refine hK.out _ _ (by assumption) (fun hHeldN => ?_)
              clear hK hHeld
              have hHeld := hHeldN
              clear hHeldN
              try simp only [Act.put, List.setIfInBounds_toArray, List.set_cons_zero, List.set_cons_succ]
              refine wpAnyH_ready (rs := [6]) (by kernel_rfl) (by simp) ?_
              refine ready_drop rfl (fun K hK => ?_) AllReadyH.nil
              go_simp
              refine hK.out _ _ (by assumption) (fun hHeldN => ?_)
              clear hK hHeld
              have hHeld := hHeldN
              clear hHeldN
              try simp only [Act.put, List.setIfInBounds_toArray, List.set_cons_zero, List.set_cons_succ]
              refine take_drop 7 (v := ?_) rfl (by kernel_rfl) (by kernel_rfl) (by kernel_rfl) (fun _ _ _ h => h) (by rfl) ?_ (by assumption) ?_
              rotate_left 1
              · (intro w hSw; obtain ⟨hSw1, hSw2⟩ := hSw; go_simp; try with_reducible rfl)
              try simp only [Act.put, List.setIfInBounds_toArray, List.set_cons_zero, List.set_cons_succ]
              refine take_drop 8 (v := ?_) rfl (by kernel_rfl) (by kernel_rfl) (by kernel_rfl) (fun _ _ _ h => h) (by rfl) ?_ (by assumption) ?_
              rotate_left 1
              · (intro w hSw; obtain ⟨hSw1, hSw2⟩ := hSw; go_simp; try with_reducible rfl)
              try simp only [Act.put, List.setIfInBounds_toArray, List.set_cons_zero, List.set_cons_succ]
              refine take_drop 9 (v := ?_) rfl (by kernel_rfl) (by kernel_rfl) (by kernel_rfl) (fun _ _ _ h => h) (by rfl) ?_ (by assumption) ?_
              rotate_left 1
              · (intro w hSw; obtain ⟨hSw1, hSw2⟩ := hSw; go_simp; try with_reducible rfl)
              try simp only [Act.put, List.setIfInBounds_toArray, List.set_cons_zero, List.set_cons_succ]
              refine take_drop 10 (v := ?_) rfl (by kernel_rfl) (by kernel_rfl) (by kernel_rfl) (fun _ _ _ h => h) (by rfl) ?_ (by assumption) ?_
              rotate_left 1
              · (intro w hSw; obtain ⟨hSw1, hSw2⟩ := hSw; go_simp; try with_reducible rfl)
              try simp only [Act.put, List.setIfInBounds_toArray, List.set_cons_zero, List.set_cons_succ]
              refine take_drop 11 (v := ?_) rfl (by kernel_rfl) (by kernel_rfl) (by kernel_rfl) (fun _ _ _ h => h) (by rfl) ?_ (by assumption) ?_
              rotate_left 1
              · (intro w hSw; obtain ⟨hSw1, hSw2⟩ := hSw; go_simp; try with_reducible rfl)
              try simp only [Act.put, List.setIfInBounds_toArray, List.set_cons_zero, List.set_cons_succ]
              refine take_drop 12 (v := ?_) rfl (by kernel_rfl) (by kernel_rfl) (by kernel_rfl) (fun _ _ _ h => h) (by rfl) ?_ (by assumption) ?_
              rotate_left 1
              · (intro w hSw; obtain ⟨hSw1, hSw2⟩ := hSw; go_simp; try with_reducible rfl)
              try simp only [Act.put, List.setIfInBounds_toArray, List.set_cons_zero, List.set_cons_succ]
              refine take_drop 13 (v := ?_) rfl (by kernel_rfl) (by kernel_rfl) (by kernel_rfl) (fun _ _ _ h => h) (by rfl) ?_ (by assumption) ?_
              rotate_left 1
              · (intro w hSw; obtain ⟨hSw1, hSw2⟩ := hSw; go_simp; try with_reducible rfl)
              try simp only [Act.put, List.setIfInBounds_toArray, List.set_cons_zero, List.set_cons_succ]
              refine take_drop 14 (v := ?_) rfl (by kernel_rfl) (by kernel_rfl) (by kernel_rfl) (fun _ _ _ h => h) (by rfl) ?_ (by assumption) ?_
              rotate_left 1
              · (intro w hSw; obtain ⟨hSw1, hSw2⟩ := hSw; go_simp; try with_reducible rfl)
              try simp only [Act.put, List.setIfInBounds_toArray, List.set_cons_zero, List.set_cons_succ]
              refine take_drop 16 (v := ?_) rfl (by kernel_rfl) (by kernel_rfl) (by kernel_rfl) (fun _ _ _ h => h) (by rfl) ?_ (by assumption) ?_
              rotate_left 1
              · (intro w hSw; obtain ⟨hSw1, hSw2⟩ := hSw; go_simp; try with_reducible rfl)
              try simp only [Act.put, List.setIfInBounds_toArray, List.set_cons_zero, List.set_cons_succ]
              refine take_drop 17 (v := ?_) rfl (by kernel_rfl) (by kernel_rfl) (by kernel_rfl) (fun _ _ _ h => h) (by rfl) ?_ (by assumption) ?_
              rotate_left 1
              · (intro w hSw; obtain ⟨hSw1, hSw2⟩ := hSw; go_simp; try with_reducible rfl)
              try simp only [Act.put, List.setIfInBounds_toArray, List.set_cons_zero, List.set_cons_succ]
              refine wpAnyH_ready (rs := [15]) (by kernel_rfl) (by simp) ?_
              refine ready_drop rfl (fun K hK => ?_) AllReadyH.nil
              go_simp
              go_at_call 117
              refine (HFD.out WD1 HVD.out).mono ?_
              rintro e w5 ⟨rfl, rfl⟩
              have HBQ := Lib.hid (HBD.out.trans (((Below.refl WD1.heap.size WD1).alloc (Nat.le_refl _) (.cells (WS.map fun l => Value.string ⟨l.toArray⟩).toArray 9)).mono HBD.out.size))
              have hHeldN : (WD1.alloc (.cells (WS.map fun l => Value.string ⟨l.toArray⟩).toArray 9)).cell? ⟨w2.heap.size, 5, none⟩ = some (.string ⟨TT.toArray⟩) ∧ (WD1.alloc (.cells (WS.map fun l => Value.string ⟨l.toArray⟩).toArray 9)).cell? ⟨w.heap.size + 1 + 1, 5, none⟩ = some (.string ⟨i.text.toArray⟩) := ⟨cell_alloc _ hHeld.1, cell_alloc _ hHeld.2⟩
              refine hK.out _ _ hHeldN (fun _ => ?_)
              clear hK hHeld
              try simp only [Act.put, List.setIfInBounds_toArray, List.set_cons_zero, List.set_cons_succ]
              refine wpAnyH_ready (rs := [18]) (by kernel_rfl) (by simp) ?_
              refine ready_drop rfl (fun K hK => ?_) AllReadyH.nil
              go_simp
              go_at_call 116
              refine (hco WD1).mono ?_
              rintro e w6 ⟨rfl, rfl⟩
              refine hK.out _ _ hHeldN (fun _ => ?_)
              clear hK
              have hHeld := hHeldN
              clear hHeldN
              try simp only [Act.put, List.setIfInBounds_toArray, List.set_cons_zero, List.set_cons_succ]
              refine take_drop 19 (v := ?_) rfl (by kernel_rfl) (by kernel_rfl) (by kernel_rfl) (fun _ _ _ h => h) (by rfl) ?_ (by assumption) ?_
              rotate_left 1
              · (intro w hSw; obtain ⟨hSw1, hSw2⟩ := hSw; go_simp; try with_reducible rfl)
              try simp only [Act.put, List.setIfInBounds_toArray, List.set_cons_zero, List.set_cons_succ]
              refine take_drop 20 (v := ?_) rfl (by kernel_rfl) (by kernel_rfl) (by kernel_rfl) (fun _ _ _ h => h) (by rfl) ?_ (by assumption) ?_
              rotate_left 1
              · (intro w hSw; obtain ⟨hSw1, hSw2⟩ := hSw; go_simp; try with_reducible rfl)
              try simp only [Act.put, List.setIfInBounds_toArray, List.set_cons_zero, List.set_cons_succ]
              refine take_drop 21 (v := ?_) rfl (by kernel_rfl) (by kernel_rfl) (by kernel_rfl) (fun _ _ _ h => h) (by rfl) ?_ (by assumption) ?_
              rotate_left 1
              · (intro w hSw; obtain ⟨hSw1, hSw2⟩ := hSw; go_simp; try with_reducible rfl)
              try simp only [Act.put, List.setIfInBounds_toArray, List.set_cons_zero, List.set_cons_succ]
              refine take_drop 22 (v := ?_) rfl (by kernel_rfl) (by kernel_rfl) (by kernel_rfl) (fun _ _ _ h => h) (by rfl) ?_ (by assumption) ?_
              rotate_left 1
              · (intro w hSw; obtain ⟨hSw1, hSw2⟩ := hSw; go_simp; try with_reducible rfl)
              try simp only [Act.put, List.setIfInBounds_toArray, List.set_cons_zero, List.set_cons_succ]
              refine wpAnyH_done (by kernel_rfl) ?_ _
              go_wp2_with fail
              go_ret
              exact ⟨ret_bool HR2.out.symm, HBW.out.trans (HBQ.out.mono HBW.out.size)⟩
end Go.Proofs.YtpahhcmiimllaaaGreatDoor
