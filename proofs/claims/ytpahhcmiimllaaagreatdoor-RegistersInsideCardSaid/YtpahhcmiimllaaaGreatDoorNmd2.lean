/- DERIVED. The program's named, whole. -/
import Derived.Test.YtpahhcmiimllaaaGreatDoorRt2
import Derived.Lib.SpaceUEq
import Derived.Lib.DecodeN
set_option linter.unusedSimpArgs false
set_option linter.unusedVariables false
namespace Go.Proofs.YtpahhcmiimllaaaGreatDoor
open Go.RowKit Go.Shelf

def runeBad (r : Nat) : Bool := !((decide (97 ≤ r) && decide (r ≤ 122)) || (decide (65 ≤ r) && decide (r ≤ 90)) || decide (r = 95) || (decide (48 ≤ r) && decide (r ≤ 57)))
def nameC (c : UInt8) : Bool := letC c || digC c
theorem nameC_iff (c : UInt8) : nameC c = !runeBad c.toNat := by
  have := u8_all (p := fun c => nameC c = !runeBad c.toNat) (by decide +kernel) c
  exact this
theorem rune_high {r : Nat} (h : 128 ≤ r) : runeBad r = true := by
  unfold runeBad; simp; omega
set_option maxRecDepth 100000 in
set_option maxHeartbeats 4000000 in
theorem named1_any (r : Nat) (w : World) : Calls Tryz.prog 114 #[.int .i32 (r : Int)] w fun e w' => e = .returned (.bool (runeBad r)) ∧ w' = w := by
  have hz : ∃ z : Int, z = (r : Int) := ⟨_, rfl⟩
  obtain ⟨z, hz⟩ := hz
  have HZ := Lib.hid hz
  rw [← hz]
  have hcases : z < 48 ∨ (48 ≤ z ∧ z ≤ 57) ∨ (57 < z ∧ z < 65) ∨ (65 ≤ z ∧ z ≤ 90) ∨ (90 < z ∧ z < 95) ∨ z = 95 ∨ z = 96 ∨ (97 ≤ z ∧ z ≤ 122) ∨ 122 < z := by omega
  clear hz
  rcases hcases with h | h | h | h | h | h | h | h | h
  all_goals (
    have HP : Hid (runeBad r = ((z != 95) && (decide (z < 48) || decide (57 < z)) && (decide (z < 97) || decide (122 < z)) && (decide (z < 65) || decide (90 < z)))) := Lib.hid (by
      have hz := HZ.out
      unfold runeBad
      rw [Bool.eq_iff_iff]
      simp
      omega)
    have q0 : (z != 95) = decide (z ≠ 95) := by by_cases hh : z = 95 <;> simp [hh]
    cases g0 : (z != 95) <;> cases g1 : decide (z < 48) <;> cases g2 : decide (57 < z) <;> cases g3 : decide (z < 97) <;> cases g4 : decide (122 < z) <;> cases g5 : decide (z < 65) <;> cases g6 : decide (90 < z) <;>
    first
    | (exfalso; simp at g0 g1 g2 g3 g4 g5 g6; omega)
    | (rw [g0, g1, g2, g3, g4, g5, g6] at HP
       clear h q0
       go_enter Tryz.func114, Tryz.ntmps114
       go_wp2_with fail
       go_ret
       exact ⟨ret_bool (by rw [HP.out]; rfl), rfl⟩))
theorem idx_from (s : List UInt8) : ∀ (f pos : Nat), s.length ≤ pos + f → (decide (0 ≤ Lib.idxFuncFrom runeBad true ⟨s.toArray⟩ f pos) = !(s.drop pos).all nameC)
  | 0, pos, h => by
    rw [List.drop_eq_nil_of_le (by omega)]; rfl
  | f + 1, pos, h => by
    unfold Lib.idxFuncFrom
    have hs : (⟨s.toArray⟩ : ByteArray).size = s.length := rfl
    rw [hs]
    by_cases hp : pos < s.length
    · rw [if_pos hp]
      obtain ⟨c, hc⟩ := get_some hp
      have hd := drop_cons hc
      rw [hd, List.all_cons, nameC_iff]
      have hg : (⟨s.toArray⟩ : ByteArray).get! pos = c := by
        obtain ⟨h1, h2⟩ := List.getElem?_eq_some_iff.1 hc
        show s.toArray[pos]! = c
        simp [h1, h2]
      have hdec := Lib.decode_at ⟨s.toArray⟩ pos
      rw [hg] at hdec
      rcases Lib.decodeN_cases ((⟨s.toArray⟩ : ByteArray).size - pos) c.toNat ((⟨s.toArray⟩ : ByteArray).get! (pos + 1)).toNat ((⟨s.toArray⟩ : ByteArray).get! (pos + 2)).toNat ((⟨s.toArray⟩ : ByteArray).get! (pos + 3)).toNat with ⟨h1, h2⟩ | hrest
      · rw [hdec, h2]
        simp only
        cases hb : runeBad c.toNat with
        | true => simp
        | false =>
          simp only [Bool.false_eq_true, if_false, Bool.not_false, Bool.true_and]
          exact idx_from s f (pos + 1) (by omega)
      · have hhi : 128 ≤ (Lib.decodeN ((⟨s.toArray⟩ : ByteArray).size - pos) c.toNat ((⟨s.toArray⟩ : ByteArray).get! (pos + 1)).toNat ((⟨s.toArray⟩ : ByteArray).get! (pos + 2)).toNat ((⟨s.toArray⟩ : ByteArray).get! (pos + 3)).toNat).1 := by
          rcases hrest with ⟨_, _, _, h4, h5⟩ | ⟨_, _, _, _, h5, h6⟩ | ⟨h4, _⟩ | h4
          · rw [h5]; exact h4
          · rw [h6]; simp only; omega
          · omega
          · rw [h4]; simp
        have hch : 128 ≤ c.toNat := by
          rcases hrest with ⟨h4, _⟩ | ⟨h4, _⟩ | ⟨h4, h5⟩ | h4
          · omega
          · omega
          · by_cases hlt : c.toNat < 128
            · exfalso
              have : Lib.decodeN ((⟨s.toArray⟩ : ByteArray).size - pos) c.toNat ((⟨s.toArray⟩ : ByteArray).get! (pos + 1)).toNat ((⟨s.toArray⟩ : ByteArray).get! (pos + 2)).toNat ((⟨s.toArray⟩ : ByteArray).get! (pos + 3)).toNat = (c.toNat, 1) := by unfold Lib.decodeN; rw [if_pos hlt]
              rw [this] at h5; simp at h5
            · omega
          · by_cases hlt : c.toNat < 128
            · exfalso
              have : Lib.decodeN ((⟨s.toArray⟩ : ByteArray).size - pos) c.toNat ((⟨s.toArray⟩ : ByteArray).get! (pos + 1)).toNat ((⟨s.toArray⟩ : ByteArray).get! (pos + 2)).toNat ((⟨s.toArray⟩ : ByteArray).get! (pos + 3)).toNat = (c.toNat, 1) := by unfold Lib.decodeN; rw [if_pos hlt]
              rw [this] at h4; simp at h4; omega
            · omega
        rw [hdec, rune_high hhi, if_pos rfl, rune_high hch]; simp
    · rw [if_neg hp, List.drop_eq_nil_of_le (by omega)]; rfl
end Go.Proofs.YtpahhcmiimllaaaGreatDoor
namespace Go.Proofs.YtpahhcmiimllaaaGreatDoor
open Go.RowKit Go.Shelf

set_option maxRecDepth 100000 in
set_option maxHeartbeats 4000000 in
theorem indexF_any (s : List UInt8) (w : World) : Calls Tryz.prog 135 #[.string ⟨s.toArray⟩, .func (.func 114) #[] #[]] w fun e w' => (∃ k : Int, e = .returned (.int .i64 k) ∧ decide (0 ≤ k) = !s.all nameC) ∧ Below w.heap.size w w' := by
  have hi := Tryz.strings_indexFunc 114 #[] (enters_of Tryz.func114 (by kernel_rfl) rfl) runeBad true ⟨s.toArray⟩ w (fun W x _ => (named1_any x W).mono fun e w' ⟨he, hw⟩ => ⟨he, 0, hw⟩)
  have HK : Hid (decide (0 ≤ Lib.idxFunc runeBad true ⟨s.toArray⟩) = !s.all nameC) := Lib.hid (by
    have := idx_from s s.length 0 (by omega)
    rwa [List.drop_zero] at this)
  generalize Lib.idxFunc runeBad true ⟨s.toArray⟩ = K at *
  go_enter Tryz.func135, Tryz.ntmps135
  go_wp2_with (go_at_call 148; refine hi.mono ?_; rintro e w2 ⟨rfl, hb2⟩; have HB2 := Lib.hid hb2; clear hb2 hi)
  go_ret
  exact ⟨⟨K, rfl, HK.out⟩, HB2.out⟩
set_option maxRecDepth 100000 in
set_option maxHeartbeats 4000000 in
theorem containsF_any (s : List UInt8) (w : World) : Calls Tryz.prog 113 #[.string ⟨s.toArray⟩, .func (.func 114) #[] #[]] w fun e w' => e = .returned (.bool (!s.all nameC)) ∧ Below w.heap.size w w' := by
  have hi := indexF_any s w
  generalize s.all nameC = F at *
  go_enter Tryz.func113, Tryz.ntmps113
  go_wp2_with (go_at_call 135; refine hi.mono ?_; rintro e w2 ⟨⟨k, rfl, hk⟩, hb2⟩; have HB2 := Lib.hid hb2; clear hb2 hi)
  go_ret
  exact ⟨rfl, HB2.out⟩
set_option maxRecDepth 100000 in
set_option maxHeartbeats 4000000 in
theorem named_any (s : List UInt8) (w : World) : Calls Tryz.prog 101 #[.string ⟨s.toArray⟩] w fun e w' => e = .returned (.bool (namedB s)) ∧ Below w.heap.size w w' := by
  have HB0 := Lib.hid (Below.refl w.heap.size w)
  have HR : Hid (namedB s = (decide (1 ≤ s.length) && decide (s.length ≤ 60) && !(digC (s.headD 0)) && s.all nameC)) := Lib.hid rfl
  generalize namedB s = R at *
  by_cases h0 : s = []
  · subst h0
    have HR2 : Hid (R = false) := Lib.hid (by rw [HR.out]; rfl)
    clear HR
    go_enter Tryz.func101, Tryz.ntmps101
    go_wp2_with fail
    go_ret
    exact ⟨ret_bool HR2.out.symm, HB0.out⟩
  · have hpos := List.length_pos_iff.2 h0
    have f1 : decide ((s.length : Int) < 1) = false := decide_eq_false (by omega)
    by_cases h60 : 60 < s.length
    · have f2 : decide ((60 : Int) < (s.length : Int)) = true := decide_eq_true (by omega)
      have HR2 : Hid (R = false) := Lib.hid (by rw [HR.out, decide_eq_false (show ¬ s.length ≤ 60 by omega)]; simp)
      clear HR h60
      go_enter Tryz.func101, Tryz.ntmps101
      go_wp2_with fail
      go_ret
      exact ⟨ret_bool HR2.out.symm, HB0.out⟩
    · have f2 : decide ((60 : Int) < (s.length : Int)) = false := decide_eq_false (by omega)
      obtain ⟨c, hc⟩ := get_some (xs := s) (k := 0) (by omega)
      have hidx := idx_str s 0 c hc
      have HD : Hid (digC (s.headD 0) = (decide ((48 : Int) ≤ (c.toNat : Int)) && decide ((c.toNat : Int) ≤ 57))) := Lib.hid (by
        have hh : s.headD 0 = c := by
          cases s with
          | nil => simp at hc
          | cons a q => simp at hc; exact hc
        rw [hh]
        have := u8_all (p := fun c => digC c = (decide ((48 : Int) ≤ (c.toNat : Int)) && decide ((c.toNat : Int) ≤ 57))) (by decide +kernel) c
        exact this)
      have HR2 : Hid (R = (!(decide ((48 : Int) ≤ (c.toNat : Int)) && decide ((c.toNat : Int) ≤ 57)) && s.all nameC)) := Lib.hid (by
        rw [HR.out, HD.out, decide_eq_true (show 1 ≤ s.length by omega), decide_eq_true (show s.length ≤ 60 by omega)]; simp)
      have hcf := containsF_any s w
      clear HR HD h60 hc h0
      generalize s.all nameC = F at *
      cases g1 : decide ((48 : Int) ≤ (c.toNat : Int)) <;> cases g2 : decide ((c.toNat : Int) ≤ 57) <;> rw [g1, g2] at HR2 <;>
      first
      | (go_enter Tryz.func101, Tryz.ntmps101
         go_wp2_with (go_at_call 113; refine hcf.mono ?_; rintro e w2 ⟨rfl, hb2⟩; have HB2 := Lib.hid hb2; clear hb2 hcf)
         go_ret
         exact ⟨ret_bool (by rw [HR2.out]; cases F <;> rfl), HB2.out⟩)
      | (go_enter Tryz.func101, Tryz.ntmps101
         go_wp2_with fail
         go_ret
         exact ⟨ret_bool (by rw [HR2.out]; rfl), HB0.out⟩)
end Go.Proofs.YtpahhcmiimllaaaGreatDoor
