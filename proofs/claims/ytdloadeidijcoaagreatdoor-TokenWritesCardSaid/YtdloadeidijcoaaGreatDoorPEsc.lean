/- DERIVED. The program's escape. -/
import Derived.Test.YtdloadeidijcoaaGreatDoorPHex2
import Derived.Test.YtdloadeidijcoaaGreatDoorPComm
import Derived.Test.YtdloadeidijcoaaGreatDoorRTxt
set_option linter.unusedSimpArgs false
set_option linter.unusedVariables false
namespace Go.Proofs.YtdloadeidijcoaaGreatDoor
open Go.RowKit Go.Shelf

theorem idx_other (c : UInt8) (h : ¬ (c = 92 ∨ c = 34 ∨ c = 110 ∨ c = 116 ∨ c = 120)) : Lib.indexByte [92, 34, 110, 116, 120] c = -1 := by
  have := u8_all (p := fun c => ¬ (c = 92 ∨ c = 34 ∨ c = 110 ∨ c = 116 ∨ c = 120) → Lib.indexByte [92, 34, 110, 116, 120] c = -1) (by decide +kernel) c
  exact this h
theorem hex_ascii {c : UInt8} {n : Nat} (h : hexV c = some n) : c.toNat < 128 ∧ c ≠ 43 ∧ c ≠ 45 ∧ c ≠ 95 ∧ n < 16 := by
  have := u8_all (p := fun c => ∀ n, hexV c = some n → c.toNat < 128 ∧ c ≠ 43 ∧ c ≠ 45 ∧ c ≠ 95 ∧ n < 16) (fun i n h => by
    have h2 : (∀ i : Fin 256, (hexV (UInt8.ofNat i.val)).all (fun n => decide ((UInt8.ofNat i.val).toNat < 128 ∧ UInt8.ofNat i.val ≠ 43 ∧ UInt8.ofNat i.val ≠ 45 ∧ UInt8.ofNat i.val ≠ 95 ∧ n < 16)) = true) := by decide +kernel
    have := h2 i
    rw [h] at this
    simpa using this) c
  exact this n h
theorem hx_two (a b : UInt8) : hx 0 [a, b] = (match hexV a, hexV b with | some x, some y => some (16 * x + y) | _, _ => none) := by
  unfold hx hx hx
  cases hexV a <;> cases hexV b <;> simp
/-- how escape leaves the scanner, l: what is told of the text behind the backslash -/
def EscEnd (t : List UInt8) (X : Nat) (o : Option (UInt8 × List UInt8)) (w w' : World) (e : Ending) : Prop :=
  match o with
  | some (b, r) => e = .returned (.tuple #[u8V b, .bool true]) ∧ ScAt w' X t ((t.length - r.length : Nat) : Int) 0 ∧ w.grownBy w' (some X)
  | none => (∃ v, e = .returned (.tuple #[v, .bool false])) ∧ (∃ j, ScAt w' X t j 0) ∧ w.grownBy w' (some X)
set_option maxRecDepth 100000 in
set_option maxHeartbeats 8000000 in
theorem escape_any (X : Nat) (t q : List UInt8) (k : Nat) (w : World) (ht : t.length ≤ 1000000) (hk : k ≤ t.length) (hq : t.drop k = q) (hV : Vars w) (hX : Off X) (h : ScAt w X t k 0) :
    Calls Tryz.prog 77 #[pX X] w fun e w' => EscEnd t X (escL q) w w' e := by
  have hrest := rest_any X t k 0 w ht hk h
  rw [hq] at hrest
  have HS := Lib.hid h
  have HV := Lib.hid hV
  have hql : q.length = t.length - k := by rw [← hq, List.length_drop]
  clear h hV hq
  unfold pX strV at *
  cases q with
  | nil =>
    have HE : Hid (escL [] = none) := Lib.hid rfl
    have HI : Hid (∀ W : World, True) := Lib.hid (fun _ => trivial)
    go_enter Tryz.func77, Tryz.ntmps77
    go_wp2_with (go_at_call 61
                 refine hrest.mono ?_
                 rintro e w2 ⟨rfl, hb2⟩
                 have HB2 := Lib.hid hb2
                 have HS2 := Lib.hid (HS.out.below hb2)
                 clear hb2 hrest)
    go_ret2
    rw [HE.out]
    exact ⟨⟨_, rfl⟩, ⟨_, HS2.out⟩, grown_of_below HB2.out⟩
  | cons c r =>
    have hidx := idx_str (c :: r) 0 c rfl
    have hne : ((c :: r) == []) = false := rfl
    have HI : Hid (∀ W, Calls Tryz.prog 85 #[.string ⟨#[92, 34, 110, 116, 120]⟩, .int .u8 (c.toNat : Int)] W fun e w' => e = .returned (.int .i64 (Lib.indexByte [92, 34, 110, 116, 120] c)) ∧ W = w') := Lib.hid (fun W => idx_any [92, 34, 110, 116, 120] c W)
    have hl0 : 0 < (c :: r).length := by simp
    have hrl : (c :: r).length = r.length + 1 := rfl
    by_cases hp : c = 92 ∨ c = 34 ∨ c = 110 ∨ c = 116
    · have HE : Hid (escL (c :: r) = some (if c = 110 then 10 else if c = 116 then 9 else c, r)) := Lib.hid (by
        unfold escL; rcases hp with rfl | rfl | rfl | rfl <;> simp)
      have HJ : Hid ((k : Int) + 1 = ((t.length - r.length : Nat) : Int)) := Lib.hid (by omega)
      generalize (c :: r) = q at *
      rcases hp with rfl | rfl | rfl | rfl
      · rw [show Lib.indexByte [92, 34, 110, 116, 120] 92 = 0 by decide] at HI
        go_enter Tryz.func77, Tryz.ntmps77
        go_wp2_with (first
          | (go_at_call 61
             refine hrest.mono ?_
             rintro e w2 ⟨rfl, hb2⟩
             have HB2 := Lib.hid hb2
             have HS2 := Lib.hid (HS.out.below hb2)
             have HV2 := Lib.hid (HV.out.below hb2)
             have hc1 := HS2.out.c1
             have hf1 := HS2.out.fr 1
             clear hb2 hrest)
          | (go_at_call 85
             refine (HI.out w2).mono ?_
             rintro e w3 ⟨rfl, rfl⟩)
          | fail)
        go_ret2
        rw [HE.out]
        refine ⟨rfl, ?_, grown_set (grown_of_below HB2.out) _ _⟩
        rw [← HJ.out]; exact HS2.out.set1 _
      · rw [show Lib.indexByte [92, 34, 110, 116, 120] 34 = 1 by decide] at HI
        go_enter Tryz.func77, Tryz.ntmps77
        go_wp2_with (first
          | (go_at_call 61
             refine hrest.mono ?_
             rintro e w2 ⟨rfl, hb2⟩
             have HB2 := Lib.hid hb2
             have HS2 := Lib.hid (HS.out.below hb2)
             have HV2 := Lib.hid (HV.out.below hb2)
             have hc1 := HS2.out.c1
             have hf1 := HS2.out.fr 1
             clear hb2 hrest)
          | (go_at_call 85
             refine (HI.out w2).mono ?_
             rintro e w3 ⟨rfl, rfl⟩)
          | fail)
        go_ret2
        rw [HE.out]
        refine ⟨rfl, ?_, grown_set (grown_of_below HB2.out) _ _⟩
        rw [← HJ.out]; exact HS2.out.set1 _
      · rw [show Lib.indexByte [92, 34, 110, 116, 120] 110 = 2 by decide] at HI
        go_enter Tryz.func77, Tryz.ntmps77
        go_wp2_with (first
          | (go_at_call 61
             refine hrest.mono ?_
             rintro e w2 ⟨rfl, hb2⟩
             have HB2 := Lib.hid hb2
             have HS2 := Lib.hid (HS.out.below hb2)
             have HV2 := Lib.hid (HV.out.below hb2)
             have hc1 := HS2.out.c1
             have hf1 := HS2.out.fr 1
             clear hb2 hrest)
          | (go_at_call 85
             refine (HI.out w2).mono ?_
             rintro e w3 ⟨rfl, rfl⟩)
          | fail)
        go_ret2
        rw [HE.out]
        refine ⟨rfl, ?_, grown_set (grown_of_below HB2.out) _ _⟩
        rw [← HJ.out]; exact HS2.out.set1 _
      · rw [show Lib.indexByte [92, 34, 110, 116, 120] 116 = 3 by decide] at HI
        go_enter Tryz.func77, Tryz.ntmps77
        go_wp2_with (first
          | (go_at_call 61
             refine hrest.mono ?_
             rintro e w2 ⟨rfl, hb2⟩
             have HB2 := Lib.hid hb2
             have HS2 := Lib.hid (HS.out.below hb2)
             have HV2 := Lib.hid (HV.out.below hb2)
             have hc1 := HS2.out.c1
             have hf1 := HS2.out.fr 1
             clear hb2 hrest)
          | (go_at_call 85
             refine (HI.out w2).mono ?_
             rintro e w3 ⟨rfl, rfl⟩)
          | fail)
        go_ret2
        rw [HE.out]
        refine ⟨rfl, ?_, grown_set (grown_of_below HB2.out) _ _⟩
        rw [← HJ.out]; exact HS2.out.set1 _
    · by_cases hx0 : c = 120
      · subst hx0
        have f120 : ((120 : UInt8).toNat : Int) = 120 := rfl
        rw [show Lib.indexByte [92, 34, 110, 116, 120] 120 = 4 by decide] at HI
        clear hp
        have HQL := Lib.hid hql
        clear hql
        rcases r with _ | ⟨a, _ | ⟨b, r'⟩⟩
        · have HE : Hid (escL [120] = none) := Lib.hid (by simp [escL])
          clear hrl
          go_enter Tryz.func77, Tryz.ntmps77
          go_wp2_with (first
            | (go_at_call 61
               refine hrest.mono ?_
               rintro e w2 ⟨rfl, hb2⟩
               have HB2 := Lib.hid hb2
               have HS2 := Lib.hid (HS.out.below hb2)
               have HV2 := Lib.hid (HV.out.below hb2)
               have hc1 := HS2.out.c1
               have hf1 := HS2.out.fr 1
               clear hb2 hrest)
            | (go_at_call 85
               refine (HI.out w2).mono ?_
               rintro e w3 ⟨rfl, rfl⟩)
            | fail)
          go_ret2
          rw [HE.out]
          exact ⟨⟨_, rfl⟩, ⟨_, HS2.out⟩, grown_of_below HB2.out⟩
        · have HE : Hid (escL [120, a] = none) := Lib.hid (by simp [escL])
          clear hrl
          go_enter Tryz.func77, Tryz.ntmps77
          go_wp2_with (first
            | (go_at_call 61
               refine hrest.mono ?_
               rintro e w2 ⟨rfl, hb2⟩
               have HB2 := Lib.hid hb2
               have HS2 := Lib.hid (HS.out.below hb2)
               have HV2 := Lib.hid (HV.out.below hb2)
               have hc1 := HS2.out.c1
               have hf1 := HS2.out.fr 1
               clear hb2 hrest)
            | (go_at_call 85
               refine (HI.out w2).mono ?_
               rintro e w3 ⟨rfl, rfl⟩)
            | fail)
          go_ret2
          rw [HE.out]
          exact ⟨⟨_, rfl⟩, ⟨_, HS2.out⟩, grown_of_below HB2.out⟩
        · have hql := HQL.out
          have hext : (⟨(120 :: a :: b :: r').toArray⟩ : ByteArray).extract 1 3 = ⟨#[a, b]⟩ := by rw [ext_strP]; rfl
          have hl3 : 3 ≤ (120 :: a :: b :: r').length := by simp
          have HP := Lib.hid (fun W hW => parse16 a b W hW)
          have HJ : Hid ((k : Int) + 3 = ((t.length - r'.length : Nat) : Int)) := Lib.hid (by simp at hql; omega)
          have hlim : k + 3 ≤ t.length := by simp at hql; omega
          clear hql HQL
          rw [hx_two] at HP
          rcases hxa : hexV a with _ | x
          · have HE : Hid (escL (120 :: a :: b :: r') = none) := Lib.hid (by simp [escL, hxa])
            rw [hxa] at HP
            simp only [PuRes] at HP
            clear hxa hrl
            generalize (120 :: a :: b :: r') = q at *
            go_enter Tryz.func77, Tryz.ntmps77
            go_wp2_with (first
              | (go_at_call 61
                 refine hrest.mono ?_
                 rintro e w2 ⟨rfl, hb2⟩
                 have HB2 := Lib.hid hb2
                 have HS2 := Lib.hid (HS.out.below hb2)
                 have HV2 := Lib.hid (HV.out.below hb2)
                 clear hb2 hrest)
              | (go_at_call 85
                 refine (HI.out w2).mono ?_
                 rintro e w3 ⟨rfl, rfl⟩)
              | (go_at_call 89
                 refine (HP.out w2 HV2.out).mono ?_
                 rintro e w4 ⟨⟨tp, p, rfl⟩, hb4⟩
                 have HB4 := Lib.hid (HB2.out.trans (hb4.mono HB2.out.size))
                 have HS4 := Lib.hid (HS2.out.below hb4)
                 have hc1 := HS4.out.c1
                 have hf1 := HS4.out.fr 1
                 clear hb4)
              | fail)
            go_ret2
            rw [HE.out]
            exact ⟨⟨_, rfl⟩, ⟨_, HS4.out.set1 _⟩, grown_set (grown_of_below HB4.out) _ _⟩
          · rcases hxb : hexV b with _ | y
            · have HE : Hid (escL (120 :: a :: b :: r') = none) := Lib.hid (by simp [escL, hxa, hxb])
              rw [hxa, hxb] at HP
              simp only [PuRes] at HP
              clear hxa hxb hrl
              generalize (120 :: a :: b :: r') = q at *
              go_enter Tryz.func77, Tryz.ntmps77
              go_wp2_with (first
                | (go_at_call 61
                   refine hrest.mono ?_
                   rintro e w2 ⟨rfl, hb2⟩
                   have HB2 := Lib.hid hb2
                   have HS2 := Lib.hid (HS.out.below hb2)
                   have HV2 := Lib.hid (HV.out.below hb2)
                   clear hb2 hrest)
                | (go_at_call 85
                   refine (HI.out w2).mono ?_
                   rintro e w3 ⟨rfl, rfl⟩)
                | (go_at_call 89
                   refine (HP.out w2 HV2.out).mono ?_
                   rintro e w4 ⟨⟨tp, p, rfl⟩, hb4⟩
                   have HB4 := Lib.hid (HB2.out.trans (hb4.mono HB2.out.size))
                   have HS4 := Lib.hid (HS2.out.below hb4)
                   have hc1 := HS4.out.c1
                   have hf1 := HS4.out.fr 1
                   clear hb4)
                | fail)
              go_ret2
              rw [HE.out]
              exact ⟨⟨_, rfl⟩, ⟨_, HS4.out.set1 _⟩, grown_set (grown_of_below HB4.out) _ _⟩
            · have HE : Hid (escL (120 :: a :: b :: r') = some (UInt8.ofNat (16 * x + y), r')) := Lib.hid (by simp [escL, hxa, hxb])
              rw [hxa, hxb] at HP
              simp only [PuRes] at HP
              have ha := hex_ascii hxa
              have hb := hex_ascii hxb
              have hn0 : 16 * x + y < 256 := by omega
              have HU : Hid ((Value.int .u8 ((16 * x + y : Nat) : Int)) = u8V (UInt8.ofNat (16 * x + y))) := Lib.hid (by unfold u8V; rw [UInt8.toNat_ofNat', Nat.mod_eq_of_lt (by omega)])
              have HCA : Hid (∀ W : World, Calls Tryz.prog 90 #[.string ⟨#[a, b]⟩, .string ⟨#[43, 45, 95]⟩] W fun e w' => e = .returned (.bool false) ∧ Below W.heap.size W w') := Lib.hid (fun W => by
                refine (Tryz.strings_ContainsAny_laid ⟨#[a, b]⟩ ⟨#[43, 45, 95]⟩ W (by show 2 < _; omega) (by show 3 < _; omega) ?_ ?_).mono ?_
                · intro j u hu
                  have : u ∈ [a, b] := List.mem_of_getElem? hu
                  simp at this
                  rcases this with rfl | rfl
                  · exact ha.1
                  · exact hb.1
                · intro j u hu
                  have : u ∈ [43, 45, 95] := List.mem_of_getElem? hu
                  simp at this
                  rcases this with rfl | rfl | rfl <;> decide
                · rintro e w' ⟨rfl, hb'⟩
                  refine ⟨ret_bool ?_, hb'⟩
                  show Lib.containsAny [a, b] [43, 45, 95] = false
                  have ea : List.contains [43, 45, 95] a = false := by simp [ha.2.1, ha.2.2.1, ha.2.2.2.1]
                  have eb : List.contains [43, 45, 95] b = false := by simp [hb.2.1, hb.2.2.1, hb.2.2.2.1]
                  simp only [Lib.containsAny, Lib.indexAny, ea, eb]
                  rfl)
              generalize 16 * x + y = n at *
              clear hxa hxb ha hb hrl
              generalize (120 :: a :: b :: r') = q at *
              go_enter Tryz.func77, Tryz.ntmps77
              go_wp2_with (first
                | (go_at_call 61
                   refine hrest.mono ?_
                   rintro e w2 ⟨rfl, hb2⟩
                   have HB2 := Lib.hid hb2
                   have HS2 := Lib.hid (HS.out.below hb2)
                   have HV2 := Lib.hid (HV.out.below hb2)
                   clear hb2 hrest)
                | (go_at_call 85
                   refine (HI.out w2).mono ?_
                   rintro e w3 ⟨rfl, rfl⟩)
                | (go_at_call 89
                   refine (HP.out w2 HV2.out).mono ?_
                   rintro e w4 ⟨rfl, hb4⟩
                   have HB4 := Lib.hid (HB2.out.trans (hb4.mono HB2.out.size))
                   have HS4 := Lib.hid (HS2.out.below hb4)
                   have hc1 := HS4.out.c1
                   have hf1 := HS4.out.fr 1
                   clear hb4)
                | (go_at_call 90; refine (HCA.out _).mono ?_; rintro e w5 ⟨rfl, hb5⟩; have HB5 := Lib.hid hb5; clear hb5))
              go_ret2
              rw [HE.out]
              refine ⟨by rw [← HU.out]; rfl, ?_, grown_below (grown_set (grown_of_below HB4.out) _ _) HB5.out⟩
              rw [← HJ.out]
              exact (HS4.out.set1 _).below HB5.out
      · have hno : ¬ (c = 92 ∨ c = 34 ∨ c = 110 ∨ c = 116 ∨ c = 120) := by simp only [not_or] at hp ⊢; exact ⟨hp.1, hp.2.1, hp.2.2.1, hp.2.2.2, hx0⟩
        rw [idx_other c hno] at HI
        have HE : Hid (escL (c :: r) = none) := Lib.hid (by
          simp only [not_or] at hno
          unfold escL; simp [hno.1, hno.2.1, hno.2.2.1, hno.2.2.2.1, hno.2.2.2.2])
        generalize (c :: r) = q at *
        clear hp hx0 hno
        go_enter Tryz.func77, Tryz.ntmps77
        go_wp2_with (first
          | (go_at_call 61
             refine hrest.mono ?_
             rintro e w2 ⟨rfl, hb2⟩
             have HB2 := Lib.hid hb2
             have HS2 := Lib.hid (HS.out.below hb2)
             have HV2 := Lib.hid (HV.out.below hb2)
             have hc1 := HS2.out.c1
             have hf1 := HS2.out.fr 1
             clear hb2 hrest)
          | (go_at_call 85
             refine (HI.out w2).mono ?_
             rintro e w3 ⟨rfl, rfl⟩)
          | fail)
        go_ret2
        rw [HE.out]
        exact ⟨⟨_, rfl⟩, ⟨_, HS2.out⟩, grown_of_below HB2.out⟩
end Go.Proofs.YtdloadeidijcoaaGreatDoor
