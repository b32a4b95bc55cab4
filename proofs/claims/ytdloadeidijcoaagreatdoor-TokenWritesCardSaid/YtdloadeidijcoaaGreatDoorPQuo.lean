/- DERIVED. The program's quoted. -/
import Derived.Test.YtdloadeidijcoaaGreatDoorPEsc
import Derived.Laws.BytesArg
set_option linter.unusedSimpArgs false
set_option linter.unusedVariables false
namespace Go.Proofs.YtdloadeidijcoaaGreatDoor
open Go.RowKit Go.Shelf

theorem byte_info : (Tryz.prog.info? 5).map (fun i => (i.zero, i.size, i.bytes)) = some (some (.int .u8 0), 1, 1) := by kernel_rfl
/-- v is a row of the call's own of bytes p -/
def Bytes (w : World) (B : Nat) (v : Value) (p : List UInt8) : Prop := w.ownsRow B 5 1 v p.length (p.map u8V)
theorem conv_row {w : World} {B : Nat} {v : Value} {p : List UInt8} (h : Bytes w B v p) : (convert 41 9 v).run Tryz.prog w = .ok (.string ⟨p.toArray⟩) w := by
  rcases h.2 with ⟨rfl, hn⟩ | ⟨g, cap, cur, rfl, hb, hh, hn, hc, hs, ht⟩
  · have : p = [] := List.length_eq_zero_iff.1 hn
    subst this
    exact run_convert_bytes_nil _ 41 5 Tryz.underlying41 Tryz.underlying5 0 0 _ Tryz.underlying9
  · refine run_convert_bytes_back _ _ _ 5 ⟨g, 0, none⟩ cap p Tryz.underlying41 Tryz.underlying5 Tryz.underlying9 (fun j hj => ?_)
    have hj' : j < p.length * 1 := by omega
    have e : (p.map u8V)[j]? = some (u8V p[j]) := by rw [List.getElem?_map, List.getElem?_eq_getElem hj]; rfl
    rw [← ht, List.getElem?_take_of_lt hj', Array.getElem?_toList] at e
    rw [add_plain', Nat.zero_add]
    simp only [World.cell?, hh, e]
    rfl
/-- how quoted leaves the scanner -/
def QuoEnd (t : List UInt8) (X : Nat) (o : Option (List UInt8 × List UInt8)) (w w' : World) (e : Ending) : Prop :=
  match o with
  | some (s, r) => e = .returned (.tuple #[.string ⟨s.toArray⟩, .bool true]) ∧ ScAt w' X t ((t.length - r.length : Nat) : Int) 0 ∧ w.grownBy w' (some X)
  | none => e = .returned (.tuple #[.string ⟨#[]⟩, .bool false]) ∧ (∃ j, ScAt w' X t j 0) ∧ w.grownBy w' (some X)
theorem grown_row {a w w' : World} {X : Nat} {B : Nat} {v : Value} {p : List UInt8} (h : a.grownBy w (some X)) (hr : Bytes w B v p) (hB : a.heap.size ≤ B) (hg : w.grownBy w' v.ownBlock) : a.grownBy w' (some X) :=
  World.grownBy.andThen h hg (fun j e => .inl (Nat.le_trans hB (own_lt hr e).1))
theorem after_push {w W w6 : World} {X : Nat} {t p : List UInt8} {j : Int} {v : Value} {o : Obj} (hS : ScAt W X t j 0) (hV : Vars W) (hG : w.grownBy W (some X)) (hR : Bytes W w.heap.size v p) (hVO : ∀ j, w.heap.size ≤ j → Off j) (hgr : (W.alloc o).grownBy w6 v.ownBlock) :
    ScAt w6 X t j 0 ∧ Vars w6 ∧ w.grownBy w6 (some X) := by
  have hb : Below W.heap.size W (W.alloc o) := (Below.refl _ W).alloc (Nat.le_refl _) o
  have hRa : Bytes (W.alloc o) w.heap.size v p := own_below hR hb
  refine ⟨BlkAt.kept (BlkAt.alloc hS o) hgr (own_blk_ne hRa (BlkAt.alloc hS o) (by decide)), (hV.below hb).grown hgr (fun j e => hVO j (own_lt hRa e).1), ?_⟩
  exact grown_row (grown_below hG hb) hRa (Nat.le_refl _) hgr
theorem esc_left {t r : List UInt8} {k : Nat} {b : UInt8} (hk : k ≤ t.length) (h : escL (t.drop k) = some (b, r)) : ∃ j, 1 ≤ j ∧ k + j ≤ t.length ∧ r = t.drop (k + j) ∧ t.length - r.length = k + j := by
  obtain ⟨j, h1, h2, rfl⟩ := escL_drop h
  rw [List.length_drop] at h2
  refine ⟨j, h1, by omega, by rw [List.drop_drop], ?_⟩
  simp only [List.length_drop]; omega
set_option maxRecDepth 100000 in
set_option maxHeartbeats 8000000 in
theorem quoted_prog (X : Nat) (t q : List UInt8) (k0 : Nat) (w : World) (ht : t.length ≤ 1000000) (hq : t.drop k0 = 34 :: q) (hV : Vars w) (hX : Off X) (h : ScAt w X t k0 0) :
    Calls Tryz.prog 67 #[pX X] w fun e w' => QuoEnd t X (quoL q) w w' e := by
  have hk0 : k0 < t.length := by have := congrArg List.length hq; simp at this; omega
  have hq1 : t.drop (k0 + 1) = q := by rw [← List.drop_drop, hq]; rfl
  obtain ⟨Y, hY⟩ : ∃ Y, quoL q = Y := ⟨_, rfl⟩
  have H0 : Hid (QuoAt t Y (k0 + 1) []) := Lib.hid (by unfold QuoAt; rw [hq1, hY]; cases Y <;> rfl)
  rw [hY]
  have HE : Hid (∀ (k : Nat) (W : World), k ≤ t.length → Vars W → ScAt W X t k 0 → Calls Tryz.prog 77 #[pX X] W fun e w' => EscEnd t X (escL (t.drop k)) W w' e) := Lib.hid (fun k W hk hV h => escape_any X t _ k W ht hk rfl hV hX h)
  obtain ⟨i0, hi, hz0, hz1, hz2⟩ := info_parts byte_info
  have HI := Lib.hid hi
  have hc0 := h.c0
  have hc1 := h.c1
  have hf1 := h.fr 1
  have HS0 := Lib.hid (h.set1 (k0 + 1))
  have HG0 := Lib.hid (grown_set (grown_refl w (some X)) 1 (.int .i64 ((k0 : Int) + 1)))
  have HVO := Lib.hid (fun j (hj : w.heap.size ≤ j) => hV.off hj)
  have HV0 := Lib.hid (hV.grown HG0.out (fun X' e => by cases e; exact hX))
  have HX := Lib.hid hX
  clear hq hq1 hY h hV hX hi
  unfold pX at *
  go_enter Tryz.func67, Tryz.ntmps67
  go_wp2
  clear hc0 hc1 hf1
  go_loopw [4] (fun v wr => ∃ (k : Nat) (p : List UInt8), k ≤ t.length ∧ p.length ≤ k ∧ Hid (Bytes wr w.heap.size v p) ∧ Hid (QuoAt t Y k p) ∧ Hid (ScAt wr X t k 0) ∧ Hid (Vars wr) ∧ Hid (w.grownBy wr (some X))) (fun _ wr => t.length - (match wr.cell? ⟨X, 1, none⟩ with | some v => intOf v | none => 0).toNat)
  case atStart => exact ⟨k0 + 1, [], by omega, by simp, Lib.hid (World.ownsRow_nil _ _ _ _), H0, HS0, HV0, HG0⟩
  case round =>
    obtain ⟨k, p, hk, hp, HR, HK, HS, HV, HG⟩ := hrel
    obtain ⟨A, cc, rfl, _, _, _⟩ := own_slice HR.out
    have hm := HS.out.c1
    have HM : Hid (∀ wn (j : Int), ScAt wn X t j 0 → (k : Int) < j → j ≤ t.length → t.length - (match wn.cell? ⟨X, 1, none⟩ with | some v => intOf v | none => 0).toNat < t.length - (match wr.cell? ⟨X, 1, none⟩ with | some v => intOf v | none => 0).toNat) := Lib.hid (fun wn j h h1 h2 => by
      rw [hm, h.c1]; simp only [intOf]; omega)
    clear hm
    have hc0 := HS.out.c0
    have hc1 := HS.out.c1
    have hf1 := HS.out.fr 1
    by_cases hlt : k < t.length
    · obtain ⟨c, hc⟩ := get_some hlt
      have hidx := idx_str t k c hc
      have HSQ : Hid (quoL (t.drop k) = if c = 34 then some ([], t.drop (k + 1)) else if c = 92 then (match escL (t.drop (k + 1)) with | none => none | some (b, r') => (quoL r').map (fun x => (b :: x.1, x.2))) else if c < 32 ∨ 126 < c then none else (quoL (t.drop (k + 1))).map (fun x => (c :: x.1, x.2))) := Lib.hid (by rw [drop_cons hc, quo_step]; rfl)
      have HS1 := Lib.hid (((HS.out.drew 1).drew 1).set1 ((k : Int) + 1))
      have HG1 := Lib.hid (grown_set (grown_draw (grown_draw HG.out 1) 1) 1 (.int .i64 ((k : Int) + 1)))
      have HR1 : Hid (Bytes ((((wr.drewN 1).drewN 1)).setCell ⟨X, 1, none⟩ (.int .i64 ((k : Int) + 1))) w.heap.size (.slice A p.length cc) p) := Lib.hid (own_set (own_below (own_below HR.out (below_draw (Below.refl _ _) 1)) (below_draw (Below.refl _ _) 1)) (own_blk_ne (own_below (own_below HR.out (below_draw (Below.refl _ _) 1)) (below_draw (Below.refl _ _) 1)) ((HS.out.drew 1).drew 1) (by decide)) _ _)
      have HV1 := Lib.hid (HV.out.grown (grown_set (grown_draw (grown_draw (grown_refl wr (some X)) 1) 1) 1 (.int .i64 ((k : Int) + 1))) (fun X' e => by cases e; exact HX.out))
      clear hc
      by_cases h34 : c = 34
      · have f1 : ((c.toNat : Int) == 34) = true := by rw [h34]; rfl
        have HY : Hid (Y = some (p, t.drop (k + 1))) := Lib.hid (by
          have := HK.out
          unfold QuoAt at this
          rw [HSQ.out, if_pos h34] at this
          rw [← this]; simp)
        have hcv : (convert 41 9 (.slice A p.length cc)).run Tryz.prog ((wr.setCell ⟨X, 1, none⟩ (.int .i64 ((k : Int) + 1))).drew.drew) = .ok (.string ⟨p.toArray⟩) ((wr.setCell ⟨X, 1, none⟩ (.int .i64 ((k : Int) + 1))).drew.drew) := conv_row HR1.out
        have HJ : Hid ((k : Int) + 1 = ((t.length - (t.drop (k + 1)).length : Nat) : Int)) := Lib.hid (by rw [List.length_drop]; omega)
        clear h34
        go_wp2_with fail
        go_region
        go_wp2_with fail
        go_region
        go_wp2_with fail
        go_ret2
        rw [HY.out]
        refine ⟨rfl, ?_, HG1.out⟩
        rw [← HJ.out]; exact HS1.out
      · have f1 : ((c.toNat : Int) == 34) = false := u8_ne h34
        have HI2 := HI.out
        by_cases h92 : c = 92
        · have f2 : ((c.toNat : Int) == 92) = true := by rw [h92]; rfl
          have HN : Hid (QuoAt t Y k p → (match escL (t.drop (k + 1)) with | none => Y = none | some (b, r') => (quoL r').map (fun x => (p ++ b :: x.1, x.2)) = Y)) := Lib.hid (fun h => by
            unfold QuoAt at h
            rw [HSQ.out, if_neg h34, if_pos h92] at h
            revert h
            rcases escL (t.drop (k + 1)) with _ | ⟨b, r'⟩
            · exact fun h => h.symm
            · intro h; simpa [Option.map_map, Function.comp_def] using h)
          clear h34 h92
          rcases hE : escL (t.drop (k + 1)) with _ | ⟨b, r'⟩
          · have HY : Hid (Y = none) := Lib.hid (by have := HN.out HK.out; rw [hE] at this; exact this)
            have HE2 : Hid (∀ W : World, Vars W → ScAt W X t ((k : Int) + 1) 0 → Calls Tryz.prog 77 #[.pointer (some ⟨X, 0, none⟩)] W fun e w' => EscEnd t X none W w' e) := Lib.hid (fun W hV h => by
              have := HE.out (k + 1) W (by omega) hV (by simpa using h)
              rw [hE] at this; exact this)
            clear hE
            go_wp2_with fail
            go_region
            go_wp2_with fail
            go_region
            go_wp2_with (go_at_call 77
                         refine (HE2.out _ HV1.out HS1.out).mono ?_
                         rintro e w3 ⟨⟨v, rfl⟩, hj, hg3⟩
                         have HJ := Lib.hid hj
                         have HG3 := Lib.hid (grown_trans HG1.out hg3)
                         clear hj hg3)
            go_ret2
            rw [HY.out]
            exact ⟨rfl, HJ.out, HG3.out⟩
          · obtain ⟨j, hj1, hj2, hrd, hrl⟩ := esc_left (k := k + 1) (by omega) hE
            have HE2 : Hid (∀ W : World, Vars W → ScAt W X t ((k : Int) + 1) 0 → Calls Tryz.prog 77 #[.pointer (some ⟨X, 0, none⟩)] W fun e w' => e = .returned (.tuple #[.int .u8 (b.toNat : Int), .bool true]) ∧ ScAt w' X t ((k + 1 + j : Nat) : Int) 0 ∧ W.grownBy w' (some X)) := Lib.hid (fun W hV h => by
              have := HE.out (k + 1) W (by omega) hV (by simpa using h)
              rw [hE] at this
              simp only [EscEnd, hrl] at this
              exact this)
            have HN2 : Hid (QuoAt t Y (k + 1 + j) (p ++ [b])) := Lib.hid (by
              have := HN.out HK.out
              rw [hE] at this
              unfold QuoAt
              rw [← hrd]
              simpa using this)
            clear hE hrd hrl
            go_wp2_with fail
            go_region
            go_wp2_with fail
            go_region
            go_wp2_with (first
              | (go_at_call 77
                 refine (HE2.out _ HV1.out HS1.out).mono ?_
                 rintro e w3 ⟨rfl, hs3, hg3⟩
                 have HS3 := Lib.hid hs3
                 have HV3 := Lib.hid (HV1.out.grown hg3 (fun X' e => by cases e; exact HX.out))
                 have HG3 := Lib.hid (grown_trans HG1.out hg3)
                 have HR3 : Hid (Bytes w3 w.heap.size (.slice A p.length cc) p) := Lib.hid (World.ownsRow.kept HR1.out hg3 (.inr (Ne.symm (own_blk_ne HR1.out HS1.out (by decide)))))
                 clear hs3 hg3)
              | (at_builtin
                 refine wpList_append_own_at _ rfl _ _ 41 rfl w.heap.size 5 i0 (.int .u8 0) 1 1 Tryz.underlying41 HI2 hz0 hz1 hz2 rfl (by decide) (.slice A p.length cc) _ _ rfl (HR3.out.alloc _) ⟨w3.heap.size, 0, none⟩ 1 1 [.int .u8 (b.toNat : Int)] rfl rfl (cells_new' _ [.int .u8 (b.toNat : Int)] _ _ rfl) (by simp [Value.oneCell']) (by unfold maxLen; omega) (by omega) (by have := HG3.out.size; simp; omega) ?_
                 intro v' w6 hrow' hgrow _ _
                 have HA6 := Lib.hid (after_push HS3.out HV3.out HG3.out HR3.out HVO.out hgrow)
                 have HR6 : Hid (Bytes w6 w.heap.size v' (p ++ [b])) := Lib.hid (by unfold Bytes; simpa [u8V] using hrow')
                 clear hrow' hgrow))
            go_roundw
            case rel => exact ⟨k + 1 + j, p ++ [b], by omega, by simp; omega, HR6, HN2, Lib.hid HA6.out.1, Lib.hid HA6.out.2.1, Lib.hid HA6.out.2.2⟩
            case measure => exact HM.out _ _ HA6.out.1 (by omega) (by omega)
        · have f2 : ((c.toNat : Int) == 92) = false := u8_ne h92
          have hc0' : (0 : Int) ≤ (c.toNat : Int) := by omega
          have h255 : (c.toNat : Int) ≤ 255 := by have := c.toNat_lt; omega
          by_cases hbad : c < 32 ∨ 126 < c
          · have HY : Hid (Y = none) := Lib.hid (by
              have := HK.out
              unfold QuoAt at this
              rw [HSQ.out, if_neg h34, if_neg h92, if_pos hbad] at this
              rw [← this]; rfl)
            by_cases hlo : c < 32
            · have f3 : decide ((c.toNat : Int) < 32) = true := decide_eq_true (by have := UInt8.lt_iff_toNat_lt.1 hlo; simp at this; omega)
              clear h34 h92 hbad hlo
              go_wp2_with fail
              go_region
              go_wp2_with fail
              go_region
              go_wp2_with fail
              go_ret2
              rw [HY.out]
              exact ⟨rfl, ⟨_, HS1.out⟩, HG1.out⟩
            · have f3 : decide ((c.toNat : Int) < 32) = false := decide_eq_false (by have := fun h => hlo (UInt8.lt_iff_toNat_lt.2 h); simp at this; omega)
              have f4 : decide ((126 : Int) < (c.toNat : Int)) = true := decide_eq_true (by have := UInt8.lt_iff_toNat_lt.1 (hbad.resolve_left hlo); simp at this; omega)
              clear h34 h92 hbad hlo
              go_wp2_with fail
              go_region
              go_wp2_with fail
              go_region
              go_wp2_with fail
              go_ret2
              rw [HY.out]
              exact ⟨rfl, ⟨_, HS1.out⟩, HG1.out⟩
          · have f3 : decide ((c.toNat : Int) < 32) = false := decide_eq_false (by have := fun h => hbad (.inl (UInt8.lt_iff_toNat_lt.2 h)); simp at this; omega)
            have f4 : decide ((126 : Int) < (c.toNat : Int)) = false := decide_eq_false (by have := fun h => hbad (.inr (UInt8.lt_iff_toNat_lt.2 h)); simp at this; omega)
            have HN2 : Hid (QuoAt t Y (k + 1) (p ++ [c])) := Lib.hid (by
              have := HK.out
              unfold QuoAt at this ⊢
              rw [HSQ.out, if_neg h34, if_neg h92, if_neg hbad] at this
              rw [← this]
              cases quoL (t.drop (k + 1)) <;> simp)
            clear h34 h92 hbad
            go_wp2_with fail
            go_region
            go_wp2_with fail
            go_region
            go_wp2_with (at_builtin
                         refine wpList_append_own_at _ rfl _ _ 41 rfl w.heap.size 5 i0 (.int .u8 0) 1 1 Tryz.underlying41 HI2 hz0 hz1 hz2 rfl (by decide) (.slice A p.length cc) _ _ rfl (World.ownsRow.alloc HR1.out _) ⟨wr.heap.size, 0, none⟩ 1 1 [.int .u8 (c.toNat : Int)] rfl rfl (cells_new' _ [.int .u8 (c.toNat : Int)] _ _ (by simp [World.setCell])) (by simp [Value.oneCell']) (by unfold maxLen; omega) (by omega) (by have := HG1.out.size; simp [World.setCell] at this ⊢; omega) ?_
                         intro v' w6 hrow' hgrow _ _
                         have HA6 := Lib.hid (after_push HS1.out HV1.out HG1.out HR1.out HVO.out hgrow)
                         have HR6 : Hid (Bytes w6 w.heap.size v' (p ++ [c])) := Lib.hid (by unfold Bytes; simpa [u8V] using hrow')
                         clear hrow' hgrow)
            go_roundw
            case rel => exact ⟨k + 1, p ++ [c], by omega, by simp; omega, HR6, HN2, Lib.hid (by simpa using HA6.out.1), Lib.hid HA6.out.2.1, Lib.hid HA6.out.2.2⟩
            case measure => exact HM.out _ _ HA6.out.1 (by omega) (by omega)
    · have hge : ¬ (k : Int) < (t.length : Int) := by omega
      have HY : Hid (Y = none) := Lib.hid (by
        have := HK.out
        unfold QuoAt at this
        rw [show k = t.length by omega, List.drop_length, quoL] at this
        rw [← this]; rfl)
      go_wp2_with fail
      go_region
      go_wp2_with fail
      go_ret2
      rw [HY.out]
      exact ⟨rfl, ⟨_, HS.out.drew 1⟩, grown_draw HG.out 1⟩
end Go.Proofs.YtdloadeidijcoaaGreatDoor
