/- DERIVED. The reference's Scan. -/
import Derived.Test.YtdloadeidijcoaaGreatDoorROneA
import Derived.Test.YtdloadeidijcoaaGreatDoorSpecAll
set_option linter.unusedSimpArgs false
set_option linter.unusedVariables false
namespace Go.Proofs.YtdloadeidijcoaaGreatDoor
open Go.RowKit

theorem suf_drop {t r : List UInt8} {k : Nat} (h : r <:+ t.drop k) : r = t.drop (t.length - r.length) := List.suffix_iff_eq_drop.1 (h.trans (List.drop_suffix _ _))
theorem one_suf {i : Int} {l r : List UInt8} {t : Tok} (h : oneL i l = .tok t r) : r <:+ l := by
  unfold oneL at h
  split at h
  · cases h
  · rename_i c q
    split at h
    · split at h
      · cases h
      · split at h <;> (cases h; exact List.dropWhile_suffix _)
    · split at h
      · split at h
        · cases h
        · cases h; exact List.dropWhile_suffix _
      · split at h
        · split at h
          · cases h
          · rename_i s r' hq
            cases h
            have := (end_quo _ _ _ _ (Nat.le_refl _) hq).2
            rw [← this]
            exact (List.drop_suffix _ _).trans (List.suffix_cons _ _)
        · split at h
          · cases h; exact List.drop_suffix _ _
          · cases h
theorem one_err {i e : Int} {l : List UInt8} (h : oneL i l = .bad e) : e ≠ 0 := by
  unfold oneL at h
  repeat' split at h
  all_goals first
    | (cases h; decide)
    | cases h
theorem scan_block_none {n : Nat} {q : List UInt8} (hs : skipC 1 q = none) : scanL n (47 :: 42 :: q) = .bad (n - (47 :: 42 :: q).length) 112 := by
  rw [scanL, if_neg (by decide), if_neg (by simp), if_pos (by simp)]
  split
  · rfl
  · rename_i h'; rw [show ((42 :: q).drop 1) = q from rfl, hs] at h'; cases h'
theorem scan_bad {n : Nat} {c : UInt8} {q : List UInt8} {e : Int} (hw : whiteB c = false) (hc : ¬ (c = 47 ∧ (q.head? = some 47 ∨ q.head? = some 42))) (h : oneL ((n - (c :: q).length : Nat) : Int) (c :: q) = .bad e) : scanL n (c :: q) = .bad (n - (c :: q).length) e := by
  rw [scanL, if_neg (by simp [hw]), if_neg (fun e => hc ⟨e.1, .inl e.2⟩), if_neg (fun e => hc ⟨e.1, .inr e.2⟩)]
  split
  · rename_i h'; rw [h] at h'; cases h'; rfl
  · rename_i h'; rw [h] at h'; cases h'
def Sc.pre (D : List Tok) : Sc → Sc
  | .ok l => .ok (D ++ l)
  | .bad i e => .bad i e
theorem Sc.pre_nil (s : Sc) : s.pre [] = s := by cases s <;> rfl
theorem Sc.pre_cons (D : List Tok) (t : Tok) (s : Sc) : (s.cons t).pre D = s.pre (D ++ [t]) := by cases s <;> simp [Sc.pre, Sc.cons]
/-- what Scan tells, T: the type of a token -/
def ScanRes (T : TypeId) (w w' : World) (e : Ending) : Sc → Prop
  | .ok ts => ∃ v, e = .returned (.tuple #[v, .int .i64 0, .int .i64 0]) ∧ w'.ownsRow w.heap.size T 4 v ts.length (ts.flatMap encTL)
  | .bad i er => e = .returned (.tuple #[.slice none 0 0, .int .i64 i, .int .i64 er])
theorem tok_info : (Tryz.prog.info? RT).map (fun i => (i.zero, i.size, i.bytes)) = some (some (.agg #[.int .i64 0, .string ⟨#[]⟩, .int .i64 0, .int .i64 0]), 4, 40) := by kernel_rfl
theorem tok_one (t : Tok) : ∀ u ∈ encTL t, u.oneCell' = true := by
  intro u hu
  simp [encTL, strV] at hu
  rcases hu with rfl | rfl | rfl | rfl <;> rfl
theorem two_pre {t : List UInt8} {k : Nat} {a b : UInt8} (h : List.isPrefixOf [a, b] (t.drop k) = true) : ∃ r, t.drop k = a :: b :: r := by
  obtain ⟨z, hz⟩ := List.isPrefixOf_iff_prefix.1 h
  exact ⟨z, hz.symm⟩
theorem two_not {c a b : UInt8} {q : List UInt8} (h : List.isPrefixOf [a, b] (c :: q) = false) : ¬ (c = a ∧ q.head? = some b) := by
  rintro ⟨rfl, h2⟩
  cases q with
  | nil => simp at h2
  | cons d q => simp at h2; subst h2; simp [List.isPrefixOf] at h
set_option maxRecDepth 100000 in
set_option maxHeartbeats 4000000 in
theorem rscan_any (t : List UInt8) (w : World) (ht : t.length ≤ 40000) :
    Calls Tryz.prog 43 #[strV t] w fun e w' => ScanRes RT w w' e (scanL t.length t) ∧ Below w.heap.size w w' := by
  obtain ⟨i0, hi, hy0, hy1, hy2⟩ := info_parts tok_info
  have HW : Hid (∀ (c : UInt8) (w : World), Calls Tryz.prog 57 #[u8V c] w fun e w' => e = .returned (.bool (whiteB c)) ∧ w = w') := Lib.hid rwhite_any
  have HA : Hid (∀ (a b : UInt8) (k : Nat) (w : World), k ≤ t.length → Calls Tryz.prog 58 #[strV t, .int .i64 k, strV [a, b]] w fun e w' => e = .returned (.bool (List.isPrefixOf [a, b] (t.drop k))) ∧ w = w') := Lib.hid (fun a b k w hk => at_any t [a, b] k w hk (by omega) (by simp))
  have HL : Hid (∀ (k : Nat) (r : List UInt8) (w : World), t.drop k = 47 :: 47 :: r → Calls Tryz.prog 59 #[strV t, .int .i64 k] w fun e w' => e = .returned (.int .i64 ((t.length - ((t.drop k).dropWhile (fun c => c != 10)).length : Nat) : Int)) ∧ w = w') := Lib.hid (fun k r w h => comment_line t r k w (by omega) h)
  have HB : Hid (∀ (k : Nat) (r : List UInt8) (w : World), t.drop k = 47 :: 42 :: r → Calls Tryz.prog 59 #[strV t, .int .i64 k] w fun e w' => e = .returned (.int .i64 (commI t.length (skipC 1 r))) ∧ w = w') := Lib.hid (fun k r w h => comment_block t r k w (by omega) h)
  have HO : Hid (∀ (k : Nat) (w : World), k < t.length → Calls Tryz.prog 60 #[strV t, .int .i64 k] w fun e w' => e = .returned (oneR t.length (oneL k (t.drop k))) ∧ Below w.heap.size w w') := Lib.hid (fun k w h => one_any t k w (by omega) h)
  have HI := Lib.hid hi
  have HSC : Hid (scanL t.length t = (scanL t.length (t.drop 0)).pre []) := Lib.hid (by rw [Sc.pre_nil]; rfl)
  obtain ⟨R, hR⟩ : ∃ R, scanL t.length t = R := ⟨_, rfl⟩
  rw [hR] at HSC ⊢
  clear hR
  unfold strV u8V at *
  go_enter Tryz.func43, Tryz.ntmps43
  go_wp2
  go_loopw [5, 6] (fun v x wr => ∃ (k : Nat) (D : List Tok), k ≤ t.length ∧ D.length ≤ k ∧ x = .int .i64 k ∧ Hid (R = (scanL t.length (t.drop k)).pre D) ∧ Hid (wr.ownsRow w.heap.size RT 4 v D.length (D.flatMap encTL)) ∧ Hid (Below w.heap.size w wr)) (fun _ x _ => t.length - (intOf x).toNat)
  case atStart => exact ⟨0, [], by omega, by simp, rfl, HSC, Lib.hid (own_empty0 (BlkAt.new _ _ _) (Nat.le_refl _) 4), Lib.hid ((Below.refl w.heap.size w).alloc (Nat.le_refl _) _)⟩
  case round =>
    obtain ⟨k, D, hk, hD, rfl, HS, HR, HBL⟩ := hrel
    by_cases hlt : k < t.length
    · obtain ⟨c, hc⟩ := get_some hlt
      have hidx := idx_str t k c hc
      have hdc := drop_cons hc
      have hww := HW.out c wr
      have hnl : ((t.length - (t.drop k).length : Nat) : Int) = k := by rw [List.length_drop]; omega
      cases hwb : whiteB c with
      | true =>
        rw [hwb] at hww
        have HS2 : Hid (R = (scanL t.length (t.drop (k + 1))).pre D) := Lib.hid (by rw [HS.out, hdc, scan_white hwb])
        clear hc hdc hnl hwb
        go_wp2_with (go_at_call 57; refine hww.mono ?_; rintro e w' ⟨rfl, rfl⟩; clear hww)
        go_roundw
        case rel => exact ⟨k + 1, D, by omega, by omega, by go_num, HS2, HR, HBL⟩
        case measure => simp [intOf]; omega
      | false =>
        rw [hwb] at hww
        have ha1 := HA.out 47 47 k wr hk
        have ha2 := HA.out 47 42 k wr hk
        cases h1 : List.isPrefixOf [47, 47] (t.drop k) with
        | true =>
          rw [h1] at ha1
          obtain ⟨r, hr⟩ := two_pre h1
          have hcm := HL.out k r wr hr
          have hsuf : (t.drop k).dropWhile (fun c => c != 10) <:+ t.drop k := List.dropWhile_suffix _
          have hlen : ((t.drop k).dropWhile (fun c => c != 10)).length < t.length - k := by
            rw [hr, ← List.length_drop, hr]; exact dropWhile_lt (by decide)
          have HS2 : Hid (R = (scanL t.length ((t.drop k).dropWhile (fun c => c != 10))).pre D) := Lib.hid (by rw [HS.out, hr, scan_line])
          have hsd := suf_drop hsuf
          obtain ⟨q, hq⟩ : ∃ q, (t.drop k).dropWhile (fun c => c != 10) = q := ⟨_, rfl⟩
          rw [hq] at hcm hlen HS2 hsd
          rw [hsd] at HS2
          have hj0 : decide (((t.length - q.length : Nat) : Int) < 0) = false := decide_eq_false (by omega)
          clear hc hdc hnl hwb h1 hr hsuf hq hsd ha2
          generalize hJ : t.length - q.length = J at *
          go_wp2_with (first
            | (go_at_call 57; refine hww.mono ?_; rintro e w' ⟨rfl, rfl⟩; clear hww)
            | (go_at_call 58; refine ha1.mono ?_; rintro e w' ⟨rfl, rfl⟩; clear ha1)
            | (go_at_call 59; refine hcm.mono ?_; rintro e w' ⟨rfl, rfl⟩; clear hcm))
          go_roundw
          case rel => exact ⟨J, D, by omega, by omega, rfl, HS2, HR, HBL⟩
          case measure => simp [intOf]; omega
        | false =>
          rw [h1] at ha1
          cases h2 : List.isPrefixOf [47, 42] (t.drop k) with
          | true =>
            rw [h2] at ha2
            obtain ⟨r, hr⟩ := two_pre h2
            have hcm := HB.out k r wr hr
            rcases hsk : skipC 1 r with _ | q
            · rw [hsk] at hcm
              have HR2 : Hid (R = .bad k 112) := Lib.hid (by rw [HS.out, hr, scan_block_none hsk, ← hr]; simp only [Sc.pre, List.length_drop]; congr 1; omega)
              clear hc hdc hnl hwb h1 h2 hr hsk
              unfold commI at hcm
              go_wp2_with (first
                | (go_at_call 57; refine hww.mono ?_; rintro e w' ⟨rfl, rfl⟩; clear hww)
                | (go_at_call 58; first | (refine ha1.mono ?_; rintro e w' ⟨rfl, rfl⟩; clear ha1) | (refine ha2.mono ?_; rintro e w' ⟨rfl, rfl⟩; clear ha2))
                | (go_at_call 59; refine hcm.mono ?_; rintro e w' ⟨rfl, rfl⟩; clear hcm))
              go_ret3
              exact ⟨by rw [HR2.out]; rfl, HBL.out⟩
            · rw [hsk] at hcm
              have hsuf : q <:+ t.drop k := by
                obtain ⟨g, hg⟩ := gap_suffix.skip_suffix _ _ _ hsk
                rw [hr, hg]; exact ⟨47 :: 42 :: g, rfl⟩
              have hlen : q.length < t.length - k := by
                have := skipC_len _ _ _ hsk
                rw [← List.length_drop, hr]; simp; omega
              have hsd := suf_drop hsuf
              have HS2 : Hid (R = (scanL t.length q).pre D) := Lib.hid (by rw [HS.out, hr, scan_block hsk])
              have hcv : commI t.length (some q) = ((t.length - q.length : Nat) : Int) := rfl
              rw [hsd] at HS2
              rw [hcv] at hcm
              have hj0 : decide (((t.length - q.length : Nat) : Int) < 0) = false := decide_eq_false (by omega)
              clear hc hdc hnl hwb h1 h2 hr hsk hsuf hsd hcv
              generalize hJ : t.length - q.length = J at *
              go_wp2_with (first
                | (go_at_call 57; refine hww.mono ?_; rintro e w' ⟨rfl, rfl⟩; clear hww)
                | (go_at_call 58; first | (refine ha1.mono ?_; rintro e w' ⟨rfl, rfl⟩; clear ha1) | (refine ha2.mono ?_; rintro e w' ⟨rfl, rfl⟩; clear ha2))
                | (go_at_call 59; refine hcm.mono ?_; rintro e w' ⟨rfl, rfl⟩; clear hcm))
              go_roundw
              case rel => exact ⟨J, D, by omega, by omega, rfl, HS2, HR, HBL⟩
              case measure => simp [intOf]; omega
          | false =>
            rw [h2] at ha2
            have hno : ¬ (c = 47 ∧ ((t.drop (k + 1)).head? = some 47 ∨ (t.drop (k + 1)).head? = some 42)) := by
              rw [hdc] at h1 h2
              rintro ⟨e, h | h⟩
              · exact two_not h1 ⟨e, h⟩
              · exact two_not h2 ⟨e, h⟩
            have ho := HO.out k wr hlt
            rcases hon : oneL k (t.drop k) with ⟨x, q⟩ | er
            · rw [hon] at ho
              obtain ⟨A, cc, rfl, _, _, _⟩ := own_slice HR.out
              have hsd := suf_drop (one_suf hon)
              have hlen : q.length < t.length - k := by
                have := oneL_len hon
                rwa [List.length_drop] at this
              have HS2 : Hid (R = (scanL t.length q).pre (D ++ [x])) := Lib.hid (by
                rw [HS.out, hdc, scan_tok hwb hno (by rw [← hdc, hnl]; exact hon), Sc.pre_cons])
              rw [hsd] at HS2
              simp only [oneR, encT, strV] at ho
              have HI2 := HI.out
              clear hc hdc hnl hwb h1 h2 hno hon hsd
              generalize hJ : t.length - q.length = J at *
              go_wp2_with (first
                | (go_at_call 57; refine hww.mono ?_; rintro e w' ⟨rfl, rfl⟩; clear hww)
                | (go_at_call 58; first | (refine ha1.mono ?_; rintro e w' ⟨rfl, rfl⟩; clear ha1) | (refine ha2.mono ?_; rintro e w' ⟨rfl, rfl⟩; clear ha2))
                | (go_at_call 60
                   refine ho.mono ?_
                   rintro e w3 ⟨rfl, hb3⟩
                   have HB3 := Lib.hid (HBL.out.trans (hb3.mono HBL.out.size))
                   have HR3 := Lib.hid (own_below HR.out hb3)
                   clear ho hb3)
                | (at_builtin
                   refine wpList_append_own_at _ rfl _ _ 22 rfl w.heap.size RT i0 (.agg #[.int .i64 0, .string ⟨#[]⟩, .int .i64 0, .int .i64 0]) 4 40 Tryz.underlying22 HI2 hy0 hy1 hy2 rfl (by decide) (.slice A D.length cc) _ _ rfl ((HR3.out.alloc _).alloc _) ⟨w3.heap.size + 1, 0, none⟩ 1 1 (encTL x) rfl rfl (cells_new' _ (encTL x) _ _ (by simp)) (tok_one x) (by unfold maxLen; omega) (by omega) (by have := HB3.out.size; simp; omega) ?_
                   intro v' w6 hrow' hgrow _ hob
                   have HR6 := Lib.hid hrow'
                   have HB6 := Lib.hid (((HB3.out.alloc HB3.out.size (.cells (encTL x).toArray RT)).alloc (by have := HB3.out.size; simp; omega) (.cells (encTL x).toArray RT)).grown hgrow (by have := HB3.out.size; simp; omega) (fun j e => (own_lt HR3.out e).1))
                   clear hrow' hgrow hob))
              go_roundw
              case rel => exact ⟨J, D ++ [x], by omega, by simp; omega, rfl, HS2, Lib.hid (by simpa using HR6.out), HB6⟩
              case measure => simp [intOf]; omega
            · have HR2 : Hid (R = .bad k er) := Lib.hid (by
                rw [HS.out, hdc, scan_bad hwb hno (by rw [← hdc, hnl]; exact hon), ← hdc]; simp only [Sc.pre, List.length_drop]; congr 1; omega)
              rw [hon] at ho
              simp only [oneR, strV] at ho
              have her : (er != 0) = true := bne_iff_ne.2 (one_err hon)
              clear hc hdc hnl hwb h1 h2 hno hon
              go_wp2_with (first
                | (go_at_call 57; refine hww.mono ?_; rintro e w' ⟨rfl, rfl⟩; clear hww)
                | (go_at_call 58; first | (refine ha1.mono ?_; rintro e w' ⟨rfl, rfl⟩; clear ha1) | (refine ha2.mono ?_; rintro e w' ⟨rfl, rfl⟩; clear ha2))
                | (go_at_call 60; refine ho.mono ?_; rintro e w3 ⟨rfl, hb3⟩; have HB3 := Lib.hid (HBL.out.trans (hb3.mono HBL.out.size)); clear ho hb3))
              go_ret3
              exact ⟨by rw [HR2.out]; rfl, HB3.out.alloc HB3.out.size _⟩
    · obtain rfl : k = t.length := by omega
      have HR2 : Hid (R = .ok D) := Lib.hid (by rw [HS.out, List.drop_length, scanL]; simp [Sc.pre])
      go_wp2
      go_ret3
      refine ⟨by rw [HR2.out]; exact ⟨_, rfl, HR.out⟩, HBL.out⟩
end Go.Proofs.YtdloadeidijcoaaGreatDoor
