/- DERIVED. The gaps of TokenGaps. -/
import Derived.Test.YtdloadeidijcoaaDoorROpen
import Derived.Test.YtdloadeidijcoaaDoorPFew
import Derived.Test.YtdloadeidijcoaaDoorPWrt
set_option linter.unusedSimpArgs false
set_option linter.unusedVariables false
namespace Go.Proofs.YtdloadeidijcoaaDoor
open Go.RowKit Go.Shelf

theorem ba_app (a b : List UInt8) : (⟨a.toArray⟩ : ByteArray) ++ ⟨b.toArray⟩ = ⟨(a ++ b).toArray⟩ := by
  apply ByteArray.ext
  simp [ByteArray.data_append]
/-- the gap ahead of token i -/
def gapF (bs : List UInt8) (i : Nat) : List UInt8 := if bs.length = 0 then [32] else 32 :: (betweenL ((bs.getD (i % bs.length) 0).toNat % 7) ++ [32])
theorem gapF_is (bs : List UInt8) (i : Nat) : IsGap (gapF bs i) := by
  unfold gapF
  split
  · exact .inl rfl
  · exact .inr ⟨_, rfl⟩
def betw : Array Value := #[strV (betweenL 0), strV (betweenL 1), strV (betweenL 2), strV (betweenL 3), strV (betweenL 4), strV (betweenL 5), strV (betweenL 6)]
theorem betw_at {k : Nat} (h : k < 7) : betw[k]? = some (strV (betweenL k)) := by
  match k, h with
  | 0, _ => rfl
  | 1, _ => rfl
  | 2, _ => rfl
  | 3, _ => rfl
  | 4, _ => rfl
  | 5, _ => rfl
  | 6, _ => rfl
theorem betw_len (k : Nat) : (betweenL k).length ≤ 18 := by
  match k with
  | 0 | 1 | 2 | 3 | 4 | 5 => decide
  | _ + 6 => exact (by decide : [(10 : UInt8), 10].length ≤ 18)
/-- what the closure holds -/
structure GapAt (A : Option Addr) (n c : Nat) (bs : List UInt8) (gb bb rb : Nat) (w : World) : Prop where
  rd : Rd encBL 1 w A n bs
  box : BlkAt w gb 32 #[.slice A n c]
  box2 : BlkAt w bb 34 #[.slice (some ⟨rb, 0, none⟩) 7 7]
  row : BlkAt w rb 9 betw
theorem GapAt.below {A : Option Addr} {n c : Nat} {bs : List UInt8} {gb bb rb : Nat} {w w' : World} (h : GapAt A n c bs gb bb rb w) (hb : Below w.heap.size w w') : GapAt A n c bs gb bb rb w' :=
  ⟨h.rd.below hb, h.box.below hb h.box.lt, h.box2.below hb h.box2.lt, h.row.below hb h.row.lt⟩
set_option maxRecDepth 100000 in
set_option maxHeartbeats 4000000 in
theorem gap_any (A : Option Addr) (n c : Nat) (bs : List UInt8) (gb bb rb : Nat) (i : Nat) (w : World) (h : GapAt A n c bs gb bb rb w) (hi : i ≤ 1000) (hn : n ≤ 140737488355328) :
    Calls Tryd.prog 13 #[.int .i64 i, .pointer (some ⟨gb, 0, none⟩), .pointer (some ⟨bb, 0, none⟩)] w fun e w' => e = .returned (strV (gapF bs i)) ∧ Below w.heap.size w w' := by
  have hln := h.rd.len
  have e0 := h.box.cell 0
  have e1 := h.box2.cell 0
  simp only [List.getElem?_toArray, List.getElem?_cons_zero] at e0 e1
  by_cases h0 : n = 0
  · have HF : Hid (gapF bs i = [32]) := Lib.hid (by unfold gapF; rw [if_pos (by omega)])
    subst h0
    clear hln
    go_enter Tryd.func13, Tryd.ntmps13
    go_wp2_with fail
    go_ret
    exact ⟨congrArg Ending.returned (by rw [HF.out]; rfl), Below.refl _ _⟩
  · have hmod : i % n < n := Nat.mod_lt _ (by omega)
    obtain ⟨d, hd⟩ := get_some (xs := bs) (k := i % n) (by omega)
    have hd7 : d.toNat % 7 < 7 := Nat.mod_lt _ (by omega)
    have HF : Hid (gapF bs i = 32 :: (betweenL (d.toNat % 7) ++ [32])) := Lib.hid (by
      unfold gapF
      rw [if_neg (by omega), ← hln, List.getD_eq_getElem?_getD, hd]; rfl)
    obtain ⟨b, o, rfl, _, hc⟩ := h.rd.at_ _ d hd
    have c0 := hc 0 _ rfl
    rw [Nat.add_zero, Nat.mul_one] at c0
    have hrow := h.row.cell (d.toNat % 7)
    have hbt : betw[d.toNat % 7]? = some (strV (betweenL (d.toNat % 7))) := by
      exact betw_at hd7
    rw [hbt] at hrow
    unfold strV at hrow
    have f0 : ((n : Int) == 0) = false := by simp; omega
    have hr1 : (i : Int) % (n : Int) = ((i % n : Nat) : Int) := rfl
    have hr2 : (d.toNat : Int) % 7 = ((d.toNat % 7 : Nat) : Int) := rfl
    have hr3 : Int.tmod (i : Int) (n : Int) = ((i % n : Nat) : Int) := rfl
    have hr4 : Int.tmod (d.toNat : Int) 7 = ((d.toNat % 7 : Nat) : Int) := rfl
    have hw1 : IntKind.i64.wrap (d.toNat : Int) = (d.toNat : Int) := IntWalk.i64_in _ (by have := d.toNat_lt; omega)
    have hw2 : wrap64 (d.toNat : Int) = (d.toNat : Int) := IntWalk.wrap64_in _ (by have := d.toNat_lt; omega)
    clear hd hc hbt hln
    generalize i % n = m at *
    generalize hk : d.toNat % 7 = k at *
    clear hk
    have hbl := betw_len k
    generalize betweenL k = BL at *
    have hb1 : (9223372036854775807 < 1 + BL.length) = False := by simp; omega
    have hb2 : (9223372036854775807 < 1 + BL.length + 1) = False := by simp; omega
    have hm0 : (0 : Int) ≤ (m : Int) := by omega
    have hm1 : (m : Int) < (n : Int) := by omega
    have hk0 : (0 : Int) ≤ (k : Int) := by omega
    have hk1 : (k : Int) < 7 := by omega
    go_enter Tryd.func13, Tryd.ntmps13
    go_wp2_with fail
    go_region
    go_wp2_with fail
    go_ret
    refine ⟨congrArg Ending.returned ?_, Below.drew (Below.refl _ _)⟩
    rw [HF.out]
    unfold strV
    rw [show (⟨#[32]⟩ : ByteArray) = ⟨([32] : List UInt8).toArray⟩ from rfl, ba_app, ba_app]
    rfl
end Go.Proofs.YtdloadeidijcoaaDoor
