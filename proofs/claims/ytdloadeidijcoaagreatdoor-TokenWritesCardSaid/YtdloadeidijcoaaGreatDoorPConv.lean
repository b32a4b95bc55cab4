/- DERIVED. Convert: the reference's tokens as those of the program. -/
import Derived.Test.YtdloadeidijcoaaGreatDoorPFew
set_option linter.unusedSimpArgs false
set_option linter.unusedVariables false
namespace Go.Proofs.YtdloadeidijcoaaGreatDoor
open Go.RowKit Go.Shelf

theorem alloc_szc {W : World} {o : Obj} {k : Nat} (h : k ≤ W.heap.size) : k ≤ (W.alloc o).heap.size := Nat.le_trans h (by rw [show (W.alloc o).heap.size = W.heap.size + 1 from Array.size_push _]; omega)
set_option maxRecDepth 100000 in
set_option maxHeartbeats 8000000 in
theorem convert_any (A : Option Addr) (n c : Nat) (l : List Tok) (w : World) (hR : Rd encTL 4 w A n l) (hn : n ≤ 1000000) :
    Calls Tryz.prog 11 #[.slice A n c] w fun e w' => ∃ v, e = .returned v ∧ w'.ownsRow w.heap.size PT 4 v n (l.flatMap encTL) ∧ Below w.heap.size w w' := by
  obtain ⟨i0, hi, hy0, hy1, hy2⟩ := info_parts ptok_info
  have HI := Lib.hid hi
  have HA := Lib.hid hR
  have hln := hR.len
  have HLN := Lib.hid hln
  clear hR hln hi
  go_enter Tryz.func11, Tryz.ntmps11
  go_wp2_with fail
  go_loopw [3, 8] (fun v a wr => ∃ i : Nat, i ≤ n ∧ a = .int .i64 i ∧ Hid (wr.ownsRow w.heap.size PT 4 v i ((l.take i).flatMap encTL)) ∧ Hid (Below w.heap.size w wr)) (fun _ a _ => n - (intOf a).toNat)
  case atStart => exact ⟨0, by omega, rfl, Lib.hid ⟨rfl, .inl ⟨rfl, rfl⟩⟩, Lib.hid (Below.refl _ _)⟩
  case round =>
    obtain ⟨i, hin, rfl, HO, HW⟩ := hrel
    by_cases hlt : i < n
    · obtain ⟨x, hx⟩ := get_some (xs := l) (k := i) (by have := HLN.out; omega)
      have HTL : Hid ((l.take i).flatMap encTL ++ encTL x = (l.take (i + 1)).flatMap encTL) := Lib.hid (by rw [List.take_add_one, hx]; simp)
      obtain ⟨b, o, rfl, _, hc⟩ := (HA.out.below HW.out).at_ i x hx
      have c0 := hc 0 _ rfl
      have c1 := hc 1 _ rfl
      have c2 := hc 2 _ rfl
      have c3 := hc 3 _ rfl
      rw [Nat.add_zero] at c0
      unfold strV at c1
      have hk0 : (0 : Int) ≤ (i : Int) := by omega
      have hk1 : (i : Int) < (n : Int) := by omega
      have HW1 := Lib.hid (HW.out.alloc HW.out.size (.cells #[.int .i64 x.kind, .string ⟨x.text.toArray⟩, .int .i64 x.value, .int .i64 x.at_] 26))
      have HT1 := Lib.hid (BlkAt.new wr 26 #[.int .i64 x.kind, .string ⟨x.text.toArray⟩, .int .i64 x.value, .int .i64 x.at_])
      have HO1 := Lib.hid (own_below HO.out ((Below.refl wr.heap.size wr).alloc (Nat.le_refl _) (.cells #[.int .i64 x.kind, .string ⟨x.text.toArray⟩, .int .i64 x.value, .int .i64 x.at_] 26)))
      obtain ⟨AA, cc, rfl, _, _, _⟩ := own_slice HO.out
      have wr1 : IntKind.i64.wrap ((i : Int) + 1) = (i : Int) + 1 := IntWalk.i64_in _ (by omega)
      have HI2 := HI.out
      clear hx hc
      go_wp2_with (first
        | (at_builtin
           refine wpList_append_own_at _ rfl _ _ 35 rfl w.heap.size PT i0 (.agg #[.int .i64 0, .string ⟨#[]⟩, .int .i64 0, .int .i64 0]) 4 40 Tryz.underlying35 HI2 hy0 hy1 hy2 rfl (by decide) (.slice AA i cc) _ _ rfl (HO1.out.alloc _) ⟨wr.heap.size + 1, 0, none⟩ 1 1 (encTL x) rfl rfl (cells_new' _ (encTL x) _ _ (by simp)) (tok_one x) (by unfold maxLen; omega) (by omega) (alloc_szc HW1.out.size) ?_
           intro v' w6 hrow' hgrow _ hob
           have HO6 := Lib.hid hrow'
           have HB6 := Lib.hid ((HW1.out.alloc HW1.out.size (.cells (encTL x).toArray PT)).grown hgrow (alloc_szc HW1.out.size) (fun j e => (own_lt HO1.out e).1))
           clear hrow' hgrow hob))
      go_roundw
      case rel => exact ⟨i + 1, by omega, by go_num, Lib.hid (by rw [← HTL.out]; exact HO6.out), HB6⟩
      case measure => simp [intOf]; omega
    · obtain rfl : i = n := by omega
      have htk : l.take i = l := List.take_of_length_le (by have := HLN.out; omega)
      rw [htk] at HO
      go_wp2_with fail
      go_ret
      exact ⟨_, rfl, HO.out, HW.out⟩
end Go.Proofs.YtdloadeidijcoaaGreatDoor
