/- DERIVED. slices.DeleteFunc at a row of the call's own. -/
import Derived.Test.YtpahhcmiimllaaaGreatDoorLay2
import Derived.Test.YtpahhcmiimllaaaGreatDoorRul2
import Derived.Shelf.SlicesE.DeleteFunc
import Derived.Ground.SlgfProg
import Derived.Sort.OwnSortedInts
set_option linter.unusedSimpArgs false
set_option linter.unusedVariables false
namespace Go.Proofs.YtpahhcmiimllaaaGreatDoor
open Go.RowKit Go.Shelf Go.Lib Go.Sort


theorem uses1_gives (x : Int) (W : World) : FnGives Tryz.prog 55 #[] #[.int .i64 x] (.bool (x == -1)) W := by
  show Calls Tryz.prog 55 #[.int .i64 x] W _
  go_enter Tryz.func55, Tryz.ntmps55
  go_wp2_with fail
  go_ret
  exact ⟨rfl, 0, rfl⟩
theorem delInts_any (blk off cap : Nat) (d : Array Int) (w : World) (hH : Holds (Value.int .i64) w blk off d) (hsz : d.size ≤ 9223372036854775807) (hcap : d.size ≤ cap) :
    Calls Tryz.prog 54 #[.slice (some ⟨blk, off, none⟩) d.size cap, .func (.func 55) #[] #[]] w fun e w' =>
      e = .returned (.slice (some ⟨blk, off, none⟩) (d.toList.filter fun x => !(x == -1)).length cap) ∧
      ∃ q, w' = putRow (Value.int .i64) (Sort.ahead w q) blk off ((d.toList.filter fun x => !(x == -1)) ++ List.replicate (d.size - (d.toList.filter fun x => !(x == -1)).length) 0).toArray := by
  have eg : ∀ args w, (callFunc 55 args).run Tryz.prog w = .ok (.enter 55 args) w := enters_of Tryz.func55 (by kernel_rfl) rfl
  have hcon := AnyE.slices_DeleteFunc Tryz.l10d (Value.int .i64) (fun _ => rfl) (fun x => x == -1) 55 #[] eg 0 Tryz.zeroValue3 blk off cap d w
    (fun W x _ => uses1_gives x W) (fun n os dk x _ => uses1_gives x _) hH hsz hcap
  exact hcon
end Go.Proofs.YtpahhcmiimllaaaGreatDoor
namespace Go.Proofs.YtpahhcmiimllaaaGreatDoor
open Go.RowKit Go.Shelf Go.Sort

theorem idxNil_any (g : Nat) (w : World) : Calls Tryz.prog 61 #[.slice none 0 0, .func (.func g) #[] #[]] w fun e w' => e = .returned (.int .i64 (-1)) ∧ Below w.heap.size w w' := by
  go_enter Tryz.func61, Tryz.ntmps61
  go_wp2_with fail
  go_loopw [8] (fun a wr => a = .int .i64 0 ∧ Hid (Below w.heap.size w wr)) (fun _ _ => 0)
  case atStart => exact ⟨rfl, Lib.hid (Below.refl _ _)⟩
  case round =>
    obtain ⟨rfl, HW⟩ := hrel
    go_wp2_with fail
    go_ret
    exact ⟨rfl, HW.out⟩
theorem delNil_any (g : Nat) (w : World) : Calls Tryz.prog 54 #[.slice none 0 0, .func (.func g) #[] #[]] w fun e w' => e = .returned (.slice none 0 0) ∧ Below w.heap.size w w' := by
  have HI := idxNil_any g w
  go_enter Tryz.func54, Tryz.ntmps54
  go_wp2_with (go_at_call 61; refine HI.mono ?_; rintro e w2 ⟨rfl, hb2⟩; have HB2 := Lib.hid hb2; clear hb2 HI)
  go_ret
  exact ⟨rfl, HB2.out⟩
theorem delOwn_any (l : List Int) (base : Nat) (v : Value) (w : World) (h : w.ownsRow base 3 1 v l.length (l.map (Value.int .i64))) (hb : base ≤ w.heap.size) :
    Calls Tryz.prog 54 #[v, .func (.func 55) #[] #[]] w fun e w' => (∃ A n c, e = .returned (.slice A n c) ∧ Rd encI 1 w' A n (l.filter (· != -1)) ∧ ∀ a, A = some a → ∃ cs, BlkAt w' a.block 3 cs) ∧ Below base w w' := by
  rcases h.2 with ⟨rfl, hn⟩ | ⟨g, cap, cur, rfl, hg, hh, hn, hc, hs, ht⟩
  · have hl : l = [] := List.length_eq_zero_iff.1 hn
    subst hl
    refine (delNil_any 55 w).mono ?_
    rintro e w' ⟨rfl, hbw⟩
    exact ⟨⟨none, 0, 0, rfl, ⟨rfl, by simp⟩, fun a h => by cases h⟩, hbw.mono hb⟩
  · rw [Nat.mul_one] at ht
    have hH := holds_of_blockI hh ht
    have hgl : g < w.heap.size := (Array.getElem?_eq_some_iff.1 hh).1
    have hd := delInts_any g 0 cap l.toArray w hH (by simp; unfold maxLen at hc; omega) (by simpa using hn)
    rw [List.size_toArray] at hd
    refine hd.mono ?_
    rintro e w' ⟨rfl, q, rfl⟩
    have hfl : (l.toArray.toList.filter fun x => !(x == -1)) = l.filter (· != -1) := rfl
    rw [hfl]
    generalize hF : l.filter (· != -1) = F
    have hFl : F.length ≤ l.length := by rw [← hF]; exact List.length_filter_le _ _
    have hgrow : w.grownBy (grow (putRow (Value.int .i64) (Sort.ahead w q) g 0 (F ++ List.replicate (l.length - F.length) 0).toArray) #[]) (some g) := grownBy_sortedI _
    have how := ownsRow_sortedI (n := q) (os := #[]) (base := base) (ss := l) (ts := F ++ List.replicate (l.length - F.length) 0) (by rw [List.length_append, List.length_replicate]; omega) hg hh hn hc (by rw [hs])
    rw [grow_empty] at hgrow how
    refine ⟨⟨_, _, _, rfl, ⟨rfl, fun i x hx => ⟨g, 0, rfl, ?_, fun j u hu => ?_⟩⟩, fun a ha => ?_⟩, ?_⟩
    · rw [size_putRow]; exact hgl
    · have hi := (List.getElem?_eq_some_iff.1 hx).1
      have hcell := how.cellAt i (by omega)
      rw [Nat.zero_add, Nat.mul_one]
      match j, hu with
      | 0, hu =>
        simp [encI] at hu
        subst hu
        rw [Nat.add_zero, hcell, List.getElem?_map, List.getElem?_append_left hi, hx]
        rfl
      | j + 1, hu => simp [encI] at hu
    · cases ha
      rcases how.2 with ⟨hv, _⟩ | ⟨g', cap', cur', hv, _, hh', _⟩
      · cases hv
      · cases hv
        exact ⟨_, hh'⟩
    · exact (Below.refl base w).grown hgrow hb (fun k e => by cases e; exact hg)
end Go.Proofs.YtpahhcmiimllaaaGreatDoor
