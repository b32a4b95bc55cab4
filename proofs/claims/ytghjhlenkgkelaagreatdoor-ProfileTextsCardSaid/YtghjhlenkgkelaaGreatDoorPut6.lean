/- DERIVED. put, whatever the access; groups. -/
import Derived.Test.YtghjhlenkgkelaaGreatDoorPut3
import Derived.Test.YtghjhlenkgkelaaGreatDoorPut4
import Derived.Test.YtghjhlenkgkelaaGreatDoorPut5
import Derived.Test.YtghjhlenkgkelaaGreatDoorPl2
set_option linter.unusedSimpArgs false
set_option linter.unusedVariables false
namespace Go.Proofs.YtghjhlenkgkelaaGreatDoor
open Go.RowKit Go.Shelf Go.Sort

theorem len_of_sub {α : Type} [DecidableEq α] : ∀ {l1 l2 : List α}, l1.Nodup → (∀ a ∈ l1, a ∈ l2) → l1.length ≤ l2.length
  | [], _, _, _ => by simp
  | a :: l1, l2, h, hs => by
    have hn := List.nodup_cons.1 h
    have ha := hs a (by simp)
    have := len_of_sub (l2 := l2.erase a) hn.2 (fun b hb => by
      have hne : b ≠ a := fun e => hn.1 (e ▸ hb)
      exact (List.mem_erase_of_ne hne).2 (hs b (by simp [hb])))
    rw [List.length_erase_of_mem ha] at this
    have : 0 < l2.length := List.length_pos_of_mem ha
    simp; omega

theorem put_any (w : World) (B C i : Nat) (A : Option Addr) (n c : Nat) (xs : List Acc) (x : Acc) (gs : List (Nat × Grp)) (op : List Nat) (va vo : Value) (mv : Nat → Value) (R : List GO) (hc : Coll w B C (.slice A n c) gs op va vo mv) (hT : Trace w B A n xs) (hx : xs[i]? = some x) (hn : n ≤ 5000) (hS : Sim gs op R) (hI : Inv xs i i R) :
    Calls Tryz.prog 40 #[.pointer (some ⟨C, 0, none⟩), .int .i64 i] w fun e w' => e = .returned (.tuple #[]) ∧ ∃ gs' op' va' vo' mv', Coll w' B C (.slice A n c) gs' op' va' vo' mv' ∧ Sim gs' op' (stepR xs i x R) ∧ Below B w w' := by
  have hi := (List.getElem?_eq_some_iff.1 hx).1
  have hl := hT.len
  have hg : gs.length ≤ 5000 := by
    have h1 := hI.len; rw [hS.eq, List.length_map] at h1; omega
  have ho : op.length ≤ 5000 := by
    have := len_of_sub hS.nod hS.sub; rw [List.length_map] at this; omega
  have hin : ∀ p ∈ gs, p.2.mem.length ≤ 5000 ∧ ∀ i ∈ p.2.mem, i < xs.length := by
    intro p hp
    have hp' : (p.2, decide (p.1 ∈ op)) ∈ R := by rw [hS.eq]; exact List.mem_map_of_mem (f := fun p : Nat × Grp => (p.2, decide (p.1 ∈ op))) hp
    have h1 := hI.le64 _ hp'
    exact ⟨by simp at h1; omega, fun m hm => by have := hI.lt hp' hm; omega⟩
  have key : Calls Tryz.prog 40 #[.pointer (some ⟨C, 0, none⟩), .int .i64 i] w fun e w' => e = .returned (.tuple #[]) ∧ ∃ g0 va' vo' mv', Coll w' B C (.slice A n c) (putN xs i x g0 gs op).1 (putN xs i x g0 gs op).2 va' vo' mv' ∧ (∀ p ∈ gs, p.1 ≠ g0) ∧ Below B w w' := by
    by_cases h1 : x.kind = 1
    · by_cases hr : x.frm = x.at'
      · exact put_local w B C i A n c xs x gs op va vo mv hc hT hx hn hg ho hin (.inl h1) hr
      · cases hf : (op.filter (fun g => !p2 gs xs x g)).findIdx? (p3 gs x) with
        | none => exact put_remote_none1 w B C i A n c xs x gs op va vo mv hc hT hx hn hg ho hin h1 hr (fun y hy => List.findIdx?_eq_none_iff.1 hf y hy)
        | some k =>
          obtain ⟨hk, _⟩ := List.findIdx?_eq_some_iff_getElem.1 hf
          by_cases hm : (grpOf gs ((op.filter (fun g => !p2 gs xs x g))[k])).mem.length < 64
          · exact put_remote_some w B C i A n c xs x gs op va vo mv hc hT hx hn hg ho hin (.inl h1) hr k _ hf (List.getElem?_eq_getElem hk) hm
          · exact put_remote_full1 w B C i A n c xs x gs op va vo mv hc hT hx hn hg ho hin h1 hr k _ hf (List.getElem?_eq_getElem hk) (by omega)
    · by_cases h2 : x.kind = 2
      · by_cases hr : x.frm = x.at'
        · exact put_local w B C i A n c xs x gs op va vo mv hc hT hx hn hg ho hin (.inr h2) hr
        · cases hf : (op.filter (fun g => !p2 gs xs x g)).findIdx? (p3 gs x) with
          | none => exact put_remote_none2 w B C i A n c xs x gs op va vo mv hc hT hx hn hg ho hin h2 hr (fun y hy => List.findIdx?_eq_none_iff.1 hf y hy)
          | some k =>
            obtain ⟨hk, _⟩ := List.findIdx?_eq_some_iff_getElem.1 hf
            by_cases hm : (grpOf gs ((op.filter (fun g => !p2 gs xs x g))[k])).mem.length < 64
            · exact put_remote_some w B C i A n c xs x gs op va vo mv hc hT hx hn hg ho hin (.inr h2) hr k _ hf (List.getElem?_eq_getElem hk) hm
            · exact put_remote_full2 w B C i A n c xs x gs op va vo mv hc hT hx hn hg ho hin h2 hr k _ hf (List.getElem?_eq_getElem hk) (by omega)
      · exact put_sync w B C i A n c xs x gs op va vo mv hc hT hx hn hg ho ⟨h1, h2⟩
  refine key.mono ?_
  rintro e w' ⟨rfl, g0, va', vo', mv', h1, h2, h3⟩
  exact ⟨rfl, _, _, va', vo', mv', h1, hS.put g0 h2, h3⟩

/-- what the collector holds behind k accesses -/
def Held41 (w wr : World) (C : Nat) (T : Value) (xs : List Acc) (k : Nat) (va : Value) : Prop :=
  ∃ gs op vo mv, Coll wr w.heap.size C T gs op va vo mv ∧ Sim gs op (runR xs k) ∧ Below w.heap.size w wr
theorem groups_any (A : Option Addr) (n c : Nat) (xs : List Acc) (w : World) (hl : n ≤ 5000) (hr : Trace w w.heap.size A n xs) :
    Calls Tryz.prog 28 #[.slice A n c] w fun e w' => ∃ C va, e = .returned va ∧ Held41 w w' C (.slice A n c) xs n va := by
  have HN := Lib.hid hr.len
  have H0 : Hid (Held41 w (w.alloc (.cells #[.slice A n c, .slice none 0 0, .slice none 0 0] 108)) w.heap.size (.slice A n c) xs 0 (.slice none 0 0)) := by
    refine Lib.hid ⟨[], [], .slice none 0 0, fun _ => undef, ⟨BlkAt.new _ _ _, World.ownsRow_nil _ _ _ _, World.ownsRow_nil _ _ _ _, .inl rfl, by simp, by simp, by simp, by simp, by simp, by simp, Nat.le_refl _, by simp⟩, ⟨rfl, by simp, by simp, by simp, by simp⟩, (Below.refl _ w).alloc (Nat.le_refl _) _⟩
  have HR := Lib.hid hr
  clear hr
  go_enter Tryz.func28, Tryz.ntmps28
  go_wp2
  go_loopw [10] (fun i wr => ∃ (k : Nat) (va : Value), k ≤ n ∧ i = .int .i64 k ∧ Held41 w wr w.heap.size (.slice A n c) xs k va) (fun i _ => n - (intOf i).toNat)
  case atStart => exact ⟨0, _, by omega, rfl, H0.out⟩
  case round =>
    obtain ⟨k, va, hk, rfl, gs, op, vo, mv, hc, hS, hb⟩ := hrel
    have hcell := hc.blk.cell 1
    simp only [List.getElem?_toArray, List.getElem?_cons_succ, List.getElem?_cons_zero] at hcell
    by_cases hlt : k < n
    · obtain ⟨x, hx⟩ := get_some (xs := xs) (k := k) (by rw [← HN.out]; omega)
      have hp := put_any wr w.heap.size w.heap.size k A n c xs x gs op va vo mv _ hc (HR.out.below hb (Nat.le_refl _)) hx hl hS (inv_run xs k (by have := HN.out; omega))
      have HX := Lib.hid hx
      have HB := Lib.hid hb
      clear hx hb hc hS
      go_wp2_with (go_at_call 40; refine hp.mono ?_; rintro e w3 ⟨rfl, gs', op', va', vo', mv', hc', hS', hb'⟩)
      go_roundw
      case rel => exact ⟨k + 1, va', by omega, by go_num, gs', op', vo', mv', hc', by rw [runR_succ HX.out]; exact hS', HB.out.trans hb'⟩
      case measure => simp [intOf]; omega
    · obtain ⟨Av, cv, rfl, _, _, _⟩ := own_slice hc.all_
      have HC := Lib.hid hc
      have HS := Lib.hid hS
      have HB := Lib.hid hb
      clear hc hS hb
      go_wp2
      go_ret
      exact ⟨_, _, rfl, gs, op, vo, mv, HC.out, by rw [show n = k by omega]; exact HS.out, HB.out⟩
end Go.Proofs.YtghjhlenkgkelaaGreatDoor
