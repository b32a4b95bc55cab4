/- DERIVED. The package's variables that the scanner reads; the program's lists of keywords and signs. -/
import Derived.Test.YtdloadeidijcoaaGreatDoorROneA
import Derived.Test.YtdloadeidijcoaaGreatDoorPSc
import Derived.Test.YtdloadeidijcoaaGreatDoorShelf
set_option linter.unusedSimpArgs false
set_option linter.unusedVariables false
namespace Go.Proofs.YtdloadeidijcoaaGreatDoor
open Go.RowKit Go.Shelf

/-- what the listed variables hold -/
structure Vars (w : World) : Prop where
  syn : ∃ tp p, w.var? Tryz.prog "strconv.ErrSyntax" = some #[.iface tp p]
  rng : ∃ tp p, w.var? Tryz.prog "strconv.ErrRange" = some #[.iface tp p]
  tab : Lib.TabIs Tryz.prog w "strings.asciiSpace" .u8 Lib.asciiSpaceTab
/-- block X is none of them -/
def Off (X : Nat) : Prop := Tryz.prog.globalNamed "strconv.ErrSyntax" ≠ some X ∧ Tryz.prog.globalNamed "strconv.ErrRange" ≠ some X ∧ Tryz.prog.globalNamed "strings.asciiSpace" ≠ some X
theorem var_lt {w : World} {n : String} {cs : Array Value} {g : Nat} (h : w.var? Tryz.prog n = some cs) (hg : Tryz.prog.globalNamed n = some g) : g < w.heap.size := by
  unfold World.var? at h
  rw [hg] at h
  simp only [Option.bind_some] at h
  rcases Nat.lt_or_ge g w.heap.size with h' | h'
  · exact h'
  · rw [Array.getElem?_eq_none h'] at h; cases h
theorem var_grown {w w' : World} {n : String} {cs : Array Value} {row : Option Nat} (h : w.var? Tryz.prog n = some cs) (hgr : w.grownBy w' row) (hX : ∀ X, row = some X → Tryz.prog.globalNamed n ≠ some X) : w'.var? Tryz.prog n = some cs := by
  rcases hg : Tryz.prog.globalNamed n with _ | g
  · unfold World.var? at h; rw [hg] at h; cases h
  · have hlt := var_lt h hg
    unfold World.var? at h ⊢
    rw [hg] at h ⊢
    simp only [Option.bind_some] at h ⊢
    rw [hgr.block g hlt (fun e => hX g e.symm hg)]
    exact h
theorem Vars.grown {w w' : World} {row : Option Nat} (h : Vars w) (hgr : w.grownBy w' row) (hX : ∀ X, row = some X → Off X) : Vars w' :=
  ⟨by obtain ⟨tp, p, e⟩ := h.syn; exact ⟨tp, p, var_grown e hgr (fun X hx => (hX X hx).1)⟩,
   by obtain ⟨tp, p, e⟩ := h.rng; exact ⟨tp, p, var_grown e hgr (fun X hx => (hX X hx).2.1)⟩,
   var_grown h.tab hgr (fun X hx => (hX X hx).2.2)⟩
theorem Vars.below {w w' : World} (h : Vars w) (hb : Below w.heap.size w w') : Vars w' := h.grown (row := none) (grown_of_below hb) (fun _ e => by cases e)
theorem Vars.off {w : World} (h : Vars w) {X : Nat} (hX : w.heap.size ≤ X) : Off X := by
  obtain ⟨_, _, e1⟩ := h.syn
  obtain ⟨_, _, e2⟩ := h.rng
  exact ⟨fun e => by have := var_lt e1 e; omega, fun e => by have := var_lt e2 e; omega, fun e => by have := var_lt h.tab e; omega⟩
set_option maxRecDepth 100000 in
set_option maxHeartbeats 2000000 in
theorem keys_any (w : World) (hV : Vars w) : Calls Tryz.prog 20 #[] w fun e w' => e = .returned (.slice (some ⟨w.heap.size, 0, none⟩) 52 52) ∧ Strs w' (some ⟨w.heap.size, 0, none⟩) 52 keyL ∧ Below w.heap.size w w' := by
  have HT := Lib.hid hV.tab
  clear hV
  go_enter Tryz.func20, Tryz.ntmps20
  go_wp2_with (go_at_call 36
               refine (Tryz.strings_Fields _ w (by decide) ?_ HT.out).mono ?_
               · intro j b hb
                 exact (show ∀ x ∈ (_ : List UInt8), x.toNat < 128 by decide +kernel) b (List.mem_of_getElem? hb)
               rintro e w1 ⟨rfl, rfl⟩)
  generalize hF : Lib.fields _ = F
  have hk : F = keyL := by rw [← hF]; decide +kernel
  clear hF
  subst hk
  go_ret
  exact ⟨rfl, strs_new w keyL _ 52 (by decide), (Below.refl _ w).alloc (Nat.le_refl _) _⟩
set_option maxRecDepth 100000 in
set_option maxHeartbeats 2000000 in
theorem signs_any (w : World) (hV : Vars w) : Calls Tryz.prog 22 #[] w fun e w' => e = .returned (.slice (some ⟨w.heap.size, 0, none⟩) 31 31) ∧ Strs w' (some ⟨w.heap.size, 0, none⟩) 31 signL ∧ Below w.heap.size w w' := by
  have HT := Lib.hid hV.tab
  clear hV
  go_enter Tryz.func22, Tryz.ntmps22
  go_wp2_with (go_at_call 36
               refine (Tryz.strings_Fields _ w (by decide) ?_ HT.out).mono ?_
               · intro j b hb
                 exact (show ∀ x ∈ (_ : List UInt8), x.toNat < 128 by decide +kernel) b (List.mem_of_getElem? hb)
               rintro e w1 ⟨rfl, rfl⟩)
  generalize hF : Lib.fields _ = F
  have hk : F = signL := by rw [← hF]; decide +kernel
  clear hF
  subst hk
  go_ret
  exact ⟨rfl, strs_new w signL _ 31 (by decide), (Below.refl _ w).alloc (Nat.le_refl _) _⟩
theorem contains_any (b o n c : Nat) (ws : List (List UInt8)) (s : List UInt8) (w : World) (hR : Strs w (some ⟨b, o, none⟩) n ws) (hn : n ≤ 1000) :
    Calls Tryz.prog 19 #[.slice (some ⟨b, o, none⟩) n c, strV s] w fun e w' => e = .returned (.bool (decide (s ∈ ws))) ∧ w = w' := by
  have hl := hR.len
  refine (Tryz.slices_Contains_string b o n c (ws.map (fun l => ⟨l.toArray⟩)) ⟨s.toArray⟩ w (by rw [List.length_map]; omega) (by omega) ?_).mono ?_
  · intro j hj
    rw [List.length_map] at hj
    obtain ⟨x, hx⟩ := get_some hj
    obtain ⟨b', o', e, _, hc⟩ := hR.at_ j x hx
    cases e
    rw [hc, List.getD_eq_getElem?_getD, List.getElem?_map, hx]
    rfl
  · rintro e w' ⟨rfl, rfl⟩
    refine ⟨ret_bool ?_, rfl⟩
    rw [Bool.eq_iff_iff, Lib.containsS_iff, decide_eq_true_eq, hl, List.take_of_length_le (by simp)]
    constructor
    · intro h
      obtain ⟨l, hl, e⟩ := List.mem_map.1 h
      have : l = s := by
        have := congrArg (fun x : ByteArray => x.data.toList) e
        simpa using this
      rwa [← this]
    · intro h; exact List.mem_map.2 ⟨s, h, rfl⟩
end Go.Proofs.YtdloadeidijcoaaGreatDoor
