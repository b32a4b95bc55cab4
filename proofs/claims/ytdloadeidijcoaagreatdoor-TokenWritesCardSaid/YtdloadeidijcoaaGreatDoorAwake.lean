/- DERIVED. The example of each statement. -/
import Derived.Test.YtdloadeidijcoaaGreatDoorRdS
set_option linter.unusedSimpArgs false
set_option linter.unusedVariables false
namespace Go.Proofs.YtdloadeidijcoaaGreatDoor
open Go.RowKit Go.Shelf

def awT : List UInt8 := [97, 46, 46, 98, 32, 47, 42, 32, 120, 32, 47, 42, 32, 121, 32, 42, 47, 32, 42, 47, 32, 43, 61, 32, 34, 92, 120, 52, 49, 34]
def awL : List Tok := [⟨1, [97], 0, 0⟩, ⟨5, [46, 46], 0, 1⟩, ⟨1, [98], 0, 3⟩, ⟨5, [43, 61], 0, 21⟩, ⟨4, [65], 0, 24⟩]
theorem aw_scan : scanL awT.length awT = .ok awL := by decide +kernel
set_option maxRecDepth 100000 in
set_option maxHeartbeats 2000000 in
theorem awake_any (w : World) (hV : Vars w) : Calls Tryz.prog 5 #[] w fun e w' => e = .returned (.bool true) ∧ Below w.heap.size w w' := by
  have hp := pscan_any awT w (by decide) hV
  rw [aw_scan] at hp
  have he := fun W => eql_ptok ⟨4, [65], 0, 24⟩ ⟨4, [65], 0, 24⟩ W
  rw [show eqT ⟨4, [65], 0, 24⟩ ⟨4, [65], 0, 24⟩ = true by decide] at he
  unfold encT strV at he
  unfold strV awT at hp
  clear hV
  go_enter Tryz.func5, Tryz.ntmps5
  go_wp2_with (go_at_call 13
               refine hp.mono ?_
               rintro e w2 ⟨⟨v, rfl, hr⟩, hb2⟩
               obtain ⟨A, c, rfl, hrd, _⟩ := rd_own (enc := encTL) (k := 4) encTL_len (xs := awL) hr
               obtain ⟨g, o, rfl, _, hc⟩ := hrd.at_ 4 _ rfl
               have c0 := hc 0 _ rfl
               have c1 := hc 1 _ rfl
               have c2 := hc 2 _ rfl
               have c3 := hc 3 _ rfl
               have HB2 := Lib.hid hb2
               have hl5 : awL.length = 5 := rfl
               unfold strV at c1
               clear hc hrd hr hb2 hp)
  go_ret
  exact ⟨rfl, HB2.out⟩
end Go.Proofs.YtdloadeidijcoaaGreatDoor
