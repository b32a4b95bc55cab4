/- DERIVED. strconv.ParseUint, the public one, at two bytes; strings.IndexByte at bytes. -/
import Derived.Test.YtdloadeidijcoaaGreatDoorPHex
set_option linter.unusedSimpArgs false
set_option linter.unusedVariables false
namespace Go.Proofs.YtdloadeidijcoaaGreatDoor
open Go.RowKit Go.Shelf

theorem u8_back (c : UInt8) : ((c.toNat : Int).toNat).toUInt8 = c := by simp
theorem idx_any (s : List UInt8) (c : UInt8) (w : World) : Calls Tryz.prog 85 #[strV s, u8V c] w fun e w' => e = .returned (.int .i64 (Lib.indexByte s c)) ∧ w = w' := by
  refine (Tryz.strings_IndexByte ⟨s.toArray⟩ (c.toNat : Int) w).mono ?_
  rintro e w' ⟨rfl, rfl⟩
  refine ⟨ret_int ?_, rfl⟩
  rw [u8_back]
theorem syn_cell {w : World} (hV : Vars w) : ∃ tp p, w.cell? ⟨2, 0, none⟩ = some (.iface tp p) := by
  obtain ⟨tp, p, h⟩ := hV.syn
  refine ⟨tp, p, ?_⟩
  have h0 := World.var?_cell (g := 2) (by kernel_rfl) h 0
  simpa using h0
/-- what ParseUint tells of two bytes -/
def PuRes (o : Option Nat) (e : Ending) : Prop := match o with | some n => e = .returned (.tuple #[.int .u64 n, .nilIface]) | none => ∃ tp p, e = .returned (.tuple #[.int .u64 0, .iface tp p])
set_option maxRecDepth 100000 in
set_option maxHeartbeats 2000000 in
theorem parse16 (a b : UInt8) (w : World) (hV : Vars w) : Calls Tryz.prog 89 #[.string ⟨#[a, b]⟩, .int .i64 16, .int .i64 8] w fun e w' => PuRes (hx 0 [a, b]) e ∧ Below w.heap.size w w' := by
  have hp := parse16_in a b w
  have HV := Lib.hid hV
  clear hV
  rcases hh : hx 0 [a, b] with _ | n
  · rw [hh] at hp
    simp only [puR] at hp
    clear hh
    go_enter Tryz.func89, Tryz.ntmps89
    go_wp2_with (first
      | (go_at_call 80
         refine hp.mono ?_
         rintro e w2 ⟨rfl, hb2⟩
         have HB2 := Lib.hid hb2
         obtain ⟨tp, p, hc⟩ := syn_cell (HV.out.below hb2)
         clear hb2 hp)
      | (go_at_call 55
         refine (Tryz.strconv_toError_syntax _ ⟨#[a, b]⟩ 16 8 (.iface tp p) w2 (by show 2 ≤ _; omega) hc (.inr ⟨tp, p, rfl⟩)).mono ?_
         rintro e w3 ⟨N, rfl, _, _, hb3⟩
         have HB3 := Lib.hid (HB2.out.trans (hb3.mono HB2.out.size))
         clear hb3))
    go_ret2
    exact ⟨⟨_, _, rfl⟩, HB3.out⟩
  · rw [hh] at hp
    simp only [puR] at hp
    clear hh
    go_enter Tryz.func89, Tryz.ntmps89
    go_wp2_with (go_at_call 80
                 refine hp.mono ?_
                 rintro e w2 ⟨rfl, hb2⟩
                 have HB2 := Lib.hid hb2
                 clear hb2 hp)
    go_ret2
    exact ⟨rfl, HB2.out⟩
end Go.Proofs.YtdloadeidijcoaaGreatDoor
