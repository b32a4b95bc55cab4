/-
  No cell of these rows narrows 'for every input' (looked for: loops, veiled, ifaces, maps, wideKeys, modest, calm, conditions, laid).
  DERIVED. THE GIVEN ROWS OF THIS SEAT. 6 by the template 'for every input the law returns true; each argument reads behind the call as it read before'; 0 by the template 'total and deterministic' (their statements: YtghjhlenkgkelaaTotals.lean).
  GIVEN WITH THE SEED: the statements are not yours to turn. If you find one false, say at which input.
  Laid BY PROGRAM, IN A SANDBOX (cutbox-rows.mjs): the forced cells as the released guide's own fill.sh prints them over the translation e8236706fc5f91e3… (all of the seat's roots in one cut). By AI agents, Wed Nov 11 2026. No macro, syntax, notation, axiom, sorry.
-/
import Derived.Test.YtghjhlenkgkelaaChecked
import GoSem.Claim
import GoSem.ClaimJoined
import GoSem.ClaimMapViews
import Derived.JoinedTies
import Derived.KernelRfl
namespace Go.Proofs.Ytghjhlenkgkelaa
/- THE CELL 'sum', in the pinned program and in every row, IS THE sha256 OF THE DUMP (.gsa) THAT YtghjhlenkgkelaaProg.lean LOADS. Nothing in Lean hashes anything: it is a label: what it is worth is what the hold of that sum in a sandbox is worth. -/
noncomputable def Try.pinned : Pinned := { name := "ytghjhlenkgkelaa", sum := "e8236706fc5f91e314e606522c3457a506c754d55da7e3374fa9cadf5e559c31", checked := Try.checked }
namespace Rows
def none {H : Type} : Left H := { results := [], args := [] }

/-- 'raddlelaw41.ProfileCounts': WHATEVER THE INPUT: true; the input reads as it did. -/
def profileCountsSpec : ChangeSpec := { name := "profileCounts", fn := fun _ => fun
  | [d] => { results := [.lit (.bool true)], args := [d] }
  | _ => none }
def profileCountsRow : OpenClaim := { program := "ytghjhlenkgkelaa", sum := "e8236706fc5f91e314e606522c3457a506c754d55da7e3374fa9cadf5e559c31", func := "raddle/raddlelaw41.ProfileCounts", spec := "profileCounts", unfollowed := true, recurses := true, plainKeys := false, apart := false }
def ProfileCountsSaid : Prop := profileCountsRow.holds Try.pinned (OpenSpec.ofChange profileCountsSpec)

/-- ITS FALSE NEIGHBOUR: 'it returns false'. Refute it at one input. -/
def profileCountsWrong : ChangeSpec := { name := "profileCounts", fn := fun _ => fun
  | [d] => { results := [.lit (.bool false)], args := [d] }
  | _ => none }
def ProfileCountsWrongFalsely : Prop := profileCountsRow.holds Try.pinned (OpenSpec.ofChange profileCountsWrong)

/-- 'raddlelaw41.ProfileGroups': WHATEVER THE INPUT: true; the input reads as it did. -/
def profileGroupsSpec : ChangeSpec := { name := "profileGroups", fn := fun _ => fun
  | [d] => { results := [.lit (.bool true)], args := [d] }
  | _ => none }
def profileGroupsRow : OpenClaim := { program := "ytghjhlenkgkelaa", sum := "e8236706fc5f91e314e606522c3457a506c754d55da7e3374fa9cadf5e559c31", func := "raddle/raddlelaw41.ProfileGroups", spec := "profileGroups", unfollowed := true, recurses := true, plainKeys := false, apart := false }
def ProfileGroupsSaid : Prop := profileGroupsRow.holds Try.pinned (OpenSpec.ofChange profileGroupsSpec)

/-- ITS FALSE NEIGHBOUR: 'it returns false'. Refute it at one input. -/
def profileGroupsWrong : ChangeSpec := { name := "profileGroups", fn := fun _ => fun
  | [d] => { results := [.lit (.bool false)], args := [d] }
  | _ => none }
def ProfileGroupsWrongFalsely : Prop := profileGroupsRow.holds Try.pinned (OpenSpec.ofChange profileGroupsWrong)

/-- 'raddlelaw41.ProfileOf': WHATEVER THE INPUT: true; the input reads as it did. -/
def profileOfSpec : ChangeSpec := { name := "profileOf", fn := fun _ => fun
  | [d1, d2] => { results := [.lit (.bool true)], args := [d1, d2] }
  | _ => none }
def profileOfRow : OpenClaim := { program := "ytghjhlenkgkelaa", sum := "e8236706fc5f91e314e606522c3457a506c754d55da7e3374fa9cadf5e559c31", func := "raddle/raddlelaw41.ProfileOf", spec := "profileOf", inPlace := ["math.Float32bits"], unfollowed := true, recurses := true, plainKeys := false, apart := false }
def ProfileOfSaid : Prop := profileOfRow.holds Try.pinned (OpenSpec.ofChange profileOfSpec)

/-- ITS FALSE NEIGHBOUR: 'it returns false'. Refute it at one input. -/
def profileOfWrong : ChangeSpec := { name := "profileOf", fn := fun _ => fun
  | [d1, d2] => { results := [.lit (.bool false)], args := [d1, d2] }
  | _ => none }
def ProfileOfWrongFalsely : Prop := profileOfRow.holds Try.pinned (OpenSpec.ofChange profileOfWrong)

/-- 'raddlelaw41.ProfileChanges': WHATEVER THE INPUT: true; the input reads as it did. -/
def profileChangesSpec : ChangeSpec := { name := "profileChanges", fn := fun _ => fun
  | [d1, d2] => { results := [.lit (.bool true)], args := [d1, d2] }
  | _ => none }
def profileChangesRow : OpenClaim := { program := "ytghjhlenkgkelaa", sum := "e8236706fc5f91e314e606522c3457a506c754d55da7e3374fa9cadf5e559c31", func := "raddle/raddlelaw41.ProfileChanges", spec := "profileChanges", unfollowed := true, recurses := true, plainKeys := false, apart := false }
def ProfileChangesSaid : Prop := profileChangesRow.holds Try.pinned (OpenSpec.ofChange profileChangesSpec)

/-- ITS FALSE NEIGHBOUR: 'it returns false'. Refute it at one input. -/
def profileChangesWrong : ChangeSpec := { name := "profileChanges", fn := fun _ => fun
  | [d1, d2] => { results := [.lit (.bool false)], args := [d1, d2] }
  | _ => none }
def ProfileChangesWrongFalsely : Prop := profileChangesRow.holds Try.pinned (OpenSpec.ofChange profileChangesWrong)

/-- 'raddlelaw41.ProfileMoves': WHATEVER THE INPUT: true; the input reads as it did. -/
def profileMovesSpec : ChangeSpec := { name := "profileMoves", fn := fun _ => fun
  | [d1, d2] => { results := [.lit (.bool true)], args := [d1, d2] }
  | _ => none }
def profileMovesRow : OpenClaim := { program := "ytghjhlenkgkelaa", sum := "e8236706fc5f91e314e606522c3457a506c754d55da7e3374fa9cadf5e559c31", func := "raddle/raddlelaw41.ProfileMoves", spec := "profileMoves", unfollowed := true, recurses := true, plainKeys := false, apart := false }
def ProfileMovesSaid : Prop := profileMovesRow.holds Try.pinned (OpenSpec.ofChange profileMovesSpec)

/-- ITS FALSE NEIGHBOUR: 'it returns false'. Refute it at one input. -/
def profileMovesWrong : ChangeSpec := { name := "profileMoves", fn := fun _ => fun
  | [d1, d2] => { results := [.lit (.bool false)], args := [d1, d2] }
  | _ => none }
def ProfileMovesWrongFalsely : Prop := profileMovesRow.holds Try.pinned (OpenSpec.ofChange profileMovesWrong)

/-- 'raddlelaw41.ProfileHomes': WHATEVER THE INPUT: true; the input reads as it did. -/
def profileHomesSpec : ChangeSpec := { name := "profileHomes", fn := fun _ => fun
  | [d1, d2] => { results := [.lit (.bool true)], args := [d1, d2] }
  | _ => none }
def profileHomesRow : OpenClaim := { program := "ytghjhlenkgkelaa", sum := "e8236706fc5f91e314e606522c3457a506c754d55da7e3374fa9cadf5e559c31", func := "raddle/raddlelaw41.ProfileHomes", spec := "profileHomes", unfollowed := true, recurses := true, plainKeys := false, apart := false }
def ProfileHomesSaid : Prop := profileHomesRow.holds Try.pinned (OpenSpec.ofChange profileHomesSpec)

/-- ITS FALSE NEIGHBOUR: 'it returns false'. Refute it at one input. -/
def profileHomesWrong : ChangeSpec := { name := "profileHomes", fn := fun _ => fun
  | [d1, d2] => { results := [.lit (.bool false)], args := [d1, d2] }
  | _ => none }
def ProfileHomesWrongFalsely : Prop := profileHomesRow.holds Try.pinned (OpenSpec.ofChange profileHomesWrong)

/- THE SECOND FORM. 'bulk': how many values and letters a reading holds, each counted each time it is reached (what is shared counts as often as it is met; a slice's spare places count too). A statement '..UptoSaid' is the law's where the arguments, and the package variables that the reading takes, are together of bulk at most 1048576: NARROWER than '..Said'. Prove '..Said' where nothing that the law and all that it calls make is longer than what came in: it says more and counts as full. Else prove '..UptoSaid'. A law counts once. -/
mutual
def uptoBulk {H : Type} : DataW H → Nat
  | .lit (.string bytes) => bytes.length + 1
  | .lit _ => 1
  | .nil => 1
  | .ptr d => uptoBulk d + 1
  | .slice elems spare => uptoBulkAll elems + uptoBulkAll spare + 1
  | .agg parts => uptoBulkAll parts + 1
  | .iface _ d => uptoBulk d + 1
  | .map entries => uptoBulkEntries entries + 1
  | .held _ => 1
def uptoBulkAll {H : Type} : List (DataW H) → Nat
  | [] => 0
  | d :: r => uptoBulk d + uptoBulkAll r
def uptoBulkEntries {H : Type} : List (Lit × DataW H) → Nat
  | [] => 0
  | x :: r => uptoBulkEntry x + uptoBulkEntries r
def uptoBulkEntry {H : Type} : Lit × DataW H → Nat
  | (.string bytes, d) => bytes.length + uptoBulk d + 1
  | (_, d) => uptoBulk d + 1
 end
def uptoSmall : (H : Type) → List (DataW H) → Bool := fun _ ds => decide (uptoBulkAll ds ≤ 1048576)
def OpenSpec.upto (s : _root_.Go.ChangeSpec) : _root_.Go.OpenSpec := { _root_.Go.OpenSpec.ofChange s with cond := some uptoSmall }

/-- 'raddlelaw41.ProfileCounts', WHERE WHAT IT READS IS OF BULK AT MOST 1048576: true; the input reads as it did. -/
def profileCountsUptoRow : OpenClaim := { program := "ytghjhlenkgkelaa", sum := "e8236706fc5f91e314e606522c3457a506c754d55da7e3374fa9cadf5e559c31", func := "raddle/raddlelaw41.ProfileCounts", spec := "profileCounts", unfollowed := true, recurses := true, plainKeys := false, apart := false, narrowed := true }
def ProfileCountsUptoSaid : Prop := profileCountsUptoRow.holds Try.pinned (OpenSpec.upto profileCountsSpec)

/-- 'raddlelaw41.ProfileGroups', WHERE WHAT IT READS IS OF BULK AT MOST 1048576: true; the input reads as it did. -/
def profileGroupsUptoRow : OpenClaim := { program := "ytghjhlenkgkelaa", sum := "e8236706fc5f91e314e606522c3457a506c754d55da7e3374fa9cadf5e559c31", func := "raddle/raddlelaw41.ProfileGroups", spec := "profileGroups", unfollowed := true, recurses := true, plainKeys := false, apart := false, narrowed := true }
def ProfileGroupsUptoSaid : Prop := profileGroupsUptoRow.holds Try.pinned (OpenSpec.upto profileGroupsSpec)

/-- 'raddlelaw41.ProfileOf', WHERE WHAT IT READS IS OF BULK AT MOST 1048576: true; the input reads as it did. -/
def profileOfUptoRow : OpenClaim := { program := "ytghjhlenkgkelaa", sum := "e8236706fc5f91e314e606522c3457a506c754d55da7e3374fa9cadf5e559c31", func := "raddle/raddlelaw41.ProfileOf", spec := "profileOf", inPlace := ["math.Float32bits"], unfollowed := true, recurses := true, plainKeys := false, apart := false, narrowed := true }
def ProfileOfUptoSaid : Prop := profileOfUptoRow.holds Try.pinned (OpenSpec.upto profileOfSpec)

/-- 'raddlelaw41.ProfileChanges', WHERE WHAT IT READS IS OF BULK AT MOST 1048576: true; the input reads as it did. -/
def profileChangesUptoRow : OpenClaim := { program := "ytghjhlenkgkelaa", sum := "e8236706fc5f91e314e606522c3457a506c754d55da7e3374fa9cadf5e559c31", func := "raddle/raddlelaw41.ProfileChanges", spec := "profileChanges", unfollowed := true, recurses := true, plainKeys := false, apart := false, narrowed := true }
def ProfileChangesUptoSaid : Prop := profileChangesUptoRow.holds Try.pinned (OpenSpec.upto profileChangesSpec)

/-- 'raddlelaw41.ProfileMoves', WHERE WHAT IT READS IS OF BULK AT MOST 1048576: true; the input reads as it did. -/
def profileMovesUptoRow : OpenClaim := { program := "ytghjhlenkgkelaa", sum := "e8236706fc5f91e314e606522c3457a506c754d55da7e3374fa9cadf5e559c31", func := "raddle/raddlelaw41.ProfileMoves", spec := "profileMoves", unfollowed := true, recurses := true, plainKeys := false, apart := false, narrowed := true }
def ProfileMovesUptoSaid : Prop := profileMovesUptoRow.holds Try.pinned (OpenSpec.upto profileMovesSpec)

/-- 'raddlelaw41.ProfileHomes', WHERE WHAT IT READS IS OF BULK AT MOST 1048576: true; the input reads as it did. -/
def profileHomesUptoRow : OpenClaim := { program := "ytghjhlenkgkelaa", sum := "e8236706fc5f91e314e606522c3457a506c754d55da7e3374fa9cadf5e559c31", func := "raddle/raddlelaw41.ProfileHomes", spec := "profileHomes", unfollowed := true, recurses := true, plainKeys := false, apart := false, narrowed := true }
def ProfileHomesUptoSaid : Prop := profileHomesUptoRow.holds Try.pinned (OpenSpec.upto profileHomesSpec)

end Rows
end Go.Proofs.Ytghjhlenkgkelaa
