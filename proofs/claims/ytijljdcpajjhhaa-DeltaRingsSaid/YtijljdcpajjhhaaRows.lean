/-
  No cell of these rows narrows 'for every input' (looked for: loops, veiled, ifaces, maps, wideKeys, modest, calm, conditions, laid).
  DERIVED. THE GIVEN ROWS OF THIS SEAT. 12 by the template 'for every input the law returns true; each argument reads behind the call as it read before'; 0 by the template 'total and deterministic' (their statements: YtijljdcpajjhhaaTotals.lean).
  GIVEN WITH THE SEED: the statements are not yours to turn. If you find one false, say at which input.
  Laid BY PROGRAM, IN A SANDBOX (cutbox-rows.mjs): the forced cells as the released guide's own fill.sh prints them over the translation 0a99bcc2ca6dad14… (all of the seat's roots in one cut). By AI agents, Wed Nov 11 2026. No macro, syntax, notation, axiom, sorry.
-/
import Derived.Test.YtijljdcpajjhhaaChecked
import GoSem.Claim
import GoSem.ClaimJoined
import GoSem.ClaimMapViews
import Derived.JoinedTies
import Derived.KernelRfl
namespace Go.Proofs.Ytijljdcpajjhhaa
/- THE CELL 'sum', in the pinned program and in every row, IS THE sha256 OF THE DUMP (.gsa) THAT YtijljdcpajjhhaaProg.lean LOADS. Nothing in Lean hashes anything: it is a label: what it is worth is what the hold of that sum in a sandbox is worth. -/
noncomputable def Try.pinned : Pinned := { name := "ytijljdcpajjhhaa", sum := "0a99bcc2ca6dad14fd5e048f4d6d4e19c15a5722415e3ec66168598f9b33b24a", checked := Try.checked }
namespace Rows
def none {H : Type} : Left H := { results := [], args := [] }

/-- 'sgraffitolaw05.LeafKeeps': WHATEVER THE INPUT: true; the input reads as it did. -/
def leafKeepsSpec : ChangeSpec := { name := "leafKeeps", fn := fun _ => fun
  | [d] => { results := [.lit (.bool true)], args := [d] }
  | _ => none }
def leafKeepsRow : OpenClaim := { program := "ytijljdcpajjhhaa", sum := "0a99bcc2ca6dad14fd5e048f4d6d4e19c15a5722415e3ec66168598f9b33b24a", func := "sgraffito/sgraffitolaw05.LeafKeeps", spec := "leafKeeps", unfollowed := true, recurses := true, apart := false }
def LeafKeepsSaid : Prop := leafKeepsRow.holds Try.pinned (OpenSpec.ofChange leafKeepsSpec)

/-- ITS FALSE NEIGHBOUR: 'it returns false'. Refute it at one input. -/
def leafKeepsWrong : ChangeSpec := { name := "leafKeeps", fn := fun _ => fun
  | [d] => { results := [.lit (.bool false)], args := [d] }
  | _ => none }
def LeafKeepsWrongFalsely : Prop := leafKeepsRow.holds Try.pinned (OpenSpec.ofChange leafKeepsWrong)

/-- 'sgraffitolaw12.DeltaTimes': WHATEVER THE INPUT: true; the input reads as it did. -/
def deltaTimesSpec : ChangeSpec := { name := "deltaTimes", fn := fun _ => fun
  | [d] => { results := [.lit (.bool true)], args := [d] }
  | _ => none }
def deltaTimesRow : OpenClaim := { program := "ytijljdcpajjhhaa", sum := "0a99bcc2ca6dad14fd5e048f4d6d4e19c15a5722415e3ec66168598f9b33b24a", func := "sgraffito/sgraffitolaw12.DeltaTimes", spec := "deltaTimes", unfollowed := true, recurses := true, apart := false }
def DeltaTimesSaid : Prop := deltaTimesRow.holds Try.pinned (OpenSpec.ofChange deltaTimesSpec)

/-- ITS FALSE NEIGHBOUR: 'it returns false'. Refute it at one input. -/
def deltaTimesWrong : ChangeSpec := { name := "deltaTimes", fn := fun _ => fun
  | [d] => { results := [.lit (.bool false)], args := [d] }
  | _ => none }
def DeltaTimesWrongFalsely : Prop := deltaTimesRow.holds Try.pinned (OpenSpec.ofChange deltaTimesWrong)

/-- 'sgraffitolaw11.RegionPlays': WHATEVER THE INPUT: true; the input reads as it did. -/
def regionPlaysSpec : ChangeSpec := { name := "regionPlays", fn := fun _ => fun
  | [d] => { results := [.lit (.bool true)], args := [d] }
  | _ => none }
def regionPlaysRow : OpenClaim := { program := "ytijljdcpajjhhaa", sum := "0a99bcc2ca6dad14fd5e048f4d6d4e19c15a5722415e3ec66168598f9b33b24a", func := "sgraffito/sgraffitolaw11.RegionPlays", spec := "regionPlays", unfollowed := true, recurses := true, apart := false }
def RegionPlaysSaid : Prop := regionPlaysRow.holds Try.pinned (OpenSpec.ofChange regionPlaysSpec)

/-- ITS FALSE NEIGHBOUR: 'it returns false'. Refute it at one input. -/
def regionPlaysWrong : ChangeSpec := { name := "regionPlays", fn := fun _ => fun
  | [d] => { results := [.lit (.bool false)], args := [d] }
  | _ => none }
def RegionPlaysWrongFalsely : Prop := regionPlaysRow.holds Try.pinned (OpenSpec.ofChange regionPlaysWrong)

/-- 'sgraffitolaw12.DeltaRings': WHATEVER THE INPUT: true; the input reads as it did. -/
def deltaRingsSpec : ChangeSpec := { name := "deltaRings", fn := fun _ => fun
  | [d1, d2] => { results := [.lit (.bool true)], args := [d1, d2] }
  | _ => none }
def deltaRingsRow : OpenClaim := { program := "ytijljdcpajjhhaa", sum := "0a99bcc2ca6dad14fd5e048f4d6d4e19c15a5722415e3ec66168598f9b33b24a", func := "sgraffito/sgraffitolaw12.DeltaRings", spec := "deltaRings", unfollowed := true, recurses := true, apart := false }
def DeltaRingsSaid : Prop := deltaRingsRow.holds Try.pinned (OpenSpec.ofChange deltaRingsSpec)

/-- ITS FALSE NEIGHBOUR: 'it returns false'. Refute it at one input. -/
def deltaRingsWrong : ChangeSpec := { name := "deltaRings", fn := fun _ => fun
  | [d1, d2] => { results := [.lit (.bool false)], args := [d1, d2] }
  | _ => none }
def DeltaRingsWrongFalsely : Prop := deltaRingsRow.holds Try.pinned (OpenSpec.ofChange deltaRingsWrong)

/-- 'sgraffitolaw12.DeltaNil': WHATEVER THE INPUT: true; the input reads as it did. -/
def deltaNilSpec : ChangeSpec := { name := "deltaNil", fn := fun _ => fun
  | [d1, d2] => { results := [.lit (.bool true)], args := [d1, d2] }
  | _ => none }
def deltaNilRow : OpenClaim := { program := "ytijljdcpajjhhaa", sum := "0a99bcc2ca6dad14fd5e048f4d6d4e19c15a5722415e3ec66168598f9b33b24a", func := "sgraffito/sgraffitolaw12.DeltaNil", spec := "deltaNil", unfollowed := true, recurses := true, apart := false }
def DeltaNilSaid : Prop := deltaNilRow.holds Try.pinned (OpenSpec.ofChange deltaNilSpec)

/-- ITS FALSE NEIGHBOUR: 'it returns false'. Refute it at one input. -/
def deltaNilWrong : ChangeSpec := { name := "deltaNil", fn := fun _ => fun
  | [d1, d2] => { results := [.lit (.bool false)], args := [d1, d2] }
  | _ => none }
def DeltaNilWrongFalsely : Prop := deltaNilRow.holds Try.pinned (OpenSpec.ofChange deltaNilWrong)

/-- 'sgraffitolaw11.RegionRecords': WHATEVER THE INPUT: true; the input reads as it did. -/
def regionRecordsSpec : ChangeSpec := { name := "regionRecords", fn := fun _ => fun
  | [d] => { results := [.lit (.bool true)], args := [d] }
  | _ => none }
def regionRecordsRow : OpenClaim := { program := "ytijljdcpajjhhaa", sum := "0a99bcc2ca6dad14fd5e048f4d6d4e19c15a5722415e3ec66168598f9b33b24a", func := "sgraffito/sgraffitolaw11.RegionRecords", spec := "regionRecords", unfollowed := true, recurses := true, apart := false }
def RegionRecordsSaid : Prop := regionRecordsRow.holds Try.pinned (OpenSpec.ofChange regionRecordsSpec)

/-- ITS FALSE NEIGHBOUR: 'it returns false'. Refute it at one input. -/
def regionRecordsWrong : ChangeSpec := { name := "regionRecords", fn := fun _ => fun
  | [d] => { results := [.lit (.bool false)], args := [d] }
  | _ => none }
def RegionRecordsWrongFalsely : Prop := regionRecordsRow.holds Try.pinned (OpenSpec.ofChange regionRecordsWrong)

/-- 'sgraffitolaw10.SuperPacks': WHATEVER THE INPUT: true; the input reads as it did. -/
def superPacksSpec : ChangeSpec := { name := "superPacks", fn := fun _ => fun
  | [d1, d2] => { results := [.lit (.bool true)], args := [d1, d2] }
  | _ => none }
def superPacksRow : OpenClaim := { program := "ytijljdcpajjhhaa", sum := "0a99bcc2ca6dad14fd5e048f4d6d4e19c15a5722415e3ec66168598f9b33b24a", func := "sgraffito/sgraffitolaw10.SuperPacks", spec := "superPacks", unfollowed := true, recurses := true, apart := false }
def SuperPacksSaid : Prop := superPacksRow.holds Try.pinned (OpenSpec.ofChange superPacksSpec)

/-- ITS FALSE NEIGHBOUR: 'it returns false'. Refute it at one input. -/
def superPacksWrong : ChangeSpec := { name := "superPacks", fn := fun _ => fun
  | [d1, d2] => { results := [.lit (.bool false)], args := [d1, d2] }
  | _ => none }
def SuperPacksWrongFalsely : Prop := superPacksRow.holds Try.pinned (OpenSpec.ofChange superPacksWrong)

/-- 'sgraffitolaw10.SuperBack': WHATEVER THE INPUT: true; the input reads as it did. -/
def superBackSpec : ChangeSpec := { name := "superBack", fn := fun _ => fun
  | [d] => { results := [.lit (.bool true)], args := [d] }
  | _ => none }
def superBackRow : OpenClaim := { program := "ytijljdcpajjhhaa", sum := "0a99bcc2ca6dad14fd5e048f4d6d4e19c15a5722415e3ec66168598f9b33b24a", func := "sgraffito/sgraffitolaw10.SuperBack", spec := "superBack", unfollowed := true, recurses := true, apart := false }
def SuperBackSaid : Prop := superBackRow.holds Try.pinned (OpenSpec.ofChange superBackSpec)

/-- ITS FALSE NEIGHBOUR: 'it returns false'. Refute it at one input. -/
def superBackWrong : ChangeSpec := { name := "superBack", fn := fun _ => fun
  | [d] => { results := [.lit (.bool false)], args := [d] }
  | _ => none }
def SuperBackWrongFalsely : Prop := superBackRow.holds Try.pinned (OpenSpec.ofChange superBackWrong)

/-- 'sgraffitolaw10.SuperNewest': WHATEVER THE INPUT: true; the input reads as it did. -/
def superNewestSpec : ChangeSpec := { name := "superNewest", fn := fun _ => fun
  | [d1, d2, d3] => { results := [.lit (.bool true)], args := [d1, d2, d3] }
  | _ => none }
def superNewestRow : OpenClaim := { program := "ytijljdcpajjhhaa", sum := "0a99bcc2ca6dad14fd5e048f4d6d4e19c15a5722415e3ec66168598f9b33b24a", func := "sgraffito/sgraffitolaw10.SuperNewest", spec := "superNewest", unfollowed := true, recurses := true, apart := false }
def SuperNewestSaid : Prop := superNewestRow.holds Try.pinned (OpenSpec.ofChange superNewestSpec)

/-- ITS FALSE NEIGHBOUR: 'it returns false'. Refute it at one input. -/
def superNewestWrong : ChangeSpec := { name := "superNewest", fn := fun _ => fun
  | [d1, d2, d3] => { results := [.lit (.bool false)], args := [d1, d2, d3] }
  | _ => none }
def SuperNewestWrongFalsely : Prop := superNewestRow.holds Try.pinned (OpenSpec.ofChange superNewestWrong)

/-- 'sgraffitolaw10.SuperLoads': WHATEVER THE INPUT: true; the input reads as it did. -/
def superLoadsSpec : ChangeSpec := { name := "superLoads", fn := fun _ => fun
  | [d] => { results := [.lit (.bool true)], args := [d] }
  | _ => none }
def superLoadsRow : OpenClaim := { program := "ytijljdcpajjhhaa", sum := "0a99bcc2ca6dad14fd5e048f4d6d4e19c15a5722415e3ec66168598f9b33b24a", func := "sgraffito/sgraffitolaw10.SuperLoads", spec := "superLoads", unfollowed := true, recurses := true, apart := false }
def SuperLoadsSaid : Prop := superLoadsRow.holds Try.pinned (OpenSpec.ofChange superLoadsSpec)

/-- ITS FALSE NEIGHBOUR: 'it returns false'. Refute it at one input. -/
def superLoadsWrong : ChangeSpec := { name := "superLoads", fn := fun _ => fun
  | [d] => { results := [.lit (.bool false)], args := [d] }
  | _ => none }
def SuperLoadsWrongFalsely : Prop := superLoadsRow.holds Try.pinned (OpenSpec.ofChange superLoadsWrong)

/-- 'sgraffitolaw10.SuperNil': WHATEVER THE INPUT: true; the input reads as it did. -/
def superNilSpec : ChangeSpec := { name := "superNil", fn := fun _ => fun
  | [d] => { results := [.lit (.bool true)], args := [d] }
  | _ => none }
def superNilRow : OpenClaim := { program := "ytijljdcpajjhhaa", sum := "0a99bcc2ca6dad14fd5e048f4d6d4e19c15a5722415e3ec66168598f9b33b24a", func := "sgraffito/sgraffitolaw10.SuperNil", spec := "superNil", unfollowed := true, recurses := true, apart := false }
def SuperNilSaid : Prop := superNilRow.holds Try.pinned (OpenSpec.ofChange superNilSpec)

/-- ITS FALSE NEIGHBOUR: 'it returns false'. Refute it at one input. -/
def superNilWrong : ChangeSpec := { name := "superNil", fn := fun _ => fun
  | [d] => { results := [.lit (.bool false)], args := [d] }
  | _ => none }
def SuperNilWrongFalsely : Prop := superNilRow.holds Try.pinned (OpenSpec.ofChange superNilWrong)

/-- 'sgraffitolaw10.SuperTurns': WHATEVER THE INPUT: true; the input reads as it did. -/
def superTurnsSpec : ChangeSpec := { name := "superTurns", fn := fun _ => fun
  | [d1, d2, d3] => { results := [.lit (.bool true)], args := [d1, d2, d3] }
  | _ => none }
def superTurnsRow : OpenClaim := { program := "ytijljdcpajjhhaa", sum := "0a99bcc2ca6dad14fd5e048f4d6d4e19c15a5722415e3ec66168598f9b33b24a", func := "sgraffito/sgraffitolaw10.SuperTurns", spec := "superTurns", unfollowed := true, recurses := true, apart := false }
def SuperTurnsSaid : Prop := superTurnsRow.holds Try.pinned (OpenSpec.ofChange superTurnsSpec)

/-- ITS FALSE NEIGHBOUR: 'it returns false'. Refute it at one input. -/
def superTurnsWrong : ChangeSpec := { name := "superTurns", fn := fun _ => fun
  | [d1, d2, d3] => { results := [.lit (.bool false)], args := [d1, d2, d3] }
  | _ => none }
def SuperTurnsWrongFalsely : Prop := superTurnsRow.holds Try.pinned (OpenSpec.ofChange superTurnsWrong)

/- THE SECOND FORM. 'bulk': how many values and letters a reading holds, each counted each time it is reached (what is shared counts as often as it is met; a slice's spare places count too). A statement '..UptoSaid' is the law's where the arguments, and the package variables that the reading takes, are together of bulk at most 1048576: NARROWER than '..Said'. Prove '..Said' where nothing that the law and all that it calls make is longer than what came in: it says more and counts as full. Else prove '..UptoSaid'. A law counts once. -/
mutual
def uptoBulk {H : Type} : DataW H → Nat
  | .lit (.string bytes) => bytes.length + 1
  | .lit _ => 1
  | .nil => 1
  | .ptr d => uptoBulk d + 1
  | .slice elems spare => uptoBulkAll elems + uptoBulkAll spare + 1
  | .agg parts => uptoBulkAll parts + 1
  | .iface _ d => uptoBulk d + 1
  | .map entries => uptoBulkEntries entries + 1
  | .held _ => 1
def uptoBulkAll {H : Type} : List (DataW H) → Nat
  | [] => 0
  | d :: r => uptoBulk d + uptoBulkAll r
def uptoBulkEntries {H : Type} : List (Lit × DataW H) → Nat
  | [] => 0
  | x :: r => uptoBulkEntry x + uptoBulkEntries r
def uptoBulkEntry {H : Type} : Lit × DataW H → Nat
  | (.string bytes, d) => bytes.length + uptoBulk d + 1
  | (_, d) => uptoBulk d + 1
 end
def uptoSmall : (H : Type) → List (DataW H) → Bool := fun _ ds => decide (uptoBulkAll ds ≤ 1048576)
def OpenSpec.upto (s : _root_.Go.ChangeSpec) : _root_.Go.OpenSpec := { _root_.Go.OpenSpec.ofChange s with cond := some uptoSmall }

/-- 'sgraffitolaw05.LeafKeeps', WHERE WHAT IT READS IS OF BULK AT MOST 1048576: true; the input reads as it did. -/
def leafKeepsUptoRow : OpenClaim := { program := "ytijljdcpajjhhaa", sum := "0a99bcc2ca6dad14fd5e048f4d6d4e19c15a5722415e3ec66168598f9b33b24a", func := "sgraffito/sgraffitolaw05.LeafKeeps", spec := "leafKeeps", unfollowed := true, recurses := true, apart := false, narrowed := true }
def LeafKeepsUptoSaid : Prop := leafKeepsUptoRow.holds Try.pinned (OpenSpec.upto leafKeepsSpec)

/-- 'sgraffitolaw12.DeltaTimes', WHERE WHAT IT READS IS OF BULK AT MOST 1048576: true; the input reads as it did. -/
def deltaTimesUptoRow : OpenClaim := { program := "ytijljdcpajjhhaa", sum := "0a99bcc2ca6dad14fd5e048f4d6d4e19c15a5722415e3ec66168598f9b33b24a", func := "sgraffito/sgraffitolaw12.DeltaTimes", spec := "deltaTimes", unfollowed := true, recurses := true, apart := false, narrowed := true }
def DeltaTimesUptoSaid : Prop := deltaTimesUptoRow.holds Try.pinned (OpenSpec.upto deltaTimesSpec)

/-- 'sgraffitolaw11.RegionPlays', WHERE WHAT IT READS IS OF BULK AT MOST 1048576: true; the input reads as it did. -/
def regionPlaysUptoRow : OpenClaim := { program := "ytijljdcpajjhhaa", sum := "0a99bcc2ca6dad14fd5e048f4d6d4e19c15a5722415e3ec66168598f9b33b24a", func := "sgraffito/sgraffitolaw11.RegionPlays", spec := "regionPlays", unfollowed := true, recurses := true, apart := false, narrowed := true }
def RegionPlaysUptoSaid : Prop := regionPlaysUptoRow.holds Try.pinned (OpenSpec.upto regionPlaysSpec)

/-- 'sgraffitolaw12.DeltaRings', WHERE WHAT IT READS IS OF BULK AT MOST 1048576: true; the input reads as it did. -/
def deltaRingsUptoRow : OpenClaim := { program := "ytijljdcpajjhhaa", sum := "0a99bcc2ca6dad14fd5e048f4d6d4e19c15a5722415e3ec66168598f9b33b24a", func := "sgraffito/sgraffitolaw12.DeltaRings", spec := "deltaRings", unfollowed := true, recurses := true, apart := false, narrowed := true }
def DeltaRingsUptoSaid : Prop := deltaRingsUptoRow.holds Try.pinned (OpenSpec.upto deltaRingsSpec)

/-- 'sgraffitolaw12.DeltaNil', WHERE WHAT IT READS IS OF BULK AT MOST 1048576: true; the input reads as it did. -/
def deltaNilUptoRow : OpenClaim := { program := "ytijljdcpajjhhaa", sum := "0a99bcc2ca6dad14fd5e048f4d6d4e19c15a5722415e3ec66168598f9b33b24a", func := "sgraffito/sgraffitolaw12.DeltaNil", spec := "deltaNil", unfollowed := true, recurses := true, apart := false, narrowed := true }
def DeltaNilUptoSaid : Prop := deltaNilUptoRow.holds Try.pinned (OpenSpec.upto deltaNilSpec)

/-- 'sgraffitolaw11.RegionRecords', WHERE WHAT IT READS IS OF BULK AT MOST 1048576: true; the input reads as it did. -/
def regionRecordsUptoRow : OpenClaim := { program := "ytijljdcpajjhhaa", sum := "0a99bcc2ca6dad14fd5e048f4d6d4e19c15a5722415e3ec66168598f9b33b24a", func := "sgraffito/sgraffitolaw11.RegionRecords", spec := "regionRecords", unfollowed := true, recurses := true, apart := false, narrowed := true }
def RegionRecordsUptoSaid : Prop := regionRecordsUptoRow.holds Try.pinned (OpenSpec.upto regionRecordsSpec)

/-- 'sgraffitolaw10.SuperPacks', WHERE WHAT IT READS IS OF BULK AT MOST 1048576: true; the input reads as it did. -/
def superPacksUptoRow : OpenClaim := { program := "ytijljdcpajjhhaa", sum := "0a99bcc2ca6dad14fd5e048f4d6d4e19c15a5722415e3ec66168598f9b33b24a", func := "sgraffito/sgraffitolaw10.SuperPacks", spec := "superPacks", unfollowed := true, recurses := true, apart := false, narrowed := true }
def SuperPacksUptoSaid : Prop := superPacksUptoRow.holds Try.pinned (OpenSpec.upto superPacksSpec)

/-- 'sgraffitolaw10.SuperBack', WHERE WHAT IT READS IS OF BULK AT MOST 1048576: true; the input reads as it did. -/
def superBackUptoRow : OpenClaim := { program := "ytijljdcpajjhhaa", sum := "0a99bcc2ca6dad14fd5e048f4d6d4e19c15a5722415e3ec66168598f9b33b24a", func := "sgraffito/sgraffitolaw10.SuperBack", spec := "superBack", unfollowed := true, recurses := true, apart := false, narrowed := true }
def SuperBackUptoSaid : Prop := superBackUptoRow.holds Try.pinned (OpenSpec.upto superBackSpec)

/-- 'sgraffitolaw10.SuperNewest', WHERE WHAT IT READS IS OF BULK AT MOST 1048576: true; the input reads as it did. -/
def superNewestUptoRow : OpenClaim := { program := "ytijljdcpajjhhaa", sum := "0a99bcc2ca6dad14fd5e048f4d6d4e19c15a5722415e3ec66168598f9b33b24a", func := "sgraffito/sgraffitolaw10.SuperNewest", spec := "superNewest", unfollowed := true, recurses := true, apart := false, narrowed := true }
def SuperNewestUptoSaid : Prop := superNewestUptoRow.holds Try.pinned (OpenSpec.upto superNewestSpec)

/-- 'sgraffitolaw10.SuperLoads', WHERE WHAT IT READS IS OF BULK AT MOST 1048576: true; the input reads as it did. -/
def superLoadsUptoRow : OpenClaim := { program := "ytijljdcpajjhhaa", sum := "0a99bcc2ca6dad14fd5e048f4d6d4e19c15a5722415e3ec66168598f9b33b24a", func := "sgraffito/sgraffitolaw10.SuperLoads", spec := "superLoads", unfollowed := true, recurses := true, apart := false, narrowed := true }
def SuperLoadsUptoSaid : Prop := superLoadsUptoRow.holds Try.pinned (OpenSpec.upto superLoadsSpec)

/-- 'sgraffitolaw10.SuperNil', WHERE WHAT IT READS IS OF BULK AT MOST 1048576: true; the input reads as it did. -/
def superNilUptoRow : OpenClaim := { program := "ytijljdcpajjhhaa", sum := "0a99bcc2ca6dad14fd5e048f4d6d4e19c15a5722415e3ec66168598f9b33b24a", func := "sgraffito/sgraffitolaw10.SuperNil", spec := "superNil", unfollowed := true, recurses := true, apart := false, narrowed := true }
def SuperNilUptoSaid : Prop := superNilUptoRow.holds Try.pinned (OpenSpec.upto superNilSpec)

/-- 'sgraffitolaw10.SuperTurns', WHERE WHAT IT READS IS OF BULK AT MOST 1048576: true; the input reads as it did. -/
def superTurnsUptoRow : OpenClaim := { program := "ytijljdcpajjhhaa", sum := "0a99bcc2ca6dad14fd5e048f4d6d4e19c15a5722415e3ec66168598f9b33b24a", func := "sgraffito/sgraffitolaw10.SuperTurns", spec := "superTurns", unfollowed := true, recurses := true, apart := false, narrowed := true }
def SuperTurnsUptoSaid : Prop := superTurnsUptoRow.holds Try.pinned (OpenSpec.upto superTurnsSpec)

end Rows
end Go.Proofs.Ytijljdcpajjhhaa
