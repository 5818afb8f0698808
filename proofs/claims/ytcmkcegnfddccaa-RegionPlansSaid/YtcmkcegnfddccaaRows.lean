/-
  No cell of these rows narrows 'for every input' (looked for: loops, veiled, ifaces, maps, wideKeys, modest, calm, conditions, laid).
  DERIVED. THE GIVEN ROWS OF THIS SEAT. 11 by the template 'for every input the law returns true; each argument reads behind the call as it read before'; 0 by the template 'total and deterministic' (their statements: YtcmkcegnfddccaaTotals.lean).
  GIVEN WITH THE SEED: the statements are not yours to turn. If you find one false, say at which input.
  Laid BY PROGRAM, IN A SANDBOX (cutbox-rows.mjs): the forced cells as the released guide's own fill.sh prints them over the translation da2e5e0333e59cc1… (all of the seat's roots in one cut). By AI agents, Wed Nov 11 2026. No macro, syntax, notation, axiom, sorry.
-/
import Derived.Test.YtcmkcegnfddccaaChecked
import GoSem.Claim
import GoSem.ClaimJoined
import GoSem.ClaimMapViews
import Derived.JoinedTies
import Derived.KernelRfl
namespace Go.Proofs.Ytcmkcegnfddccaa
/- THE CELL 'sum', in the pinned program and in every row, IS THE sha256 OF THE DUMP (.gsa) THAT YtcmkcegnfddccaaProg.lean LOADS. Nothing in Lean hashes anything: it is a label: what it is worth is what the hold of that sum in a sandbox is worth. -/
noncomputable def Try.pinned : Pinned := { name := "ytcmkcegnfddccaa", sum := "da2e5e0333e59cc18f9d8615d3597fd59065a0fed75e0df07849ad656918be37", checked := Try.checked }
namespace Rows
def none {H : Type} : Left H := { results := [], args := [] }

/-- 'sgraffitolaw09.RecordBack': WHATEVER THE INPUT: true; the input reads as it did. -/
def recordBackSpec : ChangeSpec := { name := "recordBack", fn := fun _ => fun
  | [d1, d2, d3] => { results := [.lit (.bool true)], args := [d1, d2, d3] }
  | _ => none }
def recordBackRow : OpenClaim := { program := "ytcmkcegnfddccaa", sum := "da2e5e0333e59cc18f9d8615d3597fd59065a0fed75e0df07849ad656918be37", func := "sgraffito/sgraffitolaw09.RecordBack", spec := "recordBack", unfollowed := true, recurses := true, apart := false }
def RecordBackSaid : Prop := recordBackRow.holds Try.pinned (OpenSpec.ofChange recordBackSpec)

/-- ITS FALSE NEIGHBOUR: 'it returns false'. Refute it at one input. -/
def recordBackWrong : ChangeSpec := { name := "recordBack", fn := fun _ => fun
  | [d1, d2, d3] => { results := [.lit (.bool false)], args := [d1, d2, d3] }
  | _ => none }
def RecordBackWrongFalsely : Prop := recordBackRow.holds Try.pinned (OpenSpec.ofChange recordBackWrong)

/-- 'sgraffitolaw04.FlashFast': WHATEVER THE INPUT: true; the input reads as it did. -/
def flashFastSpec : ChangeSpec := { name := "flashFast", fn := fun _ => fun
  | [d] => { results := [.lit (.bool true)], args := [d] }
  | _ => none }
def flashFastRow : OpenClaim := { program := "ytcmkcegnfddccaa", sum := "da2e5e0333e59cc18f9d8615d3597fd59065a0fed75e0df07849ad656918be37", func := "sgraffito/sgraffitolaw04.FlashFast", spec := "flashFast", unfollowed := true, recurses := true, apart := false }
def FlashFastSaid : Prop := flashFastRow.holds Try.pinned (OpenSpec.ofChange flashFastSpec)

/-- ITS FALSE NEIGHBOUR: 'it returns false'. Refute it at one input. -/
def flashFastWrong : ChangeSpec := { name := "flashFast", fn := fun _ => fun
  | [d] => { results := [.lit (.bool false)], args := [d] }
  | _ => none }
def FlashFastWrongFalsely : Prop := flashFastRow.holds Try.pinned (OpenSpec.ofChange flashFastWrong)

/-- 'sgraffitolaw04.FlashPlays': WHATEVER THE INPUT: true; the input reads as it did. -/
def flashPlaysSpec : ChangeSpec := { name := "flashPlays", fn := fun _ => fun
  | [d1, d2, d3] => { results := [.lit (.bool true)], args := [d1, d2, d3] }
  | _ => none }
def flashPlaysRow : OpenClaim := { program := "ytcmkcegnfddccaa", sum := "da2e5e0333e59cc18f9d8615d3597fd59065a0fed75e0df07849ad656918be37", func := "sgraffito/sgraffitolaw04.FlashPlays", spec := "flashPlays", unfollowed := true, recurses := true, apart := false }
def FlashPlaysSaid : Prop := flashPlaysRow.holds Try.pinned (OpenSpec.ofChange flashPlaysSpec)

/-- ITS FALSE NEIGHBOUR: 'it returns false'. Refute it at one input. -/
def flashPlaysWrong : ChangeSpec := { name := "flashPlays", fn := fun _ => fun
  | [d1, d2, d3] => { results := [.lit (.bool false)], args := [d1, d2, d3] }
  | _ => none }
def FlashPlaysWrongFalsely : Prop := flashPlaysRow.holds Try.pinned (OpenSpec.ofChange flashPlaysWrong)

/-- 'sgraffitolaw04.FlashCopies': WHATEVER THE INPUT: true; the input reads as it did. -/
def flashCopiesSpec : ChangeSpec := { name := "flashCopies", fn := fun _ => fun
  | [d1, d2] => { results := [.lit (.bool true)], args := [d1, d2] }
  | _ => none }
def flashCopiesRow : OpenClaim := { program := "ytcmkcegnfddccaa", sum := "da2e5e0333e59cc18f9d8615d3597fd59065a0fed75e0df07849ad656918be37", func := "sgraffito/sgraffitolaw04.FlashCopies", spec := "flashCopies", inPlace := ["maps.clone"], unfollowed := true, recurses := true, apart := false }
def FlashCopiesSaid : Prop := flashCopiesRow.holds Try.pinned (OpenSpec.ofChange flashCopiesSpec)

/-- ITS FALSE NEIGHBOUR: 'it returns false'. Refute it at one input. -/
def flashCopiesWrong : ChangeSpec := { name := "flashCopies", fn := fun _ => fun
  | [d1, d2] => { results := [.lit (.bool false)], args := [d1, d2] }
  | _ => none }
def FlashCopiesWrongFalsely : Prop := flashCopiesRow.holds Try.pinned (OpenSpec.ofChange flashCopiesWrong)

/-- 'sgraffitolaw05.LeafKeeps': WHATEVER THE INPUT: true; the input reads as it did. -/
def leafKeepsSpec : ChangeSpec := { name := "leafKeeps", fn := fun _ => fun
  | [d] => { results := [.lit (.bool true)], args := [d] }
  | _ => none }
def leafKeepsRow : OpenClaim := { program := "ytcmkcegnfddccaa", sum := "da2e5e0333e59cc18f9d8615d3597fd59065a0fed75e0df07849ad656918be37", func := "sgraffito/sgraffitolaw05.LeafKeeps", spec := "leafKeeps", unfollowed := true, recurses := true, apart := false }
def LeafKeepsSaid : Prop := leafKeepsRow.holds Try.pinned (OpenSpec.ofChange leafKeepsSpec)

/-- ITS FALSE NEIGHBOUR: 'it returns false'. Refute it at one input. -/
def leafKeepsWrong : ChangeSpec := { name := "leafKeeps", fn := fun _ => fun
  | [d] => { results := [.lit (.bool false)], args := [d] }
  | _ => none }
def LeafKeepsWrongFalsely : Prop := leafKeepsRow.holds Try.pinned (OpenSpec.ofChange leafKeepsWrong)

/-- 'sgraffitolaw11.RegionStale': WHATEVER THE INPUT: true; the input reads as it did. -/
def regionStaleSpec : ChangeSpec := { name := "regionStale", fn := fun _ => fun
  | [d1, d2] => { results := [.lit (.bool true)], args := [d1, d2] }
  | _ => none }
def regionStaleRow : OpenClaim := { program := "ytcmkcegnfddccaa", sum := "da2e5e0333e59cc18f9d8615d3597fd59065a0fed75e0df07849ad656918be37", func := "sgraffito/sgraffitolaw11.RegionStale", spec := "regionStale", unfollowed := true, recurses := true, apart := false }
def RegionStaleSaid : Prop := regionStaleRow.holds Try.pinned (OpenSpec.ofChange regionStaleSpec)

/-- ITS FALSE NEIGHBOUR: 'it returns false'. Refute it at one input. -/
def regionStaleWrong : ChangeSpec := { name := "regionStale", fn := fun _ => fun
  | [d1, d2] => { results := [.lit (.bool false)], args := [d1, d2] }
  | _ => none }
def RegionStaleWrongFalsely : Prop := regionStaleRow.holds Try.pinned (OpenSpec.ofChange regionStaleWrong)

/-- 'sgraffitolaw11.RegionWheres': WHATEVER THE INPUT: true; the input reads as it did. -/
def regionWheresSpec : ChangeSpec := { name := "regionWheres", fn := fun _ => fun
  | [d] => { results := [.lit (.bool true)], args := [d] }
  | _ => none }
def regionWheresRow : OpenClaim := { program := "ytcmkcegnfddccaa", sum := "da2e5e0333e59cc18f9d8615d3597fd59065a0fed75e0df07849ad656918be37", func := "sgraffito/sgraffitolaw11.RegionWheres", spec := "regionWheres", unfollowed := true, recurses := true, apart := false }
def RegionWheresSaid : Prop := regionWheresRow.holds Try.pinned (OpenSpec.ofChange regionWheresSpec)

/-- ITS FALSE NEIGHBOUR: 'it returns false'. Refute it at one input. -/
def regionWheresWrong : ChangeSpec := { name := "regionWheres", fn := fun _ => fun
  | [d] => { results := [.lit (.bool false)], args := [d] }
  | _ => none }
def RegionWheresWrongFalsely : Prop := regionWheresRow.holds Try.pinned (OpenSpec.ofChange regionWheresWrong)

/-- 'sgraffitolaw11.RegionPlans': WHATEVER THE INPUT: true; the input reads as it did. -/
def regionPlansSpec : ChangeSpec := { name := "regionPlans", fn := fun _ => fun
  | [d1, d2] => { results := [.lit (.bool true)], args := [d1, d2] }
  | _ => none }
def regionPlansRow : OpenClaim := { program := "ytcmkcegnfddccaa", sum := "da2e5e0333e59cc18f9d8615d3597fd59065a0fed75e0df07849ad656918be37", func := "sgraffito/sgraffitolaw11.RegionPlans", spec := "regionPlans", unfollowed := true, recurses := true, apart := false }
def RegionPlansSaid : Prop := regionPlansRow.holds Try.pinned (OpenSpec.ofChange regionPlansSpec)

/-- ITS FALSE NEIGHBOUR: 'it returns false'. Refute it at one input. -/
def regionPlansWrong : ChangeSpec := { name := "regionPlans", fn := fun _ => fun
  | [d1, d2] => { results := [.lit (.bool false)], args := [d1, d2] }
  | _ => none }
def RegionPlansWrongFalsely : Prop := regionPlansRow.holds Try.pinned (OpenSpec.ofChange regionPlansWrong)

/-- 'sgraffitolaw11.RegionPlays': WHATEVER THE INPUT: true; the input reads as it did. -/
def regionPlaysSpec : ChangeSpec := { name := "regionPlays", fn := fun _ => fun
  | [d] => { results := [.lit (.bool true)], args := [d] }
  | _ => none }
def regionPlaysRow : OpenClaim := { program := "ytcmkcegnfddccaa", sum := "da2e5e0333e59cc18f9d8615d3597fd59065a0fed75e0df07849ad656918be37", func := "sgraffito/sgraffitolaw11.RegionPlays", spec := "regionPlays", unfollowed := true, recurses := true, apart := false }
def RegionPlaysSaid : Prop := regionPlaysRow.holds Try.pinned (OpenSpec.ofChange regionPlaysSpec)

/-- ITS FALSE NEIGHBOUR: 'it returns false'. Refute it at one input. -/
def regionPlaysWrong : ChangeSpec := { name := "regionPlays", fn := fun _ => fun
  | [d] => { results := [.lit (.bool false)], args := [d] }
  | _ => none }
def RegionPlaysWrongFalsely : Prop := regionPlaysRow.holds Try.pinned (OpenSpec.ofChange regionPlaysWrong)

/-- 'sgraffitolaw11.RegionRecords': WHATEVER THE INPUT: true; the input reads as it did. -/
def regionRecordsSpec : ChangeSpec := { name := "regionRecords", fn := fun _ => fun
  | [d] => { results := [.lit (.bool true)], args := [d] }
  | _ => none }
def regionRecordsRow : OpenClaim := { program := "ytcmkcegnfddccaa", sum := "da2e5e0333e59cc18f9d8615d3597fd59065a0fed75e0df07849ad656918be37", func := "sgraffito/sgraffitolaw11.RegionRecords", spec := "regionRecords", unfollowed := true, recurses := true, apart := false }
def RegionRecordsSaid : Prop := regionRecordsRow.holds Try.pinned (OpenSpec.ofChange regionRecordsSpec)

/-- ITS FALSE NEIGHBOUR: 'it returns false'. Refute it at one input. -/
def regionRecordsWrong : ChangeSpec := { name := "regionRecords", fn := fun _ => fun
  | [d] => { results := [.lit (.bool false)], args := [d] }
  | _ => none }
def RegionRecordsWrongFalsely : Prop := regionRecordsRow.holds Try.pinned (OpenSpec.ofChange regionRecordsWrong)

/-- 'sgraffitolaw11.RegionNil': WHATEVER THE INPUT: true; the input reads as it did. -/
def regionNilSpec : ChangeSpec := { name := "regionNil", fn := fun _ => fun
  | [d] => { results := [.lit (.bool true)], args := [d] }
  | _ => none }
def regionNilRow : OpenClaim := { program := "ytcmkcegnfddccaa", sum := "da2e5e0333e59cc18f9d8615d3597fd59065a0fed75e0df07849ad656918be37", func := "sgraffito/sgraffitolaw11.RegionNil", spec := "regionNil", unfollowed := true, recurses := true, apart := false }
def RegionNilSaid : Prop := regionNilRow.holds Try.pinned (OpenSpec.ofChange regionNilSpec)

/-- ITS FALSE NEIGHBOUR: 'it returns false'. Refute it at one input. -/
def regionNilWrong : ChangeSpec := { name := "regionNil", fn := fun _ => fun
  | [d] => { results := [.lit (.bool false)], args := [d] }
  | _ => none }
def RegionNilWrongFalsely : Prop := regionNilRow.holds Try.pinned (OpenSpec.ofChange regionNilWrong)

/- THE SECOND FORM. 'bulk': how many values and letters a reading holds, each counted each time it is reached (what is shared counts as often as it is met; a slice's spare places count too). A statement '..UptoSaid' is the law's where the arguments, and the package variables that the reading takes, are together of bulk at most 1048576: NARROWER than '..Said'. Prove '..Said' where nothing that the law and all that it calls make is longer than what came in: it says more and counts as full. Else prove '..UptoSaid'. A law counts once. -/
mutual
def uptoBulk {H : Type} : DataW H → Nat
  | .lit (.string bytes) => bytes.length + 1
  | .lit _ => 1
  | .nil => 1
  | .ptr d => uptoBulk d + 1
  | .slice elems spare => uptoBulkAll elems + uptoBulkAll spare + 1
  | .agg parts => uptoBulkAll parts + 1
  | .iface _ d => uptoBulk d + 1
  | .map entries => uptoBulkEntries entries + 1
  | .held _ => 1
def uptoBulkAll {H : Type} : List (DataW H) → Nat
  | [] => 0
  | d :: r => uptoBulk d + uptoBulkAll r
def uptoBulkEntries {H : Type} : List (Lit × DataW H) → Nat
  | [] => 0
  | x :: r => uptoBulkEntry x + uptoBulkEntries r
def uptoBulkEntry {H : Type} : Lit × DataW H → Nat
  | (.string bytes, d) => bytes.length + uptoBulk d + 1
  | (_, d) => uptoBulk d + 1
 end
def uptoSmall : (H : Type) → List (DataW H) → Bool := fun _ ds => decide (uptoBulkAll ds ≤ 1048576)
def OpenSpec.upto (s : _root_.Go.ChangeSpec) : _root_.Go.OpenSpec := { _root_.Go.OpenSpec.ofChange s with cond := some uptoSmall }

/-- 'sgraffitolaw09.RecordBack', WHERE WHAT IT READS IS OF BULK AT MOST 1048576: true; the input reads as it did. -/
def recordBackUptoRow : OpenClaim := { program := "ytcmkcegnfddccaa", sum := "da2e5e0333e59cc18f9d8615d3597fd59065a0fed75e0df07849ad656918be37", func := "sgraffito/sgraffitolaw09.RecordBack", spec := "recordBack", unfollowed := true, recurses := true, apart := false, narrowed := true }
def RecordBackUptoSaid : Prop := recordBackUptoRow.holds Try.pinned (OpenSpec.upto recordBackSpec)

/-- 'sgraffitolaw04.FlashFast', WHERE WHAT IT READS IS OF BULK AT MOST 1048576: true; the input reads as it did. -/
def flashFastUptoRow : OpenClaim := { program := "ytcmkcegnfddccaa", sum := "da2e5e0333e59cc18f9d8615d3597fd59065a0fed75e0df07849ad656918be37", func := "sgraffito/sgraffitolaw04.FlashFast", spec := "flashFast", unfollowed := true, recurses := true, apart := false, narrowed := true }
def FlashFastUptoSaid : Prop := flashFastUptoRow.holds Try.pinned (OpenSpec.upto flashFastSpec)

/-- 'sgraffitolaw04.FlashPlays', WHERE WHAT IT READS IS OF BULK AT MOST 1048576: true; the input reads as it did. -/
def flashPlaysUptoRow : OpenClaim := { program := "ytcmkcegnfddccaa", sum := "da2e5e0333e59cc18f9d8615d3597fd59065a0fed75e0df07849ad656918be37", func := "sgraffito/sgraffitolaw04.FlashPlays", spec := "flashPlays", unfollowed := true, recurses := true, apart := false, narrowed := true }
def FlashPlaysUptoSaid : Prop := flashPlaysUptoRow.holds Try.pinned (OpenSpec.upto flashPlaysSpec)

/-- 'sgraffitolaw04.FlashCopies', WHERE WHAT IT READS IS OF BULK AT MOST 1048576: true; the input reads as it did. -/
def flashCopiesUptoRow : OpenClaim := { program := "ytcmkcegnfddccaa", sum := "da2e5e0333e59cc18f9d8615d3597fd59065a0fed75e0df07849ad656918be37", func := "sgraffito/sgraffitolaw04.FlashCopies", spec := "flashCopies", inPlace := ["maps.clone"], unfollowed := true, recurses := true, apart := false, narrowed := true }
def FlashCopiesUptoSaid : Prop := flashCopiesUptoRow.holds Try.pinned (OpenSpec.upto flashCopiesSpec)

/-- 'sgraffitolaw05.LeafKeeps', WHERE WHAT IT READS IS OF BULK AT MOST 1048576: true; the input reads as it did. -/
def leafKeepsUptoRow : OpenClaim := { program := "ytcmkcegnfddccaa", sum := "da2e5e0333e59cc18f9d8615d3597fd59065a0fed75e0df07849ad656918be37", func := "sgraffito/sgraffitolaw05.LeafKeeps", spec := "leafKeeps", unfollowed := true, recurses := true, apart := false, narrowed := true }
def LeafKeepsUptoSaid : Prop := leafKeepsUptoRow.holds Try.pinned (OpenSpec.upto leafKeepsSpec)

/-- 'sgraffitolaw11.RegionStale', WHERE WHAT IT READS IS OF BULK AT MOST 1048576: true; the input reads as it did. -/
def regionStaleUptoRow : OpenClaim := { program := "ytcmkcegnfddccaa", sum := "da2e5e0333e59cc18f9d8615d3597fd59065a0fed75e0df07849ad656918be37", func := "sgraffito/sgraffitolaw11.RegionStale", spec := "regionStale", unfollowed := true, recurses := true, apart := false, narrowed := true }
def RegionStaleUptoSaid : Prop := regionStaleUptoRow.holds Try.pinned (OpenSpec.upto regionStaleSpec)

/-- 'sgraffitolaw11.RegionWheres', WHERE WHAT IT READS IS OF BULK AT MOST 1048576: true; the input reads as it did. -/
def regionWheresUptoRow : OpenClaim := { program := "ytcmkcegnfddccaa", sum := "da2e5e0333e59cc18f9d8615d3597fd59065a0fed75e0df07849ad656918be37", func := "sgraffito/sgraffitolaw11.RegionWheres", spec := "regionWheres", unfollowed := true, recurses := true, apart := false, narrowed := true }
def RegionWheresUptoSaid : Prop := regionWheresUptoRow.holds Try.pinned (OpenSpec.upto regionWheresSpec)

/-- 'sgraffitolaw11.RegionPlans', WHERE WHAT IT READS IS OF BULK AT MOST 1048576: true; the input reads as it did. -/
def regionPlansUptoRow : OpenClaim := { program := "ytcmkcegnfddccaa", sum := "da2e5e0333e59cc18f9d8615d3597fd59065a0fed75e0df07849ad656918be37", func := "sgraffito/sgraffitolaw11.RegionPlans", spec := "regionPlans", unfollowed := true, recurses := true, apart := false, narrowed := true }
def RegionPlansUptoSaid : Prop := regionPlansUptoRow.holds Try.pinned (OpenSpec.upto regionPlansSpec)

/-- 'sgraffitolaw11.RegionPlays', WHERE WHAT IT READS IS OF BULK AT MOST 1048576: true; the input reads as it did. -/
def regionPlaysUptoRow : OpenClaim := { program := "ytcmkcegnfddccaa", sum := "da2e5e0333e59cc18f9d8615d3597fd59065a0fed75e0df07849ad656918be37", func := "sgraffito/sgraffitolaw11.RegionPlays", spec := "regionPlays", unfollowed := true, recurses := true, apart := false, narrowed := true }
def RegionPlaysUptoSaid : Prop := regionPlaysUptoRow.holds Try.pinned (OpenSpec.upto regionPlaysSpec)

/-- 'sgraffitolaw11.RegionRecords', WHERE WHAT IT READS IS OF BULK AT MOST 1048576: true; the input reads as it did. -/
def regionRecordsUptoRow : OpenClaim := { program := "ytcmkcegnfddccaa", sum := "da2e5e0333e59cc18f9d8615d3597fd59065a0fed75e0df07849ad656918be37", func := "sgraffito/sgraffitolaw11.RegionRecords", spec := "regionRecords", unfollowed := true, recurses := true, apart := false, narrowed := true }
def RegionRecordsUptoSaid : Prop := regionRecordsUptoRow.holds Try.pinned (OpenSpec.upto regionRecordsSpec)

/-- 'sgraffitolaw11.RegionNil', WHERE WHAT IT READS IS OF BULK AT MOST 1048576: true; the input reads as it did. -/
def regionNilUptoRow : OpenClaim := { program := "ytcmkcegnfddccaa", sum := "da2e5e0333e59cc18f9d8615d3597fd59065a0fed75e0df07849ad656918be37", func := "sgraffito/sgraffitolaw11.RegionNil", spec := "regionNil", unfollowed := true, recurses := true, apart := false, narrowed := true }
def RegionNilUptoSaid : Prop := regionNilUptoRow.holds Try.pinned (OpenSpec.upto regionNilSpec)

end Rows
end Go.Proofs.Ytcmkcegnfddccaa
