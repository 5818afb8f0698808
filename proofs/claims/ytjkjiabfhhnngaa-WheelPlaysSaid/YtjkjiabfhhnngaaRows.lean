/-
  No cell of these rows narrows 'for every input' (looked for: loops, veiled, ifaces, maps, wideKeys, modest, calm, conditions, laid).
  DERIVED. THE GIVEN ROWS OF THIS SEAT. 9 by the template 'for every input the law returns true; each argument reads behind the call as it read before'; 0 by the template 'total and deterministic' (their statements: YtjkjiabfhhnngaaTotals.lean).
  GIVEN WITH THE SEED: the statements are not yours to turn. If you find one false, say at which input.
  Laid BY PROGRAM, IN A SANDBOX (cutbox-rows.mjs): the forced cells as the released guide's own fill.sh prints them over the translation 662859bd15f3b609… (all of the seat's roots in one cut). By AI agents, Wed Nov 11 2026. No macro, syntax, notation, axiom, sorry.
-/
import Derived.Test.YtjkjiabfhhnngaaChecked
import GoSem.Claim
import GoSem.ClaimJoined
import GoSem.ClaimMapViews
import Derived.JoinedTies
import Derived.KernelRfl
namespace Go.Proofs.Ytjkjiabfhhnngaa
/- THE CELL 'sum', in the pinned program and in every row, IS THE sha256 OF THE DUMP (.gsa) THAT YtjkjiabfhhnngaaProg.lean LOADS. Nothing in Lean hashes anything: it is a label: what it is worth is what the hold of that sum in a sandbox is worth. -/
noncomputable def Try.pinned : Pinned := { name := "ytjkjiabfhhnngaa", sum := "662859bd15f3b60979fcb7074c9ef517fd77fc0c69463a63e26daccbe5ea24ae", checked := Try.checked }
namespace Rows
def none {H : Type} : Left H := { results := [], args := [] }

/-- 'sgraffitolaw04.FlashPlays': WHATEVER THE INPUT: true; the input reads as it did. -/
def flashPlaysSpec : ChangeSpec := { name := "flashPlays", fn := fun _ => fun
  | [d1, d2, d3] => { results := [.lit (.bool true)], args := [d1, d2, d3] }
  | _ => none }
def flashPlaysRow : OpenClaim := { program := "ytjkjiabfhhnngaa", sum := "662859bd15f3b60979fcb7074c9ef517fd77fc0c69463a63e26daccbe5ea24ae", func := "sgraffito/sgraffitolaw04.FlashPlays", spec := "flashPlays", unfollowed := true, recurses := true, apart := false }
def FlashPlaysSaid : Prop := flashPlaysRow.holds Try.pinned (OpenSpec.ofChange flashPlaysSpec)

/-- ITS FALSE NEIGHBOUR: 'it returns false'. Refute it at one input. -/
def flashPlaysWrong : ChangeSpec := { name := "flashPlays", fn := fun _ => fun
  | [d1, d2, d3] => { results := [.lit (.bool false)], args := [d1, d2, d3] }
  | _ => none }
def FlashPlaysWrongFalsely : Prop := flashPlaysRow.holds Try.pinned (OpenSpec.ofChange flashPlaysWrong)

/-- 'sgraffitolaw04.FlashCopies': WHATEVER THE INPUT: true; the input reads as it did. -/
def flashCopiesSpec : ChangeSpec := { name := "flashCopies", fn := fun _ => fun
  | [d1, d2] => { results := [.lit (.bool true)], args := [d1, d2] }
  | _ => none }
def flashCopiesRow : OpenClaim := { program := "ytjkjiabfhhnngaa", sum := "662859bd15f3b60979fcb7074c9ef517fd77fc0c69463a63e26daccbe5ea24ae", func := "sgraffito/sgraffitolaw04.FlashCopies", spec := "flashCopies", inPlace := ["maps.clone"], unfollowed := true, recurses := true, apart := false }
def FlashCopiesSaid : Prop := flashCopiesRow.holds Try.pinned (OpenSpec.ofChange flashCopiesSpec)

/-- ITS FALSE NEIGHBOUR: 'it returns false'. Refute it at one input. -/
def flashCopiesWrong : ChangeSpec := { name := "flashCopies", fn := fun _ => fun
  | [d1, d2] => { results := [.lit (.bool false)], args := [d1, d2] }
  | _ => none }
def FlashCopiesWrongFalsely : Prop := flashCopiesRow.holds Try.pinned (OpenSpec.ofChange flashCopiesWrong)

/-- 'sgraffitolaw05.LeafKeeps': WHATEVER THE INPUT: true; the input reads as it did. -/
def leafKeepsSpec : ChangeSpec := { name := "leafKeeps", fn := fun _ => fun
  | [d] => { results := [.lit (.bool true)], args := [d] }
  | _ => none }
def leafKeepsRow : OpenClaim := { program := "ytjkjiabfhhnngaa", sum := "662859bd15f3b60979fcb7074c9ef517fd77fc0c69463a63e26daccbe5ea24ae", func := "sgraffito/sgraffitolaw05.LeafKeeps", spec := "leafKeeps", unfollowed := true, recurses := true, apart := false }
def LeafKeepsSaid : Prop := leafKeepsRow.holds Try.pinned (OpenSpec.ofChange leafKeepsSpec)

/-- ITS FALSE NEIGHBOUR: 'it returns false'. Refute it at one input. -/
def leafKeepsWrong : ChangeSpec := { name := "leafKeeps", fn := fun _ => fun
  | [d] => { results := [.lit (.bool false)], args := [d] }
  | _ => none }
def LeafKeepsWrongFalsely : Prop := leafKeepsRow.holds Try.pinned (OpenSpec.ofChange leafKeepsWrong)

/-- 'sgraffitolaw11.RegionWhole': WHATEVER THE INPUT: true; the input reads as it did. -/
def regionWholeSpec : ChangeSpec := { name := "regionWhole", fn := fun _ => fun
  | [d] => { results := [.lit (.bool true)], args := [d] }
  | _ => none }
def regionWholeRow : OpenClaim := { program := "ytjkjiabfhhnngaa", sum := "662859bd15f3b60979fcb7074c9ef517fd77fc0c69463a63e26daccbe5ea24ae", func := "sgraffito/sgraffitolaw11.RegionWhole", spec := "regionWhole", unfollowed := true, recurses := true, apart := false }
def RegionWholeSaid : Prop := regionWholeRow.holds Try.pinned (OpenSpec.ofChange regionWholeSpec)

/-- ITS FALSE NEIGHBOUR: 'it returns false'. Refute it at one input. -/
def regionWholeWrong : ChangeSpec := { name := "regionWhole", fn := fun _ => fun
  | [d] => { results := [.lit (.bool false)], args := [d] }
  | _ => none }
def RegionWholeWrongFalsely : Prop := regionWholeRow.holds Try.pinned (OpenSpec.ofChange regionWholeWrong)

/-- 'sgraffitolaw24.WheelGoes': WHATEVER THE INPUT: true; the input reads as it did. -/
def wheelGoesSpec : ChangeSpec := { name := "wheelGoes", fn := fun _ => fun
  | [d1, d2, d3] => { results := [.lit (.bool true)], args := [d1, d2, d3] }
  | _ => none }
def wheelGoesRow : OpenClaim := { program := "ytjkjiabfhhnngaa", sum := "662859bd15f3b60979fcb7074c9ef517fd77fc0c69463a63e26daccbe5ea24ae", func := "sgraffito/sgraffitolaw24.WheelGoes", spec := "wheelGoes", unfollowed := true, recurses := true, apart := false }
def WheelGoesSaid : Prop := wheelGoesRow.holds Try.pinned (OpenSpec.ofChange wheelGoesSpec)

/-- ITS FALSE NEIGHBOUR: 'it returns false'. Refute it at one input. -/
def wheelGoesWrong : ChangeSpec := { name := "wheelGoes", fn := fun _ => fun
  | [d1, d2, d3] => { results := [.lit (.bool false)], args := [d1, d2, d3] }
  | _ => none }
def WheelGoesWrongFalsely : Prop := wheelGoesRow.holds Try.pinned (OpenSpec.ofChange wheelGoesWrong)

/-- 'sgraffitolaw24.WheelOnce': WHATEVER THE INPUT: true; the input reads as it did. -/
def wheelOnceSpec : ChangeSpec := { name := "wheelOnce", fn := fun _ => fun
  | [d] => { results := [.lit (.bool true)], args := [d] }
  | _ => none }
def wheelOnceRow : OpenClaim := { program := "ytjkjiabfhhnngaa", sum := "662859bd15f3b60979fcb7074c9ef517fd77fc0c69463a63e26daccbe5ea24ae", func := "sgraffito/sgraffitolaw24.WheelOnce", spec := "wheelOnce", unfollowed := true, recurses := true, apart := false }
def WheelOnceSaid : Prop := wheelOnceRow.holds Try.pinned (OpenSpec.ofChange wheelOnceSpec)

/-- ITS FALSE NEIGHBOUR: 'it returns false'. Refute it at one input. -/
def wheelOnceWrong : ChangeSpec := { name := "wheelOnce", fn := fun _ => fun
  | [d] => { results := [.lit (.bool false)], args := [d] }
  | _ => none }
def WheelOnceWrongFalsely : Prop := wheelOnceRow.holds Try.pinned (OpenSpec.ofChange wheelOnceWrong)

/-- 'sgraffitolaw24.WheelPlays': WHATEVER THE INPUT: true; the input reads as it did. -/
def wheelPlaysSpec : ChangeSpec := { name := "wheelPlays", fn := fun _ => fun
  | [d] => { results := [.lit (.bool true)], args := [d] }
  | _ => none }
def wheelPlaysRow : OpenClaim := { program := "ytjkjiabfhhnngaa", sum := "662859bd15f3b60979fcb7074c9ef517fd77fc0c69463a63e26daccbe5ea24ae", func := "sgraffito/sgraffitolaw24.WheelPlays", spec := "wheelPlays", unfollowed := true, recurses := true, apart := false }
def WheelPlaysSaid : Prop := wheelPlaysRow.holds Try.pinned (OpenSpec.ofChange wheelPlaysSpec)

/-- ITS FALSE NEIGHBOUR: 'it returns false'. Refute it at one input. -/
def wheelPlaysWrong : ChangeSpec := { name := "wheelPlays", fn := fun _ => fun
  | [d] => { results := [.lit (.bool false)], args := [d] }
  | _ => none }
def WheelPlaysWrongFalsely : Prop := wheelPlaysRow.holds Try.pinned (OpenSpec.ofChange wheelPlaysWrong)

/-- 'sgraffitolaw24.WheelNil': WHATEVER THE INPUT: true; the input reads as it did. -/
def wheelNilSpec : ChangeSpec := { name := "wheelNil", fn := fun _ => fun
  | [d] => { results := [.lit (.bool true)], args := [d] }
  | _ => none }
def wheelNilRow : OpenClaim := { program := "ytjkjiabfhhnngaa", sum := "662859bd15f3b60979fcb7074c9ef517fd77fc0c69463a63e26daccbe5ea24ae", func := "sgraffito/sgraffitolaw24.WheelNil", spec := "wheelNil", unfollowed := true, recurses := true, apart := false }
def WheelNilSaid : Prop := wheelNilRow.holds Try.pinned (OpenSpec.ofChange wheelNilSpec)

/-- ITS FALSE NEIGHBOUR: 'it returns false'. Refute it at one input. -/
def wheelNilWrong : ChangeSpec := { name := "wheelNil", fn := fun _ => fun
  | [d] => { results := [.lit (.bool false)], args := [d] }
  | _ => none }
def WheelNilWrongFalsely : Prop := wheelNilRow.holds Try.pinned (OpenSpec.ofChange wheelNilWrong)

/-- 'sgraffitolaw12.DeltaWhole': WHATEVER THE INPUT: true; the input reads as it did. -/
def deltaWholeSpec : ChangeSpec := { name := "deltaWhole", fn := fun _ => fun
  | [d] => { results := [.lit (.bool true)], args := [d] }
  | _ => none }
def deltaWholeRow : OpenClaim := { program := "ytjkjiabfhhnngaa", sum := "662859bd15f3b60979fcb7074c9ef517fd77fc0c69463a63e26daccbe5ea24ae", func := "sgraffito/sgraffitolaw12.DeltaWhole", spec := "deltaWhole", unfollowed := true, recurses := true, apart := false }
def DeltaWholeSaid : Prop := deltaWholeRow.holds Try.pinned (OpenSpec.ofChange deltaWholeSpec)

/-- ITS FALSE NEIGHBOUR: 'it returns false'. Refute it at one input. -/
def deltaWholeWrong : ChangeSpec := { name := "deltaWhole", fn := fun _ => fun
  | [d] => { results := [.lit (.bool false)], args := [d] }
  | _ => none }
def DeltaWholeWrongFalsely : Prop := deltaWholeRow.holds Try.pinned (OpenSpec.ofChange deltaWholeWrong)

/- THE SECOND FORM. 'bulk': how many values and letters a reading holds, each counted each time it is reached (what is shared counts as often as it is met; a slice's spare places count too). A statement '..UptoSaid' is the law's where the arguments, and the package variables that the reading takes, are together of bulk at most 1048576: NARROWER than '..Said'. Prove '..Said' where nothing that the law and all that it calls make is longer than what came in: it says more and counts as full. Else prove '..UptoSaid'. A law counts once. -/
mutual
def uptoBulk {H : Type} : DataW H → Nat
  | .lit (.string bytes) => bytes.length + 1
  | .lit _ => 1
  | .nil => 1
  | .ptr d => uptoBulk d + 1
  | .slice elems spare => uptoBulkAll elems + uptoBulkAll spare + 1
  | .agg parts => uptoBulkAll parts + 1
  | .iface _ d => uptoBulk d + 1
  | .map entries => uptoBulkEntries entries + 1
  | .held _ => 1
def uptoBulkAll {H : Type} : List (DataW H) → Nat
  | [] => 0
  | d :: r => uptoBulk d + uptoBulkAll r
def uptoBulkEntries {H : Type} : List (Lit × DataW H) → Nat
  | [] => 0
  | x :: r => uptoBulkEntry x + uptoBulkEntries r
def uptoBulkEntry {H : Type} : Lit × DataW H → Nat
  | (.string bytes, d) => bytes.length + uptoBulk d + 1
  | (_, d) => uptoBulk d + 1
 end
def uptoSmall : (H : Type) → List (DataW H) → Bool := fun _ ds => decide (uptoBulkAll ds ≤ 1048576)
def OpenSpec.upto (s : _root_.Go.ChangeSpec) : _root_.Go.OpenSpec := { _root_.Go.OpenSpec.ofChange s with cond := some uptoSmall }

/-- 'sgraffitolaw04.FlashPlays', WHERE WHAT IT READS IS OF BULK AT MOST 1048576: true; the input reads as it did. -/
def flashPlaysUptoRow : OpenClaim := { program := "ytjkjiabfhhnngaa", sum := "662859bd15f3b60979fcb7074c9ef517fd77fc0c69463a63e26daccbe5ea24ae", func := "sgraffito/sgraffitolaw04.FlashPlays", spec := "flashPlays", unfollowed := true, recurses := true, apart := false, narrowed := true }
def FlashPlaysUptoSaid : Prop := flashPlaysUptoRow.holds Try.pinned (OpenSpec.upto flashPlaysSpec)

/-- 'sgraffitolaw04.FlashCopies', WHERE WHAT IT READS IS OF BULK AT MOST 1048576: true; the input reads as it did. -/
def flashCopiesUptoRow : OpenClaim := { program := "ytjkjiabfhhnngaa", sum := "662859bd15f3b60979fcb7074c9ef517fd77fc0c69463a63e26daccbe5ea24ae", func := "sgraffito/sgraffitolaw04.FlashCopies", spec := "flashCopies", inPlace := ["maps.clone"], unfollowed := true, recurses := true, apart := false, narrowed := true }
def FlashCopiesUptoSaid : Prop := flashCopiesUptoRow.holds Try.pinned (OpenSpec.upto flashCopiesSpec)

/-- 'sgraffitolaw05.LeafKeeps', WHERE WHAT IT READS IS OF BULK AT MOST 1048576: true; the input reads as it did. -/
def leafKeepsUptoRow : OpenClaim := { program := "ytjkjiabfhhnngaa", sum := "662859bd15f3b60979fcb7074c9ef517fd77fc0c69463a63e26daccbe5ea24ae", func := "sgraffito/sgraffitolaw05.LeafKeeps", spec := "leafKeeps", unfollowed := true, recurses := true, apart := false, narrowed := true }
def LeafKeepsUptoSaid : Prop := leafKeepsUptoRow.holds Try.pinned (OpenSpec.upto leafKeepsSpec)

/-- 'sgraffitolaw11.RegionWhole', WHERE WHAT IT READS IS OF BULK AT MOST 1048576: true; the input reads as it did. -/
def regionWholeUptoRow : OpenClaim := { program := "ytjkjiabfhhnngaa", sum := "662859bd15f3b60979fcb7074c9ef517fd77fc0c69463a63e26daccbe5ea24ae", func := "sgraffito/sgraffitolaw11.RegionWhole", spec := "regionWhole", unfollowed := true, recurses := true, apart := false, narrowed := true }
def RegionWholeUptoSaid : Prop := regionWholeUptoRow.holds Try.pinned (OpenSpec.upto regionWholeSpec)

/-- 'sgraffitolaw24.WheelGoes', WHERE WHAT IT READS IS OF BULK AT MOST 1048576: true; the input reads as it did. -/
def wheelGoesUptoRow : OpenClaim := { program := "ytjkjiabfhhnngaa", sum := "662859bd15f3b60979fcb7074c9ef517fd77fc0c69463a63e26daccbe5ea24ae", func := "sgraffito/sgraffitolaw24.WheelGoes", spec := "wheelGoes", unfollowed := true, recurses := true, apart := false, narrowed := true }
def WheelGoesUptoSaid : Prop := wheelGoesUptoRow.holds Try.pinned (OpenSpec.upto wheelGoesSpec)

/-- 'sgraffitolaw24.WheelOnce', WHERE WHAT IT READS IS OF BULK AT MOST 1048576: true; the input reads as it did. -/
def wheelOnceUptoRow : OpenClaim := { program := "ytjkjiabfhhnngaa", sum := "662859bd15f3b60979fcb7074c9ef517fd77fc0c69463a63e26daccbe5ea24ae", func := "sgraffito/sgraffitolaw24.WheelOnce", spec := "wheelOnce", unfollowed := true, recurses := true, apart := false, narrowed := true }
def WheelOnceUptoSaid : Prop := wheelOnceUptoRow.holds Try.pinned (OpenSpec.upto wheelOnceSpec)

/-- 'sgraffitolaw24.WheelPlays', WHERE WHAT IT READS IS OF BULK AT MOST 1048576: true; the input reads as it did. -/
def wheelPlaysUptoRow : OpenClaim := { program := "ytjkjiabfhhnngaa", sum := "662859bd15f3b60979fcb7074c9ef517fd77fc0c69463a63e26daccbe5ea24ae", func := "sgraffito/sgraffitolaw24.WheelPlays", spec := "wheelPlays", unfollowed := true, recurses := true, apart := false, narrowed := true }
def WheelPlaysUptoSaid : Prop := wheelPlaysUptoRow.holds Try.pinned (OpenSpec.upto wheelPlaysSpec)

/-- 'sgraffitolaw24.WheelNil', WHERE WHAT IT READS IS OF BULK AT MOST 1048576: true; the input reads as it did. -/
def wheelNilUptoRow : OpenClaim := { program := "ytjkjiabfhhnngaa", sum := "662859bd15f3b60979fcb7074c9ef517fd77fc0c69463a63e26daccbe5ea24ae", func := "sgraffito/sgraffitolaw24.WheelNil", spec := "wheelNil", unfollowed := true, recurses := true, apart := false, narrowed := true }
def WheelNilUptoSaid : Prop := wheelNilUptoRow.holds Try.pinned (OpenSpec.upto wheelNilSpec)

/-- 'sgraffitolaw12.DeltaWhole', WHERE WHAT IT READS IS OF BULK AT MOST 1048576: true; the input reads as it did. -/
def deltaWholeUptoRow : OpenClaim := { program := "ytjkjiabfhhnngaa", sum := "662859bd15f3b60979fcb7074c9ef517fd77fc0c69463a63e26daccbe5ea24ae", func := "sgraffito/sgraffitolaw12.DeltaWhole", spec := "deltaWhole", unfollowed := true, recurses := true, apart := false, narrowed := true }
def DeltaWholeUptoSaid : Prop := deltaWholeUptoRow.holds Try.pinned (OpenSpec.upto deltaWholeSpec)

end Rows
end Go.Proofs.Ytjkjiabfhhnngaa
