/-
  No cell of these rows narrows 'for every input' (looked for: loops, veiled, ifaces, maps, wideKeys, modest, calm, conditions, laid).
  DERIVED. THE GIVEN ROWS OF THIS SEAT. 9 by the template 'for every input the law returns true; each argument reads behind the call as it read before'; 0 by the template 'total and deterministic' (their statements: YtpodbekiaagfcaaTotals.lean).
  GIVEN WITH THE SEED: the statements are not yours to turn. If you find one false, say at which input.
  Laid BY PROGRAM, IN A SANDBOX (cutbox-rows.mjs): the forced cells as the released guide's own fill.sh prints them over the translation b49af7101d2c658d… (all of the seat's roots in one cut). By AI agents, Wed Nov 11 2026. No macro, syntax, notation, axiom, sorry.
-/
import Derived.Test.YtpodbekiaagfcaaChecked
import GoSem.Claim
import GoSem.ClaimJoined
import GoSem.ClaimMapViews
import Derived.JoinedTies
import Derived.KernelRfl
namespace Go.Proofs.Ytpodbekiaagfcaa
/- THE CELL 'sum', in the pinned program and in every row, IS THE sha256 OF THE DUMP (.gsa) THAT YtpodbekiaagfcaaProg.lean LOADS. Nothing in Lean hashes anything: it is a label: what it is worth is what the hold of that sum in a sandbox is worth. -/
noncomputable def Try.pinned : Pinned := { name := "ytpodbekiaagfcaa", sum := "b49af7101d2c658d2698dd6c082e137fd78d1796636e3584e048ece6204ea0f5", checked := Try.checked }
namespace Rows
def none {H : Type} : Left H := { results := [], args := [] }

/-- 'sgraffitolaw04.FlashPieces': WHATEVER THE INPUT: true; the input reads as it did. -/
def flashPiecesSpec : ChangeSpec := { name := "flashPieces", fn := fun _ => fun
  | [d1, d2, d3] => { results := [.lit (.bool true)], args := [d1, d2, d3] }
  | _ => none }
def flashPiecesRow : OpenClaim := { program := "ytpodbekiaagfcaa", sum := "b49af7101d2c658d2698dd6c082e137fd78d1796636e3584e048ece6204ea0f5", func := "sgraffito/sgraffitolaw04.FlashPieces", spec := "flashPieces", unfollowed := true, recurses := true, apart := false }
def FlashPiecesSaid : Prop := flashPiecesRow.holds Try.pinned (OpenSpec.ofChange flashPiecesSpec)

/-- ITS FALSE NEIGHBOUR: 'it returns false'. Refute it at one input. -/
def flashPiecesWrong : ChangeSpec := { name := "flashPieces", fn := fun _ => fun
  | [d1, d2, d3] => { results := [.lit (.bool false)], args := [d1, d2, d3] }
  | _ => none }
def FlashPiecesWrongFalsely : Prop := flashPiecesRow.holds Try.pinned (OpenSpec.ofChange flashPiecesWrong)

/-- 'sgraffitolaw04.FlashActs': WHATEVER THE INPUT: true; the input reads as it did. -/
def flashActsSpec : ChangeSpec := { name := "flashActs", fn := fun _ => fun
  | [d1, d2] => { results := [.lit (.bool true)], args := [d1, d2] }
  | _ => none }
def flashActsRow : OpenClaim := { program := "ytpodbekiaagfcaa", sum := "b49af7101d2c658d2698dd6c082e137fd78d1796636e3584e048ece6204ea0f5", func := "sgraffito/sgraffitolaw04.FlashActs", spec := "flashActs", unfollowed := true, recurses := true, apart := false }
def FlashActsSaid : Prop := flashActsRow.holds Try.pinned (OpenSpec.ofChange flashActsSpec)

/-- ITS FALSE NEIGHBOUR: 'it returns false'. Refute it at one input. -/
def flashActsWrong : ChangeSpec := { name := "flashActs", fn := fun _ => fun
  | [d1, d2] => { results := [.lit (.bool false)], args := [d1, d2] }
  | _ => none }
def FlashActsWrongFalsely : Prop := flashActsRow.holds Try.pinned (OpenSpec.ofChange flashActsWrong)

/-- 'sgraffitolaw04.FlashFast': WHATEVER THE INPUT: true; the input reads as it did. -/
def flashFastSpec : ChangeSpec := { name := "flashFast", fn := fun _ => fun
  | [d] => { results := [.lit (.bool true)], args := [d] }
  | _ => none }
def flashFastRow : OpenClaim := { program := "ytpodbekiaagfcaa", sum := "b49af7101d2c658d2698dd6c082e137fd78d1796636e3584e048ece6204ea0f5", func := "sgraffito/sgraffitolaw04.FlashFast", spec := "flashFast", unfollowed := true, recurses := true, apart := false }
def FlashFastSaid : Prop := flashFastRow.holds Try.pinned (OpenSpec.ofChange flashFastSpec)

/-- ITS FALSE NEIGHBOUR: 'it returns false'. Refute it at one input. -/
def flashFastWrong : ChangeSpec := { name := "flashFast", fn := fun _ => fun
  | [d] => { results := [.lit (.bool false)], args := [d] }
  | _ => none }
def FlashFastWrongFalsely : Prop := flashFastRow.holds Try.pinned (OpenSpec.ofChange flashFastWrong)

/-- 'sgraffitolaw04.FlashPlays': WHATEVER THE INPUT: true; the input reads as it did. -/
def flashPlaysSpec : ChangeSpec := { name := "flashPlays", fn := fun _ => fun
  | [d1, d2, d3] => { results := [.lit (.bool true)], args := [d1, d2, d3] }
  | _ => none }
def flashPlaysRow : OpenClaim := { program := "ytpodbekiaagfcaa", sum := "b49af7101d2c658d2698dd6c082e137fd78d1796636e3584e048ece6204ea0f5", func := "sgraffito/sgraffitolaw04.FlashPlays", spec := "flashPlays", unfollowed := true, recurses := true, apart := false }
def FlashPlaysSaid : Prop := flashPlaysRow.holds Try.pinned (OpenSpec.ofChange flashPlaysSpec)

/-- ITS FALSE NEIGHBOUR: 'it returns false'. Refute it at one input. -/
def flashPlaysWrong : ChangeSpec := { name := "flashPlays", fn := fun _ => fun
  | [d1, d2, d3] => { results := [.lit (.bool false)], args := [d1, d2, d3] }
  | _ => none }
def FlashPlaysWrongFalsely : Prop := flashPlaysRow.holds Try.pinned (OpenSpec.ofChange flashPlaysWrong)

/-- 'sgraffitolaw04.FlashCopies': WHATEVER THE INPUT: true; the input reads as it did. -/
def flashCopiesSpec : ChangeSpec := { name := "flashCopies", fn := fun _ => fun
  | [d1, d2] => { results := [.lit (.bool true)], args := [d1, d2] }
  | _ => none }
def flashCopiesRow : OpenClaim := { program := "ytpodbekiaagfcaa", sum := "b49af7101d2c658d2698dd6c082e137fd78d1796636e3584e048ece6204ea0f5", func := "sgraffito/sgraffitolaw04.FlashCopies", spec := "flashCopies", inPlace := ["maps.clone"], unfollowed := true, recurses := true, apart := false }
def FlashCopiesSaid : Prop := flashCopiesRow.holds Try.pinned (OpenSpec.ofChange flashCopiesSpec)

/-- ITS FALSE NEIGHBOUR: 'it returns false'. Refute it at one input. -/
def flashCopiesWrong : ChangeSpec := { name := "flashCopies", fn := fun _ => fun
  | [d1, d2] => { results := [.lit (.bool false)], args := [d1, d2] }
  | _ => none }
def FlashCopiesWrongFalsely : Prop := flashCopiesRow.holds Try.pinned (OpenSpec.ofChange flashCopiesWrong)

/-- 'sgraffitolaw04.FlashNil': WHATEVER THE INPUT: true; the input reads as it did. -/
def flashNilSpec : ChangeSpec := { name := "flashNil", fn := fun _ => fun
  | [d] => { results := [.lit (.bool true)], args := [d] }
  | _ => none }
def flashNilRow : OpenClaim := { program := "ytpodbekiaagfcaa", sum := "b49af7101d2c658d2698dd6c082e137fd78d1796636e3584e048ece6204ea0f5", func := "sgraffito/sgraffitolaw04.FlashNil", spec := "flashNil", inPlace := ["maps.clone"], unfollowed := true, recurses := true, apart := false }
def FlashNilSaid : Prop := flashNilRow.holds Try.pinned (OpenSpec.ofChange flashNilSpec)

/-- ITS FALSE NEIGHBOUR: 'it returns false'. Refute it at one input. -/
def flashNilWrong : ChangeSpec := { name := "flashNil", fn := fun _ => fun
  | [d] => { results := [.lit (.bool false)], args := [d] }
  | _ => none }
def FlashNilWrongFalsely : Prop := flashNilRow.holds Try.pinned (OpenSpec.ofChange flashNilWrong)

/-- 'sgraffitolaw05.LeafPlaces': WHATEVER THE INPUT: true; the input reads as it did. -/
def leafPlacesSpec : ChangeSpec := { name := "leafPlaces", fn := fun _ => fun
  | [d1, d2, d3] => { results := [.lit (.bool true)], args := [d1, d2, d3] }
  | _ => none }
def leafPlacesRow : OpenClaim := { program := "ytpodbekiaagfcaa", sum := "b49af7101d2c658d2698dd6c082e137fd78d1796636e3584e048ece6204ea0f5", func := "sgraffito/sgraffitolaw05.LeafPlaces", spec := "leafPlaces", unfollowed := true, recurses := true, apart := false }
def LeafPlacesSaid : Prop := leafPlacesRow.holds Try.pinned (OpenSpec.ofChange leafPlacesSpec)

/-- ITS FALSE NEIGHBOUR: 'it returns false'. Refute it at one input. -/
def leafPlacesWrong : ChangeSpec := { name := "leafPlaces", fn := fun _ => fun
  | [d1, d2, d3] => { results := [.lit (.bool false)], args := [d1, d2, d3] }
  | _ => none }
def LeafPlacesWrongFalsely : Prop := leafPlacesRow.holds Try.pinned (OpenSpec.ofChange leafPlacesWrong)

/-- 'sgraffitolaw05.LeafNil': WHATEVER THE INPUT: true; the input reads as it did. -/
def leafNilSpec : ChangeSpec := { name := "leafNil", fn := fun _ => fun
  | [d] => { results := [.lit (.bool true)], args := [d] }
  | _ => none }
def leafNilRow : OpenClaim := { program := "ytpodbekiaagfcaa", sum := "b49af7101d2c658d2698dd6c082e137fd78d1796636e3584e048ece6204ea0f5", func := "sgraffito/sgraffitolaw05.LeafNil", spec := "leafNil", unfollowed := true, recurses := true, apart := false }
def LeafNilSaid : Prop := leafNilRow.holds Try.pinned (OpenSpec.ofChange leafNilSpec)

/-- ITS FALSE NEIGHBOUR: 'it returns false'. Refute it at one input. -/
def leafNilWrong : ChangeSpec := { name := "leafNil", fn := fun _ => fun
  | [d] => { results := [.lit (.bool false)], args := [d] }
  | _ => none }
def LeafNilWrongFalsely : Prop := leafNilRow.holds Try.pinned (OpenSpec.ofChange leafNilWrong)

/-- 'sgraffitolaw05.LeafKeeps': WHATEVER THE INPUT: true; the input reads as it did. -/
def leafKeepsSpec : ChangeSpec := { name := "leafKeeps", fn := fun _ => fun
  | [d] => { results := [.lit (.bool true)], args := [d] }
  | _ => none }
def leafKeepsRow : OpenClaim := { program := "ytpodbekiaagfcaa", sum := "b49af7101d2c658d2698dd6c082e137fd78d1796636e3584e048ece6204ea0f5", func := "sgraffito/sgraffitolaw05.LeafKeeps", spec := "leafKeeps", unfollowed := true, recurses := true, apart := false }
def LeafKeepsSaid : Prop := leafKeepsRow.holds Try.pinned (OpenSpec.ofChange leafKeepsSpec)

/-- ITS FALSE NEIGHBOUR: 'it returns false'. Refute it at one input. -/
def leafKeepsWrong : ChangeSpec := { name := "leafKeeps", fn := fun _ => fun
  | [d] => { results := [.lit (.bool false)], args := [d] }
  | _ => none }
def LeafKeepsWrongFalsely : Prop := leafKeepsRow.holds Try.pinned (OpenSpec.ofChange leafKeepsWrong)

/- THE SECOND FORM. 'bulk': how many values and letters a reading holds, each counted each time it is reached (what is shared counts as often as it is met; a slice's spare places count too). A statement '..UptoSaid' is the law's where the arguments, and the package variables that the reading takes, are together of bulk at most 1048576: NARROWER than '..Said'. Prove '..Said' where nothing that the law and all that it calls make is longer than what came in: it says more and counts as full. Else prove '..UptoSaid'. A law counts once. -/
mutual
def uptoBulk {H : Type} : DataW H → Nat
  | .lit (.string bytes) => bytes.length + 1
  | .lit _ => 1
  | .nil => 1
  | .ptr d => uptoBulk d + 1
  | .slice elems spare => uptoBulkAll elems + uptoBulkAll spare + 1
  | .agg parts => uptoBulkAll parts + 1
  | .iface _ d => uptoBulk d + 1
  | .map entries => uptoBulkEntries entries + 1
  | .held _ => 1
def uptoBulkAll {H : Type} : List (DataW H) → Nat
  | [] => 0
  | d :: r => uptoBulk d + uptoBulkAll r
def uptoBulkEntries {H : Type} : List (Lit × DataW H) → Nat
  | [] => 0
  | x :: r => uptoBulkEntry x + uptoBulkEntries r
def uptoBulkEntry {H : Type} : Lit × DataW H → Nat
  | (.string bytes, d) => bytes.length + uptoBulk d + 1
  | (_, d) => uptoBulk d + 1
 end
def uptoSmall : (H : Type) → List (DataW H) → Bool := fun _ ds => decide (uptoBulkAll ds ≤ 1048576)
def OpenSpec.upto (s : _root_.Go.ChangeSpec) : _root_.Go.OpenSpec := { _root_.Go.OpenSpec.ofChange s with cond := some uptoSmall }

/-- 'sgraffitolaw04.FlashPieces', WHERE WHAT IT READS IS OF BULK AT MOST 1048576: true; the input reads as it did. -/
def flashPiecesUptoRow : OpenClaim := { program := "ytpodbekiaagfcaa", sum := "b49af7101d2c658d2698dd6c082e137fd78d1796636e3584e048ece6204ea0f5", func := "sgraffito/sgraffitolaw04.FlashPieces", spec := "flashPieces", unfollowed := true, recurses := true, apart := false, narrowed := true }
def FlashPiecesUptoSaid : Prop := flashPiecesUptoRow.holds Try.pinned (OpenSpec.upto flashPiecesSpec)

/-- 'sgraffitolaw04.FlashActs', WHERE WHAT IT READS IS OF BULK AT MOST 1048576: true; the input reads as it did. -/
def flashActsUptoRow : OpenClaim := { program := "ytpodbekiaagfcaa", sum := "b49af7101d2c658d2698dd6c082e137fd78d1796636e3584e048ece6204ea0f5", func := "sgraffito/sgraffitolaw04.FlashActs", spec := "flashActs", unfollowed := true, recurses := true, apart := false, narrowed := true }
def FlashActsUptoSaid : Prop := flashActsUptoRow.holds Try.pinned (OpenSpec.upto flashActsSpec)

/-- 'sgraffitolaw04.FlashFast', WHERE WHAT IT READS IS OF BULK AT MOST 1048576: true; the input reads as it did. -/
def flashFastUptoRow : OpenClaim := { program := "ytpodbekiaagfcaa", sum := "b49af7101d2c658d2698dd6c082e137fd78d1796636e3584e048ece6204ea0f5", func := "sgraffito/sgraffitolaw04.FlashFast", spec := "flashFast", unfollowed := true, recurses := true, apart := false, narrowed := true }
def FlashFastUptoSaid : Prop := flashFastUptoRow.holds Try.pinned (OpenSpec.upto flashFastSpec)

/-- 'sgraffitolaw04.FlashPlays', WHERE WHAT IT READS IS OF BULK AT MOST 1048576: true; the input reads as it did. -/
def flashPlaysUptoRow : OpenClaim := { program := "ytpodbekiaagfcaa", sum := "b49af7101d2c658d2698dd6c082e137fd78d1796636e3584e048ece6204ea0f5", func := "sgraffito/sgraffitolaw04.FlashPlays", spec := "flashPlays", unfollowed := true, recurses := true, apart := false, narrowed := true }
def FlashPlaysUptoSaid : Prop := flashPlaysUptoRow.holds Try.pinned (OpenSpec.upto flashPlaysSpec)

/-- 'sgraffitolaw04.FlashCopies', WHERE WHAT IT READS IS OF BULK AT MOST 1048576: true; the input reads as it did. -/
def flashCopiesUptoRow : OpenClaim := { program := "ytpodbekiaagfcaa", sum := "b49af7101d2c658d2698dd6c082e137fd78d1796636e3584e048ece6204ea0f5", func := "sgraffito/sgraffitolaw04.FlashCopies", spec := "flashCopies", inPlace := ["maps.clone"], unfollowed := true, recurses := true, apart := false, narrowed := true }
def FlashCopiesUptoSaid : Prop := flashCopiesUptoRow.holds Try.pinned (OpenSpec.upto flashCopiesSpec)

/-- 'sgraffitolaw04.FlashNil', WHERE WHAT IT READS IS OF BULK AT MOST 1048576: true; the input reads as it did. -/
def flashNilUptoRow : OpenClaim := { program := "ytpodbekiaagfcaa", sum := "b49af7101d2c658d2698dd6c082e137fd78d1796636e3584e048ece6204ea0f5", func := "sgraffito/sgraffitolaw04.FlashNil", spec := "flashNil", inPlace := ["maps.clone"], unfollowed := true, recurses := true, apart := false, narrowed := true }
def FlashNilUptoSaid : Prop := flashNilUptoRow.holds Try.pinned (OpenSpec.upto flashNilSpec)

/-- 'sgraffitolaw05.LeafPlaces', WHERE WHAT IT READS IS OF BULK AT MOST 1048576: true; the input reads as it did. -/
def leafPlacesUptoRow : OpenClaim := { program := "ytpodbekiaagfcaa", sum := "b49af7101d2c658d2698dd6c082e137fd78d1796636e3584e048ece6204ea0f5", func := "sgraffito/sgraffitolaw05.LeafPlaces", spec := "leafPlaces", unfollowed := true, recurses := true, apart := false, narrowed := true }
def LeafPlacesUptoSaid : Prop := leafPlacesUptoRow.holds Try.pinned (OpenSpec.upto leafPlacesSpec)

/-- 'sgraffitolaw05.LeafNil', WHERE WHAT IT READS IS OF BULK AT MOST 1048576: true; the input reads as it did. -/
def leafNilUptoRow : OpenClaim := { program := "ytpodbekiaagfcaa", sum := "b49af7101d2c658d2698dd6c082e137fd78d1796636e3584e048ece6204ea0f5", func := "sgraffito/sgraffitolaw05.LeafNil", spec := "leafNil", unfollowed := true, recurses := true, apart := false, narrowed := true }
def LeafNilUptoSaid : Prop := leafNilUptoRow.holds Try.pinned (OpenSpec.upto leafNilSpec)

/-- 'sgraffitolaw05.LeafKeeps', WHERE WHAT IT READS IS OF BULK AT MOST 1048576: true; the input reads as it did. -/
def leafKeepsUptoRow : OpenClaim := { program := "ytpodbekiaagfcaa", sum := "b49af7101d2c658d2698dd6c082e137fd78d1796636e3584e048ece6204ea0f5", func := "sgraffito/sgraffitolaw05.LeafKeeps", spec := "leafKeeps", unfollowed := true, recurses := true, apart := false, narrowed := true }
def LeafKeepsUptoSaid : Prop := leafKeepsUptoRow.holds Try.pinned (OpenSpec.upto leafKeepsSpec)

end Rows
end Go.Proofs.Ytpodbekiaagfcaa
