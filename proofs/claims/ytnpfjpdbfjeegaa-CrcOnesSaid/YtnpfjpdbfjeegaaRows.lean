/-
  No cell of these rows narrows 'for every input' (looked for: loops, veiled, ifaces, maps, wideKeys, modest, calm, conditions, laid).
  DERIVED. THE GIVEN ROWS OF THIS SEAT. 6 by the template 'for every input the law returns true; each argument reads behind the call as it read before'; 0 by the template 'total and deterministic' (their statements: YtnpfjpdbfjeegaaTotals.lean).
  GIVEN WITH THE SEED: the statements are not yours to turn. If you find one false, say at which input.
  Laid BY PROGRAM, IN A SANDBOX (cutbox-rows.mjs): the forced cells as the released guide's own fill.sh prints them over the translation 2e137851a36eb59a… (all of the seat's roots in one cut). By AI agents, Wed Nov 11 2026. No macro, syntax, notation, axiom, sorry.
-/
import Derived.Test.YtnpfjpdbfjeegaaChecked
import GoSem.Claim
import GoSem.ClaimJoined
import GoSem.ClaimMapViews
import Derived.JoinedTies
import Derived.KernelRfl
namespace Go.Proofs.Ytnpfjpdbfjeegaa
/- THE CELL 'sum', in the pinned program and in every row, IS THE sha256 OF THE DUMP (.gsa) THAT YtnpfjpdbfjeegaaProg.lean LOADS. Nothing in Lean hashes anything: it is a label: what it is worth is what the hold of that sum in a sandbox is worth. -/
noncomputable def Try.pinned : Pinned := { name := "ytnpfjpdbfjeegaa", sum := "2e137851a36eb59a386a4fec83c2ecca54c9a0db0fec8c1a1ef773a0f0c8b4ad", checked := Try.checked }
namespace Rows
def none {H : Type} : Left H := { results := [], args := [] }

/-- 'sgraffitolaw01.CrcSums': WHATEVER THE INPUT: true; the input reads as it did. -/
def crcSumsSpec : ChangeSpec := { name := "crcSums", fn := fun _ => fun
  | [d1, d2] => { results := [.lit (.bool true)], args := [d1, d2] }
  | _ => none }
def crcSumsRow : OpenClaim := { program := "ytnpfjpdbfjeegaa", sum := "2e137851a36eb59a386a4fec83c2ecca54c9a0db0fec8c1a1ef773a0f0c8b4ad", func := "sgraffito/sgraffitolaw01.CrcSums", spec := "crcSums", unfollowed := true, recurses := true, apart := false }
def CrcSumsSaid : Prop := crcSumsRow.holds Try.pinned (OpenSpec.ofChange crcSumsSpec)

/-- ITS FALSE NEIGHBOUR: 'it returns false'. Refute it at one input. -/
def crcSumsWrong : ChangeSpec := { name := "crcSums", fn := fun _ => fun
  | [d1, d2] => { results := [.lit (.bool false)], args := [d1, d2] }
  | _ => none }
def CrcSumsWrongFalsely : Prop := crcSumsRow.holds Try.pinned (OpenSpec.ofChange crcSumsWrong)

/-- 'sgraffitolaw01.CrcBursts': WHATEVER THE INPUT: true; the input reads as it did. -/
def crcBurstsSpec : ChangeSpec := { name := "crcBursts", fn := fun _ => fun
  | [d1, d2, d3] => { results := [.lit (.bool true)], args := [d1, d2, d3] }
  | _ => none }
def crcBurstsRow : OpenClaim := { program := "ytnpfjpdbfjeegaa", sum := "2e137851a36eb59a386a4fec83c2ecca54c9a0db0fec8c1a1ef773a0f0c8b4ad", func := "sgraffito/sgraffitolaw01.CrcBursts", spec := "crcBursts", unfollowed := true, recurses := true, apart := false }
def CrcBurstsSaid : Prop := crcBurstsRow.holds Try.pinned (OpenSpec.ofChange crcBurstsSpec)

/-- ITS FALSE NEIGHBOUR: 'it returns false'. Refute it at one input. -/
def crcBurstsWrong : ChangeSpec := { name := "crcBursts", fn := fun _ => fun
  | [d1, d2, d3] => { results := [.lit (.bool false)], args := [d1, d2, d3] }
  | _ => none }
def CrcBurstsWrongFalsely : Prop := crcBurstsRow.holds Try.pinned (OpenSpec.ofChange crcBurstsWrong)

/-- 'sgraffitolaw01.CrcOnes': WHATEVER THE INPUT: true; the input reads as it did. -/
def crcOnesSpec : ChangeSpec := { name := "crcOnes", fn := fun _ => fun
  | [d1, d2] => { results := [.lit (.bool true)], args := [d1, d2] }
  | _ => none }
def crcOnesRow : OpenClaim := { program := "ytnpfjpdbfjeegaa", sum := "2e137851a36eb59a386a4fec83c2ecca54c9a0db0fec8c1a1ef773a0f0c8b4ad", func := "sgraffito/sgraffitolaw01.CrcOnes", spec := "crcOnes", unfollowed := true, recurses := true, apart := false }
def CrcOnesSaid : Prop := crcOnesRow.holds Try.pinned (OpenSpec.ofChange crcOnesSpec)

/-- ITS FALSE NEIGHBOUR: 'it returns false'. Refute it at one input. -/
def crcOnesWrong : ChangeSpec := { name := "crcOnes", fn := fun _ => fun
  | [d1, d2] => { results := [.lit (.bool false)], args := [d1, d2] }
  | _ => none }
def CrcOnesWrongFalsely : Prop := crcOnesRow.holds Try.pinned (OpenSpec.ofChange crcOnesWrong)

/-- 'sgraffitolaw01.CrcTables': WHATEVER THE INPUT: true; the input reads as it did. -/
def crcTablesSpec : ChangeSpec := { name := "crcTables", fn := fun _ => fun
  | [d1, d2] => { results := [.lit (.bool true)], args := [d1, d2] }
  | _ => none }
def crcTablesRow : OpenClaim := { program := "ytnpfjpdbfjeegaa", sum := "2e137851a36eb59a386a4fec83c2ecca54c9a0db0fec8c1a1ef773a0f0c8b4ad", func := "sgraffito/sgraffitolaw01.CrcTables", spec := "crcTables", unfollowed := true, recurses := true, apart := false }
def CrcTablesSaid : Prop := crcTablesRow.holds Try.pinned (OpenSpec.ofChange crcTablesSpec)

/-- ITS FALSE NEIGHBOUR: 'it returns false'. Refute it at one input. -/
def crcTablesWrong : ChangeSpec := { name := "crcTables", fn := fun _ => fun
  | [d1, d2] => { results := [.lit (.bool false)], args := [d1, d2] }
  | _ => none }
def CrcTablesWrongFalsely : Prop := crcTablesRow.holds Try.pinned (OpenSpec.ofChange crcTablesWrong)

/-- 'sgraffitolaw01.CrcAdds': WHATEVER THE INPUT: true; the input reads as it did. -/
def crcAddsSpec : ChangeSpec := { name := "crcAdds", fn := fun _ => fun
  | [d] => { results := [.lit (.bool true)], args := [d] }
  | _ => none }
def crcAddsRow : OpenClaim := { program := "ytnpfjpdbfjeegaa", sum := "2e137851a36eb59a386a4fec83c2ecca54c9a0db0fec8c1a1ef773a0f0c8b4ad", func := "sgraffito/sgraffitolaw01.CrcAdds", spec := "crcAdds", unfollowed := true, recurses := true, apart := false }
def CrcAddsSaid : Prop := crcAddsRow.holds Try.pinned (OpenSpec.ofChange crcAddsSpec)

/-- ITS FALSE NEIGHBOUR: 'it returns false'. Refute it at one input. -/
def crcAddsWrong : ChangeSpec := { name := "crcAdds", fn := fun _ => fun
  | [d] => { results := [.lit (.bool false)], args := [d] }
  | _ => none }
def CrcAddsWrongFalsely : Prop := crcAddsRow.holds Try.pinned (OpenSpec.ofChange crcAddsWrong)

/-- 'sgraffitolaw01.CrcSplits': WHATEVER THE INPUT: true; the input reads as it did. -/
def crcSplitsSpec : ChangeSpec := { name := "crcSplits", fn := fun _ => fun
  | [d1, d2] => { results := [.lit (.bool true)], args := [d1, d2] }
  | _ => none }
def crcSplitsRow : OpenClaim := { program := "ytnpfjpdbfjeegaa", sum := "2e137851a36eb59a386a4fec83c2ecca54c9a0db0fec8c1a1ef773a0f0c8b4ad", func := "sgraffito/sgraffitolaw01.CrcSplits", spec := "crcSplits", unfollowed := true, recurses := true, apart := false }
def CrcSplitsSaid : Prop := crcSplitsRow.holds Try.pinned (OpenSpec.ofChange crcSplitsSpec)

/-- ITS FALSE NEIGHBOUR: 'it returns false'. Refute it at one input. -/
def crcSplitsWrong : ChangeSpec := { name := "crcSplits", fn := fun _ => fun
  | [d1, d2] => { results := [.lit (.bool false)], args := [d1, d2] }
  | _ => none }
def CrcSplitsWrongFalsely : Prop := crcSplitsRow.holds Try.pinned (OpenSpec.ofChange crcSplitsWrong)

/- THE SECOND FORM. 'bulk': how many values and letters a reading holds, each counted each time it is reached (what is shared counts as often as it is met; a slice's spare places count too). A statement '..UptoSaid' is the law's where the arguments, and the package variables that the reading takes, are together of bulk at most 1048576: NARROWER than '..Said'. Prove '..Said' where nothing that the law and all that it calls make is longer than what came in: it says more and counts as full. Else prove '..UptoSaid'. A law counts once. -/
mutual
def uptoBulk {H : Type} : DataW H → Nat
  | .lit (.string bytes) => bytes.length + 1
  | .lit _ => 1
  | .nil => 1
  | .ptr d => uptoBulk d + 1
  | .slice elems spare => uptoBulkAll elems + uptoBulkAll spare + 1
  | .agg parts => uptoBulkAll parts + 1
  | .iface _ d => uptoBulk d + 1
  | .map entries => uptoBulkEntries entries + 1
  | .held _ => 1
def uptoBulkAll {H : Type} : List (DataW H) → Nat
  | [] => 0
  | d :: r => uptoBulk d + uptoBulkAll r
def uptoBulkEntries {H : Type} : List (Lit × DataW H) → Nat
  | [] => 0
  | x :: r => uptoBulkEntry x + uptoBulkEntries r
def uptoBulkEntry {H : Type} : Lit × DataW H → Nat
  | (.string bytes, d) => bytes.length + uptoBulk d + 1
  | (_, d) => uptoBulk d + 1
 end
def uptoSmall : (H : Type) → List (DataW H) → Bool := fun _ ds => decide (uptoBulkAll ds ≤ 1048576)
def OpenSpec.upto (s : _root_.Go.ChangeSpec) : _root_.Go.OpenSpec := { _root_.Go.OpenSpec.ofChange s with cond := some uptoSmall }

/-- 'sgraffitolaw01.CrcSums', WHERE WHAT IT READS IS OF BULK AT MOST 1048576: true; the input reads as it did. -/
def crcSumsUptoRow : OpenClaim := { program := "ytnpfjpdbfjeegaa", sum := "2e137851a36eb59a386a4fec83c2ecca54c9a0db0fec8c1a1ef773a0f0c8b4ad", func := "sgraffito/sgraffitolaw01.CrcSums", spec := "crcSums", unfollowed := true, recurses := true, apart := false, narrowed := true }
def CrcSumsUptoSaid : Prop := crcSumsUptoRow.holds Try.pinned (OpenSpec.upto crcSumsSpec)

/-- 'sgraffitolaw01.CrcBursts', WHERE WHAT IT READS IS OF BULK AT MOST 1048576: true; the input reads as it did. -/
def crcBurstsUptoRow : OpenClaim := { program := "ytnpfjpdbfjeegaa", sum := "2e137851a36eb59a386a4fec83c2ecca54c9a0db0fec8c1a1ef773a0f0c8b4ad", func := "sgraffito/sgraffitolaw01.CrcBursts", spec := "crcBursts", unfollowed := true, recurses := true, apart := false, narrowed := true }
def CrcBurstsUptoSaid : Prop := crcBurstsUptoRow.holds Try.pinned (OpenSpec.upto crcBurstsSpec)

/-- 'sgraffitolaw01.CrcOnes', WHERE WHAT IT READS IS OF BULK AT MOST 1048576: true; the input reads as it did. -/
def crcOnesUptoRow : OpenClaim := { program := "ytnpfjpdbfjeegaa", sum := "2e137851a36eb59a386a4fec83c2ecca54c9a0db0fec8c1a1ef773a0f0c8b4ad", func := "sgraffito/sgraffitolaw01.CrcOnes", spec := "crcOnes", unfollowed := true, recurses := true, apart := false, narrowed := true }
def CrcOnesUptoSaid : Prop := crcOnesUptoRow.holds Try.pinned (OpenSpec.upto crcOnesSpec)

/-- 'sgraffitolaw01.CrcTables', WHERE WHAT IT READS IS OF BULK AT MOST 1048576: true; the input reads as it did. -/
def crcTablesUptoRow : OpenClaim := { program := "ytnpfjpdbfjeegaa", sum := "2e137851a36eb59a386a4fec83c2ecca54c9a0db0fec8c1a1ef773a0f0c8b4ad", func := "sgraffito/sgraffitolaw01.CrcTables", spec := "crcTables", unfollowed := true, recurses := true, apart := false, narrowed := true }
def CrcTablesUptoSaid : Prop := crcTablesUptoRow.holds Try.pinned (OpenSpec.upto crcTablesSpec)

/-- 'sgraffitolaw01.CrcAdds', WHERE WHAT IT READS IS OF BULK AT MOST 1048576: true; the input reads as it did. -/
def crcAddsUptoRow : OpenClaim := { program := "ytnpfjpdbfjeegaa", sum := "2e137851a36eb59a386a4fec83c2ecca54c9a0db0fec8c1a1ef773a0f0c8b4ad", func := "sgraffito/sgraffitolaw01.CrcAdds", spec := "crcAdds", unfollowed := true, recurses := true, apart := false, narrowed := true }
def CrcAddsUptoSaid : Prop := crcAddsUptoRow.holds Try.pinned (OpenSpec.upto crcAddsSpec)

/-- 'sgraffitolaw01.CrcSplits', WHERE WHAT IT READS IS OF BULK AT MOST 1048576: true; the input reads as it did. -/
def crcSplitsUptoRow : OpenClaim := { program := "ytnpfjpdbfjeegaa", sum := "2e137851a36eb59a386a4fec83c2ecca54c9a0db0fec8c1a1ef773a0f0c8b4ad", func := "sgraffito/sgraffitolaw01.CrcSplits", spec := "crcSplits", unfollowed := true, recurses := true, apart := false, narrowed := true }
def CrcSplitsUptoSaid : Prop := crcSplitsUptoRow.holds Try.pinned (OpenSpec.upto crcSplitsSpec)

end Rows
end Go.Proofs.Ytnpfjpdbfjeegaa
