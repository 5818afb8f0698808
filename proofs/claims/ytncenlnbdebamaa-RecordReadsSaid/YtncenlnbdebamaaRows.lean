/-
  No cell of these rows narrows 'for every input' (looked for: loops, veiled, ifaces, maps, wideKeys, modest, calm, conditions, laid).
  DERIVED. THE GIVEN ROWS OF THIS SEAT. 10 by the template 'for every input the law returns true; each argument reads behind the call as it read before'; 0 by the template 'total and deterministic' (their statements: YtncenlnbdebamaaTotals.lean).
  GIVEN WITH THE SEED: the statements are not yours to turn. If you find one false, say at which input.
  Laid BY PROGRAM, IN A SANDBOX (cutbox-rows.mjs): the forced cells as the released guide's own fill.sh prints them over the translation baaca1e8ebcbb252… (all of the seat's roots in one cut). By AI agents, Wed Nov 11 2026. No macro, syntax, notation, axiom, sorry.
-/
import Derived.Test.YtncenlnbdebamaaChecked
import GoSem.Claim
import GoSem.ClaimJoined
import GoSem.ClaimMapViews
import Derived.JoinedTies
import Derived.KernelRfl
namespace Go.Proofs.Ytncenlnbdebamaa
/- THE CELL 'sum', in the pinned program and in every row, IS THE sha256 OF THE DUMP (.gsa) THAT YtncenlnbdebamaaProg.lean LOADS. Nothing in Lean hashes anything: it is a label: what it is worth is what the hold of that sum in a sandbox is worth. -/
noncomputable def Try.pinned : Pinned := { name := "ytncenlnbdebamaa", sum := "baaca1e8ebcbb25232702aa881635b8a4e9741d54c9546b0e8989f0936f44902", checked := Try.checked }
namespace Rows
def none {H : Type} : Left H := { results := [], args := [] }

/-- 'sgraffitolaw06.PlanParts': WHATEVER THE INPUT: true; the input reads as it did. -/
def planPartsSpec : ChangeSpec := { name := "planParts", fn := fun _ => fun
  | [d] => { results := [.lit (.bool true)], args := [d] }
  | _ => none }
def planPartsRow : OpenClaim := { program := "ytncenlnbdebamaa", sum := "baaca1e8ebcbb25232702aa881635b8a4e9741d54c9546b0e8989f0936f44902", func := "sgraffito/sgraffitolaw06.PlanParts", spec := "planParts", apart := false }
def PlanPartsSaid : Prop := planPartsRow.holds Try.pinned (OpenSpec.ofChange planPartsSpec)

/-- ITS FALSE NEIGHBOUR: 'it returns false'. Refute it at one input. -/
def planPartsWrong : ChangeSpec := { name := "planParts", fn := fun _ => fun
  | [d] => { results := [.lit (.bool false)], args := [d] }
  | _ => none }
def PlanPartsWrongFalsely : Prop := planPartsRow.holds Try.pinned (OpenSpec.ofChange planPartsWrong)

/-- 'sgraffitolaw06.PlanLeast': WHATEVER THE INPUT: true; the input reads as it did. -/
def planLeastSpec : ChangeSpec := { name := "planLeast", fn := fun _ => fun
  | [d] => { results := [.lit (.bool true)], args := [d] }
  | _ => none }
def planLeastRow : OpenClaim := { program := "ytncenlnbdebamaa", sum := "baaca1e8ebcbb25232702aa881635b8a4e9741d54c9546b0e8989f0936f44902", func := "sgraffito/sgraffitolaw06.PlanLeast", spec := "planLeast", apart := false }
def PlanLeastSaid : Prop := planLeastRow.holds Try.pinned (OpenSpec.ofChange planLeastSpec)

/-- ITS FALSE NEIGHBOUR: 'it returns false'. Refute it at one input. -/
def planLeastWrong : ChangeSpec := { name := "planLeast", fn := fun _ => fun
  | [d] => { results := [.lit (.bool false)], args := [d] }
  | _ => none }
def PlanLeastWrongFalsely : Prop := planLeastRow.holds Try.pinned (OpenSpec.ofChange planLeastWrong)

/-- 'sgraffitolaw09.RecordPacks': WHATEVER THE INPUT: true; the input reads as it did. -/
def recordPacksSpec : ChangeSpec := { name := "recordPacks", fn := fun _ => fun
  | [d1, d2] => { results := [.lit (.bool true)], args := [d1, d2] }
  | _ => none }
def recordPacksRow : OpenClaim := { program := "ytncenlnbdebamaa", sum := "baaca1e8ebcbb25232702aa881635b8a4e9741d54c9546b0e8989f0936f44902", func := "sgraffito/sgraffitolaw09.RecordPacks", spec := "recordPacks", apart := false }
def RecordPacksSaid : Prop := recordPacksRow.holds Try.pinned (OpenSpec.ofChange recordPacksSpec)

/-- ITS FALSE NEIGHBOUR: 'it returns false'. Refute it at one input. -/
def recordPacksWrong : ChangeSpec := { name := "recordPacks", fn := fun _ => fun
  | [d1, d2] => { results := [.lit (.bool false)], args := [d1, d2] }
  | _ => none }
def RecordPacksWrongFalsely : Prop := recordPacksRow.holds Try.pinned (OpenSpec.ofChange recordPacksWrong)

/-- 'sgraffitolaw09.RecordEnds': WHATEVER THE INPUT: true; the input reads as it did. -/
def recordEndsSpec : ChangeSpec := { name := "recordEnds", fn := fun _ => fun
  | [d1, d2, d3] => { results := [.lit (.bool true)], args := [d1, d2, d3] }
  | _ => none }
def recordEndsRow : OpenClaim := { program := "ytncenlnbdebamaa", sum := "baaca1e8ebcbb25232702aa881635b8a4e9741d54c9546b0e8989f0936f44902", func := "sgraffito/sgraffitolaw09.RecordEnds", spec := "recordEnds", apart := false }
def RecordEndsSaid : Prop := recordEndsRow.holds Try.pinned (OpenSpec.ofChange recordEndsSpec)

/-- ITS FALSE NEIGHBOUR: 'it returns false'. Refute it at one input. -/
def recordEndsWrong : ChangeSpec := { name := "recordEnds", fn := fun _ => fun
  | [d1, d2, d3] => { results := [.lit (.bool false)], args := [d1, d2, d3] }
  | _ => none }
def RecordEndsWrongFalsely : Prop := recordEndsRow.holds Try.pinned (OpenSpec.ofChange recordEndsWrong)

/-- 'sgraffitolaw06.PlanReads': WHATEVER THE INPUT: true; the input reads as it did. -/
def planReadsSpec : ChangeSpec := { name := "planReads", fn := fun _ => fun
  | [d] => { results := [.lit (.bool true)], args := [d] }
  | _ => none }
def planReadsRow : OpenClaim := { program := "ytncenlnbdebamaa", sum := "baaca1e8ebcbb25232702aa881635b8a4e9741d54c9546b0e8989f0936f44902", func := "sgraffito/sgraffitolaw06.PlanReads", spec := "planReads", apart := false }
def PlanReadsSaid : Prop := planReadsRow.holds Try.pinned (OpenSpec.ofChange planReadsSpec)

/-- ITS FALSE NEIGHBOUR: 'it returns false'. Refute it at one input. -/
def planReadsWrong : ChangeSpec := { name := "planReads", fn := fun _ => fun
  | [d] => { results := [.lit (.bool false)], args := [d] }
  | _ => none }
def PlanReadsWrongFalsely : Prop := planReadsRow.holds Try.pinned (OpenSpec.ofChange planReadsWrong)

/-- 'sgraffitolaw06.PlanFits': WHATEVER THE INPUT: true; the input reads as it did. -/
def planFitsSpec : ChangeSpec := { name := "planFits", fn := fun _ => fun
  | [d] => { results := [.lit (.bool true)], args := [d] }
  | _ => none }
def planFitsRow : OpenClaim := { program := "ytncenlnbdebamaa", sum := "baaca1e8ebcbb25232702aa881635b8a4e9741d54c9546b0e8989f0936f44902", func := "sgraffito/sgraffitolaw06.PlanFits", spec := "planFits", apart := false }
def PlanFitsSaid : Prop := planFitsRow.holds Try.pinned (OpenSpec.ofChange planFitsSpec)

/-- ITS FALSE NEIGHBOUR: 'it returns false'. Refute it at one input. -/
def planFitsWrong : ChangeSpec := { name := "planFits", fn := fun _ => fun
  | [d] => { results := [.lit (.bool false)], args := [d] }
  | _ => none }
def PlanFitsWrongFalsely : Prop := planFitsRow.holds Try.pinned (OpenSpec.ofChange planFitsWrong)

/-- 'sgraffitolaw09.RecordShort': WHATEVER THE INPUT: true; the input reads as it did. -/
def recordShortSpec : ChangeSpec := { name := "recordShort", fn := fun _ => fun
  | [d1, d2] => { results := [.lit (.bool true)], args := [d1, d2] }
  | _ => none }
def recordShortRow : OpenClaim := { program := "ytncenlnbdebamaa", sum := "baaca1e8ebcbb25232702aa881635b8a4e9741d54c9546b0e8989f0936f44902", func := "sgraffito/sgraffitolaw09.RecordShort", spec := "recordShort", apart := false }
def RecordShortSaid : Prop := recordShortRow.holds Try.pinned (OpenSpec.ofChange recordShortSpec)

/-- ITS FALSE NEIGHBOUR: 'it returns false'. Refute it at one input. -/
def recordShortWrong : ChangeSpec := { name := "recordShort", fn := fun _ => fun
  | [d1, d2] => { results := [.lit (.bool false)], args := [d1, d2] }
  | _ => none }
def RecordShortWrongFalsely : Prop := recordShortRow.holds Try.pinned (OpenSpec.ofChange recordShortWrong)

/-- 'sgraffitolaw09.RecordReads': WHATEVER THE INPUT: true; the input reads as it did. -/
def recordReadsSpec : ChangeSpec := { name := "recordReads", fn := fun _ => fun
  | [d] => { results := [.lit (.bool true)], args := [d] }
  | _ => none }
def recordReadsRow : OpenClaim := { program := "ytncenlnbdebamaa", sum := "baaca1e8ebcbb25232702aa881635b8a4e9741d54c9546b0e8989f0936f44902", func := "sgraffito/sgraffitolaw09.RecordReads", spec := "recordReads", unfollowed := true, recurses := true, apart := false }
def RecordReadsSaid : Prop := recordReadsRow.holds Try.pinned (OpenSpec.ofChange recordReadsSpec)

/-- ITS FALSE NEIGHBOUR: 'it returns false'. Refute it at one input. -/
def recordReadsWrong : ChangeSpec := { name := "recordReads", fn := fun _ => fun
  | [d] => { results := [.lit (.bool false)], args := [d] }
  | _ => none }
def RecordReadsWrongFalsely : Prop := recordReadsRow.holds Try.pinned (OpenSpec.ofChange recordReadsWrong)

/-- 'sgraffitolaw09.RecordBack': WHATEVER THE INPUT: true; the input reads as it did. -/
def recordBackSpec : ChangeSpec := { name := "recordBack", fn := fun _ => fun
  | [d1, d2, d3] => { results := [.lit (.bool true)], args := [d1, d2, d3] }
  | _ => none }
def recordBackRow : OpenClaim := { program := "ytncenlnbdebamaa", sum := "baaca1e8ebcbb25232702aa881635b8a4e9741d54c9546b0e8989f0936f44902", func := "sgraffito/sgraffitolaw09.RecordBack", spec := "recordBack", unfollowed := true, recurses := true, apart := false }
def RecordBackSaid : Prop := recordBackRow.holds Try.pinned (OpenSpec.ofChange recordBackSpec)

/-- ITS FALSE NEIGHBOUR: 'it returns false'. Refute it at one input. -/
def recordBackWrong : ChangeSpec := { name := "recordBack", fn := fun _ => fun
  | [d1, d2, d3] => { results := [.lit (.bool false)], args := [d1, d2, d3] }
  | _ => none }
def RecordBackWrongFalsely : Prop := recordBackRow.holds Try.pinned (OpenSpec.ofChange recordBackWrong)

/-- 'sgraffitolaw06.PlanBack': WHATEVER THE INPUT: true; the input reads as it did. -/
def planBackSpec : ChangeSpec := { name := "planBack", fn := fun _ => fun
  | [d] => { results := [.lit (.bool true)], args := [d] }
  | _ => none }
def planBackRow : OpenClaim := { program := "ytncenlnbdebamaa", sum := "baaca1e8ebcbb25232702aa881635b8a4e9741d54c9546b0e8989f0936f44902", func := "sgraffito/sgraffitolaw06.PlanBack", spec := "planBack", apart := false }
def PlanBackSaid : Prop := planBackRow.holds Try.pinned (OpenSpec.ofChange planBackSpec)

/-- ITS FALSE NEIGHBOUR: 'it returns false'. Refute it at one input. -/
def planBackWrong : ChangeSpec := { name := "planBack", fn := fun _ => fun
  | [d] => { results := [.lit (.bool false)], args := [d] }
  | _ => none }
def PlanBackWrongFalsely : Prop := planBackRow.holds Try.pinned (OpenSpec.ofChange planBackWrong)

/- THE SECOND FORM. 'bulk': how many values and letters a reading holds, each counted each time it is reached (what is shared counts as often as it is met; a slice's spare places count too). A statement '..UptoSaid' is the law's where the arguments, and the package variables that the reading takes, are together of bulk at most 1048576: NARROWER than '..Said'. Prove '..Said' where nothing that the law and all that it calls make is longer than what came in: it says more and counts as full. Else prove '..UptoSaid'. A law counts once. -/
mutual
def uptoBulk {H : Type} : DataW H → Nat
  | .lit (.string bytes) => bytes.length + 1
  | .lit _ => 1
  | .nil => 1
  | .ptr d => uptoBulk d + 1
  | .slice elems spare => uptoBulkAll elems + uptoBulkAll spare + 1
  | .agg parts => uptoBulkAll parts + 1
  | .iface _ d => uptoBulk d + 1
  | .map entries => uptoBulkEntries entries + 1
  | .held _ => 1
def uptoBulkAll {H : Type} : List (DataW H) → Nat
  | [] => 0
  | d :: r => uptoBulk d + uptoBulkAll r
def uptoBulkEntries {H : Type} : List (Lit × DataW H) → Nat
  | [] => 0
  | x :: r => uptoBulkEntry x + uptoBulkEntries r
def uptoBulkEntry {H : Type} : Lit × DataW H → Nat
  | (.string bytes, d) => bytes.length + uptoBulk d + 1
  | (_, d) => uptoBulk d + 1
 end
def uptoSmall : (H : Type) → List (DataW H) → Bool := fun _ ds => decide (uptoBulkAll ds ≤ 1048576)
def OpenSpec.upto (s : _root_.Go.ChangeSpec) : _root_.Go.OpenSpec := { _root_.Go.OpenSpec.ofChange s with cond := some uptoSmall }

/-- 'sgraffitolaw06.PlanParts', WHERE WHAT IT READS IS OF BULK AT MOST 1048576: true; the input reads as it did. -/
def planPartsUptoRow : OpenClaim := { program := "ytncenlnbdebamaa", sum := "baaca1e8ebcbb25232702aa881635b8a4e9741d54c9546b0e8989f0936f44902", func := "sgraffito/sgraffitolaw06.PlanParts", spec := "planParts", apart := false, narrowed := true }
def PlanPartsUptoSaid : Prop := planPartsUptoRow.holds Try.pinned (OpenSpec.upto planPartsSpec)

/-- 'sgraffitolaw06.PlanLeast', WHERE WHAT IT READS IS OF BULK AT MOST 1048576: true; the input reads as it did. -/
def planLeastUptoRow : OpenClaim := { program := "ytncenlnbdebamaa", sum := "baaca1e8ebcbb25232702aa881635b8a4e9741d54c9546b0e8989f0936f44902", func := "sgraffito/sgraffitolaw06.PlanLeast", spec := "planLeast", apart := false, narrowed := true }
def PlanLeastUptoSaid : Prop := planLeastUptoRow.holds Try.pinned (OpenSpec.upto planLeastSpec)

/-- 'sgraffitolaw09.RecordPacks', WHERE WHAT IT READS IS OF BULK AT MOST 1048576: true; the input reads as it did. -/
def recordPacksUptoRow : OpenClaim := { program := "ytncenlnbdebamaa", sum := "baaca1e8ebcbb25232702aa881635b8a4e9741d54c9546b0e8989f0936f44902", func := "sgraffito/sgraffitolaw09.RecordPacks", spec := "recordPacks", apart := false, narrowed := true }
def RecordPacksUptoSaid : Prop := recordPacksUptoRow.holds Try.pinned (OpenSpec.upto recordPacksSpec)

/-- 'sgraffitolaw09.RecordEnds', WHERE WHAT IT READS IS OF BULK AT MOST 1048576: true; the input reads as it did. -/
def recordEndsUptoRow : OpenClaim := { program := "ytncenlnbdebamaa", sum := "baaca1e8ebcbb25232702aa881635b8a4e9741d54c9546b0e8989f0936f44902", func := "sgraffito/sgraffitolaw09.RecordEnds", spec := "recordEnds", apart := false, narrowed := true }
def RecordEndsUptoSaid : Prop := recordEndsUptoRow.holds Try.pinned (OpenSpec.upto recordEndsSpec)

/-- 'sgraffitolaw06.PlanReads', WHERE WHAT IT READS IS OF BULK AT MOST 1048576: true; the input reads as it did. -/
def planReadsUptoRow : OpenClaim := { program := "ytncenlnbdebamaa", sum := "baaca1e8ebcbb25232702aa881635b8a4e9741d54c9546b0e8989f0936f44902", func := "sgraffito/sgraffitolaw06.PlanReads", spec := "planReads", apart := false, narrowed := true }
def PlanReadsUptoSaid : Prop := planReadsUptoRow.holds Try.pinned (OpenSpec.upto planReadsSpec)

/-- 'sgraffitolaw06.PlanFits', WHERE WHAT IT READS IS OF BULK AT MOST 1048576: true; the input reads as it did. -/
def planFitsUptoRow : OpenClaim := { program := "ytncenlnbdebamaa", sum := "baaca1e8ebcbb25232702aa881635b8a4e9741d54c9546b0e8989f0936f44902", func := "sgraffito/sgraffitolaw06.PlanFits", spec := "planFits", apart := false, narrowed := true }
def PlanFitsUptoSaid : Prop := planFitsUptoRow.holds Try.pinned (OpenSpec.upto planFitsSpec)

/-- 'sgraffitolaw09.RecordShort', WHERE WHAT IT READS IS OF BULK AT MOST 1048576: true; the input reads as it did. -/
def recordShortUptoRow : OpenClaim := { program := "ytncenlnbdebamaa", sum := "baaca1e8ebcbb25232702aa881635b8a4e9741d54c9546b0e8989f0936f44902", func := "sgraffito/sgraffitolaw09.RecordShort", spec := "recordShort", apart := false, narrowed := true }
def RecordShortUptoSaid : Prop := recordShortUptoRow.holds Try.pinned (OpenSpec.upto recordShortSpec)

/-- 'sgraffitolaw09.RecordReads', WHERE WHAT IT READS IS OF BULK AT MOST 1048576: true; the input reads as it did. -/
def recordReadsUptoRow : OpenClaim := { program := "ytncenlnbdebamaa", sum := "baaca1e8ebcbb25232702aa881635b8a4e9741d54c9546b0e8989f0936f44902", func := "sgraffito/sgraffitolaw09.RecordReads", spec := "recordReads", unfollowed := true, recurses := true, apart := false, narrowed := true }
def RecordReadsUptoSaid : Prop := recordReadsUptoRow.holds Try.pinned (OpenSpec.upto recordReadsSpec)

/-- 'sgraffitolaw09.RecordBack', WHERE WHAT IT READS IS OF BULK AT MOST 1048576: true; the input reads as it did. -/
def recordBackUptoRow : OpenClaim := { program := "ytncenlnbdebamaa", sum := "baaca1e8ebcbb25232702aa881635b8a4e9741d54c9546b0e8989f0936f44902", func := "sgraffito/sgraffitolaw09.RecordBack", spec := "recordBack", unfollowed := true, recurses := true, apart := false, narrowed := true }
def RecordBackUptoSaid : Prop := recordBackUptoRow.holds Try.pinned (OpenSpec.upto recordBackSpec)

/-- 'sgraffitolaw06.PlanBack', WHERE WHAT IT READS IS OF BULK AT MOST 1048576: true; the input reads as it did. -/
def planBackUptoRow : OpenClaim := { program := "ytncenlnbdebamaa", sum := "baaca1e8ebcbb25232702aa881635b8a4e9741d54c9546b0e8989f0936f44902", func := "sgraffito/sgraffitolaw06.PlanBack", spec := "planBack", apart := false, narrowed := true }
def PlanBackUptoSaid : Prop := planBackUptoRow.holds Try.pinned (OpenSpec.upto planBackSpec)

end Rows
end Go.Proofs.Ytncenlnbdebamaa
