/-
  No cell of these rows narrows 'for every input' (looked for: loops, veiled, ifaces, maps, wideKeys, modest, calm, conditions, laid).
  DERIVED. THE GIVEN ROWS OF THIS SEAT. 7 by the template 'for every input the law returns true; each argument reads behind the call as it read before'; 0 by the template 'total and deterministic' (their statements: YtenaadodnembpaaGreatTotals.lean).
  GIVEN WITH THE SEED: the statements are not yours to turn. If you find one false, say at which input.
  Laid BY PROGRAM, IN A SANDBOX (cutbox-rows.mjs): the forced cells as the released guide's own fill.sh prints them over the translation b8823f674f687a5e… (all of the seat's roots in one cut). By AI agents, Wed Nov 11 2026. No macro, syntax, notation, axiom, sorry.
-/
import Derived.Test.YtenaadodnembpaaGreatChecked
import GoSem.Claim
import GoSem.ClaimJoined
import GoSem.ClaimMapViews
import Derived.JoinedTies
import Derived.KernelRfl
namespace Go.Proofs.YtenaadodnembpaaGreat
/- THE CELL 'sum', in the pinned program and in every row, IS THE sha256 OF THE DUMP (.gsa) THAT YtenaadodnembpaaGreatProg.lean LOADS. Nothing in Lean hashes anything: it is a label: what it is worth is what the hold of that sum in a sandbox is worth. -/
noncomputable def Tryz.pinned : Pinned := { name := "ytenaadodnembpaagreat", sum := "b8823f674f687a5ee58d0a5c35ff3e8a021344a7d2d8f7fde73a6c33daae6cd7", checked := Tryz.checked }
namespace Rows
def none {H : Type} : Left H := { results := [], args := [] }

/-- 'eliminantlaw33.EditMatchesReference': WHATEVER THE INPUT: true; the input reads as it did. -/
def editMatchesReferenceSpec : ChangeSpec := { name := "editMatchesReference", fn := fun _ => fun
  | [d1, d2, d3] => { results := [.lit (.bool true)], args := [d1, d2, d3] }
  | _ => none }
def editMatchesReferenceRow : OpenClaim := { program := "ytenaadodnembpaagreat", sum := "b8823f674f687a5ee58d0a5c35ff3e8a021344a7d2d8f7fde73a6c33daae6cd7", func := "eliminant/eliminantlaw33.EditMatchesReference", spec := "editMatchesReference", inPlace := ["slices.overlaps[string]", "slices.overlaps[eliminant/api.Equation]"], unfollowed := true, recurses := true, plainKeys := false, apart := false }
def EditMatchesReferenceSaid : Prop := editMatchesReferenceRow.holds Tryz.pinned (OpenSpec.ofChange editMatchesReferenceSpec)

/-- ITS FALSE NEIGHBOUR: 'it returns false'. Refute it at one input. -/
def editMatchesReferenceWrong : ChangeSpec := { name := "editMatchesReference", fn := fun _ => fun
  | [d1, d2, d3] => { results := [.lit (.bool false)], args := [d1, d2, d3] }
  | _ => none }
def EditMatchesReferenceWrongFalsely : Prop := editMatchesReferenceRow.holds Tryz.pinned (OpenSpec.ofChange editMatchesReferenceWrong)

/-- 'eliminantlaw33.EditValid': WHATEVER THE INPUT: true; the input reads as it did. -/
def editValidSpec : ChangeSpec := { name := "editValid", fn := fun _ => fun
  | [d1, d2] => { results := [.lit (.bool true)], args := [d1, d2] }
  | _ => none }
def editValidRow : OpenClaim := { program := "ytenaadodnembpaagreat", sum := "b8823f674f687a5ee58d0a5c35ff3e8a021344a7d2d8f7fde73a6c33daae6cd7", func := "eliminant/eliminantlaw33.EditValid", spec := "editValid", inPlace := ["slices.overlaps[string]", "slices.overlaps[eliminant/api.Equation]"], unfollowed := true, recurses := true, plainKeys := false, apart := false }
def EditValidSaid : Prop := editValidRow.holds Tryz.pinned (OpenSpec.ofChange editValidSpec)

/-- ITS FALSE NEIGHBOUR: 'it returns false'. Refute it at one input. -/
def editValidWrong : ChangeSpec := { name := "editValid", fn := fun _ => fun
  | [d1, d2] => { results := [.lit (.bool false)], args := [d1, d2] }
  | _ => none }
def EditValidWrongFalsely : Prop := editValidRow.holds Tryz.pinned (OpenSpec.ofChange editValidWrong)

/-- 'eliminantlaw33.EditInverts': WHATEVER THE INPUT: true; the input reads as it did. -/
def editInvertsSpec : ChangeSpec := { name := "editInverts", fn := fun _ => fun
  | [d1, d2] => { results := [.lit (.bool true)], args := [d1, d2] }
  | _ => none }
def editInvertsRow : OpenClaim := { program := "ytenaadodnembpaagreat", sum := "b8823f674f687a5ee58d0a5c35ff3e8a021344a7d2d8f7fde73a6c33daae6cd7", func := "eliminant/eliminantlaw33.EditInverts", spec := "editInverts", inPlace := ["slices.overlaps[string]", "slices.overlaps[eliminant/api.Equation]"], unfollowed := true, recurses := true, plainKeys := false, apart := false }
def EditInvertsSaid : Prop := editInvertsRow.holds Tryz.pinned (OpenSpec.ofChange editInvertsSpec)

/-- ITS FALSE NEIGHBOUR: 'it returns false'. Refute it at one input. -/
def editInvertsWrong : ChangeSpec := { name := "editInverts", fn := fun _ => fun
  | [d1, d2] => { results := [.lit (.bool false)], args := [d1, d2] }
  | _ => none }
def EditInvertsWrongFalsely : Prop := editInvertsRow.holds Tryz.pinned (OpenSpec.ofChange editInvertsWrong)

/-- 'eliminantlaw33.EditVariables': WHATEVER THE INPUT: true; the input reads as it did. -/
def editVariablesSpec : ChangeSpec := { name := "editVariables", fn := fun _ => fun
  | [d1, d2, d3] => { results := [.lit (.bool true)], args := [d1, d2, d3] }
  | _ => none }
def editVariablesRow : OpenClaim := { program := "ytenaadodnembpaagreat", sum := "b8823f674f687a5ee58d0a5c35ff3e8a021344a7d2d8f7fde73a6c33daae6cd7", func := "eliminant/eliminantlaw33.EditVariables", spec := "editVariables", inPlace := ["slices.overlaps[string]", "slices.overlaps[eliminant/api.Equation]"], unfollowed := true, recurses := true, plainKeys := false, apart := false }
def EditVariablesSaid : Prop := editVariablesRow.holds Tryz.pinned (OpenSpec.ofChange editVariablesSpec)

/-- ITS FALSE NEIGHBOUR: 'it returns false'. Refute it at one input. -/
def editVariablesWrong : ChangeSpec := { name := "editVariables", fn := fun _ => fun
  | [d1, d2, d3] => { results := [.lit (.bool false)], args := [d1, d2, d3] }
  | _ => none }
def EditVariablesWrongFalsely : Prop := editVariablesRow.holds Tryz.pinned (OpenSpec.ofChange editVariablesWrong)

/-- 'eliminantlaw33.EditEquations': WHATEVER THE INPUT: true; the input reads as it did. -/
def editEquationsSpec : ChangeSpec := { name := "editEquations", fn := fun _ => fun
  | [d1, d2] => { results := [.lit (.bool true)], args := [d1, d2] }
  | _ => none }
def editEquationsRow : OpenClaim := { program := "ytenaadodnembpaagreat", sum := "b8823f674f687a5ee58d0a5c35ff3e8a021344a7d2d8f7fde73a6c33daae6cd7", func := "eliminant/eliminantlaw33.EditEquations", spec := "editEquations", inPlace := ["slices.overlaps[string]", "slices.overlaps[eliminant/api.Equation]"], unfollowed := true, recurses := true, plainKeys := false, apart := false }
def EditEquationsSaid : Prop := editEquationsRow.holds Tryz.pinned (OpenSpec.ofChange editEquationsSpec)

/-- ITS FALSE NEIGHBOUR: 'it returns false'. Refute it at one input. -/
def editEquationsWrong : ChangeSpec := { name := "editEquations", fn := fun _ => fun
  | [d1, d2] => { results := [.lit (.bool false)], args := [d1, d2] }
  | _ => none }
def EditEquationsWrongFalsely : Prop := editEquationsRow.holds Tryz.pinned (OpenSpec.ofChange editEquationsWrong)

/-- 'eliminantlaw33.EditAll': WHATEVER THE INPUT: true; the input reads as it did. -/
def editAllSpec : ChangeSpec := { name := "editAll", fn := fun _ => fun
  | [d1, d2, d3] => { results := [.lit (.bool true)], args := [d1, d2, d3] }
  | _ => none }
def editAllRow : OpenClaim := { program := "ytenaadodnembpaagreat", sum := "b8823f674f687a5ee58d0a5c35ff3e8a021344a7d2d8f7fde73a6c33daae6cd7", func := "eliminant/eliminantlaw33.EditAll", spec := "editAll", inPlace := ["slices.overlaps[string]", "slices.overlaps[eliminant/api.Equation]"], unfollowed := true, recurses := true, plainKeys := false, apart := false }
def EditAllSaid : Prop := editAllRow.holds Tryz.pinned (OpenSpec.ofChange editAllSpec)

/-- ITS FALSE NEIGHBOUR: 'it returns false'. Refute it at one input. -/
def editAllWrong : ChangeSpec := { name := "editAll", fn := fun _ => fun
  | [d1, d2, d3] => { results := [.lit (.bool false)], args := [d1, d2, d3] }
  | _ => none }
def EditAllWrongFalsely : Prop := editAllRow.holds Tryz.pinned (OpenSpec.ofChange editAllWrong)

/-- 'eliminantlaw33.EditDiffs': WHATEVER THE INPUT: true; the input reads as it did. -/
def editDiffsSpec : ChangeSpec := { name := "editDiffs", fn := fun _ => fun
  | [d1, d2] => { results := [.lit (.bool true)], args := [d1, d2] }
  | _ => none }
def editDiffsRow : OpenClaim := { program := "ytenaadodnembpaagreat", sum := "b8823f674f687a5ee58d0a5c35ff3e8a021344a7d2d8f7fde73a6c33daae6cd7", func := "eliminant/eliminantlaw33.EditDiffs", spec := "editDiffs", inPlace := ["slices.overlaps[string]", "slices.overlaps[eliminant/api.Equation]"], unfollowed := true, recurses := true, plainKeys := false, apart := false }
def EditDiffsSaid : Prop := editDiffsRow.holds Tryz.pinned (OpenSpec.ofChange editDiffsSpec)

/-- ITS FALSE NEIGHBOUR: 'it returns false'. Refute it at one input. -/
def editDiffsWrong : ChangeSpec := { name := "editDiffs", fn := fun _ => fun
  | [d1, d2] => { results := [.lit (.bool false)], args := [d1, d2] }
  | _ => none }
def EditDiffsWrongFalsely : Prop := editDiffsRow.holds Tryz.pinned (OpenSpec.ofChange editDiffsWrong)

/- THE SECOND FORM. 'bulk': how many values and letters a reading holds, each counted each time it is reached (what is shared counts as often as it is met; a slice's spare places count too). A statement '..UptoSaid' is the law's where the arguments, and the package variables that the reading takes, are together of bulk at most 1048576: NARROWER than '..Said'. Prove '..Said' where nothing that the law and all that it calls make is longer than what came in: it says more and counts as full. Else prove '..UptoSaid'. A law counts once. -/
mutual
def uptoBulk {H : Type} : DataW H → Nat
  | .lit (.string bytes) => bytes.length + 1
  | .lit _ => 1
  | .nil => 1
  | .ptr d => uptoBulk d + 1
  | .slice elems spare => uptoBulkAll elems + uptoBulkAll spare + 1
  | .agg parts => uptoBulkAll parts + 1
  | .iface _ d => uptoBulk d + 1
  | .map entries => uptoBulkEntries entries + 1
  | .held _ => 1
def uptoBulkAll {H : Type} : List (DataW H) → Nat
  | [] => 0
  | d :: r => uptoBulk d + uptoBulkAll r
def uptoBulkEntries {H : Type} : List (Lit × DataW H) → Nat
  | [] => 0
  | x :: r => uptoBulkEntry x + uptoBulkEntries r
def uptoBulkEntry {H : Type} : Lit × DataW H → Nat
  | (.string bytes, d) => bytes.length + uptoBulk d + 1
  | (_, d) => uptoBulk d + 1
 end
def uptoSmall : (H : Type) → List (DataW H) → Bool := fun _ ds => decide (uptoBulkAll ds ≤ 1048576)
def OpenSpec.upto (s : _root_.Go.ChangeSpec) : _root_.Go.OpenSpec := { _root_.Go.OpenSpec.ofChange s with cond := some uptoSmall }

/-- 'eliminantlaw33.EditMatchesReference', WHERE WHAT IT READS IS OF BULK AT MOST 1048576: true; the input reads as it did. -/
def editMatchesReferenceUptoRow : OpenClaim := { program := "ytenaadodnembpaagreat", sum := "b8823f674f687a5ee58d0a5c35ff3e8a021344a7d2d8f7fde73a6c33daae6cd7", func := "eliminant/eliminantlaw33.EditMatchesReference", spec := "editMatchesReference", inPlace := ["slices.overlaps[string]", "slices.overlaps[eliminant/api.Equation]"], unfollowed := true, recurses := true, plainKeys := false, apart := false, narrowed := true }
def EditMatchesReferenceUptoSaid : Prop := editMatchesReferenceUptoRow.holds Tryz.pinned (OpenSpec.upto editMatchesReferenceSpec)

/-- 'eliminantlaw33.EditValid', WHERE WHAT IT READS IS OF BULK AT MOST 1048576: true; the input reads as it did. -/
def editValidUptoRow : OpenClaim := { program := "ytenaadodnembpaagreat", sum := "b8823f674f687a5ee58d0a5c35ff3e8a021344a7d2d8f7fde73a6c33daae6cd7", func := "eliminant/eliminantlaw33.EditValid", spec := "editValid", inPlace := ["slices.overlaps[string]", "slices.overlaps[eliminant/api.Equation]"], unfollowed := true, recurses := true, plainKeys := false, apart := false, narrowed := true }
def EditValidUptoSaid : Prop := editValidUptoRow.holds Tryz.pinned (OpenSpec.upto editValidSpec)

/-- 'eliminantlaw33.EditInverts', WHERE WHAT IT READS IS OF BULK AT MOST 1048576: true; the input reads as it did. -/
def editInvertsUptoRow : OpenClaim := { program := "ytenaadodnembpaagreat", sum := "b8823f674f687a5ee58d0a5c35ff3e8a021344a7d2d8f7fde73a6c33daae6cd7", func := "eliminant/eliminantlaw33.EditInverts", spec := "editInverts", inPlace := ["slices.overlaps[string]", "slices.overlaps[eliminant/api.Equation]"], unfollowed := true, recurses := true, plainKeys := false, apart := false, narrowed := true }
def EditInvertsUptoSaid : Prop := editInvertsUptoRow.holds Tryz.pinned (OpenSpec.upto editInvertsSpec)

/-- 'eliminantlaw33.EditVariables', WHERE WHAT IT READS IS OF BULK AT MOST 1048576: true; the input reads as it did. -/
def editVariablesUptoRow : OpenClaim := { program := "ytenaadodnembpaagreat", sum := "b8823f674f687a5ee58d0a5c35ff3e8a021344a7d2d8f7fde73a6c33daae6cd7", func := "eliminant/eliminantlaw33.EditVariables", spec := "editVariables", inPlace := ["slices.overlaps[string]", "slices.overlaps[eliminant/api.Equation]"], unfollowed := true, recurses := true, plainKeys := false, apart := false, narrowed := true }
def EditVariablesUptoSaid : Prop := editVariablesUptoRow.holds Tryz.pinned (OpenSpec.upto editVariablesSpec)

/-- 'eliminantlaw33.EditEquations', WHERE WHAT IT READS IS OF BULK AT MOST 1048576: true; the input reads as it did. -/
def editEquationsUptoRow : OpenClaim := { program := "ytenaadodnembpaagreat", sum := "b8823f674f687a5ee58d0a5c35ff3e8a021344a7d2d8f7fde73a6c33daae6cd7", func := "eliminant/eliminantlaw33.EditEquations", spec := "editEquations", inPlace := ["slices.overlaps[string]", "slices.overlaps[eliminant/api.Equation]"], unfollowed := true, recurses := true, plainKeys := false, apart := false, narrowed := true }
def EditEquationsUptoSaid : Prop := editEquationsUptoRow.holds Tryz.pinned (OpenSpec.upto editEquationsSpec)

/-- 'eliminantlaw33.EditAll', WHERE WHAT IT READS IS OF BULK AT MOST 1048576: true; the input reads as it did. -/
def editAllUptoRow : OpenClaim := { program := "ytenaadodnembpaagreat", sum := "b8823f674f687a5ee58d0a5c35ff3e8a021344a7d2d8f7fde73a6c33daae6cd7", func := "eliminant/eliminantlaw33.EditAll", spec := "editAll", inPlace := ["slices.overlaps[string]", "slices.overlaps[eliminant/api.Equation]"], unfollowed := true, recurses := true, plainKeys := false, apart := false, narrowed := true }
def EditAllUptoSaid : Prop := editAllUptoRow.holds Tryz.pinned (OpenSpec.upto editAllSpec)

/-- 'eliminantlaw33.EditDiffs', WHERE WHAT IT READS IS OF BULK AT MOST 1048576: true; the input reads as it did. -/
def editDiffsUptoRow : OpenClaim := { program := "ytenaadodnembpaagreat", sum := "b8823f674f687a5ee58d0a5c35ff3e8a021344a7d2d8f7fde73a6c33daae6cd7", func := "eliminant/eliminantlaw33.EditDiffs", spec := "editDiffs", inPlace := ["slices.overlaps[string]", "slices.overlaps[eliminant/api.Equation]"], unfollowed := true, recurses := true, plainKeys := false, apart := false, narrowed := true }
def EditDiffsUptoSaid : Prop := editDiffsUptoRow.holds Tryz.pinned (OpenSpec.upto editDiffsSpec)

end Rows
end Go.Proofs.YtenaadodnembpaaGreat
