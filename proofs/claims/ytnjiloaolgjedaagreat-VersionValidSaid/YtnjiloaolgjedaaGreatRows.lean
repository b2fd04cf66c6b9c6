/-
  No cell of these rows narrows 'for every input' (looked for: loops, veiled, ifaces, maps, wideKeys, modest, calm, conditions, laid).
  DERIVED. THE GIVEN ROWS OF THIS SEAT. 6 by the template 'for every input the law returns true; each argument reads behind the call as it read before'; 0 by the template 'total and deterministic' (their statements: YtnjiloaolgjedaaGreatTotals.lean).
  GIVEN WITH THE SEED: the statements are not yours to turn. If you find one false, say at which input.
  Laid BY PROGRAM, IN A SANDBOX (cutbox-rows.mjs): the forced cells as the released guide's own fill.sh prints them over the translation 9180b82b880f8ce2… (all of the seat's roots in one cut). By AI agents, Wed Nov 11 2026. No macro, syntax, notation, axiom, sorry.
-/
import Derived.Test.YtnjiloaolgjedaaGreatChecked
import GoSem.Claim
import GoSem.ClaimJoined
import GoSem.ClaimMapViews
import Derived.JoinedTies
import Derived.KernelRfl
namespace Go.Proofs.YtnjiloaolgjedaaGreat
/- THE CELL 'sum', in the pinned program and in every row, IS THE sha256 OF THE DUMP (.gsa) THAT YtnjiloaolgjedaaGreatProg.lean LOADS. Nothing in Lean hashes anything: it is a label: what it is worth is what the hold of that sum in a sandbox is worth. -/
noncomputable def Tryz.pinned : Pinned := { name := "ytnjiloaolgjedaagreat", sum := "9180b82b880f8ce25d8b668e3177464abd33ecde3729f4c75d506e996ce5d624", checked := Tryz.checked }
namespace Rows
def none {H : Type} : Left H := { results := [], args := [] }

/-- 'eliminantlaw34.VersionMatchesReference': WHATEVER THE INPUT: true; the input reads as it did. -/
def versionMatchesReferenceSpec : ChangeSpec := { name := "versionMatchesReference", fn := fun _ => fun
  | [d1, d2, d3] => { results := [.lit (.bool true)], args := [d1, d2, d3] }
  | _ => none }
def versionMatchesReferenceRow : OpenClaim := { program := "ytnjiloaolgjedaagreat", sum := "9180b82b880f8ce25d8b668e3177464abd33ecde3729f4c75d506e996ce5d624", func := "eliminant/eliminantlaw34.VersionMatchesReference", spec := "versionMatchesReference", inPlace := ["slices.overlaps[string]", "slices.overlaps[eliminant/api.Equation]"], unfollowed := true, recurses := true, plainKeys := false, apart := false }
def VersionMatchesReferenceSaid : Prop := versionMatchesReferenceRow.holds Tryz.pinned (OpenSpec.ofChange versionMatchesReferenceSpec)

/-- ITS FALSE NEIGHBOUR: 'it returns false'. Refute it at one input. -/
def versionMatchesReferenceWrong : ChangeSpec := { name := "versionMatchesReference", fn := fun _ => fun
  | [d1, d2, d3] => { results := [.lit (.bool false)], args := [d1, d2, d3] }
  | _ => none }
def VersionMatchesReferenceWrongFalsely : Prop := versionMatchesReferenceRow.holds Tryz.pinned (OpenSpec.ofChange versionMatchesReferenceWrong)

/-- 'eliminantlaw34.VersionValid': WHATEVER THE INPUT: true; the input reads as it did. -/
def versionValidSpec : ChangeSpec := { name := "versionValid", fn := fun _ => fun
  | [d1, d2, d3] => { results := [.lit (.bool true)], args := [d1, d2, d3] }
  | _ => none }
def versionValidRow : OpenClaim := { program := "ytnjiloaolgjedaagreat", sum := "9180b82b880f8ce25d8b668e3177464abd33ecde3729f4c75d506e996ce5d624", func := "eliminant/eliminantlaw34.VersionValid", spec := "versionValid", inPlace := ["slices.overlaps[string]", "slices.overlaps[eliminant/api.Equation]"], unfollowed := true, recurses := true, plainKeys := false, apart := false }
def VersionValidSaid : Prop := versionValidRow.holds Tryz.pinned (OpenSpec.ofChange versionValidSpec)

/-- ITS FALSE NEIGHBOUR: 'it returns false'. Refute it at one input. -/
def versionValidWrong : ChangeSpec := { name := "versionValid", fn := fun _ => fun
  | [d1, d2, d3] => { results := [.lit (.bool false)], args := [d1, d2, d3] }
  | _ => none }
def VersionValidWrongFalsely : Prop := versionValidRow.holds Tryz.pinned (OpenSpec.ofChange versionValidWrong)

/-- 'eliminantlaw34.VersionKeeps': WHATEVER THE INPUT: true; the input reads as it did. -/
def versionKeepsSpec : ChangeSpec := { name := "versionKeeps", fn := fun _ => fun
  | [d1, d2, d3] => { results := [.lit (.bool true)], args := [d1, d2, d3] }
  | _ => none }
def versionKeepsRow : OpenClaim := { program := "ytnjiloaolgjedaagreat", sum := "9180b82b880f8ce25d8b668e3177464abd33ecde3729f4c75d506e996ce5d624", func := "eliminant/eliminantlaw34.VersionKeeps", spec := "versionKeeps", inPlace := ["slices.overlaps[string]", "slices.overlaps[eliminant/api.Equation]"], unfollowed := true, recurses := true, plainKeys := false, apart := false }
def VersionKeepsSaid : Prop := versionKeepsRow.holds Tryz.pinned (OpenSpec.ofChange versionKeepsSpec)

/-- ITS FALSE NEIGHBOUR: 'it returns false'. Refute it at one input. -/
def versionKeepsWrong : ChangeSpec := { name := "versionKeeps", fn := fun _ => fun
  | [d1, d2, d3] => { results := [.lit (.bool false)], args := [d1, d2, d3] }
  | _ => none }
def VersionKeepsWrongFalsely : Prop := versionKeepsRow.holds Tryz.pinned (OpenSpec.ofChange versionKeepsWrong)

/-- 'eliminantlaw34.VersionCommits': WHATEVER THE INPUT: true; the input reads as it did. -/
def versionCommitsSpec : ChangeSpec := { name := "versionCommits", fn := fun _ => fun
  | [d1, d2, d3] => { results := [.lit (.bool true)], args := [d1, d2, d3] }
  | _ => none }
def versionCommitsRow : OpenClaim := { program := "ytnjiloaolgjedaagreat", sum := "9180b82b880f8ce25d8b668e3177464abd33ecde3729f4c75d506e996ce5d624", func := "eliminant/eliminantlaw34.VersionCommits", spec := "versionCommits", inPlace := ["slices.overlaps[string]", "slices.overlaps[eliminant/api.Equation]"], unfollowed := true, recurses := true, plainKeys := false, apart := false }
def VersionCommitsSaid : Prop := versionCommitsRow.holds Tryz.pinned (OpenSpec.ofChange versionCommitsSpec)

/-- ITS FALSE NEIGHBOUR: 'it returns false'. Refute it at one input. -/
def versionCommitsWrong : ChangeSpec := { name := "versionCommits", fn := fun _ => fun
  | [d1, d2, d3] => { results := [.lit (.bool false)], args := [d1, d2, d3] }
  | _ => none }
def VersionCommitsWrongFalsely : Prop := versionCommitsRow.holds Tryz.pinned (OpenSpec.ofChange versionCommitsWrong)

/-- 'eliminantlaw34.VersionUndoes': WHATEVER THE INPUT: true; the input reads as it did. -/
def versionUndoesSpec : ChangeSpec := { name := "versionUndoes", fn := fun _ => fun
  | [d1, d2, d3] => { results := [.lit (.bool true)], args := [d1, d2, d3] }
  | _ => none }
def versionUndoesRow : OpenClaim := { program := "ytnjiloaolgjedaagreat", sum := "9180b82b880f8ce25d8b668e3177464abd33ecde3729f4c75d506e996ce5d624", func := "eliminant/eliminantlaw34.VersionUndoes", spec := "versionUndoes", inPlace := ["slices.overlaps[string]", "slices.overlaps[eliminant/api.Equation]"], unfollowed := true, recurses := true, plainKeys := false, apart := false }
def VersionUndoesSaid : Prop := versionUndoesRow.holds Tryz.pinned (OpenSpec.ofChange versionUndoesSpec)

/-- ITS FALSE NEIGHBOUR: 'it returns false'. Refute it at one input. -/
def versionUndoesWrong : ChangeSpec := { name := "versionUndoes", fn := fun _ => fun
  | [d1, d2, d3] => { results := [.lit (.bool false)], args := [d1, d2, d3] }
  | _ => none }
def VersionUndoesWrongFalsely : Prop := versionUndoesRow.holds Tryz.pinned (OpenSpec.ofChange versionUndoesWrong)

/-- 'eliminantlaw34.VersionAncestors': WHATEVER THE INPUT: true; the input reads as it did. -/
def versionAncestorsSpec : ChangeSpec := { name := "versionAncestors", fn := fun _ => fun
  | [d] => { results := [.lit (.bool true)], args := [d] }
  | _ => none }
def versionAncestorsRow : OpenClaim := { program := "ytnjiloaolgjedaagreat", sum := "9180b82b880f8ce25d8b668e3177464abd33ecde3729f4c75d506e996ce5d624", func := "eliminant/eliminantlaw34.VersionAncestors", spec := "versionAncestors", inPlace := ["slices.overlaps[string]", "slices.overlaps[eliminant/api.Equation]"], unfollowed := true, recurses := true, plainKeys := false, apart := false }
def VersionAncestorsSaid : Prop := versionAncestorsRow.holds Tryz.pinned (OpenSpec.ofChange versionAncestorsSpec)

/-- ITS FALSE NEIGHBOUR: 'it returns false'. Refute it at one input. -/
def versionAncestorsWrong : ChangeSpec := { name := "versionAncestors", fn := fun _ => fun
  | [d] => { results := [.lit (.bool false)], args := [d] }
  | _ => none }
def VersionAncestorsWrongFalsely : Prop := versionAncestorsRow.holds Tryz.pinned (OpenSpec.ofChange versionAncestorsWrong)

/- THE SECOND FORM. 'bulk': how many values and letters a reading holds, each counted each time it is reached (what is shared counts as often as it is met; a slice's spare places count too). A statement '..UptoSaid' is the law's where the arguments, and the package variables that the reading takes, are together of bulk at most 1048576: NARROWER than '..Said'. Prove '..Said' where nothing that the law and all that it calls make is longer than what came in: it says more and counts as full. Else prove '..UptoSaid'. A law counts once. -/
mutual
def uptoBulk {H : Type} : DataW H → Nat
  | .lit (.string bytes) => bytes.length + 1
  | .lit _ => 1
  | .nil => 1
  | .ptr d => uptoBulk d + 1
  | .slice elems spare => uptoBulkAll elems + uptoBulkAll spare + 1
  | .agg parts => uptoBulkAll parts + 1
  | .iface _ d => uptoBulk d + 1
  | .map entries => uptoBulkEntries entries + 1
  | .held _ => 1
def uptoBulkAll {H : Type} : List (DataW H) → Nat
  | [] => 0
  | d :: r => uptoBulk d + uptoBulkAll r
def uptoBulkEntries {H : Type} : List (Lit × DataW H) → Nat
  | [] => 0
  | x :: r => uptoBulkEntry x + uptoBulkEntries r
def uptoBulkEntry {H : Type} : Lit × DataW H → Nat
  | (.string bytes, d) => bytes.length + uptoBulk d + 1
  | (_, d) => uptoBulk d + 1
 end
def uptoSmall : (H : Type) → List (DataW H) → Bool := fun _ ds => decide (uptoBulkAll ds ≤ 1048576)
def OpenSpec.upto (s : _root_.Go.ChangeSpec) : _root_.Go.OpenSpec := { _root_.Go.OpenSpec.ofChange s with cond := some uptoSmall }

/-- 'eliminantlaw34.VersionMatchesReference', WHERE WHAT IT READS IS OF BULK AT MOST 1048576: true; the input reads as it did. -/
def versionMatchesReferenceUptoRow : OpenClaim := { program := "ytnjiloaolgjedaagreat", sum := "9180b82b880f8ce25d8b668e3177464abd33ecde3729f4c75d506e996ce5d624", func := "eliminant/eliminantlaw34.VersionMatchesReference", spec := "versionMatchesReference", inPlace := ["slices.overlaps[string]", "slices.overlaps[eliminant/api.Equation]"], unfollowed := true, recurses := true, plainKeys := false, apart := false, narrowed := true }
def VersionMatchesReferenceUptoSaid : Prop := versionMatchesReferenceUptoRow.holds Tryz.pinned (OpenSpec.upto versionMatchesReferenceSpec)

/-- 'eliminantlaw34.VersionValid', WHERE WHAT IT READS IS OF BULK AT MOST 1048576: true; the input reads as it did. -/
def versionValidUptoRow : OpenClaim := { program := "ytnjiloaolgjedaagreat", sum := "9180b82b880f8ce25d8b668e3177464abd33ecde3729f4c75d506e996ce5d624", func := "eliminant/eliminantlaw34.VersionValid", spec := "versionValid", inPlace := ["slices.overlaps[string]", "slices.overlaps[eliminant/api.Equation]"], unfollowed := true, recurses := true, plainKeys := false, apart := false, narrowed := true }
def VersionValidUptoSaid : Prop := versionValidUptoRow.holds Tryz.pinned (OpenSpec.upto versionValidSpec)

/-- 'eliminantlaw34.VersionKeeps', WHERE WHAT IT READS IS OF BULK AT MOST 1048576: true; the input reads as it did. -/
def versionKeepsUptoRow : OpenClaim := { program := "ytnjiloaolgjedaagreat", sum := "9180b82b880f8ce25d8b668e3177464abd33ecde3729f4c75d506e996ce5d624", func := "eliminant/eliminantlaw34.VersionKeeps", spec := "versionKeeps", inPlace := ["slices.overlaps[string]", "slices.overlaps[eliminant/api.Equation]"], unfollowed := true, recurses := true, plainKeys := false, apart := false, narrowed := true }
def VersionKeepsUptoSaid : Prop := versionKeepsUptoRow.holds Tryz.pinned (OpenSpec.upto versionKeepsSpec)

/-- 'eliminantlaw34.VersionCommits', WHERE WHAT IT READS IS OF BULK AT MOST 1048576: true; the input reads as it did. -/
def versionCommitsUptoRow : OpenClaim := { program := "ytnjiloaolgjedaagreat", sum := "9180b82b880f8ce25d8b668e3177464abd33ecde3729f4c75d506e996ce5d624", func := "eliminant/eliminantlaw34.VersionCommits", spec := "versionCommits", inPlace := ["slices.overlaps[string]", "slices.overlaps[eliminant/api.Equation]"], unfollowed := true, recurses := true, plainKeys := false, apart := false, narrowed := true }
def VersionCommitsUptoSaid : Prop := versionCommitsUptoRow.holds Tryz.pinned (OpenSpec.upto versionCommitsSpec)

/-- 'eliminantlaw34.VersionUndoes', WHERE WHAT IT READS IS OF BULK AT MOST 1048576: true; the input reads as it did. -/
def versionUndoesUptoRow : OpenClaim := { program := "ytnjiloaolgjedaagreat", sum := "9180b82b880f8ce25d8b668e3177464abd33ecde3729f4c75d506e996ce5d624", func := "eliminant/eliminantlaw34.VersionUndoes", spec := "versionUndoes", inPlace := ["slices.overlaps[string]", "slices.overlaps[eliminant/api.Equation]"], unfollowed := true, recurses := true, plainKeys := false, apart := false, narrowed := true }
def VersionUndoesUptoSaid : Prop := versionUndoesUptoRow.holds Tryz.pinned (OpenSpec.upto versionUndoesSpec)

/-- 'eliminantlaw34.VersionAncestors', WHERE WHAT IT READS IS OF BULK AT MOST 1048576: true; the input reads as it did. -/
def versionAncestorsUptoRow : OpenClaim := { program := "ytnjiloaolgjedaagreat", sum := "9180b82b880f8ce25d8b668e3177464abd33ecde3729f4c75d506e996ce5d624", func := "eliminant/eliminantlaw34.VersionAncestors", spec := "versionAncestors", inPlace := ["slices.overlaps[string]", "slices.overlaps[eliminant/api.Equation]"], unfollowed := true, recurses := true, plainKeys := false, apart := false, narrowed := true }
def VersionAncestorsUptoSaid : Prop := versionAncestorsUptoRow.holds Tryz.pinned (OpenSpec.upto versionAncestorsSpec)

end Rows
end Go.Proofs.YtnjiloaolgjedaaGreat
