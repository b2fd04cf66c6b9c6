/-
  No cell of these rows narrows 'for every input' (looked for: loops, veiled, ifaces, maps, wideKeys, modest, calm, conditions, laid).
  DERIVED. THE GIVEN ROWS OF THIS SEAT. 7 by the template 'for every input the law returns true; each argument reads behind the call as it read before'; 0 by the template 'total and deterministic' (their statements: YtoakocgcakgpnaaGreatTotals.lean).
  GIVEN WITH THE SEED: the statements are not yours to turn. If you find one false, say at which input.
  Laid BY PROGRAM, IN A SANDBOX (cutbox-rows.mjs): the forced cells as the released guide's own fill.sh prints them over the translation 5d8b3e11939cfe9d… (all of the seat's roots in one cut). By AI agents, Wed Nov 11 2026. No macro, syntax, notation, axiom, sorry.
-/
import Derived.Test.YtoakocgcakgpnaaGreatChecked
import GoSem.Claim
import GoSem.ClaimJoined
import GoSem.ClaimMapViews
import Derived.JoinedTies
import Derived.KernelRfl
namespace Go.Proofs.YtoakocgcakgpnaaGreat
/- THE CELL 'sum', in the pinned program and in every row, IS THE sha256 OF THE DUMP (.gsa) THAT YtoakocgcakgpnaaGreatProg.lean LOADS. Nothing in Lean hashes anything: it is a label: what it is worth is what the hold of that sum in a sandbox is worth. -/
noncomputable def Tryz.pinned : Pinned := { name := "ytoakocgcakgpnaagreat", sum := "5d8b3e11939cfe9d321f4a6afcab7e603319cdb2fbc81981aeb0d14bde2cc5f9", checked := Tryz.checked }
namespace Rows
def none {H : Type} : Left H := { results := [], args := [] }

/-- 'eliminantlaw32.SystemNormal': WHATEVER THE INPUT: true; the input reads as it did. -/
def systemNormalSpec : ChangeSpec := { name := "systemNormal", fn := fun _ => fun
  | [d1, d2] => { results := [.lit (.bool true)], args := [d1, d2] }
  | _ => none }
def systemNormalRow : OpenClaim := { program := "ytoakocgcakgpnaagreat", sum := "5d8b3e11939cfe9d321f4a6afcab7e603319cdb2fbc81981aeb0d14bde2cc5f9", func := "eliminant/eliminantlaw32.SystemNormal", spec := "systemNormal", unfollowed := true, recurses := true, plainKeys := false, apart := false }
def SystemNormalSaid : Prop := systemNormalRow.holds Tryz.pinned (OpenSpec.ofChange systemNormalSpec)

/-- ITS FALSE NEIGHBOUR: 'it returns false'. Refute it at one input. -/
def systemNormalWrong : ChangeSpec := { name := "systemNormal", fn := fun _ => fun
  | [d1, d2] => { results := [.lit (.bool false)], args := [d1, d2] }
  | _ => none }
def SystemNormalWrongFalsely : Prop := systemNormalRow.holds Tryz.pinned (OpenSpec.ofChange systemNormalWrong)

/-- 'eliminantlaw32.SystemCanon': WHATEVER THE INPUT: true; the input reads as it did. -/
def systemCanonSpec : ChangeSpec := { name := "systemCanon", fn := fun _ => fun
  | [d] => { results := [.lit (.bool true)], args := [d] }
  | _ => none }
def systemCanonRow : OpenClaim := { program := "ytoakocgcakgpnaagreat", sum := "5d8b3e11939cfe9d321f4a6afcab7e603319cdb2fbc81981aeb0d14bde2cc5f9", func := "eliminant/eliminantlaw32.SystemCanon", spec := "systemCanon", unfollowed := true, recurses := true, plainKeys := false, apart := false }
def SystemCanonSaid : Prop := systemCanonRow.holds Tryz.pinned (OpenSpec.ofChange systemCanonSpec)

/-- ITS FALSE NEIGHBOUR: 'it returns false'. Refute it at one input. -/
def systemCanonWrong : ChangeSpec := { name := "systemCanon", fn := fun _ => fun
  | [d] => { results := [.lit (.bool false)], args := [d] }
  | _ => none }
def SystemCanonWrongFalsely : Prop := systemCanonRow.holds Tryz.pinned (OpenSpec.ofChange systemCanonWrong)

/-- 'eliminantlaw32.SystemRenamed': WHATEVER THE INPUT: true; the input reads as it did. -/
def systemRenamedSpec : ChangeSpec := { name := "systemRenamed", fn := fun _ => fun
  | [d1, d2] => { results := [.lit (.bool true)], args := [d1, d2] }
  | _ => none }
def systemRenamedRow : OpenClaim := { program := "ytoakocgcakgpnaagreat", sum := "5d8b3e11939cfe9d321f4a6afcab7e603319cdb2fbc81981aeb0d14bde2cc5f9", func := "eliminant/eliminantlaw32.SystemRenamed", spec := "systemRenamed", unfollowed := true, recurses := true, plainKeys := false, apart := false }
def SystemRenamedSaid : Prop := systemRenamedRow.holds Tryz.pinned (OpenSpec.ofChange systemRenamedSpec)

/-- ITS FALSE NEIGHBOUR: 'it returns false'. Refute it at one input. -/
def systemRenamedWrong : ChangeSpec := { name := "systemRenamed", fn := fun _ => fun
  | [d1, d2] => { results := [.lit (.bool false)], args := [d1, d2] }
  | _ => none }
def SystemRenamedWrongFalsely : Prop := systemRenamedRow.holds Tryz.pinned (OpenSpec.ofChange systemRenamedWrong)

/-- 'eliminantlaw32.SystemCores': WHATEVER THE INPUT: true; the input reads as it did. -/
def systemCoresSpec : ChangeSpec := { name := "systemCores", fn := fun _ => fun
  | [d1, d2] => { results := [.lit (.bool true)], args := [d1, d2] }
  | _ => none }
def systemCoresRow : OpenClaim := { program := "ytoakocgcakgpnaagreat", sum := "5d8b3e11939cfe9d321f4a6afcab7e603319cdb2fbc81981aeb0d14bde2cc5f9", func := "eliminant/eliminantlaw32.SystemCores", spec := "systemCores", unfollowed := true, recurses := true, plainKeys := false, apart := false }
def SystemCoresSaid : Prop := systemCoresRow.holds Tryz.pinned (OpenSpec.ofChange systemCoresSpec)

/-- ITS FALSE NEIGHBOUR: 'it returns false'. Refute it at one input. -/
def systemCoresWrong : ChangeSpec := { name := "systemCores", fn := fun _ => fun
  | [d1, d2] => { results := [.lit (.bool false)], args := [d1, d2] }
  | _ => none }
def SystemCoresWrongFalsely : Prop := systemCoresRow.holds Tryz.pinned (OpenSpec.ofChange systemCoresWrong)

/-- 'eliminantlaw32.SystemNames': WHATEVER THE INPUT: true; the input reads as it did. -/
def systemNamesSpec : ChangeSpec := { name := "systemNames", fn := fun _ => fun
  | [d1, d2] => { results := [.lit (.bool true)], args := [d1, d2] }
  | _ => none }
def systemNamesRow : OpenClaim := { program := "ytoakocgcakgpnaagreat", sum := "5d8b3e11939cfe9d321f4a6afcab7e603319cdb2fbc81981aeb0d14bde2cc5f9", func := "eliminant/eliminantlaw32.SystemNames", spec := "systemNames", unfollowed := true, recurses := true, plainKeys := false, apart := false }
def SystemNamesSaid : Prop := systemNamesRow.holds Tryz.pinned (OpenSpec.ofChange systemNamesSpec)

/-- ITS FALSE NEIGHBOUR: 'it returns false'. Refute it at one input. -/
def systemNamesWrong : ChangeSpec := { name := "systemNames", fn := fun _ => fun
  | [d1, d2] => { results := [.lit (.bool false)], args := [d1, d2] }
  | _ => none }
def SystemNamesWrongFalsely : Prop := systemNamesRow.holds Tryz.pinned (OpenSpec.ofChange systemNamesWrong)

/-- 'eliminantlaw32.SystemMatchesReference': WHATEVER THE INPUT: true; the input reads as it did. -/
def systemMatchesReferenceSpec : ChangeSpec := { name := "systemMatchesReference", fn := fun _ => fun
  | [d1, d2, d3] => { results := [.lit (.bool true)], args := [d1, d2, d3] }
  | _ => none }
def systemMatchesReferenceRow : OpenClaim := { program := "ytoakocgcakgpnaagreat", sum := "5d8b3e11939cfe9d321f4a6afcab7e603319cdb2fbc81981aeb0d14bde2cc5f9", func := "eliminant/eliminantlaw32.SystemMatchesReference", spec := "systemMatchesReference", unfollowed := true, recurses := true, plainKeys := false, apart := false }
def SystemMatchesReferenceSaid : Prop := systemMatchesReferenceRow.holds Tryz.pinned (OpenSpec.ofChange systemMatchesReferenceSpec)

/-- ITS FALSE NEIGHBOUR: 'it returns false'. Refute it at one input. -/
def systemMatchesReferenceWrong : ChangeSpec := { name := "systemMatchesReference", fn := fun _ => fun
  | [d1, d2, d3] => { results := [.lit (.bool false)], args := [d1, d2, d3] }
  | _ => none }
def SystemMatchesReferenceWrongFalsely : Prop := systemMatchesReferenceRow.holds Tryz.pinned (OpenSpec.ofChange systemMatchesReferenceWrong)

/-- 'eliminantlaw32.SystemSolutions': WHATEVER THE INPUT: true; the input reads as it did. -/
def systemSolutionsSpec : ChangeSpec := { name := "systemSolutions", fn := fun _ => fun
  | [d1, d2] => { results := [.lit (.bool true)], args := [d1, d2] }
  | _ => none }
def systemSolutionsRow : OpenClaim := { program := "ytoakocgcakgpnaagreat", sum := "5d8b3e11939cfe9d321f4a6afcab7e603319cdb2fbc81981aeb0d14bde2cc5f9", func := "eliminant/eliminantlaw32.SystemSolutions", spec := "systemSolutions", unfollowed := true, recurses := true, plainKeys := false, apart := false }
def SystemSolutionsSaid : Prop := systemSolutionsRow.holds Tryz.pinned (OpenSpec.ofChange systemSolutionsSpec)

/-- ITS FALSE NEIGHBOUR: 'it returns false'. Refute it at one input. -/
def systemSolutionsWrong : ChangeSpec := { name := "systemSolutions", fn := fun _ => fun
  | [d1, d2] => { results := [.lit (.bool false)], args := [d1, d2] }
  | _ => none }
def SystemSolutionsWrongFalsely : Prop := systemSolutionsRow.holds Tryz.pinned (OpenSpec.ofChange systemSolutionsWrong)

/- THE SECOND FORM. 'bulk': how many values and letters a reading holds, each counted each time it is reached (what is shared counts as often as it is met; a slice's spare places count too). A statement '..UptoSaid' is the law's where the arguments, and the package variables that the reading takes, are together of bulk at most 1048576: NARROWER than '..Said'. Prove '..Said' where nothing that the law and all that it calls make is longer than what came in: it says more and counts as full. Else prove '..UptoSaid'. A law counts once. -/
mutual
def uptoBulk {H : Type} : DataW H → Nat
  | .lit (.string bytes) => bytes.length + 1
  | .lit _ => 1
  | .nil => 1
  | .ptr d => uptoBulk d + 1
  | .slice elems spare => uptoBulkAll elems + uptoBulkAll spare + 1
  | .agg parts => uptoBulkAll parts + 1
  | .iface _ d => uptoBulk d + 1
  | .map entries => uptoBulkEntries entries + 1
  | .held _ => 1
def uptoBulkAll {H : Type} : List (DataW H) → Nat
  | [] => 0
  | d :: r => uptoBulk d + uptoBulkAll r
def uptoBulkEntries {H : Type} : List (Lit × DataW H) → Nat
  | [] => 0
  | x :: r => uptoBulkEntry x + uptoBulkEntries r
def uptoBulkEntry {H : Type} : Lit × DataW H → Nat
  | (.string bytes, d) => bytes.length + uptoBulk d + 1
  | (_, d) => uptoBulk d + 1
 end
def uptoSmall : (H : Type) → List (DataW H) → Bool := fun _ ds => decide (uptoBulkAll ds ≤ 1048576)
def OpenSpec.upto (s : _root_.Go.ChangeSpec) : _root_.Go.OpenSpec := { _root_.Go.OpenSpec.ofChange s with cond := some uptoSmall }

/-- 'eliminantlaw32.SystemNormal', WHERE WHAT IT READS IS OF BULK AT MOST 1048576: true; the input reads as it did. -/
def systemNormalUptoRow : OpenClaim := { program := "ytoakocgcakgpnaagreat", sum := "5d8b3e11939cfe9d321f4a6afcab7e603319cdb2fbc81981aeb0d14bde2cc5f9", func := "eliminant/eliminantlaw32.SystemNormal", spec := "systemNormal", unfollowed := true, recurses := true, plainKeys := false, apart := false, narrowed := true }
def SystemNormalUptoSaid : Prop := systemNormalUptoRow.holds Tryz.pinned (OpenSpec.upto systemNormalSpec)

/-- 'eliminantlaw32.SystemCanon', WHERE WHAT IT READS IS OF BULK AT MOST 1048576: true; the input reads as it did. -/
def systemCanonUptoRow : OpenClaim := { program := "ytoakocgcakgpnaagreat", sum := "5d8b3e11939cfe9d321f4a6afcab7e603319cdb2fbc81981aeb0d14bde2cc5f9", func := "eliminant/eliminantlaw32.SystemCanon", spec := "systemCanon", unfollowed := true, recurses := true, plainKeys := false, apart := false, narrowed := true }
def SystemCanonUptoSaid : Prop := systemCanonUptoRow.holds Tryz.pinned (OpenSpec.upto systemCanonSpec)

/-- 'eliminantlaw32.SystemRenamed', WHERE WHAT IT READS IS OF BULK AT MOST 1048576: true; the input reads as it did. -/
def systemRenamedUptoRow : OpenClaim := { program := "ytoakocgcakgpnaagreat", sum := "5d8b3e11939cfe9d321f4a6afcab7e603319cdb2fbc81981aeb0d14bde2cc5f9", func := "eliminant/eliminantlaw32.SystemRenamed", spec := "systemRenamed", unfollowed := true, recurses := true, plainKeys := false, apart := false, narrowed := true }
def SystemRenamedUptoSaid : Prop := systemRenamedUptoRow.holds Tryz.pinned (OpenSpec.upto systemRenamedSpec)

/-- 'eliminantlaw32.SystemCores', WHERE WHAT IT READS IS OF BULK AT MOST 1048576: true; the input reads as it did. -/
def systemCoresUptoRow : OpenClaim := { program := "ytoakocgcakgpnaagreat", sum := "5d8b3e11939cfe9d321f4a6afcab7e603319cdb2fbc81981aeb0d14bde2cc5f9", func := "eliminant/eliminantlaw32.SystemCores", spec := "systemCores", unfollowed := true, recurses := true, plainKeys := false, apart := false, narrowed := true }
def SystemCoresUptoSaid : Prop := systemCoresUptoRow.holds Tryz.pinned (OpenSpec.upto systemCoresSpec)

/-- 'eliminantlaw32.SystemNames', WHERE WHAT IT READS IS OF BULK AT MOST 1048576: true; the input reads as it did. -/
def systemNamesUptoRow : OpenClaim := { program := "ytoakocgcakgpnaagreat", sum := "5d8b3e11939cfe9d321f4a6afcab7e603319cdb2fbc81981aeb0d14bde2cc5f9", func := "eliminant/eliminantlaw32.SystemNames", spec := "systemNames", unfollowed := true, recurses := true, plainKeys := false, apart := false, narrowed := true }
def SystemNamesUptoSaid : Prop := systemNamesUptoRow.holds Tryz.pinned (OpenSpec.upto systemNamesSpec)

/-- 'eliminantlaw32.SystemMatchesReference', WHERE WHAT IT READS IS OF BULK AT MOST 1048576: true; the input reads as it did. -/
def systemMatchesReferenceUptoRow : OpenClaim := { program := "ytoakocgcakgpnaagreat", sum := "5d8b3e11939cfe9d321f4a6afcab7e603319cdb2fbc81981aeb0d14bde2cc5f9", func := "eliminant/eliminantlaw32.SystemMatchesReference", spec := "systemMatchesReference", unfollowed := true, recurses := true, plainKeys := false, apart := false, narrowed := true }
def SystemMatchesReferenceUptoSaid : Prop := systemMatchesReferenceUptoRow.holds Tryz.pinned (OpenSpec.upto systemMatchesReferenceSpec)

/-- 'eliminantlaw32.SystemSolutions', WHERE WHAT IT READS IS OF BULK AT MOST 1048576: true; the input reads as it did. -/
def systemSolutionsUptoRow : OpenClaim := { program := "ytoakocgcakgpnaagreat", sum := "5d8b3e11939cfe9d321f4a6afcab7e603319cdb2fbc81981aeb0d14bde2cc5f9", func := "eliminant/eliminantlaw32.SystemSolutions", spec := "systemSolutions", unfollowed := true, recurses := true, plainKeys := false, apart := false, narrowed := true }
def SystemSolutionsUptoSaid : Prop := systemSolutionsUptoRow.holds Tryz.pinned (OpenSpec.upto systemSolutionsSpec)

end Rows
end Go.Proofs.YtoakocgcakgpnaaGreat
