/-
  No cell of these rows narrows 'for every input' (looked for: loops, veiled, ifaces, maps, wideKeys, modest, calm, conditions, laid).
  DERIVED. THE GIVEN ROWS OF THIS SEAT. 4 by the template 'for every input the law returns true; each argument reads behind the call as it read before'; 0 by the template 'total and deterministic' (their statements: YtnbpjambcagjcaaGreatTotals.lean).
  GIVEN WITH THE SEED: the statements are not yours to turn. If you find one false, say at which input.
  Laid BY PROGRAM, IN A SANDBOX (cutbox-rows.mjs): the forced cells as the released guide's own fill.sh prints them over the translation 7570aeb2fc5d40f1… (all of the seat's roots in one cut). By AI agents, Wed Nov 11 2026. No macro, syntax, notation, axiom, sorry.
-/
import Derived.Test.YtnbpjambcagjcaaGreatChecked
import GoSem.Claim
import GoSem.ClaimJoined
import GoSem.ClaimMapViews
import Derived.JoinedTies
import Derived.KernelRfl
namespace Go.Proofs.YtnbpjambcagjcaaGreat
/- THE CELL 'sum', in the pinned program and in every row, IS THE sha256 OF THE DUMP (.gsa) THAT YtnbpjambcagjcaaGreatProg.lean LOADS. Nothing in Lean hashes anything: it is a label: what it is worth is what the hold of that sum in a sandbox is worth. -/
noncomputable def Tryz.pinned : Pinned := { name := "ytnbpjambcagjcaagreat", sum := "7570aeb2fc5d40f128473b322a735edc667fadfe1fa14f0b906e6b7c07dabf8c", checked := Tryz.checked }
namespace Rows
def none {H : Type} : Left H := { results := [], args := [] }

/-- 'eliminantlaw35.MergeInvalid': WHATEVER THE INPUT: true; the input reads as it did. -/
def mergeInvalidSpec : ChangeSpec := { name := "mergeInvalid", fn := fun _ => fun
  | [d1, d2] => { results := [.lit (.bool true)], args := [d1, d2] }
  | _ => none }
def mergeInvalidRow : OpenClaim := { program := "ytnbpjambcagjcaagreat", sum := "7570aeb2fc5d40f128473b322a735edc667fadfe1fa14f0b906e6b7c07dabf8c", func := "eliminant/eliminantlaw35.MergeInvalid", spec := "mergeInvalid", unfollowed := true, recurses := true, plainKeys := false, apart := false }
def MergeInvalidSaid : Prop := mergeInvalidRow.holds Tryz.pinned (OpenSpec.ofChange mergeInvalidSpec)

/-- ITS FALSE NEIGHBOUR: 'it returns false'. Refute it at one input. -/
def mergeInvalidWrong : ChangeSpec := { name := "mergeInvalid", fn := fun _ => fun
  | [d1, d2] => { results := [.lit (.bool false)], args := [d1, d2] }
  | _ => none }
def MergeInvalidWrongFalsely : Prop := mergeInvalidRow.holds Tryz.pinned (OpenSpec.ofChange mergeInvalidWrong)

/-- 'eliminantlaw35.MergeOneSide': WHATEVER THE INPUT: true; the input reads as it did. -/
def mergeOneSideSpec : ChangeSpec := { name := "mergeOneSide", fn := fun _ => fun
  | [d] => { results := [.lit (.bool true)], args := [d] }
  | _ => none }
def mergeOneSideRow : OpenClaim := { program := "ytnbpjambcagjcaagreat", sum := "7570aeb2fc5d40f128473b322a735edc667fadfe1fa14f0b906e6b7c07dabf8c", func := "eliminant/eliminantlaw35.MergeOneSide", spec := "mergeOneSide", unfollowed := true, recurses := true, plainKeys := false, apart := false }
def MergeOneSideSaid : Prop := mergeOneSideRow.holds Tryz.pinned (OpenSpec.ofChange mergeOneSideSpec)

/-- ITS FALSE NEIGHBOUR: 'it returns false'. Refute it at one input. -/
def mergeOneSideWrong : ChangeSpec := { name := "mergeOneSide", fn := fun _ => fun
  | [d] => { results := [.lit (.bool false)], args := [d] }
  | _ => none }
def MergeOneSideWrongFalsely : Prop := mergeOneSideRow.holds Tryz.pinned (OpenSpec.ofChange mergeOneSideWrong)

/-- 'eliminantlaw35.MergeEntries': WHATEVER THE INPUT: true; the input reads as it did. -/
def mergeEntriesSpec : ChangeSpec := { name := "mergeEntries", fn := fun _ => fun
  | [d] => { results := [.lit (.bool true)], args := [d] }
  | _ => none }
def mergeEntriesRow : OpenClaim := { program := "ytnbpjambcagjcaagreat", sum := "7570aeb2fc5d40f128473b322a735edc667fadfe1fa14f0b906e6b7c07dabf8c", func := "eliminant/eliminantlaw35.MergeEntries", spec := "mergeEntries", unfollowed := true, recurses := true, plainKeys := false, apart := false }
def MergeEntriesSaid : Prop := mergeEntriesRow.holds Tryz.pinned (OpenSpec.ofChange mergeEntriesSpec)

/-- ITS FALSE NEIGHBOUR: 'it returns false'. Refute it at one input. -/
def mergeEntriesWrong : ChangeSpec := { name := "mergeEntries", fn := fun _ => fun
  | [d] => { results := [.lit (.bool false)], args := [d] }
  | _ => none }
def MergeEntriesWrongFalsely : Prop := mergeEntriesRow.holds Tryz.pinned (OpenSpec.ofChange mergeEntriesWrong)

/-- 'eliminantlaw35.MergeSolutions': WHATEVER THE INPUT: true; the input reads as it did. -/
def mergeSolutionsSpec : ChangeSpec := { name := "mergeSolutions", fn := fun _ => fun
  | [d1, d2] => { results := [.lit (.bool true)], args := [d1, d2] }
  | _ => none }
def mergeSolutionsRow : OpenClaim := { program := "ytnbpjambcagjcaagreat", sum := "7570aeb2fc5d40f128473b322a735edc667fadfe1fa14f0b906e6b7c07dabf8c", func := "eliminant/eliminantlaw35.MergeSolutions", spec := "mergeSolutions", unfollowed := true, recurses := true, plainKeys := false, apart := false }
def MergeSolutionsSaid : Prop := mergeSolutionsRow.holds Tryz.pinned (OpenSpec.ofChange mergeSolutionsSpec)

/-- ITS FALSE NEIGHBOUR: 'it returns false'. Refute it at one input. -/
def mergeSolutionsWrong : ChangeSpec := { name := "mergeSolutions", fn := fun _ => fun
  | [d1, d2] => { results := [.lit (.bool false)], args := [d1, d2] }
  | _ => none }
def MergeSolutionsWrongFalsely : Prop := mergeSolutionsRow.holds Tryz.pinned (OpenSpec.ofChange mergeSolutionsWrong)

/- THE SECOND FORM. 'bulk': how many values and letters a reading holds, each counted each time it is reached (what is shared counts as often as it is met; a slice's spare places count too). A statement '..UptoSaid' is the law's where the arguments, and the package variables that the reading takes, are together of bulk at most 1048576: NARROWER than '..Said'. Prove '..Said' where nothing that the law and all that it calls make is longer than what came in: it says more and counts as full. Else prove '..UptoSaid'. A law counts once. -/
mutual
def uptoBulk {H : Type} : DataW H → Nat
  | .lit (.string bytes) => bytes.length + 1
  | .lit _ => 1
  | .nil => 1
  | .ptr d => uptoBulk d + 1
  | .slice elems spare => uptoBulkAll elems + uptoBulkAll spare + 1
  | .agg parts => uptoBulkAll parts + 1
  | .iface _ d => uptoBulk d + 1
  | .map entries => uptoBulkEntries entries + 1
  | .held _ => 1
def uptoBulkAll {H : Type} : List (DataW H) → Nat
  | [] => 0
  | d :: r => uptoBulk d + uptoBulkAll r
def uptoBulkEntries {H : Type} : List (Lit × DataW H) → Nat
  | [] => 0
  | x :: r => uptoBulkEntry x + uptoBulkEntries r
def uptoBulkEntry {H : Type} : Lit × DataW H → Nat
  | (.string bytes, d) => bytes.length + uptoBulk d + 1
  | (_, d) => uptoBulk d + 1
 end
def uptoSmall : (H : Type) → List (DataW H) → Bool := fun _ ds => decide (uptoBulkAll ds ≤ 1048576)
def OpenSpec.upto (s : _root_.Go.ChangeSpec) : _root_.Go.OpenSpec := { _root_.Go.OpenSpec.ofChange s with cond := some uptoSmall }

/-- 'eliminantlaw35.MergeInvalid', WHERE WHAT IT READS IS OF BULK AT MOST 1048576: true; the input reads as it did. -/
def mergeInvalidUptoRow : OpenClaim := { program := "ytnbpjambcagjcaagreat", sum := "7570aeb2fc5d40f128473b322a735edc667fadfe1fa14f0b906e6b7c07dabf8c", func := "eliminant/eliminantlaw35.MergeInvalid", spec := "mergeInvalid", unfollowed := true, recurses := true, plainKeys := false, apart := false, narrowed := true }
def MergeInvalidUptoSaid : Prop := mergeInvalidUptoRow.holds Tryz.pinned (OpenSpec.upto mergeInvalidSpec)

/-- 'eliminantlaw35.MergeOneSide', WHERE WHAT IT READS IS OF BULK AT MOST 1048576: true; the input reads as it did. -/
def mergeOneSideUptoRow : OpenClaim := { program := "ytnbpjambcagjcaagreat", sum := "7570aeb2fc5d40f128473b322a735edc667fadfe1fa14f0b906e6b7c07dabf8c", func := "eliminant/eliminantlaw35.MergeOneSide", spec := "mergeOneSide", unfollowed := true, recurses := true, plainKeys := false, apart := false, narrowed := true }
def MergeOneSideUptoSaid : Prop := mergeOneSideUptoRow.holds Tryz.pinned (OpenSpec.upto mergeOneSideSpec)

/-- 'eliminantlaw35.MergeEntries', WHERE WHAT IT READS IS OF BULK AT MOST 1048576: true; the input reads as it did. -/
def mergeEntriesUptoRow : OpenClaim := { program := "ytnbpjambcagjcaagreat", sum := "7570aeb2fc5d40f128473b322a735edc667fadfe1fa14f0b906e6b7c07dabf8c", func := "eliminant/eliminantlaw35.MergeEntries", spec := "mergeEntries", unfollowed := true, recurses := true, plainKeys := false, apart := false, narrowed := true }
def MergeEntriesUptoSaid : Prop := mergeEntriesUptoRow.holds Tryz.pinned (OpenSpec.upto mergeEntriesSpec)

/-- 'eliminantlaw35.MergeSolutions', WHERE WHAT IT READS IS OF BULK AT MOST 1048576: true; the input reads as it did. -/
def mergeSolutionsUptoRow : OpenClaim := { program := "ytnbpjambcagjcaagreat", sum := "7570aeb2fc5d40f128473b322a735edc667fadfe1fa14f0b906e6b7c07dabf8c", func := "eliminant/eliminantlaw35.MergeSolutions", spec := "mergeSolutions", unfollowed := true, recurses := true, plainKeys := false, apart := false, narrowed := true }
def MergeSolutionsUptoSaid : Prop := mergeSolutionsUptoRow.holds Tryz.pinned (OpenSpec.upto mergeSolutionsSpec)

end Rows
end Go.Proofs.YtnbpjambcagjcaaGreat
