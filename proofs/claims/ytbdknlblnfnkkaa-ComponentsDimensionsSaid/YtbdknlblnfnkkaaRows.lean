/-
  No cell of these rows narrows 'for every input' (looked for: loops, veiled, ifaces, maps, wideKeys, modest, calm, conditions, laid).
  DERIVED. THE GIVEN ROWS OF THIS SEAT. 8 by the template 'for every input the law returns true; each argument reads behind the call as it read before'; 0 by the template 'total and deterministic' (their statements: YtbdknlblnfnkkaaTotals.lean).
  GIVEN WITH THE SEED: the statements are not yours to turn. If you find one false, say at which input.
  Laid BY PROGRAM, IN A SANDBOX (cutbox-rows.mjs): the forced cells as the released guide's own fill.sh prints them over the translation 9366dac769de3f54… (all of the seat's roots in one cut). By AI agents, Wed Nov 11 2026. No macro, syntax, notation, axiom, sorry.
-/
import Derived.Test.YtbdknlblnfnkkaaChecked
import GoSem.Claim
import GoSem.ClaimJoined
import GoSem.ClaimMapViews
import Derived.JoinedTies
import Derived.KernelRfl
namespace Go.Proofs.Ytbdknlblnfnkkaa
/- THE CELL 'sum', in the pinned program and in every row, IS THE sha256 OF THE DUMP (.gsa) THAT YtbdknlblnfnkkaaProg.lean LOADS. Nothing in Lean hashes anything: it is a label: what it is worth is what the hold of that sum in a sandbox is worth. -/
noncomputable def Try.pinned : Pinned := { name := "ytbdknlblnfnkkaa", sum := "9366dac769de3f5468d1fbb7798c0b5581b9fcf3209a28239f6a788220097670", checked := Try.checked }
namespace Rows
def none {H : Type} : Left H := { results := [], args := [] }

/-- 'eliminantlaw21.ComponentsMatchReference': WHATEVER THE INPUT: true; the input reads as it did. -/
def componentsMatchReferenceSpec : ChangeSpec := { name := "componentsMatchReference", fn := fun _ => fun
  | [d1, d2] => { results := [.lit (.bool true)], args := [d1, d2] }
  | _ => none }
def componentsMatchReferenceRow : OpenClaim := { program := "ytbdknlblnfnkkaa", sum := "9366dac769de3f5468d1fbb7798c0b5581b9fcf3209a28239f6a788220097670", func := "eliminant/eliminantlaw21.ComponentsMatchReference", spec := "componentsMatchReference", unfollowed := true, recurses := true, plainKeys := false, apart := false }
def ComponentsMatchReferenceSaid : Prop := componentsMatchReferenceRow.holds Try.pinned (OpenSpec.ofChange componentsMatchReferenceSpec)

/-- ITS FALSE NEIGHBOUR: 'it returns false'. Refute it at one input. -/
def componentsMatchReferenceWrong : ChangeSpec := { name := "componentsMatchReference", fn := fun _ => fun
  | [d1, d2] => { results := [.lit (.bool false)], args := [d1, d2] }
  | _ => none }
def ComponentsMatchReferenceWrongFalsely : Prop := componentsMatchReferenceRow.holds Try.pinned (OpenSpec.ofChange componentsMatchReferenceWrong)

/-- 'eliminantlaw21.ComponentsMeet': WHATEVER THE INPUT: true; the input reads as it did. -/
def componentsMeetSpec : ChangeSpec := { name := "componentsMeet", fn := fun _ => fun
  | [d1, d2] => { results := [.lit (.bool true)], args := [d1, d2] }
  | _ => none }
def componentsMeetRow : OpenClaim := { program := "ytbdknlblnfnkkaa", sum := "9366dac769de3f5468d1fbb7798c0b5581b9fcf3209a28239f6a788220097670", func := "eliminant/eliminantlaw21.ComponentsMeet", spec := "componentsMeet", unfollowed := true, recurses := true, plainKeys := false, apart := false }
def ComponentsMeetSaid : Prop := componentsMeetRow.holds Try.pinned (OpenSpec.ofChange componentsMeetSpec)

/-- ITS FALSE NEIGHBOUR: 'it returns false'. Refute it at one input. -/
def componentsMeetWrong : ChangeSpec := { name := "componentsMeet", fn := fun _ => fun
  | [d1, d2] => { results := [.lit (.bool false)], args := [d1, d2] }
  | _ => none }
def ComponentsMeetWrongFalsely : Prop := componentsMeetRow.holds Try.pinned (OpenSpec.ofChange componentsMeetWrong)

/-- 'eliminantlaw21.ComponentsIrreducible': WHATEVER THE INPUT: true; the input reads as it did. -/
def componentsIrreducibleSpec : ChangeSpec := { name := "componentsIrreducible", fn := fun _ => fun
  | [d] => { results := [.lit (.bool true)], args := [d] }
  | _ => none }
def componentsIrreducibleRow : OpenClaim := { program := "ytbdknlblnfnkkaa", sum := "9366dac769de3f5468d1fbb7798c0b5581b9fcf3209a28239f6a788220097670", func := "eliminant/eliminantlaw21.ComponentsIrreducible", spec := "componentsIrreducible", unfollowed := true, recurses := true, plainKeys := false, apart := false }
def ComponentsIrreducibleSaid : Prop := componentsIrreducibleRow.holds Try.pinned (OpenSpec.ofChange componentsIrreducibleSpec)

/-- ITS FALSE NEIGHBOUR: 'it returns false'. Refute it at one input. -/
def componentsIrreducibleWrong : ChangeSpec := { name := "componentsIrreducible", fn := fun _ => fun
  | [d] => { results := [.lit (.bool false)], args := [d] }
  | _ => none }
def ComponentsIrreducibleWrongFalsely : Prop := componentsIrreducibleRow.holds Try.pinned (OpenSpec.ofChange componentsIrreducibleWrong)

/-- 'eliminantlaw21.ComponentsRadicals': WHATEVER THE INPUT: true; the input reads as it did. -/
def componentsRadicalsSpec : ChangeSpec := { name := "componentsRadicals", fn := fun _ => fun
  | [d] => { results := [.lit (.bool true)], args := [d] }
  | _ => none }
def componentsRadicalsRow : OpenClaim := { program := "ytbdknlblnfnkkaa", sum := "9366dac769de3f5468d1fbb7798c0b5581b9fcf3209a28239f6a788220097670", func := "eliminant/eliminantlaw21.ComponentsRadicals", spec := "componentsRadicals", unfollowed := true, recurses := true, plainKeys := false, apart := false }
def ComponentsRadicalsSaid : Prop := componentsRadicalsRow.holds Try.pinned (OpenSpec.ofChange componentsRadicalsSpec)

/-- ITS FALSE NEIGHBOUR: 'it returns false'. Refute it at one input. -/
def componentsRadicalsWrong : ChangeSpec := { name := "componentsRadicals", fn := fun _ => fun
  | [d] => { results := [.lit (.bool false)], args := [d] }
  | _ => none }
def ComponentsRadicalsWrongFalsely : Prop := componentsRadicalsRow.holds Try.pinned (OpenSpec.ofChange componentsRadicalsWrong)

/-- 'eliminantlaw21.ComponentsPrimes': WHATEVER THE INPUT: true; the input reads as it did. -/
def componentsPrimesSpec : ChangeSpec := { name := "componentsPrimes", fn := fun _ => fun
  | [d] => { results := [.lit (.bool true)], args := [d] }
  | _ => none }
def componentsPrimesRow : OpenClaim := { program := "ytbdknlblnfnkkaa", sum := "9366dac769de3f5468d1fbb7798c0b5581b9fcf3209a28239f6a788220097670", func := "eliminant/eliminantlaw21.ComponentsPrimes", spec := "componentsPrimes", unfollowed := true, recurses := true, plainKeys := false, apart := false }
def ComponentsPrimesSaid : Prop := componentsPrimesRow.holds Try.pinned (OpenSpec.ofChange componentsPrimesSpec)

/-- ITS FALSE NEIGHBOUR: 'it returns false'. Refute it at one input. -/
def componentsPrimesWrong : ChangeSpec := { name := "componentsPrimes", fn := fun _ => fun
  | [d] => { results := [.lit (.bool false)], args := [d] }
  | _ => none }
def ComponentsPrimesWrongFalsely : Prop := componentsPrimesRow.holds Try.pinned (OpenSpec.ofChange componentsPrimesWrong)

/-- 'eliminantlaw21.ComponentsPrimary': WHATEVER THE INPUT: true; the input reads as it did. -/
def componentsPrimarySpec : ChangeSpec := { name := "componentsPrimary", fn := fun _ => fun
  | [d] => { results := [.lit (.bool true)], args := [d] }
  | _ => none }
def componentsPrimaryRow : OpenClaim := { program := "ytbdknlblnfnkkaa", sum := "9366dac769de3f5468d1fbb7798c0b5581b9fcf3209a28239f6a788220097670", func := "eliminant/eliminantlaw21.ComponentsPrimary", spec := "componentsPrimary", unfollowed := true, recurses := true, plainKeys := false, apart := false }
def ComponentsPrimarySaid : Prop := componentsPrimaryRow.holds Try.pinned (OpenSpec.ofChange componentsPrimarySpec)

/-- ITS FALSE NEIGHBOUR: 'it returns false'. Refute it at one input. -/
def componentsPrimaryWrong : ChangeSpec := { name := "componentsPrimary", fn := fun _ => fun
  | [d] => { results := [.lit (.bool false)], args := [d] }
  | _ => none }
def ComponentsPrimaryWrongFalsely : Prop := componentsPrimaryRow.holds Try.pinned (OpenSpec.ofChange componentsPrimaryWrong)

/-- 'eliminantlaw21.ComponentsErrors': WHATEVER THE INPUT: true; the input reads as it did. -/
def componentsErrorsSpec : ChangeSpec := { name := "componentsErrors", fn := fun _ => fun
  | [d1, d2, d3] => { results := [.lit (.bool true)], args := [d1, d2, d3] }
  | _ => none }
def componentsErrorsRow : OpenClaim := { program := "ytbdknlblnfnkkaa", sum := "9366dac769de3f5468d1fbb7798c0b5581b9fcf3209a28239f6a788220097670", func := "eliminant/eliminantlaw21.ComponentsErrors", spec := "componentsErrors", unfollowed := true, recurses := true, plainKeys := false, apart := false }
def ComponentsErrorsSaid : Prop := componentsErrorsRow.holds Try.pinned (OpenSpec.ofChange componentsErrorsSpec)

/-- ITS FALSE NEIGHBOUR: 'it returns false'. Refute it at one input. -/
def componentsErrorsWrong : ChangeSpec := { name := "componentsErrors", fn := fun _ => fun
  | [d1, d2, d3] => { results := [.lit (.bool false)], args := [d1, d2, d3] }
  | _ => none }
def ComponentsErrorsWrongFalsely : Prop := componentsErrorsRow.holds Try.pinned (OpenSpec.ofChange componentsErrorsWrong)

/-- 'eliminantlaw21.ComponentsDimensions': WHATEVER THE INPUT: true; the input reads as it did. -/
def componentsDimensionsSpec : ChangeSpec := { name := "componentsDimensions", fn := fun _ => fun
  | [d] => { results := [.lit (.bool true)], args := [d] }
  | _ => none }
def componentsDimensionsRow : OpenClaim := { program := "ytbdknlblnfnkkaa", sum := "9366dac769de3f5468d1fbb7798c0b5581b9fcf3209a28239f6a788220097670", func := "eliminant/eliminantlaw21.ComponentsDimensions", spec := "componentsDimensions", unfollowed := true, recurses := true, plainKeys := false, apart := false }
def ComponentsDimensionsSaid : Prop := componentsDimensionsRow.holds Try.pinned (OpenSpec.ofChange componentsDimensionsSpec)

/-- ITS FALSE NEIGHBOUR: 'it returns false'. Refute it at one input. -/
def componentsDimensionsWrong : ChangeSpec := { name := "componentsDimensions", fn := fun _ => fun
  | [d] => { results := [.lit (.bool false)], args := [d] }
  | _ => none }
def ComponentsDimensionsWrongFalsely : Prop := componentsDimensionsRow.holds Try.pinned (OpenSpec.ofChange componentsDimensionsWrong)

/- THE SECOND FORM. 'bulk': how many values and letters a reading holds, each counted each time it is reached (what is shared counts as often as it is met; a slice's spare places count too). A statement '..UptoSaid' is the law's where the arguments, and the package variables that the reading takes, are together of bulk at most 1048576: NARROWER than '..Said'. Prove '..Said' where nothing that the law and all that it calls make is longer than what came in: it says more and counts as full. Else prove '..UptoSaid'. A law counts once. -/
mutual
def uptoBulk {H : Type} : DataW H → Nat
  | .lit (.string bytes) => bytes.length + 1
  | .lit _ => 1
  | .nil => 1
  | .ptr d => uptoBulk d + 1
  | .slice elems spare => uptoBulkAll elems + uptoBulkAll spare + 1
  | .agg parts => uptoBulkAll parts + 1
  | .iface _ d => uptoBulk d + 1
  | .map entries => uptoBulkEntries entries + 1
  | .held _ => 1
def uptoBulkAll {H : Type} : List (DataW H) → Nat
  | [] => 0
  | d :: r => uptoBulk d + uptoBulkAll r
def uptoBulkEntries {H : Type} : List (Lit × DataW H) → Nat
  | [] => 0
  | x :: r => uptoBulkEntry x + uptoBulkEntries r
def uptoBulkEntry {H : Type} : Lit × DataW H → Nat
  | (.string bytes, d) => bytes.length + uptoBulk d + 1
  | (_, d) => uptoBulk d + 1
 end
def uptoSmall : (H : Type) → List (DataW H) → Bool := fun _ ds => decide (uptoBulkAll ds ≤ 1048576)
def OpenSpec.upto (s : _root_.Go.ChangeSpec) : _root_.Go.OpenSpec := { _root_.Go.OpenSpec.ofChange s with cond := some uptoSmall }

/-- 'eliminantlaw21.ComponentsMatchReference', WHERE WHAT IT READS IS OF BULK AT MOST 1048576: true; the input reads as it did. -/
def componentsMatchReferenceUptoRow : OpenClaim := { program := "ytbdknlblnfnkkaa", sum := "9366dac769de3f5468d1fbb7798c0b5581b9fcf3209a28239f6a788220097670", func := "eliminant/eliminantlaw21.ComponentsMatchReference", spec := "componentsMatchReference", unfollowed := true, recurses := true, plainKeys := false, apart := false, narrowed := true }
def ComponentsMatchReferenceUptoSaid : Prop := componentsMatchReferenceUptoRow.holds Try.pinned (OpenSpec.upto componentsMatchReferenceSpec)

/-- 'eliminantlaw21.ComponentsMeet', WHERE WHAT IT READS IS OF BULK AT MOST 1048576: true; the input reads as it did. -/
def componentsMeetUptoRow : OpenClaim := { program := "ytbdknlblnfnkkaa", sum := "9366dac769de3f5468d1fbb7798c0b5581b9fcf3209a28239f6a788220097670", func := "eliminant/eliminantlaw21.ComponentsMeet", spec := "componentsMeet", unfollowed := true, recurses := true, plainKeys := false, apart := false, narrowed := true }
def ComponentsMeetUptoSaid : Prop := componentsMeetUptoRow.holds Try.pinned (OpenSpec.upto componentsMeetSpec)

/-- 'eliminantlaw21.ComponentsIrreducible', WHERE WHAT IT READS IS OF BULK AT MOST 1048576: true; the input reads as it did. -/
def componentsIrreducibleUptoRow : OpenClaim := { program := "ytbdknlblnfnkkaa", sum := "9366dac769de3f5468d1fbb7798c0b5581b9fcf3209a28239f6a788220097670", func := "eliminant/eliminantlaw21.ComponentsIrreducible", spec := "componentsIrreducible", unfollowed := true, recurses := true, plainKeys := false, apart := false, narrowed := true }
def ComponentsIrreducibleUptoSaid : Prop := componentsIrreducibleUptoRow.holds Try.pinned (OpenSpec.upto componentsIrreducibleSpec)

/-- 'eliminantlaw21.ComponentsRadicals', WHERE WHAT IT READS IS OF BULK AT MOST 1048576: true; the input reads as it did. -/
def componentsRadicalsUptoRow : OpenClaim := { program := "ytbdknlblnfnkkaa", sum := "9366dac769de3f5468d1fbb7798c0b5581b9fcf3209a28239f6a788220097670", func := "eliminant/eliminantlaw21.ComponentsRadicals", spec := "componentsRadicals", unfollowed := true, recurses := true, plainKeys := false, apart := false, narrowed := true }
def ComponentsRadicalsUptoSaid : Prop := componentsRadicalsUptoRow.holds Try.pinned (OpenSpec.upto componentsRadicalsSpec)

/-- 'eliminantlaw21.ComponentsPrimes', WHERE WHAT IT READS IS OF BULK AT MOST 1048576: true; the input reads as it did. -/
def componentsPrimesUptoRow : OpenClaim := { program := "ytbdknlblnfnkkaa", sum := "9366dac769de3f5468d1fbb7798c0b5581b9fcf3209a28239f6a788220097670", func := "eliminant/eliminantlaw21.ComponentsPrimes", spec := "componentsPrimes", unfollowed := true, recurses := true, plainKeys := false, apart := false, narrowed := true }
def ComponentsPrimesUptoSaid : Prop := componentsPrimesUptoRow.holds Try.pinned (OpenSpec.upto componentsPrimesSpec)

/-- 'eliminantlaw21.ComponentsPrimary', WHERE WHAT IT READS IS OF BULK AT MOST 1048576: true; the input reads as it did. -/
def componentsPrimaryUptoRow : OpenClaim := { program := "ytbdknlblnfnkkaa", sum := "9366dac769de3f5468d1fbb7798c0b5581b9fcf3209a28239f6a788220097670", func := "eliminant/eliminantlaw21.ComponentsPrimary", spec := "componentsPrimary", unfollowed := true, recurses := true, plainKeys := false, apart := false, narrowed := true }
def ComponentsPrimaryUptoSaid : Prop := componentsPrimaryUptoRow.holds Try.pinned (OpenSpec.upto componentsPrimarySpec)

/-- 'eliminantlaw21.ComponentsErrors', WHERE WHAT IT READS IS OF BULK AT MOST 1048576: true; the input reads as it did. -/
def componentsErrorsUptoRow : OpenClaim := { program := "ytbdknlblnfnkkaa", sum := "9366dac769de3f5468d1fbb7798c0b5581b9fcf3209a28239f6a788220097670", func := "eliminant/eliminantlaw21.ComponentsErrors", spec := "componentsErrors", unfollowed := true, recurses := true, plainKeys := false, apart := false, narrowed := true }
def ComponentsErrorsUptoSaid : Prop := componentsErrorsUptoRow.holds Try.pinned (OpenSpec.upto componentsErrorsSpec)

/-- 'eliminantlaw21.ComponentsDimensions', WHERE WHAT IT READS IS OF BULK AT MOST 1048576: true; the input reads as it did. -/
def componentsDimensionsUptoRow : OpenClaim := { program := "ytbdknlblnfnkkaa", sum := "9366dac769de3f5468d1fbb7798c0b5581b9fcf3209a28239f6a788220097670", func := "eliminant/eliminantlaw21.ComponentsDimensions", spec := "componentsDimensions", unfollowed := true, recurses := true, plainKeys := false, apart := false, narrowed := true }
def ComponentsDimensionsUptoSaid : Prop := componentsDimensionsUptoRow.holds Try.pinned (OpenSpec.upto componentsDimensionsSpec)

end Rows
end Go.Proofs.Ytbdknlblnfnkkaa
