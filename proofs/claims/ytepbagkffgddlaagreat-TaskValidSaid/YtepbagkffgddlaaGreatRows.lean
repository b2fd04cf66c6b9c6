/-
  No cell of these rows narrows 'for every input' (looked for: loops, veiled, ifaces, maps, wideKeys, modest, calm, conditions, laid).
  DERIVED. THE GIVEN ROWS OF THIS SEAT. 6 by the template 'for every input the law returns true; each argument reads behind the call as it read before'; 0 by the template 'total and deterministic' (their statements: YtepbagkffgddlaaGreatTotals.lean).
  GIVEN WITH THE SEED: the statements are not yours to turn. If you find one false, say at which input.
  Laid BY PROGRAM, IN A SANDBOX (cutbox-rows.mjs): the forced cells as the released guide's own fill.sh prints them over the translation 70a7010665ab2ee7… (all of the seat's roots in one cut). By AI agents, Wed Nov 11 2026. No macro, syntax, notation, axiom, sorry.
-/
import Derived.Test.YtepbagkffgddlaaGreatChecked
import GoSem.Claim
import GoSem.ClaimJoined
import GoSem.ClaimMapViews
import Derived.JoinedTies
import Derived.KernelRfl
namespace Go.Proofs.YtepbagkffgddlaaGreat
/- THE CELL 'sum', in the pinned program and in every row, IS THE sha256 OF THE DUMP (.gsa) THAT YtepbagkffgddlaaGreatProg.lean LOADS. Nothing in Lean hashes anything: it is a label: what it is worth is what the hold of that sum in a sandbox is worth. -/
noncomputable def Tryz.pinned : Pinned := { name := "ytepbagkffgddlaagreat", sum := "70a7010665ab2ee783dd7a1d9db4eee00ab823cf32c5a67e2f07919bf44c8f39", checked := Tryz.checked }
namespace Rows
def none {H : Type} : Left H := { results := [], args := [] }

/-- 'eliminantlaw38.TaskMatchesReference': WHATEVER THE INPUT: true; the input reads as it did. -/
def taskMatchesReferenceSpec : ChangeSpec := { name := "taskMatchesReference", fn := fun _ => fun
  | [d1, d2] => { results := [.lit (.bool true)], args := [d1, d2] }
  | _ => none }
def taskMatchesReferenceRow : OpenClaim := { program := "ytepbagkffgddlaagreat", sum := "70a7010665ab2ee783dd7a1d9db4eee00ab823cf32c5a67e2f07919bf44c8f39", func := "eliminant/eliminantlaw38.TaskMatchesReference", spec := "taskMatchesReference", unfollowed := true, recurses := true, plainKeys := false, apart := false }
def TaskMatchesReferenceSaid : Prop := taskMatchesReferenceRow.holds Tryz.pinned (OpenSpec.ofChange taskMatchesReferenceSpec)

/-- ITS FALSE NEIGHBOUR: 'it returns false'. Refute it at one input. -/
def taskMatchesReferenceWrong : ChangeSpec := { name := "taskMatchesReference", fn := fun _ => fun
  | [d1, d2] => { results := [.lit (.bool false)], args := [d1, d2] }
  | _ => none }
def TaskMatchesReferenceWrongFalsely : Prop := taskMatchesReferenceRow.holds Tryz.pinned (OpenSpec.ofChange taskMatchesReferenceWrong)

/-- 'eliminantlaw38.TaskValid': WHATEVER THE INPUT: true; the input reads as it did. -/
def taskValidSpec : ChangeSpec := { name := "taskValid", fn := fun _ => fun
  | [d1, d2] => { results := [.lit (.bool true)], args := [d1, d2] }
  | _ => none }
def taskValidRow : OpenClaim := { program := "ytepbagkffgddlaagreat", sum := "70a7010665ab2ee783dd7a1d9db4eee00ab823cf32c5a67e2f07919bf44c8f39", func := "eliminant/eliminantlaw38.TaskValid", spec := "taskValid", unfollowed := true, recurses := true, plainKeys := false, apart := false }
def TaskValidSaid : Prop := taskValidRow.holds Tryz.pinned (OpenSpec.ofChange taskValidSpec)

/-- ITS FALSE NEIGHBOUR: 'it returns false'. Refute it at one input. -/
def taskValidWrong : ChangeSpec := { name := "taskValid", fn := fun _ => fun
  | [d1, d2] => { results := [.lit (.bool false)], args := [d1, d2] }
  | _ => none }
def TaskValidWrongFalsely : Prop := taskValidRow.holds Tryz.pinned (OpenSpec.ofChange taskValidWrong)

/-- 'eliminantlaw38.TaskSame': WHATEVER THE INPUT: true; the input reads as it did. -/
def taskSameSpec : ChangeSpec := { name := "taskSame", fn := fun _ => fun
  | [d1, d2, d3] => { results := [.lit (.bool true)], args := [d1, d2, d3] }
  | _ => none }
def taskSameRow : OpenClaim := { program := "ytepbagkffgddlaagreat", sum := "70a7010665ab2ee783dd7a1d9db4eee00ab823cf32c5a67e2f07919bf44c8f39", func := "eliminant/eliminantlaw38.TaskSame", spec := "taskSame", unfollowed := true, recurses := true, plainKeys := false, apart := false }
def TaskSameSaid : Prop := taskSameRow.holds Tryz.pinned (OpenSpec.ofChange taskSameSpec)

/-- ITS FALSE NEIGHBOUR: 'it returns false'. Refute it at one input. -/
def taskSameWrong : ChangeSpec := { name := "taskSame", fn := fun _ => fun
  | [d1, d2, d3] => { results := [.lit (.bool false)], args := [d1, d2, d3] }
  | _ => none }
def TaskSameWrongFalsely : Prop := taskSameRow.holds Tryz.pinned (OpenSpec.ofChange taskSameWrong)

/-- 'eliminantlaw38.TaskShrinks': WHATEVER THE INPUT: true; the input reads as it did. -/
def taskShrinksSpec : ChangeSpec := { name := "taskShrinks", fn := fun _ => fun
  | [d1, d2] => { results := [.lit (.bool true)], args := [d1, d2] }
  | _ => none }
def taskShrinksRow : OpenClaim := { program := "ytepbagkffgddlaagreat", sum := "70a7010665ab2ee783dd7a1d9db4eee00ab823cf32c5a67e2f07919bf44c8f39", func := "eliminant/eliminantlaw38.TaskShrinks", spec := "taskShrinks", unfollowed := true, recurses := true, plainKeys := false, apart := false }
def TaskShrinksSaid : Prop := taskShrinksRow.holds Tryz.pinned (OpenSpec.ofChange taskShrinksSpec)

/-- ITS FALSE NEIGHBOUR: 'it returns false'. Refute it at one input. -/
def taskShrinksWrong : ChangeSpec := { name := "taskShrinks", fn := fun _ => fun
  | [d1, d2] => { results := [.lit (.bool false)], args := [d1, d2] }
  | _ => none }
def TaskShrinksWrongFalsely : Prop := taskShrinksRow.holds Tryz.pinned (OpenSpec.ofChange taskShrinksWrong)

/-- 'eliminantlaw38.TaskLearns': WHATEVER THE INPUT: true; the input reads as it did. -/
def taskLearnsSpec : ChangeSpec := { name := "taskLearns", fn := fun _ => fun
  | [d1, d2] => { results := [.lit (.bool true)], args := [d1, d2] }
  | _ => none }
def taskLearnsRow : OpenClaim := { program := "ytepbagkffgddlaagreat", sum := "70a7010665ab2ee783dd7a1d9db4eee00ab823cf32c5a67e2f07919bf44c8f39", func := "eliminant/eliminantlaw38.TaskLearns", spec := "taskLearns", unfollowed := true, recurses := true, plainKeys := false, apart := false }
def TaskLearnsSaid : Prop := taskLearnsRow.holds Tryz.pinned (OpenSpec.ofChange taskLearnsSpec)

/-- ITS FALSE NEIGHBOUR: 'it returns false'. Refute it at one input. -/
def taskLearnsWrong : ChangeSpec := { name := "taskLearns", fn := fun _ => fun
  | [d1, d2] => { results := [.lit (.bool false)], args := [d1, d2] }
  | _ => none }
def TaskLearnsWrongFalsely : Prop := taskLearnsRow.holds Tryz.pinned (OpenSpec.ofChange taskLearnsWrong)

/-- 'eliminantlaw38.TaskReady': WHATEVER THE INPUT: true; the input reads as it did. -/
def taskReadySpec : ChangeSpec := { name := "taskReady", fn := fun _ => fun
  | [d] => { results := [.lit (.bool true)], args := [d] }
  | _ => none }
def taskReadyRow : OpenClaim := { program := "ytepbagkffgddlaagreat", sum := "70a7010665ab2ee783dd7a1d9db4eee00ab823cf32c5a67e2f07919bf44c8f39", func := "eliminant/eliminantlaw38.TaskReady", spec := "taskReady", unfollowed := true, recurses := true, plainKeys := false, apart := false }
def TaskReadySaid : Prop := taskReadyRow.holds Tryz.pinned (OpenSpec.ofChange taskReadySpec)

/-- ITS FALSE NEIGHBOUR: 'it returns false'. Refute it at one input. -/
def taskReadyWrong : ChangeSpec := { name := "taskReady", fn := fun _ => fun
  | [d] => { results := [.lit (.bool false)], args := [d] }
  | _ => none }
def TaskReadyWrongFalsely : Prop := taskReadyRow.holds Tryz.pinned (OpenSpec.ofChange taskReadyWrong)

/- THE SECOND FORM. 'bulk': how many values and letters a reading holds, each counted each time it is reached (what is shared counts as often as it is met; a slice's spare places count too). A statement '..UptoSaid' is the law's where the arguments, and the package variables that the reading takes, are together of bulk at most 1048576: NARROWER than '..Said'. Prove '..Said' where nothing that the law and all that it calls make is longer than what came in: it says more and counts as full. Else prove '..UptoSaid'. A law counts once. -/
mutual
def uptoBulk {H : Type} : DataW H → Nat
  | .lit (.string bytes) => bytes.length + 1
  | .lit _ => 1
  | .nil => 1
  | .ptr d => uptoBulk d + 1
  | .slice elems spare => uptoBulkAll elems + uptoBulkAll spare + 1
  | .agg parts => uptoBulkAll parts + 1
  | .iface _ d => uptoBulk d + 1
  | .map entries => uptoBulkEntries entries + 1
  | .held _ => 1
def uptoBulkAll {H : Type} : List (DataW H) → Nat
  | [] => 0
  | d :: r => uptoBulk d + uptoBulkAll r
def uptoBulkEntries {H : Type} : List (Lit × DataW H) → Nat
  | [] => 0
  | x :: r => uptoBulkEntry x + uptoBulkEntries r
def uptoBulkEntry {H : Type} : Lit × DataW H → Nat
  | (.string bytes, d) => bytes.length + uptoBulk d + 1
  | (_, d) => uptoBulk d + 1
 end
def uptoSmall : (H : Type) → List (DataW H) → Bool := fun _ ds => decide (uptoBulkAll ds ≤ 1048576)
def OpenSpec.upto (s : _root_.Go.ChangeSpec) : _root_.Go.OpenSpec := { _root_.Go.OpenSpec.ofChange s with cond := some uptoSmall }

/-- 'eliminantlaw38.TaskMatchesReference', WHERE WHAT IT READS IS OF BULK AT MOST 1048576: true; the input reads as it did. -/
def taskMatchesReferenceUptoRow : OpenClaim := { program := "ytepbagkffgddlaagreat", sum := "70a7010665ab2ee783dd7a1d9db4eee00ab823cf32c5a67e2f07919bf44c8f39", func := "eliminant/eliminantlaw38.TaskMatchesReference", spec := "taskMatchesReference", unfollowed := true, recurses := true, plainKeys := false, apart := false, narrowed := true }
def TaskMatchesReferenceUptoSaid : Prop := taskMatchesReferenceUptoRow.holds Tryz.pinned (OpenSpec.upto taskMatchesReferenceSpec)

/-- 'eliminantlaw38.TaskValid', WHERE WHAT IT READS IS OF BULK AT MOST 1048576: true; the input reads as it did. -/
def taskValidUptoRow : OpenClaim := { program := "ytepbagkffgddlaagreat", sum := "70a7010665ab2ee783dd7a1d9db4eee00ab823cf32c5a67e2f07919bf44c8f39", func := "eliminant/eliminantlaw38.TaskValid", spec := "taskValid", unfollowed := true, recurses := true, plainKeys := false, apart := false, narrowed := true }
def TaskValidUptoSaid : Prop := taskValidUptoRow.holds Tryz.pinned (OpenSpec.upto taskValidSpec)

/-- 'eliminantlaw38.TaskSame', WHERE WHAT IT READS IS OF BULK AT MOST 1048576: true; the input reads as it did. -/
def taskSameUptoRow : OpenClaim := { program := "ytepbagkffgddlaagreat", sum := "70a7010665ab2ee783dd7a1d9db4eee00ab823cf32c5a67e2f07919bf44c8f39", func := "eliminant/eliminantlaw38.TaskSame", spec := "taskSame", unfollowed := true, recurses := true, plainKeys := false, apart := false, narrowed := true }
def TaskSameUptoSaid : Prop := taskSameUptoRow.holds Tryz.pinned (OpenSpec.upto taskSameSpec)

/-- 'eliminantlaw38.TaskShrinks', WHERE WHAT IT READS IS OF BULK AT MOST 1048576: true; the input reads as it did. -/
def taskShrinksUptoRow : OpenClaim := { program := "ytepbagkffgddlaagreat", sum := "70a7010665ab2ee783dd7a1d9db4eee00ab823cf32c5a67e2f07919bf44c8f39", func := "eliminant/eliminantlaw38.TaskShrinks", spec := "taskShrinks", unfollowed := true, recurses := true, plainKeys := false, apart := false, narrowed := true }
def TaskShrinksUptoSaid : Prop := taskShrinksUptoRow.holds Tryz.pinned (OpenSpec.upto taskShrinksSpec)

/-- 'eliminantlaw38.TaskLearns', WHERE WHAT IT READS IS OF BULK AT MOST 1048576: true; the input reads as it did. -/
def taskLearnsUptoRow : OpenClaim := { program := "ytepbagkffgddlaagreat", sum := "70a7010665ab2ee783dd7a1d9db4eee00ab823cf32c5a67e2f07919bf44c8f39", func := "eliminant/eliminantlaw38.TaskLearns", spec := "taskLearns", unfollowed := true, recurses := true, plainKeys := false, apart := false, narrowed := true }
def TaskLearnsUptoSaid : Prop := taskLearnsUptoRow.holds Tryz.pinned (OpenSpec.upto taskLearnsSpec)

/-- 'eliminantlaw38.TaskReady', WHERE WHAT IT READS IS OF BULK AT MOST 1048576: true; the input reads as it did. -/
def taskReadyUptoRow : OpenClaim := { program := "ytepbagkffgddlaagreat", sum := "70a7010665ab2ee783dd7a1d9db4eee00ab823cf32c5a67e2f07919bf44c8f39", func := "eliminant/eliminantlaw38.TaskReady", spec := "taskReady", unfollowed := true, recurses := true, plainKeys := false, apart := false, narrowed := true }
def TaskReadyUptoSaid : Prop := taskReadyUptoRow.holds Tryz.pinned (OpenSpec.upto taskReadySpec)

end Rows
end Go.Proofs.YtepbagkffgddlaaGreat
