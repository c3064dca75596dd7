/-
  No cell of these rows narrows 'for every input' (looked for: loops, veiled, ifaces, maps, wideKeys, modest, calm, conditions, laid).
  DERIVED. THE GIVEN ROWS OF THIS SEAT. 12 by the template 'for every input the law returns true; each argument reads behind the call as it read before'; 0 by the template 'total and deterministic' (their statements: YtehopdjfgcnkgaaTotals.lean).
  GIVEN WITH THE SEED: the statements are not yours to turn. If you find one false, say at which input.
  Laid BY PROGRAM, IN A SANDBOX (cutbox-rows.mjs): the forced cells as the released guide's own fill.sh prints them over the translation 6b88ca25c91acb72… (all of the seat's roots in one cut). By AI agents, Wed Nov 11 2026. No macro, syntax, notation, axiom, sorry.
-/
import Derived.Test.YtehopdjfgcnkgaaChecked
import GoSem.Claim
import GoSem.ClaimJoined
import GoSem.ClaimMapViews
import Derived.JoinedTies
import Derived.KernelRfl
namespace Go.Proofs.Ytehopdjfgcnkgaa
/- THE CELL 'sum', in the pinned program and in every row, IS THE sha256 OF THE DUMP (.gsa) THAT YtehopdjfgcnkgaaProg.lean LOADS. Nothing in Lean hashes anything: it is a label: what it is worth is what the hold of that sum in a sandbox is worth. -/
noncomputable def Try.pinned : Pinned := { name := "ytehopdjfgcnkgaa", sum := "6b88ca25c91acb7259b3cf6b011bbb98f94b14fc4e79ac7e9fca8b3268a89edb", checked := Try.checked }
namespace Rows
def none {H : Type} : Left H := { results := [], args := [] }

/-- 'laws.FnExactCone': WHATEVER THE INPUT: true; the input reads as it did. -/
def fnExactConeSpec : ChangeSpec := { name := "fnExactCone", fn := fun _ => fun
  | [d1, d2] => { results := [.lit (.bool true)], args := [d1, d2] }
  | _ => none }
def fnExactConeRow : OpenClaim := { program := "ytehopdjfgcnkgaa", sum := "6b88ca25c91acb7259b3cf6b011bbb98f94b14fc4e79ac7e9fca8b3268a89edb", func := "loop.example/g03311/laws.FnExactCone", spec := "fnExactCone", recurses := true, apart := false }
def FnExactConeSaid : Prop := fnExactConeRow.holds Try.pinned (OpenSpec.ofChange fnExactConeSpec)

/-- ITS FALSE NEIGHBOUR: 'it returns false'. Refute it at one input. -/
def fnExactConeWrong : ChangeSpec := { name := "fnExactCone", fn := fun _ => fun
  | [d1, d2] => { results := [.lit (.bool false)], args := [d1, d2] }
  | _ => none }
def FnExactConeWrongFalsely : Prop := fnExactConeRow.holds Try.pinned (OpenSpec.ofChange fnExactConeWrong)

/-- 'laws.FnExactConjuncts': WHATEVER THE INPUT: true; the input reads as it did. -/
def fnExactConjunctsSpec : ChangeSpec := { name := "fnExactConjuncts", fn := fun _ => fun
  | [d1, d2] => { results := [.lit (.bool true)], args := [d1, d2] }
  | _ => none }
def fnExactConjunctsRow : OpenClaim := { program := "ytehopdjfgcnkgaa", sum := "6b88ca25c91acb7259b3cf6b011bbb98f94b14fc4e79ac7e9fca8b3268a89edb", func := "loop.example/g03311/laws.FnExactConjuncts", spec := "fnExactConjuncts", apart := false }
def FnExactConjunctsSaid : Prop := fnExactConjunctsRow.holds Try.pinned (OpenSpec.ofChange fnExactConjunctsSpec)

/-- ITS FALSE NEIGHBOUR: 'it returns false'. Refute it at one input. -/
def fnExactConjunctsWrong : ChangeSpec := { name := "fnExactConjuncts", fn := fun _ => fun
  | [d1, d2] => { results := [.lit (.bool false)], args := [d1, d2] }
  | _ => none }
def FnExactConjunctsWrongFalsely : Prop := fnExactConjunctsRow.holds Try.pinned (OpenSpec.ofChange fnExactConjunctsWrong)

/-- 'laws.FnExactReached': WHATEVER THE INPUT: true; the input reads as it did. -/
def fnExactReachedSpec : ChangeSpec := { name := "fnExactReached", fn := fun _ => fun
  | [d] => { results := [.lit (.bool true)], args := [d] }
  | _ => none }
def fnExactReachedRow : OpenClaim := { program := "ytehopdjfgcnkgaa", sum := "6b88ca25c91acb7259b3cf6b011bbb98f94b14fc4e79ac7e9fca8b3268a89edb", func := "loop.example/g03311/laws.FnExactReached", spec := "fnExactReached", recurses := true, apart := false }
def FnExactReachedSaid : Prop := fnExactReachedRow.holds Try.pinned (OpenSpec.ofChange fnExactReachedSpec)

/-- ITS FALSE NEIGHBOUR: 'it returns false'. Refute it at one input. -/
def fnExactReachedWrong : ChangeSpec := { name := "fnExactReached", fn := fun _ => fun
  | [d] => { results := [.lit (.bool false)], args := [d] }
  | _ => none }
def FnExactReachedWrongFalsely : Prop := fnExactReachedRow.holds Try.pinned (OpenSpec.ofChange fnExactReachedWrong)

/-- 'laws.FnExactKeptSeqs': WHATEVER THE INPUT: true; the input reads as it did. -/
def fnExactKeptSeqsSpec : ChangeSpec := { name := "fnExactKeptSeqs", fn := fun _ => fun
  | [d] => { results := [.lit (.bool true)], args := [d] }
  | _ => none }
def fnExactKeptSeqsRow : OpenClaim := { program := "ytehopdjfgcnkgaa", sum := "6b88ca25c91acb7259b3cf6b011bbb98f94b14fc4e79ac7e9fca8b3268a89edb", func := "loop.example/g03311/laws.FnExactKeptSeqs", spec := "fnExactKeptSeqs", unfollowed := true, recurses := true, apart := false }
def FnExactKeptSeqsSaid : Prop := fnExactKeptSeqsRow.holds Try.pinned (OpenSpec.ofChange fnExactKeptSeqsSpec)

/-- ITS FALSE NEIGHBOUR: 'it returns false'. Refute it at one input. -/
def fnExactKeptSeqsWrong : ChangeSpec := { name := "fnExactKeptSeqs", fn := fun _ => fun
  | [d] => { results := [.lit (.bool false)], args := [d] }
  | _ => none }
def FnExactKeptSeqsWrongFalsely : Prop := fnExactKeptSeqsRow.holds Try.pinned (OpenSpec.ofChange fnExactKeptSeqsWrong)

/-- 'laws.FnExactNodeValues': WHATEVER THE INPUT: true; the input reads as it did. -/
def fnExactNodeValuesSpec : ChangeSpec := { name := "fnExactNodeValues", fn := fun _ => fun
  | [d1, d2, d3] => { results := [.lit (.bool true)], args := [d1, d2, d3] }
  | _ => none }
def fnExactNodeValuesRow : OpenClaim := { program := "ytehopdjfgcnkgaa", sum := "6b88ca25c91acb7259b3cf6b011bbb98f94b14fc4e79ac7e9fca8b3268a89edb", func := "loop.example/g03311/laws.FnExactNodeValues", spec := "fnExactNodeValues", apart := false }
def FnExactNodeValuesSaid : Prop := fnExactNodeValuesRow.holds Try.pinned (OpenSpec.ofChange fnExactNodeValuesSpec)

/-- ITS FALSE NEIGHBOUR: 'it returns false'. Refute it at one input. -/
def fnExactNodeValuesWrong : ChangeSpec := { name := "fnExactNodeValues", fn := fun _ => fun
  | [d1, d2, d3] => { results := [.lit (.bool false)], args := [d1, d2, d3] }
  | _ => none }
def FnExactNodeValuesWrongFalsely : Prop := fnExactNodeValuesRow.holds Try.pinned (OpenSpec.ofChange fnExactNodeValuesWrong)

/-- 'laws.FnExactCutOk': WHATEVER THE INPUT: true; the input reads as it did. -/
def fnExactCutOkSpec : ChangeSpec := { name := "fnExactCutOk", fn := fun _ => fun
  | [d1, d2, d3] => { results := [.lit (.bool true)], args := [d1, d2, d3] }
  | _ => none }
def fnExactCutOkRow : OpenClaim := { program := "ytehopdjfgcnkgaa", sum := "6b88ca25c91acb7259b3cf6b011bbb98f94b14fc4e79ac7e9fca8b3268a89edb", func := "loop.example/g03311/laws.FnExactCutOk", spec := "fnExactCutOk", recurses := true, apart := false }
def FnExactCutOkSaid : Prop := fnExactCutOkRow.holds Try.pinned (OpenSpec.ofChange fnExactCutOkSpec)

/-- ITS FALSE NEIGHBOUR: 'it returns false'. Refute it at one input. -/
def fnExactCutOkWrong : ChangeSpec := { name := "fnExactCutOk", fn := fun _ => fun
  | [d1, d2, d3] => { results := [.lit (.bool false)], args := [d1, d2, d3] }
  | _ => none }
def FnExactCutOkWrongFalsely : Prop := fnExactCutOkRow.holds Try.pinned (OpenSpec.ofChange fnExactCutOkWrong)

/-- 'laws.FnExactNetStep': WHATEVER THE INPUT: true; the input reads as it did. -/
def fnExactNetStepSpec : ChangeSpec := { name := "fnExactNetStep", fn := fun _ => fun
  | [d1, d2, d3] => { results := [.lit (.bool true)], args := [d1, d2, d3] }
  | _ => none }
def fnExactNetStepRow : OpenClaim := { program := "ytehopdjfgcnkgaa", sum := "6b88ca25c91acb7259b3cf6b011bbb98f94b14fc4e79ac7e9fca8b3268a89edb", func := "loop.example/g03311/laws.FnExactNetStep", spec := "fnExactNetStep", apart := false }
def FnExactNetStepSaid : Prop := fnExactNetStepRow.holds Try.pinned (OpenSpec.ofChange fnExactNetStepSpec)

/-- ITS FALSE NEIGHBOUR: 'it returns false'. Refute it at one input. -/
def fnExactNetStepWrong : ChangeSpec := { name := "fnExactNetStep", fn := fun _ => fun
  | [d1, d2, d3] => { results := [.lit (.bool false)], args := [d1, d2, d3] }
  | _ => none }
def FnExactNetStepWrongFalsely : Prop := fnExactNetStepRow.holds Try.pinned (OpenSpec.ofChange fnExactNetStepWrong)

/-- 'laws.FnExactAddAnd': WHATEVER THE INPUT: true; the input reads as it did. -/
def fnExactAddAndSpec : ChangeSpec := { name := "fnExactAddAnd", fn := fun _ => fun
  | [d1, d2, d3] => { results := [.lit (.bool true)], args := [d1, d2, d3] }
  | _ => none }
def fnExactAddAndRow : OpenClaim := { program := "ytehopdjfgcnkgaa", sum := "6b88ca25c91acb7259b3cf6b011bbb98f94b14fc4e79ac7e9fca8b3268a89edb", func := "loop.example/g03311/laws.FnExactAddAnd", spec := "fnExactAddAnd", unfollowed := true, recurses := true, apart := false }
def FnExactAddAndSaid : Prop := fnExactAddAndRow.holds Try.pinned (OpenSpec.ofChange fnExactAddAndSpec)

/-- ITS FALSE NEIGHBOUR: 'it returns false'. Refute it at one input. -/
def fnExactAddAndWrong : ChangeSpec := { name := "fnExactAddAnd", fn := fun _ => fun
  | [d1, d2, d3] => { results := [.lit (.bool false)], args := [d1, d2, d3] }
  | _ => none }
def FnExactAddAndWrongFalsely : Prop := fnExactAddAndRow.holds Try.pinned (OpenSpec.ofChange fnExactAddAndWrong)

/-- 'laws.FnExactAddOr': WHATEVER THE INPUT: true; the input reads as it did. -/
def fnExactAddOrSpec : ChangeSpec := { name := "fnExactAddOr", fn := fun _ => fun
  | [d1, d2, d3] => { results := [.lit (.bool true)], args := [d1, d2, d3] }
  | _ => none }
def fnExactAddOrRow : OpenClaim := { program := "ytehopdjfgcnkgaa", sum := "6b88ca25c91acb7259b3cf6b011bbb98f94b14fc4e79ac7e9fca8b3268a89edb", func := "loop.example/g03311/laws.FnExactAddOr", spec := "fnExactAddOr", unfollowed := true, recurses := true, apart := false }
def FnExactAddOrSaid : Prop := fnExactAddOrRow.holds Try.pinned (OpenSpec.ofChange fnExactAddOrSpec)

/-- ITS FALSE NEIGHBOUR: 'it returns false'. Refute it at one input. -/
def fnExactAddOrWrong : ChangeSpec := { name := "fnExactAddOr", fn := fun _ => fun
  | [d1, d2, d3] => { results := [.lit (.bool false)], args := [d1, d2, d3] }
  | _ => none }
def FnExactAddOrWrongFalsely : Prop := fnExactAddOrRow.holds Try.pinned (OpenSpec.ofChange fnExactAddOrWrong)

/-- 'laws.FnExactCutTable': WHATEVER THE INPUT: true; the input reads as it did. -/
def fnExactCutTableSpec : ChangeSpec := { name := "fnExactCutTable", fn := fun _ => fun
  | [d1, d2, d3] => { results := [.lit (.bool true)], args := [d1, d2, d3] }
  | _ => none }
def fnExactCutTableRow : OpenClaim := { program := "ytehopdjfgcnkgaa", sum := "6b88ca25c91acb7259b3cf6b011bbb98f94b14fc4e79ac7e9fca8b3268a89edb", func := "loop.example/g03311/laws.FnExactCutTable", spec := "fnExactCutTable", unfollowed := true, recurses := true, apart := false }
def FnExactCutTableSaid : Prop := fnExactCutTableRow.holds Try.pinned (OpenSpec.ofChange fnExactCutTableSpec)

/-- ITS FALSE NEIGHBOUR: 'it returns false'. Refute it at one input. -/
def fnExactCutTableWrong : ChangeSpec := { name := "fnExactCutTable", fn := fun _ => fun
  | [d1, d2, d3] => { results := [.lit (.bool false)], args := [d1, d2, d3] }
  | _ => none }
def FnExactCutTableWrongFalsely : Prop := fnExactCutTableRow.holds Try.pinned (OpenSpec.ofChange fnExactCutTableWrong)

/-- 'laws.FnExactNetRun': WHATEVER THE INPUT: true; the input reads as it did. -/
def fnExactNetRunSpec : ChangeSpec := { name := "fnExactNetRun", fn := fun _ => fun
  | [d1, d2] => { results := [.lit (.bool true)], args := [d1, d2] }
  | _ => none }
def fnExactNetRunRow : OpenClaim := { program := "ytehopdjfgcnkgaa", sum := "6b88ca25c91acb7259b3cf6b011bbb98f94b14fc4e79ac7e9fca8b3268a89edb", func := "loop.example/g03311/laws.FnExactNetRun", spec := "fnExactNetRun", apart := false }
def FnExactNetRunSaid : Prop := fnExactNetRunRow.holds Try.pinned (OpenSpec.ofChange fnExactNetRunSpec)

/-- ITS FALSE NEIGHBOUR: 'it returns false'. Refute it at one input. -/
def fnExactNetRunWrong : ChangeSpec := { name := "fnExactNetRun", fn := fun _ => fun
  | [d1, d2] => { results := [.lit (.bool false)], args := [d1, d2] }
  | _ => none }
def FnExactNetRunWrongFalsely : Prop := fnExactNetRunRow.holds Try.pinned (OpenSpec.ofChange fnExactNetRunWrong)

/-- 'laws.FnPruneRuns': WHATEVER THE INPUT: true; the input reads as it did. -/
def fnPruneRunsSpec : ChangeSpec := { name := "fnPruneRuns", fn := fun _ => fun
  | [d] => { results := [.lit (.bool true)], args := [d] }
  | _ => none }
def fnPruneRunsRow : OpenClaim := { program := "ytehopdjfgcnkgaa", sum := "6b88ca25c91acb7259b3cf6b011bbb98f94b14fc4e79ac7e9fca8b3268a89edb", func := "loop.example/g03311/laws.FnPruneRuns", spec := "fnPruneRuns", unfollowed := true, recurses := true, apart := false }
def FnPruneRunsSaid : Prop := fnPruneRunsRow.holds Try.pinned (OpenSpec.ofChange fnPruneRunsSpec)

/-- ITS FALSE NEIGHBOUR: 'it returns false'. Refute it at one input. -/
def fnPruneRunsWrong : ChangeSpec := { name := "fnPruneRuns", fn := fun _ => fun
  | [d] => { results := [.lit (.bool false)], args := [d] }
  | _ => none }
def FnPruneRunsWrongFalsely : Prop := fnPruneRunsRow.holds Try.pinned (OpenSpec.ofChange fnPruneRunsWrong)

/- THE SECOND FORM. 'bulk': how many values and letters a reading holds, each counted each time it is reached (what is shared counts as often as it is met; a slice's spare places count too). A statement '..UptoSaid' is the law's where the arguments, and the package variables that the reading takes, are together of bulk at most 1048576: NARROWER than '..Said'. Prove '..Said' where nothing that the law and all that it calls make is longer than what came in: it says more and counts as full. Else prove '..UptoSaid'. A law counts once. -/
mutual
def uptoBulk {H : Type} : DataW H → Nat
  | .lit (.string bytes) => bytes.length + 1
  | .lit _ => 1
  | .nil => 1
  | .ptr d => uptoBulk d + 1
  | .slice elems spare => uptoBulkAll elems + uptoBulkAll spare + 1
  | .agg parts => uptoBulkAll parts + 1
  | .iface _ d => uptoBulk d + 1
  | .map entries => uptoBulkEntries entries + 1
  | .held _ => 1
def uptoBulkAll {H : Type} : List (DataW H) → Nat
  | [] => 0
  | d :: r => uptoBulk d + uptoBulkAll r
def uptoBulkEntries {H : Type} : List (Lit × DataW H) → Nat
  | [] => 0
  | x :: r => uptoBulkEntry x + uptoBulkEntries r
def uptoBulkEntry {H : Type} : Lit × DataW H → Nat
  | (.string bytes, d) => bytes.length + uptoBulk d + 1
  | (_, d) => uptoBulk d + 1
 end
def uptoSmall : (H : Type) → List (DataW H) → Bool := fun _ ds => decide (uptoBulkAll ds ≤ 1048576)
def OpenSpec.upto (s : _root_.Go.ChangeSpec) : _root_.Go.OpenSpec := { _root_.Go.OpenSpec.ofChange s with cond := some uptoSmall }

/-- 'laws.FnExactCone', WHERE WHAT IT READS IS OF BULK AT MOST 1048576: true; the input reads as it did. -/
def fnExactConeUptoRow : OpenClaim := { program := "ytehopdjfgcnkgaa", sum := "6b88ca25c91acb7259b3cf6b011bbb98f94b14fc4e79ac7e9fca8b3268a89edb", func := "loop.example/g03311/laws.FnExactCone", spec := "fnExactCone", recurses := true, apart := false, narrowed := true }
def FnExactConeUptoSaid : Prop := fnExactConeUptoRow.holds Try.pinned (OpenSpec.upto fnExactConeSpec)

/-- 'laws.FnExactConjuncts', WHERE WHAT IT READS IS OF BULK AT MOST 1048576: true; the input reads as it did. -/
def fnExactConjunctsUptoRow : OpenClaim := { program := "ytehopdjfgcnkgaa", sum := "6b88ca25c91acb7259b3cf6b011bbb98f94b14fc4e79ac7e9fca8b3268a89edb", func := "loop.example/g03311/laws.FnExactConjuncts", spec := "fnExactConjuncts", apart := false, narrowed := true }
def FnExactConjunctsUptoSaid : Prop := fnExactConjunctsUptoRow.holds Try.pinned (OpenSpec.upto fnExactConjunctsSpec)

/-- 'laws.FnExactReached', WHERE WHAT IT READS IS OF BULK AT MOST 1048576: true; the input reads as it did. -/
def fnExactReachedUptoRow : OpenClaim := { program := "ytehopdjfgcnkgaa", sum := "6b88ca25c91acb7259b3cf6b011bbb98f94b14fc4e79ac7e9fca8b3268a89edb", func := "loop.example/g03311/laws.FnExactReached", spec := "fnExactReached", recurses := true, apart := false, narrowed := true }
def FnExactReachedUptoSaid : Prop := fnExactReachedUptoRow.holds Try.pinned (OpenSpec.upto fnExactReachedSpec)

/-- 'laws.FnExactKeptSeqs', WHERE WHAT IT READS IS OF BULK AT MOST 1048576: true; the input reads as it did. -/
def fnExactKeptSeqsUptoRow : OpenClaim := { program := "ytehopdjfgcnkgaa", sum := "6b88ca25c91acb7259b3cf6b011bbb98f94b14fc4e79ac7e9fca8b3268a89edb", func := "loop.example/g03311/laws.FnExactKeptSeqs", spec := "fnExactKeptSeqs", unfollowed := true, recurses := true, apart := false, narrowed := true }
def FnExactKeptSeqsUptoSaid : Prop := fnExactKeptSeqsUptoRow.holds Try.pinned (OpenSpec.upto fnExactKeptSeqsSpec)

/-- 'laws.FnExactNodeValues', WHERE WHAT IT READS IS OF BULK AT MOST 1048576: true; the input reads as it did. -/
def fnExactNodeValuesUptoRow : OpenClaim := { program := "ytehopdjfgcnkgaa", sum := "6b88ca25c91acb7259b3cf6b011bbb98f94b14fc4e79ac7e9fca8b3268a89edb", func := "loop.example/g03311/laws.FnExactNodeValues", spec := "fnExactNodeValues", apart := false, narrowed := true }
def FnExactNodeValuesUptoSaid : Prop := fnExactNodeValuesUptoRow.holds Try.pinned (OpenSpec.upto fnExactNodeValuesSpec)

/-- 'laws.FnExactCutOk', WHERE WHAT IT READS IS OF BULK AT MOST 1048576: true; the input reads as it did. -/
def fnExactCutOkUptoRow : OpenClaim := { program := "ytehopdjfgcnkgaa", sum := "6b88ca25c91acb7259b3cf6b011bbb98f94b14fc4e79ac7e9fca8b3268a89edb", func := "loop.example/g03311/laws.FnExactCutOk", spec := "fnExactCutOk", recurses := true, apart := false, narrowed := true }
def FnExactCutOkUptoSaid : Prop := fnExactCutOkUptoRow.holds Try.pinned (OpenSpec.upto fnExactCutOkSpec)

/-- 'laws.FnExactNetStep', WHERE WHAT IT READS IS OF BULK AT MOST 1048576: true; the input reads as it did. -/
def fnExactNetStepUptoRow : OpenClaim := { program := "ytehopdjfgcnkgaa", sum := "6b88ca25c91acb7259b3cf6b011bbb98f94b14fc4e79ac7e9fca8b3268a89edb", func := "loop.example/g03311/laws.FnExactNetStep", spec := "fnExactNetStep", apart := false, narrowed := true }
def FnExactNetStepUptoSaid : Prop := fnExactNetStepUptoRow.holds Try.pinned (OpenSpec.upto fnExactNetStepSpec)

/-- 'laws.FnExactAddAnd', WHERE WHAT IT READS IS OF BULK AT MOST 1048576: true; the input reads as it did. -/
def fnExactAddAndUptoRow : OpenClaim := { program := "ytehopdjfgcnkgaa", sum := "6b88ca25c91acb7259b3cf6b011bbb98f94b14fc4e79ac7e9fca8b3268a89edb", func := "loop.example/g03311/laws.FnExactAddAnd", spec := "fnExactAddAnd", unfollowed := true, recurses := true, apart := false, narrowed := true }
def FnExactAddAndUptoSaid : Prop := fnExactAddAndUptoRow.holds Try.pinned (OpenSpec.upto fnExactAddAndSpec)

/-- 'laws.FnExactAddOr', WHERE WHAT IT READS IS OF BULK AT MOST 1048576: true; the input reads as it did. -/
def fnExactAddOrUptoRow : OpenClaim := { program := "ytehopdjfgcnkgaa", sum := "6b88ca25c91acb7259b3cf6b011bbb98f94b14fc4e79ac7e9fca8b3268a89edb", func := "loop.example/g03311/laws.FnExactAddOr", spec := "fnExactAddOr", unfollowed := true, recurses := true, apart := false, narrowed := true }
def FnExactAddOrUptoSaid : Prop := fnExactAddOrUptoRow.holds Try.pinned (OpenSpec.upto fnExactAddOrSpec)

/-- 'laws.FnExactCutTable', WHERE WHAT IT READS IS OF BULK AT MOST 1048576: true; the input reads as it did. -/
def fnExactCutTableUptoRow : OpenClaim := { program := "ytehopdjfgcnkgaa", sum := "6b88ca25c91acb7259b3cf6b011bbb98f94b14fc4e79ac7e9fca8b3268a89edb", func := "loop.example/g03311/laws.FnExactCutTable", spec := "fnExactCutTable", unfollowed := true, recurses := true, apart := false, narrowed := true }
def FnExactCutTableUptoSaid : Prop := fnExactCutTableUptoRow.holds Try.pinned (OpenSpec.upto fnExactCutTableSpec)

/-- 'laws.FnExactNetRun', WHERE WHAT IT READS IS OF BULK AT MOST 1048576: true; the input reads as it did. -/
def fnExactNetRunUptoRow : OpenClaim := { program := "ytehopdjfgcnkgaa", sum := "6b88ca25c91acb7259b3cf6b011bbb98f94b14fc4e79ac7e9fca8b3268a89edb", func := "loop.example/g03311/laws.FnExactNetRun", spec := "fnExactNetRun", apart := false, narrowed := true }
def FnExactNetRunUptoSaid : Prop := fnExactNetRunUptoRow.holds Try.pinned (OpenSpec.upto fnExactNetRunSpec)

/-- 'laws.FnPruneRuns', WHERE WHAT IT READS IS OF BULK AT MOST 1048576: true; the input reads as it did. -/
def fnPruneRunsUptoRow : OpenClaim := { program := "ytehopdjfgcnkgaa", sum := "6b88ca25c91acb7259b3cf6b011bbb98f94b14fc4e79ac7e9fca8b3268a89edb", func := "loop.example/g03311/laws.FnPruneRuns", spec := "fnPruneRuns", unfollowed := true, recurses := true, apart := false, narrowed := true }
def FnPruneRunsUptoSaid : Prop := fnPruneRunsUptoRow.holds Try.pinned (OpenSpec.upto fnPruneRunsSpec)

end Rows
end Go.Proofs.Ytehopdjfgcnkgaa
