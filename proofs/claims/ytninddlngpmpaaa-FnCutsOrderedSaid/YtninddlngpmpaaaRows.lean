/-
  No cell of these rows narrows 'for every input' (looked for: loops, veiled, ifaces, maps, wideKeys, modest, calm, conditions, laid).
  DERIVED. THE GIVEN ROWS OF THIS SEAT. 12 by the template 'for every input the law returns true; each argument reads behind the call as it read before'; 0 by the template 'total and deterministic' (their statements: YtninddlngpmpaaaTotals.lean).
  GIVEN WITH THE SEED: the statements are not yours to turn. If you find one false, say at which input.
  Laid BY PROGRAM, IN A SANDBOX (cutbox-rows.mjs): the forced cells as the released guide's own fill.sh prints them over the translation a9abad71d34327ef… (all of the seat's roots in one cut). By AI agents, Wed Nov 11 2026. No macro, syntax, notation, axiom, sorry.
-/
import Derived.Test.YtninddlngpmpaaaChecked
import GoSem.Claim
import GoSem.ClaimJoined
import GoSem.ClaimMapViews
import Derived.JoinedTies
import Derived.KernelRfl
namespace Go.Proofs.Ytninddlngpmpaaa
/- THE CELL 'sum', in the pinned program and in every row, IS THE sha256 OF THE DUMP (.gsa) THAT YtninddlngpmpaaaProg.lean LOADS. Nothing in Lean hashes anything: it is a label: what it is worth is what the hold of that sum in a sandbox is worth. -/
noncomputable def Try.pinned : Pinned := { name := "ytninddlngpmpaaa", sum := "a9abad71d34327ef853494c712dc288e0ef9610d373ef01b200307bb66088888", checked := Try.checked }
namespace Rows
def none {H : Type} : Left H := { results := [], args := [] }

/-- 'laws.FnPackRound': WHATEVER THE INPUT: true; the input reads as it did. -/
def fnPackRoundSpec : ChangeSpec := { name := "fnPackRound", fn := fun _ => fun
  | [d] => { results := [.lit (.bool true)], args := [d] }
  | _ => none }
def fnPackRoundRow : OpenClaim := { program := "ytninddlngpmpaaa", sum := "a9abad71d34327ef853494c712dc288e0ef9610d373ef01b200307bb66088888", func := "loop.example/g03311/laws.FnPackRound", spec := "fnPackRound", plainKeys := false, apart := false }
def FnPackRoundSaid : Prop := fnPackRoundRow.holds Try.pinned (OpenSpec.ofChange fnPackRoundSpec)

/-- ITS FALSE NEIGHBOUR: 'it returns false'. Refute it at one input. -/
def fnPackRoundWrong : ChangeSpec := { name := "fnPackRound", fn := fun _ => fun
  | [d] => { results := [.lit (.bool false)], args := [d] }
  | _ => none }
def FnPackRoundWrongFalsely : Prop := fnPackRoundRow.holds Try.pinned (OpenSpec.ofChange fnPackRoundWrong)

/-- 'laws.FnLabelCut': WHATEVER THE INPUT: true; the input reads as it did. -/
def fnLabelCutSpec : ChangeSpec := { name := "fnLabelCut", fn := fun _ => fun
  | [d] => { results := [.lit (.bool true)], args := [d] }
  | _ => none }
def fnLabelCutRow : OpenClaim := { program := "ytninddlngpmpaaa", sum := "a9abad71d34327ef853494c712dc288e0ef9610d373ef01b200307bb66088888", func := "loop.example/g03311/laws.FnLabelCut", spec := "fnLabelCut", unfollowed := true, recurses := true, plainKeys := false, apart := false }
def FnLabelCutSaid : Prop := fnLabelCutRow.holds Try.pinned (OpenSpec.ofChange fnLabelCutSpec)

/-- ITS FALSE NEIGHBOUR: 'it returns false'. Refute it at one input. -/
def fnLabelCutWrong : ChangeSpec := { name := "fnLabelCut", fn := fun _ => fun
  | [d] => { results := [.lit (.bool false)], args := [d] }
  | _ => none }
def FnLabelCutWrongFalsely : Prop := fnLabelCutRow.holds Try.pinned (OpenSpec.ofChange fnLabelCutWrong)

/-- 'laws.FnNetSteps': WHATEVER THE INPUT: true; the input reads as it did. -/
def fnNetStepsSpec : ChangeSpec := { name := "fnNetSteps", fn := fun _ => fun
  | [d] => { results := [.lit (.bool true)], args := [d] }
  | _ => none }
def fnNetStepsRow : OpenClaim := { program := "ytninddlngpmpaaa", sum := "a9abad71d34327ef853494c712dc288e0ef9610d373ef01b200307bb66088888", func := "loop.example/g03311/laws.FnNetSteps", spec := "fnNetSteps", plainKeys := false, apart := false }
def FnNetStepsSaid : Prop := fnNetStepsRow.holds Try.pinned (OpenSpec.ofChange fnNetStepsSpec)

/-- ITS FALSE NEIGHBOUR: 'it returns false'. Refute it at one input. -/
def fnNetStepsWrong : ChangeSpec := { name := "fnNetSteps", fn := fun _ => fun
  | [d] => { results := [.lit (.bool false)], args := [d] }
  | _ => none }
def FnNetStepsWrongFalsely : Prop := fnNetStepsRow.holds Try.pinned (OpenSpec.ofChange fnNetStepsWrong)

/-- 'laws.FnCutsOrdered': WHATEVER THE INPUT: true; the input reads as it did. -/
def fnCutsOrderedSpec : ChangeSpec := { name := "fnCutsOrdered", fn := fun _ => fun
  | [d] => { results := [.lit (.bool true)], args := [d] }
  | _ => none }
def fnCutsOrderedRow : OpenClaim := { program := "ytninddlngpmpaaa", sum := "a9abad71d34327ef853494c712dc288e0ef9610d373ef01b200307bb66088888", func := "loop.example/g03311/laws.FnCutsOrdered", spec := "fnCutsOrdered", plainKeys := false, apart := false }
def FnCutsOrderedSaid : Prop := fnCutsOrderedRow.holds Try.pinned (OpenSpec.ofChange fnCutsOrderedSpec)

/-- ITS FALSE NEIGHBOUR: 'it returns false'. Refute it at one input. -/
def fnCutsOrderedWrong : ChangeSpec := { name := "fnCutsOrdered", fn := fun _ => fun
  | [d] => { results := [.lit (.bool false)], args := [d] }
  | _ => none }
def FnCutsOrderedWrongFalsely : Prop := fnCutsOrderedRow.holds Try.pinned (OpenSpec.ofChange fnCutsOrderedWrong)

/-- 'laws.FnExactClassesOk': WHATEVER THE INPUT: true; the input reads as it did. -/
def fnExactClassesOkSpec : ChangeSpec := { name := "fnExactClassesOk", fn := fun _ => fun
  | [d1, d2] => { results := [.lit (.bool true)], args := [d1, d2] }
  | _ => none }
def fnExactClassesOkRow : OpenClaim := { program := "ytninddlngpmpaaa", sum := "a9abad71d34327ef853494c712dc288e0ef9610d373ef01b200307bb66088888", func := "loop.example/g03311/laws.FnExactClassesOk", spec := "fnExactClassesOk", plainKeys := false, apart := false }
def FnExactClassesOkSaid : Prop := fnExactClassesOkRow.holds Try.pinned (OpenSpec.ofChange fnExactClassesOkSpec)

/-- ITS FALSE NEIGHBOUR: 'it returns false'. Refute it at one input. -/
def fnExactClassesOkWrong : ChangeSpec := { name := "fnExactClassesOk", fn := fun _ => fun
  | [d1, d2] => { results := [.lit (.bool false)], args := [d1, d2] }
  | _ => none }
def FnExactClassesOkWrongFalsely : Prop := fnExactClassesOkRow.holds Try.pinned (OpenSpec.ofChange fnExactClassesOkWrong)

/-- 'laws.FnHashAgain': WHATEVER THE INPUT: true; the input reads as it did. -/
def fnHashAgainSpec : ChangeSpec := { name := "fnHashAgain", fn := fun _ => fun
  | [d] => { results := [.lit (.bool true)], args := [d] }
  | _ => none }
def fnHashAgainRow : OpenClaim := { program := "ytninddlngpmpaaa", sum := "a9abad71d34327ef853494c712dc288e0ef9610d373ef01b200307bb66088888", func := "loop.example/g03311/laws.FnHashAgain", spec := "fnHashAgain", recurses := true, plainKeys := false, apart := false }
def FnHashAgainSaid : Prop := fnHashAgainRow.holds Try.pinned (OpenSpec.ofChange fnHashAgainSpec)

/-- ITS FALSE NEIGHBOUR: 'it returns false'. Refute it at one input. -/
def fnHashAgainWrong : ChangeSpec := { name := "fnHashAgain", fn := fun _ => fun
  | [d] => { results := [.lit (.bool false)], args := [d] }
  | _ => none }
def FnHashAgainWrongFalsely : Prop := fnHashAgainRow.holds Try.pinned (OpenSpec.ofChange fnHashAgainWrong)

/-- 'laws.FnExactDepth': WHATEVER THE INPUT: true; the input reads as it did. -/
def fnExactDepthSpec : ChangeSpec := { name := "fnExactDepth", fn := fun _ => fun
  | [d] => { results := [.lit (.bool true)], args := [d] }
  | _ => none }
def fnExactDepthRow : OpenClaim := { program := "ytninddlngpmpaaa", sum := "a9abad71d34327ef853494c712dc288e0ef9610d373ef01b200307bb66088888", func := "loop.example/g03311/laws.FnExactDepth", spec := "fnExactDepth", plainKeys := false, apart := false }
def FnExactDepthSaid : Prop := fnExactDepthRow.holds Try.pinned (OpenSpec.ofChange fnExactDepthSpec)

/-- ITS FALSE NEIGHBOUR: 'it returns false'. Refute it at one input. -/
def fnExactDepthWrong : ChangeSpec := { name := "fnExactDepth", fn := fun _ => fun
  | [d] => { results := [.lit (.bool false)], args := [d] }
  | _ => none }
def FnExactDepthWrongFalsely : Prop := fnExactDepthRow.holds Try.pinned (OpenSpec.ofChange fnExactDepthWrong)

/-- 'laws.FnExactStateOk': WHATEVER THE INPUT: true; the input reads as it did. -/
def fnExactStateOkSpec : ChangeSpec := { name := "fnExactStateOk", fn := fun _ => fun
  | [d1, d2] => { results := [.lit (.bool true)], args := [d1, d2] }
  | _ => none }
def fnExactStateOkRow : OpenClaim := { program := "ytninddlngpmpaaa", sum := "a9abad71d34327ef853494c712dc288e0ef9610d373ef01b200307bb66088888", func := "loop.example/g03311/laws.FnExactStateOk", spec := "fnExactStateOk", plainKeys := false, apart := false }
def FnExactStateOkSaid : Prop := fnExactStateOkRow.holds Try.pinned (OpenSpec.ofChange fnExactStateOkSpec)

/-- ITS FALSE NEIGHBOUR: 'it returns false'. Refute it at one input. -/
def fnExactStateOkWrong : ChangeSpec := { name := "fnExactStateOk", fn := fun _ => fun
  | [d1, d2] => { results := [.lit (.bool false)], args := [d1, d2] }
  | _ => none }
def FnExactStateOkWrongFalsely : Prop := fnExactStateOkRow.holds Try.pinned (OpenSpec.ofChange fnExactStateOkWrong)

/-- 'laws.FnExactRoots': WHATEVER THE INPUT: true; the input reads as it did. -/
def fnExactRootsSpec : ChangeSpec := { name := "fnExactRoots", fn := fun _ => fun
  | [d] => { results := [.lit (.bool true)], args := [d] }
  | _ => none }
def fnExactRootsRow : OpenClaim := { program := "ytninddlngpmpaaa", sum := "a9abad71d34327ef853494c712dc288e0ef9610d373ef01b200307bb66088888", func := "loop.example/g03311/laws.FnExactRoots", spec := "fnExactRoots", plainKeys := false, apart := false }
def FnExactRootsSaid : Prop := fnExactRootsRow.holds Try.pinned (OpenSpec.ofChange fnExactRootsSpec)

/-- ITS FALSE NEIGHBOUR: 'it returns false'. Refute it at one input. -/
def fnExactRootsWrong : ChangeSpec := { name := "fnExactRoots", fn := fun _ => fun
  | [d] => { results := [.lit (.bool false)], args := [d] }
  | _ => none }
def FnExactRootsWrongFalsely : Prop := fnExactRootsRow.holds Try.pinned (OpenSpec.ofChange fnExactRootsWrong)

/-- 'laws.FnExactLevels': WHATEVER THE INPUT: true; the input reads as it did. -/
def fnExactLevelsSpec : ChangeSpec := { name := "fnExactLevels", fn := fun _ => fun
  | [d] => { results := [.lit (.bool true)], args := [d] }
  | _ => none }
def fnExactLevelsRow : OpenClaim := { program := "ytninddlngpmpaaa", sum := "a9abad71d34327ef853494c712dc288e0ef9610d373ef01b200307bb66088888", func := "loop.example/g03311/laws.FnExactLevels", spec := "fnExactLevels", plainKeys := false, apart := false }
def FnExactLevelsSaid : Prop := fnExactLevelsRow.holds Try.pinned (OpenSpec.ofChange fnExactLevelsSpec)

/-- ITS FALSE NEIGHBOUR: 'it returns false'. Refute it at one input. -/
def fnExactLevelsWrong : ChangeSpec := { name := "fnExactLevels", fn := fun _ => fun
  | [d] => { results := [.lit (.bool false)], args := [d] }
  | _ => none }
def FnExactLevelsWrongFalsely : Prop := fnExactLevelsRow.holds Try.pinned (OpenSpec.ofChange fnExactLevelsWrong)

/-- 'laws.FnExactNetStart': WHATEVER THE INPUT: true; the input reads as it did. -/
def fnExactNetStartSpec : ChangeSpec := { name := "fnExactNetStart", fn := fun _ => fun
  | [d] => { results := [.lit (.bool true)], args := [d] }
  | _ => none }
def fnExactNetStartRow : OpenClaim := { program := "ytninddlngpmpaaa", sum := "a9abad71d34327ef853494c712dc288e0ef9610d373ef01b200307bb66088888", func := "loop.example/g03311/laws.FnExactNetStart", spec := "fnExactNetStart", plainKeys := false, apart := false }
def FnExactNetStartSaid : Prop := fnExactNetStartRow.holds Try.pinned (OpenSpec.ofChange fnExactNetStartSpec)

/-- ITS FALSE NEIGHBOUR: 'it returns false'. Refute it at one input. -/
def fnExactNetStartWrong : ChangeSpec := { name := "fnExactNetStart", fn := fun _ => fun
  | [d] => { results := [.lit (.bool false)], args := [d] }
  | _ => none }
def FnExactNetStartWrongFalsely : Prop := fnExactNetStartRow.holds Try.pinned (OpenSpec.ofChange fnExactNetStartWrong)

/-- 'laws.FnExactIsHashed': WHATEVER THE INPUT: true; the input reads as it did. -/
def fnExactIsHashedSpec : ChangeSpec := { name := "fnExactIsHashed", fn := fun _ => fun
  | [d] => { results := [.lit (.bool true)], args := [d] }
  | _ => none }
def fnExactIsHashedRow : OpenClaim := { program := "ytninddlngpmpaaa", sum := "a9abad71d34327ef853494c712dc288e0ef9610d373ef01b200307bb66088888", func := "loop.example/g03311/laws.FnExactIsHashed", spec := "fnExactIsHashed", recurses := true, plainKeys := false, apart := false }
def FnExactIsHashedSaid : Prop := fnExactIsHashedRow.holds Try.pinned (OpenSpec.ofChange fnExactIsHashedSpec)

/-- ITS FALSE NEIGHBOUR: 'it returns false'. Refute it at one input. -/
def fnExactIsHashedWrong : ChangeSpec := { name := "fnExactIsHashed", fn := fun _ => fun
  | [d] => { results := [.lit (.bool false)], args := [d] }
  | _ => none }
def FnExactIsHashedWrongFalsely : Prop := fnExactIsHashedRow.holds Try.pinned (OpenSpec.ofChange fnExactIsHashedWrong)

/- THE SECOND FORM. 'bulk': how many values and letters a reading holds, each counted each time it is reached (what is shared counts as often as it is met; a slice's spare places count too). A statement '..UptoSaid' is the law's where the arguments, and the package variables that the reading takes, are together of bulk at most 1048576: NARROWER than '..Said'. Prove '..Said' where nothing that the law and all that it calls make is longer than what came in: it says more and counts as full. Else prove '..UptoSaid'. A law counts once. -/
mutual
def uptoBulk {H : Type} : DataW H → Nat
  | .lit (.string bytes) => bytes.length + 1
  | .lit _ => 1
  | .nil => 1
  | .ptr d => uptoBulk d + 1
  | .slice elems spare => uptoBulkAll elems + uptoBulkAll spare + 1
  | .agg parts => uptoBulkAll parts + 1
  | .iface _ d => uptoBulk d + 1
  | .map entries => uptoBulkEntries entries + 1
  | .held _ => 1
def uptoBulkAll {H : Type} : List (DataW H) → Nat
  | [] => 0
  | d :: r => uptoBulk d + uptoBulkAll r
def uptoBulkEntries {H : Type} : List (Lit × DataW H) → Nat
  | [] => 0
  | x :: r => uptoBulkEntry x + uptoBulkEntries r
def uptoBulkEntry {H : Type} : Lit × DataW H → Nat
  | (.string bytes, d) => bytes.length + uptoBulk d + 1
  | (_, d) => uptoBulk d + 1
 end
def uptoSmall : (H : Type) → List (DataW H) → Bool := fun _ ds => decide (uptoBulkAll ds ≤ 1048576)
def OpenSpec.upto (s : _root_.Go.ChangeSpec) : _root_.Go.OpenSpec := { _root_.Go.OpenSpec.ofChange s with cond := some uptoSmall }

/-- 'laws.FnPackRound', WHERE WHAT IT READS IS OF BULK AT MOST 1048576: true; the input reads as it did. -/
def fnPackRoundUptoRow : OpenClaim := { program := "ytninddlngpmpaaa", sum := "a9abad71d34327ef853494c712dc288e0ef9610d373ef01b200307bb66088888", func := "loop.example/g03311/laws.FnPackRound", spec := "fnPackRound", plainKeys := false, apart := false, narrowed := true }
def FnPackRoundUptoSaid : Prop := fnPackRoundUptoRow.holds Try.pinned (OpenSpec.upto fnPackRoundSpec)

/-- 'laws.FnLabelCut', WHERE WHAT IT READS IS OF BULK AT MOST 1048576: true; the input reads as it did. -/
def fnLabelCutUptoRow : OpenClaim := { program := "ytninddlngpmpaaa", sum := "a9abad71d34327ef853494c712dc288e0ef9610d373ef01b200307bb66088888", func := "loop.example/g03311/laws.FnLabelCut", spec := "fnLabelCut", unfollowed := true, recurses := true, plainKeys := false, apart := false, narrowed := true }
def FnLabelCutUptoSaid : Prop := fnLabelCutUptoRow.holds Try.pinned (OpenSpec.upto fnLabelCutSpec)

/-- 'laws.FnNetSteps', WHERE WHAT IT READS IS OF BULK AT MOST 1048576: true; the input reads as it did. -/
def fnNetStepsUptoRow : OpenClaim := { program := "ytninddlngpmpaaa", sum := "a9abad71d34327ef853494c712dc288e0ef9610d373ef01b200307bb66088888", func := "loop.example/g03311/laws.FnNetSteps", spec := "fnNetSteps", plainKeys := false, apart := false, narrowed := true }
def FnNetStepsUptoSaid : Prop := fnNetStepsUptoRow.holds Try.pinned (OpenSpec.upto fnNetStepsSpec)

/-- 'laws.FnCutsOrdered', WHERE WHAT IT READS IS OF BULK AT MOST 1048576: true; the input reads as it did. -/
def fnCutsOrderedUptoRow : OpenClaim := { program := "ytninddlngpmpaaa", sum := "a9abad71d34327ef853494c712dc288e0ef9610d373ef01b200307bb66088888", func := "loop.example/g03311/laws.FnCutsOrdered", spec := "fnCutsOrdered", plainKeys := false, apart := false, narrowed := true }
def FnCutsOrderedUptoSaid : Prop := fnCutsOrderedUptoRow.holds Try.pinned (OpenSpec.upto fnCutsOrderedSpec)

/-- 'laws.FnExactClassesOk', WHERE WHAT IT READS IS OF BULK AT MOST 1048576: true; the input reads as it did. -/
def fnExactClassesOkUptoRow : OpenClaim := { program := "ytninddlngpmpaaa", sum := "a9abad71d34327ef853494c712dc288e0ef9610d373ef01b200307bb66088888", func := "loop.example/g03311/laws.FnExactClassesOk", spec := "fnExactClassesOk", plainKeys := false, apart := false, narrowed := true }
def FnExactClassesOkUptoSaid : Prop := fnExactClassesOkUptoRow.holds Try.pinned (OpenSpec.upto fnExactClassesOkSpec)

/-- 'laws.FnHashAgain', WHERE WHAT IT READS IS OF BULK AT MOST 1048576: true; the input reads as it did. -/
def fnHashAgainUptoRow : OpenClaim := { program := "ytninddlngpmpaaa", sum := "a9abad71d34327ef853494c712dc288e0ef9610d373ef01b200307bb66088888", func := "loop.example/g03311/laws.FnHashAgain", spec := "fnHashAgain", recurses := true, plainKeys := false, apart := false, narrowed := true }
def FnHashAgainUptoSaid : Prop := fnHashAgainUptoRow.holds Try.pinned (OpenSpec.upto fnHashAgainSpec)

/-- 'laws.FnExactDepth', WHERE WHAT IT READS IS OF BULK AT MOST 1048576: true; the input reads as it did. -/
def fnExactDepthUptoRow : OpenClaim := { program := "ytninddlngpmpaaa", sum := "a9abad71d34327ef853494c712dc288e0ef9610d373ef01b200307bb66088888", func := "loop.example/g03311/laws.FnExactDepth", spec := "fnExactDepth", plainKeys := false, apart := false, narrowed := true }
def FnExactDepthUptoSaid : Prop := fnExactDepthUptoRow.holds Try.pinned (OpenSpec.upto fnExactDepthSpec)

/-- 'laws.FnExactStateOk', WHERE WHAT IT READS IS OF BULK AT MOST 1048576: true; the input reads as it did. -/
def fnExactStateOkUptoRow : OpenClaim := { program := "ytninddlngpmpaaa", sum := "a9abad71d34327ef853494c712dc288e0ef9610d373ef01b200307bb66088888", func := "loop.example/g03311/laws.FnExactStateOk", spec := "fnExactStateOk", plainKeys := false, apart := false, narrowed := true }
def FnExactStateOkUptoSaid : Prop := fnExactStateOkUptoRow.holds Try.pinned (OpenSpec.upto fnExactStateOkSpec)

/-- 'laws.FnExactRoots', WHERE WHAT IT READS IS OF BULK AT MOST 1048576: true; the input reads as it did. -/
def fnExactRootsUptoRow : OpenClaim := { program := "ytninddlngpmpaaa", sum := "a9abad71d34327ef853494c712dc288e0ef9610d373ef01b200307bb66088888", func := "loop.example/g03311/laws.FnExactRoots", spec := "fnExactRoots", plainKeys := false, apart := false, narrowed := true }
def FnExactRootsUptoSaid : Prop := fnExactRootsUptoRow.holds Try.pinned (OpenSpec.upto fnExactRootsSpec)

/-- 'laws.FnExactLevels', WHERE WHAT IT READS IS OF BULK AT MOST 1048576: true; the input reads as it did. -/
def fnExactLevelsUptoRow : OpenClaim := { program := "ytninddlngpmpaaa", sum := "a9abad71d34327ef853494c712dc288e0ef9610d373ef01b200307bb66088888", func := "loop.example/g03311/laws.FnExactLevels", spec := "fnExactLevels", plainKeys := false, apart := false, narrowed := true }
def FnExactLevelsUptoSaid : Prop := fnExactLevelsUptoRow.holds Try.pinned (OpenSpec.upto fnExactLevelsSpec)

/-- 'laws.FnExactNetStart', WHERE WHAT IT READS IS OF BULK AT MOST 1048576: true; the input reads as it did. -/
def fnExactNetStartUptoRow : OpenClaim := { program := "ytninddlngpmpaaa", sum := "a9abad71d34327ef853494c712dc288e0ef9610d373ef01b200307bb66088888", func := "loop.example/g03311/laws.FnExactNetStart", spec := "fnExactNetStart", plainKeys := false, apart := false, narrowed := true }
def FnExactNetStartUptoSaid : Prop := fnExactNetStartUptoRow.holds Try.pinned (OpenSpec.upto fnExactNetStartSpec)

/-- 'laws.FnExactIsHashed', WHERE WHAT IT READS IS OF BULK AT MOST 1048576: true; the input reads as it did. -/
def fnExactIsHashedUptoRow : OpenClaim := { program := "ytninddlngpmpaaa", sum := "a9abad71d34327ef853494c712dc288e0ef9610d373ef01b200307bb66088888", func := "loop.example/g03311/laws.FnExactIsHashed", spec := "fnExactIsHashed", recurses := true, plainKeys := false, apart := false, narrowed := true }
def FnExactIsHashedUptoSaid : Prop := fnExactIsHashedUptoRow.holds Try.pinned (OpenSpec.upto fnExactIsHashedSpec)

end Rows
end Go.Proofs.Ytninddlngpmpaaa
