/-
  No cell of these rows narrows 'for every input' (looked for: loops, veiled, ifaces, maps, wideKeys, modest, calm, conditions, laid).
  DERIVED. THE GIVEN ROWS OF THIS SEAT. 12 by the template 'for every input the law returns true; each argument reads behind the call as it read before'; 0 by the template 'total and deterministic' (their statements: YtfcafmbcmdeomaaTotals.lean).
  GIVEN WITH THE SEED: the statements are not yours to turn. If you find one false, say at which input.
  Laid BY PROGRAM, IN A SANDBOX (cutbox-rows.mjs): the forced cells as the released guide's own fill.sh prints them over the translation aa85e71044e6c305… (all of the seat's roots in one cut). By AI agents, Wed Nov 11 2026. No macro, syntax, notation, axiom, sorry.
-/
import Derived.Test.YtfcafmbcmdeomaaChecked
import GoSem.Claim
import GoSem.ClaimJoined
import GoSem.ClaimMapViews
import Derived.JoinedTies
import Derived.KernelRfl
namespace Go.Proofs.Ytfcafmbcmdeomaa
/- THE CELL 'sum', in the pinned program and in every row, IS THE sha256 OF THE DUMP (.gsa) THAT YtfcafmbcmdeomaaProg.lean LOADS. Nothing in Lean hashes anything: it is a label: what it is worth is what the hold of that sum in a sandbox is worth. -/
noncomputable def Try.pinned : Pinned := { name := "ytfcafmbcmdeomaa", sum := "aa85e71044e6c305de99025063e9efc55d321ab54a71b3abe1ed45621ab04480", checked := Try.checked }
namespace Rows
def none {H : Type} : Left H := { results := [], args := [] }

/-- 'laws.FnExactLabelCut': WHATEVER THE INPUT: true; the input reads as it did. -/
def fnExactLabelCutSpec : ChangeSpec := { name := "fnExactLabelCut", fn := fun _ => fun
  | [d1, d2] => { results := [.lit (.bool true)], args := [d1, d2] }
  | _ => none }
def fnExactLabelCutRow : OpenClaim := { program := "ytfcafmbcmdeomaa", sum := "aa85e71044e6c305de99025063e9efc55d321ab54a71b3abe1ed45621ab04480", func := "loop.example/g03311/laws.FnExactLabelCut", spec := "fnExactLabelCut", unfollowed := true, recurses := true, plainKeys := false, apart := false }
def FnExactLabelCutSaid : Prop := fnExactLabelCutRow.holds Try.pinned (OpenSpec.ofChange fnExactLabelCutSpec)

/-- ITS FALSE NEIGHBOUR: 'it returns false'. Refute it at one input. -/
def fnExactLabelCutWrong : ChangeSpec := { name := "fnExactLabelCut", fn := fun _ => fun
  | [d1, d2] => { results := [.lit (.bool false)], args := [d1, d2] }
  | _ => none }
def FnExactLabelCutWrongFalsely : Prop := fnExactLabelCutRow.holds Try.pinned (OpenSpec.ofChange fnExactLabelCutWrong)

/-- 'laws.FnBalanceRuns': WHATEVER THE INPUT: true; the input reads as it did. -/
def fnBalanceRunsSpec : ChangeSpec := { name := "fnBalanceRuns", fn := fun _ => fun
  | [d] => { results := [.lit (.bool true)], args := [d] }
  | _ => none }
def fnBalanceRunsRow : OpenClaim := { program := "ytfcafmbcmdeomaa", sum := "aa85e71044e6c305de99025063e9efc55d321ab54a71b3abe1ed45621ab04480", func := "loop.example/g03311/laws.FnBalanceRuns", spec := "fnBalanceRuns", recurses := true, plainKeys := false, apart := false }
def FnBalanceRunsSaid : Prop := fnBalanceRunsRow.holds Try.pinned (OpenSpec.ofChange fnBalanceRunsSpec)

/-- ITS FALSE NEIGHBOUR: 'it returns false'. Refute it at one input. -/
def fnBalanceRunsWrong : ChangeSpec := { name := "fnBalanceRuns", fn := fun _ => fun
  | [d] => { results := [.lit (.bool false)], args := [d] }
  | _ => none }
def FnBalanceRunsWrongFalsely : Prop := fnBalanceRunsRow.holds Try.pinned (OpenSpec.ofChange fnBalanceRunsWrong)

/-- 'laws.FnExactHeightCut': WHATEVER THE INPUT: true; the input reads as it did. -/
def fnExactHeightCutSpec : ChangeSpec := { name := "fnExactHeightCut", fn := fun _ => fun
  | [d1, d2, d3] => { results := [.lit (.bool true)], args := [d1, d2, d3] }
  | _ => none }
def fnExactHeightCutRow : OpenClaim := { program := "ytfcafmbcmdeomaa", sum := "aa85e71044e6c305de99025063e9efc55d321ab54a71b3abe1ed45621ab04480", func := "loop.example/g03311/laws.FnExactHeightCut", spec := "fnExactHeightCut", unfollowed := true, recurses := true, plainKeys := false, apart := false }
def FnExactHeightCutSaid : Prop := fnExactHeightCutRow.holds Try.pinned (OpenSpec.ofChange fnExactHeightCutSpec)

/-- ITS FALSE NEIGHBOUR: 'it returns false'. Refute it at one input. -/
def fnExactHeightCutWrong : ChangeSpec := { name := "fnExactHeightCut", fn := fun _ => fun
  | [d1, d2, d3] => { results := [.lit (.bool false)], args := [d1, d2, d3] }
  | _ => none }
def FnExactHeightCutWrongFalsely : Prop := fnExactHeightCutRow.holds Try.pinned (OpenSpec.ofChange fnExactHeightCutWrong)

/-- 'laws.FnExactAddCover': WHATEVER THE INPUT: true; the input reads as it did. -/
def fnExactAddCoverSpec : ChangeSpec := { name := "fnExactAddCover", fn := fun _ => fun
  | [d1, d2, d3] => { results := [.lit (.bool true)], args := [d1, d2, d3] }
  | _ => none }
def fnExactAddCoverRow : OpenClaim := { program := "ytfcafmbcmdeomaa", sum := "aa85e71044e6c305de99025063e9efc55d321ab54a71b3abe1ed45621ab04480", func := "loop.example/g03311/laws.FnExactAddCover", spec := "fnExactAddCover", unfollowed := true, recurses := true, plainKeys := false, apart := false }
def FnExactAddCoverSaid : Prop := fnExactAddCoverRow.holds Try.pinned (OpenSpec.ofChange fnExactAddCoverSpec)

/-- ITS FALSE NEIGHBOUR: 'it returns false'. Refute it at one input. -/
def fnExactAddCoverWrong : ChangeSpec := { name := "fnExactAddCover", fn := fun _ => fun
  | [d1, d2, d3] => { results := [.lit (.bool false)], args := [d1, d2, d3] }
  | _ => none }
def FnExactAddCoverWrongFalsely : Prop := fnExactAddCoverRow.holds Try.pinned (OpenSpec.ofChange fnExactAddCoverWrong)

/-- 'laws.FnExactEnumCuts': WHATEVER THE INPUT: true; the input reads as it did. -/
def fnExactEnumCutsSpec : ChangeSpec := { name := "fnExactEnumCuts", fn := fun _ => fun
  | [d1, d2] => { results := [.lit (.bool true)], args := [d1, d2] }
  | _ => none }
def fnExactEnumCutsRow : OpenClaim := { program := "ytfcafmbcmdeomaa", sum := "aa85e71044e6c305de99025063e9efc55d321ab54a71b3abe1ed45621ab04480", func := "loop.example/g03311/laws.FnExactEnumCuts", spec := "fnExactEnumCuts", plainKeys := false, apart := false }
def FnExactEnumCutsSaid : Prop := fnExactEnumCutsRow.holds Try.pinned (OpenSpec.ofChange fnExactEnumCutsSpec)

/-- ITS FALSE NEIGHBOUR: 'it returns false'. Refute it at one input. -/
def fnExactEnumCutsWrong : ChangeSpec := { name := "fnExactEnumCuts", fn := fun _ => fun
  | [d1, d2] => { results := [.lit (.bool false)], args := [d1, d2] }
  | _ => none }
def FnExactEnumCutsWrongFalsely : Prop := fnExactEnumCutsRow.holds Try.pinned (OpenSpec.ofChange fnExactEnumCutsWrong)

/-- 'laws.FnExactRetimeBackward': WHATEVER THE INPUT: true; the input reads as it did. -/
def fnExactRetimeBackwardSpec : ChangeSpec := { name := "fnExactRetimeBackward", fn := fun _ => fun
  | [d1, d2] => { results := [.lit (.bool true)], args := [d1, d2] }
  | _ => none }
def fnExactRetimeBackwardRow : OpenClaim := { program := "ytfcafmbcmdeomaa", sum := "aa85e71044e6c305de99025063e9efc55d321ab54a71b3abe1ed45621ab04480", func := "loop.example/g03311/laws.FnExactRetimeBackward", spec := "fnExactRetimeBackward", unfollowed := true, recurses := true, plainKeys := false, apart := false }
def FnExactRetimeBackwardSaid : Prop := fnExactRetimeBackwardRow.holds Try.pinned (OpenSpec.ofChange fnExactRetimeBackwardSpec)

/-- ITS FALSE NEIGHBOUR: 'it returns false'. Refute it at one input. -/
def fnExactRetimeBackwardWrong : ChangeSpec := { name := "fnExactRetimeBackward", fn := fun _ => fun
  | [d1, d2] => { results := [.lit (.bool false)], args := [d1, d2] }
  | _ => none }
def FnExactRetimeBackwardWrongFalsely : Prop := fnExactRetimeBackwardRow.holds Try.pinned (OpenSpec.ofChange fnExactRetimeBackwardWrong)

/-- 'laws.FnBackwardRuns': WHATEVER THE INPUT: true; the input reads as it did. -/
def fnBackwardRunsSpec : ChangeSpec := { name := "fnBackwardRuns", fn := fun _ => fun
  | [d] => { results := [.lit (.bool true)], args := [d] }
  | _ => none }
def fnBackwardRunsRow : OpenClaim := { program := "ytfcafmbcmdeomaa", sum := "aa85e71044e6c305de99025063e9efc55d321ab54a71b3abe1ed45621ab04480", func := "loop.example/g03311/laws.FnBackwardRuns", spec := "fnBackwardRuns", unfollowed := true, recurses := true, plainKeys := false, apart := false }
def FnBackwardRunsSaid : Prop := fnBackwardRunsRow.holds Try.pinned (OpenSpec.ofChange fnBackwardRunsSpec)

/-- ITS FALSE NEIGHBOUR: 'it returns false'. Refute it at one input. -/
def fnBackwardRunsWrong : ChangeSpec := { name := "fnBackwardRuns", fn := fun _ => fun
  | [d] => { results := [.lit (.bool false)], args := [d] }
  | _ => none }
def FnBackwardRunsWrongFalsely : Prop := fnBackwardRunsRow.holds Try.pinned (OpenSpec.ofChange fnBackwardRunsWrong)

/-- 'laws.FnExactRetimeForward': WHATEVER THE INPUT: true; the input reads as it did. -/
def fnExactRetimeForwardSpec : ChangeSpec := { name := "fnExactRetimeForward", fn := fun _ => fun
  | [d1, d2] => { results := [.lit (.bool true)], args := [d1, d2] }
  | _ => none }
def fnExactRetimeForwardRow : OpenClaim := { program := "ytfcafmbcmdeomaa", sum := "aa85e71044e6c305de99025063e9efc55d321ab54a71b3abe1ed45621ab04480", func := "loop.example/g03311/laws.FnExactRetimeForward", spec := "fnExactRetimeForward", unfollowed := true, recurses := true, plainKeys := false, apart := false }
def FnExactRetimeForwardSaid : Prop := fnExactRetimeForwardRow.holds Try.pinned (OpenSpec.ofChange fnExactRetimeForwardSpec)

/-- ITS FALSE NEIGHBOUR: 'it returns false'. Refute it at one input. -/
def fnExactRetimeForwardWrong : ChangeSpec := { name := "fnExactRetimeForward", fn := fun _ => fun
  | [d1, d2] => { results := [.lit (.bool false)], args := [d1, d2] }
  | _ => none }
def FnExactRetimeForwardWrongFalsely : Prop := fnExactRetimeForwardRow.holds Try.pinned (OpenSpec.ofChange fnExactRetimeForwardWrong)

/-- 'laws.FnForwardRuns': WHATEVER THE INPUT: true; the input reads as it did. -/
def fnForwardRunsSpec : ChangeSpec := { name := "fnForwardRuns", fn := fun _ => fun
  | [d] => { results := [.lit (.bool true)], args := [d] }
  | _ => none }
def fnForwardRunsRow : OpenClaim := { program := "ytfcafmbcmdeomaa", sum := "aa85e71044e6c305de99025063e9efc55d321ab54a71b3abe1ed45621ab04480", func := "loop.example/g03311/laws.FnForwardRuns", spec := "fnForwardRuns", unfollowed := true, recurses := true, plainKeys := false, apart := false }
def FnForwardRunsSaid : Prop := fnForwardRunsRow.holds Try.pinned (OpenSpec.ofChange fnForwardRunsSpec)

/-- ITS FALSE NEIGHBOUR: 'it returns false'. Refute it at one input. -/
def fnForwardRunsWrong : ChangeSpec := { name := "fnForwardRuns", fn := fun _ => fun
  | [d] => { results := [.lit (.bool false)], args := [d] }
  | _ => none }
def FnForwardRunsWrongFalsely : Prop := fnForwardRunsRow.holds Try.pinned (OpenSpec.ofChange fnForwardRunsWrong)

/-- 'laws.FnMergedRuns': WHATEVER THE INPUT: true; the input reads as it did. -/
def fnMergedRunsSpec : ChangeSpec := { name := "fnMergedRuns", fn := fun _ => fun
  | [d] => { results := [.lit (.bool true)], args := [d] }
  | _ => none }
def fnMergedRunsRow : OpenClaim := { program := "ytfcafmbcmdeomaa", sum := "aa85e71044e6c305de99025063e9efc55d321ab54a71b3abe1ed45621ab04480", func := "loop.example/g03311/laws.FnMergedRuns", spec := "fnMergedRuns", unfollowed := true, recurses := true, plainKeys := false, apart := false }
def FnMergedRunsSaid : Prop := fnMergedRunsRow.holds Try.pinned (OpenSpec.ofChange fnMergedRunsSpec)

/-- ITS FALSE NEIGHBOUR: 'it returns false'. Refute it at one input. -/
def fnMergedRunsWrong : ChangeSpec := { name := "fnMergedRuns", fn := fun _ => fun
  | [d] => { results := [.lit (.bool false)], args := [d] }
  | _ => none }
def FnMergedRunsWrongFalsely : Prop := fnMergedRunsRow.holds Try.pinned (OpenSpec.ofChange fnMergedRunsWrong)

/-- 'laws.FnExactBalance': WHATEVER THE INPUT: true; the input reads as it did. -/
def fnExactBalanceSpec : ChangeSpec := { name := "fnExactBalance", fn := fun _ => fun
  | [d] => { results := [.lit (.bool true)], args := [d] }
  | _ => none }
def fnExactBalanceRow : OpenClaim := { program := "ytfcafmbcmdeomaa", sum := "aa85e71044e6c305de99025063e9efc55d321ab54a71b3abe1ed45621ab04480", func := "loop.example/g03311/laws.FnExactBalance", spec := "fnExactBalance", recurses := true, plainKeys := false, apart := false }
def FnExactBalanceSaid : Prop := fnExactBalanceRow.holds Try.pinned (OpenSpec.ofChange fnExactBalanceSpec)

/-- ITS FALSE NEIGHBOUR: 'it returns false'. Refute it at one input. -/
def fnExactBalanceWrong : ChangeSpec := { name := "fnExactBalance", fn := fun _ => fun
  | [d] => { results := [.lit (.bool false)], args := [d] }
  | _ => none }
def FnExactBalanceWrongFalsely : Prop := fnExactBalanceRow.holds Try.pinned (OpenSpec.ofChange fnExactBalanceWrong)

/-- 'laws.FnExactRetimeAll': WHATEVER THE INPUT: true; the input reads as it did. -/
def fnExactRetimeAllSpec : ChangeSpec := { name := "fnExactRetimeAll", fn := fun _ => fun
  | [d] => { results := [.lit (.bool true)], args := [d] }
  | _ => none }
def fnExactRetimeAllRow : OpenClaim := { program := "ytfcafmbcmdeomaa", sum := "aa85e71044e6c305de99025063e9efc55d321ab54a71b3abe1ed45621ab04480", func := "loop.example/g03311/laws.FnExactRetimeAll", spec := "fnExactRetimeAll", unfollowed := true, recurses := true, plainKeys := false, apart := false }
def FnExactRetimeAllSaid : Prop := fnExactRetimeAllRow.holds Try.pinned (OpenSpec.ofChange fnExactRetimeAllSpec)

/-- ITS FALSE NEIGHBOUR: 'it returns false'. Refute it at one input. -/
def fnExactRetimeAllWrong : ChangeSpec := { name := "fnExactRetimeAll", fn := fun _ => fun
  | [d] => { results := [.lit (.bool false)], args := [d] }
  | _ => none }
def FnExactRetimeAllWrongFalsely : Prop := fnExactRetimeAllRow.holds Try.pinned (OpenSpec.ofChange fnExactRetimeAllWrong)

/- THE SECOND FORM. 'bulk': how many values and letters a reading holds, each counted each time it is reached (what is shared counts as often as it is met; a slice's spare places count too). A statement '..UptoSaid' is the law's where the arguments, and the package variables that the reading takes, are together of bulk at most 1048576: NARROWER than '..Said'. Prove '..Said' where nothing that the law and all that it calls make is longer than what came in: it says more and counts as full. Else prove '..UptoSaid'. A law counts once. -/
mutual
def uptoBulk {H : Type} : DataW H → Nat
  | .lit (.string bytes) => bytes.length + 1
  | .lit _ => 1
  | .nil => 1
  | .ptr d => uptoBulk d + 1
  | .slice elems spare => uptoBulkAll elems + uptoBulkAll spare + 1
  | .agg parts => uptoBulkAll parts + 1
  | .iface _ d => uptoBulk d + 1
  | .map entries => uptoBulkEntries entries + 1
  | .held _ => 1
def uptoBulkAll {H : Type} : List (DataW H) → Nat
  | [] => 0
  | d :: r => uptoBulk d + uptoBulkAll r
def uptoBulkEntries {H : Type} : List (Lit × DataW H) → Nat
  | [] => 0
  | x :: r => uptoBulkEntry x + uptoBulkEntries r
def uptoBulkEntry {H : Type} : Lit × DataW H → Nat
  | (.string bytes, d) => bytes.length + uptoBulk d + 1
  | (_, d) => uptoBulk d + 1
 end
def uptoSmall : (H : Type) → List (DataW H) → Bool := fun _ ds => decide (uptoBulkAll ds ≤ 1048576)
def OpenSpec.upto (s : _root_.Go.ChangeSpec) : _root_.Go.OpenSpec := { _root_.Go.OpenSpec.ofChange s with cond := some uptoSmall }

/-- 'laws.FnExactLabelCut', WHERE WHAT IT READS IS OF BULK AT MOST 1048576: true; the input reads as it did. -/
def fnExactLabelCutUptoRow : OpenClaim := { program := "ytfcafmbcmdeomaa", sum := "aa85e71044e6c305de99025063e9efc55d321ab54a71b3abe1ed45621ab04480", func := "loop.example/g03311/laws.FnExactLabelCut", spec := "fnExactLabelCut", unfollowed := true, recurses := true, plainKeys := false, apart := false, narrowed := true }
def FnExactLabelCutUptoSaid : Prop := fnExactLabelCutUptoRow.holds Try.pinned (OpenSpec.upto fnExactLabelCutSpec)

/-- 'laws.FnBalanceRuns', WHERE WHAT IT READS IS OF BULK AT MOST 1048576: true; the input reads as it did. -/
def fnBalanceRunsUptoRow : OpenClaim := { program := "ytfcafmbcmdeomaa", sum := "aa85e71044e6c305de99025063e9efc55d321ab54a71b3abe1ed45621ab04480", func := "loop.example/g03311/laws.FnBalanceRuns", spec := "fnBalanceRuns", recurses := true, plainKeys := false, apart := false, narrowed := true }
def FnBalanceRunsUptoSaid : Prop := fnBalanceRunsUptoRow.holds Try.pinned (OpenSpec.upto fnBalanceRunsSpec)

/-- 'laws.FnExactHeightCut', WHERE WHAT IT READS IS OF BULK AT MOST 1048576: true; the input reads as it did. -/
def fnExactHeightCutUptoRow : OpenClaim := { program := "ytfcafmbcmdeomaa", sum := "aa85e71044e6c305de99025063e9efc55d321ab54a71b3abe1ed45621ab04480", func := "loop.example/g03311/laws.FnExactHeightCut", spec := "fnExactHeightCut", unfollowed := true, recurses := true, plainKeys := false, apart := false, narrowed := true }
def FnExactHeightCutUptoSaid : Prop := fnExactHeightCutUptoRow.holds Try.pinned (OpenSpec.upto fnExactHeightCutSpec)

/-- 'laws.FnExactAddCover', WHERE WHAT IT READS IS OF BULK AT MOST 1048576: true; the input reads as it did. -/
def fnExactAddCoverUptoRow : OpenClaim := { program := "ytfcafmbcmdeomaa", sum := "aa85e71044e6c305de99025063e9efc55d321ab54a71b3abe1ed45621ab04480", func := "loop.example/g03311/laws.FnExactAddCover", spec := "fnExactAddCover", unfollowed := true, recurses := true, plainKeys := false, apart := false, narrowed := true }
def FnExactAddCoverUptoSaid : Prop := fnExactAddCoverUptoRow.holds Try.pinned (OpenSpec.upto fnExactAddCoverSpec)

/-- 'laws.FnExactEnumCuts', WHERE WHAT IT READS IS OF BULK AT MOST 1048576: true; the input reads as it did. -/
def fnExactEnumCutsUptoRow : OpenClaim := { program := "ytfcafmbcmdeomaa", sum := "aa85e71044e6c305de99025063e9efc55d321ab54a71b3abe1ed45621ab04480", func := "loop.example/g03311/laws.FnExactEnumCuts", spec := "fnExactEnumCuts", plainKeys := false, apart := false, narrowed := true }
def FnExactEnumCutsUptoSaid : Prop := fnExactEnumCutsUptoRow.holds Try.pinned (OpenSpec.upto fnExactEnumCutsSpec)

/-- 'laws.FnExactRetimeBackward', WHERE WHAT IT READS IS OF BULK AT MOST 1048576: true; the input reads as it did. -/
def fnExactRetimeBackwardUptoRow : OpenClaim := { program := "ytfcafmbcmdeomaa", sum := "aa85e71044e6c305de99025063e9efc55d321ab54a71b3abe1ed45621ab04480", func := "loop.example/g03311/laws.FnExactRetimeBackward", spec := "fnExactRetimeBackward", unfollowed := true, recurses := true, plainKeys := false, apart := false, narrowed := true }
def FnExactRetimeBackwardUptoSaid : Prop := fnExactRetimeBackwardUptoRow.holds Try.pinned (OpenSpec.upto fnExactRetimeBackwardSpec)

/-- 'laws.FnBackwardRuns', WHERE WHAT IT READS IS OF BULK AT MOST 1048576: true; the input reads as it did. -/
def fnBackwardRunsUptoRow : OpenClaim := { program := "ytfcafmbcmdeomaa", sum := "aa85e71044e6c305de99025063e9efc55d321ab54a71b3abe1ed45621ab04480", func := "loop.example/g03311/laws.FnBackwardRuns", spec := "fnBackwardRuns", unfollowed := true, recurses := true, plainKeys := false, apart := false, narrowed := true }
def FnBackwardRunsUptoSaid : Prop := fnBackwardRunsUptoRow.holds Try.pinned (OpenSpec.upto fnBackwardRunsSpec)

/-- 'laws.FnExactRetimeForward', WHERE WHAT IT READS IS OF BULK AT MOST 1048576: true; the input reads as it did. -/
def fnExactRetimeForwardUptoRow : OpenClaim := { program := "ytfcafmbcmdeomaa", sum := "aa85e71044e6c305de99025063e9efc55d321ab54a71b3abe1ed45621ab04480", func := "loop.example/g03311/laws.FnExactRetimeForward", spec := "fnExactRetimeForward", unfollowed := true, recurses := true, plainKeys := false, apart := false, narrowed := true }
def FnExactRetimeForwardUptoSaid : Prop := fnExactRetimeForwardUptoRow.holds Try.pinned (OpenSpec.upto fnExactRetimeForwardSpec)

/-- 'laws.FnForwardRuns', WHERE WHAT IT READS IS OF BULK AT MOST 1048576: true; the input reads as it did. -/
def fnForwardRunsUptoRow : OpenClaim := { program := "ytfcafmbcmdeomaa", sum := "aa85e71044e6c305de99025063e9efc55d321ab54a71b3abe1ed45621ab04480", func := "loop.example/g03311/laws.FnForwardRuns", spec := "fnForwardRuns", unfollowed := true, recurses := true, plainKeys := false, apart := false, narrowed := true }
def FnForwardRunsUptoSaid : Prop := fnForwardRunsUptoRow.holds Try.pinned (OpenSpec.upto fnForwardRunsSpec)

/-- 'laws.FnMergedRuns', WHERE WHAT IT READS IS OF BULK AT MOST 1048576: true; the input reads as it did. -/
def fnMergedRunsUptoRow : OpenClaim := { program := "ytfcafmbcmdeomaa", sum := "aa85e71044e6c305de99025063e9efc55d321ab54a71b3abe1ed45621ab04480", func := "loop.example/g03311/laws.FnMergedRuns", spec := "fnMergedRuns", unfollowed := true, recurses := true, plainKeys := false, apart := false, narrowed := true }
def FnMergedRunsUptoSaid : Prop := fnMergedRunsUptoRow.holds Try.pinned (OpenSpec.upto fnMergedRunsSpec)

/-- 'laws.FnExactBalance', WHERE WHAT IT READS IS OF BULK AT MOST 1048576: true; the input reads as it did. -/
def fnExactBalanceUptoRow : OpenClaim := { program := "ytfcafmbcmdeomaa", sum := "aa85e71044e6c305de99025063e9efc55d321ab54a71b3abe1ed45621ab04480", func := "loop.example/g03311/laws.FnExactBalance", spec := "fnExactBalance", recurses := true, plainKeys := false, apart := false, narrowed := true }
def FnExactBalanceUptoSaid : Prop := fnExactBalanceUptoRow.holds Try.pinned (OpenSpec.upto fnExactBalanceSpec)

/-- 'laws.FnExactRetimeAll', WHERE WHAT IT READS IS OF BULK AT MOST 1048576: true; the input reads as it did. -/
def fnExactRetimeAllUptoRow : OpenClaim := { program := "ytfcafmbcmdeomaa", sum := "aa85e71044e6c305de99025063e9efc55d321ab54a71b3abe1ed45621ab04480", func := "loop.example/g03311/laws.FnExactRetimeAll", spec := "fnExactRetimeAll", unfollowed := true, recurses := true, plainKeys := false, apart := false, narrowed := true }
def FnExactRetimeAllUptoSaid : Prop := fnExactRetimeAllUptoRow.holds Try.pinned (OpenSpec.upto fnExactRetimeAllSpec)

end Rows
end Go.Proofs.Ytfcafmbcmdeomaa
