/-
  No cell of these rows narrows 'for every input' (looked for: loops, veiled, ifaces, maps, wideKeys, modest, calm, conditions, laid).
  DERIVED. THE GIVEN ROWS OF THIS SEAT. 12 by the template 'for every input the law returns true; each argument reads behind the call as it read before'; 0 by the template 'total and deterministic' (their statements: YtckfgmgnllemmaaTotals.lean).
  GIVEN WITH THE SEED: the statements are not yours to turn. If you find one false, say at which input.
  Laid BY PROGRAM, IN A SANDBOX (cutbox-rows.mjs): the forced cells as the released guide's own fill.sh prints them over the translation 2cb10084af41992a… (all of the seat's roots in one cut). By AI agents, Wed Nov 11 2026. No macro, syntax, notation, axiom, sorry.
-/
import Derived.Test.YtckfgmgnllemmaaChecked
import GoSem.Claim
import GoSem.ClaimJoined
import GoSem.ClaimMapViews
import Derived.JoinedTies
import Derived.KernelRfl
namespace Go.Proofs.Ytckfgmgnllemmaa
/- THE CELL 'sum', in the pinned program and in every row, IS THE sha256 OF THE DUMP (.gsa) THAT YtckfgmgnllemmaaProg.lean LOADS. Nothing in Lean hashes anything: it is a label: what it is worth is what the hold of that sum in a sandbox is worth. -/
noncomputable def Try.pinned : Pinned := { name := "ytckfgmgnllemmaa", sum := "2cb10084af41992a1390eceaf0f320ab1fd95d7c8305c1448f02a62e94d7efe3", checked := Try.checked }
namespace Rows
def none {H : Type} : Left H := { results := [], args := [] }

/-- 'laws.FnExactClassesHold': WHATEVER THE INPUT: true; the input reads as it did. -/
def fnExactClassesHoldSpec : ChangeSpec := { name := "fnExactClassesHold", fn := fun _ => fun
  | [d1, d2] => { results := [.lit (.bool true)], args := [d1, d2] }
  | _ => none }
def fnExactClassesHoldRow : OpenClaim := { program := "ytckfgmgnllemmaa", sum := "2cb10084af41992a1390eceaf0f320ab1fd95d7c8305c1448f02a62e94d7efe3", func := "loop.example/g03311/laws.FnExactClassesHold", spec := "fnExactClassesHold", plainKeys := false, apart := false }
def FnExactClassesHoldSaid : Prop := fnExactClassesHoldRow.holds Try.pinned (OpenSpec.ofChange fnExactClassesHoldSpec)

/-- ITS FALSE NEIGHBOUR: 'it returns false'. Refute it at one input. -/
def fnExactClassesHoldWrong : ChangeSpec := { name := "fnExactClassesHold", fn := fun _ => fun
  | [d1, d2] => { results := [.lit (.bool false)], args := [d1, d2] }
  | _ => none }
def FnExactClassesHoldWrongFalsely : Prop := fnExactClassesHoldRow.holds Try.pinned (OpenSpec.ofChange fnExactClassesHoldWrong)

/-- 'laws.FnExactAddXor': WHATEVER THE INPUT: true; the input reads as it did. -/
def fnExactAddXorSpec : ChangeSpec := { name := "fnExactAddXor", fn := fun _ => fun
  | [d1, d2, d3] => { results := [.lit (.bool true)], args := [d1, d2, d3] }
  | _ => none }
def fnExactAddXorRow : OpenClaim := { program := "ytckfgmgnllemmaa", sum := "2cb10084af41992a1390eceaf0f320ab1fd95d7c8305c1448f02a62e94d7efe3", func := "loop.example/g03311/laws.FnExactAddXor", spec := "fnExactAddXor", unfollowed := true, recurses := true, plainKeys := false, apart := false }
def FnExactAddXorSaid : Prop := fnExactAddXorRow.holds Try.pinned (OpenSpec.ofChange fnExactAddXorSpec)

/-- ITS FALSE NEIGHBOUR: 'it returns false'. Refute it at one input. -/
def fnExactAddXorWrong : ChangeSpec := { name := "fnExactAddXor", fn := fun _ => fun
  | [d1, d2, d3] => { results := [.lit (.bool false)], args := [d1, d2, d3] }
  | _ => none }
def FnExactAddXorWrongFalsely : Prop := fnExactAddXorRow.holds Try.pinned (OpenSpec.ofChange fnExactAddXorWrong)

/-- 'laws.FnExactPrune': WHATEVER THE INPUT: true; the input reads as it did. -/
def fnExactPruneSpec : ChangeSpec := { name := "fnExactPrune", fn := fun _ => fun
  | [d] => { results := [.lit (.bool true)], args := [d] }
  | _ => none }
def fnExactPruneRow : OpenClaim := { program := "ytckfgmgnllemmaa", sum := "2cb10084af41992a1390eceaf0f320ab1fd95d7c8305c1448f02a62e94d7efe3", func := "loop.example/g03311/laws.FnExactPrune", spec := "fnExactPrune", unfollowed := true, recurses := true, plainKeys := false, apart := false }
def FnExactPruneSaid : Prop := fnExactPruneRow.holds Try.pinned (OpenSpec.ofChange fnExactPruneSpec)

/-- ITS FALSE NEIGHBOUR: 'it returns false'. Refute it at one input. -/
def fnExactPruneWrong : ChangeSpec := { name := "fnExactPrune", fn := fun _ => fun
  | [d] => { results := [.lit (.bool false)], args := [d] }
  | _ => none }
def FnExactPruneWrongFalsely : Prop := fnExactPruneRow.holds Try.pinned (OpenSpec.ofChange fnExactPruneWrong)

/-- 'laws.FnExactAddMux': WHATEVER THE INPUT: true; the input reads as it did. -/
def fnExactAddMuxSpec : ChangeSpec := { name := "fnExactAddMux", fn := fun _ => fun
  | [d1, d2, d3, d4] => { results := [.lit (.bool true)], args := [d1, d2, d3, d4] }
  | _ => none }
def fnExactAddMuxRow : OpenClaim := { program := "ytckfgmgnllemmaa", sum := "2cb10084af41992a1390eceaf0f320ab1fd95d7c8305c1448f02a62e94d7efe3", func := "loop.example/g03311/laws.FnExactAddMux", spec := "fnExactAddMux", unfollowed := true, recurses := true, plainKeys := false, apart := false }
def FnExactAddMuxSaid : Prop := fnExactAddMuxRow.holds Try.pinned (OpenSpec.ofChange fnExactAddMuxSpec)

/-- ITS FALSE NEIGHBOUR: 'it returns false'. Refute it at one input. -/
def fnExactAddMuxWrong : ChangeSpec := { name := "fnExactAddMux", fn := fun _ => fun
  | [d1, d2, d3, d4] => { results := [.lit (.bool false)], args := [d1, d2, d3, d4] }
  | _ => none }
def FnExactAddMuxWrongFalsely : Prop := fnExactAddMuxRow.holds Try.pinned (OpenSpec.ofChange fnExactAddMuxWrong)

/-- 'laws.FnExactSweep': WHATEVER THE INPUT: true; the input reads as it did. -/
def fnExactSweepSpec : ChangeSpec := { name := "fnExactSweep", fn := fun _ => fun
  | [d] => { results := [.lit (.bool true)], args := [d] }
  | _ => none }
def fnExactSweepRow : OpenClaim := { program := "ytckfgmgnllemmaa", sum := "2cb10084af41992a1390eceaf0f320ab1fd95d7c8305c1448f02a62e94d7efe3", func := "loop.example/g03311/laws.FnExactSweep", spec := "fnExactSweep", recurses := true, plainKeys := false, apart := false }
def FnExactSweepSaid : Prop := fnExactSweepRow.holds Try.pinned (OpenSpec.ofChange fnExactSweepSpec)

/-- ITS FALSE NEIGHBOUR: 'it returns false'. Refute it at one input. -/
def fnExactSweepWrong : ChangeSpec := { name := "fnExactSweep", fn := fun _ => fun
  | [d] => { results := [.lit (.bool false)], args := [d] }
  | _ => none }
def FnExactSweepWrongFalsely : Prop := fnExactSweepRow.holds Try.pinned (OpenSpec.ofChange fnExactSweepWrong)

/-- 'laws.FnHashRuns': WHATEVER THE INPUT: true; the input reads as it did. -/
def fnHashRunsSpec : ChangeSpec := { name := "fnHashRuns", fn := fun _ => fun
  | [d] => { results := [.lit (.bool true)], args := [d] }
  | _ => none }
def fnHashRunsRow : OpenClaim := { program := "ytckfgmgnllemmaa", sum := "2cb10084af41992a1390eceaf0f320ab1fd95d7c8305c1448f02a62e94d7efe3", func := "loop.example/g03311/laws.FnHashRuns", spec := "fnHashRuns", recurses := true, plainKeys := false, apart := false }
def FnHashRunsSaid : Prop := fnHashRunsRow.holds Try.pinned (OpenSpec.ofChange fnHashRunsSpec)

/-- ITS FALSE NEIGHBOUR: 'it returns false'. Refute it at one input. -/
def fnHashRunsWrong : ChangeSpec := { name := "fnHashRuns", fn := fun _ => fun
  | [d] => { results := [.lit (.bool false)], args := [d] }
  | _ => none }
def FnHashRunsWrongFalsely : Prop := fnHashRunsRow.holds Try.pinned (OpenSpec.ofChange fnHashRunsWrong)

/-- 'laws.FnCoarsest': WHATEVER THE INPUT: true; the input reads as it did. -/
def fnCoarsestSpec : ChangeSpec := { name := "fnCoarsest", fn := fun _ => fun
  | [d] => { results := [.lit (.bool true)], args := [d] }
  | _ => none }
def fnCoarsestRow : OpenClaim := { program := "ytckfgmgnllemmaa", sum := "2cb10084af41992a1390eceaf0f320ab1fd95d7c8305c1448f02a62e94d7efe3", func := "loop.example/g03311/laws.FnCoarsest", spec := "fnCoarsest", plainKeys := false, apart := false }
def FnCoarsestSaid : Prop := fnCoarsestRow.holds Try.pinned (OpenSpec.ofChange fnCoarsestSpec)

/-- ITS FALSE NEIGHBOUR: 'it returns false'. Refute it at one input. -/
def fnCoarsestWrong : ChangeSpec := { name := "fnCoarsest", fn := fun _ => fun
  | [d] => { results := [.lit (.bool false)], args := [d] }
  | _ => none }
def FnCoarsestWrongFalsely : Prop := fnCoarsestRow.holds Try.pinned (OpenSpec.ofChange fnCoarsestWrong)

/-- 'laws.FnExactRegisterClasses': WHATEVER THE INPUT: true; the input reads as it did. -/
def fnExactRegisterClassesSpec : ChangeSpec := { name := "fnExactRegisterClasses", fn := fun _ => fun
  | [d] => { results := [.lit (.bool true)], args := [d] }
  | _ => none }
def fnExactRegisterClassesRow : OpenClaim := { program := "ytckfgmgnllemmaa", sum := "2cb10084af41992a1390eceaf0f320ab1fd95d7c8305c1448f02a62e94d7efe3", func := "loop.example/g03311/laws.FnExactRegisterClasses", spec := "fnExactRegisterClasses", plainKeys := false, apart := false }
def FnExactRegisterClassesSaid : Prop := fnExactRegisterClassesRow.holds Try.pinned (OpenSpec.ofChange fnExactRegisterClassesSpec)

/-- ITS FALSE NEIGHBOUR: 'it returns false'. Refute it at one input. -/
def fnExactRegisterClassesWrong : ChangeSpec := { name := "fnExactRegisterClasses", fn := fun _ => fun
  | [d] => { results := [.lit (.bool false)], args := [d] }
  | _ => none }
def FnExactRegisterClassesWrongFalsely : Prop := fnExactRegisterClassesRow.holds Try.pinned (OpenSpec.ofChange fnExactRegisterClassesWrong)

/-- 'laws.FnExactCutHeight': WHATEVER THE INPUT: true; the input reads as it did. -/
def fnExactCutHeightSpec : ChangeSpec := { name := "fnExactCutHeight", fn := fun _ => fun
  | [d1, d2] => { results := [.lit (.bool true)], args := [d1, d2] }
  | _ => none }
def fnExactCutHeightRow : OpenClaim := { program := "ytckfgmgnllemmaa", sum := "2cb10084af41992a1390eceaf0f320ab1fd95d7c8305c1448f02a62e94d7efe3", func := "loop.example/g03311/laws.FnExactCutHeight", spec := "fnExactCutHeight", unfollowed := true, recurses := true, plainKeys := false, apart := false }
def FnExactCutHeightSaid : Prop := fnExactCutHeightRow.holds Try.pinned (OpenSpec.ofChange fnExactCutHeightSpec)

/-- ITS FALSE NEIGHBOUR: 'it returns false'. Refute it at one input. -/
def fnExactCutHeightWrong : ChangeSpec := { name := "fnExactCutHeight", fn := fun _ => fun
  | [d1, d2] => { results := [.lit (.bool false)], args := [d1, d2] }
  | _ => none }
def FnExactCutHeightWrongFalsely : Prop := fnExactCutHeightRow.holds Try.pinned (OpenSpec.ofChange fnExactCutHeightWrong)

/-- 'laws.FnRetimeAllRuns': WHATEVER THE INPUT: true; the input reads as it did. -/
def fnRetimeAllRunsSpec : ChangeSpec := { name := "fnRetimeAllRuns", fn := fun _ => fun
  | [d] => { results := [.lit (.bool true)], args := [d] }
  | _ => none }
def fnRetimeAllRunsRow : OpenClaim := { program := "ytckfgmgnllemmaa", sum := "2cb10084af41992a1390eceaf0f320ab1fd95d7c8305c1448f02a62e94d7efe3", func := "loop.example/g03311/laws.FnRetimeAllRuns", spec := "fnRetimeAllRuns", unfollowed := true, recurses := true, plainKeys := false, apart := false }
def FnRetimeAllRunsSaid : Prop := fnRetimeAllRunsRow.holds Try.pinned (OpenSpec.ofChange fnRetimeAllRunsSpec)

/-- ITS FALSE NEIGHBOUR: 'it returns false'. Refute it at one input. -/
def fnRetimeAllRunsWrong : ChangeSpec := { name := "fnRetimeAllRuns", fn := fun _ => fun
  | [d] => { results := [.lit (.bool false)], args := [d] }
  | _ => none }
def FnRetimeAllRunsWrongFalsely : Prop := fnRetimeAllRunsRow.holds Try.pinned (OpenSpec.ofChange fnRetimeAllRunsWrong)

/-- 'laws.FnExactHash': WHATEVER THE INPUT: true; the input reads as it did. -/
def fnExactHashSpec : ChangeSpec := { name := "fnExactHash", fn := fun _ => fun
  | [d] => { results := [.lit (.bool true)], args := [d] }
  | _ => none }
def fnExactHashRow : OpenClaim := { program := "ytckfgmgnllemmaa", sum := "2cb10084af41992a1390eceaf0f320ab1fd95d7c8305c1448f02a62e94d7efe3", func := "loop.example/g03311/laws.FnExactHash", spec := "fnExactHash", recurses := true, plainKeys := false, apart := false }
def FnExactHashSaid : Prop := fnExactHashRow.holds Try.pinned (OpenSpec.ofChange fnExactHashSpec)

/-- ITS FALSE NEIGHBOUR: 'it returns false'. Refute it at one input. -/
def fnExactHashWrong : ChangeSpec := { name := "fnExactHash", fn := fun _ => fun
  | [d] => { results := [.lit (.bool false)], args := [d] }
  | _ => none }
def FnExactHashWrongFalsely : Prop := fnExactHashRow.holds Try.pinned (OpenSpec.ofChange fnExactHashWrong)

/-- 'laws.FnExactLabels': WHATEVER THE INPUT: true; the input reads as it did. -/
def fnExactLabelsSpec : ChangeSpec := { name := "fnExactLabels", fn := fun _ => fun
  | [d] => { results := [.lit (.bool true)], args := [d] }
  | _ => none }
def fnExactLabelsRow : OpenClaim := { program := "ytckfgmgnllemmaa", sum := "2cb10084af41992a1390eceaf0f320ab1fd95d7c8305c1448f02a62e94d7efe3", func := "loop.example/g03311/laws.FnExactLabels", spec := "fnExactLabels", unfollowed := true, recurses := true, plainKeys := false, apart := false }
def FnExactLabelsSaid : Prop := fnExactLabelsRow.holds Try.pinned (OpenSpec.ofChange fnExactLabelsSpec)

/-- ITS FALSE NEIGHBOUR: 'it returns false'. Refute it at one input. -/
def fnExactLabelsWrong : ChangeSpec := { name := "fnExactLabels", fn := fun _ => fun
  | [d] => { results := [.lit (.bool false)], args := [d] }
  | _ => none }
def FnExactLabelsWrongFalsely : Prop := fnExactLabelsRow.holds Try.pinned (OpenSpec.ofChange fnExactLabelsWrong)

/- THE SECOND FORM. 'bulk': how many values and letters a reading holds, each counted each time it is reached (what is shared counts as often as it is met; a slice's spare places count too). A statement '..UptoSaid' is the law's where the arguments, and the package variables that the reading takes, are together of bulk at most 1048576: NARROWER than '..Said'. Prove '..Said' where nothing that the law and all that it calls make is longer than what came in: it says more and counts as full. Else prove '..UptoSaid'. A law counts once. -/
mutual
def uptoBulk {H : Type} : DataW H → Nat
  | .lit (.string bytes) => bytes.length + 1
  | .lit _ => 1
  | .nil => 1
  | .ptr d => uptoBulk d + 1
  | .slice elems spare => uptoBulkAll elems + uptoBulkAll spare + 1
  | .agg parts => uptoBulkAll parts + 1
  | .iface _ d => uptoBulk d + 1
  | .map entries => uptoBulkEntries entries + 1
  | .held _ => 1
def uptoBulkAll {H : Type} : List (DataW H) → Nat
  | [] => 0
  | d :: r => uptoBulk d + uptoBulkAll r
def uptoBulkEntries {H : Type} : List (Lit × DataW H) → Nat
  | [] => 0
  | x :: r => uptoBulkEntry x + uptoBulkEntries r
def uptoBulkEntry {H : Type} : Lit × DataW H → Nat
  | (.string bytes, d) => bytes.length + uptoBulk d + 1
  | (_, d) => uptoBulk d + 1
 end
def uptoSmall : (H : Type) → List (DataW H) → Bool := fun _ ds => decide (uptoBulkAll ds ≤ 1048576)
def OpenSpec.upto (s : _root_.Go.ChangeSpec) : _root_.Go.OpenSpec := { _root_.Go.OpenSpec.ofChange s with cond := some uptoSmall }

/-- 'laws.FnExactClassesHold', WHERE WHAT IT READS IS OF BULK AT MOST 1048576: true; the input reads as it did. -/
def fnExactClassesHoldUptoRow : OpenClaim := { program := "ytckfgmgnllemmaa", sum := "2cb10084af41992a1390eceaf0f320ab1fd95d7c8305c1448f02a62e94d7efe3", func := "loop.example/g03311/laws.FnExactClassesHold", spec := "fnExactClassesHold", plainKeys := false, apart := false, narrowed := true }
def FnExactClassesHoldUptoSaid : Prop := fnExactClassesHoldUptoRow.holds Try.pinned (OpenSpec.upto fnExactClassesHoldSpec)

/-- 'laws.FnExactAddXor', WHERE WHAT IT READS IS OF BULK AT MOST 1048576: true; the input reads as it did. -/
def fnExactAddXorUptoRow : OpenClaim := { program := "ytckfgmgnllemmaa", sum := "2cb10084af41992a1390eceaf0f320ab1fd95d7c8305c1448f02a62e94d7efe3", func := "loop.example/g03311/laws.FnExactAddXor", spec := "fnExactAddXor", unfollowed := true, recurses := true, plainKeys := false, apart := false, narrowed := true }
def FnExactAddXorUptoSaid : Prop := fnExactAddXorUptoRow.holds Try.pinned (OpenSpec.upto fnExactAddXorSpec)

/-- 'laws.FnExactPrune', WHERE WHAT IT READS IS OF BULK AT MOST 1048576: true; the input reads as it did. -/
def fnExactPruneUptoRow : OpenClaim := { program := "ytckfgmgnllemmaa", sum := "2cb10084af41992a1390eceaf0f320ab1fd95d7c8305c1448f02a62e94d7efe3", func := "loop.example/g03311/laws.FnExactPrune", spec := "fnExactPrune", unfollowed := true, recurses := true, plainKeys := false, apart := false, narrowed := true }
def FnExactPruneUptoSaid : Prop := fnExactPruneUptoRow.holds Try.pinned (OpenSpec.upto fnExactPruneSpec)

/-- 'laws.FnExactAddMux', WHERE WHAT IT READS IS OF BULK AT MOST 1048576: true; the input reads as it did. -/
def fnExactAddMuxUptoRow : OpenClaim := { program := "ytckfgmgnllemmaa", sum := "2cb10084af41992a1390eceaf0f320ab1fd95d7c8305c1448f02a62e94d7efe3", func := "loop.example/g03311/laws.FnExactAddMux", spec := "fnExactAddMux", unfollowed := true, recurses := true, plainKeys := false, apart := false, narrowed := true }
def FnExactAddMuxUptoSaid : Prop := fnExactAddMuxUptoRow.holds Try.pinned (OpenSpec.upto fnExactAddMuxSpec)

/-- 'laws.FnExactSweep', WHERE WHAT IT READS IS OF BULK AT MOST 1048576: true; the input reads as it did. -/
def fnExactSweepUptoRow : OpenClaim := { program := "ytckfgmgnllemmaa", sum := "2cb10084af41992a1390eceaf0f320ab1fd95d7c8305c1448f02a62e94d7efe3", func := "loop.example/g03311/laws.FnExactSweep", spec := "fnExactSweep", recurses := true, plainKeys := false, apart := false, narrowed := true }
def FnExactSweepUptoSaid : Prop := fnExactSweepUptoRow.holds Try.pinned (OpenSpec.upto fnExactSweepSpec)

/-- 'laws.FnHashRuns', WHERE WHAT IT READS IS OF BULK AT MOST 1048576: true; the input reads as it did. -/
def fnHashRunsUptoRow : OpenClaim := { program := "ytckfgmgnllemmaa", sum := "2cb10084af41992a1390eceaf0f320ab1fd95d7c8305c1448f02a62e94d7efe3", func := "loop.example/g03311/laws.FnHashRuns", spec := "fnHashRuns", recurses := true, plainKeys := false, apart := false, narrowed := true }
def FnHashRunsUptoSaid : Prop := fnHashRunsUptoRow.holds Try.pinned (OpenSpec.upto fnHashRunsSpec)

/-- 'laws.FnCoarsest', WHERE WHAT IT READS IS OF BULK AT MOST 1048576: true; the input reads as it did. -/
def fnCoarsestUptoRow : OpenClaim := { program := "ytckfgmgnllemmaa", sum := "2cb10084af41992a1390eceaf0f320ab1fd95d7c8305c1448f02a62e94d7efe3", func := "loop.example/g03311/laws.FnCoarsest", spec := "fnCoarsest", plainKeys := false, apart := false, narrowed := true }
def FnCoarsestUptoSaid : Prop := fnCoarsestUptoRow.holds Try.pinned (OpenSpec.upto fnCoarsestSpec)

/-- 'laws.FnExactRegisterClasses', WHERE WHAT IT READS IS OF BULK AT MOST 1048576: true; the input reads as it did. -/
def fnExactRegisterClassesUptoRow : OpenClaim := { program := "ytckfgmgnllemmaa", sum := "2cb10084af41992a1390eceaf0f320ab1fd95d7c8305c1448f02a62e94d7efe3", func := "loop.example/g03311/laws.FnExactRegisterClasses", spec := "fnExactRegisterClasses", plainKeys := false, apart := false, narrowed := true }
def FnExactRegisterClassesUptoSaid : Prop := fnExactRegisterClassesUptoRow.holds Try.pinned (OpenSpec.upto fnExactRegisterClassesSpec)

/-- 'laws.FnExactCutHeight', WHERE WHAT IT READS IS OF BULK AT MOST 1048576: true; the input reads as it did. -/
def fnExactCutHeightUptoRow : OpenClaim := { program := "ytckfgmgnllemmaa", sum := "2cb10084af41992a1390eceaf0f320ab1fd95d7c8305c1448f02a62e94d7efe3", func := "loop.example/g03311/laws.FnExactCutHeight", spec := "fnExactCutHeight", unfollowed := true, recurses := true, plainKeys := false, apart := false, narrowed := true }
def FnExactCutHeightUptoSaid : Prop := fnExactCutHeightUptoRow.holds Try.pinned (OpenSpec.upto fnExactCutHeightSpec)

/-- 'laws.FnRetimeAllRuns', WHERE WHAT IT READS IS OF BULK AT MOST 1048576: true; the input reads as it did. -/
def fnRetimeAllRunsUptoRow : OpenClaim := { program := "ytckfgmgnllemmaa", sum := "2cb10084af41992a1390eceaf0f320ab1fd95d7c8305c1448f02a62e94d7efe3", func := "loop.example/g03311/laws.FnRetimeAllRuns", spec := "fnRetimeAllRuns", unfollowed := true, recurses := true, plainKeys := false, apart := false, narrowed := true }
def FnRetimeAllRunsUptoSaid : Prop := fnRetimeAllRunsUptoRow.holds Try.pinned (OpenSpec.upto fnRetimeAllRunsSpec)

/-- 'laws.FnExactHash', WHERE WHAT IT READS IS OF BULK AT MOST 1048576: true; the input reads as it did. -/
def fnExactHashUptoRow : OpenClaim := { program := "ytckfgmgnllemmaa", sum := "2cb10084af41992a1390eceaf0f320ab1fd95d7c8305c1448f02a62e94d7efe3", func := "loop.example/g03311/laws.FnExactHash", spec := "fnExactHash", recurses := true, plainKeys := false, apart := false, narrowed := true }
def FnExactHashUptoSaid : Prop := fnExactHashUptoRow.holds Try.pinned (OpenSpec.upto fnExactHashSpec)

/-- 'laws.FnExactLabels', WHERE WHAT IT READS IS OF BULK AT MOST 1048576: true; the input reads as it did. -/
def fnExactLabelsUptoRow : OpenClaim := { program := "ytckfgmgnllemmaa", sum := "2cb10084af41992a1390eceaf0f320ab1fd95d7c8305c1448f02a62e94d7efe3", func := "loop.example/g03311/laws.FnExactLabels", spec := "fnExactLabels", unfollowed := true, recurses := true, plainKeys := false, apart := false, narrowed := true }
def FnExactLabelsUptoSaid : Prop := fnExactLabelsUptoRow.holds Try.pinned (OpenSpec.upto fnExactLabelsSpec)

end Rows
end Go.Proofs.Ytckfgmgnllemmaa
