/-
  No cell of these rows narrows 'for every input' (looked for: loops, veiled, ifaces, maps, wideKeys, modest, calm, conditions, laid).
  DERIVED. THE GIVEN ROWS OF THIS SEAT. 7 by the template 'for every input the law returns true; each argument reads behind the call as it read before'; 0 by the template 'total and deterministic' (their statements: YtbjgekllkfnjnaaTotals.lean).
  GIVEN WITH THE SEED: the statements are not yours to turn. If you find one false, say at which input.
  Laid BY PROGRAM, IN A SANDBOX (cutbox-rows.mjs): the forced cells as the released guide's own fill.sh prints them over the translation f5556de7fe997887… (all of the seat's roots in one cut). By AI agents, Wed Nov 11 2026. No macro, syntax, notation, axiom, sorry.
-/
import Derived.Test.YtbjgekllkfnjnaaChecked
import GoSem.Claim
import GoSem.ClaimJoined
import GoSem.ClaimMapViews
import Derived.JoinedTies
import Derived.KernelRfl
namespace Go.Proofs.Ytbjgekllkfnjnaa
/- THE CELL 'sum', in the pinned program and in every row, IS THE sha256 OF THE DUMP (.gsa) THAT YtbjgekllkfnjnaaProg.lean LOADS. Nothing in Lean hashes anything: it is a label: what it is worth is what the hold of that sum in a sandbox is worth. -/
noncomputable def Try.pinned : Pinned := { name := "ytbjgekllkfnjnaa", sum := "f5556de7fe997887202fca72e6dc8d724daf81983e3d71da256d436dbe776557", checked := Try.checked }
namespace Rows
def none {H : Type} : Left H := { results := [], args := [] }

/-- 'laws.FnLabelCut': WHATEVER THE INPUT: true; the input reads as it did. -/
def fnLabelCutSpec : ChangeSpec := { name := "fnLabelCut", fn := fun _ => fun
  | [d] => { results := [.lit (.bool true)], args := [d] }
  | _ => none }
def fnLabelCutRow : OpenClaim := { program := "ytbjgekllkfnjnaa", sum := "f5556de7fe997887202fca72e6dc8d724daf81983e3d71da256d436dbe776557", func := "loop.example/g03311/laws.FnLabelCut", spec := "fnLabelCut", unfollowed := true, recurses := true, plainKeys := false, apart := false }
def FnLabelCutSaid : Prop := fnLabelCutRow.holds Try.pinned (OpenSpec.ofChange fnLabelCutSpec)

/-- ITS FALSE NEIGHBOUR: 'it returns false'. Refute it at one input. -/
def fnLabelCutWrong : ChangeSpec := { name := "fnLabelCut", fn := fun _ => fun
  | [d] => { results := [.lit (.bool false)], args := [d] }
  | _ => none }
def FnLabelCutWrongFalsely : Prop := fnLabelCutRow.holds Try.pinned (OpenSpec.ofChange fnLabelCutWrong)

/-- 'laws.FnExactCutHeight': WHATEVER THE INPUT: true; the input reads as it did. -/
def fnExactCutHeightSpec : ChangeSpec := { name := "fnExactCutHeight", fn := fun _ => fun
  | [d1, d2] => { results := [.lit (.bool true)], args := [d1, d2] }
  | _ => none }
def fnExactCutHeightRow : OpenClaim := { program := "ytbjgekllkfnjnaa", sum := "f5556de7fe997887202fca72e6dc8d724daf81983e3d71da256d436dbe776557", func := "loop.example/g03311/laws.FnExactCutHeight", spec := "fnExactCutHeight", unfollowed := true, recurses := true, plainKeys := false, apart := false }
def FnExactCutHeightSaid : Prop := fnExactCutHeightRow.holds Try.pinned (OpenSpec.ofChange fnExactCutHeightSpec)

/-- ITS FALSE NEIGHBOUR: 'it returns false'. Refute it at one input. -/
def fnExactCutHeightWrong : ChangeSpec := { name := "fnExactCutHeight", fn := fun _ => fun
  | [d1, d2] => { results := [.lit (.bool false)], args := [d1, d2] }
  | _ => none }
def FnExactCutHeightWrongFalsely : Prop := fnExactCutHeightRow.holds Try.pinned (OpenSpec.ofChange fnExactCutHeightWrong)

/-- 'laws.FnExactLabels': WHATEVER THE INPUT: true; the input reads as it did. -/
def fnExactLabelsSpec : ChangeSpec := { name := "fnExactLabels", fn := fun _ => fun
  | [d] => { results := [.lit (.bool true)], args := [d] }
  | _ => none }
def fnExactLabelsRow : OpenClaim := { program := "ytbjgekllkfnjnaa", sum := "f5556de7fe997887202fca72e6dc8d724daf81983e3d71da256d436dbe776557", func := "loop.example/g03311/laws.FnExactLabels", spec := "fnExactLabels", unfollowed := true, recurses := true, plainKeys := false, apart := false }
def FnExactLabelsSaid : Prop := fnExactLabelsRow.holds Try.pinned (OpenSpec.ofChange fnExactLabelsSpec)

/-- ITS FALSE NEIGHBOUR: 'it returns false'. Refute it at one input. -/
def fnExactLabelsWrong : ChangeSpec := { name := "fnExactLabels", fn := fun _ => fun
  | [d] => { results := [.lit (.bool false)], args := [d] }
  | _ => none }
def FnExactLabelsWrongFalsely : Prop := fnExactLabelsRow.holds Try.pinned (OpenSpec.ofChange fnExactLabelsWrong)

/-- 'laws.FnExactLabelCut': WHATEVER THE INPUT: true; the input reads as it did. -/
def fnExactLabelCutSpec : ChangeSpec := { name := "fnExactLabelCut", fn := fun _ => fun
  | [d1, d2] => { results := [.lit (.bool true)], args := [d1, d2] }
  | _ => none }
def fnExactLabelCutRow : OpenClaim := { program := "ytbjgekllkfnjnaa", sum := "f5556de7fe997887202fca72e6dc8d724daf81983e3d71da256d436dbe776557", func := "loop.example/g03311/laws.FnExactLabelCut", spec := "fnExactLabelCut", unfollowed := true, recurses := true, plainKeys := false, apart := false }
def FnExactLabelCutSaid : Prop := fnExactLabelCutRow.holds Try.pinned (OpenSpec.ofChange fnExactLabelCutSpec)

/-- ITS FALSE NEIGHBOUR: 'it returns false'. Refute it at one input. -/
def fnExactLabelCutWrong : ChangeSpec := { name := "fnExactLabelCut", fn := fun _ => fun
  | [d1, d2] => { results := [.lit (.bool false)], args := [d1, d2] }
  | _ => none }
def FnExactLabelCutWrongFalsely : Prop := fnExactLabelCutRow.holds Try.pinned (OpenSpec.ofChange fnExactLabelCutWrong)

/-- 'laws.FnExactHeightCut': WHATEVER THE INPUT: true; the input reads as it did. -/
def fnExactHeightCutSpec : ChangeSpec := { name := "fnExactHeightCut", fn := fun _ => fun
  | [d1, d2, d3] => { results := [.lit (.bool true)], args := [d1, d2, d3] }
  | _ => none }
def fnExactHeightCutRow : OpenClaim := { program := "ytbjgekllkfnjnaa", sum := "f5556de7fe997887202fca72e6dc8d724daf81983e3d71da256d436dbe776557", func := "loop.example/g03311/laws.FnExactHeightCut", spec := "fnExactHeightCut", unfollowed := true, recurses := true, plainKeys := false, apart := false }
def FnExactHeightCutSaid : Prop := fnExactHeightCutRow.holds Try.pinned (OpenSpec.ofChange fnExactHeightCutSpec)

/-- ITS FALSE NEIGHBOUR: 'it returns false'. Refute it at one input. -/
def fnExactHeightCutWrong : ChangeSpec := { name := "fnExactHeightCut", fn := fun _ => fun
  | [d1, d2, d3] => { results := [.lit (.bool false)], args := [d1, d2, d3] }
  | _ => none }
def FnExactHeightCutWrongFalsely : Prop := fnExactHeightCutRow.holds Try.pinned (OpenSpec.ofChange fnExactHeightCutWrong)

/-- 'laws.FnMergedRuns': WHATEVER THE INPUT: true; the input reads as it did. -/
def fnMergedRunsSpec : ChangeSpec := { name := "fnMergedRuns", fn := fun _ => fun
  | [d] => { results := [.lit (.bool true)], args := [d] }
  | _ => none }
def fnMergedRunsRow : OpenClaim := { program := "ytbjgekllkfnjnaa", sum := "f5556de7fe997887202fca72e6dc8d724daf81983e3d71da256d436dbe776557", func := "loop.example/g03311/laws.FnMergedRuns", spec := "fnMergedRuns", unfollowed := true, recurses := true, plainKeys := false, apart := false }
def FnMergedRunsSaid : Prop := fnMergedRunsRow.holds Try.pinned (OpenSpec.ofChange fnMergedRunsSpec)

/-- ITS FALSE NEIGHBOUR: 'it returns false'. Refute it at one input. -/
def fnMergedRunsWrong : ChangeSpec := { name := "fnMergedRuns", fn := fun _ => fun
  | [d] => { results := [.lit (.bool false)], args := [d] }
  | _ => none }
def FnMergedRunsWrongFalsely : Prop := fnMergedRunsRow.holds Try.pinned (OpenSpec.ofChange fnMergedRunsWrong)

/-- 'laws.FnExactMergeRegisters': WHATEVER THE INPUT: true; the input reads as it did. -/
def fnExactMergeRegistersSpec : ChangeSpec := { name := "fnExactMergeRegisters", fn := fun _ => fun
  | [d] => { results := [.lit (.bool true)], args := [d] }
  | _ => none }
def fnExactMergeRegistersRow : OpenClaim := { program := "ytbjgekllkfnjnaa", sum := "f5556de7fe997887202fca72e6dc8d724daf81983e3d71da256d436dbe776557", func := "loop.example/g03311/laws.FnExactMergeRegisters", spec := "fnExactMergeRegisters", unfollowed := true, recurses := true, plainKeys := false, apart := false }
def FnExactMergeRegistersSaid : Prop := fnExactMergeRegistersRow.holds Try.pinned (OpenSpec.ofChange fnExactMergeRegistersSpec)

/-- ITS FALSE NEIGHBOUR: 'it returns false'. Refute it at one input. -/
def fnExactMergeRegistersWrong : ChangeSpec := { name := "fnExactMergeRegisters", fn := fun _ => fun
  | [d] => { results := [.lit (.bool false)], args := [d] }
  | _ => none }
def FnExactMergeRegistersWrongFalsely : Prop := fnExactMergeRegistersRow.holds Try.pinned (OpenSpec.ofChange fnExactMergeRegistersWrong)

/- THE SECOND FORM. 'bulk': how many values and letters a reading holds, each counted each time it is reached (what is shared counts as often as it is met; a slice's spare places count too). A statement '..UptoSaid' is the law's where the arguments, and the package variables that the reading takes, are together of bulk at most 1048576: NARROWER than '..Said'. Prove '..Said' where nothing that the law and all that it calls make is longer than what came in: it says more and counts as full. Else prove '..UptoSaid'. A law counts once. -/
mutual
def uptoBulk {H : Type} : DataW H → Nat
  | .lit (.string bytes) => bytes.length + 1
  | .lit _ => 1
  | .nil => 1
  | .ptr d => uptoBulk d + 1
  | .slice elems spare => uptoBulkAll elems + uptoBulkAll spare + 1
  | .agg parts => uptoBulkAll parts + 1
  | .iface _ d => uptoBulk d + 1
  | .map entries => uptoBulkEntries entries + 1
  | .held _ => 1
def uptoBulkAll {H : Type} : List (DataW H) → Nat
  | [] => 0
  | d :: r => uptoBulk d + uptoBulkAll r
def uptoBulkEntries {H : Type} : List (Lit × DataW H) → Nat
  | [] => 0
  | x :: r => uptoBulkEntry x + uptoBulkEntries r
def uptoBulkEntry {H : Type} : Lit × DataW H → Nat
  | (.string bytes, d) => bytes.length + uptoBulk d + 1
  | (_, d) => uptoBulk d + 1
 end
def uptoSmall : (H : Type) → List (DataW H) → Bool := fun _ ds => decide (uptoBulkAll ds ≤ 1048576)
def OpenSpec.upto (s : _root_.Go.ChangeSpec) : _root_.Go.OpenSpec := { _root_.Go.OpenSpec.ofChange s with cond := some uptoSmall }

/-- 'laws.FnLabelCut', WHERE WHAT IT READS IS OF BULK AT MOST 1048576: true; the input reads as it did. -/
def fnLabelCutUptoRow : OpenClaim := { program := "ytbjgekllkfnjnaa", sum := "f5556de7fe997887202fca72e6dc8d724daf81983e3d71da256d436dbe776557", func := "loop.example/g03311/laws.FnLabelCut", spec := "fnLabelCut", unfollowed := true, recurses := true, plainKeys := false, apart := false, narrowed := true }
def FnLabelCutUptoSaid : Prop := fnLabelCutUptoRow.holds Try.pinned (OpenSpec.upto fnLabelCutSpec)

/-- 'laws.FnExactCutHeight', WHERE WHAT IT READS IS OF BULK AT MOST 1048576: true; the input reads as it did. -/
def fnExactCutHeightUptoRow : OpenClaim := { program := "ytbjgekllkfnjnaa", sum := "f5556de7fe997887202fca72e6dc8d724daf81983e3d71da256d436dbe776557", func := "loop.example/g03311/laws.FnExactCutHeight", spec := "fnExactCutHeight", unfollowed := true, recurses := true, plainKeys := false, apart := false, narrowed := true }
def FnExactCutHeightUptoSaid : Prop := fnExactCutHeightUptoRow.holds Try.pinned (OpenSpec.upto fnExactCutHeightSpec)

/-- 'laws.FnExactLabels', WHERE WHAT IT READS IS OF BULK AT MOST 1048576: true; the input reads as it did. -/
def fnExactLabelsUptoRow : OpenClaim := { program := "ytbjgekllkfnjnaa", sum := "f5556de7fe997887202fca72e6dc8d724daf81983e3d71da256d436dbe776557", func := "loop.example/g03311/laws.FnExactLabels", spec := "fnExactLabels", unfollowed := true, recurses := true, plainKeys := false, apart := false, narrowed := true }
def FnExactLabelsUptoSaid : Prop := fnExactLabelsUptoRow.holds Try.pinned (OpenSpec.upto fnExactLabelsSpec)

/-- 'laws.FnExactLabelCut', WHERE WHAT IT READS IS OF BULK AT MOST 1048576: true; the input reads as it did. -/
def fnExactLabelCutUptoRow : OpenClaim := { program := "ytbjgekllkfnjnaa", sum := "f5556de7fe997887202fca72e6dc8d724daf81983e3d71da256d436dbe776557", func := "loop.example/g03311/laws.FnExactLabelCut", spec := "fnExactLabelCut", unfollowed := true, recurses := true, plainKeys := false, apart := false, narrowed := true }
def FnExactLabelCutUptoSaid : Prop := fnExactLabelCutUptoRow.holds Try.pinned (OpenSpec.upto fnExactLabelCutSpec)

/-- 'laws.FnExactHeightCut', WHERE WHAT IT READS IS OF BULK AT MOST 1048576: true; the input reads as it did. -/
def fnExactHeightCutUptoRow : OpenClaim := { program := "ytbjgekllkfnjnaa", sum := "f5556de7fe997887202fca72e6dc8d724daf81983e3d71da256d436dbe776557", func := "loop.example/g03311/laws.FnExactHeightCut", spec := "fnExactHeightCut", unfollowed := true, recurses := true, plainKeys := false, apart := false, narrowed := true }
def FnExactHeightCutUptoSaid : Prop := fnExactHeightCutUptoRow.holds Try.pinned (OpenSpec.upto fnExactHeightCutSpec)

/-- 'laws.FnMergedRuns', WHERE WHAT IT READS IS OF BULK AT MOST 1048576: true; the input reads as it did. -/
def fnMergedRunsUptoRow : OpenClaim := { program := "ytbjgekllkfnjnaa", sum := "f5556de7fe997887202fca72e6dc8d724daf81983e3d71da256d436dbe776557", func := "loop.example/g03311/laws.FnMergedRuns", spec := "fnMergedRuns", unfollowed := true, recurses := true, plainKeys := false, apart := false, narrowed := true }
def FnMergedRunsUptoSaid : Prop := fnMergedRunsUptoRow.holds Try.pinned (OpenSpec.upto fnMergedRunsSpec)

/-- 'laws.FnExactMergeRegisters', WHERE WHAT IT READS IS OF BULK AT MOST 1048576: true; the input reads as it did. -/
def fnExactMergeRegistersUptoRow : OpenClaim := { program := "ytbjgekllkfnjnaa", sum := "f5556de7fe997887202fca72e6dc8d724daf81983e3d71da256d436dbe776557", func := "loop.example/g03311/laws.FnExactMergeRegisters", spec := "fnExactMergeRegisters", unfollowed := true, recurses := true, plainKeys := false, apart := false, narrowed := true }
def FnExactMergeRegistersUptoSaid : Prop := fnExactMergeRegistersUptoRow.holds Try.pinned (OpenSpec.upto fnExactMergeRegistersSpec)

end Rows
end Go.Proofs.Ytbjgekllkfnjnaa
