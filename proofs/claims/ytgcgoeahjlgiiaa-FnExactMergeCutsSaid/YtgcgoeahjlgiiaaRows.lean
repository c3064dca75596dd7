/-
  No cell of these rows narrows 'for every input' (looked for: loops, veiled, ifaces, maps, wideKeys, modest, calm, conditions, laid).
  DERIVED. THE GIVEN ROWS OF THIS SEAT. 6 by the template 'for every input the law returns true; each argument reads behind the call as it read before'; 0 by the template 'total and deterministic' (their statements: YtgcgoeahjlgiiaaTotals.lean).
  GIVEN WITH THE SEED: the statements are not yours to turn. If you find one false, say at which input.
  Laid BY PROGRAM, IN A SANDBOX (cutbox-rows.mjs): the forced cells as the released guide's own fill.sh prints them over the translation 3ef53c8d3aa82a64… (all of the seat's roots in one cut). By AI agents, Wed Nov 11 2026. No macro, syntax, notation, axiom, sorry.
-/
import Derived.Test.YtgcgoeahjlgiiaaChecked
import GoSem.Claim
import GoSem.ClaimJoined
import GoSem.ClaimMapViews
import Derived.JoinedTies
import Derived.KernelRfl
namespace Go.Proofs.Ytgcgoeahjlgiiaa
/- THE CELL 'sum', in the pinned program and in every row, IS THE sha256 OF THE DUMP (.gsa) THAT YtgcgoeahjlgiiaaProg.lean LOADS. Nothing in Lean hashes anything: it is a label: what it is worth is what the hold of that sum in a sandbox is worth. -/
noncomputable def Try.pinned : Pinned := { name := "ytgcgoeahjlgiiaa", sum := "3ef53c8d3aa82a648e0a45abaf86d7c0bfff501e2e54a530fee5c8307116c28e", checked := Try.checked }
namespace Rows
def none {H : Type} : Left H := { results := [], args := [] }

/-- 'laws.FnExactLitValue': WHATEVER THE INPUT: true; the input reads as it did. -/
def fnExactLitValueSpec : ChangeSpec := { name := "fnExactLitValue", fn := fun _ => fun
  | [d1, d2] => { results := [.lit (.bool true)], args := [d1, d2] }
  | _ => none }
def fnExactLitValueRow : OpenClaim := { program := "ytgcgoeahjlgiiaa", sum := "3ef53c8d3aa82a648e0a45abaf86d7c0bfff501e2e54a530fee5c8307116c28e", func := "loop.example/g03311/laws.FnExactLitValue", spec := "fnExactLitValue", apart := false }
def FnExactLitValueSaid : Prop := fnExactLitValueRow.holds Try.pinned (OpenSpec.ofChange fnExactLitValueSpec)

/-- ITS FALSE NEIGHBOUR: 'it returns false'. Refute it at one input. -/
def fnExactLitValueWrong : ChangeSpec := { name := "fnExactLitValue", fn := fun _ => fun
  | [d1, d2] => { results := [.lit (.bool false)], args := [d1, d2] }
  | _ => none }
def FnExactLitValueWrongFalsely : Prop := fnExactLitValueRow.holds Try.pinned (OpenSpec.ofChange fnExactLitValueWrong)

/-- 'laws.FnExactSeqNext': WHATEVER THE INPUT: true; the input reads as it did. -/
def fnExactSeqNextSpec : ChangeSpec := { name := "fnExactSeqNext", fn := fun _ => fun
  | [d1, d2, d3] => { results := [.lit (.bool true)], args := [d1, d2, d3] }
  | _ => none }
def fnExactSeqNextRow : OpenClaim := { program := "ytgcgoeahjlgiiaa", sum := "3ef53c8d3aa82a648e0a45abaf86d7c0bfff501e2e54a530fee5c8307116c28e", func := "loop.example/g03311/laws.FnExactSeqNext", spec := "fnExactSeqNext", apart := false }
def FnExactSeqNextSaid : Prop := fnExactSeqNextRow.holds Try.pinned (OpenSpec.ofChange fnExactSeqNextSpec)

/-- ITS FALSE NEIGHBOUR: 'it returns false'. Refute it at one input. -/
def fnExactSeqNextWrong : ChangeSpec := { name := "fnExactSeqNext", fn := fun _ => fun
  | [d1, d2, d3] => { results := [.lit (.bool false)], args := [d1, d2, d3] }
  | _ => none }
def FnExactSeqNextWrongFalsely : Prop := fnExactSeqNextRow.holds Try.pinned (OpenSpec.ofChange fnExactSeqNextWrong)

/-- 'laws.FnExactCutLess': WHATEVER THE INPUT: true; the input reads as it did. -/
def fnExactCutLessSpec : ChangeSpec := { name := "fnExactCutLess", fn := fun _ => fun
  | [d1, d2] => { results := [.lit (.bool true)], args := [d1, d2] }
  | _ => none }
def fnExactCutLessRow : OpenClaim := { program := "ytgcgoeahjlgiiaa", sum := "3ef53c8d3aa82a648e0a45abaf86d7c0bfff501e2e54a530fee5c8307116c28e", func := "loop.example/g03311/laws.FnExactCutLess", spec := "fnExactCutLess", apart := false }
def FnExactCutLessSaid : Prop := fnExactCutLessRow.holds Try.pinned (OpenSpec.ofChange fnExactCutLessSpec)

/-- ITS FALSE NEIGHBOUR: 'it returns false'. Refute it at one input. -/
def fnExactCutLessWrong : ChangeSpec := { name := "fnExactCutLess", fn := fun _ => fun
  | [d1, d2] => { results := [.lit (.bool false)], args := [d1, d2] }
  | _ => none }
def FnExactCutLessWrongFalsely : Prop := fnExactCutLessRow.holds Try.pinned (OpenSpec.ofChange fnExactCutLessWrong)

/-- 'laws.FnExactPackBits': WHATEVER THE INPUT: true; the input reads as it did. -/
def fnExactPackBitsSpec : ChangeSpec := { name := "fnExactPackBits", fn := fun _ => fun
  | [d1, d2] => { results := [.lit (.bool true)], args := [d1, d2] }
  | _ => none }
def fnExactPackBitsRow : OpenClaim := { program := "ytgcgoeahjlgiiaa", sum := "3ef53c8d3aa82a648e0a45abaf86d7c0bfff501e2e54a530fee5c8307116c28e", func := "loop.example/g03311/laws.FnExactPackBits", spec := "fnExactPackBits", apart := false }
def FnExactPackBitsSaid : Prop := fnExactPackBitsRow.holds Try.pinned (OpenSpec.ofChange fnExactPackBitsSpec)

/-- ITS FALSE NEIGHBOUR: 'it returns false'. Refute it at one input. -/
def fnExactPackBitsWrong : ChangeSpec := { name := "fnExactPackBits", fn := fun _ => fun
  | [d1, d2] => { results := [.lit (.bool false)], args := [d1, d2] }
  | _ => none }
def FnExactPackBitsWrongFalsely : Prop := fnExactPackBitsRow.holds Try.pinned (OpenSpec.ofChange fnExactPackBitsWrong)

/-- 'laws.FnExactUnpackBits': WHATEVER THE INPUT: true; the input reads as it did. -/
def fnExactUnpackBitsSpec : ChangeSpec := { name := "fnExactUnpackBits", fn := fun _ => fun
  | [d1, d2] => { results := [.lit (.bool true)], args := [d1, d2] }
  | _ => none }
def fnExactUnpackBitsRow : OpenClaim := { program := "ytgcgoeahjlgiiaa", sum := "3ef53c8d3aa82a648e0a45abaf86d7c0bfff501e2e54a530fee5c8307116c28e", func := "loop.example/g03311/laws.FnExactUnpackBits", spec := "fnExactUnpackBits", apart := false }
def FnExactUnpackBitsSaid : Prop := fnExactUnpackBitsRow.holds Try.pinned (OpenSpec.ofChange fnExactUnpackBitsSpec)

/-- ITS FALSE NEIGHBOUR: 'it returns false'. Refute it at one input. -/
def fnExactUnpackBitsWrong : ChangeSpec := { name := "fnExactUnpackBits", fn := fun _ => fun
  | [d1, d2] => { results := [.lit (.bool false)], args := [d1, d2] }
  | _ => none }
def FnExactUnpackBitsWrongFalsely : Prop := fnExactUnpackBitsRow.holds Try.pinned (OpenSpec.ofChange fnExactUnpackBitsWrong)

/-- 'laws.FnExactMergeCuts': WHATEVER THE INPUT: true; the input reads as it did. -/
def fnExactMergeCutsSpec : ChangeSpec := { name := "fnExactMergeCuts", fn := fun _ => fun
  | [d1, d2] => { results := [.lit (.bool true)], args := [d1, d2] }
  | _ => none }
def fnExactMergeCutsRow : OpenClaim := { program := "ytgcgoeahjlgiiaa", sum := "3ef53c8d3aa82a648e0a45abaf86d7c0bfff501e2e54a530fee5c8307116c28e", func := "loop.example/g03311/laws.FnExactMergeCuts", spec := "fnExactMergeCuts", apart := false }
def FnExactMergeCutsSaid : Prop := fnExactMergeCutsRow.holds Try.pinned (OpenSpec.ofChange fnExactMergeCutsSpec)

/-- ITS FALSE NEIGHBOUR: 'it returns false'. Refute it at one input. -/
def fnExactMergeCutsWrong : ChangeSpec := { name := "fnExactMergeCuts", fn := fun _ => fun
  | [d1, d2] => { results := [.lit (.bool false)], args := [d1, d2] }
  | _ => none }
def FnExactMergeCutsWrongFalsely : Prop := fnExactMergeCutsRow.holds Try.pinned (OpenSpec.ofChange fnExactMergeCutsWrong)

/- THE SECOND FORM. 'bulk': how many values and letters a reading holds, each counted each time it is reached (what is shared counts as often as it is met; a slice's spare places count too). A statement '..UptoSaid' is the law's where the arguments, and the package variables that the reading takes, are together of bulk at most 1048576: NARROWER than '..Said'. Prove '..Said' where nothing that the law and all that it calls make is longer than what came in: it says more and counts as full. Else prove '..UptoSaid'. A law counts once. -/
mutual
def uptoBulk {H : Type} : DataW H → Nat
  | .lit (.string bytes) => bytes.length + 1
  | .lit _ => 1
  | .nil => 1
  | .ptr d => uptoBulk d + 1
  | .slice elems spare => uptoBulkAll elems + uptoBulkAll spare + 1
  | .agg parts => uptoBulkAll parts + 1
  | .iface _ d => uptoBulk d + 1
  | .map entries => uptoBulkEntries entries + 1
  | .held _ => 1
def uptoBulkAll {H : Type} : List (DataW H) → Nat
  | [] => 0
  | d :: r => uptoBulk d + uptoBulkAll r
def uptoBulkEntries {H : Type} : List (Lit × DataW H) → Nat
  | [] => 0
  | x :: r => uptoBulkEntry x + uptoBulkEntries r
def uptoBulkEntry {H : Type} : Lit × DataW H → Nat
  | (.string bytes, d) => bytes.length + uptoBulk d + 1
  | (_, d) => uptoBulk d + 1
 end
def uptoSmall : (H : Type) → List (DataW H) → Bool := fun _ ds => decide (uptoBulkAll ds ≤ 1048576)
def OpenSpec.upto (s : _root_.Go.ChangeSpec) : _root_.Go.OpenSpec := { _root_.Go.OpenSpec.ofChange s with cond := some uptoSmall }

/-- 'laws.FnExactLitValue', WHERE WHAT IT READS IS OF BULK AT MOST 1048576: true; the input reads as it did. -/
def fnExactLitValueUptoRow : OpenClaim := { program := "ytgcgoeahjlgiiaa", sum := "3ef53c8d3aa82a648e0a45abaf86d7c0bfff501e2e54a530fee5c8307116c28e", func := "loop.example/g03311/laws.FnExactLitValue", spec := "fnExactLitValue", apart := false, narrowed := true }
def FnExactLitValueUptoSaid : Prop := fnExactLitValueUptoRow.holds Try.pinned (OpenSpec.upto fnExactLitValueSpec)

/-- 'laws.FnExactSeqNext', WHERE WHAT IT READS IS OF BULK AT MOST 1048576: true; the input reads as it did. -/
def fnExactSeqNextUptoRow : OpenClaim := { program := "ytgcgoeahjlgiiaa", sum := "3ef53c8d3aa82a648e0a45abaf86d7c0bfff501e2e54a530fee5c8307116c28e", func := "loop.example/g03311/laws.FnExactSeqNext", spec := "fnExactSeqNext", apart := false, narrowed := true }
def FnExactSeqNextUptoSaid : Prop := fnExactSeqNextUptoRow.holds Try.pinned (OpenSpec.upto fnExactSeqNextSpec)

/-- 'laws.FnExactCutLess', WHERE WHAT IT READS IS OF BULK AT MOST 1048576: true; the input reads as it did. -/
def fnExactCutLessUptoRow : OpenClaim := { program := "ytgcgoeahjlgiiaa", sum := "3ef53c8d3aa82a648e0a45abaf86d7c0bfff501e2e54a530fee5c8307116c28e", func := "loop.example/g03311/laws.FnExactCutLess", spec := "fnExactCutLess", apart := false, narrowed := true }
def FnExactCutLessUptoSaid : Prop := fnExactCutLessUptoRow.holds Try.pinned (OpenSpec.upto fnExactCutLessSpec)

/-- 'laws.FnExactPackBits', WHERE WHAT IT READS IS OF BULK AT MOST 1048576: true; the input reads as it did. -/
def fnExactPackBitsUptoRow : OpenClaim := { program := "ytgcgoeahjlgiiaa", sum := "3ef53c8d3aa82a648e0a45abaf86d7c0bfff501e2e54a530fee5c8307116c28e", func := "loop.example/g03311/laws.FnExactPackBits", spec := "fnExactPackBits", apart := false, narrowed := true }
def FnExactPackBitsUptoSaid : Prop := fnExactPackBitsUptoRow.holds Try.pinned (OpenSpec.upto fnExactPackBitsSpec)

/-- 'laws.FnExactUnpackBits', WHERE WHAT IT READS IS OF BULK AT MOST 1048576: true; the input reads as it did. -/
def fnExactUnpackBitsUptoRow : OpenClaim := { program := "ytgcgoeahjlgiiaa", sum := "3ef53c8d3aa82a648e0a45abaf86d7c0bfff501e2e54a530fee5c8307116c28e", func := "loop.example/g03311/laws.FnExactUnpackBits", spec := "fnExactUnpackBits", apart := false, narrowed := true }
def FnExactUnpackBitsUptoSaid : Prop := fnExactUnpackBitsUptoRow.holds Try.pinned (OpenSpec.upto fnExactUnpackBitsSpec)

/-- 'laws.FnExactMergeCuts', WHERE WHAT IT READS IS OF BULK AT MOST 1048576: true; the input reads as it did. -/
def fnExactMergeCutsUptoRow : OpenClaim := { program := "ytgcgoeahjlgiiaa", sum := "3ef53c8d3aa82a648e0a45abaf86d7c0bfff501e2e54a530fee5c8307116c28e", func := "loop.example/g03311/laws.FnExactMergeCuts", spec := "fnExactMergeCuts", apart := false, narrowed := true }
def FnExactMergeCutsUptoSaid : Prop := fnExactMergeCutsUptoRow.holds Try.pinned (OpenSpec.upto fnExactMergeCutsSpec)

end Rows
end Go.Proofs.Ytgcgoeahjlgiiaa
