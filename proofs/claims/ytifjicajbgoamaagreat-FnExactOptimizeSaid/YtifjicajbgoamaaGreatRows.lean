/-
  No cell of these rows narrows 'for every input' (looked for: loops, veiled, ifaces, maps, wideKeys, modest, calm, conditions, laid).
  DERIVED. THE GIVEN ROWS OF THIS SEAT. 3 by the template 'for every input the law returns true; each argument reads behind the call as it read before'; 0 by the template 'total and deterministic' (their statements: YtifjicajbgoamaaGreatTotals.lean).
  GIVEN WITH THE SEED: the statements are not yours to turn. If you find one false, say at which input.
  Laid BY PROGRAM, IN A SANDBOX (cutbox-rows.mjs): the forced cells as the released guide's own fill.sh prints them over the translation 203017e2d1563f30… (all of the seat's roots in one cut). By AI agents, Wed Nov 11 2026. No macro, syntax, notation, axiom, sorry.
-/
import Derived.Test.YtifjicajbgoamaaGreatChecked
import GoSem.Claim
import GoSem.ClaimJoined
import GoSem.ClaimMapViews
import Derived.JoinedTies
import Derived.KernelRfl
namespace Go.Proofs.YtifjicajbgoamaaGreat
/- THE CELL 'sum', in the pinned program and in every row, IS THE sha256 OF THE DUMP (.gsa) THAT YtifjicajbgoamaaGreatProg.lean LOADS. Nothing in Lean hashes anything: it is a label: what it is worth is what the hold of that sum in a sandbox is worth. -/
noncomputable def Tryz.pinned : Pinned := { name := "ytifjicajbgoamaagreat", sum := "203017e2d1563f30e45ac1e8d5ae6703c7965182043a5b25d810bf7c3babd13d", checked := Tryz.checked }
namespace Rows
def none {H : Type} : Left H := { results := [], args := [] }

/-- 'laws.FnExactRefactorAt': WHATEVER THE INPUT: true; the input reads as it did. -/
def fnExactRefactorAtSpec : ChangeSpec := { name := "fnExactRefactorAt", fn := fun _ => fun
  | [d1, d2, d3] => { results := [.lit (.bool true)], args := [d1, d2, d3] }
  | _ => none }
def fnExactRefactorAtRow : OpenClaim := { program := "ytifjicajbgoamaagreat", sum := "203017e2d1563f30e45ac1e8d5ae6703c7965182043a5b25d810bf7c3babd13d", func := "loop.example/g03311/laws.FnExactRefactorAt", spec := "fnExactRefactorAt", unfollowed := true, recurses := true, apart := false }
def FnExactRefactorAtSaid : Prop := fnExactRefactorAtRow.holds Tryz.pinned (OpenSpec.ofChange fnExactRefactorAtSpec)

/-- ITS FALSE NEIGHBOUR: 'it returns false'. Refute it at one input. -/
def fnExactRefactorAtWrong : ChangeSpec := { name := "fnExactRefactorAt", fn := fun _ => fun
  | [d1, d2, d3] => { results := [.lit (.bool false)], args := [d1, d2, d3] }
  | _ => none }
def FnExactRefactorAtWrongFalsely : Prop := fnExactRefactorAtRow.holds Tryz.pinned (OpenSpec.ofChange fnExactRefactorAtWrong)

/-- 'laws.FnExactRefactor': WHATEVER THE INPUT: true; the input reads as it did. -/
def fnExactRefactorSpec : ChangeSpec := { name := "fnExactRefactor", fn := fun _ => fun
  | [d] => { results := [.lit (.bool true)], args := [d] }
  | _ => none }
def fnExactRefactorRow : OpenClaim := { program := "ytifjicajbgoamaagreat", sum := "203017e2d1563f30e45ac1e8d5ae6703c7965182043a5b25d810bf7c3babd13d", func := "loop.example/g03311/laws.FnExactRefactor", spec := "fnExactRefactor", unfollowed := true, recurses := true, apart := false }
def FnExactRefactorSaid : Prop := fnExactRefactorRow.holds Tryz.pinned (OpenSpec.ofChange fnExactRefactorSpec)

/-- ITS FALSE NEIGHBOUR: 'it returns false'. Refute it at one input. -/
def fnExactRefactorWrong : ChangeSpec := { name := "fnExactRefactor", fn := fun _ => fun
  | [d] => { results := [.lit (.bool false)], args := [d] }
  | _ => none }
def FnExactRefactorWrongFalsely : Prop := fnExactRefactorRow.holds Tryz.pinned (OpenSpec.ofChange fnExactRefactorWrong)

/-- 'laws.FnExactOptimize': WHATEVER THE INPUT: true; the input reads as it did. -/
def fnExactOptimizeSpec : ChangeSpec := { name := "fnExactOptimize", fn := fun _ => fun
  | [d] => { results := [.lit (.bool true)], args := [d] }
  | _ => none }
def fnExactOptimizeRow : OpenClaim := { program := "ytifjicajbgoamaagreat", sum := "203017e2d1563f30e45ac1e8d5ae6703c7965182043a5b25d810bf7c3babd13d", func := "loop.example/g03311/laws.FnExactOptimize", spec := "fnExactOptimize", unfollowed := true, recurses := true, apart := false }
def FnExactOptimizeSaid : Prop := fnExactOptimizeRow.holds Tryz.pinned (OpenSpec.ofChange fnExactOptimizeSpec)

/-- ITS FALSE NEIGHBOUR: 'it returns false'. Refute it at one input. -/
def fnExactOptimizeWrong : ChangeSpec := { name := "fnExactOptimize", fn := fun _ => fun
  | [d] => { results := [.lit (.bool false)], args := [d] }
  | _ => none }
def FnExactOptimizeWrongFalsely : Prop := fnExactOptimizeRow.holds Tryz.pinned (OpenSpec.ofChange fnExactOptimizeWrong)

/- THE SECOND FORM. 'bulk': how many values and letters a reading holds, each counted each time it is reached (what is shared counts as often as it is met; a slice's spare places count too). A statement '..UptoSaid' is the law's where the arguments, and the package variables that the reading takes, are together of bulk at most 1048576: NARROWER than '..Said'. Prove '..Said' where nothing that the law and all that it calls make is longer than what came in: it says more and counts as full. Else prove '..UptoSaid'. A law counts once. -/
mutual
def uptoBulk {H : Type} : DataW H → Nat
  | .lit (.string bytes) => bytes.length + 1
  | .lit _ => 1
  | .nil => 1
  | .ptr d => uptoBulk d + 1
  | .slice elems spare => uptoBulkAll elems + uptoBulkAll spare + 1
  | .agg parts => uptoBulkAll parts + 1
  | .iface _ d => uptoBulk d + 1
  | .map entries => uptoBulkEntries entries + 1
  | .held _ => 1
def uptoBulkAll {H : Type} : List (DataW H) → Nat
  | [] => 0
  | d :: r => uptoBulk d + uptoBulkAll r
def uptoBulkEntries {H : Type} : List (Lit × DataW H) → Nat
  | [] => 0
  | x :: r => uptoBulkEntry x + uptoBulkEntries r
def uptoBulkEntry {H : Type} : Lit × DataW H → Nat
  | (.string bytes, d) => bytes.length + uptoBulk d + 1
  | (_, d) => uptoBulk d + 1
 end
def uptoSmall : (H : Type) → List (DataW H) → Bool := fun _ ds => decide (uptoBulkAll ds ≤ 1048576)
def OpenSpec.upto (s : _root_.Go.ChangeSpec) : _root_.Go.OpenSpec := { _root_.Go.OpenSpec.ofChange s with cond := some uptoSmall }

/-- 'laws.FnExactRefactorAt', WHERE WHAT IT READS IS OF BULK AT MOST 1048576: true; the input reads as it did. -/
def fnExactRefactorAtUptoRow : OpenClaim := { program := "ytifjicajbgoamaagreat", sum := "203017e2d1563f30e45ac1e8d5ae6703c7965182043a5b25d810bf7c3babd13d", func := "loop.example/g03311/laws.FnExactRefactorAt", spec := "fnExactRefactorAt", unfollowed := true, recurses := true, apart := false, narrowed := true }
def FnExactRefactorAtUptoSaid : Prop := fnExactRefactorAtUptoRow.holds Tryz.pinned (OpenSpec.upto fnExactRefactorAtSpec)

/-- 'laws.FnExactRefactor', WHERE WHAT IT READS IS OF BULK AT MOST 1048576: true; the input reads as it did. -/
def fnExactRefactorUptoRow : OpenClaim := { program := "ytifjicajbgoamaagreat", sum := "203017e2d1563f30e45ac1e8d5ae6703c7965182043a5b25d810bf7c3babd13d", func := "loop.example/g03311/laws.FnExactRefactor", spec := "fnExactRefactor", unfollowed := true, recurses := true, apart := false, narrowed := true }
def FnExactRefactorUptoSaid : Prop := fnExactRefactorUptoRow.holds Tryz.pinned (OpenSpec.upto fnExactRefactorSpec)

/-- 'laws.FnExactOptimize', WHERE WHAT IT READS IS OF BULK AT MOST 1048576: true; the input reads as it did. -/
def fnExactOptimizeUptoRow : OpenClaim := { program := "ytifjicajbgoamaagreat", sum := "203017e2d1563f30e45ac1e8d5ae6703c7965182043a5b25d810bf7c3babd13d", func := "loop.example/g03311/laws.FnExactOptimize", spec := "fnExactOptimize", unfollowed := true, recurses := true, apart := false, narrowed := true }
def FnExactOptimizeUptoSaid : Prop := fnExactOptimizeUptoRow.holds Tryz.pinned (OpenSpec.upto fnExactOptimizeSpec)

end Rows
end Go.Proofs.YtifjicajbgoamaaGreat
