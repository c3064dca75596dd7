/- What the form of the arguments says of a list of operators; no condition. -/
import Derived.Test.YtiepmliokblkjaaTrod
import Derived.Test.YtiepmliokblkjaaOps
import Derived.KernelRfl
import Derived.ProofKit
import Derived.Deep.Slices
import Derived.Deep.Fields
import Derived.ChangeSame
import Derived.ChangeArms
import Derived.ChangeShapes
set_option linter.all false
namespace Go.Proofs
open Go.Xw Go.Deep Go.ChangeShapes Go.WideShapes
set_option maxRecDepth 100000
theorem dec_op {H : Type} {enc : TypeId × Value → H} {w : World} {base : Nat} {spare : Nat → Bool} {held : Bool} {fuel : Nat} {cs : List Value} {y : DataW H × List MemPlace}
  (h : DataW.trod enc Try.prog w base spare held fuel 67 cs = some y) : ∃ p : OpL, cs = eOp p ∧ i64R p.kind ∧ i64R p.a ∧ i64R p.b := by
 obtain ⟨h1, h2⟩ := dec_fields Try.underlying67 (by kernel_rfl) (by kernel_rfl) h
 obtain ⟨n0, v0, z0, c0, t0⟩ := h2 0 _ rfl
 obtain ⟨n1, v1, z1, c1, t1⟩ := h2 1 _ rfl
 obtain ⟨n2, v2, z2, c2, t2⟩ := h2 2 _ rfl
 obtain ⟨x0, e0, r0⟩ := dec_int Try.underlying3 t0
 obtain ⟨x1, e1, r1⟩ := dec_int Try.underlying3 t1
 obtain ⟨x2, e2, r2⟩ := dec_int Try.underlying3 t2
 injection e0 with e0 _
 injection e1 with e1 _
 injection e2 with e2 _
 subst e0; subst e1; subst e2
 refine ⟨⟨x0, x1, x2⟩, ?_, r0, r1, r2⟩
 match cs, h1 with
 | [a, b, c], _ => simp at c0 c1 c2; rw [c0, c1, c2]; rfl
theorem dec_ops {H : Type} {enc : TypeId × Value → H} {w : World} {base : Nat} {spare : Nat → Bool} {held : Bool} {fuel : Nat} {cs : List Value} {y : DataW H × List MemPlace}
  (h : DataW.trod enc Try.prog w base spare held fuel 28 cs = some y) : ∃ (a : Option Addr) (X : List OpL) (c : Nat), cs = [.slice a X.length c] ∧ Sl w a X.length 3 (fL eOp X) ∧ X.length ≤ maxLen ∧ ∀ i, i < X.length → i64R (X.getD i default).kind ∧ i64R (X.getD i default).a ∧ i64R (X.getD i default).b := by
 obtain ⟨a, X, c, h1, h2, _, h3, h4⟩ := dec_slice Try.underlying28 (by kernel_rfl) eOp_ok (fun _ _ _ hz => dec_op hz) h
 exact ⟨a, X, c, h1, h2, h3, h4⟩
end Go.Proofs
