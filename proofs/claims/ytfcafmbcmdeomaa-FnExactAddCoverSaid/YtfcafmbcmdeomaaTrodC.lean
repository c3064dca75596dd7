/- What the form of the arguments says of a list of cubes; no condition. -/
import Derived.Test.YtfcafmbcmdeomaaTrod
import Derived.KernelRfl
import Derived.ProofKit
import Derived.Deep.Slices
import Derived.Deep.Fields
import Derived.ChangeSame
import Derived.ChangeArms
import Derived.ChangeShapes
set_option linter.all false
namespace Go.Proofs
open Go.Xw Go.Deep Go.ChangeShapes Go.WideShapes
set_option maxRecDepth 100000

theorem dec_cube {H : Type} {enc : TypeId × Value → H} {w : World} {base : Nat} {spare : Nat → Bool} {held : Bool} {fuel : Nat} {cs : List Value} {y : DataW H × List MemPlace}
    (h : DataW.trod enc Try.prog w base spare held fuel 110 cs = some y) : ∃ p : Int × Int, cs = eII p ∧ i64R p.1 ∧ i64R p.2 := by
  obtain ⟨h1, h2⟩ := dec_fields Try.underlying110 (by kernel_rfl) (by kernel_rfl) h
  obtain ⟨n0, v0, z0, c0, t0⟩ := h2 0 _ rfl
  obtain ⟨n1, v1, z1, c1, t1⟩ := h2 1 _ rfl
  obtain ⟨x0, e0, r0⟩ := dec_int Try.underlying3 t0
  obtain ⟨x1, e1, r1⟩ := dec_int Try.underlying3 t1
  injection e0 with e0 _
  injection e1 with e1 _
  subst e0; subst e1
  refine ⟨(x0, x1), ?_, r0, r1⟩
  match cs, h1 with
  | [a, b], _ => simp at c0 c1; rw [c0, c1]; rfl
theorem dec_cubes {H : Type} {enc : TypeId × Value → H} {w : World} {base : Nat} {spare : Nat → Bool} {held : Bool} {fuel : Nat} {cs : List Value} {y : DataW H × List MemPlace}
    (h : DataW.trod enc Try.prog w base spare held fuel 50 cs = some y) : ∃ (a : Option Addr) (X : List (Int × Int)) (c : Nat), cs = [.slice a X.length c] ∧ Sl w a X.length 2 (fL eII X) ∧ X.length ≤ maxLen ∧ ∀ i, i < X.length → i64R (X.getD i default).1 ∧ i64R (X.getD i default).2 := by
  obtain ⟨a, X, c, h1, h2, _, h3, h4⟩ := dec_slice Try.underlying50 (by kernel_rfl) eII_ok (fun _ _ _ hz => dec_cube hz) h
  exact ⟨a, X, c, h1, h2, h3, h4⟩
end Go.Proofs
