/- Texts that belong together; each under its stated conditions. -/
import Derived.Test.YtifjicajbgoamaaGreatGraph1
set_option linter.all false
section
/- The contracts of the functions that give a net's roots, levels and depth; each under its stated conditions. -/
namespace Go.Proofs
open Go.Xw
set_option maxRecDepth 100000
set_option maxHeartbeats 1000000
attribute [local irreducible] Holds elemAddr

end Go.Proofs
end
section
/- The contracts of the functions that give a net's levels and depth; each under its stated conditions. -/
namespace Go.Xw
theorem NetOkP.nodes {x : NetA} (h : NetOkP x.n) : 1 ≤ firstAndL x.n ∧ firstAndL x.n + x.ands.length = nodesL x.n ∧ nodesL x.n ≤ 333 := by
  have h1 := h.size'
  have h2 := nodesL_eq x
  have h3 := firstAndL_eq x
  omega
theorem NetOkP.and_ {x : NetA} (h : NetOkP x.n) {i : Nat} (hi : i < x.ands.length) : 0 ≤ (x.ands.getD i default).1 ∧ (x.ands.getD i default).1 / 2 < firstAndL x.n + i ∧ 0 ≤ (x.ands.getD i default).2 ∧ (x.ands.getD i default).2 / 2 < firstAndL x.n + i := by
  have h1 := h.ands i hi
  unfold litP at h1
  exact ⟨h1.1.1, h1.1.2, h1.2.1, h1.2.2⟩
end Go.Xw
namespace Go.Proofs
open Go.Xw
set_option maxRecDepth 100000
set_option maxHeartbeats 1000000
attribute [local irreducible] Holds elemAddr

theorem rootsP {x : NetA} (hok : NetOkP x.n) {i : Nat} (hi : i < (rootsL x.n).length) : 0 ≤ (rootsL x.n).getD i default ∧ (rootsL x.n).getD i default / 2 < nodesL x.n := by
  have := hok.roots i hi
  exact this
theorem rootsB {x : NetA} (hok : NetOkP x.n) : (rootsL x.n).length ≤ 100 := by
  rw [rootsL, x.slen]; exact hok.bound _ (Nat.le_refl _)
end Go.Proofs
end
section
/- The functions on a net alone, in the form that the laws take; each under its stated conditions. -/
namespace Go.Proofs
open Go.Xw
set_option maxRecDepth 100000
theorem markNet_u {w0 w : World} {L : List Res} {x : NetA} {f : Res → List Res} (hp : Hp w0 w L) [hu : Upd L (rNet x) f] (k : Int) (hs : NetS x.n) (hk : 0 ≤ k) (hk2 : k < 1000000000000) :
    Ret Tryz.prog 13 [x.v, .int .i64 k] w (fun v w' => v = .int .i64 (kNet k x) ∧ Hp w0 w' (f (rNet (mNet k x)))) := by
  obtain ⟨M, h1, h2⟩ := hu.h
  exact (markNet_h (hp.perm h1) k hs hk hk2).mono fun _ _ ⟨q1, q2⟩ => ⟨q1, q2.perm (h2 _).symm⟩
end Go.Proofs
end
