/- The functions on a net alone, in the form that the laws take; each under its stated conditions. -/
import Derived.Test.YtiepmliokblkjaaGraph3
set_option linter.all false
namespace Go.Proofs
open Go.Xw
set_option maxRecDepth 100000
theorem markNet_u {w0 w : World} {L : List Res} {x : NetA} {f : Res → List Res} (hp : Hp w0 w L) [hu : Upd L (rNet x) f] (k : Int) (hs : NetS x.n) (hk : 0 ≤ k) (hk2 : k < 1000000000000) :
  Ret Try.prog 16 [x.v, .int .i64 k] w (fun v w' => v = .int .i64 (kNet k x) ∧ Hp w0 w' (f (rNet (mNet k x)))) := by
 obtain ⟨M, h1, h2⟩ := hu.h
 exact (markNet_h (hp.perm h1) k hs hk hk2).mono fun _ _ ⟨q1, q2⟩ => ⟨q1, q2.perm (h2 _).symm⟩
end Go.Proofs
