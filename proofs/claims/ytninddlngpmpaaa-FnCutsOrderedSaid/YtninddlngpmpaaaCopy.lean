/- The contracts of the functions that copy nets; each under its stated conditions. -/
import Derived.Test.YtninddlngpmpaaaGraph4
import Derived.Test.YtninddlngpmpaaaFam
set_option linter.all false
namespace Go.Xw
/-- one more element, whose In lies beside -/
theorem rIns_add {w0 w : World} {L : List Res} {R : List SeqA} {y : SeqA} (h : Hp w0 w (rO 3 1 eI y.ia y.ic y.ins :: rIns R :: L)) : Hp w0 w (rIns (R ++ [y]) :: L) := by
  have h1 := h.f1.unpack
  refine Hp.pack (Hp.perm h1 ?_)
  simp only [List.map_append, List.map_cons, List.map_nil, List.append_assoc]
  exact .refl _
end Go.Xw
namespace Go.Proofs
open Go.Xw
set_option maxRecDepth 100000
set_option maxHeartbeats 1000000
attribute [local irreducible] Holds elemAddr

theorem seqsOf_snoc (R : List SeqA) (y : SeqA) : seqsOf (R ++ [y]) = seqsOf R ++ [y.s] := by simp [seqsOf]
end Go.Proofs
