set_option linter.all false
namespace Go.Xw
structure SeqL where
 kind : Int
 init : Int
 ins : List Int
 deriving DecidableEq
instance : Inhabited SeqL := ⟨⟨0, 0, []⟩⟩
structure NetL where
 inputs : Int
 seqs : List SeqL
 ands : List (Int × Int)
 outs : List Int
 deriving DecidableEq
instance : Inhabited NetL := ⟨⟨0, [], [], []⟩⟩
def sizeOk (n : NetL) : Prop := (0 ≤ n.inputs ∧ n.inputs ≤ 20) ∧ n.seqs.length ≤ 12 ∧ n.ands.length ≤ 300 ∧ n.outs.length ≤ 16
instance (n : NetL) : Decidable (sizeOk n) := by unfold sizeOk; infer_instance
def firstAndL (n : NetL) : Int := 1 + n.inputs + n.seqs.length
def nodesL (n : NetL) : Int := 1 + n.inputs + n.seqs.length + n.ands.length
def nodeCountL (n : NetL) : Int := if sizeOk n then nodesL n else 0
theorem nodeCountL_ne {n : NetL} : nodeCountL n ≠ 0 ↔ sizeOk n := by
 unfold nodeCountL nodesL
 split
 ·rename_i h
  have := h.1.1
  constructor
  ·exact fun _ => h
  ·intro _; omega
 ·rename_i h
  constructor
  ·intro h2; exact absurd rfl h2
  ·intro h2; exact absurd h2 h
def rootsTo (n : NetL) : Nat → List Int
 | 0 => n.outs
 | i + 1 => rootsTo n i ++ (n.seqs.getD i default).ins
def rootsL (n : NetL) : List Int := rootsTo n n.seqs.length
def seqOkP (s : SeqL) : Prop := (s.kind = 0 ∧ (0 ≤ s.init ∧ s.init ≤ 1) ∧ s.ins.length = 1) ∨ (s.kind = 1 ∧ (0 ≤ s.init ∧ s.init ≤ 31) ∧ s.ins.length = 4)
def litP (x : Int) (nodes : Int) : Prop := 0 ≤ x ∧ x / 2 < nodes
instance (s : SeqL) : Decidable (seqOkP s) := by unfold seqOkP; infer_instance
instance (x k : Int) : Decidable (litP x k) := by unfold litP; infer_instance
structure NetOkP (n : NetL) : Prop where
 size : sizeOk n
 seqs : ∀ i, i < n.seqs.length → seqOkP (n.seqs.getD i default)
 roots : ∀ i, i < (rootsL n).length → litP ((rootsL n).getD i default) (nodesL n)
 ands : ∀ i, i < n.ands.length → litP (n.ands.getD i default).1 (firstAndL n + i) ∧ litP (n.ands.getD i default).2 (firstAndL n + i)
def i64R (z : Int) : Prop := -9223372036854775808 ≤ z ∧ z ≤ 9223372036854775807
structure NetW (n : NetL) : Prop where
 outs : ∀ i, i < n.outs.length → i64R (n.outs.getD i default)
 ins : ∀ i, i < n.seqs.length → ∀ j, j < (n.seqs.getD i default).ins.length → i64R ((n.seqs.getD i default).ins.getD j default)
 ands : ∀ i, i < n.ands.length → i64R (n.ands.getD i default).1 ∧ i64R (n.ands.getD i default).2
noncomputable def netOkB (n : NetL) : Bool := @decide (NetOkP n) (Classical.propDecidable _)
theorem netOkB_no {n : NetL} (h : ¬ NetOkP n) : netOkB n = false := by simp [netOkB, h]
theorem netOkB_yes {n : NetL} (h : NetOkP n) : netOkB n = true := by simp [netOkB, h]
theorem rootsTo_len {n : NetL} {i : Nat} (h : ∀ j, j < i → seqOkP (n.seqs.getD j default)) : (rootsTo n i).length ≤ n.outs.length + 4 * i := by
 induction i with
 | zero => simp [rootsTo]
 | succ i ih =>
  have h1 := ih fun j hj => h j (by omega)
  have h2 := h i (by omega)
  simp only [rootsTo, List.length_append]
  rcases h2 with ⟨_, _, h2⟩ | ⟨_, _, h2⟩ <;> omega
end Go.Xw
