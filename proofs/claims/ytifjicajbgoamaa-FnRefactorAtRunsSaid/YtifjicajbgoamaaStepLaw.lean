/- Steps and runs of a net, as plain data; no condition. -/
import Derived.Test.YtifjicajbgoamaaVal
set_option linter.all false
namespace Go.Xw
theorem rootsTo_pre (n : NetL) (m : Nat) : ∀ d, ∃ T, rootsTo n (m + d) = rootsTo n m ++ T
  | 0 => ⟨[], by simp⟩
  | d + 1 => by
    obtain ⟨T, h⟩ := rootsTo_pre n m d
    exact ⟨T ++ (n.seqs.getD (m + d) default).ins, by rw [show m + (d + 1) = m + d + 1 by omega, rootsTo, h, List.append_assoc]⟩
theorem getD_left {α : Type} [Inhabited α] {A B : List α} {i : Nat} (h : i < A.length) : (A ++ B).getD i default = A.getD i default := by
  simp [List.getD_eq_getElem?_getD, List.getElem?_append_left h]
theorem getD_right {α : Type} [Inhabited α] {A B : List α} {i : Nat} : (A ++ B).getD (A.length + i) default = B.getD i default := by
  simp [List.getD_eq_getElem?_getD, List.getElem?_append_right]
theorem NetOkP.outP {n : NetL} (h : NetOkP n) {i : Nat} (hi : i < n.outs.length) : litP (n.outs.getD i default) (nodesL n) := by
  obtain ⟨T, e⟩ := rootsTo_pre n 0 n.seqs.length
  rw [Nat.zero_add] at e
  have e : rootsL n = n.outs ++ T := e
  have h1 := h.roots i (by rw [e, List.length_append]; omega)
  rwa [e, getD_left hi] at h1
theorem NetOkP.inP {n : NetL} (h : NetOkP n) {i j : Nat} (hi : i < n.seqs.length) (hj : j < (n.seqs.getD i default).ins.length) : litP ((n.seqs.getD i default).ins.getD j default) (nodesL n) := by
  obtain ⟨T, e⟩ := rootsTo_pre n (i + 1) (n.seqs.length - (i + 1))
  rw [show i + 1 + (n.seqs.length - (i + 1)) = n.seqs.length by omega] at e
  have e : rootsL n = rootsTo n (i + 1) ++ T := e
  rw [rootsTo] at e
  have hl : (rootsTo n i).length + j < (rootsTo n i ++ (n.seqs.getD i default).ins).length := by rw [List.length_append]; omega
  have h1 := h.roots ((rootsTo n i).length + j) (by rw [e, List.length_append]; omega)
  rwa [e, getD_left hl, getD_right] at h1
end Go.Xw
namespace Go.Proofs
open Go.Xw

theorem outN {x : NetA} (h : NetOkP x.n) : ∀ i, i < x.outs.length → 0 ≤ x.outs.getD i default ∧ x.outs.getD i default / 2 < (nds x.n : Int) := fun i hi => by
  have h1 := h.outP (i := i) hi
  have h2 := h.nums.n2
  unfold litP at h1
  rw [h2]
  exact h1
theorem inN {x : NetA} (h : NetOkP x.n) {i : Nat} (hi : i < x.seqs.length) : ∀ j, j < (x.seqs.getD i default).ins.length → 0 ≤ (x.seqs.getD i default).ins.getD j default ∧ (x.seqs.getD i default).ins.getD j default / 2 < (nds x.n : Int) := fun j hj => by
  have h1 := h.inP (i := i) (j := j) (by rw [x.slen]; exact hi) (by rw [x.sins]; exact hj)
  have h2 := h.nums.n2
  unfold litP at h1
  rw [x.sins] at h1
  rw [h2]
  exact h1

/-- the next state, element by element -/
def nextAt (n : NetL) (st V : List Int) (i : Nat) : Int := seqNextL (n.seqs.getD i default).kind (st.getD i default) (packL V (n.seqs.getD i default).ins)
def nextTo (n : NetL) (st V : List Int) : Nat → List Int
  | 0 => []
  | i + 1 => nextTo n st V i ++ [nextAt n st V i]
def nextL (n : NetL) (st : List Int) (inp : Int) : List Int := nextTo n st (valsL n st inp) n.seqs.length
theorem nextTo_len (n : NetL) (st V : List Int) : ∀ i, (nextTo n st V i).length = i
  | 0 => rfl
  | i + 1 => by rw [nextTo, List.length_append, nextTo_len]; rfl
theorem nextTo_get (n : NetL) (st V : List Int) : ∀ {m i : Nat}, i < m → (nextTo n st V m).getD i default = nextAt n st V i
  | 0, _, h => by omega
  | m + 1, i, h => by
    rw [nextTo]
    by_cases h2 : i < m
    · rw [getD_left (by rw [nextTo_len]; exact h2), nextTo_get n st V h2]
    · obtain rfl : i = m := by omega
      have := getD_right (A := nextTo n st V i) (B := [nextAt n st V i]) (i := 0)
      rw [nextTo_len] at this
      exact this
def outL (n : NetL) (st : List Int) (inp : Int) : Int := packL (valsL n st inp) n.outs

theorem seqNext_in {k v i : Int} (h : 0 ≤ v ∧ v ≤ seqMostL k) : 0 ≤ seqNextL k v i ∧ seqNextL k v i ≤ seqMostL k := by
  unfold seqNextL
  unfold seqMostL at h ⊢
  by_cases h0 : k = 0
  · rw [if_pos h0] at h ⊢
    rw [if_pos ⟨h0, h⟩]; omega
  · rw [if_neg h0] at h ⊢
    by_cases h1 : k = 1
    · rw [if_pos h1] at h ⊢
      rw [if_neg (by omega), if_pos ⟨h1, h⟩]
      have := ram_is (i := i) h.1 h.2
      unfold ramNext
      split <;> omega
    · rw [if_neg h1] at h; omega
theorem next_stP {n : NetL} {st : List Int} (h : stP n st) (inp : Int) : stP n (nextL n st inp) := by
  refine ⟨nextTo_len _ _ _ _, fun i hi => ?_⟩
  unfold nextL at hi ⊢
  rw [nextTo_len] at hi
  rw [nextTo_get _ _ _ hi]
  exact seqNext_in (h.2 i (by rw [h.1]; exact hi))
theorem start_stP {n : NetL} (h : NetOkP n) : stP n (startL n) := by
  refine ⟨by unfold startL; simp, fun i hi => ?_⟩
  unfold startL at hi ⊢
  rw [List.length_map] at hi
  have h1 := h.seqs i hi
  have e : (n.seqs.map SeqL.init).getD i default = (n.seqs.getD i default).init := by
    simp [List.getD_eq_getElem?_getD, hi]
  rw [e]
  unfold seqOkP at h1
  unfold seqMostL
  rcases h1 with ⟨h1, h2, _⟩ | ⟨h1, h2, _⟩
  · rw [if_pos h1]; exact h2
  · rw [if_neg (by omega), if_pos h1]; exact h2
/-- the state after k cycles, and the outputs of the first k cycles -/
def stAt (n : NetL) (ins : List Int) : Nat → List Int
  | 0 => startL n
  | k + 1 => nextL n (stAt n ins k) (ins.getD k default)
def runTo (n : NetL) (ins : List Int) : Nat → List Int
  | 0 => []
  | k + 1 => runTo n ins k ++ [outL n (stAt n ins k) (ins.getD k default)]
def runL (n : NetL) (ins : List Int) : List Int := runTo n ins ins.length
theorem runTo_len (n : NetL) (ins : List Int) : ∀ k, (runTo n ins k).length = k
  | 0 => rfl
  | k + 1 => by rw [runTo, List.length_append, runTo_len]; rfl
theorem stAt_stP {n : NetL} (h : NetOkP n) (ins : List Int) : ∀ k, stP n (stAt n ins k)
  | 0 => start_stP h
  | k + 1 => next_stP (stAt_stP h ins k) _
end Go.Proofs
