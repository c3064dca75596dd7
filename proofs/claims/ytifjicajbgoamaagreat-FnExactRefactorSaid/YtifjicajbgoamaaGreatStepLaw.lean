/- Texts that belong together; each under its stated conditions. -/
import Derived.Test.YtifjicajbgoamaaGreatBase
import Derived.Test.YtifjicajbgoamaaGreatBits
import Derived.Test.YtifjicajbgoamaaGreatGraph4
import Derived.Test.YtifjicajbgoamaaGreatCov2
set_option linter.all false
section
/- The contracts of SeqNext on both sides; no condition but the stated ones. -/
namespace Go.Proofs
open Go.Xw
set_option maxRecDepth 100000

def seqMostL (k : Int) : Int := if k = 0 then 1 else if k = 1 then 31 else -1

/-- the memory's next state: v the state, a the place, d the bit, e: is it written -/
def ramO (v : Int) (a : Nat) : Int := bits .or .i64 (bits .and .i64 (v / 2 ^ a) 1) (bits .andNot .i64 v 1)
def ramW (v : Int) (a : Nat) (d : Int) : Int := bits .or .i64 (bits .andNot .i64 (ramO v a) (2 ^ a)) (d * 2 ^ a)
def ramNext (v i : Int) : Int := if i / 8 % 2 = 1 then ramW v (i % 4 + 1).toNat (i / 4 % 2) else ramO v (i % 4 + 1).toNat

def seqNextL (k v i : Int) : Int :=
  if k = 0 ∧ 0 ≤ v ∧ v ≤ 1 then i % 2 else if k = 1 ∧ 0 ≤ v ∧ v ≤ 31 then ramNext v i else -1

end Go.Proofs
end
section
/- The contracts of the functions that check and begin a state, and of those that check classes; each under its stated conditions. -/
namespace Go.Xw
end Go.Xw
namespace Go.Proofs
open Go.Xw
set_option maxRecDepth 100000
set_option maxHeartbeats 1000000
attribute [local irreducible] Holds elemAddr

/-- the state is right -/
def stP (n : NetL) (st : List Int) : Prop := st.length = n.seqs.length ∧ ∀ i, i < st.length → 0 ≤ st.getD i default ∧ st.getD i default ≤ seqMostL (n.seqs.getD i default).kind
/-- the initial state -/
def startL (n : NetL) : List Int := n.seqs.map SeqL.init
end Go.Proofs
end
section
/- The contracts of the functions that give the values of nodes; each under its stated conditions. -/
namespace Go.Proofs
open Go.Xw
set_option maxRecDepth 100000
set_option maxHeartbeats 1000000
attribute [local irreducible] Holds elemAddr

theorem l09Bit_h (a : Option Addr) (c : Nat) (V : List Int) (m : Nat) (hm : V.length = m) (l : Int) (w0 : World) (hR : Rd w0 a 1 eI V) (h0 : 0 ≤ l) (h1 : l / 2 < m) (hb : m ≤ 1000000000) :
    Ret Tryz.prog 65 [.slice a m c, .int .i64 l] w0 (fun v w => v = .int .i64 (litV V l) ∧ Ext w0 w) := by
  subst hm
  refine enter Tryz.S65ok _ _ rfl rfl (by show _ ≤ _; simp only [List.length]; decide) (fun C => ?_); have hp := Hp.nil w0; refine h_run rfl ?_; (repeat (first | (refine gLoad ?_; refine H_ldE hp rfl (by omega) (by omega) rfl rfl ?_) | refine R_ret ?_))
  exact ⟨rfl, hp.x⟩

end Go.Proofs
end
section
/- Steps and runs of a net, as plain data; no condition. -/
namespace Go.Xw
theorem getD_left {α : Type} [Inhabited α] {A B : List α} {i : Nat} (h : i < A.length) : (A ++ B).getD i default = A.getD i default := by
  simp [List.getD_eq_getElem?_getD, List.getElem?_append_left h]
theorem getD_right {α : Type} [Inhabited α] {A B : List α} {i : Nat} : (A ++ B).getD (A.length + i) default = B.getD i default := by
  simp [List.getD_eq_getElem?_getD, List.getElem?_append_right]
end Go.Xw
namespace Go.Proofs
open Go.Xw

/-- the next state, element by element -/
def nextAt (n : NetL) (st V : List Int) (i : Nat) : Int := seqNextL (n.seqs.getD i default).kind (st.getD i default) (packL V (n.seqs.getD i default).ins)
def nextTo (n : NetL) (st V : List Int) : Nat → List Int
  | 0 => []
  | i + 1 => nextTo n st V i ++ [nextAt n st V i]
def nextL (n : NetL) (st : List Int) (inp : Int) : List Int := nextTo n st (valsL n st inp) n.seqs.length
theorem nextTo_len (n : NetL) (st V : List Int) : ∀ i, (nextTo n st V i).length = i
  | 0 => rfl
  | i + 1 => by rw [nextTo, List.length_append, nextTo_len]; rfl
theorem nextTo_get (n : NetL) (st V : List Int) : ∀ {m i : Nat}, i < m → (nextTo n st V m).getD i default = nextAt n st V i
  | 0, _, h => by omega
  | m + 1, i, h => by
    rw [nextTo]
    by_cases h2 : i < m
    · rw [getD_left (by rw [nextTo_len]; exact h2), nextTo_get n st V h2]
    · obtain rfl : i = m := by omega
      have := getD_right (A := nextTo n st V i) (B := [nextAt n st V i]) (i := 0)
      rw [nextTo_len] at this
      exact this
def outL (n : NetL) (st : List Int) (inp : Int) : Int := packL (valsL n st inp) n.outs

theorem start_stP {n : NetL} (h : NetOkP n) : stP n (startL n) := by
  refine ⟨by unfold startL; simp, fun i hi => ?_⟩
  unfold startL at hi ⊢
  rw [List.length_map] at hi
  have h1 := h.seqs i hi
  have e : (n.seqs.map SeqL.init).getD i default = (n.seqs.getD i default).init := by
    simp [List.getD_eq_getElem?_getD, hi]
  rw [e]
  unfold seqOkP at h1
  unfold seqMostL
  rcases h1 with ⟨h1, h2, _⟩ | ⟨h1, h2, _⟩
  · rw [if_pos h1]; exact h2
  · rw [if_neg (by omega), if_pos h1]; exact h2
/-- the state after k cycles, and the outputs of the first k cycles -/
def stAt (n : NetL) (ins : List Int) : Nat → List Int
  | 0 => startL n
  | k + 1 => nextL n (stAt n ins k) (ins.getD k default)
def runTo (n : NetL) (ins : List Int) : Nat → List Int
  | 0 => []
  | k + 1 => runTo n ins k ++ [outL n (stAt n ins k) (ins.getD k default)]
def runL (n : NetL) (ins : List Int) : List Int := runTo n ins ins.length
end Go.Proofs
end
