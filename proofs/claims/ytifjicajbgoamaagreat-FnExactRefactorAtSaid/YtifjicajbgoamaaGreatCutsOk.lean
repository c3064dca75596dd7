/- Texts that belong together; each under its stated conditions. -/
import Derived.Test.YtifjicajbgoamaaGreatBase
import Derived.Test.YtifjicajbgoamaaGreatBits
import Derived.Test.YtifjicajbgoamaaGreatGraph4
import Derived.Test.YtifjicajbgoamaaGreatCovLaw
import Derived.Test.YtifjicajbgoamaaGreatMapLaw
import Derived.Test.YtifjicajbgoamaaGreatRetLaw
import Derived.Test.YtifjicajbgoamaaGreatRfLaw
import Derived.Test.YtifjicajbgoamaaGreatIns
import Derived.Test.YtifjicajbgoamaaGreatCutLaw
set_option linter.all false
section
/- The contracts of SeqNext on both sides; no condition but the stated ones. -/
namespace Go.Proofs
open Go.Xw
set_option maxRecDepth 100000

end Go.Proofs
end
section
/- The contracts of the functions that check and begin a state, and of those that check classes; each under its stated conditions. -/
namespace Go.Xw
end Go.Xw
namespace Go.Proofs
open Go.Xw
set_option maxRecDepth 100000
set_option maxHeartbeats 1000000
attribute [local irreducible] Holds elemAddr

end Go.Proofs
end
section
/- The contracts of the functions that give the values of nodes; each under its stated conditions. -/
namespace Go.Proofs
open Go.Xw
set_option maxRecDepth 100000
set_option maxHeartbeats 1000000
attribute [local irreducible] Holds elemAddr

theorem l09Bit_h (a : Option Addr) (c : Nat) (V : List Int) (m : Nat) (hm : V.length = m) (l : Int) (w0 : World) (hR : Rd w0 a 1 eI V) (h0 : 0 ≤ l) (h1 : l / 2 < m) (hb : m ≤ 1000000000) :
    Ret Tryz.prog 65 [.slice a m c, .int .i64 l] w0 (fun v w => v = .int .i64 (litV V l) ∧ Ext w0 w) := by
  subst hm
  refine enter Tryz.S65ok _ _ rfl rfl (by show _ ≤ _; simp only [List.length]; decide) (fun C => ?_); have hp := Hp.nil w0; refine h_run rfl ?_; (repeat (first | (refine gLoad ?_; refine H_ldE hp rfl (by omega) (by omega) rfl rfl ?_) | refine R_ret ?_))
  exact ⟨rfl, hp.x⟩

end Go.Proofs
end
section
/- Steps and runs of a net, as plain data; no condition. -/
namespace Go.Xw
end Go.Xw
namespace Go.Proofs
open Go.Xw

end Go.Proofs
end
section
/- The values of the nodes of a net as a list that grows, and what becomes of them in nets that are built anew; plain data, no condition. -/
namespace Go.Xw
open Go.Proofs
set_option maxHeartbeats 1000000

/-! ### literals -/
/-! ### values that grow -/
theorem All01.snoc {V : List Int} (h : All01 V) {z : Int} (hz : is01 z) : All01 (V ++ [z]) := fun j => by
  by_cases h1 : j < V.length
  · rw [snoc_lt h1]; exact h j
  · by_cases h2 : j = V.length
    · subst h2; rw [snoc_eq]; exact hz
    · rw [List.getD_eq_getElem?_getD, List.getElem?_eq_none (by simp; omega)]; exact .inl rfl
/-! ### adding -/
/-! ### the values of a net -/
theorem All01.nil : All01 [] := fun j => by simp only [List.getD_eq_getElem?_getD]; exact .inl rfl
/-! ### runs of nets that behave alike -/
/-! ### AND nodes added one by one -/
/-! ### hashing -/
end Go.Xw
end
section
/- Swept and hashed nets have the runs of the net and are not deeper; plain data, no condition. -/
namespace Go.Xw
open Go.Proofs
set_option maxHeartbeats 1000000

/-! ### sweeping and hashing keep the runs -/
/-! ### levels -/
def nl (V : List Int) (l : Int) : Int := V.getD (l / 2).toNat default
def levA (U : List Int) (A : List (Int × Int)) : List Int := A.foldl (fun V x => V ++ [1 + max (nl V x.1) (nl V x.2)]) U
def AllN (V : List Int) : Prop := ∀ j, 0 ≤ V.getD j default
theorem AllN.snoc {V : List Int} (h : AllN V) {z : Int} (hz : 0 ≤ z) : AllN (V ++ [z]) := fun j => by
  by_cases h1 : j < V.length
  · rw [snoc_lt h1]; exact h j
  · by_cases h2 : j = V.length
    · subst h2; rw [snoc_eq]; exact hz
    · rw [List.getD_eq_getElem?_getD, List.getElem?_eq_none (by simp; omega)]; exact Int.le_refl _
/-! ### depths -/
end Go.Xw
end
section
/- A net in which a node was computed anew from a cut has the runs of the net; plain data, no condition but the stated ones. -/
namespace Go.Xw
open Go.Proofs
set_option maxHeartbeats 1000000

/-! ### values of cubes and covers -/
/-! ### the index out of values -/
/-! ### the table has the node's values -/
/-! ### the net with the node computed anew -/
/-! ### there is room in small nets -/
end Go.Xw
end
section
/- The contracts of CutLess on both sides; under the stated conditions. -/
namespace Go.Proofs
open Go.Xw
set_option maxRecDepth 100000

end Go.Proofs
end
section
/- The contracts of MergeCuts and of the functions behind it, on both sides; under the stated conditions. -/
namespace Go.Proofs
open Go.Xw
set_option maxRecDepth 100000

/-- the same, and none is negative -/
noncomputable def cutB (xs : List Int) : Bool := @decide ((∀ i, 1 ≤ i → i < xs.length → xs.getD (i - 1) default < xs.getD i default) ∧ ∀ i, i < xs.length → 0 ≤ xs.getD i default) (Classical.propDecidable _)
noncomputable def mergeOk (xs ys : List Int) : Bool := cutB xs && cutB ys && decide ((mrg xs ys).length ≤ 4)
noncomputable def mergeL (xs ys : List Int) : List Int := if mergeOk xs ys = true then mrg xs ys else []
theorem merge_no {xs ys : List Int} (h : mergeOk xs ys = false) : mergeL xs ys = [] := by unfold mergeL; rw [h]; rfl
def MergeQ (e : TypeId) (xs ys : List Int) (w : World) (v : Value) (w' : World) : Prop :=
  ∃ a' c', v = .tuple ⟨[.slice a' (mergeL xs ys).length c', .bool (mergeOk xs ys)]⟩ ∧ Own w' w.heap.size e 1 eI a' c' (mergeL xs ys) ∧ Ext w w'
theorem MergeQ.no {e : TypeId} {xs ys : List Int} {w w' : World} (h : mergeOk xs ys = false) (hx : Ext w w') : MergeQ e xs ys w (.tuple ⟨[.slice none 0 0, .bool false]⟩) w' :=
  ⟨none, 0, by rw [merge_no h, h]; rfl, by rw [merge_no h]; exact Own.nil _ _ _ _ _, hx⟩

end Go.Proofs
end
section
/- The enumeration of cuts, as plain data; no condition. -/
namespace Go.Xw
open Go.Proofs
set_option maxHeartbeats 1000000

/-! ### the order of cuts -/
/-! ### a cut put at its place, once -/
/-! ### the unions of two selections -/
/-! ### those that contain no smaller one -/
/-! ### a union is ascending, and holds both lists -/
end Go.Xw
end
section
/- The cuts that are enumerated are cuts; plain data, no condition but the stated ones. -/
namespace Go.Xw
open Go.Proofs
set_option maxHeartbeats 1000000
theorem Opn.first {n : NetL} (hn : Nums n) {cut : List Int} {r j : Nat} (h : Opn n cut r j) : j = r ∨ ∃ i, i < n.ands.length ∧ r = fst_ n + i ∧ (r : Int) ∉ cut ∧ (Opn n cut (kA n i) j ∨ Opn n cut (kB n i) j) := by
  induction h with
  | refl => exact .inl rfl
  | @left i hi ho hc ih =>
    right
    rcases ih with h | ⟨q, q1, q2, q3, q4⟩
    · exact ⟨i, hi, h.symm, by rw [← h]; exact hc, .inl .refl⟩
    · exact ⟨q, q1, q2, q3, q4.imp (fun h => .left hi h hc) (fun h => .left hi h hc)⟩
  | @right i hi ho hc ih =>
    right
    rcases ih with h | ⟨q, q1, q2, q3, q4⟩
    · exact ⟨i, hi, h.symm, by rw [← h]; exact hc, .inr .refl⟩
    · exact ⟨q, q1, q2, q3, q4.imp (fun h => .right hi h hc) (fun h => .right hi h hc)⟩
end Go.Xw
end
