/- The net in which flip-flops of a class are one, as plain data; no condition but the stated ones. -/
import Derived.Test.YtbjgekllkfnjnaaClsLaw
import Derived.Test.YtbjgekllkfnjnaaPruneLaw
set_option linter.all false
namespace Go.Xw
open Go.Proofs
set_option maxHeartbeats 1000000

/-- the literals of the nodes, those of the first i elements through their classes -/
def plTo (n : NetL) (cl : List Int) (i : Nat) : List Int := (List.range (nds n)).map fun k => if fsq n ≤ k ∧ k < fsq n + i then 2 * ((fsq n : Int) + cl.getD (k - fsq n) default) else 2 * ((k : Nat) : Int)
theorem plTo_len (n : NetL) (cl : List Int) (i : Nat) : (plTo n cl i).length = nds n := by simp [plTo]
theorem plTo_get {n : NetL} {cl : List Int} {i k : Nat} (h : k < nds n) : (plTo n cl i).getD k default = if fsq n ≤ k ∧ k < fsq n + i then 2 * ((fsq n : Int) + cl.getD (k - fsq n) default) else 2 * ((k : Nat) : Int) :=
  range_get (f := fun k => if fsq n ≤ k ∧ k < fsq n + i then 2 * ((fsq n : Int) + cl.getD (k - fsq n) default) else 2 * ((k : Nat) : Int)) h
theorem plTo_zero (n : NetL) (cl : List Int) : plTo n cl 0 = (List.range (nds n)).map fun k => 2 * ((k : Nat) : Int) := by
  unfold plTo
  exact List.map_congr_left fun k _ => if_neg (by omega)
theorem plTo_set {n : NetL} {cl : List Int} {i : Nat} (h : fsq n + i < nds n) : (plTo n cl i).set (fsq n + i) (2 * ((fsq n : Int) + cl.getD i default)) = plTo n cl (i + 1) := by
  refine list_eq (by rw [List.length_set, plTo_len, plTo_len]) fun k hk => ?_
  rw [List.length_set, plTo_len] at hk
  rw [plTo_get hk]
  by_cases hki : k = fsq n + i
  · subst hki
    rw [List.getD_eq_getElem?_getD, List.getElem?_set_self (by rw [plTo_len]; exact h), Option.getD_some, if_pos ⟨by omega, by omega⟩, show fsq n + i - fsq n = i by omega]
  · rw [List.getD_eq_getElem?_getD, List.getElem?_set_ne (by omega), ← List.getD_eq_getElem?_getD, plTo_get hk]
    by_cases h1 : fsq n ≤ k ∧ k < fsq n + i
    · rw [if_pos h1, if_pos ⟨h1.1, by omega⟩]
    · rw [if_neg h1, if_neg (by omega)]
def placeL (n : NetL) (cl : List Int) : List Int := plTo n cl cl.length
theorem placeL_len (n : NetL) (cl : List Int) : (placeL n cl).length = nds n := plTo_len _ _ _
/-- the node that stands for node k -/
def repN (n : NetL) (cl : List Int) (k : Nat) : Nat := if fsq n ≤ k ∧ k < fsq n + cl.length then fsq n + (cl.getD (k - fsq n) default).toNat else k
theorem repN_le {n : NetL} {cl : List Int} (h : clP n cl) (k : Nat) : repN n cl k ≤ k := by
  unfold repN
  split
  · rename_i hk
    have := (h.2 (k - fsq n) (by omega)).1
    omega
  · exact Nat.le_refl _
theorem placeL_get {n : NetL} {cl : List Int} (h : clP n cl) {k : Nat} (hk : k < nds n) : (placeL n cl).getD k default = 2 * ((repN n cl k : Nat) : Int) := by
  unfold placeL repN
  rw [plTo_get hk]
  split
  · rename_i hk
    have := (h.2 (k - fsq n) (by omega)).1
    omega
  · rfl
def mapA (to : List Int) (A : List (Int × Int)) : List (Int × Int) := A.map fun q => (litV to q.1, litV to q.2)
theorem mapA_len (to : List Int) (A : List (Int × Int)) : (mapA to A).length = A.length := by simp [mapA]
theorem mapA_get {to : List Int} {A : List (Int × Int)} {i : Nat} (h : i < A.length) : (mapA to A).getD i default = (litV to (A.getD i default).1, litV to (A.getD i default).2) := map_getD (f := fun q : Int × Int => (litV to q.1, litV to q.2)) h
theorem mapA_snoc {to : List Int} {A : List (Int × Int)} {i : Nat} (h : i < A.length) : mapA to (A.take (i + 1)) = mapA to (A.take i) ++ [(litV to (A.getD i default).1, litV to (A.getD i default).2)] := by
  unfold mapA
  rw [take_snoc h, List.map_append]
  rfl
theorem mrg_lit {n : NetL} (hok : NetOkP n) {cl : List Int} (h : clP n cl) {l m : Int} (hl : litP l m) (hm : m ≤ nodesL n) : litP (litV (placeL n cl) l) m := by
  have hlt := (hl.mono hm).nat hok.nums
  have hc := hok.count
  have hr := repN_le h (l / 2).toNat
  unfold litP at hl
  refine litV_litP ?_ (by omega)
  rw [placeL_get h hlt]
  unfold litP
  omega
theorem mrg_bld {n : NetL} (hok : NetOkP n) {cl : List Int} (h : clP n cl) : Bld (firstAndL n) (mapA (placeL n cl) n.ands) (placeL n cl) := by
  have hc := hok.count
  have hs := hok.size
  have h2 := hok.nums.f2
  have hn := hok.nums.n2
  have hnd : nodesL n = firstAndL n + n.ands.length := rfl
  have hfa : firstAndL n = 1 + n.inputs + n.seqs.length := rfl
  unfold sizeOk at hs
  refine ⟨⟨hc.1, by omega⟩, by rw [mapA_len]; omega, fun i hi => ?_, fun k hk => ?_⟩
  · rw [mapA_len] at hi
    rw [mapA_get hi]
    obtain ⟨q1, q2⟩ := hok.andP hi
    exact ⟨mrg_lit hok h q1 (by omega), mrg_lit hok h q2 (by omega)⟩
  · rw [placeL_len] at hk
    have hr := repN_le h k
    rw [placeL_get h hk, mapA_len]
    unfold litP
    omega
noncomputable def mrgN (n : NetL) : NetL := finN n (mapA (placeL n (regL n)) n.ands) (placeL n (regL n))
theorem mrgN_ok {n : NetL} (hok : NetOkP n) : NetOkP (mrgN n) := finN_ok hok (mrg_bld hok (regL_P n)) (by rw [placeL_len]; exact Nat.le_refl _)
noncomputable def mrgR (n : NetL) : NetL := pruneL (hashL (mrgN n))
theorem mrgR_ok {n : NetL} (hok : NetOkP n) : NetOkP (mrgR n) := pruneL_ok (hashL_ok (mrgN_ok hok))
theorem sMrg {n : NetL} (_ : NetS n) : NetS (ifNet n (mrgR n)) := ifNet_S mrgR_ok
end Go.Xw
