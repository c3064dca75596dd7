/- Texts that belong together; each under its stated conditions. -/
import Derived.Test.YtifjicajbgoamaaSweep
import Derived.Test.YtifjicajbgoamaaIns
import Derived.Test.YtifjicajbgoamaaMergeLaw
import Derived.Test.YtifjicajbgoamaaCutLaw
import Derived.Test.YtifjicajbgoamaaFam
import Derived.Laws.BytesString
import Derived.Laws.CopyRow
import Derived.Laws.IdiomCopy
import Derived.Test.YtifjicajbgoamaaBase
import Derived.Test.YtifjicajbgoamaaEnumLaw
import Derived.Test.YtifjicajbgoamaaCut
set_option linter.all false
section
/- The contracts of the functions that hash a net; each under its stated conditions. -/
namespace Go.Proofs
open Go.Xw
set_option maxRecDepth 100000
set_option maxHeartbeats 1000000
attribute [local irreducible] Holds elemAddr

end Go.Proofs
end
section
/- Adding AND nodes to a net that stands first in a bigger struct, and copying roots to it (printed by gen_bal.py out of XAdd and XMap); each under its stated conditions. -/
namespace Go.Xw
/-- the cells of a struct that begins with a net -/
def NetA.cb (y : NetA) (v : Value) : List Value := [.int .i64 y.inputs, .slice y.sa y.seqs.length y.sc, .slice y.aa y.ands.length y.ac, .slice y.oa y.outs.length y.oc, v]
end Go.Xw
namespace Go.Proofs
open Go.Xw
set_option maxRecDepth 100000
set_option maxHeartbeats 1000000
attribute [local irreducible] Holds elemAddr
end Go.Proofs
end
section
/- The contracts of the functions that give the literals below a conjunction; each under its stated conditions. -/
namespace Go.Proofs
open Go.Xw
set_option maxRecDepth 100000
set_option maxHeartbeats 1000000
attribute [local irreducible] Holds elemAddr

end Go.Proofs
end
section
/- The contracts of the program's functions that give the literals below a conjunction; each under its stated conditions. -/
namespace Go.Proofs
open Go.Xw
set_option maxRecDepth 100000
set_option maxHeartbeats 1000000
attribute [local irreducible] Holds elemAddr

end Go.Proofs
end
section
/- The contracts of the balancer's methods and of neededNodes; each under its stated conditions. -/
namespace Go.Xw
open Go.RowKit
/-- blocks of the call's own in which a slice reads as X -/
theorem sl_cell {w w' : World} {a : Option Addr} {X : List Int} (h : ∀ k, k ∈ (blk a).toList → w'.heap[k]? = w.heap[k]?) (hs : Sl w a X.length 1 (fL eI X)) : Sl w' a X.length 1 (fL eI X) := by
  refine ⟨hs.1, fun i j hi hj => ?_⟩
  have h1 := hs.2 i j hi hj
  cases a with
  | none => exact absurd rfl (hs.1 (by omega))
  | some ad =>
    have hb := h ad.block (by simp [blk])
    unfold World.cell? at h1 ⊢
    have e : ((elemAddr (some ad) 1 (i : Int)).add j).block = ad.block := by unfold elemAddr; rw [block_of_add, block_of_add]; rfl
    rw [e] at h1 ⊢
    rw [hb]
    exact h1
def rV (a : Option Addr) (X : List Int) : Res where
  ids := (blk a).toList
  P w := Sl w a X.length 1 (fL eI X) ∧ ∀ k, k ∈ (blk a).toList → k < w.heap.size
  st := fun h ⟨h1, h2⟩ => ⟨sl_cell h h1, fun k hk => by
    have h3 := h2 k hk
    have h4 := h k hk
    rw [Array.getElem?_eq_getElem h3] at h4
    exact (Array.getElem?_eq_some_iff.1 h4).1⟩
  lt := fun h => h.2
instance RdH.rV {w0 : World} {L : List Res} {a : Option Addr} {X : List Int} : RdH w0 (rV a X :: L) a 1 eI X := ⟨fun _ hp => hp.g0.1⟩
theorem Hp.bk {w0 w : World} {L : List Res} {b : Nat} {t : TypeId} {cs : List Value} (hp : Hp w0 w L) [h : BkH w0 L b t cs] : Bk w b t cs := ⟨h.h w hp⟩
end Go.Xw
namespace Go.Proofs
open Go.Xw
set_option maxRecDepth 100000
set_option maxHeartbeats 1000000
attribute [local irreducible] Holds elemAddr
end Go.Proofs
end
section
/- The contracts of the program's Balance; each under its stated conditions. -/
namespace Go.Proofs
open Go.Xw
set_option maxRecDepth 100000
set_option maxHeartbeats 1000000
attribute [local irreducible] Holds elemAddr
end Go.Proofs
end
section
/- Rows of rows of the call's own, and strings out of bytes; each under its stated conditions. -/
namespace Go.Xw
open Go.RowKit

/-! ### rows of rows -/
theorem set_getE {α : Type} [Inhabited α] {X : List α} {i j : Nat} {y : α} (hi : i < X.length) : (X.set i y).getD j default = if j = i then y else X.getD j default := by
  simp only [List.getD_eq_getElem?_getD, List.getElem?_set]
  by_cases h : i = j
  · subst h; simp [hi]
  · rw [if_neg h, if_neg (fun e => h e.symm)]
theorem take_snocC {α : Type} [Inhabited α] {xs : List α} {i : Nat} (h : i < xs.length) : xs.take (i + 1) = xs.take i ++ [xs.getD i default] := by
  rw [List.take_succ_eq_append_getElem h]
  simp [List.getD_eq_getElem?_getD, h]
theorem getD_memR {α : Type} [Inhabited α] {X : List α} {i : Nat} (h : i < X.length) : X.getD i default ∈ X := by
  rw [List.getD_eq_getElem?_getD, List.getElem?_eq_getElem h]; exact List.getElem_mem h
structure RowA (α : Type) where
  ins : List α
  ia : Option Addr
  ic : Nat
instance {α : Type} : Inhabited (RowA α) := ⟨⟨[], none, 0⟩⟩
def eRo {α : Type} (r : RowA α) : List Value := [.slice r.ia r.ins.length r.ic]
instance eRo_ok {α : Type} : EncOk (eRo (α := α)) 1 := ⟨fun _ => rfl, fun x u hu => by simp [eRo] at hu; subst hu; rfl⟩
/-- the lists -/
def insOf {α : Type} (R : List (RowA α)) : List (List α) := R.map RowA.ins
theorem insOf_len {α : Type} (R : List (RowA α)) : (insOf R).length = R.length := by simp [insOf]
theorem insOf_get {α : Type} (R : List (RowA α)) (i : Nat) : (insOf R).getD i default = (R.getD i default).ins := by
  simp only [insOf, List.getD_eq_getElem?_getD, List.getElem?_map]
  cases R[i]? <;> rfl
/-- all rows are of the call's own -/
def rRows {α : Type} (e : TypeId) (s : Nat) (enc : α → List Value) (R : List (RowA α)) : Res := rAll (R.map fun r => rO e s enc r.ia r.ic r.ins)
section
variable {α : Type} {e : TypeId} {s : Nat} {enc : α → List Value} {w0 w w' : World} {L : List Res} {R : List (RowA α)}
theorem rRows_nil (h : Hp w0 w L) : Hp w0 w (rRows e s enc ([] : List (RowA α)) :: L) := Hp.pack (Rs := []) h
theorem rRows_add {y : RowA α} (h : Hp w0 w (rO e s enc y.ia y.ic y.ins :: rRows e s enc R :: L)) : Hp w0 w (rRows e s enc (R ++ [y]) :: L) := by
  have h1 : Hp w0 w (R.map (fun r => rO e s enc r.ia r.ic r.ins) ++ (rO e s enc y.ia y.ic y.ins :: L)) := h.f1.unpack
  refine Hp.pack (Hp.perm h1 ?_)
  simp only [List.map_append, List.map_cons, List.map_nil, List.append_assoc]
  exact .refl _
end
/-- the rows can be read in every world of this kind -/
class RowsH (w0 : World) (L : List Res) {α : Type} [Inhabited α] (s : outParam Nat) (enc : outParam (α → List Value)) (R : List (RowA α)) : Prop where
  h : ∀ w, Hp w0 w L → ∀ r, r ∈ R → Sl w r.ia r.ins.length s (fL enc r.ins)
instance RowsH.head {w0 : World} {L : List Res} {α : Type} [Inhabited α] {e : TypeId} {s : Nat} {enc : α → List Value} [he : EncOk enc s] {R : List (RowA α)} : RowsH w0 (rRows e s enc R :: L) s enc R :=
  ⟨fun w hp r hr => Own.sl (hp.g0 (rO e s enc r.ia r.ic r.ins) (List.mem_map.2 ⟨r, hr, rfl⟩)) he.len⟩
instance RowsH.tail {w0 : World} {L : List Res} {A : Res} {α : Type} [Inhabited α] {s : Nat} {enc : α → List Value} {R : List (RowA α)} [h : RowsH w0 L s enc R] : RowsH w0 (A :: L) s enc R := ⟨fun w hp => h.h w hp.drop⟩
theorem RowsH.at_ {w0 : World} {L : List Res} {α : Type} [Inhabited α] {s : Nat} {enc : α → List Value} {R : List (RowA α)} (h : RowsH w0 L s enc R) {i : Nat} (hi : i < R.length) : RdH w0 L (R.getD i default).ia s enc (R.getD i default).ins :=
  ⟨fun w hp => h.h w hp _ (getD_memR hi)⟩
theorem RowsH.mem_ {w0 : World} {L : List Res} {α : Type} [Inhabited α] {s : Nat} {enc : α → List Value} {R : List (RowA α)} (h : RowsH w0 L s enc R) {r : RowA α} (hr : r ∈ R) : RdH w0 L r.ia s enc r.ins :=
  ⟨fun w hp => h.h w hp r hr⟩

/-! ### strings -/
def eStr (s : ByteArray) : List Value := [.string s]
instance eStr_ok : EncOk eStr 1 := ⟨fun _ => rfl, fun x u hu => by simp [eStr] at hu; subst hu; rfl⟩
end Go.Xw
end
section
/- Copying within a row of the call's own: its rest moved up by one; each under its stated conditions. -/
namespace Go.Xw
open Go.RowKit
section
variable {S : Setting} {sz : Nat} {R : Value → World → Prop} {C : World → Prop} {w w0 : World} {F : List Res} {ops : Array Oper} {rest : List Oper} {k : List Item} {env : Env}
end
end Go.Xw
end
section
/- The contract of the comparison of two lists of integers; under its stated conditions. -/
namespace Go.Proofs
open Go.Xw
set_option maxRecDepth 100000
set_option maxHeartbeats 1000000
attribute [local irreducible] Holds elemAddr
end Go.Proofs
end
section
/- The contracts of the program's functions that enumerate cuts: unions of two selections; each under its stated conditions. -/
namespace Go.Xw
/-- all rows can be read -/
def RowsR (w : World) (R : List (RowA Int)) : Prop := ∀ r, r ∈ R → Rd w r.ia 1 eI r.ins
theorem RowsR.ext {w w' : World} {R : List (RowA Int)} (h : RowsR w R) (hx : Ext w w') : RowsR w' R := fun r hr => (h r hr).ext hx
theorem RowsR.at_ {w : World} {R : List (RowA Int)} (h : RowsR w R) {i : Nat} (hi : i < R.length) : Rd w (R.getD i default).ia 1 eI (R.getD i default).ins := h _ (getD_memR hi)
theorem Hp.rows {w0 w : World} {L : List Res} (hp : Hp w0 w L) {R P : List (RowA Int)} [h : RowsH w0 L 1 eI P] (hm : ∀ r, r ∈ R → r ∈ P) : RowsR w R := fun r hr => ⟨h.h w hp r (hm r hr)⟩
theorem MergeQ.hp {e : TypeId} {xs ys : List Int} {w : World} {v : Value} {w' : World} (h : Go.Proofs.MergeQ e xs ys w v w') : ∃ a' c', v = .tuple ⟨[.slice a' (Go.Proofs.mergeL xs ys).length c', .bool (Go.Proofs.mergeOk xs ys)]⟩ ∧ Hp w w' [rO e 1 eI a' c' (Go.Proofs.mergeL xs ys)] := by
  obtain ⟨a', c', h1, h2, h3⟩ := h
  exact ⟨a', c', h1, (Hp.nil w).ownN h3 h2⟩
end Go.Xw
namespace Go.Proofs
open Go.Xw
set_option maxRecDepth 100000
set_option maxHeartbeats 1500000
attribute [local irreducible] Holds elemAddr
end Go.Proofs
end
section
/- The contracts of the program's EnumCuts; each under its stated conditions. -/
namespace Go.Xw
theorem rRows_app {α : Type} {e : TypeId} {s : Nat} {enc : α → List Value} {w0 w : World} {L : List Res} {P Q : List (RowA α)} (h : Hp w0 w (rRows e s enc Q :: rRows e s enc P :: L)) : Hp w0 w (rRows e s enc (P ++ Q) :: L) := by
  have h1 := (h.f1).unpack
  have h2 : Hp w0 w (rRows e s enc Q :: (P.map (fun r => rO e s enc r.ia r.ic r.ins) ++ L)) := h1.perm (List.perm_middle)
  have h3 := h2.unpack
  refine Hp.pack (Hp.perm h3 ?_)
  rw [List.map_append, ← List.append_assoc]
  exact (List.perm_append_comm).append_right _
end Go.Xw
namespace Go.Proofs
open Go.Xw
set_option maxRecDepth 100000
set_option maxHeartbeats 2000000
attribute [local irreducible] Holds elemAddr
theorem cutsOf_four {n : NetL} (hok : NetOkP n) {k : Nat} (hk : k < nds n) : ∀ u, u ∈ cutsOf n k → u.length ≤ 4 := fun u hu => by
  have n1 := hok.nums.n1
  by_cases h0 : k = 0
  · rw [h0, cutsOf_0] at hu
    rw [List.mem_singleton.1 hu]; simp
  · by_cases h1 : k < fst_ n
    · rw [cutsOf_leaf (by omega) h1] at hu
      rw [List.mem_singleton.1 hu]; simp
    · have := cutsOf_and hok (i := k - fst_ n) (by omega)
      rw [show fst_ n + (k - fst_ n) = k by omega] at this
      rw [this, List.mem_append] at hu
      rcases hu with hu | hu
      · exact (joinL_good _ _ u (selL_mem hu).1).1
      · rw [List.mem_singleton.1 hu]; simp
/-- the lists of all nodes below k, and the rows that they hold -/
structure CutsR (n : NetL) (m k : Nat) (Q : List (RowA (RowA Int))) (P : List (RowA Int)) : Prop where
  len : Q.length = m + 1
  cuts : ∀ j, j < k → insOf (Q.getD j default).ins = cutsOf n j
  nil : ∀ j, k ≤ j → j < m + 1 → Q.getD j default = ⟨[], none, 0⟩
  mem : ∀ j, j < k → ∀ r, r ∈ (Q.getD j default).ins → r ∈ P
theorem CutsR.next {n : NetL} {m k : Nat} {Q : List (RowA (RowA Int))} {P P' : List (RowA Int)} (h : CutsR n m k Q P) (hk : k < m + 1) {y : RowA (RowA Int)} (h1 : insOf y.ins = cutsOf n k) (h2 : ∀ r, r ∈ y.ins → r ∈ P') (h3 : ∀ r, r ∈ P → r ∈ P') : CutsR n m (k + 1) (Q.set k y) P' := by
  have hl := h.len
  refine ⟨by rw [List.length_set]; exact hl, fun j hj => ?_, fun j h1 h2 => ?_, fun j hj r hr => ?_⟩
  · rw [set_getE (by omega)]
    by_cases hjk : j = k
    · rw [if_pos hjk, hjk]; exact h1
    · rw [if_neg hjk]; exact h.cuts j (by omega)
  · rw [set_getE (by omega), if_neg (by omega)]
    exact h.nil j (by omega) h2
  · rw [set_getE (by omega)] at hr
    by_cases hjk : j = k
    · rw [if_pos hjk] at hr; exact h2 r hr
    · rw [if_neg hjk] at hr; exact h3 r (h.mem j (by omega) r hr)
end Go.Proofs
end
