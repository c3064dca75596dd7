/- Texts that belong together; each under its stated conditions. -/
import Derived.Test.YtifjicajbgoamaaGreatHash
import Derived.Test.YtifjicajbgoamaaGreatRefLaw
import Derived.Test.YtifjicajbgoamaaGreatIns
import Derived.Test.YtifjicajbgoamaaGreatCone
import Derived.Test.YtifjicajbgoamaaGreatConjLaw
import Derived.Test.YtifjicajbgoamaaGreatFam
import Derived.Laws.BytesString
import Derived.Laws.CopyRow
import Derived.Laws.IdiomCopy
import Derived.Test.YtifjicajbgoamaaGreatBase
import Derived.Test.YtifjicajbgoamaaGreatCutsOk
import Derived.Test.YtifjicajbgoamaaGreatCut
set_option linter.all false
section
/- Adding AND nodes to a net that stands first in a bigger struct, and copying roots to it (printed by gen_bal.py out of XAdd and XMap); each under its stated conditions. -/
namespace Go.Xw
end Go.Xw
namespace Go.Proofs
open Go.Xw
set_option maxRecDepth 100000
set_option maxHeartbeats 1000000
attribute [local irreducible] Holds elemAddr
end Go.Proofs
end
section
/- The contracts of the functions that give the literals below a conjunction; each under its stated conditions. -/
namespace Go.Proofs
open Go.Xw
set_option maxRecDepth 100000
set_option maxHeartbeats 1000000
attribute [local irreducible] Holds elemAddr

end Go.Proofs
end
section
/- The contracts of the program's functions that give the literals below a conjunction; each under its stated conditions. -/
namespace Go.Proofs
open Go.Xw
set_option maxRecDepth 100000
set_option maxHeartbeats 1000000
attribute [local irreducible] Holds elemAddr

end Go.Proofs
end
section
/- The contracts of the balancer's methods and of neededNodes; each under its stated conditions. -/
namespace Go.Xw
open Go.RowKit
/-- blocks of the call's own in which a slice reads as X -/
theorem sl_cell {w w' : World} {a : Option Addr} {X : List Int} (h : ∀ k, k ∈ (blk a).toList → w'.heap[k]? = w.heap[k]?) (hs : Sl w a X.length 1 (fL eI X)) : Sl w' a X.length 1 (fL eI X) := by
  refine ⟨hs.1, fun i j hi hj => ?_⟩
  have h1 := hs.2 i j hi hj
  cases a with
  | none => exact absurd rfl (hs.1 (by omega))
  | some ad =>
    have hb := h ad.block (by simp [blk])
    unfold World.cell? at h1 ⊢
    have e : ((elemAddr (some ad) 1 (i : Int)).add j).block = ad.block := by unfold elemAddr; rw [block_of_add, block_of_add]; rfl
    rw [e] at h1 ⊢
    rw [hb]
    exact h1
def rV (a : Option Addr) (X : List Int) : Res where
  ids := (blk a).toList
  P w := Sl w a X.length 1 (fL eI X) ∧ ∀ k, k ∈ (blk a).toList → k < w.heap.size
  st := fun h ⟨h1, h2⟩ => ⟨sl_cell h h1, fun k hk => by
    have h3 := h2 k hk
    have h4 := h k hk
    rw [Array.getElem?_eq_getElem h3] at h4
    exact (Array.getElem?_eq_some_iff.1 h4).1⟩
  lt := fun h => h.2
instance RdH.rV {w0 : World} {L : List Res} {a : Option Addr} {X : List Int} : RdH w0 (rV a X :: L) a 1 eI X := ⟨fun _ hp => hp.g0.1⟩
end Go.Xw
namespace Go.Proofs
open Go.Xw
set_option maxRecDepth 100000
set_option maxHeartbeats 1000000
attribute [local irreducible] Holds elemAddr
end Go.Proofs
end
section
/- The contracts of the program's Balance; each under its stated conditions. -/
namespace Go.Proofs
open Go.Xw
set_option maxRecDepth 100000
set_option maxHeartbeats 1000000
attribute [local irreducible] Holds elemAddr
end Go.Proofs
end
section
/- The contracts of the reference's Balance; each under its stated conditions. -/
namespace Go.Proofs
open Go.Xw
set_option maxRecDepth 100000
set_option maxHeartbeats 1000000
attribute [local irreducible] Holds elemAddr
end Go.Proofs
end
section
/- Rows of rows of the call's own, and strings out of bytes; each under its stated conditions. -/
namespace Go.Xw
open Go.RowKit

/-! ### rows of rows -/
theorem getD_memR {α : Type} [Inhabited α] {X : List α} {i : Nat} (h : i < X.length) : X.getD i default ∈ X := by
  rw [List.getD_eq_getElem?_getD, List.getElem?_eq_getElem h]; exact List.getElem_mem h
structure RowA (α : Type) where
  ins : List α
  ia : Option Addr
  ic : Nat
instance {α : Type} : Inhabited (RowA α) := ⟨⟨[], none, 0⟩⟩
def eRo {α : Type} (r : RowA α) : List Value := [.slice r.ia r.ins.length r.ic]
instance eRo_ok {α : Type} : EncOk (eRo (α := α)) 1 := ⟨fun _ => rfl, fun x u hu => by simp [eRo] at hu; subst hu; rfl⟩
/-- all rows are of the call's own -/
def rRows {α : Type} (e : TypeId) (s : Nat) (enc : α → List Value) (R : List (RowA α)) : Res := rAll (R.map fun r => rO e s enc r.ia r.ic r.ins)
section
variable {α : Type} {e : TypeId} {s : Nat} {enc : α → List Value} {w0 w w' : World} {L : List Res} {R : List (RowA α)}
end
/-- the rows can be read in every world of this kind -/
class RowsH (w0 : World) (L : List Res) {α : Type} [Inhabited α] (s : outParam Nat) (enc : outParam (α → List Value)) (R : List (RowA α)) : Prop where
  h : ∀ w, Hp w0 w L → ∀ r, r ∈ R → Sl w r.ia r.ins.length s (fL enc r.ins)
instance RowsH.head {w0 : World} {L : List Res} {α : Type} [Inhabited α] {e : TypeId} {s : Nat} {enc : α → List Value} [he : EncOk enc s] {R : List (RowA α)} : RowsH w0 (rRows e s enc R :: L) s enc R :=
  ⟨fun w hp r hr => Own.sl (hp.g0 (rO e s enc r.ia r.ic r.ins) (List.mem_map.2 ⟨r, hr, rfl⟩)) he.len⟩
instance RowsH.tail {w0 : World} {L : List Res} {A : Res} {α : Type} [Inhabited α] {s : Nat} {enc : α → List Value} {R : List (RowA α)} [h : RowsH w0 L s enc R] : RowsH w0 (A :: L) s enc R := ⟨fun w hp => h.h w hp.drop⟩
theorem RowsH.at_ {w0 : World} {L : List Res} {α : Type} [Inhabited α] {s : Nat} {enc : α → List Value} {R : List (RowA α)} (h : RowsH w0 L s enc R) {i : Nat} (hi : i < R.length) : RdH w0 L (R.getD i default).ia s enc (R.getD i default).ins :=
  ⟨fun w hp => h.h w hp _ (getD_memR hi)⟩
/-! ### strings -/
def eStr (s : ByteArray) : List Value := [.string s]
instance eStr_ok : EncOk eStr 1 := ⟨fun _ => rfl, fun x u hu => by simp [eStr] at hu; subst hu; rfl⟩
end Go.Xw
end
section
/- Copying within a row of the call's own: its rest moved up by one; each under its stated conditions. -/
namespace Go.Xw
open Go.RowKit
section
variable {S : Setting} {sz : Nat} {R : Value → World → Prop} {C : World → Prop} {w w0 : World} {F : List Res} {ops : Array Oper} {rest : List Oper} {k : List Item} {env : Env}
end
end Go.Xw
end
section
/- The contract of the comparison of two lists of integers; under its stated conditions. -/
namespace Go.Proofs
open Go.Xw
set_option maxRecDepth 100000
set_option maxHeartbeats 1000000
attribute [local irreducible] Holds elemAddr
end Go.Proofs
end
section
/- The contracts of the program's functions that enumerate cuts: unions of two selections; each under its stated conditions. -/
namespace Go.Xw
/-- all rows can be read -/
def RowsR (w : World) (R : List (RowA Int)) : Prop := ∀ r, r ∈ R → Rd w r.ia 1 eI r.ins
theorem RowsR.ext {w w' : World} {R : List (RowA Int)} (h : RowsR w R) (hx : Ext w w') : RowsR w' R := fun r hr => (h r hr).ext hx
theorem RowsR.at_ {w : World} {R : List (RowA Int)} (h : RowsR w R) {i : Nat} (hi : i < R.length) : Rd w (R.getD i default).ia 1 eI (R.getD i default).ins := h _ (getD_memR hi)
theorem MergeQ.hp {e : TypeId} {xs ys : List Int} {w : World} {v : Value} {w' : World} (h : Go.Proofs.MergeQ e xs ys w v w') : ∃ a' c', v = .tuple ⟨[.slice a' (Go.Proofs.mergeL xs ys).length c', .bool (Go.Proofs.mergeOk xs ys)]⟩ ∧ Hp w w' [rO e 1 eI a' c' (Go.Proofs.mergeL xs ys)] := by
  obtain ⟨a', c', h1, h2, h3⟩ := h
  exact ⟨a', c', h1, (Hp.nil w).ownN h3 h2⟩
end Go.Xw
namespace Go.Proofs
open Go.Xw
set_option maxRecDepth 100000
set_option maxHeartbeats 1500000
attribute [local irreducible] Holds elemAddr
end Go.Proofs
end
section
/- The contracts of the reference's functions that enumerate cuts: unions of two selections; each under its stated conditions. -/
namespace Go.Proofs
open Go.Xw
set_option maxRecDepth 100000
set_option maxHeartbeats 1500000
attribute [local irreducible] Holds elemAddr
end Go.Proofs
end
section
/- The contracts of the program's EnumCuts; each under its stated conditions. -/
namespace Go.Xw
end Go.Xw
namespace Go.Proofs
open Go.Xw
set_option maxRecDepth 100000
set_option maxHeartbeats 2000000
attribute [local irreducible] Holds elemAddr
end Go.Proofs
end
section
/- The contracts of the reference's EnumCuts; each under its stated conditions. -/
namespace Go.Proofs
open Go.Xw
set_option maxRecDepth 100000
set_option maxHeartbeats 2000000
attribute [local irreducible] Holds elemAddr
end Go.Proofs
end
