/- Rows of rows of the call's own, and strings out of bytes; each under its stated conditions. -/
import Derived.Test.YtiepmliokblkjaaFam
import Derived.Laws.BytesString
set_option linter.all false
namespace Go.Xw
open Go.RowKit
theorem set_getE {α : Type} [Inhabited α] {X : List α} {i j : Nat} {y : α} (hi : i < X.length) : (X.set i y).getD j default = if j = i then y else X.getD j default := by
 simp only [List.getD_eq_getElem?_getD, List.getElem?_set]
 by_cases h : i = j
 ·subst h; simp [hi]
 ·rw [if_neg h, if_neg (fun e => h e.symm)]
theorem take_snocC {α : Type} [Inhabited α] {xs : List α} {i : Nat} (h : i < xs.length) : xs.take (i + 1) = xs.take i ++ [xs.getD i default] := by
 rw [List.take_succ_eq_append_getElem h]
 simp [List.getD_eq_getElem?_getD, h]
theorem getD_memR {α : Type} [Inhabited α] {X : List α} {i : Nat} (h : i < X.length) : X.getD i default ∈ X := by
 rw [List.getD_eq_getElem?_getD, List.getElem?_eq_getElem h]; exact List.getElem_mem h
structure RowA (α : Type) where
 ins : List α
 ia : Option Addr
 ic : Nat
instance {α : Type} : Inhabited (RowA α) := ⟨⟨[], none, 0⟩⟩
def eRo {α : Type} (r : RowA α) : List Value := [.slice r.ia r.ins.length r.ic]
instance eRo_ok {α : Type} : EncOk (eRo (α := α)) 1 := ⟨fun _ => rfl, fun x u hu => by simp [eRo] at hu; subst hu; rfl⟩
def insOf {α : Type} (R : List (RowA α)) : List (List α) := R.map RowA.ins
theorem insOf_len {α : Type} (R : List (RowA α)) : (insOf R).length = R.length := by simp [insOf]
theorem insOf_get {α : Type} (R : List (RowA α)) (i : Nat) : (insOf R).getD i default = (R.getD i default).ins := by
 simp only [insOf, List.getD_eq_getElem?_getD, List.getElem?_map]
 cases R[i]? <;> rfl
def rRows {α : Type} (e : TypeId) (s : Nat) (enc : α → List Value) (R : List (RowA α)) : Res := rAll (R.map fun r => rO e s enc r.ia r.ic r.ins)
section
variable {α : Type} {e : TypeId} {s : Nat} {enc : α → List Value} {w0 w w' : World} {L : List Res} {R : List (RowA α)}
theorem rRows_nil (h : Hp w0 w L) : Hp w0 w (rRows e s enc ([] : List (RowA α)) :: L) := Hp.pack (Rs := []) h
theorem rRows_add {y : RowA α} (h : Hp w0 w (rO e s enc y.ia y.ic y.ins :: rRows e s enc R :: L)) : Hp w0 w (rRows e s enc (R ++ [y]) :: L) := by
 have h1 : Hp w0 w (R.map (fun r => rO e s enc r.ia r.ic r.ins) ++ (rO e s enc y.ia y.ic y.ins :: L)) := h.f1.unpack
 refine Hp.pack (Hp.perm h1 ?_)
 simp only [List.map_append, List.map_cons, List.map_nil, List.append_assoc]
 exact .refl _
theorem rRows_at (h : Hp w0 w (rRows e s enc R :: L)) {i : Nat} (hi : i < R.length) :
  ∃ Q, Hp w0 w (rO e s enc (R.getD i default).ia (R.getD i default).ic (R.getD i default).ins :: Q :: L) ∧ ∀ w' L' y, Hp w0 w' (rO e s enc y.ia y.ic y.ins :: Q :: L') → Hp w0 w' (rRows e s enc (R.set i y) :: L') := by
 obtain ⟨Q, h1, h2⟩ := Hp.allAt (i := i) (R := rO e s enc (R.getD i default).ia (R.getD i default).ic (R.getD i default).ins) h (by
  rw [List.getElem?_map, List.getElem?_eq_getElem hi, List.getD_eq_getElem?_getD, List.getElem?_eq_getElem hi]; rfl)
 refine ⟨Q, h1, fun w' L' y hy => ?_⟩
 have h3 := h2 w' _ _ hy
 unfold rRows
 rw [List.map_set]
 exact h3
end
class RowsH (w0 : World) (L : List Res) {α : Type} [Inhabited α] (s : outParam Nat) (enc : outParam (α → List Value)) (R : List (RowA α)) : Prop where
 h : ∀ w, Hp w0 w L → ∀ r, r ∈ R → Sl w r.ia r.ins.length s (fL enc r.ins)
instance RowsH.head {w0 : World} {L : List Res} {α : Type} [Inhabited α] {e : TypeId} {s : Nat} {enc : α → List Value} [he : EncOk enc s] {R : List (RowA α)} : RowsH w0 (rRows e s enc R :: L) s enc R :=
 ⟨fun w hp r hr => Own.sl (hp.g0 (rO e s enc r.ia r.ic r.ins) (List.mem_map.2 ⟨r, hr, rfl⟩)) he.len⟩
instance RowsH.tail {w0 : World} {L : List Res} {A : Res} {α : Type} [Inhabited α] {s : Nat} {enc : α → List Value} {R : List (RowA α)} [h : RowsH w0 L s enc R] : RowsH w0 (A :: L) s enc R := ⟨fun w hp => h.h w hp.drop⟩
theorem RowsH.at_ {w0 : World} {L : List Res} {α : Type} [Inhabited α] {s : Nat} {enc : α → List Value} {R : List (RowA α)} (h : RowsH w0 L s enc R) {i : Nat} (hi : i < R.length) : RdH w0 L (R.getD i default).ia s enc (R.getD i default).ins :=
 ⟨fun w hp => h.h w hp _ (getD_memR hi)⟩
def eStr (s : ByteArray) : List Value := [.string s]
instance eStr_ok : EncOk eStr 1 := ⟨fun _ => rfl, fun x u hu => by simp [eStr] at hu; subst hu; rfl⟩
end Go.Xw
