/- Maps as resources, and stops for their instructions; each under its stated conditions. -/
import Derived.Test.YtbjgekllkfnjnaaMaps
set_option linter.all false
namespace Go.Xw
set_option maxHeartbeats 1000000
section
variable {κ ν : Type} [DecidableEq κ] {eK : κ → Value} {eV : ν → Value}
theorem entE_get (F : List (κ × ν)) (j : Nat) : (entE eK eV F)[j]? = (F[j]?).map fun p => ⟨eK p.1, eV p.2, j⟩ := by
 have := entL_get eK eV F j
 simpa [entE] using this
theorem entE_size (F : List (κ × ν)) : (entE eK eV F).size = F.length := by simp [entE, entL]
theorem store_runM {P : Program} {mt : TypeId} {F : List (κ × ν)} {j : Nat} {x : κ} {v v' : ν} (hj : F[j]? = some (x, v)) {w : World} {b : Nat} (hb : w.heap[b]? = some (.map (entE eK eV F) F.length)) :
  (Instr.entryStore mt (.map (some b)) (goInt (j : Nat)) (eV v')).run P w = .ok () { w with heap := w.heap.setIfInBounds b (.map (entE eK eV (F.set j (x, v'))) (F.set j (x, v')).length) } := by
 have hlt : j < F.length := (List.getElem?_eq_some_iff.1 hj).1
 have hf : (entE eK eV F).findIdx? (fun e => (e.born : Int) == (j : Int)) = some j := by
  rw [Array.findIdx?_eq_some_iff_getElem]
  refine ⟨by rw [entE_size]; exact hlt, ?_, fun i hi => ?_⟩
  ·have h1 := entE_get (eK := eK) (eV := eV) F j
   rw [Array.getElem?_eq_getElem (by rw [entE_size]; exact hlt), hj] at h1
   injection h1 with h1
   rw [h1]; simp
  ·have h1 := entE_get (eK := eK) (eV := eV) F i
   rw [Array.getElem?_eq_getElem (by rw [entE_size]; omega), List.getElem?_eq_getElem (by omega)] at h1
   injection h1 with h1
   rw [h1]; simp; omega
 have hmod : (entE eK eV F).modify j (fun e => { e with val := eV v' }) = entE eK eV (F.set j (x, v')) := by
  apply Array.ext_getElem?
  intro i
  rw [Array.getElem?_modify, entE_get, entE_get]
  by_cases hij : j = i
  ·subst hij
   rw [if_pos rfl, hj, List.getElem?_set_self hlt]; rfl
  ·rw [if_neg hij, List.getElem?_set_ne hij]
 unfold Instr.entryStore
 simp only [Sem.run_bind, MapKept.run_getObj_map hb, Result.andThen_ok, asInt, asIntOf, goInt, Sem.run_pure, hf]
 rw [MapKept.run_setObj_map _ hb, hmod, List.length_set]
theorem MapF.set {D : κ → Prop} {F : List (κ × ν)} (h : MapF D F) {j : Nat} {x : κ} {v v' : ν} (hj : F[j]? = some (x, v)) : MapF D (F.set j (x, v')) := by
 have hlt : j < F.length := (List.getElem?_eq_some_iff.1 hj).1
 have he : (F.set j (x, v')).map Prod.fst = F.map Prod.fst := by
  rw [List.map_set]
  apply List.ext_getElem?
  intro i
  by_cases hij : j = i
  ·subst hij
   rw [List.getElem?_set_self (by simpa using hlt), List.getElem?_map, hj]; rfl
  ·rw [List.getElem?_set_ne hij]
 refine ⟨by rw [he]; exact h.nd, fun p hp => ?_⟩
 have hm : p.1 ∈ (F.set j (x, v')).map Prod.fst := List.mem_map.2 ⟨p, hp, rfl⟩
 rw [he] at hm
 obtain ⟨q, hq, hqe⟩ := List.mem_map.1 hm
 rw [← hqe]; exact h.dom q hq
theorem mget_set {D : κ → Prop} {F : List (κ × ν)} (h : MapF D F) {j : Nat} {x y : κ} {v v' : ν} (hj : F[j]? = some (x, v)) : mget (F.set j (x, v')) y = if y = x then some v' else mget F y := by
 have h2 := h.set (v' := v') hj
 have hlt : j < F.length := (List.getElem?_eq_some_iff.1 hj).1
 by_cases hy : y = x
 ·subst hy
  rw [if_pos rfl]
  exact mget_mem h2.nd (List.mem_of_getElem? (List.getElem?_set_self hlt))
 ·rw [if_neg hy]
  cases hg : mget F y with
  | some u =>
   obtain ⟨i, hi, he⟩ := List.getElem_of_mem (mget_some hg)
   have hij : j ≠ i := fun hh => by
    subst hh
    rw [List.getElem?_eq_getElem hi, he] at hj
    injection hj with hj
    injection hj with hj
    exact hy hj
   refine mget_mem h2.nd (List.mem_of_getElem? (i := i) ?_)
   rw [List.getElem?_set_ne hij, List.getElem?_eq_getElem hi, he]
  | none =>
   rw [mget_none] at hg ⊢
   intro p hp
   rcases List.mem_or_eq_of_mem_set hp with hp | rfl
   ·exact hg p hp
   ·exact fun he => hy he.symm
variable (eK eV)
def rMF (D : κ → Prop) (b : Nat) (F : List (κ × ν)) : Res where
 ids := [b]
 P w := w.heap[b]? = some (.map (entE eK eV F) F.length) ∧ MapF D F
 st := fun h hP => ⟨by rw [h b (by simp)]; exact hP.1, hP.2⟩
 lt := fun {w} hP k hk => by
  simp at hk; subst hk
  rcases Nat.lt_or_ge k w.heap.size with h | h
  ·exact h
  ·have := hP.1; rw [Array.getElem?_eq_none h] at this; cases this
def rMZ (D : κ → Prop) (z : ν) (b : Nat) (e : κ → ν) : Res where
 ids := [b]
 P w := ∃ F : List (κ × ν), w.heap[b]? = some (.map (entE eK eV F) F.length) ∧ MapF D F ∧ ∀ y, (mget F y).getD z = e y
 st := fun h hP => by obtain ⟨F, h1, h2⟩ := hP; exact ⟨F, by rw [h b (by simp)]; exact h1, h2⟩
 lt := fun {w} hP k hk => by
  simp at hk; subst hk
  obtain ⟨F, h1, _⟩ := hP
  rcases Nat.lt_or_ge k w.heap.size with h | h
  ·exact h
  ·rw [Array.getElem?_eq_none h] at h1; cases h1
end
end Go.Xw
