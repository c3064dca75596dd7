/- Maps whose entries are only added or overwritten, as lists of keys and values; each under its stated conditions. -/
import Derived.Test.YtbjgekllkfnjnaaFam
import Derived.DeepKeys3
set_option linter.all false
namespace Go.Xw
set_option maxHeartbeats 1000000
section
variable {κ ν : Type} [DecidableEq κ]
def mget : List (κ × ν) → κ → Option ν
 | [], _ => none
 | p :: F, x => if p.1 = x then some p.2 else mget F x
theorem mget_none {F : List (κ × ν)} {x : κ} : mget F x = none ↔ ∀ p, p ∈ F → p.1 ≠ x := by
 induction F with
 | nil => simp [mget]
 | cons p F ih =>
  unfold mget
  by_cases h : p.1 = x
  ·simp [h]
  ·rw [if_neg h, ih]; simp [h]
theorem mget_some {F : List (κ × ν)} {x : κ} {v : ν} (h : mget F x = some v) : (x, v) ∈ F := by
 induction F with
 | nil => cases h
 | cons p F ih =>
  unfold mget at h
  by_cases hp : p.1 = x
  ·rw [if_pos hp] at h
   injection h with h
   subst h; subst hp
   simp
  ·rw [if_neg hp] at h
   exact List.mem_cons_of_mem _ (ih h)
theorem mget_mem {F : List (κ × ν)} (hn : (F.map Prod.fst).Nodup) {x : κ} {v : ν} (h : (x, v) ∈ F) : mget F x = some v := by
 induction F with
 | nil => cases h
 | cons p F ih =>
  rw [List.map_cons, List.nodup_cons] at hn
  unfold mget
  rcases List.mem_cons.1 h with rfl | h
  ·rw [if_pos rfl]
  ·rw [if_neg (fun he => hn.1 (by rw [he]; exact List.mem_map.2 ⟨_, h, rfl⟩))]
   exact ih hn.2 h
theorem mget_add {F : List (κ × ν)} {x y : κ} {v : ν} (hx : mget F x = none) : mget (F ++ [(x, v)]) y = if y = x then some v else mget F y := by
 induction F with
 | nil =>
  show (if x = y then some v else none) = _
  by_cases h : y = x
  ·rw [if_pos h.symm, if_pos h]
  ·rw [if_neg (fun h2 => h h2.symm), if_neg h]; rfl
 | cons p F ih =>
  unfold mget at hx
  by_cases hp : p.1 = x
  ·rw [if_pos hp] at hx; cases hx
  ·rw [if_neg hp] at hx
   show (if p.1 = y then some p.2 else mget (F ++ [(x, v)]) y) = _
   rw [ih hx]
   by_cases h : p.1 = y
   ·rw [if_pos h, if_neg (fun h2 => hp (h.trans h2))]
    show _ = if p.1 = y then some p.2 else mget F y
    rw [if_pos h]
   ·rw [if_neg h]
    show _ = if y = x then some v else if p.1 = y then some p.2 else mget F y
    rw [if_neg h]
structure KeyE (P : Program) (t : TypeId) (enc : κ → Value) (D : κ → Prop) : Prop where
 law : WideMaps.KeyLaw P t
 ok : ∀ x, D x → ∃ l, keyOf P t (enc x) = some l
 inj : ∀ x y, enc x = enc y → x = y
variable (eK : κ → Value) (eV : ν → Value)
def entL (F : List (κ × ν)) : List MapEntry := F.zipIdx.map fun q => ⟨eK q.1.1, eV q.1.2, q.2⟩
def entE (F : List (κ × ν)) : Array MapEntry := (entL eK eV F).toArray
theorem entL_get (F : List (κ × ν)) (j : Nat) : (entL eK eV F)[j]? = (F[j]?).map fun p => ⟨eK p.1, eV p.2, j⟩ := by
 unfold entL
 rw [List.getElem?_map, List.getElem?_zipIdx]
 cases F[j]? <;> simp
theorem entE_add (F : List (κ × ν)) (x : κ) (v : ν) : (entE eK eV F).push ⟨eK x, eV v, F.length⟩ = entE eK eV (F ++ [(x, v)]) := by
 unfold entE entL
 rw [List.zipIdx_append]
 simp
variable {eK eV}
structure MapF (D : κ → Prop) (F : List (κ × ν)) : Prop where
 nd : (F.map Prod.fst).Nodup
 dom : ∀ p, p ∈ F → D p.1
theorem MapF.add {D : κ → Prop} {F : List (κ × ν)} (h : MapF D F) {x : κ} {v : ν} (hx : D x) (hn : mget F x = none) : MapF D (F ++ [(x, v)]) := by
 refine ⟨?_, fun p hp => ?_⟩
 ·rw [List.map_append, List.nodup_append]
  refine ⟨h.nd, by simp, fun a ha b hb => ?_⟩
  simp at hb; subst hb
  obtain ⟨p, hp, rfl⟩ := List.mem_map.1 ha
  exact mget_none.1 hn p hp
 ·rcases List.mem_append.1 hp with hp | hp
  ·exact h.dom p hp
  ·simp at hp; subst hp; exact hx
theorem find_runM {P : Program} {t : TypeId} {D : κ → Prop} (K : KeyE P t eK D) {F : List (κ × ν)} (hF : MapF D F) {x : κ} (hx : D x) (w : World) :
  (mget F x = none ∧ (Instr.findKey t (eK x) (entE eK eV F).toList).run P w = .ok none w) ∨ ∃ j v, mget F x = some v ∧ F[j]? = some (x, v) ∧ (Instr.findKey t (eK x) (entE eK eV F).toList).run P w = .ok (some (j, eV v)) w := by
 obtain ⟨l, hl⟩ := K.ok x hx
 have hes : ∀ e, e ∈ (entE eK eV F).toList → ∃ j p, F[j]? = some p ∧ e = ⟨eK p.1, eV p.2, j⟩ := fun e he => by
  obtain ⟨j, hj, he⟩ := List.getElem_of_mem he
  have h1 : (entL eK eV F)[j]? = some e := by rw [← he]; exact List.getElem?_eq_getElem hj
  rw [entL_get] at h1
  cases hf : F[j]? with
  | none => rw [hf] at h1; cases h1
  | some p => rw [hf] at h1; injection h1 with h1; exact ⟨j, p, hf, h1.symm⟩
 rcases K.law.find w hl (entE eK eV F).toList (fun e he => by
  obtain ⟨j, p, h1, rfl⟩ := hes e he
  exact K.ok _ (hF.dom p (List.mem_of_getElem? h1))) with ⟨h1, h2⟩ | ⟨j, e, h1, h2, h3⟩
 ·refine .inl ⟨mget_none.2 fun p hp he => ?_, h1⟩
  obtain ⟨j, hj, hp⟩ := List.getElem_of_mem hp
  have h4 : (entL eK eV F)[j]? = some ⟨eK p.1, eV p.2, j⟩ := by
   rw [entL_get, List.getElem?_eq_getElem hj, hp]; rfl
  exact h2 _ (List.mem_of_getElem? h4) (by rw [he])
 ·obtain ⟨j', p, h4, rfl⟩ := hes e (List.mem_of_getElem? h2)
  have h5 : (entL eK eV F)[j]? = some ⟨eK p.1, eV p.2, j'⟩ := h2
  rw [entL_get] at h5
  have hjj : F[j]? = some p := by
   cases hf : F[j]? with
   | none => rw [hf] at h5; cases h5
   | some p' =>
    rw [hf] at h5
    injection h5 with h5
    injection h5 with h6 h7 h8
    subst h8
    rw [hf] at h4
    exact h4
  have hpx : p.1 = x := K.inj _ _ h3
  obtain ⟨px, pv⟩ := p
  have hpx : px = x := hpx
  subst hpx
  exact .inr ⟨j, pv, mget_mem hF.nd (List.mem_of_getElem? hjj), hjj, h1⟩
theorem look_runM {P : Program} {t mt et : TypeId} {D : κ → Prop} (K : KeyE P t eK D) (hu : P.underlying mt = some (.map t et)) {F : List (κ × ν)} (hF : MapF D F) {x : κ} (hx : D x) {w : World} {b : Nat} (hb : w.heap[b]? = some (.map (entE eK eV F) F.length))
  {z : Value} (hz : (zeroValue et).run P w = .ok z w) (c : Bool) :
  (Instr.lookup mt (.map (some b)) (eK x) c).run P w = .ok (if c then .tuple #[((mget F x).map eV).getD z, .bool (mget F x).isSome] else ((mget F x).map eV).getD z) w := by
 obtain ⟨l, hl⟩ := K.ok x hx
 unfold Instr.lookup
 simp only [Sem.run_bind, run_underlying hu, Result.andThen_ok, MapKept.run_getObj_map hb, Sem.run_pure, K.law.check w _ hl]
 rcases find_runM (eV := eV) K hF hx w with ⟨h1, h2⟩ | ⟨j, v, h1, _, h2⟩
 ·simp only [h2, Result.andThen_ok, Sem.run_bind, hz, Sem.run_pure, h1]
  cases c <;> rfl
 ·simp only [h2, Result.andThen_ok, Sem.run_bind, Sem.run_pure, h1]
  cases c <;> rfl
theorem upd_runM {P : Program} {t mt et : TypeId} {D : κ → Prop} (K : KeyE P t eK D) (hu : P.underlying mt = some (.map t et)) {F : List (κ × ν)} (hF : MapF D F) {x : κ} (hx : D x) (hn : mget F x = none) (v : ν) {w : World} {b : Nat} (hb : w.heap[b]? = some (.map (entE eK eV F) F.length)) :
  (Instr.mapUpdate mt (.map (some b)) (eK x) (eV v)).run P w = .ok () { w with heap := w.heap.setIfInBounds b (.map (entE eK eV (F ++ [(x, v)])) (F ++ [(x, v)]).length) } := by
 obtain ⟨l, hl⟩ := K.ok x hx
 unfold Instr.mapUpdate
 simp only [Sem.run_bind, run_underlying hu, Result.andThen_ok, MapKept.run_getObj_map hb, K.law.check w _ hl]
 rcases find_runM (eV := eV) K hF hx w with ⟨h1, h2⟩ | ⟨j, v', h1, _, h2⟩
 ·simp only [h2, Result.andThen_ok]
  rw [MapKept.run_setObj_map _ hb, entE_add]
  simp
 ·rw [hn] at h1; cases h1
theorem ent_runM {P : Program} {t mt et : TypeId} {D : κ → Prop} (K : KeyE P t eK D) (hu : P.underlying mt = some (.map t et)) {F : List (κ × ν)} (hF : MapF D F) {x : κ} (hx : D x) {w : World} {b : Nat} (hb : w.heap[b]? = some (.map (entE eK eV F) F.length))
  {z : ν} (hz : (zeroValue et).run P w = .ok (eV z) w) :
  ∃ F' j v, (Instr.mapEntry mt (.map (some b)) (eK x)).run P w = .ok (.tuple #[eV v, goInt (j : Nat)]) { w with heap := w.heap.setIfInBounds b (.map (entE eK eV F') F'.length) } ∧ MapF D F' ∧ F'[j]? = some (x, v) ∧ v = (mget F x).getD z ∧ (∀ y, (mget F' y).getD z = (mget F y).getD z) := by
 obtain ⟨l, hl⟩ := K.ok x hx
 rcases find_runM (eV := eV) K hF hx w with ⟨h1, h2⟩ | ⟨j, v, h1, h3, h2⟩
 ·refine ⟨F ++ [(x, z)], F.length, z, ?_, hF.add hx h1, by simp, by rw [h1]; rfl, fun y => ?_⟩
  ·unfold Instr.mapEntry
   simp only [Sem.run_bind, run_underlying hu, Result.andThen_ok, MapKept.run_getObj_map hb, K.law.check w _ hl, h2, hz]
   rw [MapKept.run_setObj_map _ hb, entE_add]
   simp
  ·rw [mget_add h1]
   by_cases hy : y = x
   ·rw [if_pos hy, hy, h1]; rfl
   ·rw [if_neg hy]
 ·refine ⟨F, j, v, ?_, hF, h3, by rw [h1]; rfl, fun y => rfl⟩
  have hej : (entE eK eV F)[j]? = some ⟨eK x, eV v, j⟩ := by
   have := entL_get eK eV F j
   rw [h3] at this
   simpa [entE] using this
  have hmod : (entE eK eV F).modify j (fun e => { e with key := eK x }) = entE eK eV F := by
   apply Array.ext_getElem?
   intro i
   rw [Array.getElem?_modify]
   by_cases hij : j = i
   ·subst hij
    rw [if_pos rfl, hej]; rfl
   ·rw [if_neg hij]
  unfold Instr.mapEntry
  simp only [Sem.run_bind, run_underlying hu, Result.andThen_ok, MapKept.run_getObj_map hb, K.law.check w _ hl, h2, hej, Option.map_some, Option.getD_some, K.law.stays w hl]
  rw [MapKept.run_setObj_map _ hb]
  simp only [Result.andThen_ok, Sem.run_pure, hmod]
end
end Go.Xw
