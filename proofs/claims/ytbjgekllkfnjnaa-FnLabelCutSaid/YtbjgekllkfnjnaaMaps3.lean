/- Texts that belong together; each under its stated conditions. -/
import Derived.Test.YtbjgekllkfnjnaaMaps
set_option linter.all false
section
namespace Go.Xw
set_option maxHeartbeats 1000000
section
variable {κ ν : Type} [DecidableEq κ] {eK : κ → Value} {eV : ν → Value}
theorem entE_get (F : List (κ × ν)) (j : Nat) : (entE eK eV F)[j]? = (F[j]?).map fun p => ⟨eK p.1, eV p.2, j⟩ := by
 have := entL_get eK eV F j
 simpa [entE] using this
theorem entE_size (F : List (κ × ν)) : (entE eK eV F).size = F.length := by simp [entE, entL]
theorem store_runM {P : Program} {mt : TypeId} {F : List (κ × ν)} {j : Nat} {x : κ} {v v' : ν} (hj : F[j]? = some (x, v)) {w : World} {b : Nat} (hb : w.heap[b]? = some (.map (entE eK eV F) F.length)) :
  (Instr.entryStore mt (.map (some b)) (goInt (j : Nat)) (eV v')).run P w = .ok () { w with heap := w.heap.setIfInBounds b (.map (entE eK eV (F.set j (x, v'))) (F.set j (x, v')).length) } := by
 have hlt : j < F.length := (List.getElem?_eq_some_iff.1 hj).1
 have hf : (entE eK eV F).findIdx? (fun e => (e.born : Int) == (j : Int)) = some j := by
  rw [Array.findIdx?_eq_some_iff_getElem]
  refine ⟨by rw [entE_size]; exact hlt, ?_, fun i hi => ?_⟩
  ·have h1 := entE_get (eK := eK) (eV := eV) F j
   rw [Array.getElem?_eq_getElem (by rw [entE_size]; exact hlt), hj] at h1
   injection h1 with h1
   rw [h1]; simp
  ·have h1 := entE_get (eK := eK) (eV := eV) F i
   rw [Array.getElem?_eq_getElem (by rw [entE_size]; omega), List.getElem?_eq_getElem (by omega)] at h1
   injection h1 with h1
   rw [h1]; simp; omega
 have hmod : (entE eK eV F).modify j (fun e => { e with val := eV v' }) = entE eK eV (F.set j (x, v')) := by
  apply Array.ext_getElem?
  intro i
  rw [Array.getElem?_modify, entE_get, entE_get]
  by_cases hij : j = i
  ·subst hij
   rw [if_pos rfl, hj, List.getElem?_set_self hlt]; rfl
  ·rw [if_neg hij, List.getElem?_set_ne hij]
 unfold Instr.entryStore
 simp only [Sem.run_bind, MapKept.run_getObj_map hb, Result.andThen_ok, asInt, asIntOf, goInt, Sem.run_pure, hf]
 rw [MapKept.run_setObj_map _ hb, hmod, List.length_set]
theorem MapF.set {D : κ → Prop} {F : List (κ × ν)} (h : MapF D F) {j : Nat} {x : κ} {v v' : ν} (hj : F[j]? = some (x, v)) : MapF D (F.set j (x, v')) := by
 have hlt : j < F.length := (List.getElem?_eq_some_iff.1 hj).1
 have he : (F.set j (x, v')).map Prod.fst = F.map Prod.fst := by
  rw [List.map_set]
  apply List.ext_getElem?
  intro i
  by_cases hij : j = i
  ·subst hij
   rw [List.getElem?_set_self (by simpa using hlt), List.getElem?_map, hj]; rfl
  ·rw [List.getElem?_set_ne hij]
 refine ⟨by rw [he]; exact h.nd, fun p hp => ?_⟩
 have hm : p.1 ∈ (F.set j (x, v')).map Prod.fst := List.mem_map.2 ⟨p, hp, rfl⟩
 rw [he] at hm
 obtain ⟨q, hq, hqe⟩ := List.mem_map.1 hm
 rw [← hqe]; exact h.dom q hq
theorem mget_set {D : κ → Prop} {F : List (κ × ν)} (h : MapF D F) {j : Nat} {x y : κ} {v v' : ν} (hj : F[j]? = some (x, v)) : mget (F.set j (x, v')) y = if y = x then some v' else mget F y := by
 have h2 := h.set (v' := v') hj
 have hlt : j < F.length := (List.getElem?_eq_some_iff.1 hj).1
 by_cases hy : y = x
 ·subst hy
  rw [if_pos rfl]
  exact mget_mem h2.nd (List.mem_of_getElem? (List.getElem?_set_self hlt))
 ·rw [if_neg hy]
  cases hg : mget F y with
  | some u =>
   obtain ⟨i, hi, he⟩ := List.getElem_of_mem (mget_some hg)
   have hij : j ≠ i := fun hh => by
    subst hh
    rw [List.getElem?_eq_getElem hi, he] at hj
    injection hj with hj
    injection hj with hj
    exact hy hj
   refine mget_mem h2.nd (List.mem_of_getElem? (i := i) ?_)
   rw [List.getElem?_set_ne hij, List.getElem?_eq_getElem hi, he]
  | none =>
   rw [mget_none] at hg ⊢
   intro p hp
   rcases List.mem_or_eq_of_mem_set hp with hp | rfl
   ·exact hg p hp
   ·exact fun he => hy he.symm
variable (eK eV)
def rMF (D : κ → Prop) (b : Nat) (F : List (κ × ν)) : Res where
 ids := [b]
 P w := w.heap[b]? = some (.map (entE eK eV F) F.length) ∧ MapF D F
 st := fun h hP => ⟨by rw [h b (by simp)]; exact hP.1, hP.2⟩
 lt := fun {w} hP k hk => by
  simp at hk; subst hk
  rcases Nat.lt_or_ge k w.heap.size with h | h
  ·exact h
  ·have := hP.1; rw [Array.getElem?_eq_none h] at this; cases this
def rMZ (D : κ → Prop) (z : ν) (b : Nat) (e : κ → ν) : Res where
 ids := [b]
 P w := ∃ F : List (κ × ν), w.heap[b]? = some (.map (entE eK eV F) F.length) ∧ MapF D F ∧ ∀ y, (mget F y).getD z = e y
 st := fun h hP => by obtain ⟨F, h1, h2⟩ := hP; exact ⟨F, by rw [h b (by simp)]; exact h1, h2⟩
 lt := fun {w} hP k hk => by
  simp at hk; subst hk
  obtain ⟨F, h1, _⟩ := hP
  rcases Nat.lt_or_ge k w.heap.size with h | h
  ·exact h
  ·rw [Array.getElem?_eq_none h] at h1; cases h1
end
end Go.Xw
end
section
namespace Go.Xw
set_option maxHeartbeats 1000000
theorem toD_mapX {d : TypeDesc} {k e : TypeId} (h : toD d = .map k e) : d = .map k e := by cases d <;> simp_all [toD]
theorem Hp.mapS {w0 w w' : World} {L : List Res} {R R' : Res} {b : Nat} {o : Obj} (h : Hp w0 w (R :: L)) (hR : R.ids = [b]) (hR' : R'.ids = [b]) (hw : w' = { w with heap := w.heap.setIfInBounds b o }) (hP : R'.P w') : Hp w0 w' (R' :: L) := by
 subst hw
 refine h.upd ⟨rfl, rfl, rfl, by simp, fun k hk hn => ?_⟩ hP (fun k hk => .inl (by rw [hR]; rwa [hR'] at hk)) (by rw [hR']; simp)
 rw [hR] at hn
 simp at hn
 show (w.heap.setIfInBounds b o)[k]? = _
 rw [Array.getElem?_setIfInBounds, if_neg (fun h => hn h.symm)]
theorem map_setX {w : World} {b : Nat} {o o' : Obj} (hb : w.heap[b]? = some o') : ({ w with heap := w.heap.setIfInBounds b o } : World).heap[b]? = some o := by
 show (w.heap.setIfInBounds b o)[b]? = _
 have hlt : b < w.heap.size := by
  rcases Nat.lt_or_ge b w.heap.size with h | h
  ·exact h
  ·rw [Array.getElem?_eq_none h] at hb; cases hb
 rw [Array.getElem?_setIfInBounds, if_pos rfl, if_pos hlt]
section
variable {κ ν : Type} [DecidableEq κ] {eK : κ → Value} {eV : ν → Value} {D : κ → Prop}
theorem Hp.mapNew (eK : κ → Value) (eV : ν → Value) (D : κ → Prop) {w0 w : World} {L : List Res} {b : Nat} (h : Hp w0 w (rMp b #[] 0 :: L)) : Hp w0 w (rMF eK eV D b [] :: L) :=
 h.upd ⟨rfl, rfl, rfl, Nat.le_refl _, fun _ _ _ => rfl⟩ ⟨h.g0, ⟨by simp, fun p hp => by cases hp⟩⟩ (fun k hk => .inl hk) (by simp [rMF])
theorem Hp.mapZ (z : ν) {w0 w : World} {L : List Res} {b : Nat} {F : List (κ × ν)} (h : Hp w0 w (rMF eK eV D b F :: L)) : Hp w0 w (rMZ eK eV D z b (fun y => (mget F y).getD z) :: L) :=
 h.upd ⟨rfl, rfl, rfl, Nat.le_refl _, fun _ _ _ => rfl⟩ ⟨F, h.g0.1, h.g0.2, fun _ => rfl⟩ (fun k hk => .inl hk) (by simp [rMZ])
class MpH (w0 : World) (L : List Res) (b : Nat) (eK : outParam (κ → Value)) (eV : outParam (ν → Value)) (D : outParam (κ → Prop)) (F : outParam (List (κ × ν))) : Prop where
 h : ∀ w, Hp w0 w L → w.heap[b]? = some (.map (entE eK eV F) F.length) ∧ MapF D F
instance MpH.head {w0 : World} {L : List Res} {b : Nat} {F : List (κ × ν)} : MpH w0 (rMF eK eV D b F :: L) b eK eV D F := ⟨fun _ hp => hp.g0⟩
instance MpH.tail {w0 : World} {L : List Res} {R : Res} {b : Nat} {F : List (κ × ν)} [h : MpH w0 L b eK eV D F] : MpH w0 (R :: L) b eK eV D F := ⟨fun w hp => h.h w hp.drop⟩
class MzH (w0 : World) (L : List Res) (b : Nat) (eK : outParam (κ → Value)) (eV : outParam (ν → Value)) (D : outParam (κ → Prop)) (z : outParam ν) (e : outParam (κ → ν)) : Prop where
 h : ∀ w, Hp w0 w L → ∃ F : List (κ × ν), w.heap[b]? = some (.map (entE eK eV F) F.length) ∧ MapF D F ∧ ∀ y, (mget F y).getD z = e y
instance MzH.head {w0 : World} {L : List Res} {b : Nat} {z : ν} {e : κ → ν} : MzH w0 (rMZ eK eV D z b e :: L) b eK eV D z e := ⟨fun _ hp => hp.g0⟩
instance MzH.tail {w0 : World} {L : List Res} {R : Res} {b : Nat} {z : ν} {e : κ → ν} [h : MzH w0 L b eK eV D z e] : MzH w0 (R :: L) b eK eV D z e := ⟨fun w hp => h.h w hp.drop⟩
end
section
variable {S : Setting} {sz : Nat} {R : Value → World → Prop} {C : World → Prop} {w w0 : World} {L : List Res} {ops : Array Oper} {o : Oper} {rest : List Oper} {k : List Item} {env : Env}
theorem H_mkmap (hp : Hp w0 w L) {t : TypeId} {d : Nat} (hop : o.op = .makeMap t none) (hdst : o.dst = some d) (hsz : okDst sz (some d) = true)
  (hk : ∀ w' b, Ext w w' → Hp w0 w' (rMp b #[] 0 :: L) → Holds S sz R C w' (.ops false ops rest k ((d, .map (some b)) :: env))) : Holds S sz R C w (.opx false ops o rest k env) := by
 refine fun a ha => DoesO.wp ?_
 unfold DoesO
 have hrun : (execOp a.eval o).run S.P w = .ok (.value (.map (some w.heap.size))) (w.alloc (.map #[] 0)) := by
  have h1 : execOp a.eval o = (do pure (.value (← Instr.makeMap t none))) := by
   have : ∀ op, o.op = op → execOp a.eval o = execOp a.eval { o with op := op } := fun op e => by subst e; rfl
   rw [this _ hop]; rfl
  rw [h1]
  rfl
 rw [hrun]
 have hk2 := hk _ w.heap.size (Ext.alloc w (.map #[] 0)) (FD.new .map hp)
 rw [hdst]
 exact hk2 _ (ha.put hsz _)
variable {κ ν : Type} [DecidableEq κ] {eK : κ → Value} {eV : ν → Value} {D : κ → Prop}
theorem H_look [hS : S.Ok] (hp : Hp w0 w L) {b : Nat} {F : List (κ × ν)} [hm : MpH w0 L b eK eV D F] {t mt et : TypeId} (K : KeyE S.P t eK D) {x : κ} (hx : D x) {m q : Operand} {c : Bool} {d : Nat} {i j : TI} (hop : o.op = .lookup mt m q c) (hdst : o.dst = some d)
  (hem : ev env m = some (.map (some b))) (heq : ev env q = some (eK x)) (hi : tl S.tt mt = some i) (hid : i.desc = .map t et) (hj : tl S.tt et = some j) (hsz : okDst sz (some d) = true)
  (hk : Holds S sz R C w (.ops false ops rest k ((d, if c then .tuple ⟨[((mget F x).map eV).getD j.zero, .bool (mget F x).isSome]⟩ else ((mget F x).map eV).getD j.zero) :: env))) : Holds S sz R C w (.opx false ops o rest k env) := by
 obtain ⟨hb, hF⟩ := hm.h w hp
 obtain ⟨info, td, _, _, _, _, h5, htd, _⟩ := hS.tt.get hi
 rw [toD_mapX (htd.trans hid)] at h5
 obtain ⟨info', td', g1, _, _, g4, _⟩ := hS.tt.get hj
 have hz : (zeroValue et).run S.P w = .ok j.zero w := by simp [zeroValue, typeInfo, g1, g4]
 refine fun a ha => DoesO.wp ?_
 unfold DoesO
 have h1 : execOp a.eval o = (do pure (.value (← Instr.lookup mt (a.eval m) (a.eval q) c))) := by
  have : ∀ op, o.op = op → execOp a.eval o = execOp a.eval { o with op := op } := fun op e => by subst e; rfl
  rw [this _ hop]; rfl
 rw [h1, ev_agree ha.agree hem, ev_agree ha.agree heq]
 simp only [Sem.run_bind, look_runM K h5 hF hx hb hz c, Result.andThen_ok, Sem.run_pure]
 rw [hdst]
 exact hk _ (ha.put hsz _)
theorem H_upd [hS : S.Ok] {b : Nat} {F : List (κ × ν)} (hp : Hp w0 w (rMF eK eV D b F :: L)) {t mt et : TypeId} (K : KeyE S.P t eK D) {x : κ} (hx : D x) (hn : mget F x = none) (v : ν) {m q u : Operand} {i : TI} (hop : o.op = .mapUpdate mt m q u) (hdst : o.dst = none)
  (hem : ev env m = some (.map (some b))) (heq : ev env q = some (eK x)) (heu : ev env u = some (eV v)) (hi : tl S.tt mt = some i) (hid : i.desc = .map t et)
  (hk : ∀ w', Hp w0 w' (rMF eK eV D b (F ++ [(x, v)]) :: L) → Holds S sz R C w' (.ops false ops rest k env)) : Holds S sz R C w (.opx false ops o rest k env) := by
 obtain ⟨hb, hF⟩ := hp.g0
 obtain ⟨info, td, _, _, _, _, h5, htd, _⟩ := hS.tt.get hi
 rw [toD_mapX (htd.trans hid)] at h5
 refine fun a ha => DoesO.wp ?_
 unfold DoesO
 have h1 : execOp a.eval o = (do Instr.mapUpdate mt (a.eval m) (a.eval q) (a.eval u); pure .skip) := by
  have : ∀ op, o.op = op → execOp a.eval o = execOp a.eval { o with op := op } := fun op e => by subst e; rfl
  rw [this _ hop]; rfl
 rw [h1, ev_agree ha.agree hem, ev_agree ha.agree heq, ev_agree ha.agree heu]
 simp only [Sem.run_bind, upd_runM K h5 hF hx hn v hb, Result.andThen_ok, Sem.run_pure]
 rw [hdst]
 exact hk _ (hp.mapS rfl rfl rfl ⟨map_setX hb, hF.add hx hn⟩) _ ha
end
end Go.Xw
end
