/- Stops for the instructions on maps; each under its stated conditions. -/
import Derived.Test.YtbjgekllkfnjnaaMaps2
set_option linter.all false
namespace Go.Xw
set_option maxHeartbeats 1000000
theorem toD_mapX {d : TypeDesc} {k e : TypeId} (h : toD d = .map k e) : d = .map k e := by cases d <;> simp_all [toD]
theorem Hp.mapS {w0 w w' : World} {L : List Res} {R R' : Res} {b : Nat} {o : Obj} (h : Hp w0 w (R :: L)) (hR : R.ids = [b]) (hR' : R'.ids = [b]) (hw : w' = { w with heap := w.heap.setIfInBounds b o }) (hP : R'.P w') : Hp w0 w' (R' :: L) := by
 subst hw
 refine h.upd ⟨rfl, rfl, rfl, by simp, fun k hk hn => ?_⟩ hP (fun k hk => .inl (by rw [hR]; rwa [hR'] at hk)) (by rw [hR']; simp)
 rw [hR] at hn
 simp at hn
 show (w.heap.setIfInBounds b o)[k]? = _
 rw [Array.getElem?_setIfInBounds, if_neg (fun h => hn h.symm)]
theorem map_setX {w : World} {b : Nat} {o o' : Obj} (hb : w.heap[b]? = some o') : ({ w with heap := w.heap.setIfInBounds b o } : World).heap[b]? = some o := by
 show (w.heap.setIfInBounds b o)[b]? = _
 have hlt : b < w.heap.size := by
  rcases Nat.lt_or_ge b w.heap.size with h | h
  ·exact h
  ·rw [Array.getElem?_eq_none h] at hb; cases hb
 rw [Array.getElem?_setIfInBounds, if_pos rfl, if_pos hlt]
section
variable {κ ν : Type} [DecidableEq κ] {eK : κ → Value} {eV : ν → Value} {D : κ → Prop}
theorem Hp.mapNew (eK : κ → Value) (eV : ν → Value) (D : κ → Prop) {w0 w : World} {L : List Res} {b : Nat} (h : Hp w0 w (rMp b #[] 0 :: L)) : Hp w0 w (rMF eK eV D b [] :: L) :=
 h.upd ⟨rfl, rfl, rfl, Nat.le_refl _, fun _ _ _ => rfl⟩ ⟨h.g0, ⟨by simp, fun p hp => by cases hp⟩⟩ (fun k hk => .inl hk) (by simp [rMF])
theorem Hp.mapZ (z : ν) {w0 w : World} {L : List Res} {b : Nat} {F : List (κ × ν)} (h : Hp w0 w (rMF eK eV D b F :: L)) : Hp w0 w (rMZ eK eV D z b (fun y => (mget F y).getD z) :: L) :=
 h.upd ⟨rfl, rfl, rfl, Nat.le_refl _, fun _ _ _ => rfl⟩ ⟨F, h.g0.1, h.g0.2, fun _ => rfl⟩ (fun k hk => .inl hk) (by simp [rMZ])
class MpH (w0 : World) (L : List Res) (b : Nat) (eK : outParam (κ → Value)) (eV : outParam (ν → Value)) (D : outParam (κ → Prop)) (F : outParam (List (κ × ν))) : Prop where
 h : ∀ w, Hp w0 w L → w.heap[b]? = some (.map (entE eK eV F) F.length) ∧ MapF D F
instance MpH.head {w0 : World} {L : List Res} {b : Nat} {F : List (κ × ν)} : MpH w0 (rMF eK eV D b F :: L) b eK eV D F := ⟨fun _ hp => hp.g0⟩
instance MpH.tail {w0 : World} {L : List Res} {R : Res} {b : Nat} {F : List (κ × ν)} [h : MpH w0 L b eK eV D F] : MpH w0 (R :: L) b eK eV D F := ⟨fun w hp => h.h w hp.drop⟩
class MzH (w0 : World) (L : List Res) (b : Nat) (eK : outParam (κ → Value)) (eV : outParam (ν → Value)) (D : outParam (κ → Prop)) (z : outParam ν) (e : outParam (κ → ν)) : Prop where
 h : ∀ w, Hp w0 w L → ∃ F : List (κ × ν), w.heap[b]? = some (.map (entE eK eV F) F.length) ∧ MapF D F ∧ ∀ y, (mget F y).getD z = e y
instance MzH.head {w0 : World} {L : List Res} {b : Nat} {z : ν} {e : κ → ν} : MzH w0 (rMZ eK eV D z b e :: L) b eK eV D z e := ⟨fun _ hp => hp.g0⟩
instance MzH.tail {w0 : World} {L : List Res} {R : Res} {b : Nat} {z : ν} {e : κ → ν} [h : MzH w0 L b eK eV D z e] : MzH w0 (R :: L) b eK eV D z e := ⟨fun w hp => h.h w hp.drop⟩
end
section
variable {S : Setting} {sz : Nat} {R : Value → World → Prop} {C : World → Prop} {w w0 : World} {L : List Res} {ops : Array Oper} {o : Oper} {rest : List Oper} {k : List Item} {env : Env}
theorem H_mkmap (hp : Hp w0 w L) {t : TypeId} {d : Nat} (hop : o.op = .makeMap t none) (hdst : o.dst = some d) (hsz : okDst sz (some d) = true)
  (hk : ∀ w' b, Ext w w' → Hp w0 w' (rMp b #[] 0 :: L) → Holds S sz R C w' (.ops false ops rest k ((d, .map (some b)) :: env))) : Holds S sz R C w (.opx false ops o rest k env) := by
 refine fun a ha => DoesO.wp ?_
 unfold DoesO
 have hrun : (execOp a.eval o).run S.P w = .ok (.value (.map (some w.heap.size))) (w.alloc (.map #[] 0)) := by
  have h1 : execOp a.eval o = (do pure (.value (← Instr.makeMap t none))) := by
   have : ∀ op, o.op = op → execOp a.eval o = execOp a.eval { o with op := op } := fun op e => by subst e; rfl
   rw [this _ hop]; rfl
  rw [h1]
  rfl
 rw [hrun]
 have hk2 := hk _ w.heap.size (Ext.alloc w (.map #[] 0)) (FD.new .map hp)
 rw [hdst]
 exact hk2 _ (ha.put hsz _)
variable {κ ν : Type} [DecidableEq κ] {eK : κ → Value} {eV : ν → Value} {D : κ → Prop}
theorem H_look [hS : S.Ok] (hp : Hp w0 w L) {b : Nat} {F : List (κ × ν)} [hm : MpH w0 L b eK eV D F] {t mt et : TypeId} (K : KeyE S.P t eK D) {x : κ} (hx : D x) {m q : Operand} {c : Bool} {d : Nat} {i j : TI} (hop : o.op = .lookup mt m q c) (hdst : o.dst = some d)
  (hem : ev env m = some (.map (some b))) (heq : ev env q = some (eK x)) (hi : tl S.tt mt = some i) (hid : i.desc = .map t et) (hj : tl S.tt et = some j) (hsz : okDst sz (some d) = true)
  (hk : Holds S sz R C w (.ops false ops rest k ((d, if c then .tuple ⟨[((mget F x).map eV).getD j.zero, .bool (mget F x).isSome]⟩ else ((mget F x).map eV).getD j.zero) :: env))) : Holds S sz R C w (.opx false ops o rest k env) := by
 obtain ⟨hb, hF⟩ := hm.h w hp
 obtain ⟨info, td, _, _, _, _, h5, htd, _⟩ := hS.tt.get hi
 rw [toD_mapX (htd.trans hid)] at h5
 obtain ⟨info', td', g1, _, _, g4, _⟩ := hS.tt.get hj
 have hz : (zeroValue et).run S.P w = .ok j.zero w := by simp [zeroValue, typeInfo, g1, g4]
 refine fun a ha => DoesO.wp ?_
 unfold DoesO
 have h1 : execOp a.eval o = (do pure (.value (← Instr.lookup mt (a.eval m) (a.eval q) c))) := by
  have : ∀ op, o.op = op → execOp a.eval o = execOp a.eval { o with op := op } := fun op e => by subst e; rfl
  rw [this _ hop]; rfl
 rw [h1, ev_agree ha.agree hem, ev_agree ha.agree heq]
 simp only [Sem.run_bind, look_runM K h5 hF hx hb hz c, Result.andThen_ok, Sem.run_pure]
 rw [hdst]
 exact hk _ (ha.put hsz _)
theorem H_upd [hS : S.Ok] {b : Nat} {F : List (κ × ν)} (hp : Hp w0 w (rMF eK eV D b F :: L)) {t mt et : TypeId} (K : KeyE S.P t eK D) {x : κ} (hx : D x) (hn : mget F x = none) (v : ν) {m q u : Operand} {i : TI} (hop : o.op = .mapUpdate mt m q u) (hdst : o.dst = none)
  (hem : ev env m = some (.map (some b))) (heq : ev env q = some (eK x)) (heu : ev env u = some (eV v)) (hi : tl S.tt mt = some i) (hid : i.desc = .map t et)
  (hk : ∀ w', Hp w0 w' (rMF eK eV D b (F ++ [(x, v)]) :: L) → Holds S sz R C w' (.ops false ops rest k env)) : Holds S sz R C w (.opx false ops o rest k env) := by
 obtain ⟨hb, hF⟩ := hp.g0
 obtain ⟨info, td, _, _, _, _, h5, htd, _⟩ := hS.tt.get hi
 rw [toD_mapX (htd.trans hid)] at h5
 refine fun a ha => DoesO.wp ?_
 unfold DoesO
 have h1 : execOp a.eval o = (do Instr.mapUpdate mt (a.eval m) (a.eval q) (a.eval u); pure .skip) := by
  have : ∀ op, o.op = op → execOp a.eval o = execOp a.eval { o with op := op } := fun op e => by subst e; rfl
  rw [this _ hop]; rfl
 rw [h1, ev_agree ha.agree hem, ev_agree ha.agree heq, ev_agree ha.agree heu]
 simp only [Sem.run_bind, upd_runM K h5 hF hx hn v hb, Result.andThen_ok, Sem.run_pure]
 rw [hdst]
 exact hk _ (hp.mapS rfl rfl rfl ⟨map_setX hb, hF.add hx hn⟩) _ ha
end
end Go.Xw
