/- Stops for maps in drawn regions; each under its stated conditions. -/
import Derived.Test.YtbjgekllkfnjnaaMaps3
set_option linter.all false
namespace Go.Xw
set_option maxHeartbeats 1000000
section
variable {S : Setting} {sz : Nat} {R : Value → World → Prop} {C : World → Prop} {w w0 : World} {L L0 : List Res} {ops : Array Oper} {o : Oper} {rest : List Oper} {k : List Item} {env : Env}
variable {κ ν : Type} [DecidableEq κ] {eK : κ → Value} {eV : ν → Value} {D : κ → Prop}
theorem preX (hpre : ops.toList.take (ops.toList.length - (o :: rest).length) ++ o :: rest = ops.toList) : ∃ pre, ops.toList = pre ++ o :: rest := ⟨_, hpre.symm⟩
theorem H_lookZ [hS : S.Ok] (hp : Hp w0 w L) {b : Nat} {z : ν} {e : κ → ν} [hm : MzH w0 L b eK eV D z e] {t mt et : TypeId} (K : KeyE S.P t eK D) {x : κ} (hx : D x) {m q : Operand} {d : Nat} {i j : TI} (hop : o.op = .lookup mt m q false) (hdst : o.dst = some d)
  (hem : ev env m = some (.map (some b))) (heq : ev env q = some (eK x)) (hi : tl S.tt mt = some i) (hid : i.desc = .map t et) (hj : tl S.tt et = some j) (hz : j.zero = eV z) (hsz : okDst sz (some d) = true)
  (hk : Holds S sz R C w (.ops false ops rest k ((d, eV (e x)) :: env))) : Holds S sz R C w (.opx false ops o rest k env) := by
 obtain ⟨F, hb, hF, he⟩ := hm.h w hp
 obtain ⟨info, td, _, _, _, _, h5, htd, _⟩ := hS.tt.get hi
 rw [toD_mapX (htd.trans hid)] at h5
 obtain ⟨info', td', g1, _, _, g4, _⟩ := hS.tt.get hj
 have hzr : (zeroValue et).run S.P w = .ok j.zero w := by simp [zeroValue, typeInfo, g1, g4]
 refine fun a ha => DoesO.wp ?_
 unfold DoesO
 have h1 : execOp a.eval o = (do pure (.value (← Instr.lookup mt (a.eval m) (a.eval q) false))) := by
  have : ∀ op, o.op = op → execOp a.eval o = execOp a.eval { o with op := op } := fun op e => by subst e; rfl
  rw [this _ hop]; rfl
 have hv : ((mget F x).map eV).getD j.zero = eV (e x) := by
  rw [← he x, hz]
  cases mget F x <;> rfl
 rw [h1, ev_agree ha.agree hem, ev_agree ha.agree heq]
 simp only [Sem.run_bind, look_runM K h5 hF hx hb hzr false, Result.andThen_ok, Sem.run_pure]
 rw [hdst]
 have hk2 := hk _ (ha.put hsz (eV (e x)))
 rw [← hv] at hk2
 exact hk2
theorem V_look [hS : S.Ok] {b : Nat} {z : ν} {e : κ → ν} [hm : MzH w0 L0 b eK eV D z e] {t mt et : TypeId} (K : KeyE S.P t eK D) {x : κ} (hx : D x) {m q : Operand} {d : Nat} {i j : TI} (hop : o.op = .lookup mt m q false) (hdst : o.dst = some d)
  (hem : ev env m = some (.map (some b))) (heq : ev env q = some (eK x)) (hi : tl S.tt mt = some i) (hid : i.desc = .map t et) (hj : tl S.tt et = some j) (hz : j.zero = eV z) (hsz : okDst sz (some d) = true)
  (hpre : ops.toList.take (ops.toList.length - (o :: rest).length) ++ o :: rest = ops.toList)
  (hk : Holds S sz R (fun w' => Hp w0 w' L0) w (.ops true ops rest k ((d, eV (e x)) :: env))) : Holds S sz R (fun w' => Hp w0 w' L0) w (.opx true ops o rest k env) := by
 obtain ⟨info, td, _, _, _, _, h5, htd, _⟩ := hS.tt.get hi
 rw [toD_mapX (htd.trans hid)] at h5
 obtain ⟨info', td', g1, _, _, g4, _⟩ := hS.tt.get hj
 refine ⟨preX hpre, fun a ha hw => ?_⟩
 obtain ⟨pre, hp2⟩ := preX hpre
 rw [sfx_cons hp2]
 unfold wpLex
 rw [if_pos hw]
 have h1 : execOp a.eval o = (do pure (.value (← Instr.lookup mt (a.eval m) (a.eval q) false))) := by
  have : ∀ op, o.op = op → execOp a.eval o = execOp a.eval { o with op := op } := fun op e => by subst e; rfl
  rw [this _ hop]; rfl
 have hkd : kindOf o.op = .load := by rw [hop]; rfl
 simp only [hkd]
 refine ⟨eV (e x), fun w' hw' => ?_, ?_⟩
 ·obtain ⟨F, hb, hF, he⟩ := hm.h w' hw'
  have hzr : (zeroValue et).run S.P w' = .ok j.zero w' := by simp [zeroValue, typeInfo, g1, g4]
  rw [h1, ev_agree ha.agree hem, ev_agree ha.agree heq]
  simp only [Sem.run_bind, look_runM K h5 hF hx hb hzr false, Result.andThen_ok, Sem.run_pure]
  have : ((mget F x).map eV).getD j.zero = eV (e x) := by
   rw [← he x, hz]
   cases mget F x <;> rfl
  rw [this]
  rfl
 ·rw [hdst]
  exact hk.2 _ (ha.put hsz _)
theorem V_ent [hS : S.Ok] {b : Nat} {z : ν} {e : κ → ν} (hp : Hp w0 w (rMZ eK eV D z b e :: L)) {t mt et : TypeId} (K : KeyE S.P t eK D) {x : κ} (hx : D x) {m q : Operand} {d : Nat} {i j : TI} (hop : o.op = .mapEntry mt m q) (hdst : o.dst = some d)
  (hem : ev env m = some (.map (some b))) (heq : ev env q = some (eK x)) (hi : tl S.tt mt = some i) (hid : i.desc = .map t et) (hj : tl S.tt et = some j) (hz : j.zero = eV z) (hsz : okDst sz (some d) = true)
  (hpre : ops.toList.take (ops.toList.length - (o :: rest).length) ++ o :: rest = ops.toList) (hC : ∀ w', Hp w0 w' (rMZ eK eV D z b e :: L) → C w')
  (hk : ∀ (w' : World) (F : List (κ × ν)) (n : Nat), Hp w0 w' (rMZ eK eV D z b e :: L) → (w'.heap[b]? = some (.map (entE eK eV F) F.length) ∧ MapF D F ∧ F[n]? = some (x, e x) ∧ ∀ y, (mget F y).getD z = e y) →
   Holds S sz R C w' (.ops true ops rest k ((d, .tuple ⟨[eV (e x), .int .i64 (n : Int)]⟩) :: env))) : Holds S sz R C w (.opx true ops o rest k env) := by
 obtain ⟨F, hb, hF, he⟩ := hp.g0
 obtain ⟨info, td, _, _, _, _, h5, htd, _⟩ := hS.tt.get hi
 rw [toD_mapX (htd.trans hid)] at h5
 obtain ⟨info', td', g1, _, _, g4, _⟩ := hS.tt.get hj
 have hzr : (zeroValue et).run S.P w = .ok (eV z) w := by rw [← hz]; simp [zeroValue, typeInfo, g1, g4]
 obtain ⟨F', n, v, h6, h7, h8, h9, h10⟩ := ent_runM K h5 hF hx hb hzr
 have hve : v = e x := by rw [h9, he x]
 subst hve
 have hb' := map_setX (o := .map (entE eK eV F') F'.length) hb
 have hp' : Hp w0 { w with heap := w.heap.setIfInBounds b (.map (entE eK eV F') F'.length) } (rMZ eK eV D z b e :: L) :=
  hp.mapS rfl rfl rfl ⟨F', hb', h7, fun y => (h10 y).trans (he y)⟩
 have hk2 := hk _ F' n hp' ⟨hb', h7, h8, fun y => (h10 y).trans (he y)⟩
 refine ⟨preX hpre, fun a ha hw => ?_⟩
 obtain ⟨pre, hp2⟩ := preX hpre
 rw [sfx_cons hp2]
 have h1 : execOp a.eval o = (do pure (.value (← Instr.mapEntry mt (a.eval m) (a.eval q)))) := by
  have : ∀ op, o.op = op → execOp a.eval o = execOp a.eval { o with op := op } := fun op e => by subst e; rfl
  rw [this _ hop]; rfl
 refine wpLex_eff (by rw [isEff, hop]; rfl) hw ?_
 unfold DoesO
 rw [h1, ev_agree ha.agree hem, ev_agree ha.agree heq]
 simp only [Sem.run_bind, h6, Result.andThen_ok, Sem.run_pure]
 refine ⟨fun _ => hC _ hp', ?_⟩
 rw [hdst]
 exact hk2.2 _ (ha.put hsz _)
theorem V_est [hS : S.Ok] {b : Nat} {z : ν} {e : κ → ν} (hp : Hp w0 w (rMZ eK eV D z b e :: L)) {mt : TypeId} {x : κ} {v : ν} {F : List (κ × ν)} {n : Nat} (hf : w.heap[b]? = some (.map (entE eK eV F) F.length) ∧ MapF D F ∧ F[n]? = some (x, e x) ∧ ∀ y, (mget F y).getD z = e y) {m s u : Operand} (hop : o.op = .entryStore mt m s u) (hdst : o.dst = none)
  (hem : ev env m = some (.map (some b))) (hes : ev env s = some (.int .i64 (n : Int))) (heu : ev env u = some (eV v))
  (hpre : ops.toList.take (ops.toList.length - (o :: rest).length) ++ o :: rest = ops.toList) (hfl : flagAt ops rest = false)
  (hk : ∀ w', Hp w0 w' (rMZ eK eV D z b (fun y => if y = x then v else e y) :: L) → Holds S sz R C w' (.ops true ops rest k env)) : Holds S sz R C w (.opx true ops o rest k env) := by
 obtain ⟨hb, hF, hn, he⟩ := hf
 have hb' := map_setX (o := .map (entE eK eV (F.set n (x, v))) (F.set n (x, v)).length) hb
 have hp' : Hp w0 { w with heap := w.heap.setIfInBounds b (.map (entE eK eV (F.set n (x, v))) (F.set n (x, v)).length) } (rMZ eK eV D z b (fun y => if y = x then v else e y) :: L) :=
  hp.mapS rfl rfl rfl ⟨_, hb', hF.set hn, fun y => by
   rw [mget_set hF hn]
   show _ = if y = x then v else e y
   by_cases hy : y = x
   ·rw [if_pos hy, if_pos hy]; rfl
   ·rw [if_neg hy, if_neg hy]; exact he y⟩
 have hk2 := hk _ hp'
 refine ⟨preX hpre, fun a ha hw => ?_⟩
 obtain ⟨pre, hp2⟩ := preX hpre
 rw [sfx_cons hp2]
 have h1 : execOp a.eval o = (do Instr.entryStore mt (a.eval m) (a.eval s) (a.eval u); pure .skip) := by
  have : ∀ op, o.op = op → execOp a.eval o = execOp a.eval { o with op := op } := fun op e => by subst e; rfl
  rw [this _ hop]; rfl
 refine wpLex_eff (by rw [isEff, hop]; rfl) hw ?_
 unfold DoesO
 have hst := store_runM (P := S.P) (mt := mt) (eK := eK) (eV := eV) (v' := v) hn hb
 rw [h1, ev_agree ha.agree hem, ev_agree ha.agree hes, ev_agree ha.agree heu]
 have hst : (Instr.entryStore mt (.map (some b)) (.int .i64 (n : Int)) (eV v)).run S.P w = _ := hst
 simp only [Sem.run_bind, hst, Result.andThen_ok, Sem.run_pure]
 refine ⟨fun h => ?_, ?_⟩
 ·rw [hfl] at h; cases h
 ·rw [hdst]
  exact hk2.2 _ ha
end
theorem N_mkmap {S : Setting} {sz : Nat} {R : Value → World → Prop} {w0 : World} {L L0 : List Res} {ops : Array Oper} {o : Oper} {rest : List Oper} {k : List Item} {env : Env} {t : TypeId} {d : Nat} (hop : o.op = .makeMap t none) (hdst : o.dst = some d) (hsz : okDst sz (some d) = true)
  (hpre : ops.toList.take (ops.toList.length - (o :: rest).length) ++ o :: rest = ops.toList)
  (hk : ∀ b, HoldsF S sz R w0 L0 (rMp b #[] 0 :: L) (.ops true ops rest k ((d, .map (some b)) :: env))) : HoldsF S sz R w0 L0 L (.opx true ops o rest k env) := by
 refine ⟨preX hpre, fun a ha hw => ?_⟩
 obtain ⟨pre, hp2⟩ := preX hpre
 rw [sfx_cons hp2]
 refine wpF_float (by rw [isFloat, hop]) hw (d := .map) (fun w => ?_) fun b _ => ?_
 ·have h1 : execOp a.eval o = (do pure (.value (← Instr.makeMap t none))) := by
   have : ∀ op, o.op = op → execOp a.eval o = execOp a.eval { o with op := op } := fun op e => by subst e; rfl
   rw [this _ hop]; rfl
  rw [h1]
  rfl
 ·rw [hdst]
  exact (hk b).2 _ (ha.put hsz _)
end Go.Xw
