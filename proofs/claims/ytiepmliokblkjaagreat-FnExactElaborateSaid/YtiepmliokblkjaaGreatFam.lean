/- The second mode of drawn regions: goals without a world, and their evaluator; each under its stated conditions. -/
import Derived.Test.YtiepmliokblkjaaGreatHeap
set_option linter.all false
namespace Go.Xw
open Go.RowKit
def isFloatA : Action → Bool
 | .alloc _ => true
 | .box _ _ => true
 | .buildSlice _ _ _ => true
 | .makeSlice _ _ _ => true
 | _ => false
def pcAt (ops : Array Oper) (rest : List Oper) : Bool := match ops.toList[ops.toList.length - (rest.length + 1)]? with
 | some o => isPc o
 | none => false
theorem pcAt_eq {ops : Array Oper} {pre : List Oper} {o : Oper} {rest : List Oper} (h : ops.toList = pre ++ o :: rest) : pcAt ops rest = isPc o := by
 have hn : ops.toList.length - (rest.length + 1) = pre.length := by rw [h]; simp
 unfold pcAt
 rw [hn, h]
 simp
def pcOf (A : Action) (ops : Array Oper) (rest : List Oper) : Bool := match A with
 | .call _ _ => pcAt ops rest
 | _ => false
section
variable (S : Setting) (sz : Nat) (R : Value → World → Prop) (w0 : World) (L0 : List Res)
def OpsF (ops : Array Oper) (l : List Oper) (k : List Item) (env : Env) (L : List Res) : Prop :=
 (∃ pre, ops.toList = pre ++ l) ∧ ∀ a, Fits sz env a → wpF S.P ops w0 L0 (fun a' w' => TodoA S.P S.f R k a' w') (sfx ops l) L a
def OpxF (ops : Array Oper) (o : Oper) (rest : List Oper) (k : List Item) (env : Env) (L : List Res) : Prop :=
 (∃ pre, ops.toList = pre ++ o :: rest) ∧ ∀ a, Fits sz env a → Region.wanted o (yielded ops a.tmps) = true → wpF S.P ops w0 L0 (fun a' w' => TodoA S.P S.f R k a' w') (sfx ops (o :: rest)) L a
def ActF (A : Action) (c : Cont) (L : List Res) : Prop :=
 match isLoadA A with
 | true => ∃ v, (∀ w', Hp w0 w' L0 → A.sem.run S.P w' = .ok (.value v) w') ∧ OpsF S sz R w0 L0 c.ops c.rest c.k (putE c.env c.dst v) L
 | false => match isFloatA A with
  | true => ∃ d : FD, (∀ w : World, A.sem.run S.P w = .ok (.value (d.val w.heap.size)) (w.alloc d.obj)) ∧ ∀ b, OpsF S sz R w0 L0 c.ops c.rest c.k (putE c.env c.dst (d.val b)) (d.res b :: L)
  | false => match pcOf A c.ops c.rest with
   | true => ∃ f args v, (∀ w' : World, A.sem.run S.P w' = .ok (.enter f args) w') ∧ v = pvOf args ∧ (∀ w', Hp w0 w' L0 → Calls S.P f args w' fun e w'' => e = .returned v ∧ Ext w' w'') ∧ OpsF S sz R w0 L0 c.ops c.rest c.k (putE c.env c.dst v) L
   | false => ∀ F w, Hp w0 w (L ++ F) → Does S.P A w fun v w' => (flagAt c.ops c.rest = true → Hp w0 w' L0) ∧ ∃ L', Hp w0 w' (L' ++ F) ∧ OpsF S sz R w0 L0 c.ops c.rest c.k (putE c.env c.dst v) L'
def HoldsF (L : List Res) : G → Prop
 | .code k env => ∀ w, Hp w0 w L → ∀ a, Fits sz env a → TodoA S.P S.f R k a w
 | .ops _ ops l k env => OpsF S sz R w0 L0 ops l k env L
 | .guard _ b want ops o rest k env => if b = want then OpxF S sz R w0 L0 ops o rest k env L else OpsF S sz R w0 L0 ops rest k (putE env o.dst undef) L
 | .opx _ ops o rest k env => OpxF S sz R w0 L0 ops o rest k env L
 | .act A c => ActF S sz R w0 L0 A c L
 | _ => False
end
theorem kind_float {env : Env} {o : Oper} {A : Action} (h : actOf env o.op o.type = some A) : isFloat o = isFloatA A := by
 unfold actOf at h
 unfold isFloat
 split at h
 all_goals (repeat' (split at h))
 all_goals first | (injection h with h; subst h; simp_all [isFloatA]; done) | (cases h; done) | skip
def isCallA : Action → Bool
 | .call _ _ => true
 | _ => false
theorem kind_pc {env : Env} {o : Oper} {A : Action} (h : actOf env o.op o.type = some A) (hp : isPc o = true) : isCallA A = true := by
 unfold isPc at hp
 split at hp
 ·rename_i f args tys hop
  rw [hop] at h
  simp only [actOf, ev] at h
  repeat' (split at h)
  all_goals first | (injection h with h; subst h; rfl) | (cases h; done) | skip
 ·cases hp
section
variable {S : Setting} {sz : Nat} {R : Value → World → Prop} {w0 : World} {L0 L : List Res} {ops : Array Oper} {o : Oper} {rest : List Oper} {k : List Item} {env : Env}
theorem opxF_of_act {A : Action} (hpre : ∃ pre, ops.toList = pre ++ o :: rest) (hA : actOf env o.op o.type = some A) (hd : okDst sz o.dst = true) {q : Bool} (h : ActF S sz R w0 L0 A ⟨q, ops, rest, o.dst, k, env⟩ L) : OpxF S sz R w0 L0 ops o rest k env L := by
 obtain ⟨pre, hpre⟩ := hpre
 refine ⟨⟨pre, hpre⟩, fun a ha hw => ?_⟩
 rw [sfx_cons hpre]
 have hk := kind_act hA
 have hfl := kind_float hA
 unfold ActF at h
 cases hl : isLoadA A with
 | true =>
  simp only [hl] at h hk
  obtain ⟨v, h1, h2⟩ := h
  exact wpF_yv (.inl (.inl ⟨hw, by simp only [hk]; exact fun w' hw' => by rw [actOf_sound ha.agree hA]; exact h1 w' hw'⟩)) (h2.2 _ (ha.put hd v))
 | false =>
  simp only [hl] at h hk
  cases hf : isFloatA A with
  | true =>
   simp only [hf] at h hfl
   obtain ⟨d, h1, h2⟩ := h
   exact wpF_float hfl hw (d := d) (fun w => by rw [actOf_sound ha.agree hA]; exact h1 w) fun b _ => (h2 b).2 _ (ha.put hd _)
  | false =>
   simp only [hf] at h hfl
   have hpo : pcOf A ops rest = isPc o := by
    cases hpc : isPc o with
    | true =>
     have := kind_pc hA hpc
     cases A <;> simp [isCallA] at this
     exact (pcAt_eq hpre).trans hpc
    | false =>
     cases A <;> first | rfl | exact (pcAt_eq hpre).trans hpc
   rw [hpo] at h
   cases hpc : isPc o with
   | true =>
    simp only [hpc] at h
    obtain ⟨f, args, v, h1, h2, h3, h4⟩ := h
    exact wpF_yv (.inr ⟨hpc, hfl, by simp [isEff, hk], hw, f, args, fun w' => by rw [actOf_sound ha.agree hA]; exact h1 w', h2, h3⟩) (h4.2 _ (ha.put hd v))
   | false =>
   simp only [hpc] at h
   exact wpF_eff (by simp [isE, isEff, hk, hpc]) hfl hw fun F w hp => does_of_act hA ha.agree (h F w hp) fun v w' ⟨k1, L', k2, k3⟩ => ⟨k1, L', k2, k3.2 _ (ha.put hd v)⟩
theorem opxF_of_pure (hS : S.Ok) (hpre : ∃ pre, ops.toList = pre ++ o :: rest) {v : Value} {p : Option Prop} (hv : pureV S.wr S.tt env o.op = some (v, p)) (hp : Ob p) (hd : okDst sz o.dst = true)
  (h : OpsF S sz R w0 L0 ops rest k (putE env o.dst v) L) : OpxF S sz R w0 L0 ops o rest k env L := by
 obtain ⟨pre, hpre⟩ := hpre
 refine ⟨⟨pre, hpre⟩, fun a ha hw => ?_⟩
 rw [sfx_cons hpre]
 exact wpF_yv (.inl (.inl ⟨hw, by simp only [kind_pure hv]; exact fun w' => pureV_sound hS.tt ha.agree hv hp w'⟩)) (h.2 _ (ha.put hd v))
theorem stepOF_sound (hpre : ∃ pre, ops.toList = pre ++ o :: rest) (hd : okDst sz o.dst = true) {q : Bool} (h : HoldsF S sz R w0 L0 L (stepO q ops o rest k env)) : OpxF S sz R w0 L0 ops o rest k env L := by
 unfold stepO at h
 split at h
 ·rename_i A hA
  exact opxF_of_act hpre hA hd h
 ·exact h
theorem opsF_of_opx (hw : ∀ a, Fits sz env a → Region.wanted o (yielded ops a.tmps) = true) (h : OpxF S sz R w0 L0 ops o rest k env L) : OpsF S sz R w0 L0 ops (o :: rest) k env L :=
 ⟨h.1, fun a ha => h.2 a ha (hw a ha)⟩
theorem opsF_of_skip (hpre : ∃ pre, ops.toList = pre ++ o :: rest) (hd : okDst sz o.dst = true) (hw : ∀ a, Fits sz env a → Region.wanted o (yielded ops a.tmps) = false)
  (h : OpsF S sz R w0 L0 ops rest k (putE env o.dst undef) L) : OpsF S sz R w0 L0 ops (o :: rest) k env L := by
 obtain ⟨pre, hpre⟩ := hpre
 refine ⟨⟨pre, hpre⟩, fun a ha => ?_⟩
 rw [sfx_cons hpre]
 exact wpF_skip (hw a ha) (h.2 _ (ha.put hd undef))
theorem preF (hpre : ∃ pre, ops.toList = pre ++ o :: rest) : ∃ pre, ops.toList = pre ++ rest := by
 obtain ⟨pre, h⟩ := hpre
 exact ⟨pre ++ [o], by simp [h]⟩
theorem stepOpsF_sound (hS : S.Ok) :
  ∀ (l : List Oper) (env : Env) (obl : List Prop) (g : G) (obl' : List Prop), (∃ pre, ops.toList = pre ++ l) → stepOps S.wr S.tt sz true ops l k env obl = (g, obl') → All obl' → HoldsF S sz R w0 L0 L g →
   OpsF S sz R w0 L0 ops l k env L ∧ All obl
 | [], env, obl, g, obl', hpre, h, ho, hg => by
  simp only [stepOps, Prod.mk.injEq] at h
  obtain ⟨rfl, rfl⟩ := h
  exact ⟨⟨hpre, fun a ha => by rw [sfx_nil]; exact fun w hp => hg w hp a ha⟩, ho⟩
 | o :: rest, env, obl, g, obl', hpre, h, ho, hg => by
  have same : (G.ops true ops (o :: rest) k env, obl) = (g, obl') → OpsF S sz R w0 L0 ops (o :: rest) k env L ∧ All obl := fun e => by
   injection e with e1 e2
   subst e1; subst e2
   exact ⟨hg, ho⟩
  simp only [stepOps] at h
  split at h
  ·exact same h
  ·rename_i hd
   split at h
   ·rename_i j want hgd
    split at h
    ·rename_i oj hoj
     split at h
     ·rename_i d hdj
      split at h
      ·rename_i b hb
       injection h with e1 e2
       subst e1; subst e2
       refine ⟨?_, ho⟩
       have hy : ∀ a, Fits sz env a → yielded ops a.tmps j = some b := fun a ha => by simp [yielded, hoj, hdj, ha.agree _ _ hb]
       simp only [HoldsF] at hg
       by_cases hbw : b = want
       ·rw [if_pos hbw] at hg
        exact opsF_of_opx (fun a ha => by simp [Region.wanted, hgd, hy a ha, hbw]) hg
       ·rw [if_neg hbw] at hg
        exact opsF_of_skip hpre hd (fun a ha => by simp [Region.wanted, hgd, hy a ha, hbw]) hg
      ·rename_i hb
       rw [putK_eq] at h
       obtain ⟨h1, h2⟩ := stepOpsF_sound hS rest _ _ _ _ (preF hpre) h ho hg
       refine ⟨?_, h2⟩
       have hy : ∀ a, Fits sz env a → yielded ops a.tmps j = none := fun a ha => by simp [yielded, hoj, hdj, ha.agree _ _ hb]
       exact opsF_of_skip hpre hd (fun a ha => by simp [Region.wanted, hgd, hy a ha]) h1
      ·exact same h
     ·exact same h
    ·exact same h
   ·rename_i hgd
    have hwn : ∀ a, Fits sz env a → Region.wanted o (yielded ops a.tmps) = true := fun a _ => by simp [Region.wanted, hgd]
    split at h
    ·rename_i v hv
     rw [putK_eq] at h
     obtain ⟨h1, h2⟩ := stepOpsF_sound hS rest _ _ _ _ (preF hpre) h ho hg
     exact ⟨opsF_of_opx hwn (opxF_of_pure hS hpre hv trivial hd h1), h2⟩
    ·rename_i v p hv
     rw [putK_eq] at h
     obtain ⟨h1, h2⟩ := stepOpsF_sound hS rest _ _ _ _ (preF hpre) h ho hg
     rw [All_cons] at h2
     exact ⟨opsF_of_opx hwn (opxF_of_pure hS hpre hv h2.1 hd h1), h2.2⟩
    ·rename_i hv
     rw [forceR_eq] at h
     injection h with e1 e2
     subst e1; subst e2
     exact ⟨opsF_of_opx hwn (stepOF_sound hpre hd hg), ho⟩
end
def runF (S : Setting) (sz : Nat) : G → G × List Prop
 | .ops _ ops l k env => stepOps S.wr S.tt sz true ops l k env []
 | .opx q ops o rest k env => match okDst sz o.dst with
  | false => (.opx q ops o rest k env, [])
  | true => match pureV S.wr S.tt env o.op with
   | some (v, none) => putK env o.dst v fun e => stepOps S.wr S.tt sz true ops rest k e []
   | some (v, some p) => putK env o.dst v fun e => stepOps S.wr S.tt sz true ops rest k e [p]
   | none => forceR (stepO true ops o rest k env) []
 | g => (g, [])
def PreF : G → Prop
 | .ops _ ops l _ _ => ∃ pre, ops.toList = pre ++ l
 | .opx _ ops o rest _ _ => ∃ pre, ops.toList = pre ++ o :: rest
 | _ => True
section
variable {S : Setting} {sz : Nat} {R : Value → World → Prop} {C : World → Prop} {w w0 : World} {L0 L : List Res} {ops : Array Oper} {o : Oper} {rest : List Oper} {k : List Item} {env : Env} {g' : G} {obl : List Prop}
theorem runF_sound (hS : S.Ok) (g : G) (h : runF S sz g = (g', obl)) (hp : PreF g) (ho : All obl) (hg : HoldsF S sz R w0 L0 L g') : HoldsF S sz R w0 L0 L g := by
 unfold runF at h
 split at h
 ·exact (stepOpsF_sound hS _ _ _ _ _ hp h ho hg).1
 ·split at h
  ·injection h with e1 e2
   subst e1
   exact hg
  ·rename_i hd
   split at h
   ·rename_i v hv
    rw [putK_eq] at h
    exact opxF_of_pure hS hp hv trivial hd (stepOpsF_sound hS _ _ _ _ _ (preF hp) h ho hg).1
   ·rename_i v p hv
    rw [putK_eq] at h
    obtain ⟨h1, h2⟩ := stepOpsF_sound hS _ _ _ _ _ (preF hp) h ho hg
    rw [All_cons] at h2
    exact opxF_of_pure hS hp hv h2.1 hd h1
   ·rw [forceR_eq] at h
    injection h with e1 e2
    subst e1; subst e2
    exact stepOF_sound hp hd hg
 ·injection h with e1 e2
  subst e1
  exact hg
theorem N_draw0 {id : Nat} {e : Env} [hS : S.Ok] (hs : Hp w0 w L) (hs0 : Hp w0 w L0) (hm : S.P.follows .mixedOrders = true) (hB : lexOkF ops = true) (he : pruneF env S.live = some e)
  (h : runF S sz (.ops true ops ops.toList k e) = (g', obl)) (hg : HoldsF S sz R w0 L0 L g') (ho : All obl := by ((repeat' apply And.intro) <;> first | exact trivial | omega | exact wi (by omega) | exact wu (by omega) | exact wb (by omega) | (refine Sl.nn (by assumption) ?_; omega) | (refine nn_of (by assumption) ?_; omega) | exact Option.some_ne_none _ | assumption | decide)) : Holds S sz R C w (.code (.code (.region id ops true) :: k) env) := by
 intro a ha
 have h1 := runF_sound (R := R) (w0 := w0) (L0 := L0) (L := L) hS _ h ⟨[], rfl⟩ ho hg
 refine todo_of_wp (wp_region_lexF hm hB hs hs0 ?_)
 have h2 := h1.2 a (ha.prune he)
 rw [sfx_all] at h2
 have key : ∀ (l : List (Oper × Bool)) (L' : List Res) (a : Act), wpF S.P ops w0 L0 (fun a' w' => TodoA S.P S.f R k a' w') l L' a → wpF S.P ops w0 L0 (fun a' w' => Post S.P S.f R k .normal a' w') l L' a := by
  intro l
  induction l with
  | nil => exact fun L' a h w hp => ⟨rfl, h w hp⟩
  | cons x l ih =>
   obtain ⟨o, fl⟩ := x
   intro L' a h
   rcases wpF_head h with ⟨_, v, hv, h'⟩ | ⟨hf, hw, d, hat, h'⟩ | ⟨he, hf, hw, h'⟩ | ⟨he, hw, h'⟩
   ·exact wpF_yv hv (ih _ _ h')
   ·exact wpF_float hf hw hat fun b hb => ih _ _ (h' b hb)
   ·exact wpF_eff he hf hw fun F w hp => DoesO.mono rfl (h' F w hp) fun v w' ⟨k1, L2, k2, k3⟩ => ⟨k1, L2, k2, ih _ _ k3⟩
   ·exact wpF_skip hw (ih _ _ h')
 exact key _ _ _ h2
theorem N_draw {id : Nat} {e : Env} [hS : S.Ok] (hs : Hp w0 w L) (hm : S.P.follows .mixedOrders = true) (hB : lexOkF ops = true) (he : pruneF env S.live = some e)
  (h : runF S sz (.ops true ops ops.toList k e) = (g', obl)) (hg : HoldsF S sz R w0 L L g') (ho : All obl := by ((repeat' apply And.intro) <;> first | exact trivial | omega | exact wi (by omega) | exact wu (by omega) | exact wb (by omega) | (refine Sl.nn (by assumption) ?_; omega) | (refine nn_of (by assumption) ?_; omega) | exact Option.some_ne_none _ | assumption | decide)) : Holds S sz R C w (.code (.code (.region id ops true) :: k) env) :=
 N_draw0 hs hs hm hB he h hg ho
theorem N_end (hg : ∀ w, Hp w0 w L → ∀ C, Holds S sz R C w (.code k env)) : HoldsF S sz R w0 L0 L (.code k env) := fun w hp a ha => hg w hp (fun _ => True) a ha
theorem N_ops {l : List Oper} [hS : S.Ok] (hpre : ops.toList.take (ops.toList.length - l.length) ++ l = ops.toList)
  (h : runF S sz (.ops true ops l k env) = (g', obl)) (hg : HoldsF S sz R w0 L0 L g') (ho : All obl := by ((repeat' apply And.intro) <;> first | exact trivial | omega | exact wi (by omega) | exact wu (by omega) | exact wb (by omega) | (refine Sl.nn (by assumption) ?_; omega) | (refine nn_of (by assumption) ?_; omega) | exact Option.some_ne_none _ | assumption | decide)) : HoldsF S sz R w0 L0 L (.ops true ops l k env) :=
 runF_sound hS _ h ⟨_, hpre.symm⟩ ho hg
theorem N_load {t : TypeId} {ad : Addr} {d : Nat} {v : Value} [hS : S.Ok] (hl : ∀ w', Hp w0 w' L0 → (loadVar t ad).run S.P w' = .ok v w') (hpre : ops.toList.take (ops.toList.length - rest.length) ++ rest = ops.toList)
  (h : runF S sz (.ops true ops rest k ((d, v) :: env)) = (g', obl)) (hg : HoldsF S sz R w0 L0 L g') (ho : All obl := by ((repeat' apply And.intro) <;> first | exact trivial | omega | exact wi (by omega) | exact wu (by omega) | exact wb (by omega) | (refine Sl.nn (by assumption) ?_; omega) | (refine nn_of (by assumption) ?_; omega) | exact Option.some_ne_none _ | assumption | decide)) : HoldsF S sz R w0 L0 L (.act (.load t ad) ⟨true, ops, rest, some d, k, env⟩) :=
 ⟨v, fun w' hw' => by simp [Action.sem, hl w' hw'], runF_sound hS (.ops true ops rest k ((d, v) :: env)) h ⟨_, hpre.symm⟩ ho hg⟩
end
section
variable {S : Setting} {sz : Nat} {R : Value → World → Prop} {C : World → Prop} {w w0 : World} {L0 L : List Res} {ops : Array Oper} {o : Oper} {rest : List Oper} {k : List Item} {env : Env} {g' : G} {obl : List Prop}
theorem N_ldB {b o : Nat} {tb t : TypeId} {cs : List Value} {v : Value} {d : Nat} [hS : S.Ok] [hb : BkH w0 L0 b tb cs] (hv : ldV S.tt t cs o = some v) (hpre : ops.toList.take (ops.toList.length - rest.length) ++ rest = ops.toList)
  (h : runF S sz (.ops true ops rest k ((d, v) :: env)) = (g', obl)) (hg : HoldsF S sz R w0 L0 L g') (ho : All obl := by ((repeat' apply And.intro) <;> first | exact trivial | omega | exact wi (by omega) | exact wu (by omega) | exact wb (by omega) | (refine Sl.nn (by assumption) ?_; omega) | (refine nn_of (by assumption) ?_; omega) | exact Option.some_ne_none _ | assumption | decide)) : HoldsF S sz R w0 L0 L (.act (.load t ⟨b, o, none⟩) ⟨true, ops, rest, some d, k, env⟩) :=
 N_load (fun w hp => ldV_blk hS.tt (hb.h w hp) hv) hpre h hg ho
theorem N_ldF {s1 : Nat} {α : Type} [Inhabited α] {enc : α → List Value} {X : List α} {a : Option Addr} {s : Nat} [he : EncOk enc s] {z : Int} {j : Nat} {t : TypeId} {v : Value} {d : Nat} [hS : S.Ok] [hr : RdH w0 L0 a s enc X] (hs1 : s1 = s) (h0 : 0 ≤ z) (h1 : z < X.length) (hv : ldV S.tt t (enc (X.getD z.toNat default)) j = some v) (hpre : ops.toList.take (ops.toList.length - rest.length) ++ rest = ops.toList)
  (h : runF S sz (.ops true ops rest k ((d, v) :: env)) = (g', obl)) (hg : HoldsF S sz R w0 L0 L g') (ho : All obl := by ((repeat' apply And.intro) <;> first | exact trivial | omega | exact wi (by omega) | exact wu (by omega) | exact wb (by omega) | (refine Sl.nn (by assumption) ?_; omega) | (refine nn_of (by assumption) ?_; omega) | exact Option.some_ne_none _ | assumption | decide)) : HoldsF S sz R w0 L0 L (.act (.load t (addA (elemAddr a s1 z) j)) ⟨true, ops, rest, some d, k, env⟩) := by
 subst hs1
 exact N_load (fun w hp => ldV_el hS.tt he (hr.h w hp) h0 h1 hv) hpre h hg ho
theorem N_ldE {s1 : Nat} {α : Type} [Inhabited α] {enc : α → List Value} {X : List α} {a : Option Addr} {s : Nat} [he : EncOk enc s] {z : Int} {t : TypeId} {v : Value} {d : Nat} [hS : S.Ok] [hr : RdH w0 L0 a s enc X] (hs1 : s1 = s) (h0 : 0 ≤ z) (h1 : z < X.length) (hv : ldV S.tt t (enc (X.getD z.toNat default)) 0 = some v) (hpre : ops.toList.take (ops.toList.length - rest.length) ++ rest = ops.toList)
  (h : runF S sz (.ops true ops rest k ((d, v) :: env)) = (g', obl)) (hg : HoldsF S sz R w0 L0 L g') (ho : All obl := by ((repeat' apply And.intro) <;> first | exact trivial | omega | exact wi (by omega) | exact wu (by omega) | exact wb (by omega) | (refine Sl.nn (by assumption) ?_; omega) | (refine nn_of (by assumption) ?_; omega) | exact Option.some_ne_none _ | assumption | decide)) : HoldsF S sz R w0 L0 L (.act (.load t (elemAddr a s1 z)) ⟨true, ops, rest, some d, k, env⟩) := by
 subst hs1
 exact N_load (fun w hp => ldV_el0 hS.tt he (hr.h w hp) h0 h1 hv) hpre h hg ho
theorem N_box {t : TypeId} {v : Value} {d : Nat} (hk : ∀ b, HoldsF S sz R w0 L0 (rB b t (cellsV v) :: L) (.ops true ops rest k ((d, .pointer (some ⟨b, 0, none⟩)) :: env))) :
  HoldsF S sz R w0 L0 L (.act (.box t v) ⟨true, ops, rest, some d, k, env⟩) := ⟨.cells none t (cellsV v), fun _ => box_run v, fun b => hk b⟩
theorem N_alloc {t : TypeId} {i : TI} {d : Nat} [hS : S.Ok] (hi : tl S.tt t = some i) (hk : ∀ b, HoldsF S sz R w0 L0 (rB b t (cellsV i.zero) :: L) (.ops true ops rest k ((d, .pointer (some ⟨b, 0, none⟩)) :: env))) :
  HoldsF S sz R w0 L0 L (.act (.alloc t) ⟨true, ops, rest, some d, k, env⟩) := ⟨.cells none t (cellsV i.zero), fun _ => alloc_run hS.tt hi, fun b => hk b⟩
theorem N_call {f : FuncId} {args : List Value} {d : Nat} {fn : Func} (hf : S.P.funcs[f]? = some fn) (hne : (fn.name == "runtime.NumGoroutine") = false) (hb : fn.body.isNone = false)
  (hk : ∀ F w, Hp w0 w (L ++ F) → Ret S.P f args w fun v w' => (flagAt ops rest = true → Hp w0 w' L0) ∧ ∃ L', Hp w0 w' (L' ++ F) ∧ HoldsF S sz R w0 L0 L' (.ops true ops rest k ((d, v) :: env)))
  (hpc : pcAt ops rest = false := by kernel_rfl) : HoldsF S sz R w0 L0 L (.act (.call f args) ⟨true, ops, rest, some d, k, env⟩) := by
 show (match pcAt ops rest with | true => _ | false => _)
 rw [hpc]
 show ∀ F w, Hp w0 w (L ++ F) → Does _ _ _ _
 intro F w hp
 unfold Does
 rw [call_run hf hne hb]
 exact Calls.mono (hk F w hp) fun e w' ⟨v, he, q⟩ => ⟨v, he, q⟩
end
section
variable {S : Setting} {sz : Nat} {R : Value → World → Prop} {C : World → Prop} {w w0 : World} {L0 L : List Res} {ops : Array Oper} {o : Oper} {rest : List Oper} {k : List Item} {env : Env} {g' : G} {obl : List Prop}
theorem N_store {t : TypeId} {ad : Addr} {v : Value} {L' : List Res} (hfl : flagAt ops rest = false) (hs : ∀ F w, Hp w0 w (L ++ F) → ∃ w', (Action.store t ad v).sem.run S.P w = .ok .skip w' ∧ Hp w0 w' (L' ++ F))
  (hk : HoldsF S sz R w0 L0 L' (.ops true ops rest k env)) : HoldsF S sz R w0 L0 L (.act (.store t ad v) ⟨true, ops, rest, none, k, env⟩) := by
 show ∀ F w, Hp w0 w (L ++ F) → Does _ _ _ _
 intro F w hp
 obtain ⟨w', r, h⟩ := hs F w hp
 unfold Does
 rw [r]
 exact ⟨fun hq => absurd hq (by show ¬ flagAt ops rest = true; rw [hfl]; decide), L', h, hk⟩
theorem N_stB {b o : Nat} {tb t : TypeId} {cs : List Value} {f : List Value → List Res} {v : Value} {i : TI} [hS : S.Ok] [hu : UpdB L b tb cs f] (hi : tl S.tt t = some i) (hs : i.size = 1) (ho : Nat.ble (o + 1) cs.length = true) (hv : v.oneCell' = true) (hfl : flagAt ops rest = false)
  (hk : HoldsF S sz R w0 L0 (f (cs.set o v)) (.ops true ops rest k env)) : HoldsF S sz R w0 L0 L (.act (.store t ⟨b, o, none⟩ v) ⟨true, ops, rest, none, k, env⟩) := by
 obtain ⟨M, h1, h2⟩ := hu.h
 refine N_store hfl (fun F w hp => ?_) hk
 have hp1 : Hp w0 w (rB b tb cs :: (M ++ F)) := hp.perm (h1.append_right F)
 obtain ⟨w', r, h, g⟩ := (show Blk w b tb cs from hp1.g0).st1 hS.tt hi hs (Nat.le_of_ble_eq_true ho) hv
 exact ⟨w', r, (hp1.blkS h g).perm ((h2 _).append_right F).symm⟩
theorem N_stBN {b : Nat} {tb t : TypeId} {cs vs : List Value} {f : List Value → List Res} {i : TI} [hS : S.Ok] [hu : UpdB L b tb cs f] (hi : tl S.tt t = some i) (hs : i.size = vs.length) (hl : Nat.beq cs.length vs.length = true) (h1 : vs.all Value.oneCell' = true) (hfl : flagAt ops rest = false)
  (hk : HoldsF S sz R w0 L0 (f vs) (.ops true ops rest k env)) : HoldsF S sz R w0 L0 L (.act (.store t ⟨b, 0, none⟩ (.agg ⟨vs⟩)) ⟨true, ops, rest, none, k, env⟩) := by
 obtain ⟨M, h3, h2⟩ := hu.h
 refine N_store hfl (fun F w hp => ?_) hk
 have hp1 : Hp w0 w (rB b tb cs :: (M ++ F)) := hp.perm (h3.append_right F)
 obtain ⟨w', r, h, g⟩ := Blk.storeN hS.tt hi (show Blk w b tb cs from hp1.g0) hs (Nat.eq_of_beq_eq_true hl) (fun v hv => List.all_eq_true.1 h1 v hv)
 exact ⟨w', r, (hp1.blkS h g).perm ((h2 _).append_right F).symm⟩
theorem nLoad {t : TypeId} {ad : Addr} {c : Cont} (h : HoldsF S sz R w0 L0 L (.act (.load t ad) c)) : HoldsF S sz R w0 L0 L (.act (.load t ad) c) := h
theorem nBuild {t : TypeId} {n : Nat} {ps : List (Nat × Value)} {c : Cont} (h : HoldsF S sz R w0 L0 L (.act (.buildSlice t n ps) c)) : HoldsF S sz R w0 L0 L (.act (.buildSlice t n ps) c) := h
end
theorem Own.of_blk {α : Type} {enc : α → List Value} {s : Nat} {w : World} {b : Nat} {e : TypeId} {cs : List Value} {M : List α} (h : Blk w b e cs) (he : EncOk enc s) (hM : M.flatMap enc = cs) (hm : M.length ≤ maxLen) : Own w 0 e s enc (some ⟨b, 0, none⟩) M.length M := by
 unfold Own
 rw [hM]
 have hl : cs.length = M.length * s := by rw [← hM]; exact flat_len he.len M
 exact ⟨by simpa using hl, .inr ⟨b, M.length, ⟨cs⟩, rfl, Nat.zero_le _, h, Nat.le_refl _, hm, by simpa using hl, List.take_of_length_le (by simp [hl])⟩⟩
theorem Hp.ownB {α : Type} {enc : α → List Value} {s : Nat} {w0 w : World} {b : Nat} {e : TypeId} {cs : List Value} {M : List α} {L : List Res} (h : Hp w0 w (rB b e cs :: L)) (he : EncOk enc s) (hM : M.flatMap enc = cs) (hm : M.length ≤ maxLen) : Hp w0 w (rO e s enc (some ⟨b, 0, none⟩) M.length M :: L) :=
 h.upd ⟨rfl, rfl, rfl, Nat.le_refl _, fun _ _ _ => rfl⟩ (Own.of_blk h.g0 he hM hm) (fun k hk => .inl (by simp [rO, Go.Xw.blk] at hk; simp [rB]; exact hk)) (by simp [rO, Go.Xw.blk])
section
variable {S : Setting} {sz : Nat} {R : Value → World → Prop} {C : World → Prop} {w w0 : World} {L0 L : List Res} {ops : Array Oper} {o : Oper} {rest : List Oper} {k : List Item} {env : Env} {g' : G} {obl : List Prop}
theorem N_sub {L' : List Res} {l : List Oper} {q : Bool} (hs : ∀ F w, Hp w0 w (L ++ F) → Hp w0 w (L' ++ F)) (h : HoldsF S sz R w0 L0 L' (.ops q ops l k env)) : HoldsF S sz R w0 L0 L (.ops q ops l k env) :=
 ⟨h.1, fun a ha => wpF_sub _ _ _ _ hs (h.2 a ha)⟩
theorem HoldsF_sub {L' : List Res} (hs : ∀ F w, Hp w0 w (L ++ F) → Hp w0 w (L' ++ F)) : ∀ {g : G}, HoldsF S sz R w0 L0 L' g → HoldsF S sz R w0 L0 L g := by
 have hs0 : ∀ w, Hp w0 w L → Hp w0 w L' := fun w h => by have := hs [] w; simp only [List.append_nil] at this; exact this h
 have hops : ∀ {ops : Array Oper} {l : List Oper} {k : List Item} {env : Env} {L L' : List Res}, (∀ F w, Hp w0 w (L ++ F) → Hp w0 w (L' ++ F)) → OpsF S sz R w0 L0 ops l k env L' → OpsF S sz R w0 L0 ops l k env L := fun hs h => ⟨h.1, fun a ha => wpF_sub _ _ _ _ hs (h.2 a ha)⟩
 intro g h
 cases g with
 | code k env => exact fun w hp => h w (hs0 w hp)
 | ops q ops l k env => exact hops hs h
 | guard q b want ops o rest k env =>
  have h : (if b = want then OpxF S sz R w0 L0 ops o rest k env L' else OpsF S sz R w0 L0 ops rest k (putE env o.dst undef) L') := h
  show (if b = want then OpxF S sz R w0 L0 ops o rest k env L else OpsF S sz R w0 L0 ops rest k (putE env o.dst undef) L)
  by_cases hb : b = want
  ·rw [if_pos hb] at h ⊢
   exact ⟨h.1, fun a ha hw => wpF_sub _ _ _ _ hs (h.2 a ha hw)⟩
  ·rw [if_neg hb] at h ⊢
   exact hops hs h
 | opx q ops o rest k env => exact ⟨h.1, fun a ha hw => wpF_sub _ _ _ _ hs (h.2 a ha hw)⟩
 | act A c =>
  have h : ActF S sz R w0 L0 A c L' := h
  show ActF S sz R w0 L0 A c L
  unfold ActF at h ⊢
  cases hl : isLoadA A with
  | true =>
   simp only [hl] at h ⊢
   obtain ⟨v, h1, h2⟩ := h
   exact ⟨v, h1, hops hs h2⟩
  | false =>
   cases hf : isFloatA A with
   | true =>
    simp only [hl, hf] at h ⊢
    obtain ⟨d, h1, h2⟩ := h
    exact ⟨d, h1, fun b => hops (fun F w hp => by
     have h3 := hs (d.res b :: F) w (Hp.mid.1 hp)
     exact Hp.mid.2 h3) (h2 b)⟩
   | false =>
    simp only [hl, hf] at h ⊢
    cases hpc : pcOf A c.ops c.rest with
    | true =>
     simp only [hpc] at h ⊢
     obtain ⟨f, args, v, h1, h2, h3, h4⟩ := h
     exact ⟨f, args, v, h1, h2, h3, hops hs h4⟩
    | false =>
     simp only [hpc] at h ⊢
     exact fun F w hp => h F w (hs F w hp)
 | _ => exact h
theorem N_f2 {A B D : Res} {g : G} (h : HoldsF S sz R w0 L0 (D :: A :: B :: L) g) : HoldsF S sz R w0 L0 (A :: B :: D :: L) g := HoldsF_sub (fun F w (hp : Hp w0 w (A :: B :: D :: (L ++ F))) => hp.f2) h
theorem make_runF {α : Type} {enc : α → List Value} {P : Program} {tt : TT} (hok : TTok P tt) {t e : TypeId} {i j : TI} (hi : tl tt t = some i) (hd : i.desc = .slice e) (hj : tl tt e = some j) (hz : (cellsV j.zero).length = j.size) (hsz : 0 < j.size) (d : α) (hzd : enc d = cellsV j.zero)
  (n : Nat) (hm : n ≤ maxLen) (hb : j.bytes * n ≤ 281474976710656) (w : World) :
  (Instr.makeSlice t (.int .i64 (n : Int)) (.int .i64 (n : Int))).run P w = .ok (.slice (some ⟨w.heap.size, 0, none⟩) n n) (w.alloc (.cells ⟨(List.replicate n d).flatMap enc⟩ e)) := by
 obtain ⟨info, td, h1, h2, h3, h4, h5, htd, h6⟩ := hok.get hi
 obtain ⟨info', td', g1, g2, g3, g4, g5, gtd, g6⟩ := hok.get hj
 rw [toD_slice (htd.trans hd)] at h5
 have hm' : (n : Int) ≤ 9223372036854775807 := by unfold maxLen at hm; omega
 have hb' : (info'.bytes : Int) * (n : Int) ≤ 281474976710656 := by
  rw [g3]
  have h : ((j.bytes * n : Nat) : Int) ≤ 281474976710656 := by omega
  rwa [Int.natCast_mul] at h
 have hr := run_make (P := P) w t e info' j.zero h5 g1 g4 .i64 .i64 n n (by omega) (Int.le_refl _) hb' hm'
 simp only [Int.toNat_natCast] at hr
 rw [hr]
 have : (List.replicate n d).flatMap enc = (madeCells j.zero.cells (n * j.size)).toList := by
  have hc : j.zero.cells = (cellsV j.zero).toArray := by rw [cellsV_eq]
  rw [hc, ← hz, made_flat _ _ (by omega), ← hzd]
  simp [List.flatMap]
 rw [this, g2]
theorem N_make {α : Type} (enc : α → List Value) (dz : α) {t e : TypeId} {i j : TI} {n : Nat} {d : Nat} [hS : S.Ok] (hi : tl S.tt t = some i) (hd : i.desc = .slice e) (hj : tl S.tt e = some j) (hz : (cellsV j.zero).length = j.size) {s : Nat} (hs0 : j.size = s) (hsz : 0 < s)
  (he : EncOk enc s) (hzd : enc dz = cellsV j.zero) (hm : n ≤ maxLen) (hb : j.bytes * n ≤ 281474976710656)
  (hk : ∀ b, HoldsF S sz R w0 L0 (rO e s enc (some ⟨b, 0, none⟩) n (List.replicate n dz) :: L) (.ops true ops rest k ((d, .slice (some ⟨b, 0, none⟩) n n) :: env))) :
  HoldsF S sz R w0 L0 L (.act (.makeSlice t (.int .i64 (n : Int)) (.int .i64 (n : Int))) ⟨true, ops, rest, some d, k, env⟩) := by
 subst hs0
 refine ⟨.cells (some n) e ((List.replicate n dz).flatMap enc), fun w => ?_, fun b => N_sub (fun F w hp => ?_) (hk b)⟩
 ·have hr := make_runF (P := S.P) hS.tt hi hd hj hz hsz dz hzd n hm hb w
  simp only [Action.sem, Sem.run_bind, hr, Result.andThen_ok, Sem.run_pure]
  rfl
 ·have := Hp.ownB (L := L ++ F) (M := List.replicate n dz) hp he rfl (by rw [List.length_replicate]; exact hm)
  rw [List.length_replicate] at this
  exact this
theorem N_lit {α : Type} (enc : α → List Value) (M : List α) {t e : TypeId} {i j : TI} {nn : Nat} {parts : List (Nat × Value)} {cs : List Value} {d : Nat} [hS : S.Ok] (hi : tl S.tt t = some i) (hd : i.desc = .slice e) (hj : tl S.tt e = some j) (hz : (cellsV j.zero).length = j.size) {s : Nat} (hs0 : j.size = s) (hsz : 0 < s)
  (he : EncOk enc s) (hc : litCells S.tt e nn parts = some cs) (hM : M.flatMap enc = cs) (hn : M.length = nn) (hb : nn * s ≤ 16777216)
  (hk : ∀ b, HoldsF S sz R w0 L0 (rO e s enc (some ⟨b, 0, none⟩) M.length M :: L) (.ops true ops rest k ((d, .slice (some ⟨b, 0, none⟩) M.length M.length) :: env))) :
  HoldsF S sz R w0 L0 L (.act (.buildSlice t nn parts) ⟨true, ops, rest, some d, k, env⟩) := by
 subst hs0
 subst hn
 have hm : M.length ≤ maxLen := by
  have := Nat.le_mul_of_pos_right M.length hsz
  unfold maxLen; omega
 refine ⟨.cells (some M.length) e cs, fun w => ?_, fun b => N_sub (fun F w hp => ?_) (hk b)⟩
 ·have hr := lit_run (P := S.P) (w := w) hS.tt hi hd hj hz hsz hc hb
  simp only [Action.sem, Sem.run_bind, hr, Result.andThen_ok, Sem.run_pure]
  rfl
 ·exact Hp.ownB (L := L ++ F) hp he hM hm
theorem N_litI {t e : TypeId} {i j : TI} {nn : Nat} {parts : List (Nat × Value)} {cs : List Value} {M : List Int} {d : Nat} [hS : S.Ok] (hi : tl S.tt t = some i) (hd : i.desc = .slice e) (hj : tl S.tt e = some j) (hz : (cellsV j.zero).length = j.size) (hs0 : j.size = 1) (_ : j.desc = .int .i64)
  (hc : litCells S.tt e nn parts = some cs) (hM : intsOf cs = some M) (hn : M.length = nn) (hb : Nat.ble (nn * 1) 16777216 = true)
  (hk : ∀ b, HoldsF S sz R w0 L0 (rO e 1 eI (some ⟨b, 0, none⟩) M.length M :: L) (.ops true ops rest k ((d, .slice (some ⟨b, 0, none⟩) M.length M.length) :: env))) :
  HoldsF S sz R w0 L0 L (.act (.buildSlice t nn parts) ⟨true, ops, rest, some d, k, env⟩) :=
 N_lit eI M hi hd hj hz hs0 (by decide) eI_ok hc (intsOf_eq hM) hn (Nat.le_of_ble_eq_true hb) hk
theorem N_eff {A : Action} {d : Option Nat} (hl : isLoadA A = false) (hf : isFloatA A = false) (hpc : pcOf A ops rest = false) (h : ∀ F w, Hp w0 w (L ++ F) → Does S.P A w fun v w' => (flagAt ops rest = true → Hp w0 w' L0) ∧ ∃ L', Hp w0 w' (L' ++ F) ∧ HoldsF S sz R w0 L0 L' (.ops true ops rest k (putE env d v))) :
  HoldsF S sz R w0 L0 L (.act A ⟨true, ops, rest, d, k, env⟩) := by
 show ActF S sz R w0 L0 A _ L
 unfold ActF
 rw [hl, hf]
 show (match pcOf A ops rest with | true => _ | false => _)
 rw [hpc]
 exact h
theorem N_append {α : Type} [Inhabited α] {enc : α → List Value} {X Y : List α} {t u e ty : TypeId} {a sa : Option Addr} {c sc n : Nat} {s : Nat} {f : Option Addr → Nat → List α → List Res} [hq : UpdO L a e s enc c X f] [he : EncOk enc s] [hr : RdH w0 L sa s enc Y] {i j : TI} {m : Nat} (hn : X.length = n) (hM : Y.length = m) {d : Nat} [hS : S.Ok] (hi : tl S.tt t = some i) (hd : i.desc = .slice e) (hj : tl S.tt e = some j) (hz : (cellsV j.zero).length = j.size) (hs0 : j.size = s) (hsz : 0 < s)
  (hu : u = t) (hm : X.length + Y.length ≤ 1000000000) {bts : Nat} (hbt : j.bytes = bts) (hb2 : Nat.ble bts 1000 = true) (hC : flagAt ops rest = true → ∀ a' c' F w', Hp w0 w' (f a' c' (X ++ Y) ++ F) → Hp w0 w' L0)
  (hk : ∀ a' c', (a' = none ↔ a = none ∧ Y = []) → HoldsF S sz R w0 L0 (f a' c' (X ++ Y)) (.ops true ops rest k ((d, .slice a' (X ++ Y).length c') :: env))) :
  HoldsF S sz R w0 L0 L (.act (.append t u ty (.slice a n c) (.slice sa m sc)) ⟨true, ops, rest, some d, k, env⟩) := by
 obtain ⟨M, h1, h2⟩ := hq.h
 subst hn; subst hM; subst hs0; subst hu
 refine N_eff rfl rfl rfl fun F w hp => ?_
 have hp1 : Hp w0 w (rO e j.size enc a c X :: (M ++ F)) := hp.perm (h1.append_right F)
 obtain ⟨a', c', w', hrr, g1, g2, g3⟩ := append_runH (P := S.P) hS.tt hi hd hj hz hsz he hp1 (sc := sc) (hr.h w (hp.sub (List.sublist_append_left _ _))) (by unfold maxLen; omega) (by
  have := Nat.le_of_ble_eq_true hb2
  rw [hbt]
  have := Nat.mul_le_mul hm this
  omega) ty
 unfold Does
 simp only [Action.sem, Sem.run_bind, hrr, Result.andThen_ok, Sem.run_pure]
 have g4 : Hp w0 w' (f a' c' (X ++ Y) ++ F) := g1.perm ((h2 _ _ _).append_right F).symm
 exact ⟨fun hq => hC hq a' c' F w' g4, _, g4, hk a' c' g3⟩
theorem N_st0 {s1 : Nat} {α : Type} [Inhabited α] {enc : α → List Value} {e t : TypeId} {a : Option Addr} {c s : Nat} {X : List α} {f : Option Addr → Nat → List α → List Res} [hu : UpdO L a e s enc c X f] [he : EncOk enc s] {i : TI} [hS : S.Ok] (hs1 : s1 = s) (hi : tl S.tt t = some i) (hs : i.size = 1) {z : Int} (hz : z.toNat < X.length) {y : α} {v : Value} (hj : 0 < s) (hy : enc y = (enc (X.getD z.toNat default)).set 0 v) (hv : v.oneCell' = true) (hfl : flagAt ops rest = false)
  (hk : HoldsF S sz R w0 L0 (f a c (X.set z.toNat y)) (.ops true ops rest k env)) : HoldsF S sz R w0 L0 L (.act (.store t (elemAddr a s1 z) v) ⟨true, ops, rest, none, k, env⟩) := by
 subst hs1
 obtain ⟨M, h1, h2⟩ := hu.h
 refine N_store hfl (fun F w hp => ?_) hk
 have hp1 : Hp w0 w (rO e s1 enc a c X :: (M ++ F)) := hp.perm (h1.append_right F)
 obtain ⟨w', r, h, g⟩ := hp1.own.st0 hS.tt hi hs he (getD_some hz) hj hy hv
 exact ⟨w', r, (hp1.ownS h g).perm ((h2 _ _ _).append_right F).symm⟩
theorem N_st1 {s1 : Nat} {α : Type} [Inhabited α] {enc : α → List Value} {e t : TypeId} {a : Option Addr} {c s : Nat} {X : List α} {f : Option Addr → Nat → List α → List Res} [hu : UpdO L a e s enc c X f] [he : EncOk enc s] {i : TI} [hS : S.Ok] (y : α) (hs1 : s1 = s) (hi : tl S.tt t = some i) (hs : i.size = 1) {z : Int} {j : Nat} (hz : z.toNat < X.length) {v : Value} (hj : j < s) (hy : enc y = (enc (X.getD z.toNat default)).set j v) (hv : v.oneCell' = true) (hfl : flagAt ops rest = false)
  (hk : HoldsF S sz R w0 L0 (f a c (X.set z.toNat y)) (.ops true ops rest k env)) : HoldsF S sz R w0 L0 L (.act (.store t (addA (elemAddr a s1 z) j) v) ⟨true, ops, rest, none, k, env⟩) := by
 subst hs1
 obtain ⟨M, h1, h2⟩ := hu.h
 refine N_store hfl (fun F w hp => ?_) hk
 have hp1 : Hp w0 w (rO e s1 enc a c X :: (M ++ F)) := hp.perm (h1.append_right F)
 obtain ⟨w', r, h, g⟩ := hp1.own.st1 hS.tt hi hs he (getD_some hz) hj hy hv
 exact ⟨w', r, (hp1.ownS h g).perm ((h2 _ _ _).append_right F).symm⟩
theorem N_st0N {s1 : Nat} {α : Type} [Inhabited α] {enc : α → List Value} {e t : TypeId} {a : Option Addr} {c s : Nat} {X : List α} {f : Option Addr → Nat → List α → List Res} [hu : UpdO L a e s enc c X f] [he : EncOk enc s] {i : TI} [hS : S.Ok] (hs1 : s1 = s) (hi : tl S.tt t = some i) (hs : i.size = 1) {z : Nat} (hz : z < X.length) {y : α} {v : Value} (hj : 0 < s) (hy : enc y = (enc (X.getD z default)).set 0 v) (hv : v.oneCell' = true) (hfl : flagAt ops rest = false)
  (hk : HoldsF S sz R w0 L0 (f a c (X.set z y)) (.ops true ops rest k env)) : HoldsF S sz R w0 L0 L (.act (.store t (elemAddr a s1 ((z : Nat) : Int)) v) ⟨true, ops, rest, none, k, env⟩) :=
 N_st0 (z := ((z : Nat) : Int)) hs1 hi hs hz hj hy hv hfl hk
theorem N_st1N {s1 : Nat} {α : Type} [Inhabited α] {enc : α → List Value} {e t : TypeId} {a : Option Addr} {c s : Nat} {X : List α} {f : Option Addr → Nat → List α → List Res} [hu : UpdO L a e s enc c X f] [he : EncOk enc s] {i : TI} [hS : S.Ok] (y : α) (hs1 : s1 = s) (hi : tl S.tt t = some i) (hs : i.size = 1) {z j : Nat} (hz : z < X.length) {v : Value} (hj : j < s) (hy : enc y = (enc (X.getD z default)).set j v) (hv : v.oneCell' = true) (hfl : flagAt ops rest = false)
  (hk : HoldsF S sz R w0 L0 (f a c (X.set z y)) (.ops true ops rest k env)) : HoldsF S sz R w0 L0 L (.act (.store t (addA (elemAddr a s1 ((z : Nat) : Int)) j) v) ⟨true, ops, rest, none, k, env⟩) :=
 N_st1 (z := ((z : Nat) : Int)) y hs1 hi hs hz hj hy hv hfl hk
end
theorem Hp.pre {w0 w : World} {L F : List Res} (h : Hp w0 w (L ++ F)) : Hp w0 w L := h.sub (List.sublist_append_left _ _)
theorem Hp.one {w0 w : World} {R : Res} {L : List Res} (h : Hp w0 w (R :: L)) : Hp w0 w [R] := h.sub (List.cons_sublist_cons.2 (List.nil_sublist _))
theorem Hp.callF {w0 w w' : World} {L F M : List Res} (h : Hp w0 w (L ++ F)) (hc : Hp w w' M) : Hp w0 w' ((M ++ L) ++ F) := by
 rw [List.append_assoc]; exact h.call hc
theorem Hp.callF1 {w0 w w' : World} {L F : List Res} {R : Res} (h : Hp w0 w (L ++ F)) (hc : Hp w w' [R]) : Hp w0 w' ((R :: L) ++ F) := h.callF hc
section
variable {S : Setting} {sz : Nat} {R : Value → World → Prop} {C : World → Prop} {w w0 : World} {L0 L : List Res} {ops : Array Oper} {o : Oper} {rest : List Oper} {k : List Item} {env : Env} {g' : G} {obl : List Prop}
theorem N_ldEN {s1 : Nat} {α : Type} [Inhabited α] {enc : α → List Value} {X : List α} {a : Option Addr} {s : Nat} [he : EncOk enc s] {i : Nat} {t : TypeId} {v : Value} {d : Nat} [hS : S.Ok] [hr : RdH w0 L0 a s enc X] (hs1 : s1 = s) (h1 : i < X.length) (hv : ldV S.tt t (enc (X.getD i default)) 0 = some v) (hpre : ops.toList.take (ops.toList.length - rest.length) ++ rest = ops.toList)
  (h : runF S sz (.ops true ops rest k ((d, v) :: env)) = (g', obl)) (hg : HoldsF S sz R w0 L0 L g') (ho : All obl := by ((repeat' apply And.intro) <;> first | exact trivial | omega | exact wi (by omega) | exact wu (by omega) | exact wb (by omega) | (refine Sl.nn (by assumption) ?_; omega) | (refine nn_of (by assumption) ?_; omega) | exact Option.some_ne_none _ | assumption | decide)) : HoldsF S sz R w0 L0 L (.act (.load t (elemAddr a s1 ((i : Nat) : Int))) ⟨true, ops, rest, some d, k, env⟩) :=
 N_ldE (z := ((i : Nat) : Int)) hs1 (by omega) (by omega) hv hpre h hg ho
theorem N_ldFN {s1 : Nat} {α : Type} [Inhabited α] {enc : α → List Value} {X : List α} {a : Option Addr} {s : Nat} [he : EncOk enc s] {i : Nat} {j : Nat} {t : TypeId} {v : Value} {d : Nat} [hS : S.Ok] [hr : RdH w0 L0 a s enc X] (hs1 : s1 = s) (h1 : i < X.length) (hv : ldV S.tt t (enc (X.getD i default)) j = some v) (hpre : ops.toList.take (ops.toList.length - rest.length) ++ rest = ops.toList)
  (h : runF S sz (.ops true ops rest k ((d, v) :: env)) = (g', obl)) (hg : HoldsF S sz R w0 L0 L g') (ho : All obl := by ((repeat' apply And.intro) <;> first | exact trivial | omega | exact wi (by omega) | exact wu (by omega) | exact wb (by omega) | (refine Sl.nn (by assumption) ?_; omega) | (refine nn_of (by assumption) ?_; omega) | exact Option.some_ne_none _ | assumption | decide)) : HoldsF S sz R w0 L0 L (.act (.load t (addA (elemAddr a s1 ((i : Nat) : Int)) j)) ⟨true, ops, rest, some d, k, env⟩) :=
 N_ldF (z := ((i : Nat) : Int)) hs1 (by omega) (by omega) hv hpre h hg ho
end
end Go.Xw
