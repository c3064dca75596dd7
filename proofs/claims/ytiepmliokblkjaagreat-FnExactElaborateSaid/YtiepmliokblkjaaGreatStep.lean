/- The rules for appends, makes, slice literals and stores on rows of the call's own; each under its stated conditions. -/
import Derived.Test.YtiepmliokblkjaaGreatBits
set_option linter.all false
namespace Go.Xw
open Go.RowKit
theorem wi {z : Int} (h : -9223372036854775808 ≤ z ∧ z ≤ 9223372036854775807) : IntKind.i64.wrap z = z := IntWalk.i64_in z h
theorem wu {z : Int} (h : 0 ≤ z ∧ z ≤ 18446744073709551615) : IntKind.u64.wrap z = z := IntWalk.u64_in z h
theorem wb {z : Int} (h : 0 ≤ z ∧ z ≤ 255) : IntKind.u8.wrap z = z := IntWalk.u8_in z h
theorem Sl.nn {w : World} {a : Option Addr} {n sz : Nat} {f : Nat → Nat → Value} (h : Sl w a n sz f) (hn : 0 < n) : a ≠ none := h.1 hn
section
variable {S : Setting} {sz : Nat} {R : Value → World → Prop} {C : World → Prop} {w : World} {g' : G} {obl : List Prop}
theorem h_run {k : List Item} {env : Env} [hS : S.Ok] (h : run S sz 400 (.code k env) [] = (g', obl)) (hg : Holds S sz R C w g') (ho : All obl := by ((repeat' apply And.intro) <;> first | exact trivial | omega | exact wi (by omega) | exact wu (by omega) | exact wb (by omega) | (refine Sl.nn (by assumption) ?_; omega) | (refine nn_of (by assumption) ?_; omega) | exact Option.some_ne_none _ | assumption | decide)) : Holds S sz R C w (.code k env) :=
 (run_sound hS 400 _ [] g' obl h trivial ho hg).1
theorem h_cond_t {b : Bool} {k1 k2 : List Item} {env : Env} [hS : S.Ok] (hb : b = true) (h : run S sz 400 (.code k1 env) [] = (g', obl)) (hg : Holds S sz R C w g') (ho : All obl := by ((repeat' apply And.intro) <;> first | exact trivial | omega | exact wi (by omega) | exact wu (by omega) | exact wb (by omega) | (refine Sl.nn (by assumption) ?_; omega) | (refine nn_of (by assumption) ?_; omega) | exact Option.some_ne_none _ | assumption | decide)) : Holds S sz R C w (.cond b k1 k2 env) := by
 subst hb; exact h_run h hg ho
theorem h_cond_f {b : Bool} {k1 k2 : List Item} {env : Env} [hS : S.Ok] (hb : b = false) (h : run S sz 400 (.code k2 env) [] = (g', obl)) (hg : Holds S sz R C w g') (ho : All obl := by ((repeat' apply And.intro) <;> first | exact trivial | omega | exact wi (by omega) | exact wu (by omega) | exact wb (by omega) | (refine Sl.nn (by assumption) ?_; omega) | (refine nn_of (by assumption) ?_; omega) | exact Option.some_ne_none _ | assumption | decide)) : Holds S sz R C w (.cond b k1 k2 env) := by
 subst hb; exact h_run h hg ho
theorem h_cond_dec {p : Prop} {d : Decidable p} {k1 k2 : List Item} {env : Env} (h1 : p → Holds S sz R C w (.cond true k1 k2 env)) (h2 : ¬ p → Holds S sz R C w (.cond false k1 k2 env)) :
  Holds S sz R C w (.cond (@decide p d) k1 k2 env) := by
 by_cases h : p
 ·rw [show decide p = true from decide_eq_true h]; exact h1 h
 ·rw [show decide p = false from decide_eq_false h]; exact h2 h
theorem h_cond_ndec {p : Prop} {d : Decidable p} {k1 k2 : List Item} {env : Env} (h1 : ¬ p → Holds S sz R C w (.cond true k1 k2 env)) (h2 : p → Holds S sz R C w (.cond false k1 k2 env)) :
  Holds S sz R C w (.cond (!(@decide p d)) k1 k2 env) := by
 by_cases h : p
 ·rw [show decide p = true from decide_eq_true h]; exact h2 h
 ·rw [show decide p = false from decide_eq_false h]; exact h1 h
theorem h_cond_b {b : Bool} {k1 k2 : List Item} {env : Env} (h1 : b = true → Holds S sz R C w (.cond true k1 k2 env)) (h2 : b = false → Holds S sz R C w (.cond false k1 k2 env)) :
  Holds S sz R C w (.cond b k1 k2 env) := by
 cases b
 ·exact h2 rfl
 ·exact h1 rfl
theorem h_guard_y {q b want : Bool} {ops : Array Oper} {o : Oper} {rest : List Oper} {k : List Item} {env : Env} [hS : S.Ok] (hb : b = want) (hp : q = true → ∃ pre, ops.toList = pre ++ o :: rest)
  (h : run S sz 400 (.opx q ops o rest k env) [] = (g', obl)) (hg : Holds S sz R C w g') (ho : All obl := by ((repeat' apply And.intro) <;> first | exact trivial | omega | exact wi (by omega) | exact wu (by omega) | exact wb (by omega) | (refine Sl.nn (by assumption) ?_; omega) | (refine nn_of (by assumption) ?_; omega) | exact Option.some_ne_none _ | assumption | decide)) : Holds S sz R C w (.guard q b want ops o rest k env) := by
 show (if b = want then _ else _)
 rw [if_pos hb]; exact (run_sound hS 400 _ [] g' obl h hp ho hg).1
theorem h_guard_n {q b want : Bool} {ops : Array Oper} {o : Oper} {rest : List Oper} {k : List Item} {env : Env} [hS : S.Ok] (hb : b = !want) (hp : q = true → ∃ pre, ops.toList = pre ++ o :: rest)
  (h : run S sz 400 (.ops q ops rest k (putE env o.dst undef)) [] = (g', obl)) (hg : Holds S sz R C w g') (ho : All obl := by ((repeat' apply And.intro) <;> first | exact trivial | omega | exact wi (by omega) | exact wu (by omega) | exact wb (by omega) | (refine Sl.nn (by assumption) ?_; omega) | (refine nn_of (by assumption) ?_; omega) | exact Option.some_ne_none _ | assumption | decide)) : Holds S sz R C w (.guard q b want ops o rest k env) := by
 show (if b = want then _ else _)
 rw [if_neg (by subst hb; cases want <;> decide)]; exact (run_sound hS 400 _ [] g' obl h (pre_next hp) ho hg).1
theorem ops_run {q : Bool} {ops : Array Oper} {l : List Oper} {k : List Item} {env : Env} [hS : S.Ok] (hp : q = true → ∃ pre, ops.toList = pre ++ l)
  (h : run S sz 400 (.ops q ops l k env) [] = (g', obl)) (hg : Holds S sz R C w g') (ho : All obl := by ((repeat' apply And.intro) <;> first | exact trivial | omega | exact wi (by omega) | exact wu (by omega) | exact wb (by omega) | (refine Sl.nn (by assumption) ?_; omega) | (refine nn_of (by assumption) ?_; omega) | exact Option.some_ne_none _ | assumption | decide)) : Holds S sz R C w (.ops q ops l k env) :=
 (run_sound hS 400 _ [] g' obl h hp ho hg).1
theorem call_run {P : Program} {f : FuncId} {args : List Value} {fn : Func} (hf : P.funcs[f]? = some fn) (hne : (fn.name == "runtime.NumGoroutine") = false) (hb : fn.body.isNone = false) (w : World) :
  (Action.call f args).sem.run P w = .ok (.enter f ⟨args⟩) w := by
 simp only [Action.sem, callFunc, Sem.run_bind, run_program, Result.andThen_ok, hf, hne, hb, Bool.false_eq_true, if_false, Sem.run_pure]
theorem h_call {f : FuncId} {args : List Value} {c : Cont} {Q : Value → World → Prop} {fn : Func} (hq : c.q = false) (hf : S.P.funcs[f]? = some fn) (hne : (fn.name == "runtime.NumGoroutine") = false) (hb : fn.body.isNone = false)
  (h : Ret S.P f args w Q) (hk : ∀ v w', Q v w' → Holds S sz R C w' (.ops false c.ops c.rest c.k (putE c.env c.dst v))) : Holds S sz R C w (.act (.call f args) c) := by
 show ActT _ _ _ _ _ _ _
 unfold ActT
 rw [hq]
 show Does _ _ _ _
 unfold Does
 rw [call_run hf hne hb]
 exact Calls.mono h fun e w' ⟨v, he, q⟩ => ⟨v, he, hk v w' q⟩
theorem h_callq {f : FuncId} {args : List Value} {c : Cont} {Q : Value → World → Prop} {fn : Func} (hq : c.q = true) (hf : S.P.funcs[f]? = some fn) (hne : (fn.name == "runtime.NumGoroutine") = false) (hb : fn.body.isNone = false)
  (h : Ret S.P f args w Q) (hk : ∀ v w', Q v w' → (flagAt c.ops c.rest = true → C w') ∧ Holds S sz R C w' (.ops true c.ops c.rest c.k (putE c.env c.dst v))) : Holds S sz R C w (.act (.call f args) c) := by
 show ActT _ _ _ _ _ _ _
 unfold ActT
 rw [hq]
 show Does _ _ _ _
 unfold Does
 rw [call_run hf hne hb]
 exact Calls.mono h fun e w' ⟨v, he, q⟩ => ⟨v, he, hk v w' q⟩
theorem h_act {A : Action} {c : Cont} {v : Value} {w' : World} (hq : c.q = false) (h : A.sem.run S.P w = .ok (.value v) w') (hk : Holds S sz R C w' (.ops false c.ops c.rest c.k (putE c.env c.dst v))) :
  Holds S sz R C w (.act A c) := by
 show ActT _ _ _ _ _ _ _
 unfold ActT
 rw [hq]
 show Does _ _ _ _
 unfold Does
 rw [h]; exact hk
theorem h_actq {A : Action} {c : Cont} {v : Value} {w' : World} (hq : c.q = true) (hl : isLoadA A = false) (h : A.sem.run S.P w = .ok (.value v) w')
  (hk : (flagAt c.ops c.rest = true → C w') ∧ Holds S sz R C w' (.ops true c.ops c.rest c.k (putE c.env c.dst v))) : Holds S sz R C w (.act A c) := by
 show ActT _ _ _ _ _ _ _
 unfold ActT
 rw [hq, hl]
 show Does _ _ _ _
 unfold Does
 rw [h]; exact hk
theorem h_act_skip {A : Action} {c : Cont} {w' : World} (hq : c.q = false) (h : A.sem.run S.P w = .ok .skip w') (hk : Holds S sz R C w' (.ops false c.ops c.rest c.k (putE c.env c.dst undef))) :
  Holds S sz R C w (.act A c) := by
 show ActT _ _ _ _ _ _ _
 unfold ActT
 rw [hq]
 show Does _ _ _ _
 unfold Does
 rw [h]; exact hk
theorem h_act_skipq {A : Action} {c : Cont} {w' : World} (hq : c.q = true) (hl : isLoadA A = false) (h : A.sem.run S.P w = .ok .skip w')
  (hk : (flagAt c.ops c.rest = true → C w') ∧ Holds S sz R C w' (.ops true c.ops c.rest c.k (putE c.env c.dst undef))) : Holds S sz R C w (.act A c) := by
 show ActT _ _ _ _ _ _ _
 unfold ActT
 rw [hq, hl]
 show Does _ _ _ _
 unfold Does
 rw [h]; exact hk
theorem h_loadq {t : TypeId} {ad : Addr} {c : Cont} {v : Value} (hq : c.q = true) (h : ∀ w', C w' → (loadVar t ad).run S.P w' = .ok v w')
  (hk : Holds S sz R C w (.ops true c.ops c.rest c.k (putE c.env c.dst v))) : Holds S sz R C w (.act (.load t ad) c) := by
 show ActT _ _ _ _ _ _ _
 unfold ActT
 rw [hq]
 exact ⟨v, fun w' hw' => by simp [Action.sem, h w' hw'], hk⟩
theorem h_draw {id : Nat} {ops : Array Oper} {k : List Item} {env : Env} {e : Env} [hS : S.Ok] (C' : World → Prop) (hm : S.P.follows .mixedOrders = true) (hB : lexOk ops = true) (hC : C' { w with drawn := w.drawn + 1 })
  (he : pruneF env S.live = some e) (h : run S sz 400 (.ops true ops ops.toList k e) [] = (g', obl)) (hg : Holds S sz R C' { w with drawn := w.drawn + 1 } g') (ho : All obl := by ((repeat' apply And.intro) <;> first | exact trivial | omega | exact wi (by omega) | exact wu (by omega) | exact wb (by omega) | (refine Sl.nn (by assumption) ?_; omega) | (refine nn_of (by assumption) ?_; omega) | exact Option.some_ne_none _ | assumption | decide)) : Holds S sz R C w (.code (.code (.region id ops true) :: k) env) := by
 intro a ha
 have h1 := (run_sound (R := R) (C := C') (w := { w with drawn := w.drawn + 1 }) hS 400 _ [] g' obl h (fun _ => ⟨[], rfl⟩) ho hg).1
 refine todo_of_wp (wp_region_lex C' hm hB hC ?_)
 have h2 := h1.2 a (ha.prune he)
 rw [sfx_all] at h2
 have key : ∀ (l : List (Oper × Bool)) (a : Act) (w : World), wpLex S.P ops C' (fun a' w' => TodoA S.P S.f R k a' w') l a w → wpLex S.P ops C' (fun a' w' => Post S.P S.f R k .normal a' w') l a w := by
  intro l
  induction l with
  | nil => exact fun a w h => ⟨rfl, h⟩
  | cons x l ih =>
   obtain ⟨o, fl⟩ := x
   intro a w h
   rcases wpLex_head h with ⟨_, v, hv, h'⟩ | ⟨he, hw, h'⟩ | ⟨he, hw, h'⟩
   ·exact wpLex_yv hv (ih _ _ h')
   ·exact wpLex_eff he hw (DoesO.mono rfl h' fun v w' ⟨k1, k2⟩ => ⟨k1, ih _ _ k2⟩)
   ·exact wpLex_skip hw (ih _ _ h')
 exact key _ _ _ h2
theorem h_loop {X : Type} (keep : List Nat) (E : X → Env) (I : X → World → Prop) (μ : X → Nat) {c : Code} {k : List Item} {env : Env} (x0 : X) (he : pruneF env keep = some (E x0)) (h0 : I x0 w)
  (round : ∀ (x : X) (w : World), I x w → (∀ (x' : X) (env' : Env) (w' : World) (C : World → Prop), μ x' < μ x → pruneF env' keep = some (E x') → I x' w' → Holds S sz R C w' (.code (.inLoop c :: k) env')) →
   ∀ C, Holds S sz R C w (.code (.code c :: .inLoop c :: k) (E x))) : Holds S sz R C w (.code (.code (.loop c) :: k) env) := by
 have key : ∀ n (x : X) (w : World), μ x = n → I x w → ∀ C, Holds S sz R C w (.code (.code c :: .inLoop c :: k) (E x)) := by
  intro n
  induction n using Nat.strongRecOn with
  | _ n ih =>
   intro x w hn hI
   refine round x w hI fun x' env' w' C hlt he' hI' a ha => ?_
   exact todo_of_step (fun _ _ => step_inLoop) (ih (μ x') (hn ▸ hlt) x' w' rfl hI' C a (ha.prune he'))
 exact fun a ha => todo_of_step (fun _ _ => step_loop) (key _ x0 w rfl h0 C a (ha.prune he))
theorem h_loop2 {X Y : Type} (keep : List Nat) (E : X → Y → Env) (I : X → Y → World → Prop) (μ : X → Y → Nat) {c : Code} {k : List Item} {env : Env} (x0 : X) (y0 : Y) (he : pruneF env keep = some (E x0 y0)) (h0 : I x0 y0 w)
  (round : ∀ (x : X) (y : Y) (w : World), I x y w → (∀ (x' : X) (y' : Y) (env' : Env) (w' : World) (C : World → Prop), μ x' y' < μ x y → pruneF env' keep = some (E x' y') → I x' y' w' → Holds S sz R C w' (.code (.inLoop c :: k) env')) →
   ∀ C, Holds S sz R C w (.code (.code c :: .inLoop c :: k) (E x y))) : Holds S sz R C w (.code (.code (.loop c) :: k) env) :=
 h_loop (X := X × Y) keep (fun p => E p.1 p.2) (fun p => I p.1 p.2) (fun p => μ p.1 p.2) (x0, y0) he h0 (fun ⟨x, y⟩ w hI IH => round x y w hI (fun x' y' => IH (x', y')))
theorem h_loop3 {X Y Z : Type} (keep : List Nat) (E : X → Y → Z → Env) (I : X → Y → Z → World → Prop) (μ : X → Y → Z → Nat) {c : Code} {k : List Item} {env : Env} (x0 : X) (y0 : Y) (z0 : Z) (he : pruneF env keep = some (E x0 y0 z0)) (h0 : I x0 y0 z0 w)
  (round : ∀ (x : X) (y : Y) (z : Z) (w : World), I x y z w → (∀ (x' : X) (y' : Y) (z' : Z) (env' : Env) (w' : World) (C : World → Prop), μ x' y' z' < μ x y z → pruneF env' keep = some (E x' y' z') → I x' y' z' w' → Holds S sz R C w' (.code (.inLoop c :: k) env')) →
   ∀ C, Holds S sz R C w (.code (.code c :: .inLoop c :: k) (E x y z))) : Holds S sz R C w (.code (.code (.loop c) :: k) env) :=
 h_loop (X := X × Y × Z) keep (fun p => E p.1 p.2.1 p.2.2) (fun p => I p.1 p.2.1 p.2.2) (fun p => μ p.1 p.2.1 p.2.2) (x0, y0, z0) he h0 (fun ⟨x, y, z⟩ w hI IH => round x y z w hI (fun x' y' z' => IH (x', y', z')))
theorem h_loop4 {X Y Z U : Type} (keep : List Nat) (E : X → Y → Z → U → Env) (I : X → Y → Z → U → World → Prop) (μ : X → Y → Z → U → Nat) {c : Code} {k : List Item} {env : Env} (x0 : X) (y0 : Y) (z0 : Z) (u0 : U) (he : pruneF env keep = some (E x0 y0 z0 u0)) (h0 : I x0 y0 z0 u0 w)
  (round : ∀ (x : X) (y : Y) (z : Z) (u : U) (w : World), I x y z u w → (∀ (x' : X) (y' : Y) (z' : Z) (u' : U) (env' : Env) (w' : World) (C : World → Prop), μ x' y' z' u' < μ x y z u → pruneF env' keep = some (E x' y' z' u') → I x' y' z' u' w' → Holds S sz R C w' (.code (.inLoop c :: k) env')) →
   ∀ C, Holds S sz R C w (.code (.code c :: .inLoop c :: k) (E x y z u))) : Holds S sz R C w (.code (.code (.loop c) :: k) env) :=
 h_loop (X := X × Y × Z × U) keep (fun p => E p.1 p.2.1 p.2.2.1 p.2.2.2) (fun p => I p.1 p.2.1 p.2.2.1 p.2.2.2) (fun p => μ p.1 p.2.1 p.2.2.1 p.2.2.2) (x0, y0, z0, u0) he h0 (fun ⟨x, y, z, u⟩ w hI IH => round x y z u w hI (fun x' y' z' u' => IH (x', y', z', u')))
theorem h_loop5 {X Y Z U V : Type} (keep : List Nat) (E : X → Y → Z → U → V → Env) (I : X → Y → Z → U → V → World → Prop) (μ : X → Y → Z → U → V → Nat) {c : Code} {k : List Item} {env : Env} (x0 : X) (y0 : Y) (z0 : Z) (u0 : U) (v0 : V) (he : pruneF env keep = some (E x0 y0 z0 u0 v0)) (h0 : I x0 y0 z0 u0 v0 w)
  (round : ∀ (x : X) (y : Y) (z : Z) (u : U) (v : V) (w : World), I x y z u v w → (∀ (x' : X) (y' : Y) (z' : Z) (u' : U) (v' : V) (env' : Env) (w' : World) (C : World → Prop), μ x' y' z' u' v' < μ x y z u v → pruneF env' keep = some (E x' y' z' u' v') → I x' y' z' u' v' w' → Holds S sz R C w' (.code (.inLoop c :: k) env')) →
   ∀ C, Holds S sz R C w (.code (.code c :: .inLoop c :: k) (E x y z u v))) : Holds S sz R C w (.code (.code (.loop c) :: k) env) :=
 h_loop (X := X × Y × Z × U × V) keep (fun p => E p.1 p.2.1 p.2.2.1 p.2.2.2.1 p.2.2.2.2) (fun p => I p.1 p.2.1 p.2.2.1 p.2.2.2.1 p.2.2.2.2) (fun p => μ p.1 p.2.1 p.2.2.1 p.2.2.2.1 p.2.2.2.2) (x0, y0, z0, u0, v0) he h0 (fun ⟨x, y, z, u, v⟩ w hI IH => round x y z u v w hI (fun x' y' z' u' v' => IH (x', y', z', u', v')))
theorem h_loop6 {X Y Z U V T : Type} (keep : List Nat) (E : X → Y → Z → U → V → T → Env) (I : X → Y → Z → U → V → T → World → Prop) (μ : X → Y → Z → U → V → T → Nat) {c : Code} {k : List Item} {env : Env} (x0 : X) (y0 : Y) (z0 : Z) (u0 : U) (v0 : V) (t0 : T) (he : pruneF env keep = some (E x0 y0 z0 u0 v0 t0)) (h0 : I x0 y0 z0 u0 v0 t0 w)
  (round : ∀ (x : X) (y : Y) (z : Z) (u : U) (v : V) (t : T) (w : World), I x y z u v t w → (∀ (x' : X) (y' : Y) (z' : Z) (u' : U) (v' : V) (t' : T) (env' : Env) (w' : World) (C : World → Prop), μ x' y' z' u' v' t' < μ x y z u v t → pruneF env' keep = some (E x' y' z' u' v' t') → I x' y' z' u' v' t' w' → Holds S sz R C w' (.code (.inLoop c :: k) env')) →
   ∀ C, Holds S sz R C w (.code (.code c :: .inLoop c :: k) (E x y z u v t))) : Holds S sz R C w (.code (.code (.loop c) :: k) env) :=
 h_loop (X := X × Y × Z × U × V × T) keep (fun p => E p.1 p.2.1 p.2.2.1 p.2.2.2.1 p.2.2.2.2.1 p.2.2.2.2.2) (fun p => I p.1 p.2.1 p.2.2.1 p.2.2.2.1 p.2.2.2.2.1 p.2.2.2.2.2) (fun p => μ p.1 p.2.1 p.2.2.1 p.2.2.2.1 p.2.2.2.2.1 p.2.2.2.2.2) (x0, y0, z0, u0, v0, t0) he h0 (fun ⟨x, y, z, u, v, t⟩ w hI IH => round x y z u v t w hI (fun x' y' z' u' v' t' => IH (x', y', z', u', v', t')))
end
class EncOk {α : Type} (enc : α → List Value) (sz : outParam Nat) : Prop where
 len : ∀ x, (enc x).length = sz
 one : ∀ x, ∀ u ∈ enc x, u.oneCell' = true
instance eI_ok : EncOk eI 1 := ⟨fun _ => rfl, fun x u hu => by simp [eI] at hu; subst hu; rfl⟩
instance eU8_ok : EncOk eU8 1 := ⟨fun _ => rfl, fun x u hu => by simp [eU8] at hu; subst hu; rfl⟩
instance eB_ok : EncOk eB 1 := ⟨fun _ => rfl, fun x u hu => by simp [eB] at hu; subst hu; rfl⟩
instance eII_ok : EncOk eII 2 := ⟨fun _ => rfl, fun x u hu => by simp [eII] at hu; rcases hu with rfl | rfl <;> rfl⟩
theorem flat_len {α : Type} {enc : α → List Value} {sz : Nat} (hz : ∀ x, (enc x).length = sz) (L : List α) : (L.flatMap enc).length = L.length * sz := by
 induction L with
 | nil => simp
 | cons x L ih => simp [List.flatMap_cons, ih, hz, Nat.succ_mul]; omega
section
variable {P : Program} {tt : TT} {α : Type} {enc : α → List Value} {w : World} {B : Nat} {e t : TypeId} {a : Option Addr} {c : Nat} {L M : List α}
theorem Sl.flat [Inhabited α] {sz : Nat} {ad : Addr} (he : EncOk enc sz) (h : Sl w (some ad) M.length sz (fL enc M)) : ∀ j u, (M.flatMap enc)[j]? = some u → w.cell? (ad.add j) = some u := by
 intro k u hu
 have hk : k < (M.flatMap enc).length := by
  rcases Nat.lt_or_ge k (M.flatMap enc).length with h | h
  ·exact h
  ·rw [List.getElem?_eq_none h] at hu; cases hu
 rw [flat_len he.len] at hk
 have hsz : 0 < sz := by
  rcases Nat.eq_zero_or_pos sz with h0 | h0
  ·subst h0; simp at hk
  ·exact h0
 have hi : k / sz < M.length := by rw [Nat.div_lt_iff_lt_mul hsz]; exact hk
 have hj : k % sz < sz := Nat.mod_lt _ hsz
 have h1 := h.2 (k / sz) (k % sz) hi hj
 have hx : M[k / sz]? = some (M[k / sz]'hi) := List.getElem?_eq_getElem hi
 have h2 := flat_get (enc := enc) he.len hx hj
 have hkk : k / sz * sz + k % sz = k := by rw [Nat.mul_comm]; exact Nat.div_add_mod k sz
 rw [hkk] at h2
 have hlt : k % sz < (enc (M[k / sz]'hi)).length := by rw [he.len]; exact hj
 rw [List.getElem?_eq_getElem hlt] at h2
 have ha : (elemAddr (some ad) sz ((k / sz : Nat) : Int)).add (k % sz) = ad.add k := by
  simp only [elemAddr, Option.getD_some, Int.toNat_natCast]
  rw [add_of_add, hkk]
 rw [ha] at h1
 rw [h1]
 rw [h2] at hu
 injection hu with hu
 subst hu
 simp only [fL, nthL_eq, List.getD_eq_getElem?_getD, hx, Option.getD_some, List.getElem?_eq_getElem hlt]
theorem append_run [Inhabited α] (hok : TTok P tt) {i j : TI} (hi : tl tt t = some i) (hd : i.desc = .slice e) (hj : tl tt e = some j) (hz : (cellsV j.zero).length = j.size) (hsz : 0 < j.size) (he : EncOk enc j.size)
  (hown : Own w B e j.size enc a c L) {sa : Option Addr} {sc : Nat} (hs : Sl w sa M.length j.size (fL enc M)) (hm : L.length + M.length ≤ maxLen) (hb : (L.length + M.length) * j.bytes ≤ 140737488355328) (hB : B ≤ w.heap.size) (ty : TypeId) :
  ∃ a' c' w', (Builtin.append_ #[t, t] ty #[.slice a L.length c, .slice sa M.length sc]).run P w = .ok (.slice a' (L ++ M).length c') w' ∧ Own w' B e j.size enc a' c' (L ++ M) ∧ w.grownBy w' (blk a) ∧
   (a' = none ↔ a = none ∧ M = []) := by
 obtain ⟨info, td, h1, h2, h3, h4, h5, htd, h6⟩ := hok.get hi
 obtain ⟨info', td', g1, g2, g3, g4, g5, gtd, g6⟩ := hok.get hj
 rw [toD_slice (htd.trans hd)] at h5
 cases sa with
 | none =>
  have hM : M = [] := by
   rcases Nat.eq_zero_or_pos M.length with h | h
   ·exact List.length_eq_zero_iff.1 h
   ·exact absurd rfl (hs.1 h)
  subst hM
  refine ⟨a, c, w, ?_, by simpa using hown, ⟨rfl, rfl, rfl, Nat.le_refl _, fun _ _ _ => rfl⟩, by simp⟩
  have hcap := hown.cap
  cases a with
  | none => simp [Builtin.append_, run_underlying h5, sizeOf, typeInfo, g1, Builtin.lenOf, Builtin.firstCells, hcap]
  | some a => simp [Builtin.append_, run_underlying h5, sizeOf, typeInfo, g1, Builtin.lenOf, Builtin.firstCells, hcap, storeCells]
 | some ad =>
  have hzc : j.zero.cells.size = j.size := by rw [cellsV_eq] at hz; simpa using hz
  obtain ⟨v', w', hr, ho, hg, hn⟩ := run_append_own (P := P) w B t ty e info' j.zero j.size j.bytes h5 g1 g4 g2 g3 hzc hsz (.slice a L.length c) L.length (L.flatMap enc) hown ad M.length sc (M.flatMap enc)
   (flat_len he.len M) (hs.flat he) (fun u hu => by
    obtain ⟨x, _, hx⟩ := List.mem_flatMap.1 hu
    exact he.one x u hx) hm hb hB
  have hform : ∃ a' c', v' = .slice a' (L.length + M.length) c' := by
   rcases ho.2 with ⟨q1, q2⟩ | ⟨g, cap, cur, hv, _⟩
   ·exact ⟨none, 0, by rw [q1, q2]⟩
   ·exact ⟨_, _, hv⟩
  obtain ⟨a', c', rfl⟩ := hform
  refine ⟨a', c', w', by rw [List.length_append]; exact hr, ?_, by rw [ownBlock_slice] at hg; exact hg, ?_⟩
  ·unfold Own
   rw [List.length_append, List.flatMap_append]
   exact ho
  ·constructor
   ·intro ha
    subst ha
    have hl : L.length + M.length = 0 ∧ c' = 0 := by
     rcases ho.2 with ⟨q1, q2⟩ | ⟨g, cap, cur, hv, _⟩
     ·injection q1 with _ _ q3; exact ⟨q2, q3⟩
     ·injection hv with hv; cases hv
    rw [hl.1, hl.2] at hn
    obtain ⟨k1, k2⟩ := hn.1 rfl
    injection k1 with k1
    exact ⟨k1, List.length_eq_zero_iff.1 k2⟩
   ·rintro ⟨rfl, rfl⟩
    have hl := hown.form
    rcases hl with ⟨_, rfl, rfl⟩ | ⟨g, hg, _⟩
    ·have := hn.2 ⟨rfl, rfl⟩
     simp at this
     exact this.1
    ·cases hg
theorem made_flat (z : List Value) (n : Nat) (hz : 0 < z.length) : (madeCells z.toArray (n * z.length)).toList = (List.replicate n z).flatten := by
 apply List.ext_getElem?
 intro k
 simp only [madeCells, Array.toList_map, Array.toList_range, List.getElem?_map]
 by_cases hk : k < n * z.length
 ·rw [List.getElem?_range hk]
  have hi : k / z.length < n := by rw [Nat.div_lt_iff_lt_mul hz]; exact hk
  have hj : k % z.length < z.length := Nat.mod_lt _ hz
  have hkk : k / z.length * z.length + k % z.length = k := by rw [Nat.mul_comm]; exact Nat.div_add_mod k _
  have hx : (List.replicate n z)[k / z.length]? = some z := by simp [hi]
  have h2 := flat_get (α := List Value) (enc := fun x => x) (L := List.replicate n z) (sz := z.length) 
  have key : ∀ (m i j : Nat), i < m → j < z.length → ((List.replicate m z).flatten)[i * z.length + j]? = z[j]? := by
   intro m
   induction m with
   | zero => intro i j hi; omega
   | succ m ih =>
    intro i j hi hj
    rw [List.replicate_succ, List.flatten_cons]
    cases i with
    | zero => rw [Nat.zero_mul, Nat.zero_add, List.getElem?_append_left hj]
    | succ i =>
     rw [List.getElem?_append_right (by rw [Nat.succ_mul]; omega), show (i + 1) * z.length + j - z.length = i * z.length + j by rw [Nat.succ_mul]; omega]
     exact ih i j (by omega) hj
  have := key n _ _ hi hj
  rw [hkk] at this
  rw [this]
  simp [hj]
 ·rw [List.getElem?_eq_none (by simpa using hk), List.getElem?_eq_none (by
   have : (List.replicate n z).flatten.length = n * z.length := by simp
   rw [this]; omega)]
  rfl
theorem make_run (hok : TTok P tt) {i j : TI} (hi : tl tt t = some i) (hd : i.desc = .slice e) (hj : tl tt e = some j) (hz : (cellsV j.zero).length = j.size) (hsz : 0 < j.size) (d : α) (hzd : enc d = cellsV j.zero)
  (n : Nat) (hm : n ≤ maxLen) (hb : j.bytes * n ≤ 281474976710656) :
  ∃ w', (Instr.makeSlice t (.int .i64 (n : Int)) (.int .i64 (n : Int))).run P w = .ok (.slice (some ⟨w.heap.size, 0, none⟩) n n) w' ∧ Own w' w.heap.size e j.size enc (some ⟨w.heap.size, 0, none⟩) n (List.replicate n d) ∧ Ext w w' := by
 obtain ⟨info, td, h1, h2, h3, h4, h5, htd, h6⟩ := hok.get hi
 obtain ⟨info', td', g1, g2, g3, g4, g5, gtd, g6⟩ := hok.get hj
 rw [toD_slice (htd.trans hd)] at h5
 obtain ⟨w', hr, ho, hg⟩ := run_make_full (P := P) w w.heap.size t e info' j.zero j.size h5 g1 g4 g2 .i64 .i64 n (by rw [g3]; exact hb) hm (Nat.le_refl _)
 refine ⟨w', hr, ?_, ⟨hg.os, hg.tape, hg.output, hg.size, fun k hk => hg.block k hk (by simp)⟩⟩
 unfold Own
 rw [List.length_replicate]
 have : (List.replicate n d).flatMap enc = (madeCells j.zero.cells (n * j.size)).toList := by
  have hc : j.zero.cells = (cellsV j.zero).toArray := by rw [cellsV_eq]
  rw [hc, ← hz, made_flat _ _ (by omega), ← hzd]
  simp [List.flatMap]
 rw [this]
 exact ho
def litPl (sz : Nat) : Nat → Nat → List (Nat × Nat)
 | 0, _ => []
 | n + 1, o => (o, sz) :: litPl sz n (o + sz)
def repF (z : List Value) : Nat → List Value
 | 0 => []
 | n + 1 => z ++ repF z n
def litCells (tt : TT) (e : TypeId) (n : Nat) (parts : List (Nat × Value)) : Option (List Value) :=
 match tl tt e with
 | some j => fillF (litPl j.size n 0) (repF (cellsV j.zero) n) parts
 | none => none
theorem litPl_get (sz : Nat) : ∀ (n o i : Nat) (x : Nat × Nat), (litPl sz n o)[i]? = some x → x = (o + i * sz, sz)
 | 0, o, i, x, h => by simp [litPl] at h
 | n + 1, o, 0, x, h => by simp [litPl] at h; simp [← h]
 | n + 1, o, i + 1, x, h => by
  have := litPl_get sz n (o + sz) i x (by simpa [litPl] using h)
  rw [this, Nat.succ_mul]
  simp; omega
theorem repF_eq (z : List Value) (n : Nat) : repF z n = (List.replicate n z).flatten := by
 induction n with
 | zero => rfl
 | succ n ih => simp [repF, ih, List.replicate_succ]
theorem lit_run (hok : TTok P tt) {i j : TI} (hi : tl tt t = some i) (hd : i.desc = .slice e) (hj : tl tt e = some j) (hz : (cellsV j.zero).length = j.size) (hsz : 0 < j.size)
  {n : Nat} {parts : List (Nat × Value)} {cs : List Value} (hc : litCells tt e n parts = some cs) (hn : n * j.size ≤ 16777216) :
  (Instr.buildSlice t n ⟨parts⟩).run P w = .ok (.slice (some ⟨w.heap.size, 0, none⟩) n n) (w.alloc (.cells ⟨cs⟩ e)) := by
 obtain ⟨info, td, h1, h2, h3, h4, h5, htd, h6⟩ := hok.get hi
 obtain ⟨info', td', g1, g2, g3, g4, g5, gtd, g6⟩ := hok.get hj
 rw [toD_slice (htd.trans hd)] at h5
 unfold litCells at hc
 rw [hj] at hc
 have hf := fillF_eq (place := fun i => some (i * j.size, j.size)) (fun i x hx => by rw [litPl_get _ _ _ _ _ hx]; simp) hc
 have hnb : ¬ n * j.size > 2 ^ 24 := by omega
 have hzc : j.zero.cells = (cellsV j.zero).toArray := by rw [cellsV_eq]
 have hzr : (zeroValue e).run P w = .ok j.zero w := by simp [zeroValue, typeInfo, g1, g4]
 have hbase : ∀ z : Array Value, (n * j.size = 0 ∨ z = j.zero.cells) → (Array.range (n * j.size)).map (z[· % z.size]!) = (repF (cellsV j.zero) n).toArray := by
  intro z hzz
  rcases hzz with h0 | rfl
  ·have : n = 0 := by
    rcases Nat.eq_zero_or_pos n with h | h
    ·exact h
    ·have := Nat.mul_pos h hsz; omega
   subst this
   simp [repF, Array.range_zero']
  ·apply Array.toList_inj.1
   rw [repF_eq, hzc]
   rw [← hz]
   exact made_flat _ _ (by omega)
 rcases Nat.eq_zero_or_pos n with h0 | h0
 ·subst h0
  have hb0 := hbase #[] (.inl (by simp))
  rw [Nat.zero_mul] at hb0
  simp only [Instr.buildSlice, Sem.run_bind, run_underlying h5, Result.andThen_ok, sizeOf_run hok hj, Nat.zero_mul, if_true, Nat.not_lt_zero, gt_iff_lt, if_false, Sem.run_pure]
  rw [hb0, hf]
  simp [newRow]
 ·have hne : ¬ n * j.size = 0 := by have := Nat.mul_pos h0 hsz; omega
  simp only [Instr.buildSlice, Sem.run_bind, run_underlying h5, Result.andThen_ok, sizeOf_run hok hj, hnb, if_false, Sem.run_pure, hne, hzr]
  rw [hbase _ (.inr rfl), hf]
  simp [newRow]
theorem Own.lit {sz : Nat} (w : World) (e : TypeId) (cs : List Value) (M : List α) (he : EncOk enc sz) (hcs : M.flatMap enc = cs) (hm : M.length ≤ maxLen) :
  Own (w.alloc (.cells ⟨cs⟩ e)) w.heap.size e sz enc (some ⟨w.heap.size, 0, none⟩) M.length M := by
 unfold Own
 rw [hcs]
 have := World.ownsRow_lit (base := w.heap.size) (e := e) (size := sz) w ⟨cs⟩ M.length (Nat.le_refl _) hm (by rw [← hcs]; exact flat_len he.len M)
 exact this
theorem store1_run (hok : TTok P tt) {i : TI} (hi : tl tt t = some i) (hs : i.size = 1) {ad : Addr} {v u : Value} (hv : v.oneCell' = true) (hc : w.cell? ad = some u) (hf : w.frozen? ad = false) :
  (Action.store t ad v).sem.run P w = .ok .skip (w.setCell ad v) := by
 have hcells : v.cells = #[v] := by cases v <;> first | rfl | (simp [Value.oneCell'] at hv)
 simp [Action.sem, storeVar, hcells, sizeOf_run hok hi, hs, storeCells, run_store P w ad v .plain hv, hc, hf, Addr.add]
theorem flat_set {sz : Nat} (he : ∀ x : α, (enc x).length = sz) : ∀ {L : List α} {i j : Nat} {x y : α} {v : Value}, L[i]? = some x → j < sz → enc y = (enc x).set j v → (L.set i y).flatMap enc = (L.flatMap enc).set (i * sz + j) v
 | [], i, j, x, y, v, h, _, _ => by simp at h
 | z :: L, 0, j, x, y, v, h, hj, hy => by
  simp at h; subst h
  simp only [List.set_cons_zero, List.flatMap_cons, Nat.zero_mul, Nat.zero_add]
  rw [hy, List.set_append_left _ _ (by rw [he]; exact hj)]
 | z :: L, i + 1, j, x, y, v, h, hj, hy => by
  simp only [List.set_cons_succ, List.flatMap_cons]
  rw [List.set_append_right _ _ (by rw [he, Nat.succ_mul]; omega), he, show (i + 1) * sz + j - sz = i * sz + j by rw [Nat.succ_mul]; omega]
  rw [flat_set he (by simpa using h) hj hy]
theorem Own.store {sz : Nat} (h : Own w B e sz enc a c L) (he : EncOk enc sz) {z : Int} {j : Nat} {x y : α} {v : Value} (hx : L[z.toNat]? = some x) (hj : j < sz) (hy : enc y = (enc x).set j v) :
  (∃ u, w.cell? (addA (elemAddr a sz z) j) = some u) ∧ w.frozen? (addA (elemAddr a sz z) j) = false ∧ Own (w.setCell (addA (elemAddr a sz z) j) v) B e sz enc a c (L.set z.toNat y) ∧
   w.grownBy (w.setCell (addA (elemAddr a sz z) j) v) (blk a) := by
 have hlt : z.toNat < L.length := (List.getElem?_eq_some_iff.1 hx).1
 rcases h.form with ⟨_, rfl, _⟩ | ⟨g, rfl, hn, hb⟩
 ·simp at hlt
 ·have hk : z.toNat * sz + j < L.length * sz := by
   have : (z.toNat + 1) * sz ≤ L.length * sz := Nat.mul_le_mul_right _ hlt
   rw [Nat.succ_mul] at this
   omega
  have hka : addA (elemAddr (some ⟨g, 0, none⟩) sz z) j = ⟨g, z.toNat * sz + j, none⟩ := by
   rw [addA_eq]
   simp only [elemAddr, Option.getD_some, add_of_add]
   rw [← addA_eq]
   simp [addA]
  have hlen := flat_len he.len L
  rw [hka]
  refine ⟨⟨_, by rw [World.ownsRow.cellAt h _ hk]; exact List.getElem?_eq_getElem (by rw [hlen]; exact hk)⟩, World.ownsRow.frozenAt h _, ?_, (World.ownsRow.stored h _ v).2⟩
  unfold Own
  rw [List.length_set, flat_set he.len hx hj hy]
  exact (World.ownsRow.stored h _ v).1
theorem Own.store0 {sz : Nat} (h : Own w B e sz enc a c L) (he : EncOk enc sz) {z : Int} {x y : α} {v : Value} (hx : L[z.toNat]? = some x) (hj : 0 < sz) (hy : enc y = (enc x).set 0 v) :
  (∃ u, w.cell? (elemAddr a sz z) = some u) ∧ w.frozen? (elemAddr a sz z) = false ∧ Own (w.setCell (elemAddr a sz z) v) B e sz enc a c (L.set z.toNat y) ∧ w.grownBy (w.setCell (elemAddr a sz z) v) (blk a) := by
 have hq : addA (elemAddr a sz z) 0 = elemAddr a sz z := by rw [addA_eq]; simp [Addr.add]
 have := h.store he hx hj hy
 rwa [hq] at this
end
section
variable {P : Program} {tt : TT} {w : World} {t : TypeId}
theorem Blk.store {b o : Nat} {tb : TypeId} {cs : List Value} (h : Blk w b tb cs) (ho : o < cs.length) (v : Value) : (∃ u, w.cell? ⟨b, o, none⟩ = some u) ∧ w.frozen? ⟨b, o, none⟩ = false ∧
  Blk (w.setCell ⟨b, o, none⟩ v) b tb (cs.set o v) ∧ w.grownBy (w.setCell ⟨b, o, none⟩ v) (some b) := by
 refine ⟨⟨cs[o], by rw [h.cell, List.getElem?_eq_getElem ho]⟩, h.frozen _, h.set_ o v, ⟨rfl, rfl, rfl, by simp [World.setCell], fun k _ hk => heap_setCell_other w ⟨b, o, none⟩ k v (fun e => hk (by simp [e]))⟩⟩
def setAt : List Value → Nat → List Value → List Value
 | xs, _, [] => xs
 | xs, k, v :: r => setAt (xs.set k v) (k + 1) r
theorem setAt_cons (x : Value) : ∀ (vs xs : List Value) (k : Nat), setAt (x :: xs) (k + 1) vs = x :: setAt xs k vs
 | [], _, _ => rfl
 | v :: r, xs, k => by rw [setAt, List.set_cons_succ, setAt_cons x r]; rfl
theorem setAt_right : ∀ (A B vs : List Value) (k : Nat), setAt (A ++ B) (A.length + k) vs = A ++ setAt B k vs
 | [], B, vs, k => by simp
 | a :: A, B, vs, k => by
  rw [List.cons_append, List.length_cons, show A.length + 1 + k = A.length + k + 1 by omega, setAt_cons, setAt_right A]; rfl
theorem setAt_all : ∀ (vs A B : List Value), A.length = vs.length → setAt (A ++ B) 0 vs = vs ++ B
 | [], A, B, h => by rw [List.length_eq_zero_iff.1 h]; rfl
 | v :: r, [], B, h => by simp at h
 | v :: r, a :: A, B, h => by
  show setAt ((a :: (A ++ B)).set 0 v) 1 r = _
  rw [List.set_cons_zero, setAt_cons, setAt_all r A B (by simpa using h)]; rfl
theorem flat_setAt {α : Type} {enc : α → List Value} {sz : Nat} (he : ∀ x, (enc x).length = sz) (y : α) : ∀ {L : List α} {i : Nat}, i < L.length → (L.set i y).flatMap enc = setAt (L.flatMap enc) (i * sz) (enc y)
 | [], i, h => by simp at h
 | z :: L, 0, h => by
  simp only [List.set_cons_zero, List.flatMap_cons, Nat.zero_mul]
  rw [setAt_all _ _ _ (by rw [he, he])]
 | z :: L, i + 1, h => by
  simp only [List.set_cons_succ, List.flatMap_cons]
  rw [flat_setAt he y (by simpa using h), Nat.succ_mul, show i * sz + sz = (enc z).length + i * sz by rw [he]; omega, setAt_right]
theorem storeCells_own {w : World} {B : Nat} {e : TypeId} {sz g n c : Nat} : ∀ (vs xs : List Value) (o i : Nat) (w : World), w.ownsRow B e sz (.slice (some ⟨g, 0, none⟩) n c) n xs → o + i + vs.length ≤ n * sz → (∀ v ∈ vs, v.oneCell' = true) →
  ∃ w', (storeCells ⟨g, o, none⟩ vs i).run P w = .ok () w' ∧ w'.ownsRow B e sz (.slice (some ⟨g, 0, none⟩) n c) n (setAt xs (o + i) vs) ∧ w.grownBy w' (some g)
 | [], xs, o, i, w, h, _, _ => ⟨w, rfl, h, rfl, rfl, rfl, Nat.le_refl _, fun _ _ _ => rfl⟩
 | v :: r, xs, o, i, w, h, hl, h1 => by
  have hk : o + i < n * sz := by simp at hl; omega
  have hadd : (⟨g, o, none⟩ : Addr).add i = ⟨g, o + i, none⟩ := by rw [← addA_eq]; rfl
  have hlen : xs.length = n * sz := h.1
  have hcell : w.cell? ⟨g, o + i, none⟩ = some (xs[o + i]'(by rw [hlen]; exact hk)) := by rw [World.ownsRow.cellAt h _ hk]; exact List.getElem?_eq_getElem _
  have hfr := World.ownsRow.frozenAt h (o + i)
  have hst : (store ((⟨g, o, none⟩ : Addr).add i) v).run P w = .ok () (w.setCell ⟨g, o + i, none⟩ v) := by
   rw [hadd, run_store P w _ v _ (h1 v (by simp)), hcell]
   simp [hfr]
  obtain ⟨s1, s2⟩ := World.ownsRow.stored h (o + i) v
  obtain ⟨w', r1, r2, r3⟩ := storeCells_own (w := w) r (xs.set (o + i) v) o (i + 1) _ s1 (by simp at hl ⊢; omega) (fun x hx => h1 x (by simp [hx]))
  refine ⟨w', by simp only [storeCells, Sem.run_bind, hst, Result.andThen_ok, r1], ?_, ?_⟩
  ·rw [setAt]; exact r2
  ·exact ⟨r3.os.trans s2.os, r3.tape.trans s2.tape, r3.output.trans s2.output, Nat.le_trans s2.size r3.size, fun k hk hne => (r3.block k (Nat.lt_of_lt_of_le hk s2.size) hne).trans (s2.block k hk hne)⟩
theorem Own.storeN {α : Type} {enc : α → List Value} {w : World} {B : Nat} {e : TypeId} {a : Option Addr} {c : Nat} {L : List α} (hok : TTok P tt) {i : TI} (hi : tl tt t = some i) {sz : Nat} (hs : i.size = sz) (h : Own w B e sz enc a c L) (he : EncOk enc sz) {z : Int} (h0 : 0 ≤ z) (h1 : z < L.length) (y : α) :
  ∃ w', (Action.store t (elemAddr a sz z) (.agg ⟨enc y⟩)).sem.run P w = .ok .skip w' ∧ Own w' B e sz enc a c (L.set z.toNat y) ∧ w.grownBy w' (blk a) := by
 have hlt : z.toNat < L.length := by omega
 rcases h.form with ⟨_, rfl, _⟩ | ⟨g, rfl, hn, hb⟩
 ·simp at hlt
 ·have hk : z.toNat * sz + sz ≤ L.length * sz := by
   have : (z.toNat + 1) * sz ≤ L.length * sz := Nat.mul_le_mul_right _ hlt
   rwa [Nat.succ_mul] at this
  have hka : elemAddr (some ⟨g, 0, none⟩) sz z = ⟨g, z.toNat * sz, none⟩ := by
   simp only [elemAddr, Option.getD_some]
   rw [← addA_eq]
   simp [addA]
  obtain ⟨w', r1, r2, r3⟩ := storeCells_own (P := P) (w := w) (enc y) (L.flatMap enc) (z.toNat * sz) 0 w h (by rw [he.len]; exact hk) (he.one y)
  refine ⟨w', ?_, ?_, r3⟩
  ·have hc : (Value.agg ⟨enc y⟩).cells = ⟨enc y⟩ := rfl
   rw [hka]
   simp [Action.sem, storeVar, hc, sizeOf_run hok hi, hs, he.len, r1]
  ·unfold Own
   rw [List.length_set, flat_setAt he.len y hlt]
   simpa using r2
theorem storeCells_blk {b : Nat} {tb : TypeId} : ∀ (vs cs : List Value) (o i : Nat) (w : World), Blk w b tb cs → o + i + vs.length ≤ cs.length → (∀ v ∈ vs, v.oneCell' = true) →
  ∃ w', (storeCells ⟨b, o, none⟩ vs i).run P w = .ok () w' ∧ Blk w' b tb (setAt cs (o + i) vs) ∧ w.grownBy w' (some b)
 | [], cs, o, i, w, h, _, _ => ⟨w, rfl, h, rfl, rfl, rfl, Nat.le_refl _, fun _ _ _ => rfl⟩
 | v :: r, cs, o, i, w, h, hl, h1 => by
  have hk : o + i < cs.length := by simp at hl; omega
  have hadd : (⟨b, o, none⟩ : Addr).add i = ⟨b, o + i, none⟩ := by rw [← addA_eq]; rfl
  obtain ⟨⟨u, hu⟩, hfr, s1, s2⟩ := h.store hk v
  have hst : (store ((⟨b, o, none⟩ : Addr).add i) v).run P w = .ok () (w.setCell ⟨b, o + i, none⟩ v) := by
   rw [hadd, run_store P w _ v _ (h1 v (by simp)), hu]
   simp [hfr]
  obtain ⟨w', r1, r2, r3⟩ := storeCells_blk r (cs.set (o + i) v) o (i + 1) _ s1 (by simp at hl ⊢; omega) (fun x hx => h1 x (by simp [hx]))
  refine ⟨w', by simp only [storeCells, Sem.run_bind, hst, Result.andThen_ok, r1], ?_, ?_⟩
  ·rw [setAt]; exact r2
  ·exact ⟨r3.os.trans s2.os, r3.tape.trans s2.tape, r3.output.trans s2.output, Nat.le_trans s2.size r3.size, fun k hk hne => (r3.block k (Nat.lt_of_lt_of_le hk s2.size) hne).trans (s2.block k hk hne)⟩
theorem Blk.storeN {w : World} (hok : TTok P tt) {i : TI} (hi : tl tt t = some i) {b : Nat} {tb : TypeId} {cs vs : List Value} (h : Blk w b tb cs) (hs : i.size = vs.length) (hl : cs.length = vs.length) (h1 : ∀ v ∈ vs, v.oneCell' = true) :
  ∃ w', (Action.store t ⟨b, 0, none⟩ (.agg ⟨vs⟩)).sem.run P w = .ok .skip w' ∧ Blk w' b tb vs ∧ w.grownBy w' (some b) := by
 obtain ⟨w', r1, r2, r3⟩ := storeCells_blk (P := P) vs cs 0 0 w h (by omega) h1
 refine ⟨w', ?_, ?_, r3⟩
 ·have hc : (Value.agg ⟨vs⟩).cells = ⟨vs⟩ := rfl
  simp [Action.sem, storeVar, hc, sizeOf_run hok hi, hs, r1]
 ·have e := setAt_all vs cs [] hl
  simp only [List.append_nil] at e
  rw [Nat.add_zero, e] at r2
  exact r2
theorem Blk.st1 {w : World} (hok : TTok P tt) {i : TI} (hi : tl tt t = some i) (hs : i.size = 1) {b o : Nat} {tb : TypeId} {cs : List Value} (h : Blk w b tb cs) (ho : o < cs.length) {v : Value} (hv : v.oneCell' = true) :
  ∃ w', (Action.store t ⟨b, o, none⟩ v).sem.run P w = .ok .skip w' ∧ Blk w' b tb (cs.set o v) ∧ w.grownBy w' (some b) := by
 obtain ⟨⟨u, hu⟩, hf, h1, h2⟩ := h.store ho v
 exact ⟨_, store1_run hok hi hs hv hu hf, h1, h2⟩
theorem Own.st1 {α : Type} {enc : α → List Value} {w : World} {B : Nat} {e : TypeId} {a : Option Addr} {c : Nat} {L : List α} (hok : TTok P tt) {i : TI} (hi : tl tt t = some i) (hs : i.size = 1) {sz : Nat} (h : Own w B e sz enc a c L) (he : EncOk enc sz) {z : Int} {j : Nat} {x y : α} {v : Value} (hx : L[z.toNat]? = some x) (hj : j < sz) (hy : enc y = (enc x).set j v) (hv : v.oneCell' = true) :
  ∃ w', (Action.store t (addA (elemAddr a sz z) j) v).sem.run P w = .ok .skip w' ∧ Own w' B e sz enc a c (L.set z.toNat y) ∧ w.grownBy w' (blk a) := by
 obtain ⟨⟨u, hu⟩, hf, h1, h2⟩ := h.store he hx hj hy
 exact ⟨_, store1_run hok hi hs hv hu hf, h1, h2⟩
theorem Own.st0 {α : Type} {enc : α → List Value} {w : World} {B : Nat} {e : TypeId} {a : Option Addr} {c : Nat} {L : List α} (hok : TTok P tt) {i : TI} (hi : tl tt t = some i) (hs : i.size = 1) {sz : Nat} (h : Own w B e sz enc a c L) (he : EncOk enc sz) {z : Int} {x y : α} {v : Value} (hx : L[z.toNat]? = some x) (hj : 0 < sz) (hy : enc y = (enc x).set 0 v) (hv : v.oneCell' = true) :
  ∃ w', (Action.store t (elemAddr a sz z) v).sem.run P w = .ok .skip w' ∧ Own w' B e sz enc a c (L.set z.toNat y) ∧ w.grownBy w' (blk a) := by
 obtain ⟨⟨u, hu⟩, hf, h1, h2⟩ := h.store0 he hx hj hy
 exact ⟨_, store1_run hok hi hs hv hu hf, h1, h2⟩
theorem box_run (v : Value) : (Action.box t v).sem.run P w = .ok (.value (.pointer (some ⟨w.heap.size, 0, none⟩))) (w.alloc (.cells ⟨cellsV v⟩ t)) := by
 simp [Action.sem, Instr.box, newVar, newRow, cellsV_eq]
theorem alloc_run (hok : TTok P tt) {i : TI} (hi : tl tt t = some i) : (Action.alloc t).sem.run P w = .ok (.value (.pointer (some ⟨w.heap.size, 0, none⟩))) (w.alloc (.cells ⟨cellsV i.zero⟩ t)) := by
 obtain ⟨info, td, h1, h2, h3, h4, h5, htd, h6⟩ := hok.get hi
 simp [Action.sem, Instr.alloc, zeroValue, typeInfo, h1, h4, newVar, newRow, cellsV_eq]
end
section
variable {S : Setting} {sz : Nat} {R : Value → World → Prop} {C : World → Prop} {w : World} {g' : G} {obl : List Prop}
variable {ops : Array Oper} {rest : List Oper} {k : List Item} {env : Env}
theorem nopre {ops : Array Oper} {l : List Oper} : false = true → ∃ pre, ops.toList = pre ++ l := fun h => by cases h
theorem h_load {t : TypeId} {ad : Addr} {d : Nat} {v : Value} [hS : S.Ok] (hl : (loadVar t ad).run S.P w = .ok v w)
  (h : run S sz 400 (.ops false ops rest k ((d, v) :: env)) [] = (g', obl)) (hg : Holds S sz R C w g') (ho : All obl := by ((repeat' apply And.intro) <;> first | exact trivial | omega | exact wi (by omega) | exact wu (by omega) | exact wb (by omega) | (refine Sl.nn (by assumption) ?_; omega) | (refine nn_of (by assumption) ?_; omega) | exact Option.some_ne_none _ | assumption | decide)) : Holds S sz R C w (.act (.load t ad) ⟨false, ops, rest, some d, k, env⟩) :=
 h_act rfl (by simp [Action.sem, hl]) (ops_run nopre h hg ho)
theorem h_box {t : TypeId} {v : Value} {d : Nat} (hk : ∀ w' b, b = w.heap.size → Ext w w' → Blk w' b t (cellsV v) → Holds S sz R C w' (.ops false ops rest k ((d, .pointer (some ⟨b, 0, none⟩)) :: env))) :
  Holds S sz R C w (.act (.box t v) ⟨false, ops, rest, some d, k, env⟩) :=
 h_act rfl (box_run v) (hk _ _ rfl (Ext.alloc _ _) (Blk.new _ _ _))
theorem h_alloc {t : TypeId} {i : TI} {d : Nat} [hS : S.Ok] (hi : tl S.tt t = some i) (hk : ∀ w' b, b = w.heap.size → Ext w w' → Blk w' b t (cellsV i.zero) → Holds S sz R C w' (.ops false ops rest k ((d, .pointer (some ⟨b, 0, none⟩)) :: env))) :
  Holds S sz R C w (.act (.alloc t) ⟨false, ops, rest, some d, k, env⟩) :=
 h_act rfl (alloc_run hS.tt hi) (hk _ _ rfl (Ext.alloc _ _) (Blk.new _ _ _))
theorem h_lit {α : Type} (enc : α → List Value) (M : List α) {t e : TypeId} {i j : TI} {nn : Nat} {parts : List (Nat × Value)} {cs : List Value} {d : Nat} [hS : S.Ok] (hi : tl S.tt t = some i) (hd : i.desc = .slice e) (hj : tl S.tt e = some j) (hz : (cellsV j.zero).length = j.size) {s : Nat} (hs0 : j.size = s) (hsz : 0 < s)
  (he : EncOk enc s) (hc : litCells S.tt e nn parts = some cs) (hM : M.flatMap enc = cs) (hn : M.length = nn) (hb : nn * s ≤ 16777216)
  (hk : ∀ w' b, b = w.heap.size → Ext w w' → Own w' w.heap.size e s enc (some ⟨b, 0, none⟩) M.length M → Holds S sz R C w' (.ops false ops rest k ((d, .slice (some ⟨b, 0, none⟩) M.length M.length) :: env))) :
  Holds S sz R C w (.act (.buildSlice t nn parts) ⟨false, ops, rest, some d, k, env⟩) := by
 subst hs0
 subst hn
 have hr := lit_run (P := S.P) (w := w) hS.tt hi hd hj hz hsz hc hb
 refine h_act (v := .slice (some ⟨w.heap.size, 0, none⟩) M.length M.length) (w' := w.alloc (.cells ⟨cs⟩ e)) rfl (by simp only [Action.sem, Sem.run_bind, hr, Result.andThen_ok, Sem.run_pure]) ?_
 have hm : M.length ≤ maxLen := by
  have := Nat.le_mul_of_pos_right M.length hsz
  unfold maxLen; omega
 exact hk _ _ rfl (Ext.alloc _ _) (Own.lit w e cs M he hM hm)
theorem h_make {α : Type} (enc : α → List Value) (dz : α) {t e : TypeId} {i j : TI} {n : Nat} {d : Nat} [hS : S.Ok] (hi : tl S.tt t = some i) (hd : i.desc = .slice e) (hj : tl S.tt e = some j) (hz : (cellsV j.zero).length = j.size) {s : Nat} (hs0 : j.size = s) (hsz : 0 < s)
  (hzd : enc dz = cellsV j.zero) (hm : n ≤ maxLen) (hb : j.bytes * n ≤ 281474976710656)
  (hk : ∀ w' b, b = w.heap.size → Ext w w' → Own w' w.heap.size e s enc (some ⟨b, 0, none⟩) n (List.replicate n dz) → Holds S sz R C w' (.ops false ops rest k ((d, .slice (some ⟨b, 0, none⟩) n n) :: env))) :
  Holds S sz R C w (.act (.makeSlice t (.int .i64 (n : Int)) (.int .i64 (n : Int))) ⟨false, ops, rest, some d, k, env⟩) := by
 subst hs0
 obtain ⟨w', hr, h1, h2⟩ := make_run (P := S.P) (enc := enc) hS.tt hi hd hj hz hsz dz hzd n hm hb
 refine h_act (v := .slice (some ⟨w.heap.size, 0, none⟩) n n) (w' := w') rfl (by simp only [Action.sem, Sem.run_bind, hr, Result.andThen_ok, Sem.run_pure]) (hk w' _ rfl h2 h1)
theorem h_store {t : TypeId} {i : TI} {ad : Addr} {v : Value} [hS : S.Ok] (hi : tl S.tt t = some i) (hs : i.size = 1) (hv : v.oneCell' = true) (hc : ∃ u, w.cell? ad = some u) (hf : w.frozen? ad = false)
  (h : run S sz 400 (.ops false ops rest k env) [] = (g', obl)) (hg : Holds S sz R C (w.setCell ad v) g') (ho : All obl := by ((repeat' apply And.intro) <;> first | exact trivial | omega | exact wi (by omega) | exact wu (by omega) | exact wb (by omega) | (refine Sl.nn (by assumption) ?_; omega) | (refine nn_of (by assumption) ?_; omega) | exact Option.some_ne_none _ | assumption | decide)) : Holds S sz R C w (.act (.store t ad v) ⟨false, ops, rest, none, k, env⟩) := by
 obtain ⟨u, hu⟩ := hc
 exact h_act_skip rfl (store1_run hS.tt hi hs hv hu hf) (ops_run nopre h hg ho)
theorem h_loadd {w0 : World} {t : TypeId} {ad : Addr} {d : Nat} {v : Value} [hS : S.Ok] (hl : ∀ w', Ext w0 w' → (loadVar t ad).run S.P w' = .ok v w') (hp : ops.toList.take (ops.toList.length - rest.length) ++ rest = ops.toList)
  (h : run S sz 400 (.ops true ops rest k ((d, v) :: env)) [] = (g', obl)) (hg : Holds S sz R (Ext w0) w g') (ho : All obl := by ((repeat' apply And.intro) <;> first | exact trivial | omega | exact wi (by omega) | exact wu (by omega) | exact wb (by omega) | (refine Sl.nn (by assumption) ?_; omega) | (refine nn_of (by assumption) ?_; omega) | exact Option.some_ne_none _ | assumption | decide)) : Holds S sz R (Ext w0) w (.act (.load t ad) ⟨true, ops, rest, some d, k, env⟩) :=
 h_loadq rfl hl (ops_run (fun _ => ⟨_, hp.symm⟩) h hg ho)
theorem h_drawE {id : Nat} {e : Env} [hS : S.Ok] (hm : S.P.follows .mixedOrders = true) (hB : lexOk ops = true) (he : pruneF env S.live = some e)
  (h : run S sz 400 (.ops true ops ops.toList k e) [] = (g', obl)) (hg : ∀ w1, Ext w w1 → Holds S sz R (Ext w) w1 g') (ho : All obl := by ((repeat' apply And.intro) <;> first | exact trivial | omega | exact wi (by omega) | exact wu (by omega) | exact wb (by omega) | (refine Sl.nn (by assumption) ?_; omega) | (refine nn_of (by assumption) ?_; omega) | exact Option.some_ne_none _ | assumption | decide)) : Holds S sz R C w (.code (.code (.region id ops true) :: k) env) :=
 h_draw (Ext w) hm hB (Ext.drawn _) he h (hg _ (Ext.drawn _)) ho
theorem h_guard_by {q b want : Bool} {o : Oper} (h1 : b = true → Holds S sz R C w (.guard q b want ops o rest k env)) (h2 : b = false → Holds S sz R C w (.guard q b want ops o rest k env)) :
  Holds S sz R C w (.guard q b want ops o rest k env) := by
 cases hb : b
 ·rw [← hb]; exact h2 hb
 ·rw [← hb]; exact h1 hb
theorem h_guard_yd {b want : Bool} {o : Oper} [hS : S.Ok] (hb : b = want) (hp : ops.toList.take (ops.toList.length - (o :: rest).length) ++ o :: rest = ops.toList)
  (h : run S sz 400 (.opx true ops o rest k env) [] = (g', obl)) (hg : Holds S sz R C w g') (ho : All obl := by ((repeat' apply And.intro) <;> first | exact trivial | omega | exact wi (by omega) | exact wu (by omega) | exact wb (by omega) | (refine Sl.nn (by assumption) ?_; omega) | (refine nn_of (by assumption) ?_; omega) | exact Option.some_ne_none _ | assumption | decide)) : Holds S sz R C w (.guard true b want ops o rest k env) :=
 h_guard_y hb (fun _ => ⟨_, hp.symm⟩) h hg ho
theorem h_guard_nd {b want : Bool} {o : Oper} [hS : S.Ok] (hb : b = !want) (hp : ops.toList.take (ops.toList.length - (o :: rest).length) ++ o :: rest = ops.toList)
  (h : run S sz 400 (.ops true ops rest k (putE env o.dst undef)) [] = (g', obl)) (hg : Holds S sz R C w g') (ho : All obl := by ((repeat' apply And.intro) <;> first | exact trivial | omega | exact wi (by omega) | exact wu (by omega) | exact wb (by omega) | (refine Sl.nn (by assumption) ?_; omega) | (refine nn_of (by assumption) ?_; omega) | exact Option.some_ne_none _ | assumption | decide)) : Holds S sz R C w (.guard true b want ops o rest k env) :=
 h_guard_n hb (fun _ => ⟨_, hp.symm⟩) h hg ho
end
theorem grown_refl (w : World) (row : Option Nat) : w.grownBy w row := ⟨rfl, rfl, rfl, Nat.le_refl _, fun _ _ _ => rfl⟩
theorem grown_trans {a b c : World} {row : Option Nat} (h : a.grownBy b row) (k : b.grownBy c row) : a.grownBy c row :=
 ⟨k.os.trans h.os, k.tape.trans h.tape, k.output.trans h.output, Nat.le_trans h.size k.size, fun i hi hne => (k.block i (Nat.lt_of_lt_of_le hi h.size) hne).trans (h.block i hi hne)⟩
def marks (k : Int) (n : Nat) : List Int := (List.range n).map fun (i : Nat) => k + (i : Int)
theorem marks_len (k : Int) (n : Nat) : (marks k n).length = n := by simp [marks]
theorem marks_get {k : Int} {n i : Nat} (h : i < n) : (marks k n).getD i default = k + i := by simp [marks, List.getD_eq_getElem?_getD, h]
def markUp (k : Int) (i : Nat) (xs : List Int) : List Int := marks k i ++ xs.drop i
theorem markUp_zero (k : Int) (xs : List Int) : markUp k 0 xs = xs := by simp [markUp, marks]
theorem markUp_len {k : Int} {i : Nat} {xs : List Int} (h : i ≤ xs.length) : (markUp k i xs).length = xs.length := by simp [markUp, marks_len]; omega
theorem markUp_all (k : Int) (xs : List Int) : markUp k xs.length xs = marks k xs.length := by simp [markUp]
theorem markUp_succ {k : Int} {i : Nat} {xs : List Int} (h : i < xs.length) : (markUp k i xs).set i (k + i) = markUp k (i + 1) xs := by
 unfold markUp
 rw [List.set_append_right _ _ (by simp [marks_len])]
 simp only [marks_len, Nat.sub_self]
 rw [List.drop_eq_getElem_cons h, List.set_cons_zero]
 have : marks k (i + 1) = marks k i ++ [k + (i : Int)] := by simp [marks, List.range_succ]
 rw [this]
 simp
def fillUp {α : Type} (d : α) (xs : List α) (i : Nat) : List α := xs.take i ++ List.replicate (xs.length - i) d
theorem fillUp_zero {α : Type} (d : α) (xs : List α) : fillUp d xs 0 = List.replicate xs.length d := by simp [fillUp]
theorem fillUp_all {α : Type} (d : α) (xs : List α) : fillUp d xs xs.length = xs := by simp [fillUp]
theorem fillUp_len {α : Type} (d : α) (xs : List α) {i : Nat} (h : i ≤ xs.length) : (fillUp d xs i).length = xs.length := by simp [fillUp]; omega
theorem fillUp_get {α : Type} (d : α) (xs : List α) {i : Nat} (h : i < xs.length) : (fillUp d xs i)[i]? = some d := by
 have hl : (xs.take i).length = i := by simp; omega
 unfold fillUp
 rw [List.getElem?_append_right (by omega), hl, Nat.sub_self, show xs.length - i = (xs.length - (i + 1)) + 1 by omega, List.replicate_succ]
 rfl
theorem fillUp_set {α : Type} (d : α) (xs : List α) {i : Nat} (h : i < xs.length) {x : α} (hx : xs[i]? = some x) : (fillUp d xs i).set i x = fillUp d xs (i + 1) := by
 unfold fillUp
 have hl : (xs.take i).length = i := by simp; omega
 have : x = xs[i] := by rw [List.getElem?_eq_getElem h] at hx; injection hx with hx; exact hx.symm
 rw [List.set_append_right _ _ (by omega), hl, Nat.sub_self, show xs.length - i = (xs.length - (i + 1)) + 1 by omega, List.replicate_succ, List.set_cons_zero,
  List.take_succ_eq_append_getElem h, this]
 rw [List.append_assoc]
 rfl
theorem getD_some {α : Type} [Inhabited α] {xs : List α} {i : Nat} (h : i < xs.length) : xs[i]? = some (xs.getD i default) := by
 simp [List.getD_eq_getElem?_getD, h]
theorem Ext.own {α : Type} {w0 w w' : World} {B : Nat} {e : TypeId} {sz : Nat} {enc : α → List Value} {a : Option Addr} {c : Nat} {L : List α} (h : Ext w0 w) (ho : Own w B e sz enc a c L) (hB : w0.heap.size ≤ B) (hg : w.grownBy w' (blk a)) : Ext w0 w' :=
 h.grown hg fun _ hk => Nat.le_trans hB (ho.lt hk).1
theorem Ext.blk {w0 w w' : World} {b : Nat} (h : Ext w0 w) (g : w.grownBy w' (some b)) (hb : w0.heap.size ≤ b) : Ext w0 w' := h.grown g fun k hk => by injection hk with hk; omega
end Go.Xw
