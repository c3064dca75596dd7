/- A region that draws its order may be carried out in the order of the text; the condition is a closed check of the region. -/
import Derived.Test.YtiepmliokblkjaaGreatHp
set_option linter.all false
namespace Go.Xw
open Go.RowKit
inductive Kind where
 | pure | load | eff
def kindOf : Op → Kind
 | .move _ => .pure
 | .assign _ => .pure
 | .pick _ _ _ => .pure
 | .nilCheck _ => .pure
 | .binOp _ _ _ _ _ => .pure
 | .unOp _ _ _ => .pure
 | .convert _ _ _ => .pure
 | .fieldAddr _ _ _ => .pure
 | .field _ _ _ => .pure
 | .indexAddr _ _ _ => .pure
 | .extract _ _ => .pure
 | .build _ _ => .pure
 | .makeFunc _ _ _ => .pure
 | .slice _ _ _ _ _ => .pure
 | .load _ _ => .load
 | .lookup _ _ _ _ => .load
 | .call { callee := .builtin .len, args := _, argTypes := _ } => .pure
 | .call { callee := .builtin .max, args := _, argTypes := _ } => .pure
 | .call { callee := .builtin .min, args := _, argTypes := _ } => .pure
 | _ => .eff
def isEff (o : Oper) : Bool := match kindOf o.op with
 | .eff => true
 | _ => false
def isLoad (o : Oper) : Bool := match kindOf o.op with
 | .load => true
 | _ => false
def pcFns : List FuncId :=
 []
def isPc (o : Oper) : Bool := match o.op with
 | .call { callee := .value (.func f), args := _, argTypes := _ } => pcFns.contains f
 | _ => false
def isE (fm : Bool) (o : Oper) : Bool := isEff o && !(fm && isPc o)
def isL (fm : Bool) (o : Oper) : Bool := isLoad o || (fm && isPc o)
theorem isE_false (o : Oper) : isE false o = isEff o := by simp [isE]
theorem isL_false (o : Oper) : isL false o = isLoad o := by simp [isL]
def DoesO (P : Program) (o : Oper) (a : Act) (w : World) (K : Act → World → Prop) : Prop :=
 match (execOp a.eval o).run P w with
 | .ok (.value v) w' => K (a.put o.dst v) w'
 | .ok .skip w' => K (a.put o.dst undef) w'
 | .ok (.enter f args) w' => Calls P f args w' fun e w'' => ∃ v, e = .returned v ∧ K (a.put o.dst v) w''
 | _ => False
section
variable {P : Program} {ops : Array Oper} {C : World → Prop} {Q : Act → World → Prop}
theorem DoesO.wp {o : Oper} {a : Act} {w : World} {K : Act → World → Prop} {Q' : Exit → Act → World → Prop} (h : DoesO P o a w K) : o.wp P a w K Q' := by
 unfold Oper.wp
 unfold DoesO at h
 generalize (execOp a.eval o).run P w = r at *
 cases r with
 | halt x w' => exact h.elim
 | ok n w' =>
  cases n <;> first | exact h.elim | skip
  case value v => exact h
  case skip => exact h
  case enter f args =>
   refine Calls.mono h ?_
   rintro e w'' ⟨v, rfl, hq⟩
   exact hq
theorem DoesO.ex {o : Oper} {a : Act} {w : World} {K : Act → World → Prop} (h : DoesO P o a w K) : ∃ v w', K (a.put o.dst v) w' := by
 unfold DoesO at h
 generalize (execOp a.eval o).run P w = r at *
 cases r with
 | halt x w' => exact h.elim
 | ok n w' =>
  cases n <;> first | exact h.elim | skip
  case value v => exact ⟨v, w', h⟩
  case skip => exact ⟨undef, w', h⟩
  case enter f args =>
   obtain ⟨e, w'', fr, ⟨v, rfl, hk⟩, _⟩ := h []
   exact ⟨v, w'', hk⟩
theorem DoesO.mono {o : Oper} {a a' : Act} {w : World} {K K' : Act → World → Prop} (he : execOp a'.eval o = execOp a.eval o) (h : DoesO P o a w K)
  (hk : ∀ v w', K (a.put o.dst v) w' → K' (a'.put o.dst v) w') : DoesO P o a' w K' := by
 unfold DoesO at *
 rw [he]
 generalize (execOp a.eval o).run P w = r at *
 cases r with
 | halt x w' => exact h.elim
 | ok n w' =>
  cases n <;> first | exact h.elim | skip
  case value v => exact hk _ _ h
  case skip => exact hk _ _ h
  case enter f args => exact Calls.mono h fun e w'' ⟨v, hv, hq⟩ => ⟨v, hv, hk _ _ hq⟩
def wpLex (P : Program) (ops : Array Oper) (C : World → Prop) (Q : Act → World → Prop) : List (Oper × Bool) → Act → World → Prop
 | [], a, w => Q a w
 | (o, fl) :: rest, a, w =>
  if Region.wanted o (yielded ops a.tmps) then
   match kindOf o.op with
   | .pure => ∃ v, (∀ w', (execOp a.eval o).run P w' = .ok (.value v) w') ∧ wpLex P ops C Q rest (a.put o.dst v) w
   | .load => ∃ v, (∀ w', C w' → (execOp a.eval o).run P w' = .ok (.value v) w') ∧ wpLex P ops C Q rest (a.put o.dst v) w
   | .eff => DoesO P o a w fun a' w' => (fl = true → C w') ∧ wpLex P ops C Q rest a' w'
  else wpLex P ops C Q rest (a.put o.dst undef) w
def Yv (P : Program) (ops : Array Oper) (C : World → Prop) (o : Oper) (v : Value) (a : Act) : Prop :=
 (Region.wanted o (yielded ops a.tmps) = true ∧ match kindOf o.op with
  | .pure => ∀ w', (execOp a.eval o).run P w' = .ok (.value v) w'
  | .load => ∀ w', C w' → (execOp a.eval o).run P w' = .ok (.value v) w'
  | .eff => False) ∨ (Region.wanted o (yielded ops a.tmps) = false ∧ v = undef)
theorem Yv.same {o : Oper} {v : Value} {a a' : Act} (h : Yv P ops C o v a) (he : execOp a'.eval o = execOp a.eval o)
  (hw : Region.wanted o (yielded ops a'.tmps) = Region.wanted o (yielded ops a.tmps)) : Yv P ops C o v a' := by
 unfold Yv at *
 rw [he, hw]
 exact h
theorem Yv.one {o : Oper} {v : Value} {a : Act} (h : Yv P ops C o v a) {w : World} (hC : isLoad o = true → C w) {K : Act → World → Prop} (hk : K (a.put o.dst v) w) :
  if Region.wanted o (yielded ops a.tmps) then DoesO P o a w K else K (a.put o.dst undef) w := by
 rcases h with ⟨hw, h⟩ | ⟨hw, rfl⟩
 ·rw [if_pos hw]
  unfold DoesO
  cases hkd : kindOf o.op with
  | pure => simp only [hkd] at h; rw [h w]; exact hk
  | load => simp only [hkd] at h; rw [h w (hC (by simp [isLoad, hkd]))]; exact hk
  | eff => simp only [hkd] at h
 ·rw [if_neg (by simp [hw])]; exact hk
def NoSel (o : Oper) : Prop := ∀ cs b, o.op ≠ .select cs b
theorem wpLex_head {o : Oper} {fl : Bool} {rest : List (Oper × Bool)} {a : Act} {w : World} (h : wpLex P ops C Q ((o, fl) :: rest) a w) :
  (isEff o = false ∧ ∃ v, Yv P ops C o v a ∧ wpLex P ops C Q rest (a.put o.dst v) w) ∨
  (isEff o = true ∧ Region.wanted o (yielded ops a.tmps) = true ∧ DoesO P o a w fun a' w' => (fl = true → C w') ∧ wpLex P ops C Q rest a' w') ∨
  (isEff o = true ∧ Region.wanted o (yielded ops a.tmps) = false ∧ wpLex P ops C Q rest (a.put o.dst undef) w) := by
 unfold wpLex at h
 by_cases hw : Region.wanted o (yielded ops a.tmps) = true
 ·rw [if_pos hw] at h
  cases hk : kindOf o.op with
  | pure =>
   simp only [hk] at h
   obtain ⟨v, h1, h2⟩ := h
   exact .inl ⟨by simp [isEff, hk], v, .inl ⟨hw, by simp only [hk]; exact h1⟩, h2⟩
  | load =>
   simp only [hk] at h
   obtain ⟨v, h1, h2⟩ := h
   exact .inl ⟨by simp [isEff, hk], v, .inl ⟨hw, by simp only [hk]; exact h1⟩, h2⟩
  | eff => simp only [hk] at h; exact .inr (.inl ⟨by simp [isEff, hk], hw, h⟩)
 ·have hw' : Region.wanted o (yielded ops a.tmps) = false := by simpa using hw
  rw [if_neg hw] at h
  by_cases he : isEff o = true
  ·exact .inr (.inr ⟨he, hw', h⟩)
  ·exact .inl ⟨by simpa using he, undef, .inr ⟨hw', rfl⟩, h⟩
theorem wpLex_yv {o : Oper} {fl : Bool} {rest : List (Oper × Bool)} {a : Act} {w : World} {v : Value} (hy : Yv P ops C o v a) (h : wpLex P ops C Q rest (a.put o.dst v) w) :
  wpLex P ops C Q ((o, fl) :: rest) a w := by
 unfold wpLex
 rcases hy with ⟨hw, hy⟩ | ⟨hw, rfl⟩
 ·rw [if_pos hw]
  cases hk : kindOf o.op with
  | pure => simp only [hk] at hy; exact ⟨v, hy, h⟩
  | load => simp only [hk] at hy; exact ⟨v, hy, h⟩
  | eff => simp only [hk] at hy
 ·rw [if_neg (by simp [hw])]; exact h
theorem wpLex_eff {o : Oper} {fl : Bool} {rest : List (Oper × Bool)} {a : Act} {w : World} (he : isEff o = true) (hw : Region.wanted o (yielded ops a.tmps) = true)
  (h : DoesO P o a w fun a' w' => (fl = true → C w') ∧ wpLex P ops C Q rest a' w') : wpLex P ops C Q ((o, fl) :: rest) a w := by
 unfold wpLex
 rw [if_pos hw]
 cases hk : kindOf o.op <;> simp [isEff, hk] at he
 exact h
theorem wpLex_skip {o : Oper} {fl : Bool} {rest : List (Oper × Bool)} {a : Act} {w : World} (hw : Region.wanted o (yielded ops a.tmps) = false)
  (h : wpLex P ops C Q rest (a.put o.dst undef) w) : wpLex P ops C Q ((o, fl) :: rest) a w := by
 unfold wpLex
 rw [if_neg (by simp [hw])]; exact h
variable {o : Oper} {fl : Bool} {l2 : List (Oper × Bool)}
theorem lex_yield (ho : isEff o = false) (hso : NoSel o) : ∀ (l1 : List (Oper × Bool)) (a : Act) (w : World), (∀ p ∈ l1, o.apart ops p.1 = true) →
  wpLex P ops C Q (l1 ++ (o, fl) :: l2) a w → ∃ v, Yv P ops C o v a
 | [], a, w, _, h => by
  rcases wpLex_head h with ⟨_, v, hy, _⟩ | ⟨he, _⟩ | ⟨he, _⟩
  ·exact ⟨v, hy⟩
  ·rw [ho] at he; cases he
  ·rw [ho] at he; cases he
 | (p, fp) :: l1, a, w, hap, h => by
  obtain ⟨q1, q2, q3⟩ := Oper.apart_spec (hap (p, fp) (by simp))
  have back : ∀ u v, Yv P ops C o v (a.put p.dst u) → Yv P ops C o v a := fun u v hy =>
   hy.same (execOp_put o hso a p.dst u q3).symm (wanted_put o a p.dst u q3).symm
  have hap' : ∀ x ∈ l1, o.apart ops x.1 = true := fun x hx => hap x (by simp [hx])
  rcases wpLex_head h with ⟨_, u, _, h'⟩ | ⟨_, _, h'⟩ | ⟨_, _, h'⟩
  ·obtain ⟨v, hv⟩ := lex_yield ho hso l1 _ _ hap' h'
   exact ⟨v, back _ _ hv⟩
  ·obtain ⟨u, w', _, h''⟩ := h'.ex
   obtain ⟨v, hv⟩ := lex_yield ho hso l1 _ _ hap' h''
   exact ⟨v, back _ _ hv⟩
  ·obtain ⟨v, hv⟩ := lex_yield ho hso l1 _ _ hap' h'
   exact ⟨v, back _ _ hv⟩
theorem lex_drop (ho : isEff o = false) (hso : NoSel o) {v : Value} : ∀ (l1 : List (Oper × Bool)) (a : Act) (w : World), (∀ p ∈ l1, o.apart ops p.1 = true ∧ NoSel p.1) →
  (isLoad o = true → C w ∧ ∀ p ∈ l1, isEff p.1 = true → p.2 = true) → Yv P ops C o v a →
  wpLex P ops C Q (l1 ++ (o, fl) :: l2) a w → wpLex P ops C Q (l1 ++ l2) (a.put o.dst v) w
 | [], a, w, _, hC, hy, h => by
  rcases wpLex_head h with ⟨_, u, hu, h'⟩ | ⟨he, _⟩ | ⟨he, _⟩
  ·have e : u = v := by
    rcases hy with ⟨hw, hy⟩ | ⟨hw, rfl⟩
    ·rcases hu with ⟨_, hu⟩ | ⟨hw', _⟩
     ·cases hk : kindOf o.op with
      | pure =>
       simp only [hk] at hy hu
       have := (hy w).symm.trans (hu w)
       injection this with this
       injection this with this
       exact this.symm
      | load =>
       simp only [hk] at hy hu
       have hc := (hC (by simp [isLoad, hk])).1
       have := (hy w hc).symm.trans (hu w hc)
       injection this with this
       injection this with this
       exact this.symm
      | eff => simp only [hk] at hy
     ·rw [hw] at hw'; cases hw'
    ·rcases hu with ⟨hw', _⟩ | ⟨_, rfl⟩
     ·rw [hw] at hw'; cases hw'
     ·rfl
   subst e
   exact h'
  ·rw [ho] at he; cases he
  ·rw [ho] at he; cases he
 | (p, fp) :: l1, a, w, hap, hC, hy, h => by
  obtain ⟨hap0, hsp⟩ := hap (p, fp) (by simp)
  obtain ⟨q1, q2, q3⟩ := Oper.apart_spec hap0
  have on : ∀ u, Yv P ops C o v (a.put p.dst u) := fun u => hy.same (execOp_put o hso a p.dst u q3) (wanted_put o a p.dst u q3)
  have ep : execOp (a.put o.dst v).eval p = execOp a.eval p := execOp_put p hsp a o.dst v q1
  have wp' : Region.wanted p (yielded ops (a.put o.dst v).tmps) = Region.wanted p (yielded ops a.tmps) := wanted_put p a o.dst v q1
  have comm : ∀ u, (a.put p.dst u).put o.dst v = (a.put o.dst v).put p.dst u := fun u => (Act.put_comm a v u q2).symm
  have hap' : ∀ x ∈ l1, o.apart ops x.1 = true ∧ NoSel x.1 := fun x hx => hap x (by simp [hx])
  rcases wpLex_head h with ⟨_, u, hu, h'⟩ | ⟨he, hw, h'⟩ | ⟨he, hw, h'⟩
  ·have := lex_drop ho hso l1 _ _ hap' (fun hl => ⟨(hC hl).1, fun x hx => (hC hl).2 x (by simp [hx])⟩) (on u) h'
   rw [comm] at this
   exact wpLex_yv (hu.same ep wp') this
  ·refine wpLex_eff he (by rw [wp']; exact hw) (DoesO.mono ep h' fun u w' ⟨k1, k2⟩ => ⟨k1, ?_⟩)
   have := lex_drop ho hso l1 _ _ hap' (fun hl => ⟨k1 ((hC hl).2 (p, fp) (by simp) he), fun x hx => (hC hl).2 x (by simp [hx])⟩) (on u) k2
   rw [comm] at this
   exact this
  ·have := lex_drop ho hso l1 _ _ hap' (fun hl => ⟨(hC hl).1, fun x hx => (hC hl).2 x (by simp [hx])⟩) (on undef) h'
   rw [comm] at this
   exact wpLex_skip (by rw [wp']; exact hw) this
theorem lex_eff (ho : isEff o = true) (hso : NoSel o) : ∀ (l1 : List (Oper × Bool)) (a : Act) (w : World), (∀ p ∈ l1, o.apart ops p.1 = true ∧ NoSel p.1 ∧ isEff p.1 = false) →
  wpLex P ops C Q (l1 ++ (o, fl) :: l2) a w →
  if Region.wanted o (yielded ops a.tmps) then DoesO P o a w fun a' w' => (fl = true → C w') ∧ wpLex P ops C Q (l1 ++ l2) a' w'
  else wpLex P ops C Q (l1 ++ l2) (a.put o.dst undef) w
 | [], a, w, _, h => by
  rcases wpLex_head h with ⟨he, _⟩ | ⟨_, hw, h'⟩ | ⟨_, hw, h'⟩
  ·rw [ho] at he; cases he
  ·rw [if_pos hw]; exact h'
  ·rw [if_neg (by simp [hw])]; exact h'
 | (p, fp) :: l1, a, w, hap, h => by
  obtain ⟨hap0, hsp, hpe⟩ := hap (p, fp) (by simp)
  obtain ⟨q1, q2, q3⟩ := Oper.apart_spec hap0
  have hap' : ∀ x ∈ l1, o.apart ops x.1 = true ∧ NoSel x.1 ∧ isEff x.1 = false := fun x hx => hap x (by simp [hx])
  rcases wpLex_head h with ⟨_, u, hu, h'⟩ | ⟨he, _⟩ | ⟨he, _⟩
  ·have ih := lex_eff ho hso l1 _ _ hap' h'
   have keep : ∀ x, Yv P ops C p u (a.put o.dst x) := fun x => hu.same (execOp_put p hsp a o.dst x q1) (wanted_put p a o.dst x q1)
   have comm : ∀ x, (a.put p.dst u).put o.dst x = (a.put o.dst x).put p.dst u := fun x => (Act.put_comm a x u q2).symm
   rw [wanted_put o a p.dst u q3] at ih
   split
   ·rename_i hw
    rw [if_pos hw] at ih
    refine DoesO.mono (execOp_put o hso a p.dst u q3).symm ih fun x w' ⟨k1, k2⟩ => ⟨k1, ?_⟩
    rw [comm] at k2
    exact wpLex_yv (keep x) k2
   ·rename_i hw
    rw [if_neg hw] at ih
    rw [comm] at ih
    exact wpLex_yv (keep undef) ih
  ·rw [hpe] at he; cases he
  ·rw [hpe] at he; cases he
end
def isFloat (o : Oper) : Bool := match o.op with
 | .alloc _ => true
 | .box _ _ => true
 | .buildSlice _ _ _ => true
 | .makeSlice _ _ _ => true
 | .makeMap _ none => true
 | _ => false
def fV : Option Nat → Nat → Value
 | none, b => .pointer (some ⟨b, 0, none⟩)
 | some n, b => .slice (some ⟨b, 0, none⟩) n n
theorem heap_new (w : World) (o : Obj) : (w.alloc o).heap[w.heap.size]? = some o := by
 show (w.heap.push o)[w.heap.size]? = _
 exact Array.getElem?_push_size
inductive FD where
 | cells (s : Option Nat) (t : TypeId) (cs : List Value)
 | map
def FD.obj : FD → Obj
 | .cells _ t cs => .cells ⟨cs⟩ t
 | .map => .map #[] 0
def FD.val : FD → Nat → Value
 | .cells s _ _, b => fV s b
 | .map, b => .map (some b)
def rMp (b : Nat) (es : Array MapEntry) (clock : Nat) : Res where
 ids := [b]
 P w := w.heap[b]? = some (.map es clock)
 st := fun h hP => by rw [h b (by simp)]; exact hP
 lt := fun {w} hP k hk => by
  simp at hk; subst hk
  rcases Nat.lt_or_ge k w.heap.size with h | h
  ·exact h
  ·rw [Array.getElem?_eq_none h] at hP; cases hP
def FD.res : FD → Nat → Res
 | .cells _ t cs, b => rB b t cs
 | .map, b => rMp b #[] 0
theorem FD.new (d : FD) {w0 w : World} {L : List Res} (hp : Hp w0 w L) : Hp w0 (w.alloc d.obj) (d.res w.heap.size :: L) := by
 cases d with
 | cells s t cs => exact hp.blkN rfl (Ext.alloc _ _) (Blk.new _ _ _)
 | map =>
  refine hp.call1 ⟨Ext.alloc _ _, by simp [FD.res, rMp], fun k hk => by simp [FD.res, rMp] at hk; omega, fun R hR => ?_⟩
  simp at hR; subst hR
  exact heap_new w _
def FloatAt (P : Program) (o : Oper) (a : Act) (d : FD) : Prop :=
 ∀ w, (execOp a.eval o).run P w = .ok (.value (d.val w.heap.size)) (w.alloc d.obj)
theorem FloatAt.same {P : Program} {o : Oper} {a a' : Act} {d : FD} (h : FloatAt P o a d) (he : execOp a'.eval o = execOp a.eval o) : FloatAt P o a' d := fun w => by
 rw [he]; exact h w
theorem FloatAt.uniq {P : Program} {o : Oper} {a : Act} {d d' : FD} (h : FloatAt P o a d) (h' : FloatAt P o a d') (w : World) : d = d' := by
 have e := (h w).symm.trans (h' w)
 injection e with e1 e2
 injection e1 with e1
 have e3 : (w.alloc d.obj).heap[w.heap.size]? = (w.alloc d'.obj).heap[w.heap.size]? := by rw [e2]
 rw [heap_new, heap_new] at e3
 cases d <;> cases d' <;> simp [FD.obj] at e3
 ·obtain ⟨rfl, rfl⟩ := e3
  rename_i s t cs s'
  have e1 : fV s w.heap.size = fV s' w.heap.size := e1
  cases s <;> cases s' <;> simp_all [fV]
 ·rfl
def pvOf : Array Value → Value
 | ⟨[.agg ⟨[.int _ i, .slice _ s _, .slice _ a _, _]⟩]⟩ => .int .i64 (1 + i + s + a)
 | _ => undef
def PcAt (P : Program) (w0 : World) (L0 : List Res) (o : Oper) (a : Act) (v : Value) : Prop :=
 ∃ f args, (∀ w', (execOp a.eval o).run P w' = .ok (.enter f args) w') ∧ v = pvOf args ∧ ∀ w', Hp w0 w' L0 → Calls P f args w' fun e w'' => e = .returned v ∧ Ext w' w''
theorem PcAt.does {P : Program} {w0 : World} {L0 : List Res} {o : Oper} {a : Act} {v : Value} (h : PcAt P w0 L0 o a v) {w : World} (hp : Hp w0 w L0) : DoesO P o a w fun a' w' => a' = a.put o.dst v ∧ Ext w w' := by
 obtain ⟨f, args, h1, h2, h3⟩ := h
 unfold DoesO
 rw [h1 w]
 exact Calls.mono (h3 w hp) fun e w'' ⟨k1, k2⟩ => ⟨v, k1, rfl, k2⟩
theorem PcAt.same {P : Program} {w0 : World} {L0 : List Res} {o : Oper} {a a' : Act} {v : Value} (h : PcAt P w0 L0 o a v) (he : execOp a'.eval o = execOp a.eval o) : PcAt P w0 L0 o a' v := by
 obtain ⟨f, args, h1, h2⟩ := h
 exact ⟨f, args, fun w' => by rw [he]; exact h1 w', h2⟩
theorem PcAt.uniq {P : Program} {w0 : World} {L0 : List Res} {o : Oper} {a : Act} {v u : Value} (h : PcAt P w0 L0 o a v) (k : PcAt P w0 L0 o a u) : u = v := by
 obtain ⟨f, args, h1, h2, _⟩ := h
 obtain ⟨g, args', k1, k2, _⟩ := k
 have e := (h1 default).symm.trans (k1 default)
 injection e with e1
 injection e1 with e1 e2
 rw [h2, k2, e2]
def wpF (P : Program) (ops : Array Oper) (w0 : World) (L0 : List Res) (Q : Act → World → Prop) : List (Oper × Bool) → List Res → Act → Prop
 | [], L, a => ∀ w, Hp w0 w L → Q a w
 | (o, fl) :: rest, L, a =>
  if Region.wanted o (yielded ops a.tmps) then
   match kindOf o.op with
   | .pure => ∃ v, (∀ w', (execOp a.eval o).run P w' = .ok (.value v) w') ∧ wpF P ops w0 L0 Q rest L (a.put o.dst v)
   | .load => ∃ v, (∀ w', Hp w0 w' L0 → (execOp a.eval o).run P w' = .ok (.value v) w') ∧ wpF P ops w0 L0 Q rest L (a.put o.dst v)
   | .eff =>
    if isFloat o then ∃ d, FloatAt P o a d ∧ ∀ b, (∃ F w, Hp w0 w ((d.res b :: L) ++ F)) → wpF P ops w0 L0 Q rest (d.res b :: L) (a.put o.dst (d.val b))
    else if isPc o then ∃ v, PcAt P w0 L0 o a v ∧ wpF P ops w0 L0 Q rest L (a.put o.dst v)
    else ∀ F w, Hp w0 w (L ++ F) → DoesO P o a w fun a' w' => (fl = true → Hp w0 w' L0) ∧ ∃ L', Hp w0 w' (L' ++ F) ∧ wpF P ops w0 L0 Q rest L' a'
  else wpF P ops w0 L0 Q rest L (a.put o.dst undef)
def YvF (P : Program) (ops : Array Oper) (w0 : World) (L0 : List Res) (o : Oper) (v : Value) (a : Act) : Prop :=
 Yv P ops (fun w' => Hp w0 w' L0) o v a ∨ (isPc o = true ∧ isFloat o = false ∧ isEff o = true ∧ Region.wanted o (yielded ops a.tmps) = true ∧ PcAt P w0 L0 o a v)
theorem float_pc {o : Oper} (h : isFloat o = true) : isPc o = false := by
 unfold isFloat at h
 unfold isPc
 split at h <;> simp_all
theorem float_eff0 {o : Oper} (h : isFloat o = true) : isEff o = true := by
 unfold isFloat at h
 unfold isEff kindOf
 split at h <;> simp_all
theorem float_eff {o : Oper} (h : isFloat o = true) : isE true o = true := by simp [isE, float_pc h, float_eff0 h]
theorem YvF.same {P : Program} {ops : Array Oper} {w0 : World} {L0 : List Res} {o : Oper} {v : Value} {a a' : Act} (h : YvF P ops w0 L0 o v a) (he : execOp a'.eval o = execOp a.eval o)
  (hw : Region.wanted o (yielded ops a'.tmps) = Region.wanted o (yielded ops a.tmps)) : YvF P ops w0 L0 o v a' := by
 rcases h with h | ⟨h1, h2, h3, h4, h5⟩
 ·exact .inl (h.same he hw)
 ·exact .inr ⟨h1, h2, h3, by rw [hw]; exact h4, h5.same he⟩
theorem YvF.one {P : Program} {ops : Array Oper} {w0 : World} {L0 : List Res} {o : Oper} {v : Value} {a : Act} (h : YvF P ops w0 L0 o v a) {w : World} (hC : isL true o = true → Hp w0 w L0) {K : Act → World → Prop} (hk : ∀ w', Ext w w' → K (a.put o.dst v) w') :
  if Region.wanted o (yielded ops a.tmps) then DoesO P o a w K else K (a.put o.dst undef) w := by
 rcases h with h | ⟨h1, h2, h3, h4, h5⟩
 ·exact h.one (fun hl => hC (by simp [isL, hl])) (hk w (Ext.refl _))
 ·rw [if_pos h4]
  exact DoesO.mono rfl (h5.does (hC (by simp [isL, h1]))) fun u w'' ⟨k1, k2⟩ => by rw [k1]; exact hk w'' k2
section
variable {P : Program} {ops : Array Oper} {w0 : World} {L0 : List Res} {Q : Act → World → Prop}
theorem wpF_head {o : Oper} {fl : Bool} {rest : List (Oper × Bool)} {L : List Res} {a : Act} (h : wpF P ops w0 L0 Q ((o, fl) :: rest) L a) :
  (isE true o = false ∧ ∃ v, YvF P ops w0 L0 o v a ∧ wpF P ops w0 L0 Q rest L (a.put o.dst v)) ∨
  (isFloat o = true ∧ Region.wanted o (yielded ops a.tmps) = true ∧ ∃ d, FloatAt P o a d ∧ ∀ b, (∃ F w, Hp w0 w ((d.res b :: L) ++ F)) → wpF P ops w0 L0 Q rest (d.res b :: L) (a.put o.dst (d.val b))) ∨
  (isE true o = true ∧ isFloat o = false ∧ Region.wanted o (yielded ops a.tmps) = true ∧ ∀ F w, Hp w0 w (L ++ F) → DoesO P o a w fun a' w' => (fl = true → Hp w0 w' L0) ∧ ∃ L', Hp w0 w' (L' ++ F) ∧ wpF P ops w0 L0 Q rest L' a') ∨
  (isE true o = true ∧ Region.wanted o (yielded ops a.tmps) = false ∧ wpF P ops w0 L0 Q rest L (a.put o.dst undef)) := by
 unfold wpF at h
 by_cases hw : Region.wanted o (yielded ops a.tmps) = true
 ·rw [if_pos hw] at h
  cases hk : kindOf o.op with
  | pure =>
   simp only [hk] at h
   obtain ⟨v, h1, h2⟩ := h
   exact .inl ⟨by simp [isE, isEff, hk], v, .inl (.inl ⟨hw, by simp only [hk]; exact h1⟩), h2⟩
  | load =>
   simp only [hk] at h
   obtain ⟨v, h1, h2⟩ := h
   exact .inl ⟨by simp [isE, isEff, hk], v, .inl (.inl ⟨hw, by simp only [hk]; exact h1⟩), h2⟩
  | eff =>
   simp only [hk] at h
   by_cases hf : isFloat o = true
   ·rw [if_pos hf] at h; exact .inr (.inl ⟨hf, hw, h⟩)
   ·rw [if_neg hf] at h
    by_cases hpc : isPc o = true
    ·rw [if_pos hpc] at h
     obtain ⟨v, h1, h2⟩ := h
     exact .inl ⟨by simp [isE, hpc], v, .inr ⟨hpc, by simpa using hf, by simp [isEff, hk], hw, h1⟩, h2⟩
    ·rw [if_neg hpc] at h
     exact .inr (.inr (.inl ⟨by simp [isE, isEff, hk, hpc], by simpa using hf, hw, h⟩))
 ·have hw' : Region.wanted o (yielded ops a.tmps) = false := by simpa using hw
  rw [if_neg hw] at h
  by_cases he : isE true o = true
  ·exact .inr (.inr (.inr ⟨he, hw', h⟩))
  ·exact .inl ⟨by simpa using he, undef, .inl (.inr ⟨hw', rfl⟩), h⟩
theorem wpF_yv {o : Oper} {fl : Bool} {rest : List (Oper × Bool)} {L : List Res} {a : Act} {v : Value} (hy : YvF P ops w0 L0 o v a) (h : wpF P ops w0 L0 Q rest L (a.put o.dst v)) :
  wpF P ops w0 L0 Q ((o, fl) :: rest) L a := by
 unfold wpF
 rcases hy with (⟨hw, hy⟩ | ⟨hw, rfl⟩) | ⟨h1, h2, h3, hw, h5⟩
 ·rw [if_pos hw]
  cases hk : kindOf o.op with
  | pure => simp only [hk] at hy; exact ⟨v, hy, h⟩
  | load => simp only [hk] at hy; exact ⟨v, hy, h⟩
  | eff => simp only [hk] at hy
 ·rw [if_neg (by simp [hw])]; exact h
 ·rw [if_pos hw]
  cases hk : kindOf o.op <;> simp [isEff, hk] at h3
  simp only [h2, h1, if_true]
  exact ⟨v, h5, h⟩
theorem wpF_eff {o : Oper} {fl : Bool} {rest : List (Oper × Bool)} {L : List Res} {a : Act} (he : isE true o = true) (hf : isFloat o = false) (hw : Region.wanted o (yielded ops a.tmps) = true)
  (h : ∀ F w, Hp w0 w (L ++ F) → DoesO P o a w fun a' w' => (fl = true → Hp w0 w' L0) ∧ ∃ L', Hp w0 w' (L' ++ F) ∧ wpF P ops w0 L0 Q rest L' a') : wpF P ops w0 L0 Q ((o, fl) :: rest) L a := by
 unfold wpF
 rw [if_pos hw]
 have hpc : isPc o = false := by cases h2 : isPc o <;> simp [isE, h2] at he ⊢
 cases hk : kindOf o.op <;> simp [isE, isEff, hk] at he
 simp only [hf, hpc]
 exact h
theorem wpF_float {o : Oper} {fl : Bool} {rest : List (Oper × Bool)} {L : List Res} {a : Act} (hf : isFloat o = true) (hw : Region.wanted o (yielded ops a.tmps) = true) {d : FD}
  (hat : FloatAt P o a d) (h : ∀ b, (∃ F w, Hp w0 w ((d.res b :: L) ++ F)) → wpF P ops w0 L0 Q rest (d.res b :: L) (a.put o.dst (d.val b))) : wpF P ops w0 L0 Q ((o, fl) :: rest) L a := by
 unfold wpF
 rw [if_pos hw]
 have he := float_eff0 hf
 cases hk : kindOf o.op <;> simp [isEff, hk] at he
 simp only [hf, if_true]
 exact ⟨d, hat, h⟩
theorem wpF_skip {o : Oper} {fl : Bool} {rest : List (Oper × Bool)} {L : List Res} {a : Act} (hw : Region.wanted o (yielded ops a.tmps) = false)
  (h : wpF P ops w0 L0 Q rest L (a.put o.dst undef)) : wpF P ops w0 L0 Q ((o, fl) :: rest) L a := by
 unfold wpF
 rw [if_neg (by simp [hw])]; exact h
theorem Hp.mid {w : World} {L F : List Res} {R : Res} : Hp w0 w ((R :: L) ++ F) ↔ Hp w0 w (L ++ (R :: F)) :=
 ⟨fun h => h.perm List.perm_middle.symm, fun h => h.perm List.perm_middle⟩
theorem wpF_sub : ∀ (l : List (Oper × Bool)) (L L' : List Res) (a : Act), (∀ F w, Hp w0 w (L' ++ F) → Hp w0 w (L ++ F)) → wpF P ops w0 L0 Q l L a → wpF P ops w0 L0 Q l L' a
 | [], L, L', a, hs, h => fun w hp => h w (by have := hs [] w (by simpa using hp); simpa using this)
 | (p, fp) :: l, L, L', a, hs, h => by
  rcases wpF_head h with ⟨_, u, hu, h'⟩ | ⟨hf, hw, d, hat, h'⟩ | ⟨he, hf, hw, h'⟩ | ⟨he, hw, h'⟩
  ·exact wpF_yv hu (wpF_sub l L L' _ hs h')
  ·have hs' : ∀ (b : Nat) F w, Hp w0 w ((d.res b :: L') ++ F) → Hp w0 w ((d.res b :: L) ++ F) := fun b F w hp => Hp.mid.2 (hs _ w (Hp.mid.1 hp))
   exact wpF_float hf hw hat fun b ⟨F, w, hp⟩ => wpF_sub l _ _ _ (hs' b) (h' b ⟨F, w, hs' b F w hp⟩)
  ·exact wpF_eff he hf hw fun F w hp => h' F w (hs F w hp)
  ·exact wpF_skip hw (wpF_sub l L L' _ hs h')
end
section
variable {P : Program} {ops : Array Oper} {w0 : World} {L0 : List Res} {Q : Act → World → Prop} {o : Oper} {fl : Bool} {l2 : List (Oper × Bool)}
theorem lexF_yield (ho : isE true o = false) (hso : NoSel o) : ∀ (l1 : List (Oper × Bool)) (L : List Res) (a : Act), (∃ F w, Hp w0 w (L ++ F)) → (∀ p ∈ l1, o.apart ops p.1 = true) →
  wpF P ops w0 L0 Q (l1 ++ (o, fl) :: l2) L a → ∃ v, YvF P ops w0 L0 o v a
 | [], L, a, _, _, h => by
  rcases wpF_head h with ⟨_, v, hy, _⟩ | ⟨he, _⟩ | ⟨he, _⟩ | ⟨he, _⟩
  ·exact ⟨v, hy⟩
  ·rw [float_eff he] at ho; cases ho
  ·rw [ho] at he; cases he
  ·rw [ho] at he; cases he
 | (p, fp) :: l1, L, a, ⟨F, w, hp⟩, hap, h => by
  obtain ⟨q1, q2, q3⟩ := Oper.apart_spec (hap (p, fp) (by simp))
  have back : ∀ u v, YvF P ops w0 L0 o v (a.put p.dst u) → YvF P ops w0 L0 o v a := fun u v hy =>
   hy.same (execOp_put o hso a p.dst u q3).symm (wanted_put o a p.dst u q3).symm
  have hap' : ∀ x ∈ l1, o.apart ops x.1 = true := fun x hx => hap x (by simp [hx])
  rcases wpF_head h with ⟨_, u, _, h'⟩ | ⟨_, _, d, hat, h'⟩ | ⟨_, _, _, h'⟩ | ⟨_, _, h'⟩
  ·obtain ⟨v, hv⟩ := lexF_yield ho hso l1 _ _ ⟨F, w, hp⟩ hap' h'
   exact ⟨v, back _ _ hv⟩
  ·have hp2 : Hp w0 (w.alloc d.obj) ((d.res w.heap.size :: L) ++ F) := FD.new _ hp
   obtain ⟨v, hv⟩ := lexF_yield ho hso l1 _ _ ⟨F, _, hp2⟩ hap' (h' w.heap.size ⟨F, _, hp2⟩)
   exact ⟨v, back _ _ hv⟩
  ·obtain ⟨u, w', _, L', hp', h''⟩ := (h' F w hp).ex
   obtain ⟨v, hv⟩ := lexF_yield ho hso l1 _ _ ⟨F, w', hp'⟩ hap' h''
   exact ⟨v, back _ _ hv⟩
  ·obtain ⟨v, hv⟩ := lexF_yield ho hso l1 _ _ ⟨F, w, hp⟩ hap' h'
   exact ⟨v, back _ _ hv⟩
theorem Yv.uniq {C : World → Prop} {v u : Value} {a : Act} (hy : Yv P ops C o v a) (hu : Yv P ops C o u a) (hC : isLoad o = true → ∃ w, C w) : u = v := by
 rcases hy with ⟨hw, hy⟩ | ⟨hw, rfl⟩
 ·rcases hu with ⟨_, hu⟩ | ⟨hw', _⟩
  ·cases hk : kindOf o.op with
   | pure =>
    simp only [hk] at hy hu
    have := (hy default).symm.trans (hu default)
    injection this with this
    injection this with this
    exact this.symm
   | load =>
    simp only [hk] at hy hu
    obtain ⟨w, hc⟩ := hC (by simp [isLoad, hk])
    have := (hy w hc).symm.trans (hu w hc)
    injection this with this
    injection this with this
    exact this.symm
   | eff => simp only [hk] at hy
  ·rw [hw] at hw'; cases hw'
 ·rcases hu with ⟨hw', _⟩ | ⟨_, rfl⟩
  ·rw [hw] at hw'; cases hw'
  ·rfl
theorem YvF.uniq {v u : Value} {a : Act} (hy : YvF P ops w0 L0 o v a) (hu : YvF P ops w0 L0 o u a) (hC : isL true o = true → ∃ w, Hp w0 w L0) : a.put o.dst u = a.put o.dst v := by
 have no : ∀ {x : Value}, Yv P ops (fun w' => Hp w0 w' L0) o x a → isEff o = true → Region.wanted o (yielded ops a.tmps) = true → False := fun h1 h2 h3 => by
  rcases h1 with ⟨_, h1⟩ | ⟨h1, _⟩
  ·cases hk : kindOf o.op <;> simp [isEff, hk] at h2
   simp only [hk] at h1
  ·rw [h3] at h1; cases h1
 rcases hy with hy | ⟨h1, h2, h3, h4, h5⟩
 ·rcases hu with hu | ⟨g1, g2, g3, g4, g5⟩
  ·rw [hy.uniq hu fun hl => hC (by simp [isL, hl])]
  ·exact (no hy g3 g4).elim
 ·rcases hu with hu | ⟨g1, g2, g3, g4, g5⟩
  ·exact (no hu h3 h4).elim
  ·rw [h5.uniq g5]
theorem lexF_drop (ho : isE true o = false) (hso : NoSel o) {v : Value} (hC : isL true o = true → ∃ w, Hp w0 w L0) : ∀ (l1 : List (Oper × Bool)) (L : List Res) (a : Act), (∀ p ∈ l1, o.apart ops p.1 = true ∧ NoSel p.1) →
  YvF P ops w0 L0 o v a → wpF P ops w0 L0 Q (l1 ++ (o, fl) :: l2) L a → wpF P ops w0 L0 Q (l1 ++ l2) L (a.put o.dst v)
 | [], L, a, _, hy, h => by
  rcases wpF_head h with ⟨_, u, hu, h'⟩ | ⟨he, _⟩ | ⟨he, _⟩ | ⟨he, _⟩
  ·rw [← hy.uniq hu hC]
   exact h'
  ·rw [float_eff he] at ho; cases ho
  ·rw [ho] at he; cases he
  ·rw [ho] at he; cases he
 | (p, fp) :: l1, L, a, hap, hy, h => by
  obtain ⟨hap0, hsp⟩ := hap (p, fp) (by simp)
  obtain ⟨q1, q2, q3⟩ := Oper.apart_spec hap0
  have on : ∀ u, YvF P ops w0 L0 o v (a.put p.dst u) := fun u => hy.same (execOp_put o hso a p.dst u q3) (wanted_put o a p.dst u q3)
  have ep : execOp (a.put o.dst v).eval p = execOp a.eval p := execOp_put p hsp a o.dst v q1
  have wp' : Region.wanted p (yielded ops (a.put o.dst v).tmps) = Region.wanted p (yielded ops a.tmps) := wanted_put p a o.dst v q1
  have comm : ∀ u, (a.put p.dst u).put o.dst v = (a.put o.dst v).put p.dst u := fun u => (Act.put_comm a v u q2).symm
  have hap' : ∀ x ∈ l1, o.apart ops x.1 = true ∧ NoSel x.1 := fun x hx => hap x (by simp [hx])
  rcases wpF_head h with ⟨_, u, hu, h'⟩ | ⟨hf, hw, d, hat, h'⟩ | ⟨he, hf, hw, h'⟩ | ⟨he, hw, h'⟩
  ·have := lexF_drop ho hso hC l1 L _ hap' (on u) h'
   rw [comm] at this
   exact wpF_yv (hu.same ep wp') this
  ·refine wpF_float hf (by rw [wp']; exact hw) (hat.same ep) fun b hb => ?_
   have := lexF_drop ho hso hC l1 _ _ hap' (on _) (h' b hb)
   rw [comm] at this
   exact this
  ·refine wpF_eff he hf (by rw [wp']; exact hw) fun F w hp => DoesO.mono ep (h' F w hp) fun u w' ⟨k1, L', k2, k3⟩ => ⟨k1, L', k2, ?_⟩
   have := lexF_drop ho hso hC l1 _ _ hap' (on u) k3
   rw [comm] at this
   exact this
  ·have := lexF_drop ho hso hC l1 L _ hap' (on undef) h'
   rw [comm] at this
   exact wpF_skip (by rw [wp']; exact hw) this
theorem lexF_eff (ho : isE true o = true) (hnf : isFloat o = false) (hso : NoSel o) : ∀ (l1 : List (Oper × Bool)) (L : List Res) (a : Act), (∀ p ∈ l1, o.apart ops p.1 = true ∧ NoSel p.1 ∧ isE true p.1 = false) →
  wpF P ops w0 L0 Q (l1 ++ (o, fl) :: l2) L a →
  if Region.wanted o (yielded ops a.tmps) then ∀ F w, Hp w0 w (L ++ F) → DoesO P o a w fun a' w' => (fl = true → Hp w0 w' L0) ∧ ∃ L', Hp w0 w' (L' ++ F) ∧ wpF P ops w0 L0 Q (l1 ++ l2) L' a'
  else wpF P ops w0 L0 Q (l1 ++ l2) L (a.put o.dst undef)
 | [], L, a, _, h => by
  rcases wpF_head h with ⟨he, _⟩ | ⟨hf, _⟩ | ⟨_, _, hw, h'⟩ | ⟨_, hw, h'⟩
  ·rw [ho] at he; cases he
  ·rw [hf] at hnf; cases hnf
  ·rw [if_pos hw]; exact h'
  ·rw [if_neg (by simp [hw])]; exact h'
 | (p, fp) :: l1, L, a, hap, h => by
  obtain ⟨hap0, hsp, hpe⟩ := hap (p, fp) (by simp)
  obtain ⟨q1, q2, q3⟩ := Oper.apart_spec hap0
  have hap' : ∀ x ∈ l1, o.apart ops x.1 = true ∧ NoSel x.1 ∧ isE true x.1 = false := fun x hx => hap x (by simp [hx])
  rcases wpF_head h with ⟨_, u, hu, h'⟩ | ⟨hf, _⟩ | ⟨he, _⟩ | ⟨he, _⟩
  ·have ih := lexF_eff ho hnf hso l1 L _ hap' h'
   have keep : ∀ x, YvF P ops w0 L0 p u (a.put o.dst x) := fun x => hu.same (execOp_put p hsp a o.dst x q1) (wanted_put p a o.dst x q1)
   have comm : ∀ x, (a.put p.dst u).put o.dst x = (a.put o.dst x).put p.dst u := fun x => (Act.put_comm a x u q2).symm
   rw [wanted_put o a p.dst u q3] at ih
   split
   ·rename_i hw
    rw [if_pos hw] at ih
    refine fun F w hp => DoesO.mono (execOp_put o hso a p.dst u q3).symm (ih F w hp) fun x w' ⟨k1, L', k2, k3⟩ => ⟨k1, L', k2, ?_⟩
    rw [comm] at k3
    exact wpF_yv (keep x) k3
   ·rename_i hw
    rw [if_neg hw] at ih
    rw [comm] at ih
    exact wpF_yv (keep undef) ih
  ·rw [float_eff hf] at hpe; cases hpe
  ·rw [hpe] at he; cases he
  ·rw [hpe] at he; cases he
theorem lexF_float (hf : isFloat o = true) (hso : NoSel o) : ∀ (l1 : List (Oper × Bool)) (L : List Res) (a : Act), (∃ F w, Hp w0 w (L ++ F)) → (∀ p ∈ l1, o.apart ops p.1 = true ∧ NoSel p.1) →
  wpF P ops w0 L0 Q (l1 ++ (o, fl) :: l2) L a →
  if Region.wanted o (yielded ops a.tmps) then ∃ d, FloatAt P o a d ∧ ∀ b, (∃ F w, Hp w0 w ((d.res b :: L) ++ F)) → wpF P ops w0 L0 Q (l1 ++ l2) (d.res b :: L) (a.put o.dst (d.val b))
  else wpF P ops w0 L0 Q (l1 ++ l2) L (a.put o.dst undef)
 | [], L, a, _, _, h => by
  rcases wpF_head h with ⟨he, _⟩ | ⟨_, hw, h'⟩ | ⟨_, hn, _⟩ | ⟨_, hw, h'⟩
  ·rw [float_eff hf] at he; cases he
  ·rw [if_pos hw]; exact h'
  ·rw [hf] at hn; cases hn
  ·rw [if_neg (by simp [hw])]; exact h'
 | (p, fp) :: l1, L, a, ⟨F, w, hp⟩, hap, h => by
  obtain ⟨hap0, hsp⟩ := hap (p, fp) (by simp)
  obtain ⟨q1, q2, q3⟩ := Oper.apart_spec hap0
  have hap' : ∀ x ∈ l1, o.apart ops x.1 = true ∧ NoSel x.1 := fun x hx => hap x (by simp [hx])
  have eo : ∀ u, execOp (a.put p.dst u).eval o = execOp a.eval o := fun u => execOp_put o hso a p.dst u q3
  have wo : ∀ u, Region.wanted o (yielded ops (a.put p.dst u).tmps) = Region.wanted o (yielded ops a.tmps) := fun u => wanted_put o a p.dst u q3
  have ep : ∀ x, execOp (a.put o.dst x).eval p = execOp a.eval p := fun x => execOp_put p hsp a o.dst x q1
  have wp' : ∀ x, Region.wanted p (yielded ops (a.put o.dst x).tmps) = Region.wanted p (yielded ops a.tmps) := fun x => wanted_put p a o.dst x q1
  have comm : ∀ u x, (a.put p.dst u).put o.dst x = (a.put o.dst x).put p.dst u := fun u x => (Act.put_comm a x u q2).symm
  rcases wpF_head h with ⟨_, u, hu, h'⟩ | ⟨hpf, hw, d', hat', h'⟩ | ⟨he, hpf, hw, h'⟩ | ⟨he, hw, h'⟩
  ·have ih := lexF_float hf hso l1 L _ ⟨F, w, hp⟩ hap' h'
   rw [wo] at ih
   split
   ·rename_i hwo
    rw [if_pos hwo] at ih
    obtain ⟨d, hat, ih⟩ := ih
    refine ⟨d, hat.same (eo u).symm, fun b hb => ?_⟩
    have := ih b hb
    rw [comm] at this
    exact wpF_yv (hu.same (ep _) (wp' _)) this
   ·rename_i hwo
    rw [if_neg hwo, comm] at ih
    exact wpF_yv (hu.same (ep _) (wp' _)) ih
  ·have ih : ∀ b, (∃ F w, Hp w0 w ((d'.res b :: L) ++ F)) → _ := fun b hb => lexF_float hf hso l1 _ _ hb hap' (h' b hb)
   have hp2 : Hp w0 (w.alloc d'.obj) ((d'.res w.heap.size :: L) ++ F) := FD.new _ hp
   simp only [wo] at ih
   split
   ·rename_i hwo
    simp only [hwo, if_true] at ih
    obtain ⟨d, hat, _⟩ := ih _ ⟨F, _, hp2⟩
    have hat0 := hat.same (eo _).symm
    refine ⟨d, hat0, fun b hb => wpF_float hpf (by rw [wp']; exact hw) (hat'.same (ep _)) fun b' hb' => ?_⟩
    obtain ⟨F', w', hb'⟩ := hb'
    have sw : ∀ (c c' : Nat) (F : List Res) (w : World), Hp w0 w ((d'.res c :: d.res c' :: L) ++ F) → Hp w0 w ((d.res c' :: d'.res c :: L) ++ F) := fun c c' F w h => h.perm (List.Perm.swap _ _ _)
    have hb2 := sw _ _ _ _ hb'
    obtain ⟨d2, hat2, ih2⟩ := ih b' ⟨d.res b :: F', w', Hp.mid.1 hb2⟩
    obtain rfl := hat0.uniq (hat2.same (eo _).symm) default
    have := ih2 b ⟨F', w', hb2⟩
    rw [comm] at this
    exact wpF_sub _ _ _ _ (sw b' b) this
   ·rename_i hwo
    simp only [hwo, if_false] at ih
    refine wpF_float hpf (by rw [wp']; exact hw) (hat'.same (ep _)) fun b' hb' => ?_
    have := ih b' hb'
    rw [comm] at this
    exact this
  ·have ih : ∀ u L' F' w', Hp w0 w' (L' ++ F') → wpF P ops w0 L0 Q (l1 ++ (o, fl) :: l2) L' (a.put p.dst u) → _ := fun u L' F' w' hp' h'' => lexF_float hf hso l1 L' _ ⟨F', w', hp'⟩ hap' h''
   simp only [wo] at ih
   split
   ·rename_i hwo
    simp only [hwo, if_true] at ih
    obtain ⟨u, w', _, L', hp', h''⟩ := (h' F w hp).ex
    obtain ⟨d, hat, _⟩ := ih u L' F w' hp' h''
    have hat0 := hat.same (eo _).symm
    refine ⟨d, hat0, fun b hb => wpF_eff he hpf (by rw [wp']; exact hw) fun F1 w1 hp1 => DoesO.mono (ep _) (h' (d.res b :: F1) w1 (Hp.mid.1 hp1)) fun u1 w2 ⟨k1, L2, k2, k3⟩ => ⟨k1, d.res b :: L2, Hp.mid.2 k2, ?_⟩⟩
    obtain ⟨d2, hat2, ih2⟩ := ih u1 L2 _ w2 k2 k3
    obtain rfl := hat0.uniq (hat2.same (eo _).symm) default
    have := ih2 b ⟨F1, w2, Hp.mid.2 k2⟩
    rw [comm] at this
    exact this
   ·rename_i hwo
    simp only [hwo, if_false] at ih
    refine wpF_eff he hpf (by rw [wp']; exact hw) fun F1 w1 hp1 => DoesO.mono (ep _) (h' F1 w1 hp1) fun u1 w2 ⟨k1, L2, k2, k3⟩ => ⟨k1, L2, k2, ?_⟩
    have := ih u1 L2 _ w2 k2 k3
    rw [comm] at this
    exact this
  ·have ih := lexF_float hf hso l1 L _ ⟨F, w, hp⟩ hap' h'
   rw [wo] at ih
   split
   ·rename_i hwo
    rw [if_pos hwo] at ih
    obtain ⟨d, hat, ih⟩ := ih
    refine ⟨d, hat.same (eo _).symm, fun b hb => ?_⟩
    have := ih b hb
    rw [comm] at this
    exact wpF_skip (by rw [wp']; exact hw) this
   ·rename_i hwo
    rw [if_neg hwo, comm] at ih
    exact wpF_skip (by rw [wp']; exact hw) ih
end
def ancOf (acc : List Nat) (o : Oper) : Nat :=
 o.after.toList.foldl (fun m e => if Region.binds .any e then m ||| (1 <<< e.on) ||| (acc.getD e.on 0) else m) 0
def ancs : List Oper → List Nat → List Nat
 | [], acc => acc
 | o :: r, acc => ancs r (acc ++ [ancOf acc o])
def Closed (ops : Array Oper) (listed : Array Bool) : Prop :=
 ∀ j oj, ops[j]? = some oj → listed.getD j false = true → ∀ e ∈ oj.after, Region.binds .any e = true → listed.getD e.on false = true
theorem ancOf_sound {listed : Array Bool} {acc : List Nat} {o : Oper}
  (hacc : ∀ i j, (acc.getD i 0).testBit j = true → listed.getD i false = true → listed.getD j false = true)
  (hr : ∀ e ∈ o.after, Region.binds .any e = true → listed.getD e.on false = true) {j : Nat} (h : (ancOf acc o).testBit j = true) : listed.getD j false = true := by
 have key : ∀ (es : List Edge) (m : Nat), (∀ e ∈ es, Region.binds .any e = true → listed.getD e.on false = true) → (m.testBit j = true → listed.getD j false = true) →
   (es.foldl (fun m e => if Region.binds .any e then m ||| (1 <<< e.on) ||| (acc.getD e.on 0) else m) m).testBit j = true → listed.getD j false = true := by
  intro es
  induction es with
  | nil => intro m _ hm h; exact hm h
  | cons e es ih =>
   intro m he hm h
   simp only [List.foldl_cons] at h
   refine ih _ (fun x hx => he x (by simp [hx])) ?_ h
   intro hb
   split at hb
   ·rename_i hbd
    have hl := he e (by simp) hbd
    simp only [Nat.testBit_or, Bool.or_eq_true] at hb
    rcases hb with (hb | hb) | hb
    ·exact hm hb
    ·rw [Nat.one_shiftLeft, Nat.testBit_two_pow] at hb
     have : e.on = j := by simpa using hb
     rw [← this]; exact hl
    ·exact hacc _ _ hb hl
   ·exact hm hb
 exact key o.after.toList 0 (fun e he => hr e (by simpa using he)) (by simp) h
theorem ancs_sound {ops : Array Oper} {listed : Array Bool} (hc : Closed ops listed) : ∀ (l : List Oper) (acc : List Nat), (∀ j, l[j]? = ops[acc.length + j]?) →
  (∀ i j, (acc.getD i 0).testBit j = true → listed.getD i false = true → listed.getD j false = true) →
  ∀ i j, ((ancs l acc).getD i 0).testBit j = true → listed.getD i false = true → listed.getD j false = true
 | [], acc, _, hacc, i, j, h, hl => hacc i j h hl
 | o :: l, acc, hl0, hacc, i, j, h, hl => by
  refine ancs_sound hc l (acc ++ [ancOf acc o]) (fun k => ?_) ?_ i j h hl
  ·have := hl0 (k + 1)
   simp only [List.getElem?_cons_succ] at this
   rw [this]
   simp only [List.length_append, List.length_cons, List.length_nil]
   congr 1
   omega
  ·intro i j hb hli
   by_cases hi : i < acc.length
   ·rw [List.getD_eq_getElem?_getD, List.getElem?_append_left hi, ← List.getD_eq_getElem?_getD] at hb
    exact hacc i j hb hli
   ·by_cases hi2 : i = acc.length
    ·subst hi2
     rw [List.getD_eq_getElem?_getD, List.getElem?_append_right (Nat.le_refl _)] at hb
     simp at hb
     have ho : ops[acc.length]? = some o := by simpa using (hl0 0).symm
     exact ancOf_sound hacc (fun e he hbd => hc _ _ ho hli e he hbd) hb
    ·rw [List.getD_eq_getElem?_getD, List.getElem?_eq_none (by simp; omega)] at hb
     simp at hb
theorem ancs_prefix : ∀ (l : List Oper) (acc : List Nat) (i : Nat), i < acc.length → (ancs l acc)[i]? = acc[i]?
 | [], acc, i, _ => rfl
 | o :: l, acc, i, h => by rw [ancs, ancs_prefix l _ i (by simp; omega), List.getElem?_append_left h]
theorem ancs_at : ∀ (l : List Oper) (acc : List Nat) (k : Nat) (o : Oper), l[k]? = some o → ∃ acc', (∀ i, i < acc'.length → (ancs l acc)[i]? = acc'[i]?) ∧ (ancs l acc)[acc.length + k]? = some (ancOf acc' o)
 | [], acc, k, o, h => by simp at h
 | x :: l, acc, 0, o, h => by
  simp at h; subst h
  refine ⟨acc, fun i hi => ?_, ?_⟩
  ·rw [ancs, ancs_prefix l _ i (by simp; omega), List.getElem?_append_left hi]
  ·rw [ancs, Nat.add_zero, ancs_prefix l _ _ (by simp), List.getElem?_append_right (Nat.le_refl _)]
   simp
 | x :: l, acc, k + 1, o, h => by
  obtain ⟨acc', h1, h2⟩ := ancs_at l (acc ++ [ancOf acc x]) k o (by simpa using h)
  refine ⟨acc', fun i hi => by rw [ancs]; exact h1 i hi, ?_⟩
  rw [ancs, ← h2]
  congr 1
  simp
  omega
def noSelB (o : Oper) : Bool := match o.op with
 | .select _ _ => false
 | _ => true
theorem noSelB_spec {o : Oper} (h : noSelB o = true) : NoSel o := by
 intro cs b e
 simp [noSelB, e] at h
def pairB (fm : Bool) (ops : Array Oper) (A : List Nat) (i : Nat) (p : Oper) (fp : Bool) (j : Nat) (q : Oper) (fq : Bool) : Bool :=
 ((A.getD j 0).testBit i || (q.apart ops p && !(isE fm p && isE fm q && !(fm && isFloat q)) && !(isE fm q && isL fm p && !fq))) && !(isE fm p && isL fm q && !fp)
def pairsB (fm : Bool) (ops : Array Oper) (A : List Nat) (i : Nat) (p : Oper) (fp : Bool) : Nat → List (Oper × Bool) → Bool
 | _, [] => true
 | j, (q, fq) :: r => pairB fm ops A i p fp j q fq && pairsB fm ops A i p fp (j + 1) r
def allB (fm : Bool) (ops : Array Oper) (A : List Nat) : Nat → List (Oper × Bool) → Bool
 | _, [] => true
 | i, (p, fp) :: r => noSelB p && p.after.all (fun e => !Region.binds .any e || Nat.blt e.on i) && pairsB fm ops A i p fp (i + 1) r && allB fm ops A (i + 1) r
def flagOf (A : List Nat) (l : List Oper) (j : Nat) : Bool := l.zipIdx.any fun (p, i) => (isLoad p || isPc p) && !((A.getD j 0).testBit i)
def flagged (l : List Oper) : List (Oper × Bool) := let A := ancs l []; l.zipIdx.map fun (o, j) => (o, flagOf A l j)
def lexOk (ops : Array Oper) : Bool := allB false ops (ancs ops.toList []) 0 (flagged ops.toList)
def lexOkF (ops : Array Oper) : Bool := allB true ops (ancs ops.toList []) 0 (flagged ops.toList)
theorem getD_both {l : Array Bool} {i : Nat} (h : l.getD i true = false) : l.getD i false = false := by
 by_cases hi : i < l.size <;> simp_all [Array.getD]
theorem getD_in {l : Array Bool} {i : Nat} (hi : i < l.size) (h : l.getD i false = false) : l.getD i true = false := by
 simp_all [Array.getD]
theorem getD_replicate_false (m j : Nat) : (Array.replicate m false).getD j false = false := by
 by_cases hi : j < m <;> simp [Array.getD, hi]
abbrev T3 := Nat × Oper × Bool
def Rel (fm : Bool) (ops : Array Oper) (A : List Nat) (x y : T3) : Prop := x.1 < y.1 ∧ pairB fm ops A x.1 x.2.1 x.2.2 y.1 y.2.1 y.2.2 = true
def idx3 : Nat → List (Oper × Bool) → List T3
 | _, [] => []
 | i, (o, f) :: r => (i, o, f) :: idx3 (i + 1) r
theorem idx3_map : ∀ (l : List (Oper × Bool)) (i : Nat), (idx3 i l).map (·.2) = l
 | [], _ => rfl
 | (o, f) :: r, i => by simp [idx3, idx3_map r]
theorem idx3_mem : ∀ (l : List (Oper × Bool)) (i : Nat) (x : T3), x ∈ idx3 i l → i ≤ x.1 ∧ l[x.1 - i]? = some x.2
 | [], _, _, h => by simp [idx3] at h
 | (o, f) :: r, i, x, h => by
  simp only [idx3, List.mem_cons] at h
  rcases h with rfl | h
  ·simp
  ·obtain ⟨h1, h2⟩ := idx3_mem r (i + 1) x h
   refine ⟨by omega, ?_⟩
   rw [show x.1 - i = (x.1 - (i + 1)) + 1 by omega]
   simpa using h2
theorem idx3_has : ∀ (l : List (Oper × Bool)) (i j : Nat) (x : Oper × Bool), l[j]? = some x → (i + j, x) ∈ idx3 i l
 | [], _, _, _, h => by simp at h
 | (o, f) :: r, i, 0, x, h => by simp at h; subst h; simp [idx3]
 | (o, f) :: r, i, j + 1, x, h => by
  have := idx3_has r (i + 1) j x (by simpa using h)
  rw [show i + (j + 1) = i + 1 + j by omega]
  simp [idx3, this]
theorem pairsB_spec {fm : Bool} {ops : Array Oper} {A : List Nat} {i : Nat} {p : Oper} {fp : Bool} : ∀ (r : List (Oper × Bool)) (j : Nat), i < j → pairsB fm ops A i p fp j r = true →
  ∀ y ∈ idx3 j r, Rel fm ops A (i, p, fp) y
 | [], _, _, _, y, hy => by simp [idx3] at hy
 | (q, fq) :: r, j, hij, h, y, hy => by
  simp only [pairsB, Bool.and_eq_true] at h
  simp only [idx3, List.mem_cons] at hy
  rcases hy with rfl | hy
  ·exact ⟨hij, h.1⟩
  ·exact pairsB_spec r (j + 1) (by omega) h.2 y hy
structure Good (o : Oper) (i : Nat) : Prop where
 sel : NoSel o
 back : ∀ e ∈ o.after, Region.binds .any e = true → e.on < i
theorem allB_spec {fm : Bool} {ops : Array Oper} {A : List Nat} : ∀ (l : List (Oper × Bool)) (i : Nat), allB fm ops A i l = true → (idx3 i l).Pairwise (Rel fm ops A) ∧ ∀ x ∈ idx3 i l, Good x.2.1 x.1
 | [], _, _ => ⟨List.Pairwise.nil, fun x hx => by simp [idx3] at hx⟩
 | (p, fp) :: r, i, h => by
  simp only [allB, Bool.and_eq_true] at h
  obtain ⟨⟨⟨h1, h2⟩, h3⟩, h4⟩ := h
  obtain ⟨q1, q2⟩ := allB_spec r (i + 1) h4
  refine ⟨List.Pairwise.cons (pairsB_spec r (i + 1) (by omega) h3) q1, fun x hx => ?_⟩
  simp only [idx3, List.mem_cons] at hx
  rcases hx with rfl | hx
  ·refine ⟨noSelB_spec h1, fun e he hb => ?_⟩
   have := Array.all_eq_true_iff_forall_mem.1 h2 e he
   simp only [hb, Bool.not_true, Bool.false_or] at this
   simp [Nat.blt] at this
   omega
  ·exact q2 x hx
structure LexInv (fm : Bool) (ops : Array Oper) (A : List Nat) (r : List T3) (listed : Array Bool) : Prop where
 size : listed.size = ops.size
 closed : Closed ops listed
 has : ∀ i, i < ops.size → listed.getD i false = false → ∃ x ∈ r, x.1 = i
 not : ∀ x ∈ r, listed.getD x.1 false = false
 op : ∀ x ∈ r, ops[x.1]? = some x.2.1
 pair : r.Pairwise (Rel fm ops A)
 good : ∀ x ∈ r, Good x.2.1 x.1
theorem lex_any {P : Program} {ops : Array Oper} {C : World → Prop} {Q : Act → World → Prop} {Q' : Exit → Act → World → Prop} (hQ : ∀ a w, Q a w → Q' .normal a w) :
  ∀ (n : Nat) (r : List T3) (listed : Array Bool) (a : Act) (w : World), r.length = n → LexInv false ops (ancs ops.toList []) r listed → ((∃ x ∈ r, isLoad x.2.1 = true) → C w) →
   wpLex P ops C Q (r.map (·.2)) a w → wpAny P .any ops Q' n listed a w
 | 0, r, listed, a, w, hn, inv, _, h => by
  have hr : r = [] := List.length_eq_zero_iff.1 hn
  subst hr
  refine ⟨?_, hQ _ _ h⟩
  rw [List.eq_nil_iff_forall_not_mem]
  intro j hj
  obtain ⟨hun, oj, hoj, _⟩ := mem_ready.1 hj
  obtain ⟨x, hx, _⟩ := inv.has j (Array.getElem?_eq_some_iff.1 hoj).1 (getD_both hun)
  simp at hx
 | n + 1, r, listed, a, w, hn, inv, hC, h => by
  have hin : ∀ x ∈ r, listed.getD x.1 true = false := fun x hx => getD_in (by rw [inv.size]; exact (Array.getElem?_eq_some_iff.1 (inv.op x hx)).1) (inv.not x hx)
  refine ⟨fun h0 => ?_, fun i hi => ?_⟩
  ·-- the first that is left may come up
   exfalso
   match r, hn, inv, hin with
   | x :: r, _, inv, hin =>
    have : x.1 ∈ Region.ready .any ops listed := by
     rw [mem_ready]
     refine ⟨hin x (by simp), x.2.1, inv.op x (by simp), fun e he hb => ?_⟩
     have hlt := (inv.good x (by simp)).back e he hb
     have hxs := (Array.getElem?_eq_some_iff.1 (inv.op x (by simp))).1
     cases hl : listed.getD e.on false with
     | true => rfl
     | false =>
      obtain ⟨y, hy, hye⟩ := inv.has e.on (by omega) hl
      simp only [List.mem_cons] at hy
      rcases hy with rfl | hy
      ·omega
      ·have := (List.pairwise_cons.1 inv.pair).1 y hy
       have := this.1
       omega
    rw [h0] at this
    simp at this
  ·obtain ⟨hun, oi, hoi, hall⟩ := mem_ready.1 hi
   have his : i < ops.size := (Array.getElem?_eq_some_iff.1 hoi).1
   obtain ⟨x, hx, rfl⟩ := inv.has i his (getD_both hun)
   obtain ⟨r1, r2, rfl⟩ := List.append_of_mem hx
   obtain ⟨i, o, fl⟩ := x
   have hoo : oi = o := by
    have := inv.op (i, o, fl) hx
    rw [hoi] at this
    injection this
   subst hoo
   have hgood := inv.good (i, oi, fl) hx
   have hsel : NoSel oi := hgood.sel
   have hpw := inv.pair
   rw [List.pairwise_append, List.pairwise_cons] at hpw
   obtain ⟨pw1, ⟨pw2a, pw2⟩, pw3⟩ := hpw
   have hanc : ∀ y ∈ r1, ((ancs ops.toList []).getD i 0).testBit y.1 = false := by
    intro y hy
    cases hb : ((ancs ops.toList []).getD i 0).testBit y.1 with
    | false => rfl
    | true =>
     have hyl : listed.getD y.1 false = true := by
      obtain ⟨acc', k1, k2⟩ := ancs_at ops.toList [] i oi (by simpa using hoi)
      have hk : (ancs ops.toList []).getD i 0 = ancOf acc' oi := by
       rw [List.getD_eq_getElem?_getD]
       simp only [List.length_nil, Nat.zero_add] at k2
       rw [k2]; rfl
      rw [hk] at hb
      refine ancOf_sound (fun i' j' hb' hl' => ?_) hall hb
      refine ancs_sound inv.closed ops.toList [] (by simp) (by simp) i' j' ?_ hl'
      by_cases hlt : i' < acc'.length
      ·rw [List.getD_eq_getElem?_getD, k1 i' hlt, ← List.getD_eq_getElem?_getD]; exact hb'
      ·rw [List.getD_eq_getElem?_getD, List.getElem?_eq_none (by omega)] at hb'
       simp at hb'
     rw [inv.not y (by simp [hy])] at hyl
     cases hyl
   have hp1 : ∀ y ∈ r1, oi.apart ops y.2.1 = true ∧ (isEff y.2.1 && isEff oi) = false ∧ (isEff oi && isLoad y.2.1 && !fl) = false ∧ (isEff y.2.1 && isLoad oi && !y.2.2) = false := by
    intro y hy
    have := (pw3 y hy (i, oi, fl) (by simp)).2
    simp only [pairB, isE_false, isL_false, hanc y hy, Bool.false_or, Bool.false_and, Bool.not_false, Bool.and_true, Bool.and_eq_true, Bool.not_eq_true'] at this
    exact ⟨this.1.1.1, this.1.1.2, this.1.2, this.2⟩
   have hp2 : ∀ y ∈ r2, (isEff oi && isLoad y.2.1 && !fl) = false := by
    intro y hy
    have := (pw2a y hy).2
    simp only [pairB, isE_false, isL_false, Bool.and_eq_true, Bool.not_eq_true'] at this
    exact this.2
   have inv' : LexInv false ops (ancs ops.toList []) (r1 ++ r2) (listed.setIfInBounds i true) := by
    have hne : ∀ y ∈ r1 ++ r2, y.1 ≠ i := by
     intro y hy
     rcases List.mem_append.1 hy with hy | hy
     ·have := (pw3 y hy (i, oi, fl) (by simp)).1; simp at this; omega
     ·have := (pw2a y hy).1; simp at this; omega
    have hsub : ∀ y ∈ r1 ++ r2, y ∈ r1 ++ (i, oi, fl) :: r2 := fun y hy => by
     rcases List.mem_append.1 hy with hy | hy <;> simp [hy]
    refine ⟨by simp [inv.size], fun j oj hoj hl e he hb => ?_, fun j hj hl => ?_, fun y hy => ?_, fun y hy => inv.op y (hsub y hy), ?_, fun y hy => inv.good y (hsub y hy)⟩
    ·by_cases hij : i = j
     ·subst hij
      have : oj = oi := by rw [hoi] at hoj; injection hoj with hoj; exact hoj.symm
      subst this
      exact getD_set_true (hall e he hb)
     ·rw [getD_set_ne false hij] at hl
      exact getD_set_true (inv.closed j oj hoj hl e he hb)
    ·by_cases hij : i = j
     ·subst hij
      simp [inv.size, hj] at hl
     ·rw [getD_set_ne false hij] at hl
      obtain ⟨y, hy, hye⟩ := inv.has j hj hl
      refine ⟨y, ?_, hye⟩
      rcases List.mem_append.1 hy with hy | hy
      ·simp [hy]
      ·simp only [List.mem_cons] at hy
       rcases hy with rfl | hy
       ·exact absurd hye hij
       ·simp [hy]
    ·rw [getD_set_ne false (Ne.symm (hne y hy))]
     exact inv.not y (hsub y hy)
    ·rw [List.pairwise_append]
     exact ⟨pw1, pw2, fun x hx y hy => pw3 x hx y (by simp [hy])⟩
   have hlen : (r1 ++ r2).length = n := by simp at hn ⊢; omega
   have next : ∀ a' w', ((∃ x ∈ r1 ++ r2, isLoad x.2.1 = true) → C w') → wpLex P ops C Q ((r1 ++ r2).map (·.2)) a' w' → wpAny P .any ops Q' n (listed.setIfInBounds i true) a' w' :=
    fun a' w' hc hl => lex_any hQ n (r1 ++ r2) _ a' w' hlen inv' hc hl
   simp only [List.map_append, List.map_cons] at h
   unfold wpOp
   simp only [hoi]
   have hload : (∃ x ∈ r1 ++ r2, isLoad x.2.1 = true) → C w := fun ⟨y, hy, hyl⟩ => hC ⟨y, by rcases List.mem_append.1 hy with hy | hy <;> simp [hy], hyl⟩
   by_cases he : isEff oi = true
   ·have hlx := lex_eff he hsel (r1.map (·.2)) a w (fun p hp => by
     obtain ⟨y, hy, rfl⟩ := List.mem_map.1 hp
     obtain ⟨k1, k2, _, _⟩ := hp1 y hy
     exact ⟨k1, (inv.good y (by simp [hy])).sel, by simpa [he] using k2⟩) h
    split
    ·rename_i hw
     rw [if_pos hw] at hlx
     refine .inl (DoesO.wp (DoesO.mono rfl hlx fun v w' ⟨k1, k2⟩ => next _ _ (fun ⟨y, hy, hyl⟩ => ?_) (by rw [List.map_append]; exact k2)))
     cases hfl : fl with
     | true => exact k1 hfl
     | false =>
      subst hfl
      rcases List.mem_append.1 hy with hy | hy
      ·have := (hp1 y hy).2.2.1; simp [he, hyl] at this
      ·have := hp2 y hy; simp [he, hyl] at this
    ·rename_i hw
     rw [if_neg hw] at hlx
     exact next _ _ hload (by rw [List.map_append]; exact hlx)
   ·have he' : isEff oi = false := by simpa using he
    obtain ⟨v, hv⟩ := lex_yield he' hsel (r1.map (·.2)) a w (fun p hp => by
     obtain ⟨y, hy, rfl⟩ := List.mem_map.1 hp
     exact (hp1 y hy).1) h
    have hd := lex_drop he' hsel (r1.map (·.2)) a w (fun p hp => by
     obtain ⟨y, hy, rfl⟩ := List.mem_map.1 hp
     exact ⟨(hp1 y hy).1, (inv.good y (by simp [hy])).sel⟩) (fun hl => ⟨hC ⟨(i, oi, fl), by simp, hl⟩, fun p hp hpe => by
     obtain ⟨y, hy, rfl⟩ := List.mem_map.1 hp
     have := (hp1 y hy).2.2.2
     simpa [hpe, hl] using this⟩) hv h
    have hone := hv.one (w := w) (fun hl => hC ⟨(i, oi, fl), by simp, hl⟩) (K := wpAny P .any ops Q' n (listed.setIfInBounds i true)) (next _ _ hload (by rw [List.map_append]; exact hd))
    split
    ·rename_i hw
     rw [if_pos hw] at hone
     exact .inl hone.wp
    ·rename_i hw
     rw [if_neg hw] at hone
     exact hone
theorem lex_anyF {P : Program} {ops : Array Oper} {w0 : World} {L0 : List Res} {Q : Act → World → Prop} {Q' : Exit → Act → World → Prop} (hQ : ∀ a w, Q a w → Q' .normal a w) :
  ∀ (n : Nat) (r : List T3) (listed : Array Bool) (a : Act) (w : World) (L F : List Res), r.length = n → LexInv true ops (ancs ops.toList []) r listed → Hp w0 w (L ++ F) → ((∃ x ∈ r, isL true x.2.1 = true) → Hp w0 w L0) →
   wpF P ops w0 L0 Q (r.map (·.2)) L a → wpAny P .any ops Q' n listed a w
 | 0, r, listed, a, w, L, F, hn, inv, hp, _, h => by
  have hr : r = [] := List.length_eq_zero_iff.1 hn
  subst hr
  refine ⟨?_, hQ _ _ (h w (hp.sub (List.sublist_append_left L F)))⟩
  rw [List.eq_nil_iff_forall_not_mem]
  intro j hj
  obtain ⟨hun, oj, hoj, _⟩ := mem_ready.1 hj
  obtain ⟨x, hx, _⟩ := inv.has j (Array.getElem?_eq_some_iff.1 hoj).1 (getD_both hun)
  simp at hx
 | n + 1, r, listed, a, w, L, F, hn, inv, hp, hC, h => by
  have hin : ∀ x ∈ r, listed.getD x.1 true = false := fun x hx => getD_in (by rw [inv.size]; exact (Array.getElem?_eq_some_iff.1 (inv.op x hx)).1) (inv.not x hx)
  refine ⟨fun h0 => ?_, fun i hi => ?_⟩
  ·-- the first that is left may come up
   exfalso
   match r, hn, inv, hin with
   | x :: r, _, inv, hin =>
    have : x.1 ∈ Region.ready .any ops listed := by
     rw [mem_ready]
     refine ⟨hin x (by simp), x.2.1, inv.op x (by simp), fun e he hb => ?_⟩
     have hlt := (inv.good x (by simp)).back e he hb
     have hxs := (Array.getElem?_eq_some_iff.1 (inv.op x (by simp))).1
     cases hl : listed.getD e.on false with
     | true => rfl
     | false =>
      obtain ⟨y, hy, hye⟩ := inv.has e.on (by omega) hl
      simp only [List.mem_cons] at hy
      rcases hy with rfl | hy
      ·omega
      ·have := (List.pairwise_cons.1 inv.pair).1 y hy
       have := this.1
       omega
    rw [h0] at this
    simp at this
  ·obtain ⟨hun, oi, hoi, hall⟩ := mem_ready.1 hi
   have his : i < ops.size := (Array.getElem?_eq_some_iff.1 hoi).1
   obtain ⟨x, hx, rfl⟩ := inv.has i his (getD_both hun)
   obtain ⟨r1, r2, rfl⟩ := List.append_of_mem hx
   obtain ⟨i, o, fl⟩ := x
   have hoo : oi = o := by
    have := inv.op (i, o, fl) hx
    rw [hoi] at this
    injection this
   subst hoo
   have hgood := inv.good (i, oi, fl) hx
   have hsel : NoSel oi := hgood.sel
   have hpw := inv.pair
   rw [List.pairwise_append, List.pairwise_cons] at hpw
   obtain ⟨pw1, ⟨pw2a, pw2⟩, pw3⟩ := hpw
   have hanc : ∀ y ∈ r1, ((ancs ops.toList []).getD i 0).testBit y.1 = false := by
    intro y hy
    cases hb : ((ancs ops.toList []).getD i 0).testBit y.1 with
    | false => rfl
    | true =>
     have hyl : listed.getD y.1 false = true := by
      obtain ⟨acc', k1, k2⟩ := ancs_at ops.toList [] i oi (by simpa using hoi)
      have hk : (ancs ops.toList []).getD i 0 = ancOf acc' oi := by
       rw [List.getD_eq_getElem?_getD]
       simp only [List.length_nil, Nat.zero_add] at k2
       rw [k2]; rfl
      rw [hk] at hb
      refine ancOf_sound (fun i' j' hb' hl' => ?_) hall hb
      refine ancs_sound inv.closed ops.toList [] (by simp) (by simp) i' j' ?_ hl'
      by_cases hlt : i' < acc'.length
      ·rw [List.getD_eq_getElem?_getD, k1 i' hlt, ← List.getD_eq_getElem?_getD]; exact hb'
      ·rw [List.getD_eq_getElem?_getD, List.getElem?_eq_none (by omega)] at hb'
       simp at hb'
     rw [inv.not y (by simp [hy])] at hyl
     cases hyl
   have hp1 : ∀ y ∈ r1, oi.apart ops y.2.1 = true ∧ (isE true y.2.1 && isE true oi && !isFloat oi) = false ∧ (isE true oi && isL true y.2.1 && !fl) = false ∧ (isE true y.2.1 && isL true oi && !y.2.2) = false := by
    intro y hy
    have := (pw3 y hy (i, oi, fl) (by simp)).2
    simp only [pairB, hanc y hy, Bool.false_or, Bool.true_and, Bool.and_eq_true, Bool.not_eq_true'] at this
    exact ⟨this.1.1.1, this.1.1.2, this.1.2, this.2⟩
   have hp2 : ∀ y ∈ r2, (isE true oi && isL true y.2.1 && !fl) = false := by
    intro y hy
    have := (pw2a y hy).2
    simp only [pairB, Bool.and_eq_true, Bool.not_eq_true'] at this
    exact this.2
   have inv' : LexInv true ops (ancs ops.toList []) (r1 ++ r2) (listed.setIfInBounds i true) := by
    have hne : ∀ y ∈ r1 ++ r2, y.1 ≠ i := by
     intro y hy
     rcases List.mem_append.1 hy with hy | hy
     ·have := (pw3 y hy (i, oi, fl) (by simp)).1; simp at this; omega
     ·have := (pw2a y hy).1; simp at this; omega
    have hsub : ∀ y ∈ r1 ++ r2, y ∈ r1 ++ (i, oi, fl) :: r2 := fun y hy => by
     rcases List.mem_append.1 hy with hy | hy <;> simp [hy]
    refine ⟨by simp [inv.size], fun j oj hoj hl e he hb => ?_, fun j hj hl => ?_, fun y hy => ?_, fun y hy => inv.op y (hsub y hy), ?_, fun y hy => inv.good y (hsub y hy)⟩
    ·by_cases hij : i = j
     ·subst hij
      have : oj = oi := by rw [hoi] at hoj; injection hoj with hoj; exact hoj.symm
      subst this
      exact getD_set_true (hall e he hb)
     ·rw [getD_set_ne false hij] at hl
      exact getD_set_true (inv.closed j oj hoj hl e he hb)
    ·by_cases hij : i = j
     ·subst hij
      simp [inv.size, hj] at hl
     ·rw [getD_set_ne false hij] at hl
      obtain ⟨y, hy, hye⟩ := inv.has j hj hl
      refine ⟨y, ?_, hye⟩
      rcases List.mem_append.1 hy with hy | hy
      ·simp [hy]
      ·simp only [List.mem_cons] at hy
       rcases hy with rfl | hy
       ·exact absurd hye hij
       ·simp [hy]
    ·rw [getD_set_ne false (Ne.symm (hne y hy))]
     exact inv.not y (hsub y hy)
    ·rw [List.pairwise_append]
     exact ⟨pw1, pw2, fun x hx y hy => pw3 x hx y (by simp [hy])⟩
   have hlen : (r1 ++ r2).length = n := by simp at hn ⊢; omega
   have next : ∀ a' w' L', Hp w0 w' (L' ++ F) → ((∃ x ∈ r1 ++ r2, isL true x.2.1 = true) → Hp w0 w' L0) → wpF P ops w0 L0 Q ((r1 ++ r2).map (·.2)) L' a' → wpAny P .any ops Q' n (listed.setIfInBounds i true) a' w' :=
    fun a' w' L' hp' hc hl => lex_anyF hQ n (r1 ++ r2) _ a' w' L' F hlen inv' hp' hc hl
   simp only [List.map_append, List.map_cons] at h
   unfold wpOp
   simp only [hoi]
   have hload : (∃ x ∈ r1 ++ r2, isL true x.2.1 = true) → Hp w0 w L0 := fun ⟨y, hy, hyl⟩ => hC ⟨y, by rcases List.mem_append.1 hy with hy | hy <;> simp [hy], hyl⟩
   by_cases hfo : isFloat oi = true
   ·have hlx := lexF_float hfo hsel (r1.map (·.2)) L a ⟨F, w, hp⟩ (fun p hp => by
     obtain ⟨y, hy, rfl⟩ := List.mem_map.1 hp
     exact ⟨(hp1 y hy).1, (inv.good y (by simp [hy])).sel⟩) h
    split
    ·rename_i hw
     rw [if_pos hw] at hlx
     obtain ⟨d, hat, hlx⟩ := hlx
     have hp2 : Hp w0 (w.alloc d.obj) ((d.res w.heap.size :: L) ++ F) := FD.new _ hp
     refine .inl (DoesO.wp (K := wpAny P .any ops Q' n (listed.setIfInBounds i true)) ?_)
     unfold DoesO
     rw [hat w]
     exact next _ _ _ hp2 (fun hl => (hload hl).ext (Ext.alloc _ _)) (by rw [List.map_append]; exact hlx _ ⟨F, _, hp2⟩)
    ·rename_i hw
     rw [if_neg hw] at hlx
     exact next _ _ _ hp hload (by rw [List.map_append]; exact hlx)
   have hfo' : isFloat oi = false := by simpa using hfo
   by_cases he : isE true oi = true
   ·have hlx := lexF_eff he hfo' hsel (r1.map (·.2)) L a (fun p hp => by
     obtain ⟨y, hy, rfl⟩ := List.mem_map.1 hp
     obtain ⟨k1, k2, _, _⟩ := hp1 y hy
     exact ⟨k1, (inv.good y (by simp [hy])).sel, by simpa [he, hfo'] using k2⟩) h
    split
    ·rename_i hw
     rw [if_pos hw] at hlx
     refine .inl (DoesO.wp (DoesO.mono rfl (hlx F w hp) fun v w' ⟨k1, L', k2, k3⟩ => next _ _ L' k2 (fun ⟨y, hy, hyl⟩ => ?_) (by rw [List.map_append]; exact k3)))
     cases hfl : fl with
     | true => exact k1 hfl
     | false =>
      subst hfl
      rcases List.mem_append.1 hy with hy | hy
      ·have := (hp1 y hy).2.2.1; simp [he, hyl] at this
      ·have := hp2 y hy; simp [he, hyl] at this
    ·rename_i hw
     rw [if_neg hw] at hlx
     exact next _ _ _ hp hload (by rw [List.map_append]; exact hlx)
   ·have he' : isE true oi = false := by simpa using he
    obtain ⟨v, hv⟩ := lexF_yield he' hsel (r1.map (·.2)) L a ⟨F, w, hp⟩ (fun p hp => by
     obtain ⟨y, hy, rfl⟩ := List.mem_map.1 hp
     exact (hp1 y hy).1) h
    have hd := lexF_drop he' hsel (fun hl => ⟨w, hC ⟨(i, oi, fl), by simp, hl⟩⟩) (r1.map (·.2)) L a (fun p hp => by
     obtain ⟨y, hy, rfl⟩ := List.mem_map.1 hp
     exact ⟨(hp1 y hy).1, (inv.good y (by simp [hy])).sel⟩) hv h
    have hone := hv.one (w := w) (fun hl => hC ⟨(i, oi, fl), by simp, hl⟩) (K := wpAny P .any ops Q' n (listed.setIfInBounds i true)) (fun w' hx => next _ _ _ (hp.ext hx) (fun hl => (hload hl).ext hx) (by rw [List.map_append]; exact hd))
    split
    ·rename_i hw
     rw [if_pos hw] at hone
     exact .inl hone.wp
    ·rename_i hw
     rw [if_neg hw] at hone
     exact hone
theorem flagged_map (l : List Oper) : (flagged l).map (·.1) = l := by
 unfold flagged
 simp only [List.map_map]
 have : ((fun x => x.1) ∘ fun (x : Oper × Nat) => (x.1, flagOf (ancs l []) l x.2)) = fun x => x.1 := rfl
 rw [this]
 simp
theorem wp_region_lex {P : Program} {id : Nat} {ops : Array Oper} {Q : Exit → Act → World → Prop} {a : Act} {w : World} (C : World → Prop)
  (hm : P.follows .mixedOrders = true) (hB : lexOk ops = true) (hC : C { w with drawn := w.drawn + 1 })
  (h : wpLex P ops C (fun a' w' => Q .normal a' w') (flagged ops.toList) a { w with drawn := w.drawn + 1 }) : (Code.region id ops true).wp P Q a w := by
 refine wp_region_any hm ?_
 obtain ⟨h1, h2⟩ := allB_spec (flagged ops.toList) 0 hB
 have hfl : ∀ k : Nat, ((flagged ops.toList)[k]?).map (fun x : Oper × Bool => x.1) = ops[k]? := fun k => by
  have := congrArg (fun l => l[k]?) (flagged_map ops.toList)
  simpa using this
 have hlen : (idx3 0 (flagged ops.toList)).length = ops.size := by
  have := congrArg List.length (idx3_map (flagged ops.toList) 0)
  have h3 := congrArg List.length (flagged_map ops.toList)
  simp at this h3
  omega
 refine lex_any (C := C) (fun a w h => h) ops.size (idx3 0 (flagged ops.toList)) (Array.replicate ops.size false) a _ hlen ⟨by simp, ?_, ?_, ?_, ?_, h1, h2⟩ (fun _ => hC) (by rw [idx3_map]; exact h)
 ·intro j oj _ hl
  exfalso
  rw [getD_replicate_false] at hl
  cases hl
 ·intro i hi _
  have hg : ((flagged ops.toList)[i]?).map (·.1) = some ops[i] := by rw [hfl i]; exact Array.getElem?_eq_getElem hi
  cases hq : (flagged ops.toList)[i]? with
  | none => simp [hq] at hg
  | some x =>
   refine ⟨(i, x), ?_, rfl⟩
   have := idx3_has (flagged ops.toList) 0 i x hq
   simpa using this
 ·intro x _
  exact getD_replicate_false _ _
 ·intro x hx
  obtain ⟨_, hx2⟩ := idx3_mem _ _ _ hx
  have := hfl x.1
  simp only [Nat.sub_zero] at hx2
  rw [hx2] at this
  simpa using this.symm
theorem wp_region_lexF {P : Program} {id : Nat} {ops : Array Oper} {Q : Exit → Act → World → Prop} {a : Act} {w w0 : World} {L L0 : List Res}
  (hm : P.follows .mixedOrders = true) (hB : lexOkF ops = true) (hC : Hp w0 w L) (hC0 : Hp w0 w L0)
  (h : wpF P ops w0 L0 (fun a' w' => Q .normal a' w') (flagged ops.toList) L a) : (Code.region id ops true).wp P Q a w := by
 refine wp_region_any hm ?_
 obtain ⟨h1, h2⟩ := allB_spec (flagged ops.toList) 0 hB
 have hfl : ∀ k : Nat, ((flagged ops.toList)[k]?).map (fun x : Oper × Bool => x.1) = ops[k]? := fun k => by
  have := congrArg (fun l => l[k]?) (flagged_map ops.toList)
  simpa using this
 have hlen : (idx3 0 (flagged ops.toList)).length = ops.size := by
  have := congrArg List.length (idx3_map (flagged ops.toList) 0)
  have h3 := congrArg List.length (flagged_map ops.toList)
  simp at this h3
  omega
 have hC2 : Hp w0 { w with drawn := w.drawn + 1 } L := hC.ext (Ext.drawn w)
 refine lex_anyF (fun a w h => h) ops.size (idx3 0 (flagged ops.toList)) (Array.replicate ops.size false) a _ L [] hlen ⟨by simp, ?_, ?_, ?_, ?_, h1, h2⟩ (by simpa using hC2) (fun _ => hC0.ext (Ext.drawn w)) (by rw [idx3_map]; exact h)
 ·intro j oj _ hl
  exfalso
  rw [getD_replicate_false] at hl
  cases hl
 ·intro i hi _
  have hg : ((flagged ops.toList)[i]?).map (·.1) = some ops[i] := by rw [hfl i]; exact Array.getElem?_eq_getElem hi
  cases hq : (flagged ops.toList)[i]? with
  | none => simp [hq] at hg
  | some x =>
   refine ⟨(i, x), ?_, rfl⟩
   have := idx3_has (flagged ops.toList) 0 i x hq
   simpa using this
 ·intro x _
  exact getD_replicate_false _ _
 ·intro x hx
  obtain ⟨_, hx2⟩ := idx3_mem _ _ _ hx
  have := hfl x.1
  simp only [Nat.sub_zero] at hx2
  rw [hx2] at this
  simpa using this.symm
end Go.Xw
