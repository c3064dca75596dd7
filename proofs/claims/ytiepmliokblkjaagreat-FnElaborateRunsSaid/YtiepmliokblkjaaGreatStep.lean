/- The rules for appends, makes, slice literals and stores on rows of the call's own; each under its stated conditions. -/
import Derived.Test.YtiepmliokblkjaaGreatBits
set_option linter.all false
namespace Go.Xw
open Go.RowKit
theorem wi {z:Int}(h: -9223372036854775808<=z/\z<=9223372036854775807):IntKind.i64.wrap z=z:=IntWalk.i64_in z h
theorem wu {z:Int}(h:0<=z/\z<=18446744073709551615):IntKind.u64.wrap z=z:=IntWalk.u64_in z h
theorem wb {z:Int}(h:0<=z/\z<=255):IntKind.u8.wrap z=z:=IntWalk.u8_in z h
theorem Sl.nn {w:World}{a:Option Addr}{n sz:Nat}{f:Nat->Nat->Value}(h:Sl w a n sz f)(hn:0<n):a≠none:=h.1 hn
section
variable {S:ak} {sz:Nat} {R:Value->World->Prop} {C:World->Prop} {w:World} {g':G} {cc:List Prop}
theorem xz {k:List Item}{env:Env}[hS:S.Ok](h:run S sz 400 (.code k env) []=(g',cc))(hg:ax S sz R C w g')(ho:ir cc:=by((repeat' apply And.intro)<;>first|exact trivial|omega|exact wi (by omega)|exact wu (by omega)|exact wb (by omega)|(refine Sl.nn (by assumption) ?_;omega)|(refine bW (by assumption) ?_;omega)|exact Option.some_ne_none _|assumption|decide)):ax S sz R C w (.code k env):=
 (dt hS 400 _ [] g' cc h trivial ho hg).1
theorem CV {b:Bool}{k1 k2:List Item}{env:Env}[hS:S.Ok](hb:b=true)(h:run S sz 400 (.code k1 env) []=(g',cc))(hg:ax S sz R C w g')(ho:ir cc:=by((repeat' apply And.intro)<;>first|exact trivial|omega|exact wi (by omega)|exact wu (by omega)|exact wb (by omega)|(refine Sl.nn (by assumption) ?_;omega)|(refine bW (by assumption) ?_;omega)|exact Option.some_ne_none _|assumption|decide)):ax S sz R C w (.cond b k1 k2 env):=by
 subst hb;exact xz h hg ho
theorem mE {b:Bool}{k1 k2:List Item}{env:Env}[hS:S.Ok](hb:b=false)(h:run S sz 400 (.code k2 env) []=(g',cc))(hg:ax S sz R C w g')(ho:ir cc:=by((repeat' apply And.intro)<;>first|exact trivial|omega|exact wi (by omega)|exact wu (by omega)|exact wb (by omega)|(refine Sl.nn (by assumption) ?_;omega)|(refine bW (by assumption) ?_;omega)|exact Option.some_ne_none _|assumption|decide)):ax S sz R C w (.cond b k1 k2 env):=by
 subst hb;exact xz h hg ho
theorem ae {p:Prop}{d:Decidable p}{k1 k2:List Item}{env:Env}(h1:p->ax S sz R C w (.cond true k1 k2 env))(h2:¬p->ax S sz R C w (.cond false k1 k2 env)):
  ax S sz R C w (.cond (@decide p d) k1 k2 env):=by
 by_cases h:p
 ·rw[show decide p=true from decide_eq_true h];exact h1 h
 ·rw[show decide p=false from decide_eq_false h];exact h2 h
theorem qo {p:Prop}{d:Decidable p}{k1 k2:List Item}{env:Env}(h1:¬p->ax S sz R C w (.cond true k1 k2 env))(h2:p->ax S sz R C w (.cond false k1 k2 env)):
  ax S sz R C w (.cond (!(@decide p d)) k1 k2 env):=by
 by_cases h:p
 ·rw[show decide p=true from decide_eq_true h];exact h2 h
 ·rw[show decide p=false from decide_eq_false h];exact h1 h
theorem lh {b:Bool}{k1 k2:List Item}{env:Env}(h1:b=true->ax S sz R C w (.cond true k1 k2 env))(h2:b=false->ax S sz R C w (.cond false k1 k2 env)):
  ax S sz R C w (.cond b k1 k2 env):=by
 cases b
 ·exact h2 rfl
 ·exact h1 rfl
theorem ml {q b want:Bool}{ops:Array Oper}{o:Oper}{rest:List Oper}{k:List Item}{env:Env}[hS:S.Ok](hb:b=want)(hp:q=true->∃pre,ops.toList=pre++o::rest)
  (h:run S sz 400 (.HE q ops o rest k env) []=(g',cc)) (hg:ax S sz R C w g') (ho:ir cc:=by((repeat' apply And.intro)<;>first|exact trivial|omega|exact wi (by omega)|exact wu (by omega)|exact wb (by omega)|(refine Sl.nn (by assumption) ?_;omega)|(refine bW (by assumption) ?_;omega)|exact Option.some_ne_none _|assumption|decide)):ax S sz R C w (.guard q b want ops o rest k env):=by
 show(if b=want then _ else _)
 rw[if_pos hb];exact(dt hS 400 _ [] g' cc h hp ho hg).1
theorem mm {q b want:Bool}{ops:Array Oper}{o:Oper}{rest:List Oper}{k:List Item}{env:Env}[hS:S.Ok](hb:b= !want)(hp:q=true->∃pre,ops.toList=pre++o::rest)
  (h:run S sz 400 (.ops q ops rest k (jo env o.dst undef)) []=(g',cc)) (hg:ax S sz R C w g') (ho:ir cc:=by((repeat' apply And.intro)<;>first|exact trivial|omega|exact wi (by omega)|exact wu (by omega)|exact wb (by omega)|(refine Sl.nn (by assumption) ?_;omega)|(refine bW (by assumption) ?_;omega)|exact Option.some_ne_none _|assumption|decide)):ax S sz R C w (.guard q b want ops o rest k env):=by
 show(if b=want then _ else _)
 rw[if_neg (by subst hb;cases want<;>decide)];exact(dt hS 400 _ [] g' cc h (og hp) ho hg).1
theorem o9 {q:Bool}{ops:Array Oper}{l:List Oper}{k:List Item}{env:Env}[hS:S.Ok](hp:q=true->∃pre,ops.toList=pre++l)
  (h:run S sz 400 (.ops q ops l k env) []=(g',cc)) (hg:ax S sz R C w g') (ho:ir cc:=by((repeat' apply And.intro)<;>first|exact trivial|omega|exact wi (by omega)|exact wu (by omega)|exact wb (by omega)|(refine Sl.nn (by assumption) ?_;omega)|(refine bW (by assumption) ?_;omega)|exact Option.some_ne_none _|assumption|decide)):ax S sz R C w (.ops q ops l k env):=
 (dt hS 400 _ [] g' cc h hp ho hg).1
theorem xA {P:Program}{f:FuncId}{args:List Value}{fn:Func}(hf:P.funcs[f]?=some fn)(fD:(fn.name== "runtime.NumGoroutine")=false)(hb:fn.body.isNone=false)(w:World):
  (Action.call f args).lO.run P w= .ok (.enter f ⟨args⟩) w:=by
 simp only[Action.lO,callFunc,Sem.run_bind,run_program,Result.andThen_ok,hf,fD,hb,Bool.false_eq_true,if_false,Sem.run_pure]
theorem Jd {f:FuncId}{args:List Value}{c:sC}{Q:Value->World->Prop}{fn:Func}(hq:c.q=false)(hf:S.P.funcs[f]?=some fn)(fD:(fn.name== "runtime.NumGoroutine")=false)(hb:fn.body.isNone=false)
  (h:bN S.P f args w Q) (hk:∀v w',Q v w'->ax S sz R C w' (.ops false c.ops c.rest c.k (jo c.env c.dst v))):ax S sz R C w (.act (.call f args) c):=by
 show qi _ _ _ _ _ _ _
 unfold qi
 rw[hq]
 show mB _ _ _ _
 unfold mB
 rw[xA hf fD hb]
 exact Calls.mono h fun e w' ⟨v,he,q⟩=>⟨v,he,hk v w' q⟩
theorem LF {f:FuncId}{args:List Value}{c:sC}{Q:Value->World->Prop}{fn:Func}(hq:c.q=true)(hf:S.P.funcs[f]?=some fn)(fD:(fn.name== "runtime.NumGoroutine")=false)(hb:fn.body.isNone=false)
  (h:bN S.P f args w Q) (hk:∀v w',Q v w'->(bH c.ops c.rest=true->C w')/\ax S sz R C w' (.ops true c.ops c.rest c.k (jo c.env c.dst v))):ax S sz R C w (.act (.call f args) c):=by
 show qi _ _ _ _ _ _ _
 unfold qi
 rw[hq]
 show mB _ _ _ _
 unfold mB
 rw[xA hf fD hb]
 exact Calls.mono h fun e w' ⟨v,he,q⟩=>⟨v,he,hk v w' q⟩
theorem xB {A:Action}{c:sC}{v:Value}{w':World}(hq:c.q=false)(h:A.lO.run S.P w= .ok (.value v) w')(hk:ax S sz R C w' (.ops false c.ops c.rest c.k (jo c.env c.dst v))):
  ax S sz R C w (.act A c):=by
 show qi _ _ _ _ _ _ _
 unfold qi
 rw[hq]
 show mB _ _ _ _
 unfold mB
 rw[h];exact hk
theorem xC {A:Action}{c:sC}{v:Value}{w':World}(hq:c.q=true)(hl:lR A=false)(h:A.lO.run S.P w= .ok (.value v) w')
  (hk:(bH c.ops c.rest=true->C w')/\ax S sz R C w' (.ops true c.ops c.rest c.k (jo c.env c.dst v))):ax S sz R C w (.act A c):=by
 show qi _ _ _ _ _ _ _
 unfold qi
 rw[hq,hl]
 show mB _ _ _ _
 unfold mB
 rw[h];exact hk
theorem pd {A:Action}{c:sC}{w':World}(hq:c.q=false)(h:A.lO.run S.P w= .ok .skip w')(hk:ax S sz R C w' (.ops false c.ops c.rest c.k (jo c.env c.dst undef))):
  ax S sz R C w (.act A c):=by
 show qi _ _ _ _ _ _ _
 unfold qi
 rw[hq]
 show mB _ _ _ _
 unfold mB
 rw[h];exact hk
theorem nz {A:Action}{c:sC}{w':World}(hq:c.q=true)(hl:lR A=false)(h:A.lO.run S.P w= .ok .skip w')
  (hk:(bH c.ops c.rest=true->C w')/\ax S sz R C w' (.ops true c.ops c.rest c.k (jo c.env c.dst undef))):ax S sz R C w (.act A c):=by
 show qi _ _ _ _ _ _ _
 unfold qi
 rw[hq,hl]
 show mB _ _ _ _
 unfold mB
 rw[h];exact hk
theorem Ge {t:TypeId}{ad:Addr}{c:sC}{v:Value}(hq:c.q=true)(h:∀w',C w'->(loadVar t ad).run S.P w'= .ok v w')
  (hk:ax S sz R C w (.ops true c.ops c.rest c.k (jo c.env c.dst v))):ax S sz R C w (.act (.load t ad) c):=by
 show qi _ _ _ _ _ _ _
 unfold qi
 rw[hq]
 exact⟨v,fun w' vw=>by simp[Action.lO,h w' vw],hk⟩
theorem Je {id:Nat}{ops:Array Oper}{k:List Item}{env:Env}{e:Env}[hS:S.Ok](C':World->Prop)(hm:S.P.follows .mixedOrders=true)(hB:CM ops=true)(hC:C' {w with drawn:=w.drawn+1})
  (he:et env S.live=some e) (h:run S sz 400 (.ops true ops ops.toList k e) []=(g',cc)) (hg:ax S sz R C' {w with drawn:=w.drawn+1} g') (ho:ir cc:=by((repeat' apply And.intro)<;>first|exact trivial|omega|exact wi (by omega)|exact wu (by omega)|exact wb (by omega)|(refine Sl.nn (by assumption) ?_;omega)|(refine bW (by assumption) ?_;omega)|exact Option.some_ne_none _|assumption|decide)):ax S sz R C w (.code (.code (.region id ops true)::k) env):=by
 intro a ha
 have h1:=(dt (R:=R) (C:=C') (w:={w with drawn:=w.drawn+1}) hS 400 _ [] g' cc h (fun _=>⟨[],rfl⟩) ho hg).1
 refine o8 (zD C' hm hB hC ?_)
 have h2:=h1.2 a (ha.prune he)
 rw[Bf] at h2
 have key:∀(l:List (Oper×Bool)) (a:Act) (w:World),fo S.P ops C' (fun a' w'=>nw S.P S.f R k a' w') l a w->fo S.P ops C' (fun a' w'=>EM S.P S.f R k .normal a' w') l a w:=by
  intro l
  induction l with
  |nil=>exact fun a w h=>⟨rfl,h⟩
  |cons x l ih=>
   obtain⟨o,fl⟩:=x
   intro a w h
   rcases jD h with⟨_,v,hv,h'⟩|⟨he,hw,h'⟩|⟨he,hw,h'⟩
   ·exact tj hv (ih _ _ h')
   ·exact zX he hw (df.mono rfl h' fun v w' ⟨k1,k2⟩=>⟨k1,ih _ _ k2⟩)
   ·exact sA hw (ih _ _ h')
 exact key _ _ _ h2
theorem aR {X:Type}(je:List Nat)(E:X->Env)(I:X->World->Prop)(μ:X->Nat){c:Code}{k:List Item}{env:Env}(x0:X)(he:et env je=some (E x0))(h0:I x0 w)
  (round:∀(x:X) (w:World),I x w->(∀(x':X) (j6:Env) (w':World) (C:World->Prop),μ x'<μ x->et j6 je=some (E x')->I x' w'->ax S sz R C w' (.code (.inLoop c::k) j6))->
   ∀C,ax S sz R C w (.code (.code c:: .inLoop c::k) (E x))):ax S sz R C w (.code (.code (.loop c)::k) env):=by
 have key:∀n (x:X) (w:World),μ x=n->I x w->∀C,ax S sz R C w (.code (.code c:: .inLoop c::k) (E x)):=by
  intro n
  induction n using Nat.strongRecOn with
  |_ n ih=>
   intro x w hn hI
   refine round x w hI fun x' j6 w' C bD zC hI' a ha=> ?_
   exact fw (fun _ _=>step_inLoop) (ih (μ x') (hn▸bD) x' w' rfl hI' C a (ha.prune zC))
 exact fun a ha=>fw (fun _ _=>step_loop) (key _ x0 w rfl h0 C a (ha.prune he))
theorem gK {X Y:Type}(je:List Nat)(E:X->Y->Env)(I:X->Y->World->Prop)(μ:X->Y->Nat){c:Code}{k:List Item}{env:Env}(x0:X)(y0:Y)(he:et env je=some (E x0 y0))(h0:I x0 y0 w)
  (round:∀(x:X) (y:Y) (w:World),I x y w->(∀(x':X) (y':Y) (j6:Env) (w':World) (C:World->Prop),μ x' y'<μ x y->et j6 je=some (E x' y')->I x' y' w'->ax S sz R C w' (.code (.inLoop c::k) j6))->
   ∀C,ax S sz R C w (.code (.code c:: .inLoop c::k) (E x y))):ax S sz R C w (.code (.code (.loop c)::k) env):=
 aR (X:=X×Y) je (fun p=>E p.1 p.2) (fun p=>I p.1 p.2) (fun p=>μ p.1 p.2) (x0,y0) he h0 (fun⟨x,y⟩ w hI IH=>round x y w hI (fun x' y'=>IH (x',y')))
theorem eg {X Y Z:Type}(je:List Nat)(E:X->Y->Z->Env)(I:X->Y->Z->World->Prop)(μ:X->Y->Z->Nat){c:Code}{k:List Item}{env:Env}(x0:X)(y0:Y)(z0:Z)(he:et env je=some (E x0 y0 z0))(h0:I x0 y0 z0 w)
  (round:∀(x:X) (y:Y) (z:Z) (w:World),I x y z w->(∀(x':X) (y':Y) (z':Z) (j6:Env) (w':World) (C:World->Prop),μ x' y' z'<μ x y z->et j6 je=some (E x' y' z')->I x' y' z' w'->ax S sz R C w' (.code (.inLoop c::k) j6))->
   ∀C,ax S sz R C w (.code (.code c:: .inLoop c::k) (E x y z))):ax S sz R C w (.code (.code (.loop c)::k) env):=
 aR (X:=X×Y×Z) je (fun p=>E p.1 p.2.1 p.2.2) (fun p=>I p.1 p.2.1 p.2.2) (fun p=>μ p.1 p.2.1 p.2.2) (x0,y0,z0) he h0 (fun⟨x,y,z⟩ w hI IH=>round x y z w hI (fun x' y' z'=>IH (x',y',z')))
theorem jv {X Y Z U:Type}(je:List Nat)(E:X->Y->Z->U->Env)(I:X->Y->Z->U->World->Prop)(μ:X->Y->Z->U->Nat){c:Code}{k:List Item}{env:Env}(x0:X)(y0:Y)(z0:Z)(u0:U)(he:et env je=some (E x0 y0 z0 u0))(h0:I x0 y0 z0 u0 w)
  (round:∀(x:X) (y:Y) (z:Z) (u:U) (w:World),I x y z u w->(∀(x':X) (y':Y) (z':Z) (u':U) (j6:Env) (w':World) (C:World->Prop),μ x' y' z' u'<μ x y z u->et j6 je=some (E x' y' z' u')->I x' y' z' u' w'->ax S sz R C w' (.code (.inLoop c::k) j6))->
   ∀C,ax S sz R C w (.code (.code c:: .inLoop c::k) (E x y z u))):ax S sz R C w (.code (.code (.loop c)::k) env):=
 aR (X:=X×Y×Z×U) je (fun p=>E p.1 p.2.1 p.2.2.1 p.2.2.2) (fun p=>I p.1 p.2.1 p.2.2.1 p.2.2.2) (fun p=>μ p.1 p.2.1 p.2.2.1 p.2.2.2) (x0,y0,z0,u0) he h0 (fun⟨x,y,z,u⟩ w hI IH=>round x y z u w hI (fun x' y' z' u'=>IH (x',y',z',u')))
theorem lU {X Y Z U V:Type}(je:List Nat)(E:X->Y->Z->U->V->Env)(I:X->Y->Z->U->V->World->Prop)(μ:X->Y->Z->U->V->Nat){c:Code}{k:List Item}{env:Env}(x0:X)(y0:Y)(z0:Z)(u0:U)(v0:V)(he:et env je=some (E x0 y0 z0 u0 v0))(h0:I x0 y0 z0 u0 v0 w)
  (round:∀(x:X) (y:Y) (z:Z) (u:U) (v:V) (w:World),I x y z u v w->(∀(x':X) (y':Y) (z':Z) (u':U) (v':V) (j6:Env) (w':World) (C:World->Prop),μ x' y' z' u' v'<μ x y z u v->et j6 je=some (E x' y' z' u' v')->I x' y' z' u' v' w'->ax S sz R C w' (.code (.inLoop c::k) j6))->
   ∀C,ax S sz R C w (.code (.code c:: .inLoop c::k) (E x y z u v))):ax S sz R C w (.code (.code (.loop c)::k) env):=
 aR (X:=X×Y×Z×U×V) je (fun p=>E p.1 p.2.1 p.2.2.1 p.2.2.2.1 p.2.2.2.2) (fun p=>I p.1 p.2.1 p.2.2.1 p.2.2.2.1 p.2.2.2.2) (fun p=>μ p.1 p.2.1 p.2.2.1 p.2.2.2.1 p.2.2.2.2) (x0,y0,z0,u0,v0) he h0 (fun⟨x,y,z,u,v⟩ w hI IH=>round x y z u v w hI (fun x' y' z' u' v'=>IH (x',y',z',u',v')))
theorem kg {X Y Z U V T:Type}(je:List Nat)(E:X->Y->Z->U->V->T->Env)(I:X->Y->Z->U->V->T->World->Prop)(μ:X->Y->Z->U->V->T->Nat){c:Code}{k:List Item}{env:Env}(x0:X)(y0:Y)(z0:Z)(u0:U)(v0:V)(t0:T)(he:et env je=some (E x0 y0 z0 u0 v0 t0))(h0:I x0 y0 z0 u0 v0 t0 w)
  (round:∀(x:X) (y:Y) (z:Z) (u:U) (v:V) (t:T) (w:World),I x y z u v t w->(∀(x':X) (y':Y) (z':Z) (u':U) (v':V) (t':T) (j6:Env) (w':World) (C:World->Prop),μ x' y' z' u' v' t'<μ x y z u v t->et j6 je=some (E x' y' z' u' v' t')->I x' y' z' u' v' t' w'->ax S sz R C w' (.code (.inLoop c::k) j6))->
   ∀C,ax S sz R C w (.code (.code c:: .inLoop c::k) (E x y z u v t))):ax S sz R C w (.code (.code (.loop c)::k) env):=
 aR (X:=X×Y×Z×U×V×T) je (fun p=>E p.1 p.2.1 p.2.2.1 p.2.2.2.1 p.2.2.2.2.1 p.2.2.2.2.2) (fun p=>I p.1 p.2.1 p.2.2.1 p.2.2.2.1 p.2.2.2.2.1 p.2.2.2.2.2) (fun p=>μ p.1 p.2.1 p.2.2.1 p.2.2.2.1 p.2.2.2.2.1 p.2.2.2.2.2) (x0,y0,z0,u0,v0,t0) he h0 (fun⟨x,y,z,u,v,t⟩ w hI IH=>round x y z u v t w hI (fun x' y' z' u' v' t'=>IH (x',y',z',u',v',t')))
end
class bX {α:Type}(enc:α->List Value)(sz:outParam Nat):Prop where
 len:∀x,(enc x).length=sz
 one:∀x,∀u∈enc x,u.oneCell'=true
instance tB:bX eI 1:=⟨fun _=>rfl,fun x u hu=>by simp[eI] at hu;subst hu;rfl⟩
instance Pe:bX xt 1:=⟨fun _=>rfl,fun x u hu=>by simp[xt] at hu;subst hu;rfl⟩
instance eB_ok:bX eB 1:=⟨fun _=>rfl,fun x u hu=>by simp[eB] at hu;subst hu;rfl⟩
instance Pf:bX gh 2:=⟨fun _=>rfl,fun x u hu=>by simp[gh] at hu;rcases hu with rfl|rfl<;>rfl⟩
theorem om {α:Type}{enc:α->List Value}{sz:Nat}(hz:∀x,(enc x).length=sz)(L:List α):(L.flatMap enc).length=L.length*sz:=by
 induction L with
 |nil=>simp
 |cons x L ih=>simp[List.flatMap_cons,ih,hz,Nat.succ_mul];omega
section
variable {P:Program} {tt:TT} {α:Type} {enc:α->List Value} {w:World} {B:Nat} {e t:TypeId} {a:Option Addr} {c:Nat} {L M:List α}
theorem Sl.flat [Inhabited α]{sz:Nat}{ad:Addr}(he:bX enc sz)(h:Sl w (some ad) M.length sz (fL enc M)):∀j u,(M.flatMap enc)[j]?=some u->w.cell? (ad.add j)=some u:=by
 intro k u hu
 have hk:k<(M.flatMap enc).length:=by
  rcases Nat.lt_or_ge k (M.flatMap enc).length with h|h
  ·exact h
  ·rw[List.getElem?_eq_none h] at hu;cases hu
 rw[om he.len] at hk
 have iA:0<sz:=by
  rcases Nat.eq_zero_or_pos sz with h0|h0
  ·subst h0;simp at hk
  ·exact h0
 have hi:k/sz<M.length:=by rw[Nat.div_lt_iff_lt_mul iA];exact hk
 have hj:k%sz<sz:=Nat.mod_lt _ iA
 have h1:=h.2 (k/sz) (k%sz) hi hj
 have hx:M[k/sz]?=some (M[k/sz]'hi):=List.getElem?_eq_getElem hi
 have h2:=xu (enc:=enc) he.len hx hj
 have II:k/sz*sz+k%sz=k:=by rw[Nat.mul_comm];exact Nat.div_add_mod k sz
 rw[II] at h2
 have bD:k%sz<(enc (M[k/sz]'hi)).length:=by rw[he.len];exact hj
 rw[List.getElem?_eq_getElem bD] at h2
 have ha:(aE (some ad) sz ((k/sz:Nat):Int)).add (k%sz)=ad.add k:=by
  simp only[aE,Option.getD_some,Int.toNat_natCast]
  rw[mC,II]
 rw[ha] at h1
 rw[h1]
 rw[h2] at hu
 injection hu with hu
 subst hu
 simp only[fL,kV,List.getD_eq_getElem?_getD,hx,Option.getD_some,List.getElem?_eq_getElem bD]
theorem EU [Inhabited α](aS:gJ P tt){i j:TI}(hi:tl tt t=some i)(hd:i.desc= .slice e)(hj:tl tt e=some j)(hz:(aL j.zero).length=j.size)(iA:0<j.size)(he:bX enc j.size)
  (CW:dk w B e j.size enc a c L) {sa:Option Addr} {sc:Nat} (hs:Sl w sa M.length j.size (fL enc M)) (hm:L.length+M.length<=maxLen) (hb:(L.length+M.length)*j.bytes<=140737488355328) (hB:B<=w.heap.size) (ty:TypeId):
  ∃a' c' w',(Builtin.append_ #[t,t] ty #[.slice a L.length c,.slice sa M.length sc]).run P w= .ok (.slice a' (L++M).length c') w'/\dk w' B e j.size enc a' c' (L++M)/\w.grownBy w' (lP a)/\
   (a'=none↔a=none/\M=[]):=by
 obtain⟨info,td,h1,h2,h3,h4,h5,r5,h6⟩:=aS.get hi
 obtain⟨vG,W1,g1,g2,g3,g4,g5,W2,g6⟩:=aS.get hj
 rw[jQ (r5.trans hd)] at h5
 cases sa with
 |none=>
  have hM:M=[]:=by
   rcases Nat.eq_zero_or_pos M.length with h|h
   ·exact List.length_eq_zero_iff.1 h
   ·exact absurd rfl (hs.1 h)
  subst hM
  refine⟨a,c,w,?_,by simpa using CW,⟨rfl,rfl,rfl,Nat.le_refl _,fun _ _ _=>rfl⟩,by simp⟩
  have EV:=CW.cap
  cases a with
  |none=>simp[Builtin.append_,run_underlying h5,sizeOf,typeInfo,g1,Builtin.lenOf,Builtin.firstCells,EV]
  |some a=>simp[Builtin.append_,run_underlying h5,sizeOf,typeInfo,g1,Builtin.lenOf,Builtin.firstCells,EV,storeCells]
 |some ad=>
  have TR:j.zero.cells.size=j.size:=by rw[ie] at hz;simpa using hz
  obtain⟨v',w',hr,ho,hg,hn⟩:=run_append_own (P:=P) w B t ty e vG j.zero j.size j.bytes h5 g1 g4 g2 g3 TR iA (.slice a L.length c) L.length (L.flatMap enc) CW ad M.length sc (M.flatMap enc)
   (om he.len M) (hs.flat he) (fun u hu=>by
    obtain⟨x,_,hx⟩:=List.mem_flatMap.1 hu
    exact he.one x u hx) hm hb hB
  have TS:∃a' c',v'= .slice a' (L.length+M.length) c':=by
   rcases ho.2 with⟨q1,q2⟩|⟨g,cap,cur,hv,_⟩
   ·exact⟨none,0,by rw[q1,q2]⟩
   ·exact⟨_,_,hv⟩
  obtain⟨a',c',rfl⟩:=TS
  refine⟨a',c',w',by rw[List.length_append];exact hr,?_,by rw[mD] at hg;exact hg,?_⟩
  ·unfold dk
   rw[List.length_append,List.flatMap_append]
   exact ho
  ·constructor
   ·intro ha
    subst ha
    have hl:L.length+M.length=0/\c'=0:=by
     rcases ho.2 with⟨q1,q2⟩|⟨g,cap,cur,hv,_⟩
     ·injection q1 with _ _ q3;exact⟨q2,q3⟩
     ·injection hv with hv;cases hv
    rw[hl.1,hl.2] at hn
    obtain⟨k1,k2⟩:=hn.1 rfl
    injection k1 with k1
    exact⟨k1,List.length_eq_zero_iff.1 k2⟩
   ·rintro⟨rfl,rfl⟩
    have hl:=CW.form
    rcases hl with⟨_,rfl,rfl⟩|⟨g,hg,_⟩
    ·have:=hn.2 ⟨rfl,rfl⟩
     simp at this
     exact this.1
    ·cases hg
theorem uM (z:List Value)(n:Nat)(hz:0<z.length):(madeCells z.toArray (n*z.length)).toList=(List.replicate n z).flatten:=by
 apply List.ext_getElem?
 intro k
 simp only[madeCells,Array.toList_map,Array.toList_range,List.getElem?_map]
 by_cases hk:k<n*z.length
 ·rw[List.getElem?_range hk]
  have hi:k/z.length<n:=by rw[Nat.div_lt_iff_lt_mul hz];exact hk
  have hj:k%z.length<z.length:=Nat.mod_lt _ hz
  have II:k/z.length*z.length+k%z.length=k:=by rw[Nat.mul_comm];exact Nat.div_add_mod k _
  have hx:(List.replicate n z)[k/z.length]?=some z:=by simp[hi]
  have h2:=xu (α:=List Value) (enc:=fun x=>x) (L:=List.replicate n z) (sz:=z.length)
  have key:∀(m i j:Nat),i<m->j<z.length->((List.replicate m z).flatten)[i*z.length+j]?=z[j]?:=by
   intro m
   induction m with
   |zero=>intro i j hi;omega
   |succ m ih=>
    intro i j hi hj
    rw[List.replicate_succ,List.flatten_cons]
    cases i with
    |zero=>rw[Nat.zero_mul,Nat.zero_add,List.getElem?_append_left hj]
    |succ i=>
     rw[List.getElem?_append_right (by rw[Nat.succ_mul];omega),show(i+1)*z.length+j-z.length=i*z.length+j by rw[Nat.succ_mul];omega]
     exact ih i j (by omega) hj
  have:=key n _ _ hi hj
  rw[II] at this
  rw[this]
  simp[hj]
 ·rw[List.getElem?_eq_none (by simpa using hk),List.getElem?_eq_none (by
   have:(List.replicate n z).flatten.length=n*z.length:=by simp
   rw[this];omega)]
  rfl
theorem Jf (aS:gJ P tt){i j:TI}(hi:tl tt t=some i)(hd:i.desc= .slice e)(hj:tl tt e=some j)(hz:(aL j.zero).length=j.size)(iA:0<j.size)(d:α)(LG:enc d=aL j.zero)
  (n:Nat) (hm:n<=maxLen) (hb:j.bytes*n<=281474976710656):
  ∃w',(Instr.makeSlice t (.int .i64 (n:Int)) (.int .i64 (n:Int))).run P w= .ok (.slice (some ⟨w.heap.size,0,none⟩) n n) w'/\dk w' w.heap.size e j.size enc (some ⟨w.heap.size,0,none⟩) n (List.replicate n d)/\Ext w w':=by
 obtain⟨info,td,h1,h2,h3,h4,h5,r5,h6⟩:=aS.get hi
 obtain⟨vG,W1,g1,g2,g3,g4,g5,W2,g6⟩:=aS.get hj
 rw[jQ (r5.trans hd)] at h5
 obtain⟨w',hr,ho,hg⟩:=run_make_full (P:=P) w w.heap.size t e vG j.zero j.size h5 g1 g4 g2 .i64 .i64 n (by rw[g3];exact hb) hm (Nat.le_refl _)
 refine⟨w',hr,?_,⟨hg.os,hg.tape,hg.output,hg.size,fun k hk=>hg.block k hk (by simp)⟩⟩
 unfold dk
 rw[List.length_replicate]
 have:(List.replicate n d).flatMap enc=(madeCells j.zero.cells (n*j.size)).toList:=by
  have hc:j.zero.cells=(aL j.zero).toArray:=by rw[ie]
  rw[hc,<-hz,uM _ _ (by omega),<-LG]
  simp[List.flatMap]
 rw[this]
 exact ho
def Af (sz:Nat):Nat->Nat->List (Nat×Nat)
 |0,_=>[]
 |n+1,o=>(o,sz)::Af sz n (o+sz)
def HM (z:List Value):Nat->List Value
 |0=>[]
 |n+1=>z++HM z n
def gV (tt:TT)(e:TypeId)(n:Nat)(parts:List (Nat×Value)):Option (List Value):=
 match tl tt e with
 |some j=>xm (Af j.size n 0) (HM (aL j.zero) n) parts
 |none=>none
theorem Ag (sz:Nat):∀(n o i:Nat) (x:Nat×Nat),(Af sz n o)[i]?=some x->x=(o+i*sz,sz)
 |0,o,i,x,h=>by simp[Af] at h
 |n+1,o,0,x,h=>by simp[Af] at h;simp[<-h]
 |n+1,o,i+1,x,h=>by
  have:=Ag sz n (o+sz) i x (by simpa [Af] using h)
  rw[this,Nat.succ_mul]
  simp;omega
theorem LH (z:List Value)(n:Nat):HM z n=(List.replicate n z).flatten:=by
 induction n with
 |zero=>rfl
 |succ n ih=>simp[HM,ih,List.replicate_succ]
theorem wG (aS:gJ P tt){i j:TI}(hi:tl tt t=some i)(hd:i.desc= .slice e)(hj:tl tt e=some j)(hz:(aL j.zero).length=j.size)(iA:0<j.size)
  {n:Nat} {parts:List (Nat×Value)} {cs:List Value} (hc:gV tt e n parts=some cs) (hn:n*j.size<=16777216):
  (Instr.buildSlice t n ⟨parts⟩).run P w= .ok (.slice (some ⟨w.heap.size,0,none⟩) n n) (w.alloc (.cells ⟨cs⟩ e)):=by
 obtain⟨info,td,h1,h2,h3,h4,h5,r5,h6⟩:=aS.get hi
 obtain⟨vG,W1,g1,g2,g3,g4,g5,W2,g6⟩:=aS.get hj
 rw[jQ (r5.trans hd)] at h5
 unfold gV at hc
 rw[hj] at hc
 have hf:=tz (place:=fun i=>some (i*j.size,j.size)) (fun i x hx=>by rw[Ag _ _ _ _ _ hx];simp) hc
 have HN:¬n*j.size>2^24:=by omega
 have TR:j.zero.cells=(aL j.zero).toArray:=by rw[ie]
 have hzr:(zeroValue e).run P w= .ok j.zero w:=by simp[zeroValue,typeInfo,g1,g4]
 have NN:∀z:Array Value,(n*j.size=0\/z=j.zero.cells)->(Array.range (n*j.size)).map (z[· %z.size]!)=(HM (aL j.zero) n).toArray:=by
  intro z hzz
  rcases hzz with h0|rfl
  ·have:n=0:=by
    rcases Nat.eq_zero_or_pos n with h|h
    ·exact h
    ·have:=Nat.mul_pos h iA;omega
   subst this
   simp[HM,Array.range_zero']
  ·apply Array.toList_inj.1
   rw[LH,TR]
   rw[<-hz]
   exact uM _ _ (by omega)
 rcases Nat.eq_zero_or_pos n with h0|h0
 ·subst h0
  have W3:=NN #[] (.inl (by simp))
  rw[Nat.zero_mul] at W3
  simp only[Instr.buildSlice,Sem.run_bind,run_underlying h5,Result.andThen_ok,fi aS hj,Nat.zero_mul,if_true,Nat.not_lt_zero,gt_iff_lt,if_false,Sem.run_pure]
  rw[W3,hf]
  simp[newRow]
 ·have fD:¬n*j.size=0:=by have:=Nat.mul_pos h0 iA;omega
  simp only[Instr.buildSlice,Sem.run_bind,run_underlying h5,Result.andThen_ok,fi aS hj,HN,if_false,Sem.run_pure,fD,hzr]
  rw[NN _ (.inr rfl),hf]
  simp[newRow]
theorem dk.lit {sz:Nat}(w:World)(e:TypeId)(cs:List Value)(M:List α)(he:bX enc sz)(Aa:M.flatMap enc=cs)(hm:M.length<=maxLen):
  dk (w.alloc (.cells ⟨cs⟩ e)) w.heap.size e sz enc (some ⟨w.heap.size,0,none⟩) M.length M:=by
 unfold dk
 rw[Aa]
 have:=World.ownsRow_lit (base:=w.heap.size) (e:=e) (size:=sz) w ⟨cs⟩ M.length (Nat.le_refl _) hm (by rw[<-Aa];exact om he.len M)
 exact this
theorem sH (aS:gJ P tt){i:TI}(hi:tl tt t=some i)(hs:i.size=1){ad:Addr}{v u:Value}(hv:v.oneCell'=true)(hc:w.cell? ad=some u)(hf:w.frozen? ad=false):
  (Action.store t ad v).lO.run P w= .ok .skip (w.setCell ad v):=by
 have Pg:v.cells= #[v]:=by cases v<;>first|rfl|(simp[Value.oneCell'] at hv)
 simp[Action.lO,storeVar,Pg,fi aS hi,hs,storeCells,run_store P w ad v .plain hv,hc,hf,Addr.add]
theorem CX {sz:Nat}(he:∀x:α,(enc x).length=sz):∀{L:List α} {i j:Nat} {x y:α} {v:Value},L[i]?=some x->j<sz->enc y=(enc x).set j v->(L.set i y).flatMap enc=(L.flatMap enc).set (i*sz+j) v
 |[],i,j,x,y,v,h,_,_=>by simp at h
 |z::L,0,j,x,y,v,h,hj,hy=>by
  simp at h;subst h
  simp only[List.set_cons_zero,List.flatMap_cons,Nat.zero_mul,Nat.zero_add]
  rw[hy,List.set_append_left _ _ (by rw[he];exact hj)]
 |z::L,i+1,j,x,y,v,h,hj,hy=>by
  simp only[List.set_cons_succ,List.flatMap_cons]
  rw[List.set_append_right _ _ (by rw[he,Nat.succ_mul];omega),he,show(i+1)*sz+j-sz=i*sz+j by rw[Nat.succ_mul];omega]
  rw[CX he (by simpa using h) hj hy]
theorem dk.store {sz:Nat}(h:dk w B e sz enc a c L)(he:bX enc sz){z:Int}{j:Nat}{x y:α}{v:Value}(hx:L[z.toNat]?=some x)(hj:j<sz)(hy:enc y=(enc x).set j v):
  (∃u,w.cell? (jn (aE a sz z) j)=some u)/\w.frozen? (jn (aE a sz z) j)=false/\dk (w.setCell (jn (aE a sz z) j) v) B e sz enc a c (L.set z.toNat y)/\
   w.grownBy (w.setCell (jn (aE a sz z) j) v) (lP a):=by
 have bD:z.toNat<L.length:=(List.getElem?_eq_some_iff.1 hx).1
 rcases h.form with⟨_,rfl,_⟩|⟨g,rfl,hn,hb⟩
 ·simp at bD
 ·have hk:z.toNat*sz+j<L.length*sz:=by
   have:(z.toNat+1)*sz<=L.length*sz:=Nat.mul_le_mul_right _ bD
   rw[Nat.succ_mul] at this
   omega
  have SV:jn (aE (some ⟨g,0,none⟩) sz z) j=⟨g,z.toNat*sz+j,none⟩:=by
   rw[iP]
   simp only[aE,Option.getD_some,mC]
   rw[<-iP]
   simp[jn]
  have hlen:=om he.len L
  rw[SV]
  refine⟨⟨_,by rw[World.ownsRow.cellAt h _ hk];exact List.getElem?_eq_getElem (by rw[hlen];exact hk)⟩,World.ownsRow.frozenAt h _,?_,(World.ownsRow.stored h _ v).2⟩
  unfold dk
  rw[List.length_set,CX he.len hx hj hy]
  exact(World.ownsRow.stored h _ v).1
theorem dk.Ph {sz:Nat}(h:dk w B e sz enc a c L)(he:bX enc sz){z:Int}{x y:α}{v:Value}(hx:L[z.toNat]?=some x)(hj:0<sz)(hy:enc y=(enc x).set 0 v):
  (∃u,w.cell? (aE a sz z)=some u)/\w.frozen? (aE a sz z)=false/\dk (w.setCell (aE a sz z) v) B e sz enc a c (L.set z.toNat y)/\w.grownBy (w.setCell (aE a sz z) v) (lP a):=by
 have hq:jn (aE a sz z) 0=aE a sz z:=by rw[iP];simp[Addr.add]
 have:=h.store he hx hj hy
 rwa[hq] at this
end
section
variable {P:Program} {tt:TT} {w:World} {t:TypeId}
theorem jZ.store {b o:Nat}{tb:TypeId}{cs:List Value}(h:jZ w b tb cs)(ho:o<cs.length)(v:Value):(∃u,w.cell? ⟨b,o,none⟩=some u)/\w.frozen? ⟨b,o,none⟩=false/\
  jZ (w.setCell ⟨b,o,none⟩ v) b tb (cs.set o v)/\w.grownBy (w.setCell ⟨b,o,none⟩ v) (some b):=by
 refine⟨⟨cs[o],by rw[h.cell,List.getElem?_eq_getElem ho]⟩,h.frozen _,h.XW o v,⟨rfl,rfl,rfl,by simp[World.setCell],fun k _ hk=>heap_setCell_other w ⟨b,o,none⟩ k v (fun e=>hk (by simp[e]))⟩⟩
def setAt:List Value->Nat->List Value->List Value
 |xs,_,[]=>xs
 |xs,k,v::r=>setAt (xs.set k v) (k+1) r
theorem sI (x:Value):∀(vs xs:List Value) (k:Nat),setAt (x::xs) (k+1) vs=x::setAt xs k vs
 |[],_,_=>rfl
 |v::r,xs,k=>by rw[setAt,List.set_cons_succ,sI x r];rfl
theorem vH:∀(A B vs:List Value) (k:Nat),setAt (A++B) (A.length+k) vs=A++setAt B k vs
 |[],B,vs,k=>by simp
 |a::A,B,vs,k=>by
  rw[List.cons_append,List.length_cons,show A.length+1+k=A.length+k+1 by omega,sI,vH A];rfl
theorem uN:∀(vs A B:List Value),A.length=vs.length->setAt (A++B) 0 vs=vs++B
 |[],A,B,h=>by rw[List.length_eq_zero_iff.1 h];rfl
 |v::r,[],B,h=>by simp at h
 |v::r,a::A,B,h=>by
  show setAt ((a::(A++B)).set 0 v) 1 r=_
  rw[List.set_cons_zero,sI,uN r A B (by simpa using h)];rfl
theorem xD {α:Type}{enc:α->List Value}{sz:Nat}(he:∀x,(enc x).length=sz)(y:α):∀{L:List α} {i:Nat},i<L.length->(L.set i y).flatMap enc=setAt (L.flatMap enc) (i*sz) (enc y)
 |[],i,h=>by simp at h
 |z::L,0,h=>by
  simp only[List.set_cons_zero,List.flatMap_cons,Nat.zero_mul]
  rw[uN _ _ _ (by rw[he,he])]
 |z::L,i+1,h=>by
  simp only[List.set_cons_succ,List.flatMap_cons]
  rw[xD he y (by simpa using h),Nat.succ_mul,show i*sz+sz=(enc z).length+i*sz by rw[he];omega,vH]
theorem qp {w:World}{B:Nat}{e:TypeId}{sz g n c:Nat}:∀(vs xs:List Value) (o i:Nat) (w:World),w.ownsRow B e sz (.slice (some ⟨g,0,none⟩) n c) n xs->o+i+vs.length<=n*sz->(∀v∈vs,v.oneCell'=true)->
  ∃w',(storeCells ⟨g,o,none⟩ vs i).run P w= .ok () w'/\w'.ownsRow B e sz (.slice (some ⟨g,0,none⟩) n c) n (setAt xs (o+i) vs)/\w.grownBy w' (some g)
 |[],xs,o,i,w,h,_,_=>⟨w,rfl,h,rfl,rfl,rfl,Nat.le_refl _,fun _ _ _=>rfl⟩
 |v::r,xs,o,i,w,h,hl,h1=>by
  have hk:o+i<n*sz:=by simp at hl;omega
  have CY:(⟨g,o,none⟩:Addr).add i=⟨g,o+i,none⟩:=by rw[<-iP];rfl
  have hlen:xs.length=n*sz:=h.1
  have TU:w.cell? ⟨g,o+i,none⟩=some (xs[o+i]'(by rw[hlen];exact hk)):=by rw[World.ownsRow.cellAt h _ hk];exact List.getElem?_eq_getElem _
  have La:=World.ownsRow.frozenAt h (o+i)
  have jr:(store ((⟨g,o,none⟩:Addr).add i) v).run P w= .ok () (w.setCell ⟨g,o+i,none⟩ v):=by
   rw[CY,run_store P w _ v _ (h1 v (by simp)),TU]
   simp[La]
  obtain⟨s1,s2⟩:=World.ownsRow.stored h (o+i) v
  obtain⟨w',r1,r2,r3⟩:=qp (w:=w) r (xs.set (o+i) v) o (i+1) _ s1 (by simp at hl⊢;omega) (fun x hx=>h1 x (by simp[hx]))
  refine⟨w',by simp only[storeCells,Sem.run_bind,jr,Result.andThen_ok,r1],?_,?_⟩
  ·rw[setAt];exact r2
  ·exact⟨r3.os.trans s2.os,r3.tape.trans s2.tape,r3.output.trans s2.output,Nat.le_trans s2.size r3.size,fun k hk fD=>(r3.block k (Nat.lt_of_lt_of_le hk s2.size) fD).trans (s2.block k hk fD)⟩
theorem dk.Bi {α:Type}{enc:α->List Value}{w:World}{B:Nat}{e:TypeId}{a:Option Addr}{c:Nat}{L:List α}(aS:gJ P tt){i:TI}(hi:tl tt t=some i){sz:Nat}(hs:i.size=sz)(h:dk w B e sz enc a c L)(he:bX enc sz){z:Int}(h0:0<=z)(h1:z<L.length)(y:α):
  ∃w',(Action.store t (aE a sz z) (.agg ⟨enc y⟩)).lO.run P w= .ok .skip w'/\dk w' B e sz enc a c (L.set z.toNat y)/\w.grownBy w' (lP a):=by
 have bD:z.toNat<L.length:=by omega
 rcases h.form with⟨_,rfl,_⟩|⟨g,rfl,hn,hb⟩
 ·simp at bD
 ·have hk:z.toNat*sz+sz<=L.length*sz:=by
   have:(z.toNat+1)*sz<=L.length*sz:=Nat.mul_le_mul_right _ bD
   rwa[Nat.succ_mul] at this
  have SV:aE (some ⟨g,0,none⟩) sz z=⟨g,z.toNat*sz,none⟩:=by
   simp only[aE,Option.getD_some]
   rw[<-iP]
   simp[jn]
  obtain⟨w',r1,r2,r3⟩:=qp (P:=P) (w:=w) (enc y) (L.flatMap enc) (z.toNat*sz) 0 w h (by rw[he.len];exact hk) (he.one y)
  refine⟨w',?_,?_,r3⟩
  ·have hc:(Value.agg ⟨enc y⟩).cells=⟨enc y⟩:=rfl
   rw[SV]
   simp[Action.lO,storeVar,hc,fi aS hi,hs,he.len,r1]
  ·unfold dk
   rw[List.length_set,xD he.len y bD]
   simpa using r2
theorem qs {b:Nat}{tb:TypeId}:∀(vs cs:List Value) (o i:Nat) (w:World),jZ w b tb cs->o+i+vs.length<=cs.length->(∀v∈vs,v.oneCell'=true)->
  ∃w',(storeCells ⟨b,o,none⟩ vs i).run P w= .ok () w'/\jZ w' b tb (setAt cs (o+i) vs)/\w.grownBy w' (some b)
 |[],cs,o,i,w,h,_,_=>⟨w,rfl,h,rfl,rfl,rfl,Nat.le_refl _,fun _ _ _=>rfl⟩
 |v::r,cs,o,i,w,h,hl,h1=>by
  have hk:o+i<cs.length:=by simp at hl;omega
  have CY:(⟨b,o,none⟩:Addr).add i=⟨b,o+i,none⟩:=by rw[<-iP];rfl
  obtain⟨⟨u,hu⟩,La,s1,s2⟩:=h.store hk v
  have jr:(store ((⟨b,o,none⟩:Addr).add i) v).run P w= .ok () (w.setCell ⟨b,o+i,none⟩ v):=by
   rw[CY,run_store P w _ v _ (h1 v (by simp)),hu]
   simp[La]
  obtain⟨w',r1,r2,r3⟩:=qs r (cs.set (o+i) v) o (i+1) _ s1 (by simp at hl⊢;omega) (fun x hx=>h1 x (by simp[hx]))
  refine⟨w',by simp only[storeCells,Sem.run_bind,jr,Result.andThen_ok,r1],?_,?_⟩
  ·rw[setAt];exact r2
  ·exact⟨r3.os.trans s2.os,r3.tape.trans s2.tape,r3.output.trans s2.output,Nat.le_trans s2.size r3.size,fun k hk fD=>(r3.block k (Nat.lt_of_lt_of_le hk s2.size) fD).trans (s2.block k hk fD)⟩
theorem jZ.Bi {w:World}(aS:gJ P tt){i:TI}(hi:tl tt t=some i){b:Nat}{tb:TypeId}{cs vs:List Value}(h:jZ w b tb cs)(hs:i.size=vs.length)(hl:cs.length=vs.length)(h1:∀v∈vs,v.oneCell'=true):
  ∃w',(Action.store t ⟨b,0,none⟩ (.agg ⟨vs⟩)).lO.run P w= .ok .skip w'/\jZ w' b tb vs/\w.grownBy w' (some b):=by
 obtain⟨w',r1,r2,r3⟩:=qs (P:=P) vs cs 0 0 w h (by omega) h1
 refine⟨w',?_,?_,r3⟩
 ·have hc:(Value.agg ⟨vs⟩).cells=⟨vs⟩:=rfl
  simp[Action.lO,storeVar,hc,fi aS hi,hs,r1]
 ·have e:=uN vs cs [] hl
  simp only[List.append_nil] at e
  rw[Nat.add_zero,e] at r2
  exact r2
theorem jZ.Pj {w:World}(aS:gJ P tt){i:TI}(hi:tl tt t=some i)(hs:i.size=1){b o:Nat}{tb:TypeId}{cs:List Value}(h:jZ w b tb cs)(ho:o<cs.length){v:Value}(hv:v.oneCell'=true):
  ∃w',(Action.store t ⟨b,o,none⟩ v).lO.run P w= .ok .skip w'/\jZ w' b tb (cs.set o v)/\w.grownBy w' (some b):=by
 obtain⟨⟨u,hu⟩,hf,h1,h2⟩:=h.store ho v
 exact⟨_,sH aS hi hs hv hu hf,h1,h2⟩
theorem dk.Pj {α:Type}{enc:α->List Value}{w:World}{B:Nat}{e:TypeId}{a:Option Addr}{c:Nat}{L:List α}(aS:gJ P tt){i:TI}(hi:tl tt t=some i)(hs:i.size=1){sz:Nat}(h:dk w B e sz enc a c L)(he:bX enc sz){z:Int}{j:Nat}{x y:α}{v:Value}(hx:L[z.toNat]?=some x)(hj:j<sz)(hy:enc y=(enc x).set j v)(hv:v.oneCell'=true):
  ∃w',(Action.store t (jn (aE a sz z) j) v).lO.run P w= .ok .skip w'/\dk w' B e sz enc a c (L.set z.toNat y)/\w.grownBy w' (lP a):=by
 obtain⟨⟨u,hu⟩,hf,h1,h2⟩:=h.store he hx hj hy
 exact⟨_,sH aS hi hs hv hu hf,h1,h2⟩
theorem dk.X3 {α:Type}{enc:α->List Value}{w:World}{B:Nat}{e:TypeId}{a:Option Addr}{c:Nat}{L:List α}(aS:gJ P tt){i:TI}(hi:tl tt t=some i)(hs:i.size=1){sz:Nat}(h:dk w B e sz enc a c L)(he:bX enc sz){z:Int}{x y:α}{v:Value}(hx:L[z.toNat]?=some x)(hj:0<sz)(hy:enc y=(enc x).set 0 v)(hv:v.oneCell'=true):
  ∃w',(Action.store t (aE a sz z) v).lO.run P w= .ok .skip w'/\dk w' B e sz enc a c (L.set z.toNat y)/\w.grownBy w' (lP a):=by
 obtain⟨⟨u,hu⟩,hf,h1,h2⟩:=h.Ph he hx hj hy
 exact⟨_,sH aS hi hs hv hu hf,h1,h2⟩
theorem Bj (v:Value):(Action.box t v).lO.run P w= .ok (.value (.pointer (some ⟨w.heap.size,0,none⟩))) (w.alloc (.cells ⟨aL v⟩ t)):=by
 simp[Action.lO,Instr.box,newVar,newRow,ie]
theorem uO (aS:gJ P tt){i:TI}(hi:tl tt t=some i):(Action.alloc t).lO.run P w= .ok (.value (.pointer (some ⟨w.heap.size,0,none⟩))) (w.alloc (.cells ⟨aL i.zero⟩ t)):=by
 obtain⟨info,td,h1,h2,h3,h4,h5,r5,h6⟩:=aS.get hi
 simp[Action.lO,Instr.alloc,zeroValue,typeInfo,h1,h4,newVar,newRow,ie]
end
section
variable {S:ak} {sz:Nat} {R:Value->World->Prop} {C:World->Prop} {w:World} {g':G} {cc:List Prop}
variable {ops:Array Oper} {rest:List Oper} {k:List Item} {env:Env}
theorem mF {ops:Array Oper}{l:List Oper}:false=true->∃pre,ops.toList=pre++l:=fun h=>by cases h
theorem xE {t:TypeId}{ad:Addr}{d:Nat}{v:Value}[hS:S.Ok](hl:(loadVar t ad).run S.P w= .ok v w)
  (h:run S sz 400 (.ops false ops rest k ((d,v)::env)) []=(g',cc)) (hg:ax S sz R C w g') (ho:ir cc:=by((repeat' apply And.intro)<;>first|exact trivial|omega|exact wi (by omega)|exact wu (by omega)|exact wb (by omega)|(refine Sl.nn (by assumption) ?_;omega)|(refine bW (by assumption) ?_;omega)|exact Option.some_ne_none _|assumption|decide)):ax S sz R C w (.act (.load t ad) ⟨false,ops,rest,some d,k,env⟩):=
 xB rfl (by simp[Action.lO,hl]) (o9 mF h hg ho)
theorem TV {t:TypeId}{v:Value}{d:Nat}(hk:∀w' b,b=w.heap.size->Ext w w'->jZ w' b t (aL v)->ax S sz R C w' (.ops false ops rest k ((d,.pointer (some ⟨b,0,none⟩))::env))):
  ax S sz R C w (.act (.box t v) ⟨false,ops,rest,some d,k,env⟩):=
 xB rfl (Bj v) (hk _ _ rfl (Ext.alloc _ _) (jZ.new _ _ _))
theorem LI {t:TypeId}{i:TI}{d:Nat}[hS:S.Ok](hi:tl S.tt t=some i)(hk:∀w' b,b=w.heap.size->Ext w w'->jZ w' b t (aL i.zero)->ax S sz R C w' (.ops false ops rest k ((d,.pointer (some ⟨b,0,none⟩))::env))):
  ax S sz R C w (.act (.alloc t) ⟨false,ops,rest,some d,k,env⟩):=
 xB rfl (uO hS.tt hi) (hk _ _ rfl (Ext.alloc _ _) (jZ.new _ _ _))
theorem TW {α:Type}(enc:α->List Value)(M:List α){t e:TypeId}{i j:TI}{nn:Nat}{parts:List (Nat×Value)}{cs:List Value}{d:Nat}[hS:S.Ok](hi:tl S.tt t=some i)(hd:i.desc= .slice e)(hj:tl S.tt e=some j)(hz:(aL j.zero).length=j.size){s:Nat}(lQ:j.size=s)(iA:0<s)
  (he:bX enc s) (hc:gV S.tt e nn parts=some cs) (hM:M.flatMap enc=cs) (hn:M.length=nn) (hb:nn*s<=16777216)
  (hk:∀w' b,b=w.heap.size->Ext w w'->dk w' w.heap.size e s enc (some ⟨b,0,none⟩) M.length M->ax S sz R C w' (.ops false ops rest k ((d,.slice (some ⟨b,0,none⟩) M.length M.length)::env))):
  ax S sz R C w (.act (.buildSlice t nn parts) ⟨false,ops,rest,some d,k,env⟩):=by
 subst lQ
 subst hn
 have hr:=wG (P:=S.P) (w:=w) hS.tt hi hd hj hz iA hc hb
 refine xB (v:= .slice (some ⟨w.heap.size,0,none⟩) M.length M.length) (w':=w.alloc (.cells ⟨cs⟩ e)) rfl (by simp only[Action.lO,Sem.run_bind,hr,Result.andThen_ok,Sem.run_pure]) ?_
 have hm:M.length<=maxLen:=by
  have:=Nat.le_mul_of_pos_right M.length iA
  unfold maxLen;omega
 exact hk _ _ rfl (Ext.alloc _ _) (dk.lit w e cs M he hM hm)
theorem Pk {α:Type}(enc:α->List Value)(dz:α){t e:TypeId}{i j:TI}{n:Nat}{d:Nat}[hS:S.Ok](hi:tl S.tt t=some i)(hd:i.desc= .slice e)(hj:tl S.tt e=some j)(hz:(aL j.zero).length=j.size){s:Nat}(lQ:j.size=s)(iA:0<s)
  (LG:enc dz=aL j.zero) (hm:n<=maxLen) (hb:j.bytes*n<=281474976710656)
  (hk:∀w' b,b=w.heap.size->Ext w w'->dk w' w.heap.size e s enc (some ⟨b,0,none⟩) n (List.replicate n dz)->ax S sz R C w' (.ops false ops rest k ((d,.slice (some ⟨b,0,none⟩) n n)::env))):
  ax S sz R C w (.act (.makeSlice t (.int .i64 (n:Int)) (.int .i64 (n:Int))) ⟨false,ops,rest,some d,k,env⟩):=by
 subst lQ
 obtain⟨w',hr,h1,h2⟩:=Jf (P:=S.P) (enc:=enc) hS.tt hi hd hj hz iA dz LG n hm hb
 refine xB (v:= .slice (some ⟨w.heap.size,0,none⟩) n n) (w':=w') rfl (by simp only[Action.lO,Sem.run_bind,hr,Result.andThen_ok,Sem.run_pure]) (hk w' _ rfl h2 h1)
theorem LJ {w0:World}{t:TypeId}{ad:Addr}{d:Nat}{v:Value}[hS:S.Ok](hl:∀w',Ext w0 w'->(loadVar t ad).run S.P w'= .ok v w')(hp:ops.toList.take (ops.toList.length-rest.length)++rest=ops.toList)
  (h:run S sz 400 (.ops true ops rest k ((d,v)::env)) []=(g',cc)) (hg:ax S sz R (Ext w0) w g') (ho:ir cc:=by((repeat' apply And.intro)<;>first|exact trivial|omega|exact wi (by omega)|exact wu (by omega)|exact wb (by omega)|(refine Sl.nn (by assumption) ?_;omega)|(refine bW (by assumption) ?_;omega)|exact Option.some_ne_none _|assumption|decide)):ax S sz R (Ext w0) w (.act (.load t ad) ⟨true,ops,rest,some d,k,env⟩):=
 Ge rfl hl (o9 (fun _=>⟨_,hp.symm⟩) h hg ho)
theorem Jg {w0:World}{l:List Oper}[hS:S.Ok](hp:ops.toList.take (ops.toList.length-l.length)++l=ops.toList)
  (h:run S sz 400 (.ops true ops l k env) []=(g',cc)) (hg:ax S sz R (Ext w0) w g') (ho:ir cc:=by((repeat' apply And.intro)<;>first|exact trivial|omega|exact wi (by omega)|exact wu (by omega)|exact wb (by omega)|(refine Sl.nn (by assumption) ?_;omega)|(refine bW (by assumption) ?_;omega)|exact Option.some_ne_none _|assumption|decide)):ax S sz R (Ext w0) w (.ops true ops l k env):=
 o9 (fun _=>⟨_,hp.symm⟩) h hg ho
theorem LK {id:Nat}{e:Env}[hS:S.Ok](hm:S.P.follows .mixedOrders=true)(hB:CM ops=true)(he:et env S.live=some e)
  (h:run S sz 400 (.ops true ops ops.toList k e) []=(g',cc)) (hg:∀w1,Ext w w1->ax S sz R (Ext w) w1 g') (ho:ir cc:=by((repeat' apply And.intro)<;>first|exact trivial|omega|exact wi (by omega)|exact wu (by omega)|exact wb (by omega)|(refine Sl.nn (by assumption) ?_;omega)|(refine bW (by assumption) ?_;omega)|exact Option.some_ne_none _|assumption|decide)):ax S sz R C w (.code (.code (.region id ops true)::k) env):=
 Je (Ext w) hm hB (Ext.drawn _) he h (hg _ (Ext.drawn _)) ho
theorem iB {q b want:Bool}{o:Oper}(h1:b=true->ax S sz R C w (.guard q b want ops o rest k env))(h2:b=false->ax S sz R C w (.guard q b want ops o rest k env)):
  ax S sz R C w (.guard q b want ops o rest k env):=by
 cases hb:b
 ·rw[<-hb];exact h2 hb
 ·rw[<-hb];exact h1 hb
theorem cx {b want:Bool}{o:Oper}[hS:S.Ok](hb:b=want)(hp:ops.toList.take (ops.toList.length-(o::rest).length)++o::rest=ops.toList)
  (h:run S sz 400 (.HE true ops o rest k env) []=(g',cc)) (hg:ax S sz R C w g') (ho:ir cc:=by((repeat' apply And.intro)<;>first|exact trivial|omega|exact wi (by omega)|exact wu (by omega)|exact wb (by omega)|(refine Sl.nn (by assumption) ?_;omega)|(refine bW (by assumption) ?_;omega)|exact Option.some_ne_none _|assumption|decide)):ax S sz R C w (.guard true b want ops o rest k env):=
 ml hb (fun _=>⟨_,hp.symm⟩) h hg ho
theorem dB {b want:Bool}{o:Oper}[hS:S.Ok](hb:b= !want)(hp:ops.toList.take (ops.toList.length-(o::rest).length)++o::rest=ops.toList)
  (h:run S sz 400 (.ops true ops rest k (jo env o.dst undef)) []=(g',cc)) (hg:ax S sz R C w g') (ho:ir cc:=by((repeat' apply And.intro)<;>first|exact trivial|omega|exact wi (by omega)|exact wu (by omega)|exact wb (by omega)|(refine Sl.nn (by assumption) ?_;omega)|(refine bW (by assumption) ?_;omega)|exact Option.some_ne_none _|assumption|decide)):ax S sz R C w (.guard true b want ops o rest k env):=
 mm hb (fun _=>⟨_,hp.symm⟩) h hg ho
end
theorem dk.apart {α β:Type}{w1 w2:World}{B1 B2:Nat}{e1 e2:TypeId}{s1 s2:Nat}{X4:α->List Value}{X5:β->List Value}{a1 a2:Option Addr}{c1 c2:Nat}{L1:List α}{L2:List β}
  (h1:dk w1 B1 e1 s1 X4 a1 c1 L1) (h2:dk w2 B2 e2 s2 X5 a2 c2 L2) (hle:w1.heap.size<=B2):(lP a1=none\/lP a1≠lP a2)/\(lP a2=none\/lP a2≠lP a1):=by
 have key:∀k,lP a1=some k->lP a2=some k->False:=fun k k1 k2=>by
  have:=h1.lt k1
  have:=h2.lt k2
  omega
 constructor
 ·cases h:lP a1 with
  |none=>exact .inl rfl
  |some k=>exact .inr fun he=>key k h he.symm
 ·cases h:lP a2 with
  |none=>exact .inl rfl
  |some k=>exact .inr fun he=>key k he.symm h
def kh {α:Type}(d:α)(xs:List α)(i:Nat):List α:=xs.take i++List.replicate (xs.length-i) d
theorem vI {α:Type}(d:α)(xs:List α):kh d xs 0=List.replicate xs.length d:=by simp[kh]
theorem xF {α:Type}(d:α)(xs:List α):kh d xs xs.length=xs:=by simp[kh]
theorem xG {α:Type}(d:α)(xs:List α){i:Nat}(h:i<=xs.length):(kh d xs i).length=xs.length:=by simp[kh];omega
theorem xH {α:Type}(d:α)(xs:List α){i:Nat}(h:i<xs.length){x:α}(hx:xs[i]?=some x):(kh d xs i).set i x=kh d xs (i+1):=by
 unfold kh
 have hl:(xs.take i).length=i:=by simp;omega
 have:x=xs[i]:=by rw[List.getElem?_eq_getElem h] at hx;injection hx with hx;exact hx.symm
 rw[List.set_append_right _ _ (by omega),hl,Nat.sub_self,show xs.length-i=(xs.length-(i+1))+1 by omega,List.replicate_succ,List.set_cons_zero,
  List.take_succ_eq_append_getElem h,this]
 rw[List.append_assoc]
 rfl
theorem getD_some {α:Type}[Inhabited α]{xs:List α}{i:Nat}(h:i<xs.length):xs[i]?=some (xs.getD i default):=by
 simp[List.getD_eq_getElem?_getD,h]
theorem Ext.own {α:Type}{w0 w w':World}{B:Nat}{e:TypeId}{sz:Nat}{enc:α->List Value}{a:Option Addr}{c:Nat}{L:List α}(h:Ext w0 w)(ho:dk w B e sz enc a c L)(hB:w0.heap.size<=B)(hg:w.grownBy w' (lP a)):Ext w0 w':=
 h.grown hg fun _ hk=>Nat.le_trans hB (ho.lt hk).1
theorem jZ.je {w w':World}{b b':Nat}{t:TypeId}{cs:List Value}(h:jZ w b t cs)(g:w.grownBy w' (some b'))(fD:b≠b'):jZ w' b t cs:=h.grown g (by simpa using fD)
theorem Ext.lP {w0 w w':World}{b:Nat}(h:Ext w0 w)(g:w.grownBy w' (some b))(hb:w0.heap.size<=b):Ext w0 w':=h.grown g fun k hk=>by injection hk with hk;omega
theorem dk.je {α:Type}{w w':World}{B:Nat}{e:TypeId}{sz:Nat}{enc:α->List Value}{a:Option Addr}{c:Nat}{L:List α}{b:Nat}(h:dk w B e sz enc a c L)(g:w.grownBy w' (some b))(hb:b<B):dk w' B e sz enc a c L:=
 h.kept g (by
  cases hk:lP a with
  |none=>exact .inl rfl
  |some k=>
   refine .inr fun he=> ?_
   have:=(h.lt hk).1
   injection he with he
   omega)
theorem Sl.je {w w0 w':World}{a:Option Addr}{n sz:Nat}{f:Nat->Nat->Value}(h:Sl w0 a n sz f)(X:Ext w0 w'):Sl w' a n sz f:=h.ext X
end Go.Xw
