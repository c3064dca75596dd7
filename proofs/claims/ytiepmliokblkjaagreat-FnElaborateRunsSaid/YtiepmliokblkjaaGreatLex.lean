/- A region that draws its order may be carried out in the order of the text; the condition is a closed check of the region. -/
import Derived.Test.YtiepmliokblkjaaGreatHp
set_option linter.all false
namespace Go.Xw
open Go.RowKit
inductive Kind where
 |pure|load|Hx
def gp:Op->Kind
 | .move _=> .pure
 | .assign _=> .pure
 | .pick _ _ _=> .pure
 | .nilCheck _=> .pure
 | .binOp _ _ _ _ _=> .pure
 | .unOp _ _ _=> .pure
 | .convert _ _ _=> .pure
 | .fieldAddr _ _ _=> .pure
 | .field _ _ _=> .pure
 | .indexAddr _ _ _=> .pure
 | .extract _ _=> .pure
 | .build _ _=> .pure
 | .makeFunc _ _ _=> .pure
 | .slice _ _ _ _ _=> .pure
 | .load _ _=> .load
 | .lookup _ _ _ _=> .load
 | .call {callee:= .builtin .len,args:=_,argTypes:=_}=> .pure
 | .call {callee:= .builtin .max,args:=_,argTypes:=_}=> .pure
 | .call {callee:= .builtin .min,args:=_,argTypes:=_}=> .pure
 |_=> .Hx
def dW (o:Oper):Bool:=match gp o.op with
 | .Hx=>true
 |_=>false
def jC (o:Oper):Bool:=match gp o.op with
 | .load=>true
 |_=>false
def Tv:List FuncId:=
 []
def qd (o:Oper):Bool:=match o.op with
 | .call {callee:= .value (.func f),args:=_,argTypes:=_}=>Tv.contains f
 |_=>false
def oY (fm:Bool)(o:Oper):Bool:=dW o&& !(fm&&qd o)
def zu (fm:Bool)(o:Oper):Bool:=jC o||(fm&&qd o)
theorem zV (o:Oper):oY false o=dW o:=by simp[oY]
theorem zW (o:Oper):zu false o=jC o:=by simp[zu]
def df (P:Program)(o:Oper)(a:Act)(w:World)(K:Act->World->Prop):Prop:=
 match(execOp a.eval o).run P w with
 | .ok (.value v) w'=>K (a.put o.dst v) w'
 | .ok .skip w'=>K (a.put o.dst undef) w'
 | .ok (.enter f args) w'=>Calls P f args w' fun e zU=>∃v,e= .returned v/\K (a.put o.dst v) zU
 |_=>False
section
variable {P:Program} {ops:Array Oper} {C:World->Prop} {Q:Act->World->Prop}
theorem df.wp {o:Oper}{a:Act}{w:World}{K:Act->World->Prop}{Q':Exit->Act->World->Prop}(h:df P o a w K):o.wp P a w K Q':=by
 unfold Oper.wp
 unfold df at h
 generalize (execOp a.eval o).run P w=r at*
 cases r with
 |halt x w'=>exact h.elim
 |ok n w'=>
  cases n<;>first|exact h.elim|skip
  case value v=>exact h
  case skip=>exact h
  case enter f args=>
   refine Calls.mono h ?_
   rintro e zU ⟨v,rfl,hq⟩
   exact hq
theorem df.ex {o:Oper}{a:Act}{w:World}{K:Act->World->Prop}(h:df P o a w K):∃v w',K (a.put o.dst v) w':=by
 unfold df at h
 generalize (execOp a.eval o).run P w=r at*
 cases r with
 |halt x w'=>exact h.elim
 |ok n w'=>
  cases n<;>first|exact h.elim|skip
  case value v=>exact⟨v,w',h⟩
  case skip=>exact⟨undef,w',h⟩
  case enter f args=>
   obtain⟨e,zU,fr,⟨v,rfl,hk⟩,_⟩:=h []
   exact⟨v,zU,hk⟩
theorem df.mono {o:Oper}{a a':Act}{w:World}{K K':Act->World->Prop}(he:execOp a'.eval o=execOp a.eval o)(h:df P o a w K)
  (hk:∀v w',K (a.put o.dst v) w'->K' (a'.put o.dst v) w'):df P o a' w K':=by
 unfold df at*
 rw[he]
 generalize (execOp a.eval o).run P w=r at*
 cases r with
 |halt x w'=>exact h.elim
 |ok n w'=>
  cases n<;>first|exact h.elim|skip
  case value v=>exact hk _ _ h
  case skip=>exact hk _ _ h
  case enter f args=>exact Calls.mono h fun e zU ⟨v,hv,hq⟩=>⟨v,hv,hk _ _ hq⟩
def fo (P:Program)(ops:Array Oper)(C:World->Prop)(Q:Act->World->Prop):List (Oper×Bool)->Act->World->Prop
 |[],a,w=>Q a w
 |(o,fl)::rest,a,w=>
  if Region.wanted o (yielded ops a.tmps) then
   match gp o.op with
   | .pure=>∃v,(∀w',(execOp a.eval o).run P w'= .ok (.value v) w')/\fo P ops C Q rest (a.put o.dst v) w
   | .load=>∃v,(∀w',C w'->(execOp a.eval o).run P w'= .ok (.value v) w')/\fo P ops C Q rest (a.put o.dst v) w
   | .Hx=>df P o a w fun a' w'=>(fl=true->C w')/\fo P ops C Q rest a' w'
  else fo P ops C Q rest (a.put o.dst undef) w
def Yv (P:Program)(ops:Array Oper)(C:World->Prop)(o:Oper)(v:Value)(a:Act):Prop:=
 (Region.wanted o (yielded ops a.tmps)=true/\match gp o.op with
  | .pure=>∀w',(execOp a.eval o).run P w'= .ok (.value v) w'
  | .load=>∀w',C w'->(execOp a.eval o).run P w'= .ok (.value v) w'
  | .Hx=>False)\/(Region.wanted o (yielded ops a.tmps)=false/\v=undef)
theorem Yv.same {o:Oper}{v:Value}{a a':Act}(h:Yv P ops C o v a)(he:execOp a'.eval o=execOp a.eval o)
  (hw:Region.wanted o (yielded ops a'.tmps)=Region.wanted o (yielded ops a.tmps)):Yv P ops C o v a':=by
 unfold Yv at*
 rw[he,hw]
 exact h
theorem Yv.one {o:Oper}{v:Value}{a:Act}(h:Yv P ops C o v a){w:World}(hC:jC o=true->C w){K:Act->World->Prop}(hk:K (a.put o.dst v) w):
  if Region.wanted o (yielded ops a.tmps) then df P o a w K else K (a.put o.dst undef) w:=by
 rcases h with⟨hw,h⟩|⟨hw,rfl⟩
 ·rw[if_pos hw]
  unfold df
  cases qe:gp o.op with
  |pure=>simp only[qe] at h;rw[h w];exact hk
  |load=>simp only[qe] at h;rw[h w (hC (by simp[jC,qe]))];exact hk
  |Hx=>simp only[qe] at h
 ·rw[if_neg (by simp[hw])];exact hk
def iq (o:Oper):Prop:=∀cs b,o.op≠ .select cs b
theorem jD {o:Oper}{fl:Bool}{rest:List (Oper×Bool)}{a:Act}{w:World}(h:fo P ops C Q ((o,fl)::rest) a w):
  (dW o=false/\∃v,Yv P ops C o v a/\fo P ops C Q rest (a.put o.dst v) w)\/
  (dW o=true/\Region.wanted o (yielded ops a.tmps)=true/\df P o a w fun a' w'=>(fl=true->C w')/\fo P ops C Q rest a' w')\/
  (dW o=true/\Region.wanted o (yielded ops a.tmps)=false/\fo P ops C Q rest (a.put o.dst undef) w):=by
 unfold fo at h
 by_cases hw:Region.wanted o (yielded ops a.tmps)=true
 ·rw[if_pos hw] at h
  cases hk:gp o.op with
  |pure=>
   simp only[hk] at h
   obtain⟨v,h1,h2⟩:=h
   exact .inl ⟨by simp[dW,hk],v,.inl ⟨hw,by simp only[hk];exact h1⟩,h2⟩
  |load=>
   simp only[hk] at h
   obtain⟨v,h1,h2⟩:=h
   exact .inl ⟨by simp[dW,hk],v,.inl ⟨hw,by simp only[hk];exact h1⟩,h2⟩
  |Hx=>simp only[hk] at h;exact .inr (.inl ⟨by simp[dW,hk],hw,h⟩)
 ·have vw:Region.wanted o (yielded ops a.tmps)=false:=by simpa using hw
  rw[if_neg hw] at h
  by_cases he:dW o=true
  ·exact .inr (.inr ⟨he,vw,h⟩)
  ·exact .inl ⟨by simpa using he,undef,.inr ⟨vw,rfl⟩,h⟩
theorem tj {o:Oper}{fl:Bool}{rest:List (Oper×Bool)}{a:Act}{w:World}{v:Value}(hy:Yv P ops C o v a)(h:fo P ops C Q rest (a.put o.dst v) w):
  fo P ops C Q ((o,fl)::rest) a w:=by
 unfold fo
 rcases hy with⟨hw,hy⟩|⟨hw,rfl⟩
 ·rw[if_pos hw]
  cases hk:gp o.op with
  |pure=>simp only[hk] at hy;exact⟨v,hy,h⟩
  |load=>simp only[hk] at hy;exact⟨v,hy,h⟩
  |Hx=>simp only[hk] at hy
 ·rw[if_neg (by simp[hw])];exact h
theorem zX {o:Oper}{fl:Bool}{rest:List (Oper×Bool)}{a:Act}{w:World}(he:dW o=true)(hw:Region.wanted o (yielded ops a.tmps)=true)
  (h:df P o a w fun a' w'=>(fl=true->C w')/\fo P ops C Q rest a' w'):fo P ops C Q ((o,fl)::rest) a w:=by
 unfold fo
 rw[if_pos hw]
 cases hk:gp o.op<;>simp[dW,hk] at he
 exact h
theorem sA {o:Oper}{fl:Bool}{rest:List (Oper×Bool)}{a:Act}{w:World}(hw:Region.wanted o (yielded ops a.tmps)=false)
  (h:fo P ops C Q rest (a.put o.dst undef) w):fo P ops C Q ((o,fl)::rest) a w:=by
 unfold fo
 rw[if_neg (by simp[hw])];exact h
variable {o:Oper} {fl:Bool} {l2:List (Oper×Bool)}
theorem q9 (ho:dW o=false)(nj:iq o):∀(l1:List (Oper×Bool)) (a:Act) (w:World),(∀p∈l1,o.apart ops p.1=true)->
  fo P ops C Q (l1++(o,fl)::l2) a w->∃v,Yv P ops C o v a
 |[],a,w,_,h=>by
  rcases jD h with⟨_,v,hy,_⟩|⟨he,_⟩|⟨he,_⟩
  ·exact⟨v,hy⟩
  ·rw[ho] at he;cases he
  ·rw[ho] at he;cases he
 |(p,fp)::l1,a,w,zY,h=>by
  obtain⟨q1,q2,q3⟩:=Oper.apart_spec (zY (p,fp) (by simp))
  have back:∀u v,Yv P ops C o v (a.put p.dst u)->Yv P ops C o v a:=fun u v hy=>
   hy.same (execOp_put o nj a p.dst u q3).symm (wanted_put o a p.dst u q3).symm
  have kZ:∀x∈l1,o.apart ops x.1=true:=fun x hx=>zY x (by simp[hx])
  rcases jD h with⟨_,u,_,h'⟩|⟨_,_,h'⟩|⟨_,_,h'⟩
  ·obtain⟨v,hv⟩:=q9 ho nj l1 _ _ kZ h'
   exact⟨v,back _ _ hv⟩
  ·obtain⟨u,w',_,O6⟩:=h'.ex
   obtain⟨v,hv⟩:=q9 ho nj l1 _ _ kZ O6
   exact⟨v,back _ _ hv⟩
  ·obtain⟨v,hv⟩:=q9 ho nj l1 _ _ kZ h'
   exact⟨v,back _ _ hv⟩
theorem tn (ho:dW o=false)(nj:iq o){v:Value}:∀(l1:List (Oper×Bool)) (a:Act) (w:World),(∀p∈l1,o.apart ops p.1=true/\iq p.1)->
  (jC o=true->C w/\∀p∈l1,dW p.1=true->p.2=true)->Yv P ops C o v a->
  fo P ops C Q (l1++(o,fl)::l2) a w->fo P ops C Q (l1++l2) (a.put o.dst v) w
 |[],a,w,_,hC,hy,h=>by
  rcases jD h with⟨_,u,hu,h'⟩|⟨he,_⟩|⟨he,_⟩
  ·have e:u=v:=by
    rcases hy with⟨hw,hy⟩|⟨hw,rfl⟩
    ·rcases hu with⟨_,hu⟩|⟨vw,_⟩
     ·cases hk:gp o.op with
      |pure=>
       simp only[hk] at hy hu
       have:=(hy w).symm.trans (hu w)
       injection this with this
       injection this with this
       exact this.symm
      |load=>
       simp only[hk] at hy hu
       have hc:=(hC (by simp[jC,hk])).1
       have:=(hy w hc).symm.trans (hu w hc)
       injection this with this
       injection this with this
       exact this.symm
      |Hx=>simp only[hk] at hy
     ·rw[hw] at vw;cases vw
    ·rcases hu with⟨vw,_⟩|⟨_,rfl⟩
     ·rw[hw] at vw;cases vw
     ·rfl
   subst e
   exact h'
  ·rw[ho] at he;cases he
  ·rw[ho] at he;cases he
 |(p,fp)::l1,a,w,zY,hC,hy,h=>by
  obtain⟨A6,Lt⟩:=zY (p,fp) (by simp)
  obtain⟨q1,q2,q3⟩:=Oper.apart_spec A6
  have on:∀u,Yv P ops C o v (a.put p.dst u):=fun u=>hy.same (execOp_put o nj a p.dst u q3) (wanted_put o a p.dst u q3)
  have ep:execOp (a.put o.dst v).eval p=execOp a.eval p:=execOp_put p Lt a o.dst v q1
  have CL:Region.wanted p (yielded ops (a.put o.dst v).tmps)=Region.wanted p (yielded ops a.tmps):=wanted_put p a o.dst v q1
  have comm:∀u,(a.put p.dst u).put o.dst v=(a.put o.dst v).put p.dst u:=fun u=>(Act.put_comm a v u q2).symm
  have kZ:∀x∈l1,o.apart ops x.1=true/\iq x.1:=fun x hx=>zY x (by simp[hx])
  rcases jD h with⟨_,u,hu,h'⟩|⟨he,hw,h'⟩|⟨he,hw,h'⟩
  ·have:=tn ho nj l1 _ _ kZ (fun hl=>⟨(hC hl).1,fun x hx=>(hC hl).2 x (by simp[hx])⟩) (on u) h'
   rw[comm] at this
   exact tj (hu.same ep CL) this
  ·refine zX he (by rw[CL];exact hw) (df.mono ep h' fun u w' ⟨k1,k2⟩=>⟨k1,?_⟩)
   have:=tn ho nj l1 _ _ kZ (fun hl=>⟨k1 ((hC hl).2 (p,fp) (by simp) he),fun x hx=>(hC hl).2 x (by simp[hx])⟩) (on u) k2
   rw[comm] at this
   exact this
  ·have:=tn ho nj l1 _ _ kZ (fun hl=>⟨(hC hl).1,fun x hx=>(hC hl).2 x (by simp[hx])⟩) (on undef) h'
   rw[comm] at this
   exact sA (by rw[CL];exact hw) this
theorem F9 (ho:dW o=true)(nj:iq o):∀(l1:List (Oper×Bool)) (a:Act) (w:World),(∀p∈l1,o.apart ops p.1=true/\iq p.1/\dW p.1=false)->
  fo P ops C Q (l1++(o,fl)::l2) a w->
  if Region.wanted o (yielded ops a.tmps) then df P o a w fun a' w'=>(fl=true->C w')/\fo P ops C Q (l1++l2) a' w'
  else fo P ops C Q (l1++l2) (a.put o.dst undef) w
 |[],a,w,_,h=>by
  rcases jD h with⟨he,_⟩|⟨_,hw,h'⟩|⟨_,hw,h'⟩
  ·rw[ho] at he;cases he
  ·rw[if_pos hw];exact h'
  ·rw[if_neg (by simp[hw])];exact h'
 |(p,fp)::l1,a,w,zY,h=>by
  obtain⟨A6,Lt,Lu⟩:=zY (p,fp) (by simp)
  obtain⟨q1,q2,q3⟩:=Oper.apart_spec A6
  have kZ:∀x∈l1,o.apart ops x.1=true/\iq x.1/\dW x.1=false:=fun x hx=>zY x (by simp[hx])
  rcases jD h with⟨_,u,hu,h'⟩|⟨he,_⟩|⟨he,_⟩
  ·have ih:=F9 ho nj l1 _ _ kZ h'
   have je:∀x,Yv P ops C p u (a.put o.dst x):=fun x=>hu.same (execOp_put p Lt a o.dst x q1) (wanted_put p a o.dst x q1)
   have comm:∀x,(a.put p.dst u).put o.dst x=(a.put o.dst x).put p.dst u:=fun x=>(Act.put_comm a x u q2).symm
   rw[wanted_put o a p.dst u q3] at ih
   split
   ·rename_i hw
    rw[if_pos hw] at ih
    refine df.mono (execOp_put o nj a p.dst u q3).symm ih fun x w' ⟨k1,k2⟩=>⟨k1,?_⟩
    rw[comm] at k2
    exact tj (je x) k2
   ·rename_i hw
    rw[if_neg hw] at ih
    rw[comm] at ih
    exact tj (je undef) ih
  ·rw[Lu] at he;cases he
  ·rw[Lu] at he;cases he
end
def dQ (o:Oper):Bool:=match o.op with
 | .alloc _=>true
 | .box _ _=>true
 | .buildSlice _ _ _=>true
 | .makeSlice _ _ _=>true
 | .makeMap _ none=>true
 |_=>false
def fV:Option Nat->Nat->Value
 |none,b=> .pointer (some ⟨b,0,none⟩)
 |some n,b=> .slice (some ⟨b,0,none⟩) n n
theorem xa (w:World)(o:Obj):(w.alloc o).heap[w.heap.size]?=some o:=by
 show(w.heap.push o)[w.heap.size]?=_
 exact Array.getElem?_push_size
inductive FD where
 |cells (s:Option Nat) (t:TypeId) (cs:List Value)
 |map
def FD.obj:FD->Obj
 | .cells _ t cs=> .cells ⟨cs⟩ t
 | .map=> .map #[] 0
def FD.val:FD->Nat->Value
 | .cells s _ _,b=>fV s b
 | .map,b=> .map (some b)
def XK (b:Nat)(es:Array MapEntry)(clock:Nat):bh where
 ids:=[b]
 P w:=w.heap[b]?=some (.map es clock)
 st:=fun h hP=>by rw[h b (by simp)];exact hP
 lt:=fun{w} hP k hk=>by
  simp at hk;subst hk
  rcases Nat.lt_or_ge k w.heap.size with h|h
  ·exact h
  ·rw[Array.getElem?_eq_none h] at hP;cases hP
def FD.res:FD->Nat->bh
 | .cells _ t cs,b=>rB b t cs
 | .map,b=>XK b #[] 0
theorem FD.new (d:FD){w0 w:World}{L:List bh}(hp:Hp w0 w L):Hp w0 (w.alloc d.obj) (d.res w.heap.size::L):=by
 cases d with
 |cells s t cs=>exact hp.IW rfl (Ext.alloc _ _) (jZ.new _ _ _)
 |map=>
  refine hp.bJ ⟨Ext.alloc _ _,by simp[FD.res,XK],fun k hk=>by simp[FD.res,XK] at hk;omega,fun R hR=> ?_⟩
  simp at hR;subst hR
  exact xa w _
def kU (P:Program)(o:Oper)(a:Act)(d:FD):Prop:=
 ∀w,(execOp a.eval o).run P w= .ok (.value (d.val w.heap.size)) (w.alloc d.obj)
theorem kU.same {P:Program}{o:Oper}{a a':Act}{d:FD}(h:kU P o a d)(he:execOp a'.eval o=execOp a.eval o):kU P o a' d:=fun w=>by
 rw[he];exact h w
theorem kU.uniq {P:Program}{o:Oper}{a:Act}{d d':FD}(h:kU P o a d)(h':kU P o a d')(w:World):d=d':=by
 have e:=(h w).symm.trans (h' w)
 injection e with e1 e2
 injection e1 with e1
 have e3:(w.alloc d.obj).heap[w.heap.size]?=(w.alloc d'.obj).heap[w.heap.size]?:=by rw[e2]
 rw[xa,xa] at e3
 cases d<;>cases d'<;>simp[FD.obj] at e3
 ·obtain⟨rfl,rfl⟩:=e3
  rename_i s t cs s'
  have e1:fV s w.heap.size=fV s' w.heap.size:=e1
  cases s<;>cases s'<;>simp_all [fV]
 ·rfl
def Tw:Array Value->Value
 |⟨[.agg ⟨[.int _ i,.slice _ s _,.slice _ a _,_]⟩]⟩=> .int .i64 (1+i+s+a)
 |_=>undef
def zA (P:Program)(w0:World)(L0:List bh)(o:Oper)(a:Act)(v:Value):Prop:=
 ∃f args,(∀w',(execOp a.eval o).run P w'= .ok (.enter f args) w')/\v=Tw args/\∀w',Hp w0 w' L0->Calls P f args w' fun e zU=>e= .returned v/\Ext w' zU
theorem zA.XL {P:Program}{w0:World}{L0:List bh}{o:Oper}{a:Act}{v:Value}(h:zA P w0 L0 o a v){w:World}(hp:Hp w0 w L0):df P o a w fun a' w'=>a'=a.put o.dst v/\Ext w w':=by
 obtain⟨f,args,h1,h2,h3⟩:=h
 unfold df
 rw[h1 w]
 exact Calls.mono (h3 w hp) fun e zU ⟨k1,k2⟩=>⟨v,k1,rfl,k2⟩
theorem zA.same {P:Program}{w0:World}{L0:List bh}{o:Oper}{a a':Act}{v:Value}(h:zA P w0 L0 o a v)(he:execOp a'.eval o=execOp a.eval o):zA P w0 L0 o a' v:=by
 obtain⟨f,args,h1,h2⟩:=h
 exact⟨f,args,fun w'=>by rw[he];exact h1 w',h2⟩
theorem zA.uniq {P:Program}{w0:World}{L0:List bh}{o:Oper}{a:Act}{v u:Value}(h:zA P w0 L0 o a v)(k:zA P w0 L0 o a u):u=v:=by
 obtain⟨f,args,h1,h2,_⟩:=h
 obtain⟨g,args',k1,k2,_⟩:=k
 have e:=(h1 default).symm.trans (k1 default)
 injection e with e1
 injection e1 with e1 e2
 rw[h2,k2,e2]
def lF (P:Program)(ops:Array Oper)(w0:World)(L0:List bh)(Q:Act->World->Prop):List (Oper×Bool)->List bh->Act->Prop
 |[],L,a=>∀w,Hp w0 w L->Q a w
 |(o,fl)::rest,L,a=>
  if Region.wanted o (yielded ops a.tmps) then
   match gp o.op with
   | .pure=>∃v,(∀w',(execOp a.eval o).run P w'= .ok (.value v) w')/\lF P ops w0 L0 Q rest L (a.put o.dst v)
   | .load=>∃v,(∀w',Hp w0 w' L0->(execOp a.eval o).run P w'= .ok (.value v) w')/\lF P ops w0 L0 Q rest L (a.put o.dst v)
   | .Hx=>
    if dQ o then∃d,kU P o a d/\∀b,(∃F w,Hp w0 w ((d.res b::L)++F))->lF P ops w0 L0 Q rest (d.res b::L) (a.put o.dst (d.val b))
    else if qd o then∃v,zA P w0 L0 o a v/\lF P ops w0 L0 Q rest L (a.put o.dst v)
    else∀F w,Hp w0 w (L++F)->df P o a w fun a' w'=>(fl=true->Hp w0 w' L0)/\∃L',Hp w0 w' (L'++F)/\lF P ops w0 L0 Q rest L' a'
  else lF P ops w0 L0 Q rest L (a.put o.dst undef)
def Ex (P:Program)(ops:Array Oper)(w0:World)(L0:List bh)(o:Oper)(v:Value)(a:Act):Prop:=
 Yv P ops (fun w'=>Hp w0 w' L0) o v a\/(qd o=true/\dQ o=false/\dW o=true/\Region.wanted o (yielded ops a.tmps)=true/\zA P w0 L0 o a v)
theorem IX {o:Oper}(h:dQ o=true):qd o=false:=by
 unfold dQ at h
 unfold qd
 split at h<;>simp_all
theorem xc {o:Oper}(h:dQ o=true):dW o=true:=by
 unfold dQ at h
 unfold dW gp
 split at h<;>simp_all
theorem q' {o:Oper}(h:dQ o=true):oY true o=true:=by simp[oY,IX h,xc h]
theorem Ex.same {P:Program}{ops:Array Oper}{w0:World}{L0:List bh}{o:Oper}{v:Value}{a a':Act}(h:Ex P ops w0 L0 o v a)(he:execOp a'.eval o=execOp a.eval o)
  (hw:Region.wanted o (yielded ops a'.tmps)=Region.wanted o (yielded ops a.tmps)):Ex P ops w0 L0 o v a':=by
 rcases h with h|⟨h1,h2,h3,h4,h5⟩
 ·exact .inl (h.same he hw)
 ·exact .inr ⟨h1,h2,h3,by rw[hw];exact h4,h5.same he⟩
theorem Ex.one {P:Program}{ops:Array Oper}{w0:World}{L0:List bh}{o:Oper}{v:Value}{a:Act}(h:Ex P ops w0 L0 o v a){w:World}(hC:zu true o=true->Hp w0 w L0){K:Act->World->Prop}(hk:∀w',Ext w w'->K (a.put o.dst v) w'):
  if Region.wanted o (yielded ops a.tmps) then df P o a w K else K (a.put o.dst undef) w:=by
 rcases h with h|⟨h1,h2,h3,h4,h5⟩
 ·exact h.one (fun hl=>hC (by simp[zu,hl])) (hk w (Ext.refl _))
 ·rw[if_pos h4]
  exact df.mono rfl (h5.XL (hC (by simp[zu,h1]))) fun u zU ⟨k1,k2⟩=>by rw[k1];exact hk zU k2
section
variable {P:Program} {ops:Array Oper} {w0:World} {L0:List bh} {Q:Act->World->Prop}
theorem gU {o:Oper}{fl:Bool}{rest:List (Oper×Bool)}{L:List bh}{a:Act}(h:lF P ops w0 L0 Q ((o,fl)::rest) L a):
  (oY true o=false/\∃v,Ex P ops w0 L0 o v a/\lF P ops w0 L0 Q rest L (a.put o.dst v))\/
  (dQ o=true/\Region.wanted o (yielded ops a.tmps)=true/\∃d,kU P o a d/\∀b,(∃F w,Hp w0 w ((d.res b::L)++F))->lF P ops w0 L0 Q rest (d.res b::L) (a.put o.dst (d.val b)))\/
  (oY true o=true/\dQ o=false/\Region.wanted o (yielded ops a.tmps)=true/\∀F w,Hp w0 w (L++F)->df P o a w fun a' w'=>(fl=true->Hp w0 w' L0)/\∃L',Hp w0 w' (L'++F)/\lF P ops w0 L0 Q rest L' a')\/
  (oY true o=true/\Region.wanted o (yielded ops a.tmps)=false/\lF P ops w0 L0 Q rest L (a.put o.dst undef)):=by
 unfold lF at h
 by_cases hw:Region.wanted o (yielded ops a.tmps)=true
 ·rw[if_pos hw] at h
  cases hk:gp o.op with
  |pure=>
   simp only[hk] at h
   obtain⟨v,h1,h2⟩:=h
   exact .inl ⟨by simp[oY,dW,hk],v,.inl (.inl ⟨hw,by simp only[hk];exact h1⟩),h2⟩
  |load=>
   simp only[hk] at h
   obtain⟨v,h1,h2⟩:=h
   exact .inl ⟨by simp[oY,dW,hk],v,.inl (.inl ⟨hw,by simp only[hk];exact h1⟩),h2⟩
  |Hx=>
   simp only[hk] at h
   by_cases hf:dQ o=true
   ·rw[if_pos hf] at h;exact .inr (.inl ⟨hf,hw,h⟩)
   ·rw[if_neg hf] at h
    by_cases wg:qd o=true
    ·rw[if_pos wg] at h
     obtain⟨v,h1,h2⟩:=h
     exact .inl ⟨by simp[oY,wg],v,.inr ⟨wg,by simpa using hf,by simp[dW,hk],hw,h1⟩,h2⟩
    ·rw[if_neg wg] at h
     exact .inr (.inr (.inl ⟨by simp[oY,dW,hk,wg],by simpa using hf,hw,h⟩))
 ·have vw:Region.wanted o (yielded ops a.tmps)=false:=by simpa using hw
  rw[if_neg hw] at h
  by_cases he:oY true o=true
  ·exact .inr (.inr (.inr ⟨he,vw,h⟩))
  ·exact .inl ⟨by simpa using he,undef,.inl (.inr ⟨vw,rfl⟩),h⟩
theorem lG {o:Oper}{fl:Bool}{rest:List (Oper×Bool)}{L:List bh}{a:Act}{v:Value}(hy:Ex P ops w0 L0 o v a)(h:lF P ops w0 L0 Q rest L (a.put o.dst v)):
  lF P ops w0 L0 Q ((o,fl)::rest) L a:=by
 unfold lF
 rcases hy with(⟨hw,hy⟩|⟨hw,rfl⟩)|⟨h1,h2,h3,hw,h5⟩
 ·rw[if_pos hw]
  cases hk:gp o.op with
  |pure=>simp only[hk] at hy;exact⟨v,hy,h⟩
  |load=>simp only[hk] at hy;exact⟨v,hy,h⟩
  |Hx=>simp only[hk] at hy
 ·rw[if_neg (by simp[hw])];exact h
 ·rw[if_pos hw]
  cases hk:gp o.op<;>simp[dW,hk] at h3
  simp only[h2,h1,if_true]
  exact⟨v,h5,h⟩
theorem nt {o:Oper}{fl:Bool}{rest:List (Oper×Bool)}{L:List bh}{a:Act}(he:oY true o=true)(hf:dQ o=false)(hw:Region.wanted o (yielded ops a.tmps)=true)
  (h:∀F w,Hp w0 w (L++F)->df P o a w fun a' w'=>(fl=true->Hp w0 w' L0)/\∃L',Hp w0 w' (L'++F)/\lF P ops w0 L0 Q rest L' a'):lF P ops w0 L0 Q ((o,fl)::rest) L a:=by
 unfold lF
 rw[if_pos hw]
 have wg:qd o=false:=by cases h2:qd o<;>simp[oY,h2] at he⊢
 cases hk:gp o.op<;>simp[oY,dW,hk] at he
 simp only[hf,wg]
 exact h
theorem jO {o:Oper}{fl:Bool}{rest:List (Oper×Bool)}{L:List bh}{a:Act}(hf:dQ o=true)(hw:Region.wanted o (yielded ops a.tmps)=true){d:FD}
  (ij:kU P o a d) (h:∀b,(∃F w,Hp w0 w ((d.res b::L)++F))->lF P ops w0 L0 Q rest (d.res b::L) (a.put o.dst (d.val b))):lF P ops w0 L0 Q ((o,fl)::rest) L a:=by
 unfold lF
 rw[if_pos hw]
 have he:=xc hf
 cases hk:gp o.op<;>simp[dW,hk] at he
 simp only[hf,if_true]
 exact⟨d,ij,h⟩
theorem mz {o:Oper}{fl:Bool}{rest:List (Oper×Bool)}{L:List bh}{a:Act}(hw:Region.wanted o (yielded ops a.tmps)=false)
  (h:lF P ops w0 L0 Q rest L (a.put o.dst undef)):lF P ops w0 L0 Q ((o,fl)::rest) L a:=by
 unfold lF
 rw[if_neg (by simp[hw])];exact h
theorem Hp.NJ {w:World}{L F:List bh}{R:bh}:Hp w0 w ((R::L)++F)↔Hp w0 w (L++(R::F)):=
 ⟨fun h=>h.perm List.perm_middle.symm,fun h=>h.perm List.perm_middle⟩
theorem nu:∀(l:List (Oper×Bool)) (L L':List bh) (a:Act),(∀F w,Hp w0 w (L'++F)->Hp w0 w (L++F))->lF P ops w0 L0 Q l L a->lF P ops w0 L0 Q l L' a
 |[],L,L',a,hs,h=>fun w hp=>h w (by have:=hs [] w (by simpa using hp);simpa using this)
 |(p,fp)::l,L,L',a,hs,h=>by
  rcases gU h with⟨_,u,hu,h'⟩|⟨hf,hw,d,ij,h'⟩|⟨he,hf,hw,h'⟩|⟨he,hw,h'⟩
  ·exact lG hu (nu l L L' _ hs h')
  ·have Lv:∀(b:Nat) F w,Hp w0 w ((d.res b::L')++F)->Hp w0 w ((d.res b::L)++F):=fun b F w hp=>Hp.NJ.2 (hs _ w (Hp.NJ.1 hp))
   exact jO hf hw ij fun b ⟨F,w,hp⟩=>nu l _ _ _ (Lv b) (h' b ⟨F,w,Lv b F w hp⟩)
  ·exact nt he hf hw fun F w hp=>h' F w (hs F w hp)
  ·exact mz hw (nu l L L' _ hs h')
end
section
variable {P:Program} {ops:Array Oper} {w0:World} {L0:List bh} {Q:Act->World->Prop} {o:Oper} {fl:Bool} {l2:List (Oper×Bool)}
theorem kF (ho:oY true o=false)(nj:iq o):∀(l1:List (Oper×Bool)) (L:List bh) (a:Act),(∃F w,Hp w0 w (L++F))->(∀p∈l1,o.apart ops p.1=true)->
  lF P ops w0 L0 Q (l1++(o,fl)::l2) L a->∃v,Ex P ops w0 L0 o v a
 |[],L,a,_,_,h=>by
  rcases gU h with⟨_,v,hy,_⟩|⟨he,_⟩|⟨he,_⟩|⟨he,_⟩
  ·exact⟨v,hy⟩
  ·rw[q' he] at ho;cases ho
  ·rw[ho] at he;cases he
  ·rw[ho] at he;cases he
 |(p,fp)::l1,L,a,⟨F,w,hp⟩,zY,h=>by
  obtain⟨q1,q2,q3⟩:=Oper.apart_spec (zY (p,fp) (by simp))
  have back:∀u v,Ex P ops w0 L0 o v (a.put p.dst u)->Ex P ops w0 L0 o v a:=fun u v hy=>
   hy.same (execOp_put o nj a p.dst u q3).symm (wanted_put o a p.dst u q3).symm
  have kZ:∀x∈l1,o.apart ops x.1=true:=fun x hx=>zY x (by simp[hx])
  rcases gU h with⟨_,u,_,h'⟩|⟨_,_,d,ij,h'⟩|⟨_,_,_,h'⟩|⟨_,_,h'⟩
  ·obtain⟨v,hv⟩:=kF ho nj l1 _ _ ⟨F,w,hp⟩ kZ h'
   exact⟨v,back _ _ hv⟩
  ·have xd:Hp w0 (w.alloc d.obj) ((d.res w.heap.size::L)++F):=FD.new _ hp
   obtain⟨v,hv⟩:=kF ho nj l1 _ _ ⟨F,_,xd⟩ kZ (h' w.heap.size ⟨F,_,xd⟩)
   exact⟨v,back _ _ hv⟩
  ·obtain⟨u,w',_,L',nL,O6⟩:=(h' F w hp).ex
   obtain⟨v,hv⟩:=kF ho nj l1 _ _ ⟨F,w',nL⟩ kZ O6
   exact⟨v,back _ _ hv⟩
  ·obtain⟨v,hv⟩:=kF ho nj l1 _ _ ⟨F,w,hp⟩ kZ h'
   exact⟨v,back _ _ hv⟩
theorem Yv.uniq {C:World->Prop}{v u:Value}{a:Act}(hy:Yv P ops C o v a)(hu:Yv P ops C o u a)(hC:jC o=true->∃w,C w):u=v:=by
 rcases hy with⟨hw,hy⟩|⟨hw,rfl⟩
 ·rcases hu with⟨_,hu⟩|⟨vw,_⟩
  ·cases hk:gp o.op with
   |pure=>
    simp only[hk] at hy hu
    have:=(hy default).symm.trans (hu default)
    injection this with this
    injection this with this
    exact this.symm
   |load=>
    simp only[hk] at hy hu
    obtain⟨w,hc⟩:=hC (by simp[jC,hk])
    have:=(hy w hc).symm.trans (hu w hc)
    injection this with this
    injection this with this
    exact this.symm
   |Hx=>simp only[hk] at hy
  ·rw[hw] at vw;cases vw
 ·rcases hu with⟨vw,_⟩|⟨_,rfl⟩
  ·rw[hw] at vw;cases vw
  ·rfl
theorem Ex.uniq {v u:Value}{a:Act}(hy:Ex P ops w0 L0 o v a)(hu:Ex P ops w0 L0 o u a)(hC:zu true o=true->∃w,Hp w0 w L0):a.put o.dst u=a.put o.dst v:=by
 have no:∀{x:Value},Yv P ops (fun w'=>Hp w0 w' L0) o x a->dW o=true->Region.wanted o (yielded ops a.tmps)=true->False:=fun h1 h2 h3=>by
  rcases h1 with⟨_,h1⟩|⟨h1,_⟩
  ·cases hk:gp o.op<;>simp[dW,hk] at h2
   simp only[hk] at h1
  ·rw[h3] at h1;cases h1
 rcases hy with hy|⟨h1,h2,h3,h4,h5⟩
 ·rcases hu with hu|⟨g1,g2,g3,g4,g5⟩
  ·rw[hy.uniq hu fun hl=>hC (by simp[zu,hl])]
  ·exact(no hy g3 g4).elim
 ·rcases hu with hu|⟨g1,g2,g3,g4,g5⟩
  ·exact(no hu h3 h4).elim
  ·rw[h5.uniq g5]
theorem mg (ho:oY true o=false)(nj:iq o){v:Value}(hC:zu true o=true->∃w,Hp w0 w L0):∀(l1:List (Oper×Bool)) (L:List bh) (a:Act),(∀p∈l1,o.apart ops p.1=true/\iq p.1)->
  Ex P ops w0 L0 o v a->lF P ops w0 L0 Q (l1++(o,fl)::l2) L a->lF P ops w0 L0 Q (l1++l2) L (a.put o.dst v)
 |[],L,a,_,hy,h=>by
  rcases gU h with⟨_,u,hu,h'⟩|⟨he,_⟩|⟨he,_⟩|⟨he,_⟩
  ·rw[<-hy.uniq hu hC]
   exact h'
  ·rw[q' he] at ho;cases ho
  ·rw[ho] at he;cases he
  ·rw[ho] at he;cases he
 |(p,fp)::l1,L,a,zY,hy,h=>by
  obtain⟨A6,Lt⟩:=zY (p,fp) (by simp)
  obtain⟨q1,q2,q3⟩:=Oper.apart_spec A6
  have on:∀u,Ex P ops w0 L0 o v (a.put p.dst u):=fun u=>hy.same (execOp_put o nj a p.dst u q3) (wanted_put o a p.dst u q3)
  have ep:execOp (a.put o.dst v).eval p=execOp a.eval p:=execOp_put p Lt a o.dst v q1
  have CL:Region.wanted p (yielded ops (a.put o.dst v).tmps)=Region.wanted p (yielded ops a.tmps):=wanted_put p a o.dst v q1
  have comm:∀u,(a.put p.dst u).put o.dst v=(a.put o.dst v).put p.dst u:=fun u=>(Act.put_comm a v u q2).symm
  have kZ:∀x∈l1,o.apart ops x.1=true/\iq x.1:=fun x hx=>zY x (by simp[hx])
  rcases gU h with⟨_,u,hu,h'⟩|⟨hf,hw,d,ij,h'⟩|⟨he,hf,hw,h'⟩|⟨he,hw,h'⟩
  ·have:=mg ho nj hC l1 L _ kZ (on u) h'
   rw[comm] at this
   exact lG (hu.same ep CL) this
  ·refine jO hf (by rw[CL];exact hw) (ij.same ep) fun b hb=> ?_
   have:=mg ho nj hC l1 _ _ kZ (on _) (h' b hb)
   rw[comm] at this
   exact this
  ·refine nt he hf (by rw[CL];exact hw) fun F w hp=>df.mono ep (h' F w hp) fun u w' ⟨k1,L',k2,k3⟩=>⟨k1,L',k2,?_⟩
   have:=mg ho nj hC l1 _ _ kZ (on u) k3
   rw[comm] at this
   exact this
  ·have:=mg ho nj hC l1 L _ kZ (on undef) h'
   rw[comm] at this
   exact mz (by rw[CL];exact hw) this
theorem xe (ho:oY true o=true)(Ey:dQ o=false)(nj:iq o):∀(l1:List (Oper×Bool)) (L:List bh) (a:Act),(∀p∈l1,o.apart ops p.1=true/\iq p.1/\oY true p.1=false)->
  lF P ops w0 L0 Q (l1++(o,fl)::l2) L a->
  if Region.wanted o (yielded ops a.tmps) then∀F w,Hp w0 w (L++F)->df P o a w fun a' w'=>(fl=true->Hp w0 w' L0)/\∃L',Hp w0 w' (L'++F)/\lF P ops w0 L0 Q (l1++l2) L' a'
  else lF P ops w0 L0 Q (l1++l2) L (a.put o.dst undef)
 |[],L,a,_,h=>by
  rcases gU h with⟨he,_⟩|⟨hf,_⟩|⟨_,_,hw,h'⟩|⟨_,hw,h'⟩
  ·rw[ho] at he;cases he
  ·rw[hf] at Ey;cases Ey
  ·rw[if_pos hw];exact h'
  ·rw[if_neg (by simp[hw])];exact h'
 |(p,fp)::l1,L,a,zY,h=>by
  obtain⟨A6,Lt,Lu⟩:=zY (p,fp) (by simp)
  obtain⟨q1,q2,q3⟩:=Oper.apart_spec A6
  have kZ:∀x∈l1,o.apart ops x.1=true/\iq x.1/\oY true x.1=false:=fun x hx=>zY x (by simp[hx])
  rcases gU h with⟨_,u,hu,h'⟩|⟨hf,_⟩|⟨he,_⟩|⟨he,_⟩
  ·have ih:=xe ho Ey nj l1 L _ kZ h'
   have je:∀x,Ex P ops w0 L0 p u (a.put o.dst x):=fun x=>hu.same (execOp_put p Lt a o.dst x q1) (wanted_put p a o.dst x q1)
   have comm:∀x,(a.put p.dst u).put o.dst x=(a.put o.dst x).put p.dst u:=fun x=>(Act.put_comm a x u q2).symm
   rw[wanted_put o a p.dst u q3] at ih
   split
   ·rename_i hw
    rw[if_pos hw] at ih
    refine fun F w hp=>df.mono (execOp_put o nj a p.dst u q3).symm (ih F w hp) fun x w' ⟨k1,L',k2,k3⟩=>⟨k1,L',k2,?_⟩
    rw[comm] at k3
    exact lG (je x) k3
   ·rename_i hw
    rw[if_neg hw] at ih
    rw[comm] at ih
    exact lG (je undef) ih
  ·rw[q' hf] at Lu;cases Lu
  ·rw[Lu] at he;cases he
  ·rw[Lu] at he;cases he
theorem kG (hf:dQ o=true)(nj:iq o):∀(l1:List (Oper×Bool)) (L:List bh) (a:Act),(∃F w,Hp w0 w (L++F))->(∀p∈l1,o.apart ops p.1=true/\iq p.1)->
  lF P ops w0 L0 Q (l1++(o,fl)::l2) L a->
  if Region.wanted o (yielded ops a.tmps) then∃d,kU P o a d/\∀b,(∃F w,Hp w0 w ((d.res b::L)++F))->lF P ops w0 L0 Q (l1++l2) (d.res b::L) (a.put o.dst (d.val b))
  else lF P ops w0 L0 Q (l1++l2) L (a.put o.dst undef)
 |[],L,a,_,_,h=>by
  rcases gU h with⟨he,_⟩|⟨_,hw,h'⟩|⟨_,hn,_⟩|⟨_,hw,h'⟩
  ·rw[q' hf] at he;cases he
  ·rw[if_pos hw];exact h'
  ·rw[hf] at hn;cases hn
  ·rw[if_neg (by simp[hw])];exact h'
 |(p,fp)::l1,L,a,⟨F,w,hp⟩,zY,h=>by
  obtain⟨A6,Lt⟩:=zY (p,fp) (by simp)
  obtain⟨q1,q2,q3⟩:=Oper.apart_spec A6
  have kZ:∀x∈l1,o.apart ops x.1=true/\iq x.1:=fun x hx=>zY x (by simp[hx])
  have eo:∀u,execOp (a.put p.dst u).eval o=execOp a.eval o:=fun u=>execOp_put o nj a p.dst u q3
  have wo:∀u,Region.wanted o (yielded ops (a.put p.dst u).tmps)=Region.wanted o (yielded ops a.tmps):=fun u=>wanted_put o a p.dst u q3
  have ep:∀x,execOp (a.put o.dst x).eval p=execOp a.eval p:=fun x=>execOp_put p Lt a o.dst x q1
  have CL:∀x,Region.wanted p (yielded ops (a.put o.dst x).tmps)=Region.wanted p (yielded ops a.tmps):=fun x=>wanted_put p a o.dst x q1
  have comm:∀u x,(a.put p.dst u).put o.dst x=(a.put o.dst x).put p.dst u:=fun u x=>(Act.put_comm a x u q2).symm
  rcases gU h with⟨_,u,hu,h'⟩|⟨Tx,hw,d',Ty,h'⟩|⟨he,Tx,hw,h'⟩|⟨he,hw,h'⟩
  ·have ih:=kG hf nj l1 L _ ⟨F,w,hp⟩ kZ h'
   rw[wo] at ih
   split
   ·rename_i zB
    rw[if_pos zB] at ih
    obtain⟨d,ij,ih⟩:=ih
    refine⟨d,ij.same (eo u).symm,fun b hb=> ?_⟩
    have:=ih b hb
    rw[comm] at this
    exact lG (hu.same (ep _) (CL _)) this
   ·rename_i zB
    rw[if_neg zB,comm] at ih
    exact lG (hu.same (ep _) (CL _)) ih
  ·have ih:∀b,(∃F w,Hp w0 w ((d'.res b::L)++F))->_:=fun b hb=>kG hf nj l1 _ _ hb kZ (h' b hb)
   have xd:Hp w0 (w.alloc d'.obj) ((d'.res w.heap.size::L)++F):=FD.new _ hp
   simp only[wo] at ih
   split
   ·rename_i zB
    simp only[zB,if_true] at ih
    obtain⟨d,ij,_⟩:=ih _ ⟨F,_,xd⟩
    have IY:=ij.same (eo _).symm
    refine⟨d,IY,fun b hb=>jO Tx (by rw[CL];exact hw) (Ty.same (ep _)) fun b' rN=> ?_⟩
    obtain⟨F',w',rN⟩:=rN
    have sw:∀(c c':Nat) (F:List bh) (w:World),Hp w0 w ((d'.res c::d.res c'::L)++F)->Hp w0 w ((d.res c'::d'.res c::L)++F):=fun c c' F w h=>h.perm (List.Perm.swap _ _ _)
    have A7:=sw _ _ _ _ rN
    obtain⟨d2,Lw,pL⟩:=ih b' ⟨d.res b::F',w',Hp.NJ.1 A7⟩
    obtain rfl:=IY.uniq (Lw.same (eo _).symm) default
    have:=pL b ⟨F',w',A7⟩
    rw[comm] at this
    exact nu _ _ _ _ (sw b' b) this
   ·rename_i zB
    simp only[zB,if_false] at ih
    refine jO Tx (by rw[CL];exact hw) (Ty.same (ep _)) fun b' rN=> ?_
    have:=ih b' rN
    rw[comm] at this
    exact this
  ·have ih:∀u L' F' w',Hp w0 w' (L'++F')->lF P ops w0 L0 Q (l1++(o,fl)::l2) L' (a.put p.dst u)->_:=fun u L' F' w' nL O6=>kG hf nj l1 L' _ ⟨F',w',nL⟩ kZ O6
   simp only[wo] at ih
   split
   ·rename_i zB
    simp only[zB,if_true] at ih
    obtain⟨u,w',_,L',nL,O6⟩:=(h' F w hp).ex
    obtain⟨d,ij,_⟩:=ih u L' F w' nL O6
    have IY:=ij.same (eo _).symm
    refine⟨d,IY,fun b hb=>nt he Tx (by rw[CL];exact hw) fun F1 w1 jP=>df.mono (ep _) (h' (d.res b::F1) w1 (Hp.NJ.1 jP)) fun u1 w2 ⟨k1,L2,k2,k3⟩=>⟨k1,d.res b::L2,Hp.NJ.2 k2,?_⟩⟩
    obtain⟨d2,Lw,pL⟩:=ih u1 L2 _ w2 k2 k3
    obtain rfl:=IY.uniq (Lw.same (eo _).symm) default
    have:=pL b ⟨F1,w2,Hp.NJ.2 k2⟩
    rw[comm] at this
    exact this
   ·rename_i zB
    simp only[zB,if_false] at ih
    refine nt he Tx (by rw[CL];exact hw) fun F1 w1 jP=>df.mono (ep _) (h' F1 w1 jP) fun u1 w2 ⟨k1,L2,k2,k3⟩=>⟨k1,L2,k2,?_⟩
    have:=ih u1 L2 _ w2 k2 k3
    rw[comm] at this
    exact this
  ·have ih:=kG hf nj l1 L _ ⟨F,w,hp⟩ kZ h'
   rw[wo] at ih
   split
   ·rename_i zB
    rw[if_pos zB] at ih
    obtain⟨d,ij,ih⟩:=ih
    refine⟨d,ij.same (eo _).symm,fun b hb=> ?_⟩
    have:=ih b hb
    rw[comm] at this
    exact mz (by rw[CL];exact hw) this
   ·rename_i zB
    rw[if_neg zB,comm] at ih
    exact mz (by rw[CL];exact hw) ih
end
def vx (acc:List Nat)(o:Oper):Nat:=
 o.after.toList.foldl (fun m e=>if Region.binds .any e then m|||(1<<<e.on)|||(acc.getD e.on 0) else m) 0
def j5:List Oper->List Nat->List Nat
 |[],acc=>acc
 |o::r,acc=>j5 r (acc++[vx acc o])
def EG (ops:Array Oper)(bF:Array Bool):Prop:=
 ∀j oj,ops[j]?=some oj->bF.getD j false=true->∀e∈oj.after,Region.binds .any e=true->bF.getD e.on false=true
theorem nv {bF:Array Bool}{acc:List Nat}{o:Oper}
  (Hy:∀i j,(acc.getD i 0).testBit j=true->bF.getD i false=true->bF.getD j false=true)
  (hr:∀e∈o.after,Region.binds .any e=true->bF.getD e.on false=true) {j:Nat} (h:(vx acc o).testBit j=true):bF.getD j false=true:=by
 have key:∀(es:List Edge) (m:Nat),(∀e∈es,Region.binds .any e=true->bF.getD e.on false=true)->(m.testBit j=true->bF.getD j false=true)->
   (es.foldl (fun m e=>if Region.binds .any e then m|||(1<<<e.on)|||(acc.getD e.on 0) else m) m).testBit j=true->bF.getD j false=true:=by
  intro es
  induction es with
  |nil=>intro m _ hm h;exact hm h
  |cons e es ih=>
   intro m he hm h
   simp only[List.foldl_cons] at h
   refine ih _ (fun x hx=>he x (by simp[hx])) ?_ h
   intro hb
   split at hb
   ·rename_i Lx
    have hl:=he e (by simp) Lx
    simp only[Nat.testBit_or,Bool.or_eq_true] at hb
    rcases hb with(hb|hb)|hb
    ·exact hm hb
    ·rw[Nat.one_shiftLeft,Nat.testBit_two_pow] at hb
     have:e.on=j:=by simpa using hb
     rw[<-this];exact hl
    ·exact Hy _ _ hb hl
   ·exact hm hb
 exact key o.after.toList 0 (fun e he=>hr e (by simpa using he)) (by simp) h
theorem oZ {ops:Array Oper}{bF:Array Bool}(hc:EG ops bF):∀(l:List Oper) (acc:List Nat),(∀j,l[j]?=ops[acc.length+j]?)->
  (∀i j,(acc.getD i 0).testBit j=true->bF.getD i false=true->bF.getD j false=true)->
  ∀i j,((j5 l acc).getD i 0).testBit j=true->bF.getD i false=true->bF.getD j false=true
 |[],acc,_,Hy,i,j,h,hl=>Hy i j h hl
 |o::l,acc,hl0,Hy,i,j,h,hl=>by
  refine oZ hc l (acc++[vx acc o]) (fun k=> ?_) ?_ i j h hl
  ·have:=hl0 (k+1)
   simp only[List.getElem?_cons_succ] at this
   rw[this]
   simp only[List.length_append,List.length_cons,List.length_nil]
   congr 1
   omega
  ·intro i j hb Tz
   by_cases hi:i<acc.length
   ·rw[List.getD_eq_getElem?_getD,List.getElem?_append_left hi,<-List.getD_eq_getElem?_getD] at hb
    exact Hy i j hb Tz
   ·by_cases mh:i=acc.length
    ·subst mh
     rw[List.getD_eq_getElem?_getD,List.getElem?_append_right (Nat.le_refl _)] at hb
     simp at hb
     have ho:ops[acc.length]?=some o:=by simpa using (hl0 0).symm
     exact nv Hy (fun e he Lx=>hc _ _ ho Tz e he Lx) hb
    ·rw[List.getD_eq_getElem?_getD,List.getElem?_eq_none (by simp;omega)] at hb
     simp at hb
theorem qf:∀(l:List Oper) (acc:List Nat) (i:Nat),i<acc.length->(j5 l acc)[i]?=acc[i]?
 |[],acc,i,_=>rfl
 |o::l,acc,i,h=>by rw[j5,qf l _ i (by simp;omega),List.getElem?_append_left h]
theorem wF:∀(l:List Oper) (acc:List Nat) (k:Nat) (o:Oper),l[k]?=some o->∃tp,(∀i,i<tp.length->(j5 l acc)[i]?=tp[i]?)/\(j5 l acc)[acc.length+k]?=some (vx tp o)
 |[],acc,k,o,h=>by simp at h
 |x::l,acc,0,o,h=>by
  simp at h;subst h
  refine⟨acc,fun i hi=> ?_,?_⟩
  ·rw[j5,qf l _ i (by simp;omega),List.getElem?_append_left hi]
  ·rw[j5,Nat.add_zero,qf l _ _ (by simp),List.getElem?_append_right (Nat.le_refl _)]
   simp
 |x::l,acc,k+1,o,h=>by
  obtain⟨tp,h1,h2⟩:=wF l (acc++[vx acc x]) k o (by simpa using h)
  refine⟨tp,fun i hi=>by rw[j5];exact h1 i hi,?_⟩
  rw[j5,<-h2]
  congr 1
  simp
  omega
def A8 (o:Oper):Bool:=match o.op with
 | .select _ _=>false
 |_=>true
theorem vy {o:Oper}(h:A8 o=true):iq o:=by
 intro cs b e
 simp[A8,e] at h
def r4 (fm:Bool)(ops:Array Oper)(A:List Nat)(i:Nat)(p:Oper)(fp:Bool)(j:Nat)(q:Oper)(fq:Bool):Bool:=
 ((A.getD j 0).testBit i||(q.apart ops p&& !(oY fm p&&oY fm q&& !(fm&&dQ q))&& !(oY fm q&&zu fm p&& !fq)))&& !(oY fm p&&zu fm q&& !fp)
def A9 (fm:Bool)(ops:Array Oper)(A:List Nat)(i:Nat)(p:Oper)(fp:Bool):Nat->List (Oper×Bool)->Bool
 |_,[]=>true
 |j,(q,fq)::r=>r4 fm ops A i p fp j q fq&&A9 fm ops A i p fp (j+1) r
def IZ (fm:Bool)(ops:Array Oper)(A:List Nat):Nat->List (Oper×Bool)->Bool
 |_,[]=>true
 |i,(p,fp)::r=>A8 p&&p.after.all (fun e=> !Region.binds .any e||Nat.blt e.on i)&&A9 fm ops A i p fp (i+1) r&&IZ fm ops A (i+1) r
def I0 (A:List Nat)(l:List Oper)(j:Nat):Bool:=l.zipIdx.any fun(p,i)=>(jC p||qd p)&& !((A.getD j 0).testBit i)
def cW (l:List Oper):List (Oper×Bool):=let A:=j5 l [];l.zipIdx.map fun(o,j)=>(o,I0 A l j)
def CM (ops:Array Oper):Bool:=IZ false ops (j5 ops.toList []) 0 (cW ops.toList)
def A' (ops:Array Oper):Bool:=IZ true ops (j5 ops.toList []) 0 (cW ops.toList)
theorem mi {l:Array Bool}{i:Nat}(h:l.getD i true=false):l.getD i false=false:=by
 by_cases hi:i<l.size<;>simp_all [Array.getD]
theorem Ba {l:Array Bool}{i:Nat}(hi:i<l.size)(h:l.getD i false=false):l.getD i true=false:=by
 simp_all [Array.getD]
theorem dE (m j:Nat):(Array.replicate m false).getD j false=false:=by
 by_cases hi:j<m<;>simp[Array.getD,hi]
abbrev T3:=Nat×Oper×Bool
def Rel (fm:Bool)(ops:Array Oper)(A:List Nat)(x y:T3):Prop:=x.1<y.1/\r4 fm ops A x.1 x.2.1 x.2.2 y.1 y.2.1 y.2.2=true
def n8:Nat->List (Oper×Bool)->List T3
 |_,[]=>[]
 |i,(o,f)::r=>(i,o,f)::n8 (i+1) r
theorem qg:∀(l:List (Oper×Bool)) (i:Nat),(n8 i l).map (·.2)=l
 |[],_=>rfl
 |(o,f)::r,i=>by simp[n8,qg r]
theorem xf:∀(l:List (Oper×Bool)) (i:Nat) (x:T3),x∈n8 i l->i<=x.1/\l[x.1-i]?=some x.2
 |[],_,_,h=>by simp[n8] at h
 |(o,f)::r,i,x,h=>by
  simp only[n8,List.mem_cons] at h
  rcases h with rfl|h
  ·simp
  ·obtain⟨h1,h2⟩:=xf r (i+1) x h
   refine⟨by omega,?_⟩
   rw[show x.1-i=(x.1-(i+1))+1 by omega]
   simpa using h2
theorem xg:∀(l:List (Oper×Bool)) (i j:Nat) (x:Oper×Bool),l[j]?=some x->(i+j,x)∈n8 i l
 |[],_,_,_,h=>by simp at h
 |(o,f)::r,i,0,x,h=>by simp at h;subst h;simp[n8]
 |(o,f)::r,i,j+1,x,h=>by
  have:=xg r (i+1) j x (by simpa using h)
  rw[show i+(j+1)=i+1+j by omega]
  simp[n8,this]
theorem vz {fm:Bool}{ops:Array Oper}{A:List Nat}{i:Nat}{p:Oper}{fp:Bool}:∀(r:List (Oper×Bool)) (j:Nat),i<j->A9 fm ops A i p fp j r=true->
  ∀y∈n8 j r,Rel fm ops A (i,p,fp) y
 |[],_,_,_,y,hy=>by simp[n8] at hy
 |(q,fq)::r,j,kc,h,y,hy=>by
  simp only[A9,Bool.and_eq_true] at h
  simp only[n8,List.mem_cons] at hy
  rcases hy with rfl|hy
  ·exact⟨kc,h.1⟩
  ·exact vz r (j+1) (by omega) h.2 y hy
structure Good (o:Oper)(i:Nat):Prop where
 Hz:iq o
 back:∀e∈o.after,Region.binds .any e=true->e.on<i
theorem uG {fm:Bool}{ops:Array Oper}{A:List Nat}:∀(l:List (Oper×Bool)) (i:Nat),IZ fm ops A i l=true->(n8 i l).Pairwise (Rel fm ops A)/\∀x∈n8 i l,Good x.2.1 x.1
 |[],_,_=>⟨List.Pairwise.nil,fun x hx=>by simp[n8] at hx⟩
 |(p,fp)::r,i,h=>by
  simp only[IZ,Bool.and_eq_true] at h
  obtain⟨⟨⟨h1,h2⟩,h3⟩,h4⟩:=h
  obtain⟨q1,q2⟩:=uG r (i+1) h4
  refine⟨List.Pairwise.cons (vz r (i+1) (by omega) h3) q1,fun x hx=> ?_⟩
  simp only[n8,List.mem_cons] at hx
  rcases hx with rfl|hx
  ·refine⟨vy h1,fun e he hb=> ?_⟩
   have:=Array.all_eq_true_iff_forall_mem.1 h2 e he
   simp only[hb,Bool.not_true,Bool.false_or] at this
   simp[Nat.blt] at this
   omega
  ·exact q2 x hx
structure Bb (fm:Bool)(ops:Array Oper)(A:List Nat)(r:List T3)(bF:Array Bool):Prop where
 size:bF.size=ops.size
 closed:EG ops bF
 has:∀i,i<ops.size->bF.getD i false=false->∃x∈r,x.1=i
 not:∀x∈r,bF.getD x.1 false=false
 op:∀x∈r,ops[x.1]?=some x.2.1
 pair:r.Pairwise (Rel fm ops A)
 jf:∀x∈r,Good x.2.1 x.1
theorem Ga {P:Program}{ops:Array Oper}{C:World->Prop}{Q:Act->World->Prop}{Q':Exit->Act->World->Prop}(hQ:∀a w,Q a w->Q' .normal a w):
  ∀(n:Nat) (r:List T3) (bF:Array Bool) (a:Act) (w:World),r.length=n->Bb false ops (j5 ops.toList []) r bF->((∃x∈r,jC x.2.1=true)->C w)->
   fo P ops C Q (r.map (·.2)) a w->wpAny P .any ops Q' n bF a w
 |0,r,bF,a,w,hn,inv,_,h=>by
  have hr:r=[]:=List.length_eq_zero_iff.1 hn
  subst hr
  refine⟨?_,hQ _ _ h⟩
  rw[List.eq_nil_iff_forall_not_mem]
  intro j hj
  obtain⟨I1,oj,rP,_⟩:=mem_ready.1 hj
  obtain⟨x,hx,_⟩:=inv.has j (Array.getElem?_eq_some_iff.1 rP).1 (mi I1)
  simp at hx
 |n+1,r,bF,a,w,hn,inv,hC,h=>by
  have jg:∀x∈r,bF.getD x.1 true=false:=fun x hx=>Ba (by rw[inv.size];exact(Array.getElem?_eq_some_iff.1 (inv.op x hx)).1) (inv.not x hx)
  refine⟨fun h0=> ?_,fun i hi=> ?_⟩
  ·--the first XM is left may XN up
   exfalso
   match r,hn,inv,jg with
   |x::r,_,inv,jg=>
    have:x.1∈Region.ready .any ops bF:=by
     rw[mem_ready]
     refine⟨jg x (by simp),x.2.1,inv.op x (by simp),fun e he hb=> ?_⟩
     have bD:=(inv.jf x (by simp)).back e he hb
     have hxs:=(Array.getElem?_eq_some_iff.1 (inv.op x (by simp))).1
     cases hl:bF.getD e.on false with
     |true=>rfl
     |false=>
      obtain⟨y,hy,HA⟩:=inv.has e.on (by omega) hl
      simp only[List.mem_cons] at hy
      rcases hy with rfl|hy
      ·omega
      ·have:=(List.pairwise_cons.1 inv.pair).1 y hy
       have:=this.1
       omega
    rw[h0] at this
    simp at this
  ·obtain⟨I1,oi,zv,dL⟩:=mem_ready.1 hi
   have TA:i<ops.size:=(Array.getElem?_eq_some_iff.1 zv).1
   obtain⟨x,hx,rfl⟩:=inv.has i TA (mi I1)
   obtain⟨r1,r2,rfl⟩:=List.append_of_mem hx
   obtain⟨i,o,fl⟩:=x
   have NK:oi=o:=by
    have:=inv.op (i,o,fl) hx
    rw[zv] at this
    injection this
   subst NK
   have xh:=inv.jf (i,oi,fl) hx
   have uH:iq oi:=xh.Hz
   have I2:=inv.pair
   rw[List.pairwise_append,List.pairwise_cons] at I2
   obtain⟨TB,⟨CN,TC⟩,I3⟩:=I2
   have I4:∀y∈r1,((j5 ops.toList []).getD i 0).testBit y.1=false:=by
    intro y hy
    cases hb:((j5 ops.toList []).getD i 0).testBit y.1 with
    |false=>rfl
    |true=>
     have th:bF.getD y.1 false=true:=by
      obtain⟨tp,k1,k2⟩:=wF ops.toList [] i oi (by simpa using zv)
      have hk:(j5 ops.toList []).getD i 0=vx tp oi:=by
       rw[List.getD_eq_getElem?_getD]
       simp only[List.length_nil,Nat.zero_add] at k2
       rw[k2];rfl
      rw[hk] at hb
      refine nv (fun i' j' rN O7=> ?_) dL hb
      refine oZ inv.closed ops.toList [] (by simp) (by simp) i' j' ?_ O7
      by_cases bD:i'<tp.length
      ·rw[List.getD_eq_getElem?_getD,k1 i' bD,<-List.getD_eq_getElem?_getD];exact rN
      ·rw[List.getD_eq_getElem?_getD,List.getElem?_eq_none (by omega)] at rN
       simp at rN
     rw[inv.not y (by simp[hy])] at th
     cases th
   have jP:∀y∈r1,oi.apart ops y.2.1=true/\(dW y.2.1&&dW oi)=false/\(dW oi&&jC y.2.1&& !fl)=false/\(dW y.2.1&&jC oi&& !y.2.2)=false:=by
    intro y hy
    have:=(I3 y hy (i,oi,fl) (by simp)).2
    simp only[r4,zV,zW,I4 y hy,Bool.false_or,Bool.false_and,Bool.not_false,Bool.and_true,Bool.and_eq_true,Bool.not_eq_true'] at this
    exact⟨this.1.1.1,this.1.1.2,this.1.2,this.2⟩
   have xd:∀y∈r2,(dW oi&&jC y.2.1&& !fl)=false:=by
    intro y hy
    have:=(CN y hy).2
    simp only[r4,zV,zW,Bool.and_eq_true,Bool.not_eq_true'] at this
    exact this.2
   have I5:Bb false ops (j5 ops.toList []) (r1++r2) (bF.setIfInBounds i true):=by
    have fD:∀y∈r1++r2,y.1≠i:=by
     intro y hy
     rcases List.mem_append.1 hy with hy|hy
     ·have:=(I3 y hy (i,oi,fl) (by simp)).1;simp at this;omega
     ·have:=(CN y hy).1;simp at this;omega
    have tq:∀y∈r1++r2,y∈r1++(i,oi,fl)::r2:=fun y hy=>by
     rcases List.mem_append.1 hy with hy|hy<;>simp[hy]
    refine⟨by simp[inv.size],fun j oj rP hl e he hb=> ?_,fun j hj hl=> ?_,fun y hy=> ?_,fun y hy=>inv.op y (tq y hy),?_,fun y hy=>inv.jf y (tq y hy)⟩
    ·by_cases kc:i=j
     ·subst kc
      have:oj=oi:=by rw[zv] at rP;injection rP with rP;exact rP.symm
      subst this
      exact getD_set_true (dL e he hb)
     ·rw[getD_set_ne false kc] at hl
      exact getD_set_true (inv.closed j oj rP hl e he hb)
    ·by_cases kc:i=j
     ·subst kc
      simp[inv.size,hj] at hl
     ·rw[getD_set_ne false kc] at hl
      obtain⟨y,hy,HA⟩:=inv.has j hj hl
      refine⟨y,?_,HA⟩
      rcases List.mem_append.1 hy with hy|hy
      ·simp[hy]
      ·simp only[List.mem_cons] at hy
       rcases hy with rfl|hy
       ·exact absurd HA kc
       ·simp[hy]
    ·rw[getD_set_ne false (Ne.symm (fD y hy))]
     exact inv.not y (tq y hy)
    ·rw[List.pairwise_append]
     exact⟨TB,TC,fun x hx y hy=>I3 x hx y (by simp[hy])⟩
   have hlen:(r1++r2).length=n:=by simp at hn⊢;omega
   have next:∀a' w',((∃x∈r1++r2,jC x.2.1=true)->C w')->fo P ops C Q ((r1++r2).map (·.2)) a' w'->wpAny P .any ops Q' n (bF.setIfInBounds i true) a' w':=
    fun a' w' hc hl=>Ga hQ n (r1++r2) _ a' w' hlen I5 hc hl
   simp only[List.map_append,List.map_cons] at h
   unfold wpOp
   simp only[zv]
   have pM:(∃x∈r1++r2,jC x.2.1=true)->C w:=fun⟨y,hy,th⟩=>hC ⟨y,by rcases List.mem_append.1 hy with hy|hy<;>simp[hy],th⟩
   by_cases he:dW oi=true
   ·have uA:=F9 he uH (r1.map (·.2)) a w (fun p hp=>by
     obtain⟨y,hy,rfl⟩:=List.mem_map.1 hp
     obtain⟨k1,k2,_,_⟩:=jP y hy
     exact⟨k1,(inv.jf y (by simp[hy])).Hz,by simpa [he] using k2⟩) h
    split
    ·rename_i hw
     rw[if_pos hw] at uA
     refine .inl (df.wp (df.mono rfl uA fun v w' ⟨k1,k2⟩=>next _ _ (fun⟨y,hy,th⟩=> ?_) (by rw[List.map_append];exact k2)))
     cases iO:fl with
     |true=>exact k1 iO
     |false=>
      subst iO
      rcases List.mem_append.1 hy with hy|hy
      ·have:=(jP y hy).2.2.1;simp[he,th] at this
      ·have:=xd y hy;simp[he,th] at this
    ·rename_i hw
     rw[if_neg hw] at uA
     exact next _ _ pM (by rw[List.map_append];exact uA)
   ·have zC:dW oi=false:=by simpa using he
    obtain⟨v,hv⟩:=q9 zC uH (r1.map (·.2)) a w (fun p hp=>by
     obtain⟨y,hy,rfl⟩:=List.mem_map.1 hp
     exact(jP y hy).1) h
    have hd:=tn zC uH (r1.map (·.2)) a w (fun p hp=>by
     obtain⟨y,hy,rfl⟩:=List.mem_map.1 hp
     exact⟨(jP y hy).1,(inv.jf y (by simp[hy])).Hz⟩) (fun hl=>⟨hC ⟨(i,oi,fl),by simp,hl⟩,fun p hp Lu=>by
     obtain⟨y,hy,rfl⟩:=List.mem_map.1 hp
     have:=(jP y hy).2.2.2
     simpa [Lu,hl] using this⟩) hv h
    have tr:=hv.one (w:=w) (fun hl=>hC ⟨(i,oi,fl),by simp,hl⟩) (K:=wpAny P .any ops Q' n (bF.setIfInBounds i true)) (next _ _ pM (by rw[List.map_append];exact hd))
    split
    ·rename_i hw
     rw[if_pos hw] at tr
     exact .inl tr.wp
    ·rename_i hw
     rw[if_neg hw] at tr
     exact tr
theorem CO {P:Program}{ops:Array Oper}{w0:World}{L0:List bh}{Q:Act->World->Prop}{Q':Exit->Act->World->Prop}(hQ:∀a w,Q a w->Q' .normal a w):
  ∀(n:Nat) (r:List T3) (bF:Array Bool) (a:Act) (w:World) (L F:List bh),r.length=n->Bb true ops (j5 ops.toList []) r bF->Hp w0 w (L++F)->((∃x∈r,zu true x.2.1=true)->Hp w0 w L0)->
   lF P ops w0 L0 Q (r.map (·.2)) L a->wpAny P .any ops Q' n bF a w
 |0,r,bF,a,w,L,F,hn,inv,hp,_,h=>by
  have hr:r=[]:=List.length_eq_zero_iff.1 hn
  subst hr
  refine⟨?_,hQ _ _ (h w (hp.sub (List.sublist_append_left L F)))⟩
  rw[List.eq_nil_iff_forall_not_mem]
  intro j hj
  obtain⟨I1,oj,rP,_⟩:=mem_ready.1 hj
  obtain⟨x,hx,_⟩:=inv.has j (Array.getElem?_eq_some_iff.1 rP).1 (mi I1)
  simp at hx
 |n+1,r,bF,a,w,L,F,hn,inv,hp,hC,h=>by
  have jg:∀x∈r,bF.getD x.1 true=false:=fun x hx=>Ba (by rw[inv.size];exact(Array.getElem?_eq_some_iff.1 (inv.op x hx)).1) (inv.not x hx)
  refine⟨fun h0=> ?_,fun i hi=> ?_⟩
  ·--the first XM is left may XN up
   exfalso
   match r,hn,inv,jg with
   |x::r,_,inv,jg=>
    have:x.1∈Region.ready .any ops bF:=by
     rw[mem_ready]
     refine⟨jg x (by simp),x.2.1,inv.op x (by simp),fun e he hb=> ?_⟩
     have bD:=(inv.jf x (by simp)).back e he hb
     have hxs:=(Array.getElem?_eq_some_iff.1 (inv.op x (by simp))).1
     cases hl:bF.getD e.on false with
     |true=>rfl
     |false=>
      obtain⟨y,hy,HA⟩:=inv.has e.on (by omega) hl
      simp only[List.mem_cons] at hy
      rcases hy with rfl|hy
      ·omega
      ·have:=(List.pairwise_cons.1 inv.pair).1 y hy
       have:=this.1
       omega
    rw[h0] at this
    simp at this
  ·obtain⟨I1,oi,zv,dL⟩:=mem_ready.1 hi
   have TA:i<ops.size:=(Array.getElem?_eq_some_iff.1 zv).1
   obtain⟨x,hx,rfl⟩:=inv.has i TA (mi I1)
   obtain⟨r1,r2,rfl⟩:=List.append_of_mem hx
   obtain⟨i,o,fl⟩:=x
   have NK:oi=o:=by
    have:=inv.op (i,o,fl) hx
    rw[zv] at this
    injection this
   subst NK
   have xh:=inv.jf (i,oi,fl) hx
   have uH:iq oi:=xh.Hz
   have I2:=inv.pair
   rw[List.pairwise_append,List.pairwise_cons] at I2
   obtain⟨TB,⟨CN,TC⟩,I3⟩:=I2
   have I4:∀y∈r1,((j5 ops.toList []).getD i 0).testBit y.1=false:=by
    intro y hy
    cases hb:((j5 ops.toList []).getD i 0).testBit y.1 with
    |false=>rfl
    |true=>
     have th:bF.getD y.1 false=true:=by
      obtain⟨tp,k1,k2⟩:=wF ops.toList [] i oi (by simpa using zv)
      have hk:(j5 ops.toList []).getD i 0=vx tp oi:=by
       rw[List.getD_eq_getElem?_getD]
       simp only[List.length_nil,Nat.zero_add] at k2
       rw[k2];rfl
      rw[hk] at hb
      refine nv (fun i' j' rN O7=> ?_) dL hb
      refine oZ inv.closed ops.toList [] (by simp) (by simp) i' j' ?_ O7
      by_cases bD:i'<tp.length
      ·rw[List.getD_eq_getElem?_getD,k1 i' bD,<-List.getD_eq_getElem?_getD];exact rN
      ·rw[List.getD_eq_getElem?_getD,List.getElem?_eq_none (by omega)] at rN
       simp at rN
     rw[inv.not y (by simp[hy])] at th
     cases th
   have jP:∀y∈r1,oi.apart ops y.2.1=true/\(oY true y.2.1&&oY true oi&& !dQ oi)=false/\(oY true oi&&zu true y.2.1&& !fl)=false/\(oY true y.2.1&&zu true oi&& !y.2.2)=false:=by
    intro y hy
    have:=(I3 y hy (i,oi,fl) (by simp)).2
    simp only[r4,I4 y hy,Bool.false_or,Bool.true_and,Bool.and_eq_true,Bool.not_eq_true'] at this
    exact⟨this.1.1.1,this.1.1.2,this.1.2,this.2⟩
   have xd:∀y∈r2,(oY true oi&&zu true y.2.1&& !fl)=false:=by
    intro y hy
    have:=(CN y hy).2
    simp only[r4,Bool.and_eq_true,Bool.not_eq_true'] at this
    exact this.2
   have I5:Bb true ops (j5 ops.toList []) (r1++r2) (bF.setIfInBounds i true):=by
    have fD:∀y∈r1++r2,y.1≠i:=by
     intro y hy
     rcases List.mem_append.1 hy with hy|hy
     ·have:=(I3 y hy (i,oi,fl) (by simp)).1;simp at this;omega
     ·have:=(CN y hy).1;simp at this;omega
    have tq:∀y∈r1++r2,y∈r1++(i,oi,fl)::r2:=fun y hy=>by
     rcases List.mem_append.1 hy with hy|hy<;>simp[hy]
    refine⟨by simp[inv.size],fun j oj rP hl e he hb=> ?_,fun j hj hl=> ?_,fun y hy=> ?_,fun y hy=>inv.op y (tq y hy),?_,fun y hy=>inv.jf y (tq y hy)⟩
    ·by_cases kc:i=j
     ·subst kc
      have:oj=oi:=by rw[zv] at rP;injection rP with rP;exact rP.symm
      subst this
      exact getD_set_true (dL e he hb)
     ·rw[getD_set_ne false kc] at hl
      exact getD_set_true (inv.closed j oj rP hl e he hb)
    ·by_cases kc:i=j
     ·subst kc
      simp[inv.size,hj] at hl
     ·rw[getD_set_ne false kc] at hl
      obtain⟨y,hy,HA⟩:=inv.has j hj hl
      refine⟨y,?_,HA⟩
      rcases List.mem_append.1 hy with hy|hy
      ·simp[hy]
      ·simp only[List.mem_cons] at hy
       rcases hy with rfl|hy
       ·exact absurd HA kc
       ·simp[hy]
    ·rw[getD_set_ne false (Ne.symm (fD y hy))]
     exact inv.not y (tq y hy)
    ·rw[List.pairwise_append]
     exact⟨TB,TC,fun x hx y hy=>I3 x hx y (by simp[hy])⟩
   have hlen:(r1++r2).length=n:=by simp at hn⊢;omega
   have next:∀a' w' L',Hp w0 w' (L'++F)->((∃x∈r1++r2,zu true x.2.1=true)->Hp w0 w' L0)->lF P ops w0 L0 Q ((r1++r2).map (·.2)) L' a'->wpAny P .any ops Q' n (bF.setIfInBounds i true) a' w':=
    fun a' w' L' nL hc hl=>CO hQ n (r1++r2) _ a' w' L' F hlen I5 nL hc hl
   simp only[List.map_append,List.map_cons] at h
   unfold wpOp
   simp only[zv]
   have pM:(∃x∈r1++r2,zu true x.2.1=true)->Hp w0 w L0:=fun⟨y,hy,th⟩=>hC ⟨y,by rcases List.mem_append.1 hy with hy|hy<;>simp[hy],th⟩
   by_cases TD:dQ oi=true
   ·have uA:=kG TD uH (r1.map (·.2)) L a ⟨F,w,hp⟩ (fun p hp=>by
     obtain⟨y,hy,rfl⟩:=List.mem_map.1 hp
     exact⟨(jP y hy).1,(inv.jf y (by simp[hy])).Hz⟩) h
    split
    ·rename_i hw
     rw[if_pos hw] at uA
     obtain⟨d,ij,uA⟩:=uA
     have xd:Hp w0 (w.alloc d.obj) ((d.res w.heap.size::L)++F):=FD.new _ hp
     refine .inl (df.wp (K:=wpAny P .any ops Q' n (bF.setIfInBounds i true)) ?_)
     unfold df
     rw[ij w]
     exact next _ _ _ xd (fun hl=>(pM hl).ext (Ext.alloc _ _)) (by rw[List.map_append];exact uA _ ⟨F,_,xd⟩)
    ·rename_i hw
     rw[if_neg hw] at uA
     exact next _ _ _ hp pM (by rw[List.map_append];exact uA)
   have I6:dQ oi=false:=by simpa using TD
   by_cases he:oY true oi=true
   ·have uA:=xe he I6 uH (r1.map (·.2)) L a (fun p hp=>by
     obtain⟨y,hy,rfl⟩:=List.mem_map.1 hp
     obtain⟨k1,k2,_,_⟩:=jP y hy
     exact⟨k1,(inv.jf y (by simp[hy])).Hz,by simpa [he,I6] using k2⟩) h
    split
    ·rename_i hw
     rw[if_pos hw] at uA
     refine .inl (df.wp (df.mono rfl (uA F w hp) fun v w' ⟨k1,L',k2,k3⟩=>next _ _ L' k2 (fun⟨y,hy,th⟩=> ?_) (by rw[List.map_append];exact k3)))
     cases iO:fl with
     |true=>exact k1 iO
     |false=>
      subst iO
      rcases List.mem_append.1 hy with hy|hy
      ·have:=(jP y hy).2.2.1;simp[he,th] at this
      ·have:=xd y hy;simp[he,th] at this
    ·rename_i hw
     rw[if_neg hw] at uA
     exact next _ _ _ hp pM (by rw[List.map_append];exact uA)
   ·have zC:oY true oi=false:=by simpa using he
    obtain⟨v,hv⟩:=kF zC uH (r1.map (·.2)) L a ⟨F,w,hp⟩ (fun p hp=>by
     obtain⟨y,hy,rfl⟩:=List.mem_map.1 hp
     exact(jP y hy).1) h
    have hd:=mg zC uH (fun hl=>⟨w,hC ⟨(i,oi,fl),by simp,hl⟩⟩) (r1.map (·.2)) L a (fun p hp=>by
     obtain⟨y,hy,rfl⟩:=List.mem_map.1 hp
     exact⟨(jP y hy).1,(inv.jf y (by simp[hy])).Hz⟩) hv h
    have tr:=hv.one (w:=w) (fun hl=>hC ⟨(i,oi,fl),by simp,hl⟩) (K:=wpAny P .any ops Q' n (bF.setIfInBounds i true)) (fun w' hx=>next _ _ _ (hp.ext hx) (fun hl=>(pM hl).ext hx) (by rw[List.map_append];exact hd))
    split
    ·rename_i hw
     rw[if_pos hw] at tr
     exact .inl tr.wp
    ·rename_i hw
     rw[if_neg hw] at tr
     exact tr
theorem gI (l:List Oper):(cW l).map (·.1)=l:=by
 unfold cW
 simp only[List.map_map]
 have:((fun x=>x.1)∘fun(x:Oper×Nat)=>(x.1,I0 (j5 l []) l x.2))=fun x=>x.1:=rfl
 rw[this]
 simp
theorem zD {P:Program}{id:Nat}{ops:Array Oper}{Q:Exit->Act->World->Prop}{a:Act}{w:World}(C:World->Prop)
  (hm:P.follows .mixedOrders=true) (hB:CM ops=true) (hC:C {w with drawn:=w.drawn+1})
  (h:fo P ops C (fun a' w'=>Q .normal a' w') (cW ops.toList) a {w with drawn:=w.drawn+1}):(Code.region id ops true).wp P Q a w:=by
 refine wp_region_any hm ?_
 obtain⟨h1,h2⟩:=uG (cW ops.toList) 0 hB
 have iO:∀k:Nat,((cW ops.toList)[k]?).map (fun x:Oper×Bool=>x.1)=ops[k]?:=fun k=>by
  have:=congrArg (fun l=>l[k]?) (gI ops.toList)
  simpa using this
 have hlen:(n8 0 (cW ops.toList)).length=ops.size:=by
  have:=congrArg List.length (qg (cW ops.toList) 0)
  have h3:=congrArg List.length (gI ops.toList)
  simp at this h3
  omega
 refine Ga (C:=C) (fun a w h=>h) ops.size (n8 0 (cW ops.toList)) (Array.replicate ops.size false) a _ hlen ⟨by simp,?_,?_,?_,?_,h1,h2⟩ (fun _=>hC) (by rw[qg];exact h)
 ·intro j oj _ hl
  exfalso
  rw[dE] at hl
  cases hl
 ·intro i hi _
  have hg:((cW ops.toList)[i]?).map (·.1)=some ops[i]:=by rw[iO i];exact Array.getElem?_eq_getElem hi
  cases hq:(cW ops.toList)[i]? with
  |none=>simp[hq] at hg
  |some x=>
   refine⟨(i,x),?_,rfl⟩
   have:=xg (cW ops.toList) 0 i x hq
   simpa using this
 ·intro x _
  exact dE _ _
 ·intro x hx
  obtain⟨_,Ez⟩:=xf _ _ _ hx
  have:=iO x.1
  simp only[Nat.sub_zero] at Ez
  rw[Ez] at this
  simpa using this.symm
theorem xi {P:Program}{id:Nat}{ops:Array Oper}{Q:Exit->Act->World->Prop}{a:Act}{w w0:World}{L L0:List bh}
  (hm:P.follows .mixedOrders=true) (hB:A' ops=true) (hC:Hp w0 w L) (XO:Hp w0 w L0)
  (h:lF P ops w0 L0 (fun a' w'=>Q .normal a' w') (cW ops.toList) L a):(Code.region id ops true).wp P Q a w:=by
 refine wp_region_any hm ?_
 obtain⟨h1,h2⟩:=uG (cW ops.toList) 0 hB
 have iO:∀k:Nat,((cW ops.toList)[k]?).map (fun x:Oper×Bool=>x.1)=ops[k]?:=fun k=>by
  have:=congrArg (fun l=>l[k]?) (gI ops.toList)
  simpa using this
 have hlen:(n8 0 (cW ops.toList)).length=ops.size:=by
  have:=congrArg List.length (qg (cW ops.toList) 0)
  have h3:=congrArg List.length (gI ops.toList)
  simp at this h3
  omega
 have XP:Hp w0 {w with drawn:=w.drawn+1} L:=hC.ext (Ext.drawn w)
 refine CO (fun a w h=>h) ops.size (n8 0 (cW ops.toList)) (Array.replicate ops.size false) a _ L [] hlen ⟨by simp,?_,?_,?_,?_,h1,h2⟩ (by simpa using XP) (fun _=>XO.ext (Ext.drawn w)) (by rw[qg];exact h)
 ·intro j oj _ hl
  exfalso
  rw[dE] at hl
  cases hl
 ·intro i hi _
  have hg:((cW ops.toList)[i]?).map (·.1)=some ops[i]:=by rw[iO i];exact Array.getElem?_eq_getElem hi
  cases hq:(cW ops.toList)[i]? with
  |none=>simp[hq] at hg
  |some x=>
   refine⟨(i,x),?_,rfl⟩
   have:=xg (cW ops.toList) 0 i x hq
   simpa using this
 ·intro x _
  exact dE _ _
 ·intro x hx
  obtain⟨_,Ez⟩:=xf _ _ _ hx
  have:=iO x.1
  simp only[Nat.sub_zero] at Ez
  rw[Ez] at this
  simpa using this.symm
end Go.Xw
