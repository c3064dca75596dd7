/- Texts that belong together; each under its stated conditions. -/
import Derived.Test.YtiepmliokblkjaaGreatFam
import Derived.Test.YtiepmliokblkjaaGreatBrf
import Derived.Test.YtiepmliokblkjaaGreatWord3
set_option linter.all false
section
namespace Go.Xw
open Go.RowKit
def So (ops:Array Oper)(A:List Nat)(x y:T3):Prop:=x.1≠y.1/\(∀e∈x.2.1.after,Region.binds .any e=true->e.on≠y.1)/\rX true ops A x.1 x.2.1 x.2.2 y.1 y.2.1 y.2.2=true
structure Hj (ops:Array Oper)(A:List Nat)(r:List T3)(bF:Array Bool):Prop where
 size:bF.size=ops.size
 closed:EE ops bF
 has:∀i,i<ops.size->bF.getD i false=false->∃x∈r,x.1=i
 not:∀x∈r,bF.getD x.1 false=false
 op:∀x∈r,ops[x.1]?=some x.2.1
 pair:r.Pairwise (So ops A)
 Hy:∀x∈r,iq x.2.1
 self:∀x∈r,∀e∈x.2.1.after,Region.binds .any e=true->e.on<ops.size/\e.on≠x.1
theorem D' {P:Program}{ops:Array Oper}{w0:World}{L0:List bg}{Q:Act->World->Prop}{Q':Exit->Act->World->Prop}(hQ:∀a w,Q a w->Q' .normal a w):
  ∀(n:Nat) (r:List T3) (bF:Array Bool) (a:Act) (w:World) (L F:List bg),r.length=n->Hj ops (j6 ops.toList []) r bF->Hp w0 w (L++F)->((∃x∈r,zr true x.2.1=true)->Hp w0 w L0)->
   lG P ops w0 L0 Q (r.map (·.2)) L a->wpAny P .any ops Q' n bF a w
 |0,r,bF,a,w,L,F,hn,inv,hp,_,h=>by
  have hr:r=[]:=List.length_eq_zero_iff.1 hn
  subst hr
  refine⟨?_,hQ _ _ (h w (hp.sub (List.sublist_append_left L F)))⟩
  rw[List.eq_nil_iff_forall_not_mem]
  intro j hj
  obtain⟨I0,oj,rL,_⟩:=mem_ready.1 hj
  obtain⟨x,hx,_⟩:=inv.has j (Array.getElem?_eq_some_iff.1 rL).1 (mh I0)
  simp at hx
 |n+1,r,bF,a,w,L,F,hn,inv,hp,hC,h=>by
  have je:∀x∈r,bF.getD x.1 true=false:=fun x hx=>A7 (by rw[inv.size];exact(Array.getElem?_eq_some_iff.1 (inv.op x hx)).1) (inv.not x hx)
  refine⟨fun h0=> ?_,fun i hi=> ?_⟩
  ·exfalso
   match r,hn,inv,je with
   |x::r,_,inv,je=>
    have:x.1∈Region.ready .any ops bF:=by
     rw[mem_ready]
     refine⟨je x (by simp),x.2.1,inv.op x (by simp),fun e he hb=> ?_⟩
     obtain⟨bD,fD⟩:=inv.self x (by simp) e he hb
     cases hl:bF.getD e.on false with
     |true=>rfl
     |false=>
      obtain⟨y,hy,Hz⟩:=inv.has e.on bD hl
      simp only[List.mem_cons] at hy
      rcases hy with rfl|hy
      ·exact absurd Hz.symm fD
      ·exact absurd Hz.symm (((List.pairwise_cons.1 inv.pair).1 y hy).2.1 e he hb)
    rw[h0] at this
    simp at this
  ·obtain⟨I0,oi,zt,dK⟩:=mem_ready.1 hi
   have Tx:i<ops.size:=(Array.getElem?_eq_some_iff.1 zt).1
   obtain⟨x,hx,rfl⟩:=inv.has i Tx (mh I0)
   obtain⟨r1,r2,rfl⟩:=List.append_of_mem hx
   obtain⟨i,o,fl⟩:=x
   have NJ:oi=o:=by
    have:=inv.op (i,o,fl) hx
    rw[zt] at this
    injection this
   subst NJ
   have uH:iq oi:=inv.Hy (i,oi,fl) hx
   have I1:=inv.pair
   rw[List.pairwise_append,List.pairwise_cons] at I1
   obtain⟨Ty,⟨CI,Tz⟩,I2⟩:=I1
   have I3:∀y∈r1,((j6 ops.toList []).getD i 0).testBit y.1=false:=by
    intro y hy
    cases hb:((j6 ops.toList []).getD i 0).testBit y.1 with
    |false=>rfl
    |true=>
     have th:bF.getD y.1 false=true:=by
      obtain⟨tq,k1,k2⟩:=wD ops.toList [] i oi (by simpa using zt)
      have hk:(j6 ops.toList []).getD i 0=vw tq oi:=by
       rw[List.getD_eq_getElem?_getD]
       simp only[List.length_nil,Nat.zero_add] at k2
       rw[k2];rfl
      rw[hk] at hb
      refine nv (fun i' j' sy O6=> ?_) dK hb
      refine oZ inv.closed ops.toList [] (by simp) (by simp) i' j' ?_ O6
      by_cases bD:i'<tq.length
      ·rw[List.getD_eq_getElem?_getD,k1 i' bD,<-List.getD_eq_getElem?_getD];exact sy
      ·rw[List.getD_eq_getElem?_getD,List.getElem?_eq_none (by omega)] at sy
       simp at sy
     rw[inv.not y (by simp[hy])] at th
     cases th
   have jQ:∀y∈r1,oi.apart ops y.2.1=true/\(oY true y.2.1&&oY true oi&& !dO oi)=false/\(oY true oi&&zr true y.2.1&& !fl)=false/\(oY true y.2.1&&zr true oi&& !y.2.2)=false:=by
    intro y hy
    have:=(I2 y hy (i,oi,fl) (by simp)).2.2
    simp only[rX,I3 y hy,Bool.false_or,Bool.true_and,Bool.and_eq_true,Bool.not_eq_true'] at this
    exact⟨this.1.1.1,this.1.1.2,this.1.2,this.2⟩
   have w9:∀y∈r2,(oY true oi&&zr true y.2.1&& !fl)=false:=by
    intro y hy
    have:=(CI y hy).2.2
    simp only[rX,Bool.and_eq_true,Bool.not_eq_true'] at this
    exact this.2
   have I4:Hj ops (j6 ops.toList []) (r1++r2) (bF.setIfInBounds i true):=by
    have fD:∀y∈r1++r2,y.1≠i:=by
     intro y hy
     rcases List.mem_append.1 hy with hy|hy
     ·exact(I2 y hy (i,oi,fl) (by simp)).1
     ·exact(CI y hy).1.symm
    have tr:∀y∈r1++r2,y∈r1++(i,oi,fl)::r2:=fun y hy=>by
     rcases List.mem_append.1 hy with hy|hy<;>simp[hy]
    refine⟨by simp[inv.size],fun j oj rL hl e he hb=> ?_,fun j hj hl=> ?_,fun y hy=> ?_,fun y hy=>inv.op y (tr y hy),?_,fun y hy=>inv.Hy y (tr y hy),fun y hy=>inv.self y (tr y hy)⟩
    ·by_cases kd:i=j
     ·subst kd
      have:oj=oi:=by rw[zt] at rL;injection rL with rL;exact rL.symm
      subst this
      exact getD_set_true (dK e he hb)
     ·rw[getD_set_ne false kd] at hl
      exact getD_set_true (inv.closed j oj rL hl e he hb)
    ·by_cases kd:i=j
     ·subst kd
      simp[inv.size,hj] at hl
     ·rw[getD_set_ne false kd] at hl
      obtain⟨y,hy,Hz⟩:=inv.has j hj hl
      refine⟨y,?_,Hz⟩
      rcases List.mem_append.1 hy with hy|hy
      ·simp[hy]
      ·simp only[List.mem_cons] at hy
       rcases hy with rfl|hy
       ·exact absurd Hz kd
       ·simp[hy]
    ·rw[getD_set_ne false (Ne.symm (fD y hy))]
     exact inv.not y (tr y hy)
    ·rw[List.pairwise_append]
     exact⟨Ty,Tz,fun x hx y hy=>I2 x hx y (by simp[hy])⟩
   have hlen:(r1++r2).length=n:=by simp at hn⊢;omega
   have next:∀a' w' L',Hp w0 w' (L'++F)->((∃x∈r1++r2,zr true x.2.1=true)->Hp w0 w' L0)->lG P ops w0 L0 Q ((r1++r2).map (·.2)) L' a'->wpAny P .any ops Q' n (bF.setIfInBounds i true) a' w':=
    fun a' w' L' nL hc hl=>D' hQ n (r1++r2) _ a' w' L' F hlen I4 nL hc hl
   simp only[List.map_append,List.map_cons] at h
   unfold wpOp
   simp only[zt]
   have pM:(∃x∈r1++r2,zr true x.2.1=true)->Hp w0 w L0:=fun⟨y,hy,th⟩=>hC ⟨y,by rcases List.mem_append.1 hy with hy|hy<;>simp[hy],th⟩
   by_cases TA:dO oi=true
   ·have uB:=kH TA uH (r1.map (·.2)) L a ⟨F,w,hp⟩ (fun p hp=>by
     obtain⟨y,hy,rfl⟩:=List.mem_map.1 hp
     exact⟨(jQ y hy).1,inv.Hy y (by simp[hy])⟩) h
    split
    ·rename_i hw
     rw[if_pos hw] at uB
     obtain⟨d,ij,uB⟩:=uB
     have w9:Hp w0 (w.alloc d.obj) ((d.res w.heap.size::L)++F):=FD.new _ hp
     refine .inl (df.wp (K:=wpAny P .any ops Q' n (bF.setIfInBounds i true)) ?_)
     unfold df
     rw[ij w]
     exact next _ _ _ w9 (fun hl=>(pM hl).ext (Ext.alloc _ _)) (by rw[List.map_append];exact uB _ ⟨F,_,w9⟩)
    ·rename_i hw
     rw[if_neg hw] at uB
     exact next _ _ _ hp pM (by rw[List.map_append];exact uB)
   have I5:dO oi=false:=by simpa using TA
   by_cases he:oY true oi=true
   ·have uB:=xa he I5 uH (r1.map (·.2)) L a (fun p hp=>by
     obtain⟨y,hy,rfl⟩:=List.mem_map.1 hp
     obtain⟨k1,k2,_,_⟩:=jQ y hy
     exact⟨k1,inv.Hy y (by simp[hy]),by simpa [he,I5] using k2⟩) h
    split
    ·rename_i hw
     rw[if_pos hw] at uB
     refine .inl (df.wp (df.mono rfl (uB F w hp) fun v w' ⟨k1,L',k2,k3⟩=>next _ _ L' k2 (fun⟨y,hy,th⟩=> ?_) (by rw[List.map_append];exact k3)))
     cases iM:fl with
     |true=>exact k1 iM
     |false=>
      subst iM
      rcases List.mem_append.1 hy with hy|hy
      ·have:=(jQ y hy).2.2.1;simp[he,th] at this
      ·have:=w9 y hy;simp[he,th] at this
    ·rename_i hw
     rw[if_neg hw] at uB
     exact next _ _ _ hp pM (by rw[List.map_append];exact uB)
   ·have zA:oY true oi=false:=by simpa using he
    obtain⟨v,hv⟩:=kG zA uH (r1.map (·.2)) L a ⟨F,w,hp⟩ (fun p hp=>by
     obtain⟨y,hy,rfl⟩:=List.mem_map.1 hp
     exact(jQ y hy).1) h
    have hd:=mf zA uH (fun hl=>⟨w,hC ⟨(i,oi,fl),by simp,hl⟩⟩) (r1.map (·.2)) L a (fun p hp=>by
     obtain⟨y,hy,rfl⟩:=List.mem_map.1 hp
     exact⟨(jQ y hy).1,inv.Hy y (by simp[hy])⟩) hv h
    have tu:=hv.one (w:=w) (fun hl=>hC ⟨(i,oi,fl),by simp,hl⟩) (K:=wpAny P .any ops Q' n (bF.setIfInBounds i true)) (fun w' hx=>next _ _ _ (hp.ext hx) (fun hl=>(pM hl).ext hx) (by rw[List.map_append];exact hd))
    split
    ·rename_i hw
     rw[if_pos hw] at tu
     exact .inl tu.wp
    ·rename_i hw
     rw[if_neg hw] at tu
     exact tu
def qU (ops:Array Oper)(i:Nat):Oper:=ops.getD i default
def AQ (σ:List Nat)(o:Oper):Oper:={o with after:=o.after.map fun e=>{e with on:=σ.findIdx (Nat.beq e.on)}}
def FN (ops:Array Oper)(σ:List Nat):Array Oper:=⟨σ.map fun i=>AQ σ (qU ops i)⟩
def OT (ops:Array Oper)(σ:List Nat):List (Nat×Bool):=σ.zip ((cW (FN ops σ).toList).map (·.2))
def Sp (ops:Array Oper)(A:List Nat)(x y:Nat×Bool):Bool:=Nat.beq x.1 y.1==false&& (qU ops x.1).after.all (fun e=> !Region.binds .any e||Nat.beq e.on y.1==false)&&rX true ops A x.1 (qU ops x.1) x.2 y.1 (qU ops y.1) y.2
def Hk (ops:Array Oper)(A:List Nat):List (Nat×Bool)->Bool
 |[]=>true
 |i::r=>r.all (Sp ops A i)&&Hk ops A r
def Cj (ops:Array Oper)(σ:List Nat):Bool:=Nat.beq (OT ops σ).length ops.size&& (List.range ops.size).all (fun i=>(OT ops σ).any fun x=>Nat.beq i x.1)&& (OT ops σ).all (fun x=>Nat.blt x.1 ops.size&&A4 (qU ops x.1)&& (qU ops x.1).guard.isNone&& (qU ops x.1).after.all (fun e=> !Region.binds .any e||(Nat.blt e.on ops.size&&Nat.beq e.on x.1==false)))&&Hk ops (j6 ops.toList []) (OT ops σ)
theorem Ir {ops:Array Oper}{A:List Nat}{i j:Nat×Bool}(h:Sp ops A i j=true):So ops A (i.1,qU ops i.1,i.2) (j.1,qU ops j.1,j.2):=by
 simp only[Sp,Bool.and_eq_true] at h
 obtain⟨⟨h1,h2⟩,h3⟩:=h
 refine⟨fun e=> ?_,fun e he hb hon=> ?_,h3⟩
 ·have e:i.1=j.1:=e
  rw[e] at h1
  simp at h1
 ·have:=Array.all_eq_true_iff_forall_mem.1 h2 e he
  have hon:e.on=j.1:=hon
  rw[hon] at this
  simp[hb] at this
theorem za {ops:Array Oper}{A:List Nat}:∀(l:List (Nat×Bool)),Hk ops A l=true->(l.map fun i=>((i.1,qU ops i.1,i.2):T3)).Pairwise (So ops A)
 |[],_=>List.Pairwise.nil
 |i::r,h=>by
  simp only[Hk,Bool.and_eq_true,List.all_eq_true] at h
  refine List.Pairwise.cons (fun y hy=> ?_) (za r h.2)
  obtain⟨j,hj,rfl⟩:=List.mem_map.1 hy
  exact Ir (h.1 j hj)
theorem zb {P:Program}{id:Nat}{ops:Array Oper}{Q:Exit->Act->World->Prop}{a:Act}{w w0:World}{L L0:List bg}(σ:List Nat)
  (hm:P.follows .mixedOrders=true) (hB:Cj ops σ=true) (hC:Hp w0 w L) (XL:Hp w0 w L0)
  (h:lG P ops w0 L0 (fun a' w'=>Q .normal a' w') ((OT ops σ).map fun i=>(qU ops i.1,i.2)) L a):(Code.region id ops true).wp P Q a w:=by
 refine wp_region_any hm ?_
 simp only[Cj,Bool.and_eq_true,List.all_eq_true] at hB
 obtain⟨⟨⟨h1,h2⟩,h3⟩,h4⟩:=hB
 have h1:(OT ops σ).length=ops.size:=Nat.eq_of_beq_eq_true h1
 have XM:Hp w0 {w with drawn:=w.drawn+1} L:=hC.ext (Ext.drawn w)
 have vh:∀i,i∈OT ops σ->i.1<ops.size/\iq (qU ops i.1)/\∀e∈(qU ops i.1).after,Region.binds .any e=true->e.on<ops.size/\e.on≠i.1:=fun i hi=>by
  have:=h3 i hi
  obtain⟨⟨⟨g1,g2⟩,_⟩,g4⟩:=this
  refine⟨Nat.le_of_ble_eq_true g1,vx g2,fun e he hb=> ?_⟩
  have:=Array.all_eq_true_iff_forall_mem.1 g4 e he
  simp only[hb,Bool.not_true,Bool.false_or,Bool.and_eq_true] at this
  refine⟨Nat.le_of_ble_eq_true this.1,fun hh=> ?_⟩
  rw[hh] at this
  simp at this
 have ij:∀i,i<ops.size->ops[i]?=some (qU ops i):=fun i hi=>by
  unfold qU
  rw[Array.getElem?_eq_getElem hi]
  simp[Array.getD,hi]
 refine D' (fun a w h=>h) ops.size ((OT ops σ).map fun i=>(i.1,qU ops i.1,i.2)) (Array.replicate ops.size false) a _ L [] (by simp[h1]) ⟨by simp,?_,?_,?_,?_,za _ h4,?_,?_⟩ (by simpa using XM) (fun _=>XL.ext (Ext.drawn w)) (by rw[List.map_map];exact h)
 ·intro j oj _ hl
  exfalso
  rw[dC] at hl
  cases hl
 ·intro i hi _
  have:=h2 i (List.mem_range.2 hi)
  obtain⟨j,hj,kd⟩:=List.any_eq_true.1 this
  have kd:i=j.1:=Nat.eq_of_beq_eq_true kd
  subst kd
  exact⟨_,List.mem_map.2 ⟨j,hj,rfl⟩,rfl⟩
 ·intro x _
  exact dC _ _
 ·intro x hx
  obtain⟨i,hi,rfl⟩:=List.mem_map.1 hx
  exact ij i.1 (vh i hi).1
 ·intro x hx
  obtain⟨i,hi,rfl⟩:=List.mem_map.1 hx
  exact(vh i hi).2.1
 ·intro x hx
  obtain⟨i,hi,rfl⟩:=List.mem_map.1 hx
  exact(vh i hi).2.2
theorem vZ {o:Oper}(h:o.guard=none)(y:Nat->Option Bool):Region.wanted o y=true:=by simp[Region.wanted,h]
theorem KK {P:Program}{ops No:Array Oper}{w0:World}{L0:List bg}{Q:Act->World->Prop}(σ:List Nat)(l:List (Oper×Bool)):(∀o∈l,o.1.guard=none)->∀(L:List bg) (a:Act),lG P No w0 L0 Q (l.map fun x=>(AQ σ x.1,x.2)) L a->lG P ops w0 L0 Q l L a:=by
 induction l with
 |nil=>
  intro _ L a h
  rw[List.map_nil] at h
  unfold lG at h⊢
  exact h
 |cons x l ihl=>
  intro hg L a h
  obtain⟨o,fl⟩:=x
  have hgo:=hg (o,fl) (by simp)
  have ih:=fun L a h=>ihl (fun o ho=>hg o (by simp[ho])) L a h
  have w1:Region.wanted o (yielded ops a.tmps)=true:=vZ hgo _
  have w2:Region.wanted (AQ σ o) (yielded No a.tmps)=true:=vZ (o:=AQ σ o) hgo _
  rw[List.map_cons] at h
  rcases gU h with⟨_,v,hv,h'⟩|⟨hF,_,d,ij,h'⟩|⟨he,hF,_,h'⟩|⟨_,hn,_⟩
  ·refine lH ?_ (ih _ _ h')
   rcases hv with(⟨_,hy⟩|⟨hn,_⟩)|⟨h1,h2,h3,_,h5⟩
   ·exact .inl (.inl ⟨w1,hy⟩)
   ·rw[w2] at hn;exact Bool.noConfusion hn
   ·exact .inr ⟨h1,h2,h3,w1,h5⟩
  ·exact jP (o:=o) hF w1 (d:=d) ij fun b hb=>ih _ _ (h' b hb)
  ·refine nt (o:=o) he hF w1 fun F w hp=> ?_
   have h2:df P o a w fun a' w'=>(fl=true->Hp w0 w' L0)/\∃L',Hp w0 w' (L'++F)/\lG P No w0 L0 Q (l.map fun x=>(AQ σ x.1,x.2)) L' a':=h' F w hp
   exact df.mono rfl h2 fun v w' ⟨k1,L',k2,k3⟩=>⟨k1,L',k2,ih _ _ k3⟩
  ·rw[w2] at hn;exact Bool.noConfusion hn
theorem Wu {α β γ:Type}(g:α->β):∀(σ:List α) (X:List (β×γ)),X.map (·.1)=σ.map g->X=(σ.zip (X.map (·.2))).map fun y=>(g y.1,y.2)
 |[],[],_=>rfl
 |[],x::X,h=>by simp at h
 |s::σ,[],h=>by simp at h
 |s::σ,x::X,h=>by
  rw[List.map_cons,List.map_cons] at h
  injection h with h1 h2
  rw[List.map_cons,List.zip_cons_cons,List.map_cons,<-Wu g σ X h2]
  obtain⟨x1,x2⟩:=x
  have h1:x1=g s:=h1
  rw[h1]
section
variable {S:ak} {sz:Nat} {R:Value->World->Prop} {C:World->Prop} {w w0:World} {L0 L:List bg} {ops:Array Oper} {k:List Item} {env:Env} {g':G} {cc:List Prop}
theorem Np {id:Nat}{e:Env}[hS:S.Ok](σ:List Nat)(hs:Hp w0 w L)(lQ:Hp w0 w L0)(hm:S.P.follows .mixedOrders=true)(hB:Cj ops σ=true)(he:et env S.live=some e)
  (h:mH S sz (.ops true (FN ops σ) (FN ops σ).toList k e)=(g',cc)) (hg:bu S sz R w0 L0 L g') (ho:ir cc:=by((repeat' apply And.intro)<;>first|exact trivial|omega|exact wi (by omega)|exact wu (by omega)|exact wb (by omega)|(refine Sl.nn (by assumption) ?_;omega)|(refine bW (by assumption) ?_;omega)|exact Option.some_ne_none _|assumption|decide)):ax S sz R C w (.code (.code (.region id ops true)::k) env):=by
 intro a ha
 have h1:=pf (R:=R) (w0:=w0) (L0:=L0) (L:=L) hS _ h ⟨[],rfl⟩ ho hg
 refine o8 (zb σ hm hB hs lQ ?_)
 have h2:=h1.2 a (ha.prune he)
 rw[Bc] at h2
 have key:∀(l:List (Oper×Bool)) (L':List bg) (a:Act),lG S.P (FN ops σ) w0 L0 (fun a' w'=>nw S.P S.f R k a' w') l L' a->lG S.P (FN ops σ) w0 L0 (fun a' w'=>EK S.P S.f R k .normal a' w') l L' a:=by
  intro l
  induction l with
  |nil=>exact fun L' a h w hp=>⟨rfl,h w hp⟩
  |cons x l ih=>
   obtain⟨o,fl⟩:=x
   intro L' a h
   rcases gU h with⟨_,v,hv,h'⟩|⟨hf,hw,d,ij,h'⟩|⟨he,hf,hw,h'⟩|⟨he,hw,h'⟩
   ·exact lH hv (ih _ _ h')
   ·exact jP hf hw ij fun b hb=>ih _ _ (h' b hb)
   ·exact nt he hf hw fun F w hp=>df.mono rfl (h' F w hp) fun v w' ⟨k1,L2,k2,k3⟩=>⟨k1,L2,k2,ih _ _ k3⟩
   ·exact mv hw (ih _ _ h')
 have h3:=key _ _ _ h2
 simp only[Cj,Bool.and_eq_true,List.all_eq_true] at hB
 have hz:=Wu (fun i=>AQ σ (qU ops i)) σ (cW (FN ops σ).toList) (gI _)
 refine KK σ _ (fun o ho=> ?_) _ _ ?_ (No:=FN ops σ)
 ·obtain⟨i,hi,rfl⟩:=List.mem_map.1 ho
  have:=(hB.1.2 i hi).1.2
  simpa using this
 ·rw[List.map_map]
  rw[hz] at h3
  exact h3
end
end Go.Xw
end
section
namespace Go.Proofs
open Go.Xw
set_option maxRecDepth 100000
set_option maxHeartbeats 8000000
attribute [local irreducible] ax aE
theorem FO (x:bm)(hf:ch x.n){l:List Nat}(he:gQ x.n=some l)(hS:qK x.n)(hW:qL x.n)(v wl:List Int)(y7:OQ x.n v wl)(va wa:Option Addr)(vc wc:Nat)(ins:List Int)(ia:Option Addr)(ic:Nat)(pW:ins.length=(ee x.n 0).length)(w0:World)(hM:iH w0 x)(hv:Rd w0 va 1 eI v)(hwr:Rd w0 wa 1 eI wl)(hI:Rd w0 ia 1 eI ins):
  bN Tryz.prog 65 [x.v,.agg ⟨[.slice va v.length vc,.slice wa wl.length wc]⟩,.slice ia ins.length ic] w0 (fun r w=>∃na nc ma mc oa oc,r= .tuple ⟨[.agg ⟨[.slice na (pA x.n (BY x.n l v ins) wl x.n.ms.length).1.length nc,.slice ma (pA x.n (BY x.n l v ins) wl x.n.ms.length).2.length mc]⟩,.slice oa (uf x.n 1 (BY x.n l v ins) x.n.sg.length).length oc]⟩/\Hp w0 w [rO 3 1 eI na nc (pA x.n (BY x.n l v ins) wl x.n.ms.length).1,rO 3 1 eI ma mc (pA x.n (BY x.n l v ins) wl x.n.ms.length).2,rO 3 1 eI oa oc (uf x.n 1 (BY x.n l v ins) x.n.sg.length)]):=by
 have hm:=(dH hf).2
 have l1:x.sg.length<=30:=hm.l1
 have l2:x.aP.length<=30:=by have:=hm.l2;rw[x.cy] at this;exact this
 have l3:x.ms.length<=2:=hm.l3
 have Xn:v.length=x.sg.length:=y7.val.len
 have R7:wl.length=4*x.ms.length:=y7.B0
 have qb:=iU he
 have hl:∀i,i∈l->i<x.n.aP.length:=fun i hi=>(qb.2.1 i hi).1
 have hX:=BZ hm hf hl y7.val ins
 obtain⟨X,hXe⟩:∃X,X=BY x.n l v ins:=⟨_,rfl⟩
 rw[<-hXe] at hX⊢
 have hXl:X.length=x.sg.length:=hX.len
 have hXb:=OR hm hf hX
 refine eu Tryz.Vd ?_;intro C hp;skip;refine bP hp ?_;intro w b3 hx hp;refine az ?_;skip;refine bP hp ?_;intro w b4 hx hp;refine az ?_;skip;refine bP hp ?_;intro w b6 hx hp;refine az ?_;(repeat(first|(refine ah ?_;refine aH hp ?_)|(refine bK ?_;refine gG hp ?_;intro w _ hx hp;refine az ?_)))
 rename_i b8
 refine bQ hp Tryz.func121 (sk x hf hS hW v wl y7 va wa vc wc _ hp.mod hp.rd hp.rd) ?_;intro w hx hp;(repeat(first|(refine aG ?_;refine aO ?_)|(refine ah ?_;refine aH hp ?_)))
 refine cx Tryz.func28 (dI x 0 _ hp.mod l1) ?_;rintro _ w ⟨bp,cp,rfl,hq⟩;have hx:=hq.x;have hp:=hp.bJ hq;refine az ?_;(repeat(refine aO ?_))
 refine ae (fun hg=>False.elim (by omega)) (fun _=> ?_);refine aM ?_;(repeat(refine aH hp ?_))
 refine cx Tryz.func122 (y8 x hf he hS hW v wl y7 va wa vc wc ins ia ic pW _ hp.mod hp.rd hp.rd hp.rd) ?_;rintro _ w ⟨b9,c9,rfl,hq⟩;have hx:=hq.x;have hp:=hp.bJ hq;refine az ?_
 rw[<-hXe] at hp⊢
 refine Np [0,1,2,4,5,6,7,3,8,9,10] hp (hp) (by kernel_rfl) (by kernel_rfl) rfl rfl ?_;(repeat(first|(refine gu ?_;refine fy ?_)|(refine qv ?_;refine lI rfl rfl rfl rfl rfl rfl rfl rfl rfl rfl ?_;intro _;refine cX ?_)))
 rename_i be_
 refine fZ rfl rfl rfl rfl rfl rfl rfl (by decide) rfl (zl) rfl rfl (fun _ _ _ _ _ hp=>hp.sub (by(repeat(first|exact List.sublist_append_left _ _|apply List.Sublist.cons)))) ?_;intro aw cw bZ;refine cX ?_
 refine Bn eI (0:Int) rfl rfl rfl rfl (s:=1) rfl (by decide) (by infer_instance) rfl (by unfold maxLen;omega) (by show 8*_<=_;omega) ?_;intro bn;refine cX ?_
 (first|refine oq ?_|refine iQ rfl ?_);intro ng;refine cX ?_;refine eO rfl rfl rfl rfl (by kernel_rfl) ?_;refine cX ?_
 refine dc ?_;intro w hp C;refine bL ?_
 rw[List.nil_append] at hp
 obtain⟨n0,hn0⟩:∃n0,n0=pA x.n X wl:=⟨_,rfl⟩
 have e0:List.replicate x.sg.length (0:Int)=zx x.n X 0:=rfl
 rw[e0] at hp
 refine aR [3,4,6,8,9,10,11] (fun(i:Nat)=>[(3,.pointer (some ⟨b3,0,none⟩)),(4,.pointer (some ⟨b4,0,none⟩)),(6,.pointer (some ⟨b6,0,none⟩)),(8,.slice (some ⟨b8,0,none⟩) 0 0),(9,.slice b9 X.length c9),(10,.pointer (some ⟨ng,0,none⟩)),(11,.int .i64 (i:Int))])
  (fun i w'=>i<=x.aP.length/\Hp w0 w' [rB ng 111 [.slice (some ⟨bn,0,none⟩) x.sg.length x.sg.length,.slice aw wl.length cw],rO 3 1 eI (some ⟨bn,0,none⟩) x.sg.length (zx x.n X i),rO 3 1 eI aw cw wl,rO 3 1 eI b9 c9 X,rO 3 1 eI (some ⟨b8,0,none⟩) 0 [],rB b6 111 (aL Tryz.Ag.zero),rB b4 111 [.slice va v.length vc,.slice wa wl.length wc],rB b3 41 x.cs]) (fun i=>x.aP.length-i) 0 rfl ⟨by omega,?_⟩ ?_
 ·exact hp.f4.drop
 clear hp
 rintro i w1 ⟨hi,hp⟩ IH C
 have SU:=ug hm hf X i (by rw[x.cy];exact hi)
 have Fv:(zx x.n X i).length=x.sg.length:=SU.len
 obtain⟨na,Xp⟩:∃na,na=zx x.n X i:=⟨_,rfl⟩
 rw[<-Xp] at Fv hp
 refine bL ?_;refine aH hp ?_
 apply ae<;>intro bD
 ·have aF:i<x.aP.length:=by omega
  obtain⟨qQ,yz,rV,KJ⟩:=gg hm hf (i:=i) (by rw[x.cy];exact aF)
  have wC:dT x.n i=(x.aP.getD i default).tg:=x.Ld i
  have AJ:opsL x.n i=(x.aP.getD i default).ops:=x.mR i
  have pI:=rV
  rw[wC] at pI
  unfold dr at pI
  change 0<=(x.aP.getD i default).tg/\(x.aP.getD i default).tg<x.sg.length at pI
  obtain⟨t,ht⟩:=Int.eq_ofNat_of_zero_le pI.1
  have D9:(x.aP.getD i default).tg.toNat=t:=by omega
  obtain⟨e1,e2,e3⟩:=AO hm hf (s:=t) (by omega)
  have Tc:(x.sg.getD (x.aP.getD i default).tg.toNat default).width=((wN x.n (t:Nat):Nat):Int):=by rw[D9];exact e1
  have Ws:=AP e3 Tc
  have IM:wN x.n (dT x.n i)=wN x.n (t:Nat):=by rw[wC,ht]
  have u6:aY x.n (dT x.n i)=(x.sg.getD (x.aP.getD i default).tg.toNat default).kind:=by rw[wC];rfl
  have la:Le i x.aP:=⟨aF⟩
  have nR:=kM qQ yz
  have Ca:(cU x.n i).ok X.length:=by
   have h:=nR.2
   rw[show((X.length:Nat):Int)=(x.n.sg.length:Int) by rw[hXl];rfl];exact h
  refine aN ?_;(repeat(refine ah ?_;first|refine aH hp ?_|refine bb hp ?_))
  refine bP hp ?_;intro w ti hx hp;refine az ?_;(repeat(first|(refine ah ?_;first|refine aH hp ?_|refine rP hp ?_)|(refine aI ?_;refine aW hp ?_;intro w hp;refine az ?_)))
  apply ae<;>intro hk
  ·have eT:zx x.n X (i+1)=na.set t (lu X (wN x.n (t:Nat)) (cU x.n i)):=by
    rw[zx,if_pos (by rw[u6];exact hk),<-Xp,IM,wC,D9]
   refine aN ?_
   refine j8 hp ?_;intro w hx hp;have hs:=hp;(repeat(refine ah ?_;first|refine dQ ?_|refine iZ rfl (by omega) (by omega) rfl rfl rfl ?_))
   refine gq ?_
   rw[D9,vp e1]
   have jb:=fun w h1 h2=>jZ (x.aP.getD i default).ops (x.aP.getD i default).oa (x.aP.getD i default).oc X b9 c9 (wN x.n (t:Nat)) ⟨e2,e3⟩ (by rw[<-AJ];exact qQ.len) hXb (cU x.n i) [] [] (by rw[List.nil_append,List.append_nil,<-AJ];exact nR.1) Ca w h1 h2
   refine oW Tryz.func123 (jb _ hp.rd hp.rd) ?_;rintro _ w ⟨rfl,hx⟩;have hp:=hp.ext hx;have hs:=hs.ext hx;refine⟨fun _=>hs,?_⟩;refine fW ?_
   (repeat(first|(refine ah ?_;refine aH hp ?_)|(refine aI ?_;refine kj hp rfl rfl rfl (by omega) (by decide) rfl rfl ?_;intro w hp;refine az ?_)))
   rw[D9] at hp
   refine IH (i+1) _ _ _ (by omega) rfl ⟨by omega,?_⟩
   rw[eT]
   exact hp.drop
  ·have eT:zx x.n X (i+1)=na:=by
    rw[zx,if_neg (by rw[u6];exact hk),Xp]
   refine aM ?_
   refine IH (i+1) _ _ _ (by omega) rfl ⟨by omega,?_⟩
   rw[eT]
   exact hp.drop
 ·refine aM ?_
  obtain rfl:i=x.aP.length:=by omega
  clear IH
  have em:pA x.n X wl 0=(na,wl):=by rw[pA,x.cy,Xp]
  refine aR [3,4,6,8,9,10,15] (fun(i:Nat)=>[(3,.pointer (some ⟨b3,0,none⟩)),(4,.pointer (some ⟨b4,0,none⟩)),(6,.pointer (some ⟨b6,0,none⟩)),(8,.slice (some ⟨b8,0,none⟩) 0 0),(9,.slice b9 X.length c9),(10,.pointer (some ⟨ng,0,none⟩)),(15,.int .i64 (i:Int))])
   (fun i w'=>i<=x.ms.length/\Hp w0 w' [rB ng 111 [.slice (some ⟨bn,0,none⟩) x.sg.length x.sg.length,.slice aw wl.length cw],rO 3 1 eI (some ⟨bn,0,none⟩) x.sg.length (pA x.n X wl i).1,rO 3 1 eI aw cw (pA x.n X wl i).2,rO 3 1 eI b9 c9 X,rO 3 1 eI (some ⟨b8,0,none⟩) 0 [],rB b6 111 (aL Tryz.Ag.zero),rB b4 111 [.slice va v.length vc,.slice wa wl.length wc],rB b3 41 x.cs]) (fun i=>x.ms.length-i) 0 rfl ⟨by omega,?_⟩ ?_
  ·rw[em];exact hp
  clear hp SU
  rintro j w1 ⟨hj,hp⟩ IH C
  have hNv:=B7 hm hf hX y7.B0 y7.OH j hj
  have O8:(pA x.n X wl j).1.length=x.sg.length:=hNv.val.len
  have Lx:(pA x.n X wl j).2.length=wl.length:=hNv.len
  have eS1:(pA x.n X wl (j+1)).1=(pA x.n X wl j).1.set (fa x.n j) (wl.getD (4*j+CA x.n X j) default):=rfl
  have eS2:(pA x.n X wl (j+1)).2=if X.getD (x.ms.getD j default).write.toNat default=1 then(pA x.n X wl j).2.set (4*j+CA x.n X j) (X.getD (x.ms.getD j default).data.toNat default) else(pA x.n X wl j).2:=rfl
  obtain⟨m1,OF⟩:∃m1,m1=(pA x.n X wl j).1:=⟨_,rfl⟩
  obtain⟨m2,Fa⟩:∃m2,m2=(pA x.n X wl j).2:=⟨_,rfl⟩
  rw[<-OF] at O8 eS1 hp
  rw[<-Fa] at Lx eS2 hp
  refine bL ?_;refine aH hp ?_
  apply ae<;>intro jK
  ·have aF:j<x.ms.length:=by omega
   have Xo:=FM hm aF
   obtain⟨a1,a2⟩:=Ft hm hf hX (j:=j) aF
   change((CA x.n X j:Nat):Int)=X.getD (x.ms.getD j default).addr.toNat default at a2
   have hq:(4*((j:Nat):Int)+X.getD (x.ms.getD j default).addr.toNat default).toNat=4*j+CA x.n X j:=by omega
   have h4:((nat_lit 4:Nat):Int)*((j:Nat):Int)=4*(j:Int):=rfl
   have ho:(x.ms.getD j default).out.toNat=fa x.n j:=rfl
   refine aN ?_;(repeat(refine ah ?_;first|refine aH hp ?_|refine bb hp ?_))
   refine bP hp ?_;intro w Xl hx hp;refine az ?_;refine aW hp ?_;intro w hp;refine az ?_
   refine j8 hp ?_;intro w hx hp;have hs:=hp;(repeat(first|(refine ah ?_;first|refine dQ ?_|refine jr rfl (by omega) (by omega) rfl rfl rfl ?_)|(refine aI ?_;refine CY hp rfl rfl rfl (by omega) (by decide) rfl rfl (by kernel_rfl) ?_;intro w hp;refine fW ?_)))
   rw[hq,ho] at hp
   (repeat(refine ah ?_;first|refine aH hp ?_|refine ik hp ?_))
   apply ae<;>intro hk
   ·refine aN ?_
    refine j8 hp ?_;intro w hx hp;have hs:=hp;(repeat(first|(refine ah ?_;first|refine dQ ?_|refine jr rfl (by omega) (by omega) rfl rfl rfl ?_)|(refine aI ?_;refine CY hp rfl rfl rfl (by omega) (by decide) rfl rfl (by kernel_rfl) ?_;intro w hp;refine fW ?_)))
    rw[hq] at hp
    skip
    refine IH (j+1) _ _ _ (by omega) rfl ⟨by omega,?_⟩
    rw[eS1,eS2,if_pos hk]
    exact hp.drop
   ·refine aM ?_
    refine IH (j+1) _ _ _ (by omega) rfl ⟨by omega,?_⟩
    rw[eS1,eS2,if_neg hk]
    exact hp.drop
  ·refine aM ?_
   obtain rfl:j=x.ms.length:=by omega
   clear IH
   have e0:uf x.n 1 X 0=[]:=rfl
   have sD:=fun i hi=>rH x.n 1 X i hi
   have hpk:∀i,i<=x.sg.length->(uf x.n 1 X i).length<=30:=fun i hi=>by
    rw[sD i hi]
    unfold nK
    have:=pq (x.n.sg.take i) 1
    have h2:(x.n.sg.take i).length<=i:=List.length_take_le _ _
    omega
   refine gK [3,6,8,9,10,17] (fun(i:Nat) (z:Option Addr×Nat)=>[(3,.pointer (some ⟨b3,0,none⟩)),(6,.pointer (some ⟨b6,0,none⟩)),(8,.slice z.1 (uf x.n 1 X i).length z.2),(9,.slice b9 X.length c9),(10,.pointer (some ⟨ng,0,none⟩)),(17,.int .i64 (i:Int))])
    (fun i z w'=>i<=x.sg.length/\Hp w0 w' [rO 3 1 eI z.1 z.2 (uf x.n 1 X i),rB ng 111 [.slice (some ⟨bn,0,none⟩) x.sg.length x.sg.length,.slice aw wl.length cw],rO 3 1 eI (some ⟨bn,0,none⟩) x.sg.length m1,rO 3 1 eI aw cw m2,rO 3 1 eI b9 c9 X,rB b6 111 (aL Tryz.Ag.zero),rB b3 41 x.cs]) (fun i z=>x.sg.length-i) 0 (some ⟨b8,0,none⟩,0) rfl ⟨by omega,?_⟩ ?_
   ·exact(hp.f6.f7.f7.f6.f6.f6.f6.f7).tk 7
   clear hp
   rintro i ⟨z,zc⟩ w1 ⟨hi,hp⟩ IH C
   refine bL ?_;refine aH hp ?_
   apply ae<;>intro Kr
   ·have aF:i<x.sg.length:=by omega
    refine aN ?_;(repeat(refine ah ?_;first|refine aH hp ?_|refine dg hp ?_))
    apply ae<;>intro hk
    ·have eP:uf x.n 1 X (i+1)=uf x.n 1 X i++[X.getD i default]:=by rw[uf,if_pos (by rw[bG];exact hk)]
     have D5:=hpk i (by omega)
     refine aN ?_;(repeat(first|(refine ah ?_;refine bb hp ?_)|(refine bK ?_;refine gG hp ?_;intro w _ hx hp;refine az ?_)))
     refine gT hp ?_;intro z2 c2 w hp bZ;refine az ?_
     refine IH (i+1) (z2,c2) _ _ _ (by omega) (by rw[eP];rfl) ⟨by omega,?_⟩
     rw[eP]
     exact hp.drop
    ·have eP:uf x.n 1 X (i+1)=uf x.n 1 X i:=by rw[uf,if_neg (by rw[bG];exact hk)]
     refine aM ?_
     refine IH (i+1) (z,zc) _ _ _ (by omega) (by rw[eP];rfl) ⟨by omega,?_⟩
     rw[eP]
     exact hp
   ·refine aM ?_;(repeat(first|(refine ah ?_;refine aH hp ?_)|(refine aI ?_;refine aW hp ?_;intro w hp;refine az ?_)|(refine dD ?_;refine bh hp rfl ?_)))
    obtain rfl:i=x.sg.length:=by omega
    have e1:(pA x.n X wl x.n.ms.length).1=m1:=OF.symm
    have e2:(pA x.n X wl x.n.ms.length).2=m2:=Fa.symm
    rw[e1,e2,O8,Lx]
    exact⟨_,_,_,_,_,_,rfl,(hp.f3.f3).tk 3⟩
end Go.Proofs
end
section
namespace Go.Proofs
open Go.Xw
set_option maxRecDepth 100000
set_option maxHeartbeats 8000000
attribute [local irreducible] ax aE
structure Ea (w:World)(a:Option Addr)(R:List (cL Int)):Prop where
 row:Rd w a 1 (jk (α:=Int)) R
 at_:∀r,r∈R->Rd w r.ia 1 eI r.ins
theorem Ea.ext {w w':World}{a:Option Addr}{R:List (cL Int)}(h:Ea w a R)(hx:Ext w w'):Ea w' a R:=⟨h.row.ext hx,fun r hr=>(h.at_ r hr).ext hx⟩
theorem Ea.get {w:World}{a:Option Addr}{R:List (cL Int)}(h:Ea w a R){i:Nat}(hi:i<R.length):Rd w (R.getD i default).ia 1 eI (R.getD i default).ins:=h.at_ _ (u7 hi)
theorem FP (x:bm)(hf:ch x.n)(hS:qK x.n)(hW:qL x.n)(R:List (cL Int))(ia:Option Addr)(ic:Nat)(hR:R.length<=16)(hl:∀i,i<R.length->(R.getD i default).ins.length=(ee x.n 0).length)(w0:World)(hM:iH w0 x)(hI:Ea w0 ia R):
  bN Tryz.prog 63 [x.v,.slice ia R.length ic] w0 (fun r w=>r= .bool true/\Ext w0 w):=by
 have hm:=(dH hf).2
 have l1:x.sg.length<=30:=hm.l1
 have E8:fB x.n=true:=cR.2 hf
 have Wj:=hI.row
 refine eu Tryz.Vb ?_;intro C hp;skip;refine bP hp ?_;intro w b2 hx hp;refine az ?_;refine aH hp ?_
 refine bQ hp Tryz.func26 (iY x _ hp.mod hS hW) ?_;intro w hx hp
 rw[E8]
 (repeat(refine aO ?_))
 refine ae (fun hg=>False.elim (by omega)) (fun _=> ?_);refine aM ?_;refine aH hp ?_
 refine cx Tryz.func28 (dI x 0 _ hp.mod l1) ?_;rintro _ w ⟨bp,cp,rfl,hq⟩;have hx:=hq.x;have hp:=hp.bJ hq;refine az ?_
 refine aR [1,5,6] (fun(i:Nat)=>[(1,.slice ia R.length ic),(5,.int .i64 ((ee x.n 0).length:Nat)),(6,.int .i64 (i:Int))])
  (fun i w'=>i<=R.length/\Hp w0 w' []) (fun i=>R.length-i) 0 rfl ⟨by omega,hp.tk 0⟩ ?_
 clear hp
 rintro i w1 ⟨hi,hp⟩ IH C
 refine bL ?_
 apply ae<;>intro bD
 ·have aF:i<R.length:=by omega
  have Tw:=hl i aF
  refine aN ?_;refine bb hp ?_
  refine ae (fun hg=>False.elim (by omega)) (fun _=> ?_);refine aM ?_
  exact IH (i+1) _ _ _ (by omega) rfl ⟨by omega,hp⟩
 ·refine aM ?_;refine aq ?_
  exact⟨rfl,hp.x⟩
theorem Is (x:bm)(hf:ch x.n){l:List Nat}(he:gQ x.n=some l)(hS:qK x.n)(hW:qL x.n)(R:List (cL Int))(ia:Option Addr)(ic:Nat)(hR:R.length<=16)(hl:∀i,i<R.length->(R.getD i default).ins.length=(ee x.n 0).length)(w0:World)(hM:iH w0 x)(hI:Ea w0 ia R):
  bN Tryz.prog 16 [x.v,.slice ia R.length ic] w0 (fun r w=>∃(Q:List (cL Int)) (b:Option Addr) (c:Nat),r= .slice b R.length c/\Q.length=R.length/\(∀t,t<R.length->(Q.getD t default).ins=vl x.n l (aJ R) t)/\Hp w0 w [rO 31 1 jk b c Q,cC 3 1 eI Q]):=by
 have hm:=(dH hf).2
 have l1:x.sg.length<=30:=hm.l1
 have Wj:=hI.row
 have qb:=iU he
 have je:=qb.2.1
 have OS:∀i,i∈l->i<x.n.aP.length:=fun i hi=>(je i hi).1
 refine eu Tryz.UP ?_;intro C hp;skip;refine bP hp ?_;intro w b2 hx hp;refine az ?_
 refine r4 hp (jk (α:=Int)) ([]:List (cL Int)) rfl rfl rfl rfl (s:=1) rfl (by decide) (by infer_instance) (by rfl) (by rfl) (by rfl) (by decide) ?_;intro w b5 hx hp;refine az ?_;refine aH hp ?_
 refine bQ hp Tryz.func63 (FP x hf hS hW R ia ic hR hl _ hp.mod (hI.ext hp.x)) ?_;intro w hx hp
 refine aM ?_;refine aH hp ?_
 refine cx Tryz.func64 (D8 x hf hS hW _ hp.mod) ?_
 rintro _ w ⟨va,vc,wa,wc,rfl,hq⟩
 have hp:=hp.call2 hq
 refine az ?_
 refine bP hp ?_;intro w b6 hx hp;refine az ?_;refine aW hp ?_;intro w hp;refine az ?_
 have hws0:=KH hf he
 refine eg [1,2,5,6,7] (fun(i:Nat) (z:Option Addr) (zc:Nat)=>[(1,.slice ia R.length ic),(2,.pointer (some ⟨b2,0,none⟩)),(5,.slice z i zc),(6,.pointer (some ⟨b6,0,none⟩)),(7,.int .i64 (i:Int))])
  (fun i z zc w'=>i<=R.length/\∃(va wa:Option Addr) (vc wc:Nat) (Q:List (cL Int)),OQ x.n (CD x.n l (aJ R) i).1 (CD x.n l (aJ R) i).2/\Q.length=i/\(∀t,t<i->(Q.getD t default).ins=vl x.n l (aJ R) t)/\Hp w0 w' [rB b6 111 [.slice va (CD x.n l (aJ R) i).1.length vc,.slice wa (CD x.n l (aJ R) i).2.length wc],rO 3 1 eI va vc (CD x.n l (aJ R) i).1,rO 3 1 eI wa wc (CD x.n l (aJ R) i).2,rO 31 1 jk z zc Q,cC 3 1 eI Q,rB b2 41 x.cs]) (fun i z zc=>R.length-i) 0 (some ⟨b5,0,none⟩) 0 rfl ⟨by omega,?_⟩ ?_
 ·refine⟨va,wa,vc,wc,[],hws0,rfl,fun t ht=>absurd ht (Nat.not_lt_zero _),?_⟩
  exact((rz (α:=Int) (e:=3) (s:=1) (enc:=eI) hp).f5.f1.f5.f5.f5.f5)
 clear hp
 rintro i z zc w1 ⟨hi,va1,wa1,vc1,wc1,Q,y7,uF,hQ,hp⟩ IH C
 refine bL ?_
 apply ae<;>intro bD
 ·have aF:i<R.length:=by omega
  have Tw:=hl i aF
  have hX:=BZ hm hf OS y7.val (R.getD i default).ins
  have Ja:=Nn hm hf hX y7
  have lN:=(hI.get aF)
  have hRo:Rd w0 (R.getD i default).ia 1 eI (R.getD i default).ins:=lN
  refine aN ?_
  refine fQ hp ?_;(repeat(refine gu ?_;first|refine fy ?_|refine jE rfl (by omega) rfl rfl rfl ?_))
  refine j9 Tryz.func65 (fun F w hp=> ?_)
  refine bN.mono (FO x hf he hS hW _ _ y7 va1 wa1 vc1 wc1 (R.getD i default).ins (R.getD i default).ia (R.getD i default).ic Tw _ hp.pre.mod hp.pre.rd hp.pre.rd (hRo.ext hp.x)) ?_
  rintro _ w ⟨na,nc,ma,mc,oa,oc,rfl,hq⟩
  have hp:=Hp.Sn hp hq
  refine⟨fun hq=>Bool.noConfusion (hq.symm.trans (by kernel_rfl:bH _ _=false)),_,hp,?_⟩
  clear hp hq
  refine cX ?_
  (first|refine oq ?_|refine iQ rfl ?_);intro b8;refine cX ?_;refine eO rfl rfl rfl rfl (by kernel_rfl) ?_;refine cX ?_
  refine dc ?_;intro w hp C;refine bL ?_
  have eW:vl x.n l (aJ R) i=uf x.n 1 (BY x.n l (CD x.n l (aJ R) i).1 (R.getD i default).ins) x.n.sg.length:=by rw[vl,bk]
  have eS:CD x.n l (aJ R) (i+1)=pA x.n (BY x.n l (CD x.n l (aJ R) i).1 (R.getD i default).ins) (CD x.n l (aJ R) i).2 x.n.ms.length:=by rw[CD,bk]
  rw[<-eS] at hp
  have Ja:OQ x.n (CD x.n l (aJ R) (i+1)).1 (CD x.n l (aJ R) (i+1)).2:=by rw[eS];exact Ja
  rw[<-eW] at hp⊢
  refine lW hp (jk (α:=Int)) [(⟨vl x.n l (aJ R) i,oa,oc⟩:cL Int)] ?_;intro w bl hx hp;refine az ?_
  refine CW hp uF rfl rfl rfl rfl rfl rfl (by decide) rfl (by simp only[List.length_cons,List.length_nil];omega) rfl rfl ?_
  intro z2 c2 w hp bZ
  refine az ?_;(repeat(first|(refine ah ?_;refine aH hp ?_)|(refine aI ?_;refine aW hp ?_;intro w hp;refine az ?_)))
  have hp:=rA (y:=(⟨vl x.n l (aJ R) i,oa,oc⟩:cL Int)) ((hp.drop.drop.f4.drop.f4.drop).f6.f5.f3.f3.f5.f6.f6)
  refine IH (i+1) z2 c2 _ _ _ (by omega) (by rw[List.length_append,uF];rfl) ⟨by omega,na,ma,nc,mc,Q++[⟨vl x.n l (aJ R) i,oa,oc⟩],Ja,by rw[List.length_append,uF];rfl,fun t ht=> ?_,hp.f5.f1.f5.f5.f5.f5⟩
  by_cases J4:t=i
  ·subst J4
   rw[List.getD_eq_getElem?_getD,<-uF,List.getElem?_concat_length];rfl
  ·rw[du (by omega)]
   exact hQ t (by omega)
 ·refine aM ?_;refine aq ?_
  obtain rfl:i=R.length:=by omega
  exact⟨Q,z,zc,rfl,uF,hQ,(hp.f4.f4).tk 2⟩
end Go.Proofs
end
