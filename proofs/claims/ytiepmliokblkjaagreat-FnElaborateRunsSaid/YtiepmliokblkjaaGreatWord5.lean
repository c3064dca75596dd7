/- Texts that belong together; each under its stated conditions. -/
import Derived.Test.YtiepmliokblkjaaGreatFam
import Derived.Test.YtiepmliokblkjaaGreatBrf
import Derived.Test.YtiepmliokblkjaaGreatWord3
set_option linter.all false
section
namespace Go.Xw
open Go.RowKit
def Sr (ops:Array Oper)(A:List Nat)(x y:T3):Prop:=x.1≠y.1/\(∀e∈x.2.1.after,Region.binds .any e=true->e.on≠y.1)/\r4 true ops A x.1 x.2.1 x.2.2 y.1 y.2.1 y.2.2=true
structure Hk (ops:Array Oper)(A:List Nat)(r:List T3)(bF:Array Bool):Prop where
 size:bF.size=ops.size
 closed:EG ops bF
 has:∀i,i<ops.size->bF.getD i false=false->∃x∈r,x.1=i
 not:∀x∈r,bF.getD x.1 false=false
 op:∀x∈r,ops[x.1]?=some x.2.1
 pair:r.Pairwise (Sr ops A)
 Hz:∀x∈r,iq x.2.1
 self:∀x∈r,∀e∈x.2.1.after,Region.binds .any e=true->e.on<ops.size/\e.on≠x.1
theorem Eb {P:Program}{ops:Array Oper}{w0:World}{L0:List bh}{Q:Act->World->Prop}{Q':Exit->Act->World->Prop}(hQ:∀a w,Q a w->Q' .normal a w):
  ∀(n:Nat) (r:List T3) (bF:Array Bool) (a:Act) (w:World) (L F:List bh),r.length=n->Hk ops (j5 ops.toList []) r bF->Hp w0 w (L++F)->((∃x∈r,zu true x.2.1=true)->Hp w0 w L0)->
   lF P ops w0 L0 Q (r.map (·.2)) L a->wpAny P .any ops Q' n bF a w
 |0,r,bF,a,w,L,F,hn,inv,hp,_,h=>by
  have hr:r=[]:=List.length_eq_zero_iff.1 hn
  subst hr
  refine⟨?_,hQ _ _ (h w (hp.sub (List.sublist_append_left L F)))⟩
  rw[List.eq_nil_iff_forall_not_mem]
  intro j hj
  obtain⟨I1,oj,rP,_⟩:=mem_ready.1 hj
  obtain⟨x,hx,_⟩:=inv.has j (Array.getElem?_eq_some_iff.1 rP).1 (mi I1)
  simp at hx
 |n+1,r,bF,a,w,L,F,hn,inv,hp,hC,h=>by
  have jg:∀x∈r,bF.getD x.1 true=false:=fun x hx=>Ba (by rw[inv.size];exact(Array.getElem?_eq_some_iff.1 (inv.op x hx)).1) (inv.not x hx)
  refine⟨fun h0=> ?_,fun i hi=> ?_⟩
  ·exfalso
   match r,hn,inv,jg with
   |x::r,_,inv,jg=>
    have:x.1∈Region.ready .any ops bF:=by
     rw[mem_ready]
     refine⟨jg x (by simp),x.2.1,inv.op x (by simp),fun e he hb=> ?_⟩
     obtain⟨bD,fD⟩:=inv.self x (by simp) e he hb
     cases hl:bF.getD e.on false with
     |true=>rfl
     |false=>
      obtain⟨y,hy,HA⟩:=inv.has e.on bD hl
      simp only[List.mem_cons] at hy
      rcases hy with rfl|hy
      ·exact absurd HA.symm fD
      ·exact absurd HA.symm (((List.pairwise_cons.1 inv.pair).1 y hy).2.1 e he hb)
    rw[h0] at this
    simp at this
  ·obtain⟨I1,oi,zv,dL⟩:=mem_ready.1 hi
   have TA:i<ops.size:=(Array.getElem?_eq_some_iff.1 zv).1
   obtain⟨x,hx,rfl⟩:=inv.has i TA (mi I1)
   obtain⟨r1,r2,rfl⟩:=List.append_of_mem hx
   obtain⟨i,o,fl⟩:=x
   have NK:oi=o:=by
    have:=inv.op (i,o,fl) hx
    rw[zv] at this
    injection this
   subst NK
   have uH:iq oi:=inv.Hz (i,oi,fl) hx
   have I2:=inv.pair
   rw[List.pairwise_append,List.pairwise_cons] at I2
   obtain⟨TB,⟨CN,TC⟩,I3⟩:=I2
   have I4:∀y∈r1,((j5 ops.toList []).getD i 0).testBit y.1=false:=by
    intro y hy
    cases hb:((j5 ops.toList []).getD i 0).testBit y.1 with
    |false=>rfl
    |true=>
     have th:bF.getD y.1 false=true:=by
      obtain⟨tp,k1,k2⟩:=wF ops.toList [] i oi (by simpa using zv)
      have hk:(j5 ops.toList []).getD i 0=vx tp oi:=by
       rw[List.getD_eq_getElem?_getD]
       simp only[List.length_nil,Nat.zero_add] at k2
       rw[k2];rfl
      rw[hk] at hb
      refine nv (fun i' j' rN O7=> ?_) dL hb
      refine oZ inv.closed ops.toList [] (by simp) (by simp) i' j' ?_ O7
      by_cases bD:i'<tp.length
      ·rw[List.getD_eq_getElem?_getD,k1 i' bD,<-List.getD_eq_getElem?_getD];exact rN
      ·rw[List.getD_eq_getElem?_getD,List.getElem?_eq_none (by omega)] at rN
       simp at rN
     rw[inv.not y (by simp[hy])] at th
     cases th
   have jP:∀y∈r1,oi.apart ops y.2.1=true/\(oY true y.2.1&&oY true oi&& !dQ oi)=false/\(oY true oi&&zu true y.2.1&& !fl)=false/\(oY true y.2.1&&zu true oi&& !y.2.2)=false:=by
    intro y hy
    have:=(I3 y hy (i,oi,fl) (by simp)).2.2
    simp only[r4,I4 y hy,Bool.false_or,Bool.true_and,Bool.and_eq_true,Bool.not_eq_true'] at this
    exact⟨this.1.1.1,this.1.1.2,this.1.2,this.2⟩
   have xd:∀y∈r2,(oY true oi&&zu true y.2.1&& !fl)=false:=by
    intro y hy
    have:=(CN y hy).2.2
    simp only[r4,Bool.and_eq_true,Bool.not_eq_true'] at this
    exact this.2
   have I5:Hk ops (j5 ops.toList []) (r1++r2) (bF.setIfInBounds i true):=by
    have fD:∀y∈r1++r2,y.1≠i:=by
     intro y hy
     rcases List.mem_append.1 hy with hy|hy
     ·exact(I3 y hy (i,oi,fl) (by simp)).1
     ·exact(CN y hy).1.symm
    have tq:∀y∈r1++r2,y∈r1++(i,oi,fl)::r2:=fun y hy=>by
     rcases List.mem_append.1 hy with hy|hy<;>simp[hy]
    refine⟨by simp[inv.size],fun j oj rP hl e he hb=> ?_,fun j hj hl=> ?_,fun y hy=> ?_,fun y hy=>inv.op y (tq y hy),?_,fun y hy=>inv.Hz y (tq y hy),fun y hy=>inv.self y (tq y hy)⟩
    ·by_cases kc:i=j
     ·subst kc
      have:oj=oi:=by rw[zv] at rP;injection rP with rP;exact rP.symm
      subst this
      exact getD_set_true (dL e he hb)
     ·rw[getD_set_ne false kc] at hl
      exact getD_set_true (inv.closed j oj rP hl e he hb)
    ·by_cases kc:i=j
     ·subst kc
      simp[inv.size,hj] at hl
     ·rw[getD_set_ne false kc] at hl
      obtain⟨y,hy,HA⟩:=inv.has j hj hl
      refine⟨y,?_,HA⟩
      rcases List.mem_append.1 hy with hy|hy
      ·simp[hy]
      ·simp only[List.mem_cons] at hy
       rcases hy with rfl|hy
       ·exact absurd HA kc
       ·simp[hy]
    ·rw[getD_set_ne false (Ne.symm (fD y hy))]
     exact inv.not y (tq y hy)
    ·rw[List.pairwise_append]
     exact⟨TB,TC,fun x hx y hy=>I3 x hx y (by simp[hy])⟩
   have hlen:(r1++r2).length=n:=by simp at hn⊢;omega
   have next:∀a' w' L',Hp w0 w' (L'++F)->((∃x∈r1++r2,zu true x.2.1=true)->Hp w0 w' L0)->lF P ops w0 L0 Q ((r1++r2).map (·.2)) L' a'->wpAny P .any ops Q' n (bF.setIfInBounds i true) a' w':=
    fun a' w' L' nL hc hl=>Eb hQ n (r1++r2) _ a' w' L' F hlen I5 nL hc hl
   simp only[List.map_append,List.map_cons] at h
   unfold wpOp
   simp only[zv]
   have pM:(∃x∈r1++r2,zu true x.2.1=true)->Hp w0 w L0:=fun⟨y,hy,th⟩=>hC ⟨y,by rcases List.mem_append.1 hy with hy|hy<;>simp[hy],th⟩
   by_cases TD:dQ oi=true
   ·have uA:=kG TD uH (r1.map (·.2)) L a ⟨F,w,hp⟩ (fun p hp=>by
     obtain⟨y,hy,rfl⟩:=List.mem_map.1 hp
     exact⟨(jP y hy).1,inv.Hz y (by simp[hy])⟩) h
    split
    ·rename_i hw
     rw[if_pos hw] at uA
     obtain⟨d,ij,uA⟩:=uA
     have xd:Hp w0 (w.alloc d.obj) ((d.res w.heap.size::L)++F):=FD.new _ hp
     refine .inl (df.wp (K:=wpAny P .any ops Q' n (bF.setIfInBounds i true)) ?_)
     unfold df
     rw[ij w]
     exact next _ _ _ xd (fun hl=>(pM hl).ext (Ext.alloc _ _)) (by rw[List.map_append];exact uA _ ⟨F,_,xd⟩)
    ·rename_i hw
     rw[if_neg hw] at uA
     exact next _ _ _ hp pM (by rw[List.map_append];exact uA)
   have I6:dQ oi=false:=by simpa using TD
   by_cases he:oY true oi=true
   ·have uA:=xe he I6 uH (r1.map (·.2)) L a (fun p hp=>by
     obtain⟨y,hy,rfl⟩:=List.mem_map.1 hp
     obtain⟨k1,k2,_,_⟩:=jP y hy
     exact⟨k1,inv.Hz y (by simp[hy]),by simpa [he,I6] using k2⟩) h
    split
    ·rename_i hw
     rw[if_pos hw] at uA
     refine .inl (df.wp (df.mono rfl (uA F w hp) fun v w' ⟨k1,L',k2,k3⟩=>next _ _ L' k2 (fun⟨y,hy,th⟩=> ?_) (by rw[List.map_append];exact k3)))
     cases iO:fl with
     |true=>exact k1 iO
     |false=>
      subst iO
      rcases List.mem_append.1 hy with hy|hy
      ·have:=(jP y hy).2.2.1;simp[he,th] at this
      ·have:=xd y hy;simp[he,th] at this
    ·rename_i hw
     rw[if_neg hw] at uA
     exact next _ _ _ hp pM (by rw[List.map_append];exact uA)
   ·have zC:oY true oi=false:=by simpa using he
    obtain⟨v,hv⟩:=kF zC uH (r1.map (·.2)) L a ⟨F,w,hp⟩ (fun p hp=>by
     obtain⟨y,hy,rfl⟩:=List.mem_map.1 hp
     exact(jP y hy).1) h
    have hd:=mg zC uH (fun hl=>⟨w,hC ⟨(i,oi,fl),by simp,hl⟩⟩) (r1.map (·.2)) L a (fun p hp=>by
     obtain⟨y,hy,rfl⟩:=List.mem_map.1 hp
     exact⟨(jP y hy).1,inv.Hz y (by simp[hy])⟩) hv h
    have tr:=hv.one (w:=w) (fun hl=>hC ⟨(i,oi,fl),by simp,hl⟩) (K:=wpAny P .any ops Q' n (bF.setIfInBounds i true)) (fun w' hx=>next _ _ _ (hp.ext hx) (fun hl=>(pM hl).ext hx) (by rw[List.map_append];exact hd))
    split
    ·rename_i hw
     rw[if_pos hw] at tr
     exact .inl tr.wp
    ·rename_i hw
     rw[if_neg hw] at tr
     exact tr
def qV (ops:Array Oper)(i:Nat):Oper:=ops.getD i default
def AU (σ:List Nat)(o:Oper):Oper:={o with after:=o.after.map fun e=>{e with on:=σ.findIdx (Nat.beq e.on)}}
def FO (ops:Array Oper)(σ:List Nat):Array Oper:=⟨σ.map fun i=>AU σ (qV ops i)⟩
def OU (ops:Array Oper)(σ:List Nat):List (Nat×Bool):=σ.zip ((cW (FO ops σ).toList).map (·.2))
def Ss (ops:Array Oper)(A:List Nat)(x y:Nat×Bool):Bool:=Nat.beq x.1 y.1==false&& (qV ops x.1).after.all (fun e=> !Region.binds .any e||Nat.beq e.on y.1==false)&&r4 true ops A x.1 (qV ops x.1) x.2 y.1 (qV ops y.1) y.2
def Hl (ops:Array Oper)(A:List Nat):List (Nat×Bool)->Bool
 |[]=>true
 |i::r=>r.all (Ss ops A i)&&Hl ops A r
def Co (ops:Array Oper)(σ:List Nat):Bool:=Nat.beq (OU ops σ).length ops.size&& (List.range ops.size).all (fun i=>(OU ops σ).any fun x=>Nat.beq i x.1)&& (OU ops σ).all (fun x=>Nat.blt x.1 ops.size&&A8 (qV ops x.1)&& (qV ops x.1).guard.isNone&& (qV ops x.1).after.all (fun e=> !Region.binds .any e||(Nat.blt e.on ops.size&&Nat.beq e.on x.1==false)))&&Hl ops (j5 ops.toList []) (OU ops σ)
theorem Is {ops:Array Oper}{A:List Nat}{i j:Nat×Bool}(h:Ss ops A i j=true):Sr ops A (i.1,qV ops i.1,i.2) (j.1,qV ops j.1,j.2):=by
 simp only[Ss,Bool.and_eq_true] at h
 obtain⟨⟨h1,h2⟩,h3⟩:=h
 refine⟨fun e=> ?_,fun e he hb hon=> ?_,h3⟩
 ·have e:i.1=j.1:=e
  rw[e] at h1
  simp at h1
 ·have:=Array.all_eq_true_iff_forall_mem.1 h2 e he
  have hon:e.on=j.1:=hon
  rw[hon] at this
  simp[hb] at this
theorem zd {ops:Array Oper}{A:List Nat}:∀(l:List (Nat×Bool)),Hl ops A l=true->(l.map fun i=>((i.1,qV ops i.1,i.2):T3)).Pairwise (Sr ops A)
 |[],_=>List.Pairwise.nil
 |i::r,h=>by
  simp only[Hl,Bool.and_eq_true,List.all_eq_true] at h
  refine List.Pairwise.cons (fun y hy=> ?_) (zd r h.2)
  obtain⟨j,hj,rfl⟩:=List.mem_map.1 hy
  exact Is (h.1 j hj)
theorem ze {P:Program}{id:Nat}{ops:Array Oper}{Q:Exit->Act->World->Prop}{a:Act}{w w0:World}{L L0:List bh}(σ:List Nat)
  (hm:P.follows .mixedOrders=true) (hB:Co ops σ=true) (hC:Hp w0 w L) (XO:Hp w0 w L0)
  (h:lF P ops w0 L0 (fun a' w'=>Q .normal a' w') ((OU ops σ).map fun i=>(qV ops i.1,i.2)) L a):(Code.region id ops true).wp P Q a w:=by
 refine wp_region_any hm ?_
 simp only[Co,Bool.and_eq_true,List.all_eq_true] at hB
 obtain⟨⟨⟨h1,h2⟩,h3⟩,h4⟩:=hB
 have h1:(OU ops σ).length=ops.size:=Nat.eq_of_beq_eq_true h1
 have XP:Hp w0 {w with drawn:=w.drawn+1} L:=hC.ext (Ext.drawn w)
 have vj:∀i,i∈OU ops σ->i.1<ops.size/\iq (qV ops i.1)/\∀e∈(qV ops i.1).after,Region.binds .any e=true->e.on<ops.size/\e.on≠i.1:=fun i hi=>by
  have:=h3 i hi
  obtain⟨⟨⟨g1,g2⟩,_⟩,g4⟩:=this
  refine⟨Nat.le_of_ble_eq_true g1,vy g2,fun e he hb=> ?_⟩
  have:=Array.all_eq_true_iff_forall_mem.1 g4 e he
  simp only[hb,Bool.not_true,Bool.false_or,Bool.and_eq_true] at this
  refine⟨Nat.le_of_ble_eq_true this.1,fun hh=> ?_⟩
  rw[hh] at this
  simp at this
 have ij:∀i,i<ops.size->ops[i]?=some (qV ops i):=fun i hi=>by
  unfold qV
  rw[Array.getElem?_eq_getElem hi]
  simp[Array.getD,hi]
 refine Eb (fun a w h=>h) ops.size ((OU ops σ).map fun i=>(i.1,qV ops i.1,i.2)) (Array.replicate ops.size false) a _ L [] (by simp[h1]) ⟨by simp,?_,?_,?_,?_,zd _ h4,?_,?_⟩ (by simpa using XP) (fun _=>XO.ext (Ext.drawn w)) (by rw[List.map_map];exact h)
 ·intro j oj _ hl
  exfalso
  rw[dE] at hl
  cases hl
 ·intro i hi _
  have:=h2 i (List.mem_range.2 hi)
  obtain⟨j,hj,kc⟩:=List.any_eq_true.1 this
  have kc:i=j.1:=Nat.eq_of_beq_eq_true kc
  subst kc
  exact⟨_,List.mem_map.2 ⟨j,hj,rfl⟩,rfl⟩
 ·intro x _
  exact dE _ _
 ·intro x hx
  obtain⟨i,hi,rfl⟩:=List.mem_map.1 hx
  exact ij i.1 (vj i hi).1
 ·intro x hx
  obtain⟨i,hi,rfl⟩:=List.mem_map.1 hx
  exact(vj i hi).2.1
 ·intro x hx
  obtain⟨i,hi,rfl⟩:=List.mem_map.1 hx
  exact(vj i hi).2.2
theorem v5 {o:Oper}(h:o.guard=none)(y:Nat->Option Bool):Region.wanted o y=true:=by simp[Region.wanted,h]
theorem KL {P:Program}{ops Np:Array Oper}{w0:World}{L0:List bh}{Q:Act->World->Prop}(σ:List Nat)(l:List (Oper×Bool)):(∀o∈l,o.1.guard=none)->∀(L:List bh) (a:Act),lF P Np w0 L0 Q (l.map fun x=>(AU σ x.1,x.2)) L a->lF P ops w0 L0 Q l L a:=by
 induction l with
 |nil=>
  intro _ L a h
  rw[List.map_nil] at h
  unfold lF at h⊢
  exact h
 |cons x l ihl=>
  intro hg L a h
  obtain⟨o,fl⟩:=x
  have hgo:=hg (o,fl) (by simp)
  have ih:=fun L a h=>ihl (fun o ho=>hg o (by simp[ho])) L a h
  have w1:Region.wanted o (yielded ops a.tmps)=true:=v5 hgo _
  have w2:Region.wanted (AU σ o) (yielded Np a.tmps)=true:=v5 (o:=AU σ o) hgo _
  rw[List.map_cons] at h
  rcases gU h with⟨_,v,hv,h'⟩|⟨hF,_,d,ij,h'⟩|⟨he,hF,_,h'⟩|⟨_,hn,_⟩
  ·refine lG ?_ (ih _ _ h')
   rcases hv with(⟨_,hy⟩|⟨hn,_⟩)|⟨h1,h2,h3,_,h5⟩
   ·exact .inl (.inl ⟨w1,hy⟩)
   ·rw[w2] at hn;exact Bool.noConfusion hn
   ·exact .inr ⟨h1,h2,h3,w1,h5⟩
  ·exact jO (o:=o) hF w1 (d:=d) ij fun b hb=>ih _ _ (h' b hb)
  ·refine nt (o:=o) he hF w1 fun F w hp=> ?_
   have h2:df P o a w fun a' w'=>(fl=true->Hp w0 w' L0)/\∃L',Hp w0 w' (L'++F)/\lF P Np w0 L0 Q (l.map fun x=>(AU σ x.1,x.2)) L' a':=h' F w hp
   exact df.mono rfl h2 fun v w' ⟨k1,L',k2,k3⟩=>⟨k1,L',k2,ih _ _ k3⟩
  ·rw[w2] at hn;exact Bool.noConfusion hn
theorem Wy {α β γ:Type}(g:α->β):∀(σ:List α) (X:List (β×γ)),X.map (·.1)=σ.map g->X=(σ.zip (X.map (·.2))).map fun y=>(g y.1,y.2)
 |[],[],_=>rfl
 |[],x::X,h=>by simp at h
 |s::σ,[],h=>by simp at h
 |s::σ,x::X,h=>by
  rw[List.map_cons,List.map_cons] at h
  injection h with h1 h2
  rw[List.map_cons,List.zip_cons_cons,List.map_cons,<-Wy g σ X h2]
  obtain⟨x1,x2⟩:=x
  have h1:x1=g s:=h1
  rw[h1]
section
variable {S:ak} {sz:Nat} {R:Value->World->Prop} {C:World->Prop} {w w0:World} {L0 L:List bh} {ops:Array Oper} {k:List Item} {env:Env} {g':G} {cc:List Prop}
theorem Nq {id:Nat}{e:Env}[hS:S.Ok](σ:List Nat)(hs:Hp w0 w L)(lQ:Hp w0 w L0)(hm:S.P.follows .mixedOrders=true)(hB:Co ops σ=true)(he:et env S.live=some e)
  (h:mH S sz (.ops true (FO ops σ) (FO ops σ).toList k e)=(g',cc)) (hg:bu S sz R w0 L0 L g') (ho:ir cc:=by((repeat' apply And.intro)<;>first|exact trivial|omega|exact wi (by omega)|exact wu (by omega)|exact wb (by omega)|(refine Sl.nn (by assumption) ?_;omega)|(refine bW (by assumption) ?_;omega)|exact Option.some_ne_none _|assumption|decide)):ax S sz R C w (.code (.code (.region id ops true)::k) env):=by
 intro a ha
 have h1:=pe (R:=R) (w0:=w0) (L0:=L0) (L:=L) hS _ h ⟨[],rfl⟩ ho hg
 refine o8 (ze σ hm hB hs lQ ?_)
 have h2:=h1.2 a (ha.prune he)
 rw[Bf] at h2
 have key:∀(l:List (Oper×Bool)) (L':List bh) (a:Act),lF S.P (FO ops σ) w0 L0 (fun a' w'=>nw S.P S.f R k a' w') l L' a->lF S.P (FO ops σ) w0 L0 (fun a' w'=>EM S.P S.f R k .normal a' w') l L' a:=by
  intro l
  induction l with
  |nil=>exact fun L' a h w hp=>⟨rfl,h w hp⟩
  |cons x l ih=>
   obtain⟨o,fl⟩:=x
   intro L' a h
   rcases gU h with⟨_,v,hv,h'⟩|⟨hf,hw,d,ij,h'⟩|⟨he,hf,hw,h'⟩|⟨he,hw,h'⟩
   ·exact lG hv (ih _ _ h')
   ·exact jO hf hw ij fun b hb=>ih _ _ (h' b hb)
   ·exact nt he hf hw fun F w hp=>df.mono rfl (h' F w hp) fun v w' ⟨k1,L2,k2,k3⟩=>⟨k1,L2,k2,ih _ _ k3⟩
   ·exact mz hw (ih _ _ h')
 have h3:=key _ _ _ h2
 simp only[Co,Bool.and_eq_true,List.all_eq_true] at hB
 have hz:=Wy (fun i=>AU σ (qV ops i)) σ (cW (FO ops σ).toList) (gI _)
 refine KL σ _ (fun o ho=> ?_) _ _ ?_ (Np:=FO ops σ)
 ·obtain⟨i,hi,rfl⟩:=List.mem_map.1 ho
  have:=(hB.1.2 i hi).1.2
  simpa using this
 ·rw[List.map_map]
  rw[hz] at h3
  exact h3
end
end Go.Xw
end
section
namespace Go.Proofs
open Go.Xw
set_option maxRecDepth 100000
set_option maxHeartbeats 8000000
attribute [local irreducible] ax aE
theorem FP (x:bm)(hf:ch x.n){l:List Nat}(he:gQ x.n=some l)(hS:qL x.n)(hW:qM x.n)(v wl:List Int)(y9:OR x.n v wl)(va wa:Option Addr)(vc wc:Nat)(ins:List Int)(ia:Option Addr)(ic:Nat)(pW:ins.length=(ee x.n 0).length)(w0:World)(hM:iJ w0 x)(hv:Rd w0 va 1 eI v)(hwr:Rd w0 wa 1 eI wl)(hI:Rd w0 ia 1 eI ins):
  bN Tryz.prog 65 [x.v,.agg ⟨[.slice va v.length vc,.slice wa wl.length wc]⟩,.slice ia ins.length ic] w0 (fun r w=>∃na nc ma mc oa oc,r= .tuple ⟨[.agg ⟨[.slice na (pz x.n (B5 x.n l v ins) wl x.n.ms.length).1.length nc,.slice ma (pz x.n (B5 x.n l v ins) wl x.n.ms.length).2.length mc]⟩,.slice oa (ue x.n 1 (B5 x.n l v ins) x.n.sg.length).length oc]⟩/\Hp w0 w [rO 3 1 eI na nc (pz x.n (B5 x.n l v ins) wl x.n.ms.length).1,rO 3 1 eI ma mc (pz x.n (B5 x.n l v ins) wl x.n.ms.length).2,rO 3 1 eI oa oc (ue x.n 1 (B5 x.n l v ins) x.n.sg.length)]):=by
 have hm:=(dI hf).2
 have l1:x.sg.length<=30:=hm.l1
 have l2:x.aP.length<=30:=by have:=hm.l2;rw[x.cC] at this;exact this
 have l3:x.ms.length<=2:=hm.l3
 have Xq:v.length=x.sg.length:=y9.val.len
 have Sa:wl.length=4*x.ms.length:=y9.B7
 have qb:=iW he
 have hl:∀i,i∈l->i<x.n.aP.length:=fun i hi=>(qb.2.1 i hi).1
 have hX:=B6 hm hf hl y9.val ins
 obtain⟨X,hXe⟩:∃X,X=B5 x.n l v ins:=⟨_,rfl⟩
 rw[<-hXe] at hX⊢
 have hXl:X.length=x.sg.length:=hX.len
 have hXb:=OS hm hf hX
 refine eu Tryz.Vh ?_;intro C hp;skip;refine bP hp ?_;intro w b3 hx hp;refine az ?_;skip;refine bP hp ?_;intro w b4 hx hp;refine az ?_;skip;refine bP hp ?_;intro w b6 hx hp;refine az ?_;(repeat(first|(refine ah ?_;refine aI hp ?_)|(refine bK ?_;refine gG hp ?_;intro w _ hx hp;refine az ?_)))
 rename_i b8
 refine bQ hp Tryz.func121 (sn x hf hS hW v wl y9 va wa vc wc _ hp.mod hp.rd hp.rd) ?_;intro w hx hp;(repeat(first|(refine aG ?_;refine aO ?_)|(refine ah ?_;refine aI hp ?_)))
 refine cy Tryz.func28 (dJ x 0 _ hp.mod l1) ?_;rintro _ w ⟨bp,cp,rfl,hq⟩;have hx:=hq.x;have hp:=hp.bJ hq;refine az ?_;(repeat(refine aO ?_))
 refine ae (fun hg=>False.elim (by omega)) (fun _=> ?_);refine aM ?_;(repeat(refine aI hp ?_))
 refine cy Tryz.func122 (za x hf he hS hW v wl y9 va wa vc wc ins ia ic pW _ hp.mod hp.rd hp.rd hp.rd) ?_;rintro _ w ⟨b9,c9,rfl,hq⟩;have hx:=hq.x;have hp:=hp.bJ hq;refine az ?_
 rw[<-hXe] at hp⊢
 refine Nq [0,1,2,4,5,6,7,3,8,9,10] hp (hp) (by kernel_rfl) (by kernel_rfl) rfl rfl ?_;(repeat(first|(refine gu ?_;refine fy ?_)|(refine qw ?_;refine lI rfl rfl rfl rfl rfl rfl rfl rfl rfl rfl ?_;intro _;refine cX ?_)))
 rename_i be_
 refine fZ rfl rfl rfl rfl rfl rfl rfl (by decide) rfl (zl) rfl rfl (fun _ _ _ _ _ hp=>hp.sub (by(repeat(first|exact List.sublist_append_left _ _|apply List.Sublist.cons)))) ?_;intro aw cw bZ;refine cX ?_
 refine Bs eI (0:Int) rfl rfl rfl rfl (s:=1) rfl (by decide) (by infer_instance) rfl (by unfold maxLen;omega) (by show 8*_<=_;omega) ?_;intro bn;refine cX ?_
 (first|refine oq ?_|refine iS rfl ?_);intro ng;refine cX ?_;refine eO rfl rfl rfl rfl (by kernel_rfl) ?_;refine cX ?_
 refine dc ?_;intro w hp C;refine bL ?_
 rw[List.nil_append] at hp
 obtain⟨n0,hn0⟩:∃n0,n0=pz x.n X wl:=⟨_,rfl⟩
 have e0:List.replicate x.sg.length (0:Int)=zz x.n X 0:=rfl
 rw[e0] at hp
 refine aR [3,4,6,8,9,10,11] (fun(i:Nat)=>[(3,.pointer (some ⟨b3,0,none⟩)),(4,.pointer (some ⟨b4,0,none⟩)),(6,.pointer (some ⟨b6,0,none⟩)),(8,.slice (some ⟨b8,0,none⟩) 0 0),(9,.slice b9 X.length c9),(10,.pointer (some ⟨ng,0,none⟩)),(11,.int .i64 (i:Int))])
  (fun i w'=>i<=x.aP.length/\Hp w0 w' [rB ng 111 [.slice (some ⟨bn,0,none⟩) x.sg.length x.sg.length,.slice aw wl.length cw],rO 3 1 eI (some ⟨bn,0,none⟩) x.sg.length (zz x.n X i),rO 3 1 eI aw cw wl,rO 3 1 eI b9 c9 X,rO 3 1 eI (some ⟨b8,0,none⟩) 0 [],rB b6 111 (aL Tryz.Ak.zero),rB b4 111 [.slice va v.length vc,.slice wa wl.length wc],rB b3 41 x.cs]) (fun i=>x.aP.length-i) 0 rfl ⟨by omega,?_⟩ ?_
 ·exact hp.f4.drop
 clear hp
 rintro i w1 ⟨hi,hp⟩ IH C
 have SX:=uf hm hf X i (by rw[x.cC];exact hi)
 have Fw:(zz x.n X i).length=x.sg.length:=SX.len
 obtain⟨na,Xs⟩:∃na,na=zz x.n X i:=⟨_,rfl⟩
 rw[<-Xs] at Fw hp
 refine bL ?_;refine aI hp ?_
 apply ae<;>intro bD
 ·have aF:i<x.aP.length:=by omega
  obtain⟨qR,yB,rY,KK⟩:=gg hm hf (i:=i) (by rw[x.cC];exact aF)
  have wE:dT x.n i=(x.aP.getD i default).tg:=x.Le i
  have AN:opsL x.n i=(x.aP.getD i default).ops:=x.mR i
  have pH:=rY
  rw[wE] at pH
  unfold dr at pH
  change 0<=(x.aP.getD i default).tg/\(x.aP.getD i default).tg<x.sg.length at pH
  obtain⟨t,ht⟩:=Int.eq_ofNat_of_zero_le pH.1
  have Ea:(x.aP.getD i default).tg.toNat=t:=by omega
  obtain⟨e1,e2,e3⟩:=AS hm hf (s:=t) (by omega)
  have Tf:(x.sg.getD (x.aP.getD i default).tg.toNat default).width=((wN x.n (t:Nat):Nat):Int):=by rw[Ea];exact e1
  have Ww:=AT e3 Tf
  have IN:wN x.n (dT x.n i)=wN x.n (t:Nat):=by rw[wE,ht]
  have u7:aY x.n (dT x.n i)=(x.sg.getD (x.aP.getD i default).tg.toNat default).kind:=by rw[wE];rfl
  have la:Lf i x.aP:=⟨aF⟩
  have nR:=kL qR yB
  have Cf:(cU x.n i).ok X.length:=by
   have h:=nR.2
   rw[show((X.length:Nat):Int)=(x.n.sg.length:Int) by rw[hXl];rfl];exact h
  refine aN ?_;(repeat(refine ah ?_;first|refine aI hp ?_|refine bb hp ?_))
  refine bP hp ?_;intro w ti hx hp;refine az ?_;(repeat(first|(refine ah ?_;first|refine aI hp ?_|refine rS hp ?_)|(refine aH ?_;refine aW hp ?_;intro w hp;refine az ?_)))
  apply ae<;>intro hk
  ·have eT:zz x.n X (i+1)=na.set t (lr X (wN x.n (t:Nat)) (cU x.n i)):=by
    rw[zz,if_pos (by rw[u7];exact hk),<-Xs,IN,wE,Ea]
   refine aN ?_
   refine j7 hp ?_;intro w hx hp;have hs:=hp;(repeat(refine ah ?_;first|refine dN ?_|refine iC rfl (by omega) (by omega) rfl rfl rfl ?_))
   refine gq ?_
   rw[Ea,vq e1]
   have jd:=fun w h1 h2=>jY (x.aP.getD i default).ops (x.aP.getD i default).oa (x.aP.getD i default).oc X b9 c9 (wN x.n (t:Nat)) ⟨e2,e3⟩ (by rw[<-AN];exact qR.len) hXb (cU x.n i) [] [] (by rw[List.nil_append,List.append_nil,<-AN];exact nR.1) Cf w h1 h2
   refine oW Tryz.func123 (jd _ hp.rd hp.rd) ?_;rintro _ w ⟨rfl,hx⟩;have hp:=hp.ext hx;have hs:=hs.ext hx;refine⟨fun _=>hs,?_⟩;refine fO ?_
   (repeat(first|(refine ah ?_;refine aI hp ?_)|(refine aH ?_;refine ki hp rfl rfl rfl (by omega) (by decide) rfl rfl ?_;intro w hp;refine az ?_)))
   rw[Ea] at hp
   refine IH (i+1) _ _ _ (by omega) rfl ⟨by omega,?_⟩
   rw[eT]
   exact hp.drop
  ·have eT:zz x.n X (i+1)=na:=by
    rw[zz,if_neg (by rw[u7];exact hk),Xs]
   refine aM ?_
   refine IH (i+1) _ _ _ (by omega) rfl ⟨by omega,?_⟩
   rw[eT]
   exact hp.drop
 ·refine aM ?_
  obtain rfl:i=x.aP.length:=by omega
  clear IH
  have em:pz x.n X wl 0=(na,wl):=by rw[pz,x.cC,Xs]
  refine aR [3,4,6,8,9,10,15] (fun(i:Nat)=>[(3,.pointer (some ⟨b3,0,none⟩)),(4,.pointer (some ⟨b4,0,none⟩)),(6,.pointer (some ⟨b6,0,none⟩)),(8,.slice (some ⟨b8,0,none⟩) 0 0),(9,.slice b9 X.length c9),(10,.pointer (some ⟨ng,0,none⟩)),(15,.int .i64 (i:Int))])
   (fun i w'=>i<=x.ms.length/\Hp w0 w' [rB ng 111 [.slice (some ⟨bn,0,none⟩) x.sg.length x.sg.length,.slice aw wl.length cw],rO 3 1 eI (some ⟨bn,0,none⟩) x.sg.length (pz x.n X wl i).1,rO 3 1 eI aw cw (pz x.n X wl i).2,rO 3 1 eI b9 c9 X,rO 3 1 eI (some ⟨b8,0,none⟩) 0 [],rB b6 111 (aL Tryz.Ak.zero),rB b4 111 [.slice va v.length vc,.slice wa wl.length wc],rB b3 41 x.cs]) (fun i=>x.ms.length-i) 0 rfl ⟨by omega,?_⟩ ?_
  ·rw[em];exact hp
  clear hp SX
  rintro j w1 ⟨hj,hp⟩ IH C
  have hNv:=Cc hm hf hX y9.B7 y9.OI j hj
  have O9:(pz x.n X wl j).1.length=x.sg.length:=hNv.val.len
  have Ly:(pz x.n X wl j).2.length=wl.length:=hNv.len
  have eS1:(pz x.n X wl (j+1)).1=(pz x.n X wl j).1.set (fa x.n j) (wl.getD (4*j+CG x.n X j) default):=rfl
  have eS2:(pz x.n X wl (j+1)).2=if X.getD (x.ms.getD j default).write.toNat default=1 then(pz x.n X wl j).2.set (4*j+CG x.n X j) (X.getD (x.ms.getD j default).data.toNat default) else(pz x.n X wl j).2:=rfl
  obtain⟨m1,OG⟩:∃m1,m1=(pz x.n X wl j).1:=⟨_,rfl⟩
  obtain⟨m2,Fb⟩:∃m2,m2=(pz x.n X wl j).2:=⟨_,rfl⟩
  rw[<-OG] at O9 eS1 hp
  rw[<-Fb] at Ly eS2 hp
  refine bL ?_;refine aI hp ?_
  apply ae<;>intro jK
  ·have aF:j<x.ms.length:=by omega
   have Xr:=FN hm aF
   obtain⟨a1,a2⟩:=Fu hm hf hX (j:=j) aF
   change((CG x.n X j:Nat):Int)=X.getD (x.ms.getD j default).addr.toNat default at a2
   have hq:(4*((j:Nat):Int)+X.getD (x.ms.getD j default).addr.toNat default).toNat=4*j+CG x.n X j:=by omega
   have h4:((nat_lit 4:Nat):Int)*((j:Nat):Int)=4*(j:Int):=rfl
   have ho:(x.ms.getD j default).out.toNat=fa x.n j:=rfl
   refine aN ?_;(repeat(refine ah ?_;first|refine aI hp ?_|refine bb hp ?_))
   refine bP hp ?_;intro w Xo hx hp;refine az ?_;refine aW hp ?_;intro w hp;refine az ?_
   refine j7 hp ?_;intro w hx hp;have hs:=hp;(repeat(first|(refine ah ?_;first|refine dN ?_|refine jb rfl (by omega) (by omega) rfl rfl rfl ?_)|(refine aH ?_;refine Ai hp rfl rfl rfl (by omega) (by decide) rfl rfl (by kernel_rfl) ?_;intro w hp;refine fO ?_)))
   rw[hq,ho] at hp
   (repeat(refine ah ?_;first|refine aI hp ?_|refine ik hp ?_))
   apply ae<;>intro hk
   ·refine aN ?_
    refine j7 hp ?_;intro w hx hp;have hs:=hp;(repeat(first|(refine ah ?_;first|refine dN ?_|refine jb rfl (by omega) (by omega) rfl rfl rfl ?_)|(refine aH ?_;refine Ai hp rfl rfl rfl (by omega) (by decide) rfl rfl (by kernel_rfl) ?_;intro w hp;refine fO ?_)))
    rw[hq] at hp
    skip
    refine IH (j+1) _ _ _ (by omega) rfl ⟨by omega,?_⟩
    rw[eS1,eS2,if_pos hk]
    exact hp.drop
   ·refine aM ?_
    refine IH (j+1) _ _ _ (by omega) rfl ⟨by omega,?_⟩
    rw[eS1,eS2,if_neg hk]
    exact hp.drop
  ·refine aM ?_
   obtain rfl:j=x.ms.length:=by omega
   clear IH
   have e0:ue x.n 1 X 0=[]:=rfl
   have sE:=fun i hi=>rJ x.n 1 X i hi
   have hpk:∀i,i<=x.sg.length->(ue x.n 1 X i).length<=30:=fun i hi=>by
    rw[sE i hi]
    unfold nK
    have:=po (x.n.sg.take i) 1
    have h2:(x.n.sg.take i).length<=i:=List.length_take_le _ _
    omega
   refine gK [3,6,8,9,10,17] (fun(i:Nat) (z:Option Addr×Nat)=>[(3,.pointer (some ⟨b3,0,none⟩)),(6,.pointer (some ⟨b6,0,none⟩)),(8,.slice z.1 (ue x.n 1 X i).length z.2),(9,.slice b9 X.length c9),(10,.pointer (some ⟨ng,0,none⟩)),(17,.int .i64 (i:Int))])
    (fun i z w'=>i<=x.sg.length/\Hp w0 w' [rO 3 1 eI z.1 z.2 (ue x.n 1 X i),rB ng 111 [.slice (some ⟨bn,0,none⟩) x.sg.length x.sg.length,.slice aw wl.length cw],rO 3 1 eI (some ⟨bn,0,none⟩) x.sg.length m1,rO 3 1 eI aw cw m2,rO 3 1 eI b9 c9 X,rB b6 111 (aL Tryz.Ak.zero),rB b3 41 x.cs]) (fun i z=>x.sg.length-i) 0 (some ⟨b8,0,none⟩,0) rfl ⟨by omega,?_⟩ ?_
   ·exact(hp.f6.f7.f7.f6.f6.f6.f6.f7).tk 7
   clear hp
   rintro i ⟨z,zc⟩ w1 ⟨hi,hp⟩ IH C
   refine bL ?_;refine aI hp ?_
   apply ae<;>intro Ks
   ·have aF:i<x.sg.length:=by omega
    refine aN ?_;(repeat(refine ah ?_;first|refine aI hp ?_|refine dg hp ?_))
    apply ae<;>intro hk
    ·have eP:ue x.n 1 X (i+1)=ue x.n 1 X i++[X.getD i default]:=by rw[ue,if_pos (by rw[bG];exact hk)]
     have D7:=hpk i (by omega)
     refine aN ?_;(repeat(first|(refine ah ?_;refine bb hp ?_)|(refine bK ?_;refine gG hp ?_;intro w _ hx hp;refine az ?_)))
     refine gT hp ?_;intro z2 c2 w hp bZ;refine az ?_
     refine IH (i+1) (z2,c2) _ _ _ (by omega) (by rw[eP];rfl) ⟨by omega,?_⟩
     rw[eP]
     exact hp.drop
    ·have eP:ue x.n 1 X (i+1)=ue x.n 1 X i:=by rw[ue,if_neg (by rw[bG];exact hk)]
     refine aM ?_
     refine IH (i+1) (z,zc) _ _ _ (by omega) (by rw[eP];rfl) ⟨by omega,?_⟩
     rw[eP]
     exact hp
   ·refine aM ?_;(repeat(first|(refine ah ?_;refine aI hp ?_)|(refine aH ?_;refine aW hp ?_;intro w hp;refine az ?_)|(refine dA ?_;refine bg hp rfl ?_)))
    obtain rfl:i=x.sg.length:=by omega
    have e1:(pz x.n X wl x.n.ms.length).1=m1:=OG.symm
    have e2:(pz x.n X wl x.n.ms.length).2=m2:=Fb.symm
    rw[e1,e2,O9,Ly]
    exact⟨_,_,_,_,_,_,rfl,(hp.f3.f3).tk 3⟩
end Go.Proofs
end
section
namespace Go.Proofs
open Go.Xw
set_option maxRecDepth 100000
set_option maxHeartbeats 8000000
attribute [local irreducible] ax aE
structure Ec (w:World)(a:Option Addr)(R:List (cL Int)):Prop where
 row:Rd w a 1 (jl (α:=Int)) R
 at_:∀r,r∈R->Rd w r.ia 1 eI r.ins
theorem Ec.ext {w w':World}{a:Option Addr}{R:List (cL Int)}(h:Ec w a R)(hx:Ext w w'):Ec w' a R:=⟨h.row.ext hx,fun r hr=>(h.at_ r hr).ext hx⟩
theorem Ec.get {w:World}{a:Option Addr}{R:List (cL Int)}(h:Ec w a R){i:Nat}(hi:i<R.length):Rd w (R.getD i default).ia 1 eI (R.getD i default).ins:=h.at_ _ (u9 hi)
theorem FQ (x:bm)(hf:ch x.n)(hS:qL x.n)(hW:qM x.n)(R:List (cL Int))(ia:Option Addr)(ic:Nat)(hR:R.length<=16)(hl:∀i,i<R.length->(R.getD i default).ins.length=(ee x.n 0).length)(w0:World)(hM:iJ w0 x)(hI:Ec w0 ia R):
  bN Tryz.prog 63 [x.v,.slice ia R.length ic] w0 (fun r w=>r= .bool true/\Ext w0 w):=by
 have hm:=(dI hf).2
 have l1:x.sg.length<=30:=hm.l1
 have E9:fB x.n=true:=cR.2 hf
 have Wn:=hI.row
 refine eu Tryz.Vf ?_;intro C hp;skip;refine bP hp ?_;intro w b2 hx hp;refine az ?_;refine aI hp ?_
 refine bQ hp Tryz.func26 (ja x _ hp.mod hS hW) ?_;intro w hx hp
 rw[E9]
 (repeat(refine aO ?_))
 refine ae (fun hg=>False.elim (by omega)) (fun _=> ?_);refine aM ?_;refine aI hp ?_
 refine cy Tryz.func28 (dJ x 0 _ hp.mod l1) ?_;rintro _ w ⟨bp,cp,rfl,hq⟩;have hx:=hq.x;have hp:=hp.bJ hq;refine az ?_
 refine aR [1,5,6] (fun(i:Nat)=>[(1,.slice ia R.length ic),(5,.int .i64 ((ee x.n 0).length:Nat)),(6,.int .i64 (i:Int))])
  (fun i w'=>i<=R.length/\Hp w0 w' []) (fun i=>R.length-i) 0 rfl ⟨by omega,hp.tk 0⟩ ?_
 clear hp
 rintro i w1 ⟨hi,hp⟩ IH C
 refine bL ?_
 apply ae<;>intro bD
 ·have aF:i<R.length:=by omega
  have Tz:=hl i aF
  refine aN ?_;refine bb hp ?_
  refine ae (fun hg=>False.elim (by omega)) (fun _=> ?_);refine aM ?_
  exact IH (i+1) _ _ _ (by omega) rfl ⟨by omega,hp⟩
 ·refine aM ?_;refine aq ?_
  exact⟨rfl,hp.x⟩
theorem It (x:bm)(hf:ch x.n){l:List Nat}(he:gQ x.n=some l)(hS:qL x.n)(hW:qM x.n)(R:List (cL Int))(ia:Option Addr)(ic:Nat)(hR:R.length<=16)(hl:∀i,i<R.length->(R.getD i default).ins.length=(ee x.n 0).length)(w0:World)(hM:iJ w0 x)(hI:Ec w0 ia R):
  bN Tryz.prog 16 [x.v,.slice ia R.length ic] w0 (fun r w=>∃(Q:List (cL Int)) (b:Option Addr) (c:Nat),r= .slice b R.length c/\Q.length=R.length/\(∀t,t<R.length->(Q.getD t default).ins=vm x.n l (aJ R) t)/\Hp w0 w [rO 31 1 jl b c Q,cD 3 1 eI Q]):=by
 have hm:=(dI hf).2
 have l1:x.sg.length<=30:=hm.l1
 have Wn:=hI.row
 have qb:=iW he
 have jg:=qb.2.1
 have OT:∀i,i∈l->i<x.n.aP.length:=fun i hi=>(jg i hi).1
 refine eu Tryz.UT ?_;intro C hp;skip;refine bP hp ?_;intro w b2 hx hp;refine az ?_
 refine r7 hp (jl (α:=Int)) ([]:List (cL Int)) rfl rfl rfl rfl (s:=1) rfl (by decide) (by infer_instance) (by rfl) (by rfl) (by rfl) (by decide) ?_;intro w b5 hx hp;refine az ?_;refine aI hp ?_
 refine bQ hp Tryz.func63 (FQ x hf hS hW R ia ic hR hl _ hp.mod (hI.ext hp.x)) ?_;intro w hx hp
 refine aM ?_;refine aI hp ?_
 refine cy Tryz.func64 (D' x hf hS hW _ hp.mod) ?_
 rintro _ w ⟨va,vc,wa,wc,rfl,hq⟩
 have hp:=hp.call2 hq
 refine az ?_
 refine bP hp ?_;intro w b6 hx hp;refine az ?_;refine aW hp ?_;intro w hp;refine az ?_
 have hws0:=KI hf he
 refine eg [1,2,5,6,7] (fun(i:Nat) (z:Option Addr) (zc:Nat)=>[(1,.slice ia R.length ic),(2,.pointer (some ⟨b2,0,none⟩)),(5,.slice z i zc),(6,.pointer (some ⟨b6,0,none⟩)),(7,.int .i64 (i:Int))])
  (fun i z zc w'=>i<=R.length/\∃(va wa:Option Addr) (vc wc:Nat) (Q:List (cL Int)),OR x.n (CI x.n l (aJ R) i).1 (CI x.n l (aJ R) i).2/\Q.length=i/\(∀t,t<i->(Q.getD t default).ins=vm x.n l (aJ R) t)/\Hp w0 w' [rB b6 111 [.slice va (CI x.n l (aJ R) i).1.length vc,.slice wa (CI x.n l (aJ R) i).2.length wc],rO 3 1 eI va vc (CI x.n l (aJ R) i).1,rO 3 1 eI wa wc (CI x.n l (aJ R) i).2,rO 31 1 jl z zc Q,cD 3 1 eI Q,rB b2 41 x.cs]) (fun i z zc=>R.length-i) 0 (some ⟨b5,0,none⟩) 0 rfl ⟨by omega,?_⟩ ?_
 ·refine⟨va,wa,vc,wc,[],hws0,rfl,fun t ht=>absurd ht (Nat.not_lt_zero _),?_⟩
  exact((rC (α:=Int) (e:=3) (s:=1) (enc:=eI) hp).f5.f1.f5.f5.f5.f5)
 clear hp
 rintro i z zc w1 ⟨hi,va1,wa1,vc1,wc1,Q,y9,uF,hQ,hp⟩ IH C
 refine bL ?_
 apply ae<;>intro bD
 ·have aF:i<R.length:=by omega
  have Tz:=hl i aF
  have hX:=B6 hm hf OT y9.val (R.getD i default).ins
  have Jb:=No hm hf hX y9
  have lN:=(hI.get aF)
  have hRo:Rd w0 (R.getD i default).ia 1 eI (R.getD i default).ins:=lN
  refine aN ?_
  refine fR hp ?_;(repeat(refine gu ?_;first|refine fy ?_|refine jE rfl (by omega) rfl rfl rfl ?_))
  refine j8 Tryz.func65 (fun F w hp=> ?_)
  refine bN.mono (FP x hf he hS hW _ _ y9 va1 wa1 vc1 wc1 (R.getD i default).ins (R.getD i default).ia (R.getD i default).ic Tz _ hp.pre.mod hp.pre.rd hp.pre.rd (hRo.ext hp.x)) ?_
  rintro _ w ⟨na,nc,ma,mc,oa,oc,rfl,hq⟩
  have hp:=Hp.Sq hp hq
  refine⟨fun hq=>Bool.noConfusion (hq.symm.trans (by kernel_rfl:bH _ _=false)),_,hp,?_⟩
  clear hp hq
  refine cX ?_
  (first|refine oq ?_|refine iS rfl ?_);intro b8;refine cX ?_;refine eO rfl rfl rfl rfl (by kernel_rfl) ?_;refine cX ?_
  refine dc ?_;intro w hp C;refine bL ?_
  have eW:vm x.n l (aJ R) i=ue x.n 1 (B5 x.n l (CI x.n l (aJ R) i).1 (R.getD i default).ins) x.n.sg.length:=by rw[vm,bk]
  have eS:CI x.n l (aJ R) (i+1)=pz x.n (B5 x.n l (CI x.n l (aJ R) i).1 (R.getD i default).ins) (CI x.n l (aJ R) i).2 x.n.ms.length:=by rw[CI,bk]
  rw[<-eS] at hp
  have Jb:OR x.n (CI x.n l (aJ R) (i+1)).1 (CI x.n l (aJ R) (i+1)).2:=by rw[eS];exact Jb
  rw[<-eW] at hp⊢
  refine lX hp (jl (α:=Int)) [(⟨vm x.n l (aJ R) i,oa,oc⟩:cL Int)] ?_;intro w bl hx hp;refine az ?_
  refine C0 hp uF rfl rfl rfl rfl rfl rfl (by decide) rfl (by simp only[List.length_cons,List.length_nil];omega) rfl rfl ?_
  intro z2 c2 w hp bZ
  refine az ?_;(repeat(first|(refine ah ?_;refine aI hp ?_)|(refine aH ?_;refine aW hp ?_;intro w hp;refine az ?_)))
  have hp:=rD (y:=(⟨vm x.n l (aJ R) i,oa,oc⟩:cL Int)) ((hp.drop.drop.f4.drop.f4.drop).f6.f5.f3.f3.f5.f6.f6)
  refine IH (i+1) z2 c2 _ _ _ (by omega) (by rw[List.length_append,uF];rfl) ⟨by omega,na,ma,nc,mc,Q++[⟨vm x.n l (aJ R) i,oa,oc⟩],Jb,by rw[List.length_append,uF];rfl,fun t ht=> ?_,hp.f5.f1.f5.f5.f5.f5⟩
  by_cases J5:t=i
  ·subst J5
   rw[List.getD_eq_getElem?_getD,<-uF,List.getElem?_concat_length];rfl
  ·rw[du (by omega)]
   exact hQ t (by omega)
 ·refine aM ?_;refine aq ?_
  obtain rfl:i=R.length:=by omega
  exact⟨Q,z,zc,rfl,uF,hQ,(hp.f4.f4).tk 2⟩
end Go.Proofs
end
