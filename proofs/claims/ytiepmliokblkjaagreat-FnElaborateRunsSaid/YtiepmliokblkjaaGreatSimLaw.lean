/- Texts that belong together; each under its stated conditions. -/
import Derived.Test.YtiepmliokblkjaaGreatAddLaw
import Derived.Test.YtiepmliokblkjaaGreatMapLaw
set_option linter.all false
section
namespace Go.Xw
def oE (n:ao):Nat:=(1+n.aT).toNat
def HZ (n:ao)(k j:Nat):Prop:=(∃i,i<n.af.length/\k=bE n+i/\(j=kA n i\/j=kB n i))\/(∃i,i<n.au.length/\k=oE n+i/\∃l,l∈(n.au.getD i default).ins/\j=(l/2).toNat)
inductive Dm (n:ao):Nat->Prop where
 |out {o:Int} (h:o∈n.outs):Dm n (o/2).toNat
 |step {k j:Nat} (h:Dm n k) (hs:HZ n k j):Dm n j
noncomputable def VU (n:ao):List Bool:=vO (dF n) (Dm n)
theorem aj.oE {n:ao}(h:aj n):1<=oE n/\((oE n:Nat):Int)=1+n.aT/\bE n=oE n+n.au.length:=by
 have h1:=h.size.1.1
 have h2:aB n=1+n.aT+n.au.length:=rfl
 unfold Go.Xw.oE bE
 omega
theorem HZ.lt {n:ao}(h:aj n){k j:Nat}(hs:HZ n k j):j<dF n:=by
 have hn:=h.ei
 have h1:=hn.n1
 rcases hs with⟨i,hi,rfl,hj⟩|⟨i,hi,rfl,l,hl,rfl⟩
 ·have ka:=hn.ka i hi
  have kb:=hn.kb i hi
  omega
 ·exact(h.ck (aK hi) l hl).nat hn
theorem Dm.lt {n:ao}(h:aj n){k:Nat}(ho:Dm n k):k<dF n:=by
 cases ho with
 |out hm=>exact(h.out _ hm).nat h.ei
 |step _ hs=>exact hs.lt h
theorem Dm.closed {n:ao}{p:Nat->Prop}(ho:∀o,o∈n.outs->p (o/2).toNat)(hc:∀k j,p k->HZ n k j->p j){k:Nat}(h:Dm n k):p k:=by
 induction h with
 |out hm=>exact ho _ hm
 |step _ hs ih=>exact hc _ _ ih hs
theorem Dm.C6 {n:ao}{a b:Nat}(h:Dm n a)(hc:dM n a b):Dm n b:=by
 induction hc with
 |refl=>exact h
 |left hi _ ih=>exact ih (h.step (.inl ⟨_,hi,rfl,.inl rfl⟩))
 |right hi _ ih=>exact ih (h.step (.inl ⟨_,hi,rfl,.inr rfl⟩))
structure JI (n:ao)(B:List Bool)(T:List Int)(ex:Nat->Prop):Prop where
 len:B.length=dF n
 Z5:B.count false+T.length<=dF n
 sd:∀k,k<dF n->B.getD k default=true->Dm n k
 td:∀t,t∈T->∃k:Nat,t=k/\k<dF n/\B.getD k default=true
 cl:∀k,k<dF n->B.getD k default=true->(k:Int)∉T->¬ex k->∀j,HZ n k j->B.getD j default=true
theorem JI.done {n:ao}{B:List Bool}{T:List Int}{k:Nat}(h:JI n B T (fun j=>j=k))(hs:∀j,HZ n k j->B.getD j default=true):JI n B T fun _=>False:=
 ⟨h.len,h.Z5,h.sd,h.td,fun j hj hm hT _ i hi=>by
  by_cases he:j=k
  ·subst he;exact hs i hi
  ·exact h.cl j hj hm hT he i hi⟩
theorem JI.all {n:ao}(aS:aj n){B:List Bool}(h:JI n B [] fun _=>False)(ho:∀o,o∈n.outs->B.getD (o/2).toNat default=true):B=VU n:=
 mJ h.len fun k hk=>⟨h.sd k hk,fun IJ=>by
  have:=Dm.closed (n:=n) (p:=fun k=>k<dF n/\B.getD k default=true) (fun o hm=>⟨(aS.out o hm).nat aS.ei,ho o hm⟩) (fun k j ⟨h1,h2⟩ hs=>⟨hs.lt aS,h.cl k h1 h2 (by simp) (fun f=>f) j hs⟩) IJ
  exact this.2⟩
open Classical in
noncomputable def kD (p:Nat->Prop):Nat->Nat
 |0=>0
 |i+1=>kD p i+(if p i then 1 else 0)
theorem Dn (p:Nat->Prop):∀i,kD p i<=i
 |0=>Nat.le_refl _
 |i+1=>by have:=Dn p i;unfold kD;split<;>omega
theorem sT {p q:Nat->Prop}(h:∀i,p i->q i):∀m,kD p m<=kD q m
 |0=>Nat.le_refl _
 |i+1=>by
  have:=sT h i
  unfold kD
  have:=h i
  split<;>split<;>simp_all<;>omega
theorem Dp {p q:Nat->Prop}(h:∀i,p i->q i):∀m,kD q m<=kD p m->∀i,i<m->q i->p i
 |0,_,i,hi,_=>by omega
 |m+1,he,i,hi,hq=>by
  have h1:=sT h m
  unfold kD at he
  have h2:=h m
  by_cases HV:i=m
  ·subst HV
   rw[if_pos hq] at he
   by_cases hp:p i
   ·exact hp
   ·rw[if_neg hp] at he;omega
  ·refine Dp h m ?_ i (by omega) hq
   split at he<;>split at he<;>simp_all<;>omega
theorem vQ {p q:Nat->Prop}:∀m,(∀i,i<m->(p i↔q i))->kD p m=kD q m
 |0,_=>rfl
 |m+1,h=>by
  have h1:=vQ m fun i hi=>h i (by omega)
  have h2:=h m (by omega)
  show kD p m+_=kD q m+_
  rw[h1]
  by_cases hp:p m
  ·rw[if_pos hp,if_pos (h2.1 hp)]
  ·rw[if_neg hp,if_neg (fun hq=>hp (h2.2 hq))]
def CC (n:ao)(B:List Bool)(k:Nat):Prop:=∃j,j<dF n/\B.getD j default=true/\dM n j k
theorem CC.self {n:ao}{B:List Bool}{k:Nat}(hk:k<dF n)(h:B.getD k default=true):CC n B k:=⟨k,hk,h,.refl _⟩
theorem CC.C6 {n:ao}{B:List Bool}{k j:Nat}(h:CC n B k)(hc:dM n k j):CC n B j:=by
 obtain⟨i,h1,h2,h3⟩:=h
 exact⟨i,h1,h2,h3.trans hc⟩
def Ms (n:ao)(p:Nat->Prop):Prop:=∀i,i<n.au.length->p (oE n+i)->∀l,l∈(n.au.getD i default).ins->p (l/2).toNat
structure VV (n:ao)(B:List Bool)(r:Nat):Prop where
 len:B.length=dF n
 sd:∀k,k<dF n->B.getD k default=true->Dm n k
 out:∀o,o∈n.outs->B.getD (o/2).toNat default=true
 pr:Ms n (CC n B)\/r<=kD (fun i=>CC n B (oE n+i)) n.au.length
structure Pass (n:ao)(A M:List Bool)(i:Nat):Prop where
 len:M.length=dF n
 up:∀k,A.getD k default=true->M.getD k default=true
 sd:∀k,k<dF n->M.getD k default=true->Dm n k
 cl:Ms n (fun k=>A.getD k default=true)->∀k,M.getD k default=true->A.getD k default=true
 dn:∀j,j<i->A.getD (oE n+j) default=true->∀l,l∈(n.au.getD j default).ins->M.getD (l/2).toNat default=true
theorem Pass.start {n:ao}{A:List Bool}(hl:A.length=dF n)(hs:∀k,k<dF n->A.getD k default=true->Dm n k):Pass n A A 0:=⟨hl,fun _ h=>h,hs,fun _ _ h=>h,fun j hj=>by omega⟩
theorem Pass.set {n:ao}(aS:aj n){A M:List Bool}{i:Nat}(h:Pass n A M i)(hi:i<n.au.length)(hm:M.getD (oE n+i) default=true){l:Int}(hl:l∈(n.au.getD i default).ins):Pass n A (M.set (l/2).toNat true) i:=by
 have hf:=aS.oE
 have hn:=aS.ei
 have bD:oE n+i<dF n:=by have:=hn.n1;omega
 have rq:(l/2).toNat<dF n:=(aS.ck (aK hi) l hl).nat hn
 have hb:∀j,(M.set (l/2).toNat true).getD j default=true↔j=(l/2).toNat\/M.getD j default=true:=fun j=>qB (by rw[h.len];exact rq)
 refine⟨by rw[List.length_set];exact h.len,fun k hk=>(hb k).2 (.inr (h.up k hk)),fun k hk Fb=> ?_,fun hc k Fb=> ?_,fun j hj ha l2 sb=>(hb _).2 (.inr (h.dn j hj ha l2 sb))⟩
 ·rcases(hb k).1 Fb with rfl|h2
  ·exact(h.sd _ bD hm).step (.inr ⟨i,hi,rfl,l,hl,rfl⟩)
  ·exact h.sd k hk h2
 ·rcases(hb k).1 Fb with rfl|h2
  ·exact hc i hi (h.cl hc _ hm) l hl
  ·exact h.cl hc k h2
theorem Pass.next {n:ao}{A M:List Bool}{i:Nat}(h:Pass n A M i)(hd:A.getD (oE n+i) default=true->∀l,l∈(n.au.getD i default).ins->M.getD (l/2).toNat default=true):Pass n A M (i+1):=
 ⟨h.len,h.up,h.sd,h.cl,fun j hj ha=>by
  by_cases dC:j<i
  ·exact h.dn j dC ha
  ·obtain rfl:j=i:=by omega
   exact hd ha⟩
theorem VV.next {n:ao}(aS:aj n){B A M:List Bool}{r:Nat}(h:VV n B r)(hl:A.length=dF n)(hA:∀k,k<dF n->(A.getD k default=true↔CC n B k))(hp:Pass n A M n.au.length):VV n M (r+1):=by
 have hf:=aS.oE
 have hn:=aS.ei
 have bD:∀i,i<n.au.length->oE n+i<dF n:=fun i hi=>by have:=hn.n1;omega
 have jg:∀i,i<n.au.length->∀l,l∈(n.au.getD i default).ins->(l/2).toNat<dF n:=fun i hi l hl=>(aS.ck (aK hi) l hl).nat hn
 have hAM:∀k,k<dF n->A.getD k default=true->CC n M k:=fun k hk hm=> .self hk (hp.up k hm)
 refine⟨hp.len,hp.sd,fun o ho=>hp.up _ ((hA _ ((aS.out o ho).nat hn)).2 (.self ((aS.out o ho).nat hn) (h.out o ho))),?_⟩
 by_cases Dq:Ms n (fun k=>A.getD k default=true)
 ·left
  have hMA:=hp.cl Dq
  have key:∀k,k<dF n->CC n M k->A.getD k default=true:=fun k hk ⟨j,h1,h2,h3⟩=>(hA k hk).2 (((hA j h1).1 (hMA j h2)).C6 h3)
  intro i hi hm l hl
  exact hAM _ (jg i hi l hl) (Dq i hi (key _ (bD i hi) hm) l hl)
 ·have hr:r<=kD (fun i=>CC n B (oE n+i)) n.au.length:=by
   rcases h.pr with h1|h1
   ·exact absurd (fun i hi hm l hl=>(hA _ (jg i hi l hl)).2 (h1 i hi ((hA _ (bD i hi)).1 hm) l hl)) Dq
   ·exact h1
  have Oq:∀i,CC n B (oE n+i)->i<n.au.length->CC n M (oE n+i):=fun i hc hi=>hAM _ (bD i hi) ((hA _ (bD i hi)).2 hc)
  have h1:=sT (p:=fun i=>i<n.au.length/\CC n B (oE n+i)) (q:=fun i=>CC n M (oE n+i)) (fun i hh=>Oq i hh.2 hh.1) n.au.length
  have h2:kD (fun i=>CC n B (oE n+i)) n.au.length=kD (fun i=>i<n.au.length/\CC n B (oE n+i)) n.au.length:=vQ _ fun i hi=>⟨fun h=>⟨hi,h⟩,fun h=>h.2⟩
  by_cases hc:r+1<=kD (fun i=>CC n M (oE n+i)) n.au.length
  ·exact .inr hc
  ·left
   have h3:=Dp (p:=fun i=>i<n.au.length/\CC n B (oE n+i)) (q:=fun i=>CC n M (oE n+i)) (fun i hh=>Oq i hh.2 hh.1) n.au.length (by rw[<-h2];omega)
   intro i hi hm l hl
   have h4:=(h3 i hi hm).2
   exact .self (jg i hi l hl) (hp.dn i hi ((hA _ (bD i hi)).2 h4) l hl)
theorem VV.done {n:ao}(aS:aj n){B A:List Bool}(h:VV n B (n.au.length+1))(hl:A.length=dF n)(hA:∀k,k<dF n->(A.getD k default=true↔CC n B k)):A=VU n:=by
 have hn:=aS.ei
 have Dq:Ms n (CC n B):=by
  rcases h.pr with h1|h1
  ·exact h1
  ·have:=Dn (fun i=>CC n B (oE n+i)) n.au.length;omega
 refine mJ hl fun k hk=> ?_
 rw[hA k hk]
 constructor
 ·rintro⟨j,h1,h2,h3⟩
  exact(h.sd j h1 h2).C6 h3
 ·intro ho
  exact Dm.closed (n:=n) (p:=CC n B) (fun o hm=> .self ((aS.out o hm).nat hn) (h.out o hm)) (fun k j hc hs=>by
   rcases hs with⟨i,hi,rfl,hj⟩|⟨i,hi,rfl,l,hl,rfl⟩
   ·rcases hj with rfl|rfl
    ·exact hc.C6 (.left hi (.refl _))
    ·exact hc.C6 (.right hi (.refl _))
   ·exact Dq i hi hc l hl) ho
end Go.Xw
end
section
namespace Go.Xw
end Go.Xw
end
section
namespace Go.Xw
def pj (f:Int)(n:ao)(skip inst:Int)(S:List (Int×Int)×List Int):Nat->Option (List (Int×Int)×List Int)
 |0=>some S
 |i+1=>match pj f n skip inst S i with
  |none=>none
  |some T=>if(i:Int)=skip then some (T.1,T.2++[inst])
   else if(gD f T.1 (a8 T.2 (n.af.getD i default).1) (a8 T.2 (n.af.getD i default).2)).2<0 then none
   else some ((gD f T.1 (a8 T.2 (n.af.getD i default).1) (a8 T.2 (n.af.getD i default).2)).1,T.2++[(gD f T.1 (a8 T.2 (n.af.getD i default).1) (a8 T.2 (n.af.getD i default).2)).2])
theorem Av {f:Int}{n:ao}{skip inst:Int}{S T:List (Int×Int)×List Int}{i:Nat}(h:pj f n skip inst S i=some T)(hs:(i:Int)=skip):pj f n skip inst S (i+1)=some (T.1,T.2++[inst]):=by
 simp only[pj,h,if_pos hs]
theorem GG {f:Int}{n:ao}{skip inst:Int}{S T:List (Int×Int)×List Int}{i:Nat}(h:pj f n skip inst S i=some T)(hs:¬(i:Int)=skip)(hn:(gD f T.1 (a8 T.2 (n.af.getD i default).1) (a8 T.2 (n.af.getD i default).2)).2<0):pj f n skip inst S (i+1)=none:=by
 simp only[pj,h,if_neg hs,if_pos hn]
theorem x9 {f:Int}{n:ao}{skip inst:Int}{S T:List (Int×Int)×List Int}{i:Nat}(h:pj f n skip inst S i=some T)(hs:¬(i:Int)=skip)(hn:¬(gD f T.1 (a8 T.2 (n.af.getD i default).1) (a8 T.2 (n.af.getD i default).2)).2<0):
  pj f n skip inst S (i+1)=some ((gD f T.1 (a8 T.2 (n.af.getD i default).1) (a8 T.2 (n.af.getD i default).2)).1,T.2++[(gD f T.1 (a8 T.2 (n.af.getD i default).1) (a8 T.2 (n.af.getD i default).2)).2]):=by
 simp only[pj,h,if_neg hs,if_neg hn]
structure H0 (f:Int)(n:ao)(S:List (Int×Int)×List Int)(i:Nat):Prop where
 b:tS f S.1 S.2
 len:S.2.length=bE n+i
theorem H0.lits {f:Int}{n:ao}(h:aj n){T:List (Int×Int)×List Int}{i:Nat}(r:H0 f n T i)(hi:i<n.af.length):
  aD (a8 T.2 (n.af.getD i default).1) (f+T.1.length)/\aD (a8 T.2 (n.af.getD i default).2) (f+T.1.length):=by
 have f2:=h.ei.f2
 have hl:=r.len
 obtain⟨q1,q2⟩:=h.wk hi
 unfold aD at q1 q2
 exact⟨r.b.lit (by omega),r.b.lit (by omega)⟩
theorem GH {f:Int}{n:ao}(h:aj n){skip inst:Int}{S:List (Int×Int)×List Int}(h0:H0 f n S 0)(Aw:aD inst f):∀i,i<=n.af.length->∀T,pj f n skip inst S i=some T->H0 f n T i
 |0,_,T,hT=>by simp only[pj,Option.some.injEq] at hT;subst hT;exact h0
 |i+1,hi,T,hT=>by
  cases hp:pj f n skip inst S i with
  |none=>simp only[pj,hp] at hT;cases hT
  |some P=>
   have ih:=GH h h0 Aw i (by omega) P hp
   obtain⟨l1,l2⟩:=ih.lits h (by omega)
   have hl:=ih.len
   by_cases hs:(i:Int)=skip
   ·rw[Av hp hs] at hT
    injection hT with hT
    subst hT
    exact⟨ih.b.snoc (Aw.mono (by omega)),by simp;omega⟩
   ·by_cases hn:(gD f P.1 (a8 P.2 (n.af.getD i default).1) (a8 P.2 (n.af.getD i default).2)).2<0
    ·rw[GG hp hs hn] at hT;cases hT
    ·rw[x9 hp hs hn] at hT
     injection hT with hT
     subst hT
     exact⟨ih.b.step l1 l2 (by omega),by simp;omega⟩
end Go.Xw
end
section
namespace Go.Xw
open Go.Proofs
set_option maxHeartbeats 1000000
theorem jz {V:List Int}(h:dp V)(l:Int):a8 V l=if l%2=0 then V.getD (l/2).toNat default else 1-V.getD (l/2).toNat default:=by
 have hj:=h (l/2).toNat
 have hl:l%2=0\/l%2=1:=by omega
 unfold a8
 rw[dx,Jc hj (by omega)]
 unfold nr at hj
 rcases hl with e|e<;>rcases hj with g|g<;>rw[e,g]<;>decide
theorem ya {V:List Int}(h:dp V){a:Int}(h0:0<=a)(h1:a<=9223372036854775807):a8 V (cS a)=1-a8 V a:=by
 obtain⟨b1,b2,b3,b4⟩:=xO h0 h1
 have e:=pf h0 h1
 rw[jz h,jz h,b3]
 split at e
 ·rw[if_neg (by omega),if_pos (by assumption)]
 ·rw[if_pos (by omega),if_neg (by assumption)];omega
theorem qG {V T:List Int}{l:Int}(h:(l/2).toNat<V.length):a8 (V++T) l=a8 V l:=x7 (du h)
theorem mo {V V' to:List Int}{l:Int}(h:dp V)(h':dp V'){k:Int}(hk:k<=1000000)(ht:aD (to.getD (l/2).toNat default) k)(hv:a8 V' (to.getD (l/2).toNat default)=V.getD (l/2).toNat default):a8 V' (a8 to l)=a8 V l:=by
 unfold aD at ht
 rw[BI to ht.1 (by omega),jz h]
 split
 ·exact hv
 ·rw[ya h' ht.1 (by omega),hv]
theorem vR {V V' to:List Int}{ls:List Int}(hv:∀l,l∈ls->a8 V' (a8 to l)=a8 V l):∀k,k<=ls.length->e7 V' (dZ to ls) k=e7 V ls k
 |0,_=>rfl
 |k+1,h=>by
  rw[e7,e7,vR hv k (by omega),show(dZ to ls).getD k default=a8 to (ls.getD k default) from hH (by omega),hv _ (aK (by omega))]
theorem yb {V V' to:List Int}{ls:List Int}(hv:∀l,l∈ls->a8 V' (a8 to l)=a8 V l):ln V' (dZ to ls)=ln V ls:=by
 unfold ln
 rw[x6]
 exact vR hv _ (Nat.le_refl _)
def cu (U:List Int)(A:List (Int×Int)):List Int:=A.foldl (fun V x=>V++[bits .and .i64 (a8 V x.1) (a8 V x.2)]) U
theorem yc (U:List Int)(A B:List (Int×Int)):cu U (A++B)=cu (cu U A) B:=by unfold cu;rw[List.foldl_append]
theorem ru (U:List Int)(A:List (Int×Int))(x:Int×Int):cu U (A++[x])=cu U A++[bits .and .i64 (a8 (cu U A) x.1) (a8 (cu U A) x.2)]:=by rw[yc];rfl
theorem tV:∀(A:List (Int×Int)) (U:List Int),∃T,cu U A=U++T/\T.length=A.length
 |[],U=>⟨[],by simp[cu]⟩
 |x::A,U=>by
  obtain⟨T,h,hl⟩:=tV A (U++[bits .and .i64 (a8 U x.1) (a8 U x.2)])
  refine⟨bits .and .i64 (a8 U x.1) (a8 U x.2)::T,?_,by simp[hl]⟩
  show cu (U++[bits .and .i64 (a8 U x.1) (a8 U x.2)]) A=_
  rw[h,List.append_assoc]
  rfl
theorem oF (U:List Int)(A:List (Int×Int)):(cu U A).length=U.length+A.length:=by
 obtain⟨T,h,hl⟩:=tV A U
 rw[h,List.length_append,hl]
theorem dp.snoc {V:List Int}(h:dp V){z:Int}(hz:nr z):dp (V++[z]):=fun j=>by
 by_cases h1:j<V.length
 ·rw[dd h1];exact h j
 ·by_cases h2:j=V.length
  ·subst h2;rw[eh];exact hz
  ·rw[List.getD_eq_getElem?_getD,List.getElem?_eq_none (by simp;omega)];exact .inl rfl
theorem gn:∀(A:List (Int×Int)) {U:List Int},dp U->dp (cu U A)
 |[],_,h=>h
 |x::A,_,h=>gn A (h.snoc (Di (iV h _) (iV h _)))
theorem qH {U:List Int}{A:List (Int×Int)}{k:Nat}(h:k<U.length):(cu U A).getD k default=U.getD k default:=by
 obtain⟨T,h1,_⟩:=tV A U
 rw[h1,du h]
theorem jW {U:List Int}{A B:List (Int×Int)}{l:Int}(h:(l/2).toNat<U.length+A.length):a8 (cu U (A++B)) l=a8 (cu U A) l:=by
 obtain⟨T,h1,_⟩:=tV B (cu U A)
 rw[yc,h1,qG (by rw[oF];exact h)]
theorem Dr {α:Type}[Inhabited α]{A:List α}{i:Nat}(h:i<A.length):A=A.take i++[A.getD i default]++A.drop (i+1):=by
 rw[<-iT h,List.take_append_drop]
theorem BK {U:List Int}{A:List (Int×Int)}{f:Int}(hf:U.length=f.toNat)(h0:0<=f){i:Nat}(hi:i<A.length)(ok:aD (A.getD i default).1 (f+i)/\aD (A.getD i default).2 (f+i)):
  (cu U A).getD (f.toNat+i) default=bits .and .i64 (a8 (cu U A) (A.getD i default).1) (a8 (cu U A) (A.getD i default).2):=by
 obtain⟨o1,o2⟩:=ok
 unfold aD at o1 o2
 have hl:(A.take i).length=i:=by simp;omega
 have g1:(((A.getD i default).1)/2).toNat<U.length+(A.take i).length:=by omega
 have g2:(((A.getD i default).2)/2).toNat<U.length+(A.take i).length:=by omega
 have e:cu U A=cu U (A.take i++([A.getD i default]++A.drop (i+1))):=by rw[<-List.append_assoc,<-Dr hi]
 have e2:cu U A=cu (cu U (A.take i)++[bits .and .i64 (a8 (cu U (A.take i)) (A.getD i default).1) (a8 (cu U (A.take i)) (A.getD i default).2)]) (A.drop (i+1)):=by
  rw[<-ru,<-yc,<-Dr hi]
 rw[show a8 (cu U A) (A.getD i default).1=a8 (cu U (A.take i)) (A.getD i default).1 by rw[e,jW g1],show a8 (cu U A) (A.getD i default).2=a8 (cu U (A.take i)) (A.getD i default).2 by rw[e,jW g2],e2,qH (by simp[oF];omega),
  show f.toNat+i=(cu U (A.take i)).length by rw[oF];omega,eh]
theorem Fi {a b:Int}(ha:nr a)(hb:nr b):bits .and .i64 a b=bits .and .i64 b a:=by
 rw[sG ha hb,sG hb ha]
 split<;>split<;>first|rfl|omega
theorem Ds {U:List Int}{f:Int}{A:List (Int×Int)}{to:List Int}(hU:U.length=f.toNat)(h1:dp U)(hz:U.getD 0 default=0)(hB:tS f A to){a b:Int}(ha:aD a (f+A.length))(hb:aD b (f+A.length))(h0:0<=(gD f A a b).2):
  a8 (cu U (gD f A a b).1) (gD f A a b).2=bits .and .i64 (a8 (cu U A) a) (a8 (cu U A) b):=by
 have f1:=hB.f1
 have f2:=hB.cC
 have hV:=gn A h1
 have Ot:(cu U A).getD 0 default=0:=by rw[qH (by omega),hz]
 have l0:a8 (cu U A) 0=0:=by rw[jz hV];exact Ot
 have l1:a8 (cu U A) 1=1:=by rw[jz hV];show 1-(cu U A).getD 0 default=1;rw[Ot];rfl
 have va:=iV hV a
 have vb:=iV hV b
 have On:=ha
 have rN:=hb
 unfold aD at On rN
 unfold gD at h0⊢
 split at h0
 ·rename_i h
  rw[if_pos h]
  show a8 (cu U A) 0=_
  rw[l0,sG va vb]
  rcases h with h|h|h
  ·rw[h,l0];rfl
  ·rw[h,l0];simp
  ·rw[<-h,ya hV (by omega) (by omega)]
   split
   ·unfold nr at*;omega
   ·rfl
 ·rename_i h
  rw[if_neg h]
  split at h0
  ·rename_i h2
   rw[if_pos h2]
   show a8 (cu U A) b=_
   rw[sG va vb]
   rcases h2 with h2|h2
   ·rw[h2,l1];unfold nr at vb;split<;>omega
   ·rw[h2];unfold nr at vb;split<;>omega
  ·rename_i h2
   rw[if_neg h2]
   split at h0
   ·rename_i h3
    rw[if_pos h3]
    show a8 (cu U A) a=_
    rw[sG va vb,h3,l1]
    unfold nr at va;split<;>omega
   ·rename_i h3
    rw[if_neg h3]
    have wm:bits .and .i64 (a8 (cu U A) (min a b)) (a8 (cu U A) (max a b))=bits .and .i64 (a8 (cu U A) a) (a8 (cu U A) b):=by
     by_cases wh:a<=b
     ·rw[Int.min_eq_left wh,Int.max_eq_right wh]
     ·rw[Int.min_eq_right (by omega),Int.max_eq_left (by omega),Fi vb va]
    split at h0
    ·rename_i h4
     rw[if_pos h4]
     have e:A.getD (A.idxOf (min a b,max a b)) default=(min a b,max a b):=by
      rw[List.getD_eq_getElem?_getD,List.getElem?_eq_getElem h4,Option.getD_some,List.getElem_idxOf]
     have ij:=BK hU (by omega) h4 (hB.VR _ h4)
     rw[e] at ij
     show a8 (cu U A) (2*(f+(A.idxOf (min a b,max a b):Nat)))=_
     rw[jz hV,if_pos (by omega),show(2*(f+(A.idxOf (min a b,max a b):Nat))/2).toNat=f.toNat+A.idxOf (min a b,max a b) by omega,ij]
     exact wm
    ·rename_i h4
     rw[if_neg h4]
     split at h0
     ·exact absurd h0 (by dsimp only;omega)
     ·rename_i h5
      rw[if_neg h5]
      show a8 (cu U (A++[(min a b,max a b)])) (2*(f+(A.length:Int)))=_
      rw[jz (gn _ h1),if_pos (by omega),ru,show(2*(f+(A.length:Int))/2).toNat=(cu U A).length by rw[oF];omega,eh]
      exact wm
theorem Dt {f:Int}{A:List (Int×Int)}{a b:Int}:∃B,(gD f A a b).1=A++B:=by
 rcases sS f A a b with h|⟨h,_⟩
 ·exact⟨[],by rw[h];simp⟩
 ·exact⟨_,h⟩
def ko (n:ao)(st:List Int)(ck:Int):List Int:=([0]++(List.range n.aT.toNat).map (BE ck))++st.map (fun z=>bits .and .i64 z 1)
theorem rv {n:ao}(h:aj n){st:List Int}(hs:st.length=n.au.length)(ck:Int):(ko n st ck).length=bE n:=by
 have:=h.oE
 have h1:=h.size.1.1
 unfold ko
 simp
 unfold oE at this
 omega
theorem GI (n:ao)(st:List Int)(ck:Int):(ko n st ck).getD 0 default=0:=rfl
theorem JJ {n:ao}{st:List Int}{ck:Int}{k:Nat}(hk:k<n.aT.toNat):(ko n st ck).getD (1+k) default=BE ck k:=by
 unfold ko
 rw[du (by simp;omega),show 1+k=([0]:List Int).length+k from rfl,kM,ov hk]
theorem Ax {n:ao}(h:aj n){st:List Int}{ck:Int}{i:Nat}(hi:i<st.length):(ko n st ck).getD (oE n+i) default=bits .and .i64 (st.getD i default) 1:=by
 have h2:=h.oE
 unfold ko
 rw[show oE n+i=(([0]:List Int)++(List.range n.aT.toNat).map (BE ck)).length+i by simp;unfold oE at*;omega,kM,hH hi]
theorem dp.nil:dp []:=fun j=>by simp only[List.getD_eq_getElem?_getD];exact .inl rfl
theorem dp.app {V W:List Int}(h:dp V)(g:dp W):dp (V++W):=fun j=>by
 by_cases h1:j<V.length
 ·rw[du h1];exact h j
 ·obtain⟨i,rfl⟩:∃i,j=V.length+i:=⟨j-V.length,by omega⟩
  rw[kM];exact g i
theorem yd {V:List Int}(h:∀i,i<V.length->nr (V.getD i default)):dp V:=fun j=>by
 by_cases h1:j<V.length
 ·exact h j h1
 ·rw[List.getD_eq_getElem?_getD,List.getElem?_eq_none (by omega)];exact .inl rfl
theorem ye (n:ao)(st:List Int)(ck:Int):dp (ko n st ck):=by
 refine dp.app (dp.app ?_ ?_) ?_
 ·exact yd fun i hi=>by simp at hi;subst hi;exact .inl rfl
 ·exact yd fun i hi=>by simp at hi;rw[ov (by omega)];exact tQ _
 ·exact yd fun i hi=>by rw[List.length_map] at hi;rw[hH hi];exact tQ _
theorem GJ {n:ao}(ck:Int):∀k,1+k<=dF n->zH n ck k=([0]++(List.range k).map (BE ck))++List.replicate (dF n-1-k) 0
 |0,h=>by
  show List.replicate (dF n) (0:Int)=[0]++[]++List.replicate (dF n-1-0) 0
  rw[show dF n=(dF n-1-0)+1 by omega]
  rfl
 |k+1,h=>by
  rw[zH,GJ ck k (by omega),show dF n-1-k=(dF n-1-(k+1))+1 by omega,show 1+k=(([0]:List Int)++(List.range k).map (BE ck)).length by simp;omega,tR,List.range_succ,List.map_append]
  simp
theorem GK {n:ao}(h:aj n){st:List Int}(hs:st.length=n.au.length)(ck:Int):∀k,k<=st.length->zI n st ck k=(([0]++(List.range n.aT.toNat).map (BE ck))++(st.take k).map (fun z=>bits .and .i64 z 1))++List.replicate (dF n-1-n.aT.toNat-k) 0
 |0,_=>by
  have h1:=h.oE
  have h2:=h.ei.n1
  unfold oE at h1
  rw[zI,GJ ck _ (by omega)]
  simp
 |k+1,hk=>by
  have h1:=h.oE
  have h2:=h.ei.n1
  unfold oE at h1
  have e:1+n.aT.toNat+k=(([0]++(List.range n.aT.toNat).map (BE ck))++(st.take k).map (fun z=>bits .and .i64 z 1)).length:=by simp;omega
  rw[zI,GK h hs ck k (by omega),show dF n-1-n.aT.toNat-k=(dF n-1-n.aT.toNat-(k+1))+1 by omega,e,tR,iT (show k<st.length by omega),List.map_append]
  simp
theorem JK {n:ao}(h:aj n){st:List Int}(hs:st.length=n.au.length)(ck:Int):∀i,i<=n.af.length->GA n st ck i=cu (ko n st ck) (n.af.take i)++List.replicate (n.af.length-i) 0
 |0,_=>by
  have h1:=h.oE
  have h2:=h.ei.n1
  unfold oE at h1
  rw[GA,GK h hs ck _ (Nat.le_refl _),List.take_length]
  show ko n st ck++_=ko n st ck++_
  congr 2
  omega
 |i+1,hi=>by
  have hl:=rv h hs ck
  have e:bE n+i=(cu (ko n st ck) (n.af.take i)).length:=by rw[oF,hl];simp;omega
  rw[GA,JK h hs ck i (by omega),oD,oD,show n.af.length-i=(n.af.length-(i+1))+1 by omega,e,tR,iT (show i<n.af.length by omega),ru]
theorem tW {n:ao}(h:aj n){st:List Int}(hs:st.length=n.au.length)(ck:Int):gC n st ck=cu (ko n st ck) n.af:=by
 rw[gC,JK h hs ck _ (Nat.le_refl _),List.take_length,Nat.sub_self]
 simp
theorem Mt {n m:ao}{ins:List Int}(R:List Int->List Int->Prop)(h0:R (fW n) (fW m))(hR:∀st RF ck,R st RF->Fg m RF ck=Fg n st ck/\R (mP n st ck) (mP m RF ck)):pZ m ins=pZ n ins:=by
 have jr:∀k,R (BH n ins k) (BH m ins k):=fun k=>by
  induction k with
  |zero=>exact h0
  |succ k ih=>exact(hR _ _ _ ih).2
 have:∀k,pP m ins k=pP n ins k:=fun k=>by
  induction k with
  |zero=>rfl
  |succ k ih=>rw[pP,pP,ih,(hR _ _ _ (jr k)).1]
 exact this _
theorem Mu {n:ao}{A:List (Int×Int)}{to:List Int}{st:List Int}{ck:Int}(hv:∀x,x∈bc n->a8 (gC (jI n A to) st ck) (a8 to x)=a8 (gC n st ck) x):
  Fg (jI n A to) st ck=Fg n st ck/\mP (jI n A to) st ck=mP n st ck:=by
 rw[jU] at hv
 refine⟨yb fun l hl=>hv l (List.mem_append_left _ hl),?_⟩
 have hl:(jI n A to).au.length=n.au.length:=by simp[jI]
 unfold mP
 rw[hl]
 refine lZ (by rw[fJ,fJ]) fun i hi=> ?_
 rw[fJ] at hi
 rw[mQ _ _ _ hi,mQ _ _ _ hi]
 unfold uZ
 rw[show(jI n A to).au.getD i default=_ from hH (f:=fun s:fS=>(⟨s.kind,s.init,dZ to s.ins⟩:fS)) hi]
 rw[show ln (gC (jI n A to) st ck) (dZ to (n.au.getD i default).ins)=ln (gC n st ck) (n.au.getD i default).ins from yb fun l hl=>hv l (List.mem_append_right _ (List.mem_flatMap.2 ⟨_,aK hi,hl⟩))]
theorem H2 {n:ao}{A:List (Int×Int)}{to:List Int}:fW (jI n A to)=fW n:=by
 unfold fW jI
 rw[List.map_map]
 rfl
theorem GL {n:ao}(h:aj n){A:List (Int×Int)}{to:List Int}{ins:List Int}(hv:∀st ck,st.length=n.au.length->∀x,x∈bc n->a8 (gC (jI n A to) st ck) (a8 to x)=a8 (gC n st ck) x):
  pZ (jI n A to) ins=pZ n ins:=by
 refine Mt (fun st RF=>RF=st/\st.length=n.au.length) ⟨H2,(Ar h).1⟩ ?_
 rintro st RF ck ⟨rfl,hl⟩
 have:=Mu (hv RF ck hl)
 exact⟨this.1,this.2,fJ _ _ _ _⟩
theorem Du {n:ao}{A:List (Int×Int)}{to:List Int}(h:aj (jI n A to)){st:List Int}(hs:st.length=n.au.length)(ck:Int):gC (jI n A to) st ck=cu (ko n st ck) A:=by
 rw[tW h (by simp[jI];exact hs)]
 rfl
theorem Dv {f:Int}{n:ao}{skip inst:Int}{S:List (Int×Int)×List Int}(aS:aj n){U U':List Int}(hU:U.length=bE n)(Dw:dp U)(hU':U'.length=f.toNat)(Mv:dp U')(hz:U'.getD 0 default=0)
  (h0:H0 f n S 0) (Aw:aD inst f) (hs:∀k,k<bE n->a8 (cu U' S.1) (S.2.getD k default)=U.getD k default)
  (Ou:∀i:Nat,i<n.af.length->(i:Int)=skip->a8 U' inst=(cu U n.af).getD (bE n+i) default):
  ∀i,i<=n.af.length->∀T,pj f n skip inst S i=some T->∀k,k<bE n+i->a8 (cu U' T.1) (T.2.getD k default)=(cu U n.af).getD k default
 |0,_,T,hT=>by
  simp only[pj,Option.some.injEq] at hT
  subst hT
  exact fun k hk=>by rw[hs k (by omega),qH (by omega)]
 |i+1,hi,T,hT=>by
  cases hp:pj f n skip inst S i with
  |none=>simp only[pj,hp] at hT;cases hT
  |some P=>
   have ih:=Dv aS hU Dw hU' Mv hz h0 Aw hs Ou i (by omega) P hp
   have r:=GH aS h0 Aw i (by omega) P hp
   have rl:=r.len
   obtain⟨l1,l2⟩:=r.lits aS (show i<n.af.length by omega)
   have f1:=r.b.f1
   have f2:=r.b.cC
   have g2:=aS.ei.f2
   have RG:=Aw
   unfold aD at RG
   by_cases W8:(i:Int)=skip
   ·rw[Av hp W8] at hT
    injection hT with hT
    subst hT
    refine fun k hk=> ?_
    by_cases p6:k<P.2.length
    ·dsimp only
     rw[dd p6];exact ih k (by omega)
    ·obtain rfl:k=P.2.length:=by omega
     dsimp only
     rw[eh]
     have e:a8 (cu U' ([]++P.1)) inst=a8 (cu U' []) inst:=jW (by simp;omega)
     rw[List.nil_append] at e
     rw[e,rl]
     exact Ou i (by omega) W8
   ·by_cases hn:(gD f P.1 (a8 P.2 (n.af.getD i default).1) (a8 P.2 (n.af.getD i default).2)).2<0
    ·rw[GG hp W8 hn] at hT;cases hT
    ·rw[x9 hp W8 hn] at hT
     injection hT with hT
     subst hT
     obtain⟨B2,hB2⟩:=Dt (f:=f) (A:=P.1) (a:=a8 P.2 (n.af.getD i default).1) (b:=a8 P.2 (n.af.getD i default).2)
     refine fun k hk=> ?_
     by_cases p6:k<P.2.length
     ·dsimp only
      have ht:=r.b.tok k p6
      unfold aD at ht
      rw[dd p6,hB2,jW (U:=U') (A:=P.1) (B:=B2) (l:=P.2.getD k default) (by omega)]
      exact ih k (by omega)
     ·obtain rfl:k=P.2.length:=by omega
      dsimp only
      obtain⟨q1,q2⟩:=aS.wk (show i<n.af.length by omega)
      have q1':=q1
      have q2':=q2
      unfold aD at q1' q2'
      have c1:=mo (V:=cu U n.af) (V':=cu U' P.1) (to:=P.2) (l:=(n.af.getD i default).1) (gn _ Dw) (gn _ Mv) (k:=f+P.1.length) (by omega) (r.b.tok _ (by omega)) (ih _ (by omega))
      have c2:=mo (V:=cu U n.af) (V':=cu U' P.1) (to:=P.2) (l:=(n.af.getD i default).2) (gn _ Dw) (gn _ Mv) (k:=f+P.1.length) (by omega) (r.b.tok _ (by omega)) (ih _ (by omega))
      have ij:=BK (U:=U) (A:=n.af) (f:=aB n) (by omega) (by omega) (i:=i) (by omega) ⟨q1,q2⟩
      rw[eh,Ds hU' Mv hz r.b l1 l2 (by omega),c1,c2,rl,<-ij]
      congr 1
theorem Ov {n:ao}(h:aj n):∀i,i<=n.af.length->pj (aB n) n (-1) 0 ([],iH n) i=some (cP n i)
 |0,_=>rfl
 |i+1,hi=>by
  have ih:=Ov h i (by omega)
  have hB:=ph h i (by omega)
  have hl:=lp n i
  have hs:=h.size
  unfold fT at hs
  obtain⟨l1,l2⟩:=kO h (by omega) hB
  rw[x9 ih (by omega) (by rcases hB.addLit l1 l2 with h1|⟨_,h1⟩;(have:=h1.1;omega);omega)]
  rfl
theorem Mw {n:ao}(h:aj n):H0 (aB n) n ([],iH n) 0:=⟨tS.leaf h,by simp[kN]⟩
theorem Ay {n:ao}{U:List Int}(Dw:dp U){k:Nat}(hk:k<bE n):a8 U ((iH n).getD k default)=U.getD k default:=by
 rw[mn hk,jz Dw,if_pos (by omega),show(2*(k:Int)/2).toNat=k by omega]
theorem RH {n:ao}(h:aj n){U:List Int}(hU:U.length=bE n)(Dw:dp U)(hz:U.getD 0 default=0){i:Nat}(hi:i<=n.af.length):∀k,k<bE n+i->a8 (cu U (cP n i).1) ((cP n i).2.getD k default)=(cu U n.af).getD k default:=by
 have hf:=h.ei.f2
 have hc:=h.count
 exact Dv h hU Dw (by omega) Dw hz (Mw h) (by unfold aD;omega) (fun k hk=>Ay Dw hk) (fun i _ h=>by omega) i hi _ (Ov h i hi)
theorem H3 {n:ao}(h:aj n){V V' to:List Int}(h1:dp V)(h2:dp V'){k:Int}(hk:k<=1000000)(hv:∀i,i<dF n->aD (to.getD i default) k/\a8 V' (to.getD i default)=V.getD i default):
  ∀x,x∈bc n->a8 V' (a8 to x)=a8 V x:=fun x hx=>by
 have:=(h.root x hx).nat h.ei
 exact mo h1 h2 hk (hv _ this).1 (hv _ this).2
theorem JL {n:ao}(h:aj n)(ins:List Int):pZ (Mr n) ins=pZ n ins:=by
 refine GL h fun st ck hs=> ?_
 have hB:=ph h _ (Nat.le_refl _)
 have hl:=lp n n.af.length
 have hn:=h.ei.n1
 have f1:=hB.f1
 have f2:=hB.cC
 refine H3 h (oC _ _ _) (oC _ _ _) (k:=aB n+(cP n n.af.length).1.length) (by omega) fun i hi=>⟨hB.tok i (by omega),?_⟩
 rw[Du (rn h) hs,tW h hs]
 exact RH h (rv h hs ck) (ye _ _ _) (GI _ _ _) (Nat.le_refl _) i (by omega)
theorem JM {n:ao}(h:aj n){K:List Bool}(hK:∀i,i<n.af.length->K.getD (bE n+i) default=true->(kA n i<bE n\/K.getD (kA n i) default=true)/\(kB n i<bE n\/K.getD (kB n i) default=true)){U:List Int}(hU:U.length=bE n)(Dw:dp U):
  ∀i,i<=n.af.length->∀k,k<bE n+i->(k<bE n\/K.getD k default=true)->a8 (cu U (a9 n K i).1) ((a9 n K i).2.getD k default)=(cu U n.af).getD k default
 |0,_,k,hk,_=>by
  show a8 U ((iH n).getD k default)=_
  rw[Ay Dw (by omega),qH (by omega)]
 |i+1,hi,k,hk,II=>by
  have ih:=JM h hK hU Dw i (by omega)
  have hB:=nF h K i (by omega)
  have hl:=km n K i
  have f1:=hB.f1
  have f2:=hB.cC
  have g2:=h.ei.f2
  by_cases Mx:K.getD (bE n+i) default=true
  ·have e:a9 n K (i+1)=((a9 n K i).1++[(a8 (a9 n K i).2 (n.af.getD i default).1,a8 (a9 n K i).2 (n.af.getD i default).2)],(a9 n K i).2++[2*(aB n+(a9 n K i).1.length)]):=by rw[a9,if_pos Mx]
   rw[e]
   by_cases p6:k<(a9 n K i).2.length
   ·dsimp only
    have ht:=hB.tok k p6
    unfold aD at ht
    rw[dd p6,jW (U:=U) (A:=(a9 n K i).1) (l:=(a9 n K i).2.getD k default) (by omega)]
    exact ih k (by omega) II
   ·obtain rfl:k=(a9 n K i).2.length:=by omega
    dsimp only
    obtain⟨q1,q2⟩:=h.wk (show i<n.af.length by omega)
    have q1':=q1
    have q2':=q2
    unfold aD at q1' q2'
    obtain⟨k1,k2⟩:=hK i (by omega) Mx
    have c1:=mo (V:=cu U n.af) (V':=cu U (a9 n K i).1) (to:=(a9 n K i).2) (l:=(n.af.getD i default).1) (gn _ Dw) (gn _ Dw) (k:=aB n+(a9 n K i).1.length) (by omega) (hB.tok _ (by omega)) (ih _ (by omega) k1)
    have c2:=mo (V:=cu U n.af) (V':=cu U (a9 n K i).1) (to:=(a9 n K i).2) (l:=(n.af.getD i default).2) (gn _ Dw) (gn _ Dw) (k:=aB n+(a9 n K i).1.length) (by omega) (hB.tok _ (by omega)) (ih _ (by omega) k2)
    have ij:=BK (U:=U) (A:=n.af) (f:=aB n) (by omega) (by omega) (i:=i) (by omega) ⟨q1,q2⟩
    rw[eh,jz (gn _ Dw),if_pos (by omega),ru,show(2*(aB n+((a9 n K i).1.length:Int))/2).toNat=(cu U (a9 n K i).1).length by rw[oF];omega,eh]
    show bits .and .i64 (a8 (cu U (a9 n K i).1) (a8 (a9 n K i).2 (n.af.getD i default).1)) (a8 (cu U (a9 n K i).1) (a8 (a9 n K i).2 (n.af.getD i default).2))=_
    rw[c1,c2,<-ij,hl.2]
    congr 1
  ·have e:a9 n K (i+1)=((a9 n K i).1,(a9 n K i).2++[0]):=by rw[a9,if_neg Mx]
   rw[e]
   by_cases p6:k<(a9 n K i).2.length
   ·dsimp only
    rw[dd p6]
    exact ih k (by omega) II
   ·obtain rfl:k=bE n+i:=by omega
    exact absurd II (fun h=>h.elim (by omega) Mx)
end Go.Xw
end
