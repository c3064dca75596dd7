/- Texts that belong together; each under its stated conditions. -/
import Derived.Test.YtiepmliokblkjaaGreatAddLaw
import Derived.Test.YtiepmliokblkjaaGreatMapLaw
set_option linter.all false
section
namespace Go.Xw
def oE (n:ao):Nat:=(1+n.aT).toNat
def HY (n:ao)(k j:Nat):Prop:=(∃i,i<n.af.length/\k=bE n+i/\(j=kA n i\/j=kB n i))\/(∃i,i<n.au.length/\k=oE n+i/\∃l,l∈(n.au.getD i default).ins/\j=(l/2).toNat)
inductive Dk (n:ao):Nat->Prop where
 |out {o:Int} (h:o∈n.outs):Dk n (o/2).toNat
 |step {k j:Nat} (h:Dk n k) (hs:HY n k j):Dk n j
noncomputable def VP (n:ao):List Bool:=vN (dE n) (Dk n)
theorem aj.oE {n:ao}(h:aj n):1<=oE n/\((oE n:Nat):Int)=1+n.aT/\bE n=oE n+n.au.length:=by
 have h1:=h.size.1.1
 have h2:aB n=1+n.aT+n.au.length:=rfl
 unfold Go.Xw.oE bE
 omega
theorem HY.lt {n:ao}(h:aj n){k j:Nat}(hs:HY n k j):j<dE n:=by
 have hn:=h.ei
 have h1:=hn.n1
 rcases hs with⟨i,hi,rfl,hj⟩|⟨i,hi,rfl,l,hl,rfl⟩
 ·have ka:=hn.ka i hi
  have kb:=hn.kb i hi
  omega
 ·exact(h.ck (aK hi) l hl).nat hn
theorem Dk.lt {n:ao}(h:aj n){k:Nat}(ho:Dk n k):k<dE n:=by
 cases ho with
 |out hm=>exact(h.out _ hm).nat h.ei
 |step _ hs=>exact hs.lt h
theorem Dk.closed {n:ao}{p:Nat->Prop}(ho:∀o,o∈n.outs->p (o/2).toNat)(hc:∀k j,p k->HY n k j->p j){k:Nat}(h:Dk n k):p k:=by
 induction h with
 |out hm=>exact ho _ hm
 |step _ hs ih=>exact hc _ _ ih hs
theorem Dk.C4 {n:ao}{a b:Nat}(h:Dk n a)(hc:dL n a b):Dk n b:=by
 induction hc with
 |refl=>exact h
 |left hi _ ih=>exact ih (h.step (.inl ⟨_,hi,rfl,.inl rfl⟩))
 |right hi _ ih=>exact ih (h.step (.inl ⟨_,hi,rfl,.inr rfl⟩))
structure JH (n:ao)(B:List Bool)(T:List Int)(ex:Nat->Prop):Prop where
 len:B.length=dE n
 Z2:B.count false+T.length<=dE n
 sd:∀k,k<dE n->B.getD k default=true->Dk n k
 td:∀t,t∈T->∃k:Nat,t=k/\k<dE n/\B.getD k default=true
 cl:∀k,k<dE n->B.getD k default=true->(k:Int)∉T->¬ex k->∀j,HY n k j->B.getD j default=true
theorem JH.done {n:ao}{B:List Bool}{T:List Int}{k:Nat}(h:JH n B T (fun j=>j=k))(hs:∀j,HY n k j->B.getD j default=true):JH n B T fun _=>False:=
 ⟨h.len,h.Z2,h.sd,h.td,fun j hj hm hT _ i hi=>by
  by_cases he:j=k
  ·subst he;exact hs i hi
  ·exact h.cl j hj hm hT he i hi⟩
theorem JH.all {n:ao}(aS:aj n){B:List Bool}(h:JH n B [] fun _=>False)(ho:∀o,o∈n.outs->B.getD (o/2).toNat default=true):B=VP n:=
 mJ h.len fun k hk=>⟨h.sd k hk,fun II=>by
  have:=Dk.closed (n:=n) (p:=fun k=>k<dE n/\B.getD k default=true) (fun o hm=>⟨(aS.out o hm).nat aS.ei,ho o hm⟩) (fun k j ⟨h1,h2⟩ hs=>⟨hs.lt aS,h.cl k h1 h2 (by simp) (fun f=>f) j hs⟩) II
  exact this.2⟩
open Classical in
noncomputable def kE (p:Nat->Prop):Nat->Nat
 |0=>0
 |i+1=>kE p i+(if p i then 1 else 0)
theorem Dl (p:Nat->Prop):∀i,kE p i<=i
 |0=>Nat.le_refl _
 |i+1=>by have:=Dl p i;unfold kE;split<;>omega
theorem sT {p q:Nat->Prop}(h:∀i,p i->q i):∀m,kE p m<=kE q m
 |0=>Nat.le_refl _
 |i+1=>by
  have:=sT h i
  unfold kE
  have:=h i
  split<;>split<;>simp_all<;>omega
theorem Dm {p q:Nat->Prop}(h:∀i,p i->q i):∀m,kE q m<=kE p m->∀i,i<m->q i->p i
 |0,_,i,hi,_=>by omega
 |m+1,he,i,hi,hq=>by
  have h1:=sT h m
  unfold kE at he
  have h2:=h m
  by_cases HU:i=m
  ·subst HU
   rw[if_pos hq] at he
   by_cases hp:p i
   ·exact hp
   ·rw[if_neg hp] at he;omega
  ·refine Dm h m ?_ i (by omega) hq
   split at he<;>split at he<;>simp_all<;>omega
theorem vP {p q:Nat->Prop}:∀m,(∀i,i<m->(p i↔q i))->kE p m=kE q m
 |0,_=>rfl
 |m+1,h=>by
  have h1:=vP m fun i hi=>h i (by omega)
  have h2:=h m (by omega)
  show kE p m+_=kE q m+_
  rw[h1]
  by_cases hp:p m
  ·rw[if_pos hp,if_pos (h2.1 hp)]
  ·rw[if_neg hp,if_neg (fun hq=>hp (h2.2 hq))]
def CC (n:ao)(B:List Bool)(k:Nat):Prop:=∃j,j<dE n/\B.getD j default=true/\dL n j k
theorem CC.self {n:ao}{B:List Bool}{k:Nat}(hk:k<dE n)(h:B.getD k default=true):CC n B k:=⟨k,hk,h,.refl _⟩
theorem CC.C4 {n:ao}{B:List Bool}{k j:Nat}(h:CC n B k)(hc:dL n k j):CC n B j:=by
 obtain⟨i,h1,h2,h3⟩:=h
 exact⟨i,h1,h2,h3.trans hc⟩
def Mr (n:ao)(p:Nat->Prop):Prop:=∀i,i<n.au.length->p (oE n+i)->∀l,l∈(n.au.getD i default).ins->p (l/2).toNat
structure VQ (n:ao)(B:List Bool)(r:Nat):Prop where
 len:B.length=dE n
 sd:∀k,k<dE n->B.getD k default=true->Dk n k
 out:∀o,o∈n.outs->B.getD (o/2).toNat default=true
 pr:Mr n (CC n B)\/r<=kE (fun i=>CC n B (oE n+i)) n.au.length
structure Pass (n:ao)(A M:List Bool)(i:Nat):Prop where
 len:M.length=dE n
 up:∀k,A.getD k default=true->M.getD k default=true
 sd:∀k,k<dE n->M.getD k default=true->Dk n k
 cl:Mr n (fun k=>A.getD k default=true)->∀k,M.getD k default=true->A.getD k default=true
 dn:∀j,j<i->A.getD (oE n+j) default=true->∀l,l∈(n.au.getD j default).ins->M.getD (l/2).toNat default=true
theorem Pass.start {n:ao}{A:List Bool}(hl:A.length=dE n)(hs:∀k,k<dE n->A.getD k default=true->Dk n k):Pass n A A 0:=⟨hl,fun _ h=>h,hs,fun _ _ h=>h,fun j hj=>by omega⟩
theorem Pass.set {n:ao}(aS:aj n){A M:List Bool}{i:Nat}(h:Pass n A M i)(hi:i<n.au.length)(hm:M.getD (oE n+i) default=true){l:Int}(hl:l∈(n.au.getD i default).ins):Pass n A (M.set (l/2).toNat true) i:=by
 have hf:=aS.oE
 have hn:=aS.ei
 have bD:oE n+i<dE n:=by have:=hn.n1;omega
 have rn:(l/2).toNat<dE n:=(aS.ck (aK hi) l hl).nat hn
 have hb:∀j,(M.set (l/2).toNat true).getD j default=true↔j=(l/2).toNat\/M.getD j default=true:=fun j=>qz (by rw[h.len];exact rn)
 refine⟨by rw[List.length_set];exact h.len,fun k hk=>(hb k).2 (.inr (h.up k hk)),fun k hk Fa=> ?_,fun hc k Fa=> ?_,fun j hj ha l2 r7=>(hb _).2 (.inr (h.dn j hj ha l2 r7))⟩
 ·rcases(hb k).1 Fa with rfl|h2
  ·exact(h.sd _ bD hm).step (.inr ⟨i,hi,rfl,l,hl,rfl⟩)
  ·exact h.sd k hk h2
 ·rcases(hb k).1 Fa with rfl|h2
  ·exact hc i hi (h.cl hc _ hm) l hl
  ·exact h.cl hc k h2
theorem Pass.next {n:ao}{A M:List Bool}{i:Nat}(h:Pass n A M i)(hd:A.getD (oE n+i) default=true->∀l,l∈(n.au.getD i default).ins->M.getD (l/2).toNat default=true):Pass n A M (i+1):=
 ⟨h.len,h.up,h.sd,h.cl,fun j hj ha=>by
  by_cases dA:j<i
  ·exact h.dn j dA ha
  ·obtain rfl:j=i:=by omega
   exact hd ha⟩
theorem VQ.next {n:ao}(aS:aj n){B A M:List Bool}{r:Nat}(h:VQ n B r)(hl:A.length=dE n)(hA:∀k,k<dE n->(A.getD k default=true↔CC n B k))(hp:Pass n A M n.au.length):VQ n M (r+1):=by
 have hf:=aS.oE
 have hn:=aS.ei
 have bD:∀i,i<n.au.length->oE n+i<dE n:=fun i hi=>by have:=hn.n1;omega
 have je:∀i,i<n.au.length->∀l,l∈(n.au.getD i default).ins->(l/2).toNat<dE n:=fun i hi l hl=>(aS.ck (aK hi) l hl).nat hn
 have hAM:∀k,k<dE n->A.getD k default=true->CC n M k:=fun k hk hm=> .self hk (hp.up k hm)
 refine⟨hp.len,hp.sd,fun o ho=>hp.up _ ((hA _ ((aS.out o ho).nat hn)).2 (.self ((aS.out o ho).nat hn) (h.out o ho))),?_⟩
 by_cases Dn:Mr n (fun k=>A.getD k default=true)
 ·left
  have hMA:=hp.cl Dn
  have key:∀k,k<dE n->CC n M k->A.getD k default=true:=fun k hk ⟨j,h1,h2,h3⟩=>(hA k hk).2 (((hA j h1).1 (hMA j h2)).C4 h3)
  intro i hi hm l hl
  exact hAM _ (je i hi l hl) (Dn i hi (key _ (bD i hi) hm) l hl)
 ·have hr:r<=kE (fun i=>CC n B (oE n+i)) n.au.length:=by
   rcases h.pr with h1|h1
   ·exact absurd (fun i hi hm l hl=>(hA _ (je i hi l hl)).2 (h1 i hi ((hA _ (bD i hi)).1 hm) l hl)) Dn
   ·exact h1
  have Oo:∀i,CC n B (oE n+i)->i<n.au.length->CC n M (oE n+i):=fun i hc hi=>hAM _ (bD i hi) ((hA _ (bD i hi)).2 hc)
  have h1:=sT (p:=fun i=>i<n.au.length/\CC n B (oE n+i)) (q:=fun i=>CC n M (oE n+i)) (fun i hh=>Oo i hh.2 hh.1) n.au.length
  have h2:kE (fun i=>CC n B (oE n+i)) n.au.length=kE (fun i=>i<n.au.length/\CC n B (oE n+i)) n.au.length:=vP _ fun i hi=>⟨fun h=>⟨hi,h⟩,fun h=>h.2⟩
  by_cases hc:r+1<=kE (fun i=>CC n M (oE n+i)) n.au.length
  ·exact .inr hc
  ·left
   have h3:=Dm (p:=fun i=>i<n.au.length/\CC n B (oE n+i)) (q:=fun i=>CC n M (oE n+i)) (fun i hh=>Oo i hh.2 hh.1) n.au.length (by rw[<-h2];omega)
   intro i hi hm l hl
   have h4:=(h3 i hi hm).2
   exact .self (je i hi l hl) (hp.dn i hi ((hA _ (bD i hi)).2 h4) l hl)
theorem VQ.done {n:ao}(aS:aj n){B A:List Bool}(h:VQ n B (n.au.length+1))(hl:A.length=dE n)(hA:∀k,k<dE n->(A.getD k default=true↔CC n B k)):A=VP n:=by
 have hn:=aS.ei
 have Dn:Mr n (CC n B):=by
  rcases h.pr with h1|h1
  ·exact h1
  ·have:=Dl (fun i=>CC n B (oE n+i)) n.au.length;omega
 refine mJ hl fun k hk=> ?_
 rw[hA k hk]
 constructor
 ·rintro⟨j,h1,h2,h3⟩
  exact(h.sd j h1 h2).C4 h3
 ·intro ho
  exact Dk.closed (n:=n) (p:=CC n B) (fun o hm=> .self ((aS.out o hm).nat hn) (h.out o hm)) (fun k j hc hs=>by
   rcases hs with⟨i,hi,rfl,hj⟩|⟨i,hi,rfl,l,hl,rfl⟩
   ·rcases hj with rfl|rfl
    ·exact hc.C4 (.left hi (.refl _))
    ·exact hc.C4 (.right hi (.refl _))
   ·exact Dn i hi hc l hl) ho
end Go.Xw
end
section
namespace Go.Xw
end Go.Xw
end
section
namespace Go.Xw
def pn (f:Int)(n:ao)(skip inst:Int)(S:List (Int×Int)×List Int):Nat->Option (List (Int×Int)×List Int)
 |0=>some S
 |i+1=>match pn f n skip inst S i with
  |none=>none
  |some T=>if(i:Int)=skip then some (T.1,T.2++[inst])
   else if(gD f T.1 (a8 T.2 (n.af.getD i default).1) (a8 T.2 (n.af.getD i default).2)).2<0 then none
   else some ((gD f T.1 (a8 T.2 (n.af.getD i default).1) (a8 T.2 (n.af.getD i default).2)).1,T.2++[(gD f T.1 (a8 T.2 (n.af.getD i default).1) (a8 T.2 (n.af.getD i default).2)).2])
theorem Ar {f:Int}{n:ao}{skip inst:Int}{S T:List (Int×Int)×List Int}{i:Nat}(h:pn f n skip inst S i=some T)(hs:(i:Int)=skip):pn f n skip inst S (i+1)=some (T.1,T.2++[inst]):=by
 simp only[pn,h,if_pos hs]
theorem GF {f:Int}{n:ao}{skip inst:Int}{S T:List (Int×Int)×List Int}{i:Nat}(h:pn f n skip inst S i=some T)(hs:¬(i:Int)=skip)(hn:(gD f T.1 (a8 T.2 (n.af.getD i default).1) (a8 T.2 (n.af.getD i default).2)).2<0):pn f n skip inst S (i+1)=none:=by
 simp only[pn,h,if_neg hs,if_pos hn]
theorem x7 {f:Int}{n:ao}{skip inst:Int}{S T:List (Int×Int)×List Int}{i:Nat}(h:pn f n skip inst S i=some T)(hs:¬(i:Int)=skip)(hn:¬(gD f T.1 (a8 T.2 (n.af.getD i default).1) (a8 T.2 (n.af.getD i default).2)).2<0):
  pn f n skip inst S (i+1)=some ((gD f T.1 (a8 T.2 (n.af.getD i default).1) (a8 T.2 (n.af.getD i default).2)).1,T.2++[(gD f T.1 (a8 T.2 (n.af.getD i default).1) (a8 T.2 (n.af.getD i default).2)).2]):=by
 simp only[pn,h,if_neg hs,if_neg hn]
structure HZ (f:Int)(n:ao)(S:List (Int×Int)×List Int)(i:Nat):Prop where
 b:tT f S.1 S.2
 len:S.2.length=bE n+i
theorem HZ.lits {f:Int}{n:ao}(h:aj n){T:List (Int×Int)×List Int}{i:Nat}(r:HZ f n T i)(hi:i<n.af.length):
  aD (a8 T.2 (n.af.getD i default).1) (f+T.1.length)/\aD (a8 T.2 (n.af.getD i default).2) (f+T.1.length):=by
 have f2:=h.ei.f2
 have hl:=r.len
 obtain⟨q1,q2⟩:=h.wh hi
 unfold aD at q1 q2
 exact⟨r.b.lit (by omega),r.b.lit (by omega)⟩
theorem GG {f:Int}{n:ao}(h:aj n){skip inst:Int}{S:List (Int×Int)×List Int}(h0:HZ f n S 0)(As:aD inst f):∀i,i<=n.af.length->∀T,pn f n skip inst S i=some T->HZ f n T i
 |0,_,T,hT=>by simp only[pn,Option.some.injEq] at hT;subst hT;exact h0
 |i+1,hi,T,hT=>by
  cases hp:pn f n skip inst S i with
  |none=>simp only[pn,hp] at hT;cases hT
  |some P=>
   have ih:=GG h h0 As i (by omega) P hp
   obtain⟨l1,l2⟩:=ih.lits h (by omega)
   have hl:=ih.len
   by_cases hs:(i:Int)=skip
   ·rw[Ar hp hs] at hT
    injection hT with hT
    subst hT
    exact⟨ih.b.snoc (As.mono (by omega)),by simp;omega⟩
   ·by_cases hn:(gD f P.1 (a8 P.2 (n.af.getD i default).1) (a8 P.2 (n.af.getD i default).2)).2<0
    ·rw[GF hp hs hn] at hT;cases hT
    ·rw[x7 hp hs hn] at hT
     injection hT with hT
     subst hT
     exact⟨ih.b.step l1 l2 (by omega),by simp;omega⟩
end Go.Xw
end
section
namespace Go.Xw
open Go.Proofs
set_option maxHeartbeats 1000000
theorem jz {V:List Int}(h:dp V)(l:Int):a8 V l=if l%2=0 then V.getD (l/2).toNat default else 1-V.getD (l/2).toNat default:=by
 have hj:=h (l/2).toNat
 have hl:l%2=0\/l%2=1:=by omega
 unfold a8
 rw[dx,Jb hj (by omega)]
 unfold nr at hj
 rcases hl with e|e<;>rcases hj with g|g<;>rw[e,g]<;>decide
theorem x8 {V:List Int}(h:dp V){a:Int}(h0:0<=a)(h1:a<=9223372036854775807):a8 V (cS a)=1-a8 V a:=by
 obtain⟨b1,b2,b3,b4⟩:=xM h0 h1
 have e:=pg h0 h1
 rw[jz h,jz h,b3]
 split at e
 ·rw[if_neg (by omega),if_pos (by assumption)]
 ·rw[if_pos (by omega),if_neg (by assumption)];omega
theorem qF {V T:List Int}{l:Int}(h:(l/2).toNat<V.length):a8 (V++T) l=a8 V l:=xZ (du h)
theorem mn {V V' to:List Int}{l:Int}(h:dp V)(h':dp V'){k:Int}(hk:k<=1000000)(ht:aD (to.getD (l/2).toNat default) k)(hv:a8 V' (to.getD (l/2).toNat default)=V.getD (l/2).toNat default):a8 V' (a8 to l)=a8 V l:=by
 unfold aD at ht
 rw[BD to ht.1 (by omega),jz h]
 split
 ·exact hv
 ·rw[x8 h' ht.1 (by omega),hv]
theorem vQ {V V' to:List Int}{ls:List Int}(hv:∀l,l∈ls->a8 V' (a8 to l)=a8 V l):∀k,k<=ls.length->e7 V' (dZ to ls) k=e7 V ls k
 |0,_=>rfl
 |k+1,h=>by
  rw[e7,e7,vQ hv k (by omega),show(dZ to ls).getD k default=a8 to (ls.getD k default) from hH (by omega),hv _ (aK (by omega))]
theorem x9 {V V' to:List Int}{ls:List Int}(hv:∀l,l∈ls->a8 V' (a8 to l)=a8 V l):lp V' (dZ to ls)=lp V ls:=by
 unfold lp
 rw[xY]
 exact vQ hv _ (Nat.le_refl _)
def cu (U:List Int)(A:List (Int×Int)):List Int:=A.foldl (fun V x=>V++[bits .and .i64 (a8 V x.1) (a8 V x.2)]) U
theorem ya (U:List Int)(A B:List (Int×Int)):cu U (A++B)=cu (cu U A) B:=by unfold cu;rw[List.foldl_append]
theorem rp (U:List Int)(A:List (Int×Int))(x:Int×Int):cu U (A++[x])=cu U A++[bits .and .i64 (a8 (cu U A) x.1) (a8 (cu U A) x.2)]:=by rw[ya];rfl
theorem tW:∀(A:List (Int×Int)) (U:List Int),∃T,cu U A=U++T/\T.length=A.length
 |[],U=>⟨[],by simp[cu]⟩
 |x::A,U=>by
  obtain⟨T,h,hl⟩:=tW A (U++[bits .and .i64 (a8 U x.1) (a8 U x.2)])
  refine⟨bits .and .i64 (a8 U x.1) (a8 U x.2)::T,?_,by simp[hl]⟩
  show cu (U++[bits .and .i64 (a8 U x.1) (a8 U x.2)]) A=_
  rw[h,List.append_assoc]
  rfl
theorem oF (U:List Int)(A:List (Int×Int)):(cu U A).length=U.length+A.length:=by
 obtain⟨T,h,hl⟩:=tW A U
 rw[h,List.length_append,hl]
theorem dp.snoc {V:List Int}(h:dp V){z:Int}(hz:nr z):dp (V++[z]):=fun j=>by
 by_cases h1:j<V.length
 ·rw[dd h1];exact h j
 ·by_cases h2:j=V.length
  ·subst h2;rw[eh];exact hz
  ·rw[List.getD_eq_getElem?_getD,List.getElem?_eq_none (by simp;omega)];exact .inl rfl
theorem gn:∀(A:List (Int×Int)) {U:List Int},dp U->dp (cu U A)
 |[],_,h=>h
 |x::A,_,h=>gn A (h.snoc (Dg (iT h _) (iT h _)))
theorem qG {U:List Int}{A:List (Int×Int)}{k:Nat}(h:k<U.length):(cu U A).getD k default=U.getD k default:=by
 obtain⟨T,h1,_⟩:=tW A U
 rw[h1,du h]
theorem jX {U:List Int}{A B:List (Int×Int)}{l:Int}(h:(l/2).toNat<U.length+A.length):a8 (cu U (A++B)) l=a8 (cu U A) l:=by
 obtain⟨T,h1,_⟩:=tW B (cu U A)
 rw[ya,h1,qF (by rw[oF];exact h)]
theorem Dp {α:Type}[Inhabited α]{A:List α}{i:Nat}(h:i<A.length):A=A.take i++[A.getD i default]++A.drop (i+1):=by
 rw[<-iR h,List.take_append_drop]
theorem BF {U:List Int}{A:List (Int×Int)}{f:Int}(hf:U.length=f.toNat)(h0:0<=f){i:Nat}(hi:i<A.length)(ok:aD (A.getD i default).1 (f+i)/\aD (A.getD i default).2 (f+i)):
  (cu U A).getD (f.toNat+i) default=bits .and .i64 (a8 (cu U A) (A.getD i default).1) (a8 (cu U A) (A.getD i default).2):=by
 obtain⟨o1,o2⟩:=ok
 unfold aD at o1 o2
 have hl:(A.take i).length=i:=by simp;omega
 have g1:(((A.getD i default).1)/2).toNat<U.length+(A.take i).length:=by omega
 have g2:(((A.getD i default).2)/2).toNat<U.length+(A.take i).length:=by omega
 have e:cu U A=cu U (A.take i++([A.getD i default]++A.drop (i+1))):=by rw[<-List.append_assoc,<-Dp hi]
 have e2:cu U A=cu (cu U (A.take i)++[bits .and .i64 (a8 (cu U (A.take i)) (A.getD i default).1) (a8 (cu U (A.take i)) (A.getD i default).2)]) (A.drop (i+1)):=by
  rw[<-rp,<-ya,<-Dp hi]
 rw[show a8 (cu U A) (A.getD i default).1=a8 (cu U (A.take i)) (A.getD i default).1 by rw[e,jX g1],show a8 (cu U A) (A.getD i default).2=a8 (cu U (A.take i)) (A.getD i default).2 by rw[e,jX g2],e2,qG (by simp[oF];omega),
  show f.toNat+i=(cu U (A.take i)).length by rw[oF];omega,eh]
theorem Fh {a b:Int}(ha:nr a)(hb:nr b):bits .and .i64 a b=bits .and .i64 b a:=by
 rw[sF ha hb,sF hb ha]
 split<;>split<;>first|rfl|omega
theorem Dq {U:List Int}{f:Int}{A:List (Int×Int)}{to:List Int}(hU:U.length=f.toNat)(h1:dp U)(hz:U.getD 0 default=0)(hB:tT f A to){a b:Int}(ha:aD a (f+A.length))(hb:aD b (f+A.length))(h0:0<=(gD f A a b).2):
  a8 (cu U (gD f A a b).1) (gD f A a b).2=bits .and .i64 (a8 (cu U A) a) (a8 (cu U A) b):=by
 have f1:=hB.f1
 have f2:=hB.cy
 have hV:=gn A h1
 have Oq:(cu U A).getD 0 default=0:=by rw[qG (by omega),hz]
 have l0:a8 (cu U A) 0=0:=by rw[jz hV];exact Oq
 have l1:a8 (cu U A) 1=1:=by rw[jz hV];show 1-(cu U A).getD 0 default=1;rw[Oq];rfl
 have va:=iT hV a
 have vb:=iT hV b
 have Om:=ha
 have sy:=hb
 unfold aD at Om sy
 unfold gD at h0⊢
 split at h0
 ·rename_i h
  rw[if_pos h]
  show a8 (cu U A) 0=_
  rw[l0,sF va vb]
  rcases h with h|h|h
  ·rw[h,l0];rfl
  ·rw[h,l0];simp
  ·rw[<-h,x8 hV (by omega) (by omega)]
   split
   ·unfold nr at*;omega
   ·rfl
 ·rename_i h
  rw[if_neg h]
  split at h0
  ·rename_i h2
   rw[if_pos h2]
   show a8 (cu U A) b=_
   rw[sF va vb]
   rcases h2 with h2|h2
   ·rw[h2,l1];unfold nr at vb;split<;>omega
   ·rw[h2];unfold nr at vb;split<;>omega
  ·rename_i h2
   rw[if_neg h2]
   split at h0
   ·rename_i h3
    rw[if_pos h3]
    show a8 (cu U A) a=_
    rw[sF va vb,h3,l1]
    unfold nr at va;split<;>omega
   ·rename_i h3
    rw[if_neg h3]
    have wj:bits .and .i64 (a8 (cu U A) (min a b)) (a8 (cu U A) (max a b))=bits .and .i64 (a8 (cu U A) a) (a8 (cu U A) b):=by
     by_cases we:a<=b
     ·rw[Int.min_eq_left we,Int.max_eq_right we]
     ·rw[Int.min_eq_right (by omega),Int.max_eq_left (by omega),Fh vb va]
    split at h0
    ·rename_i h4
     rw[if_pos h4]
     have e:A.getD (A.idxOf (min a b,max a b)) default=(min a b,max a b):=by
      rw[List.getD_eq_getElem?_getD,List.getElem?_eq_getElem h4,Option.getD_some,List.getElem_idxOf]
     have ij:=BF hU (by omega) h4 (hB.VN _ h4)
     rw[e] at ij
     show a8 (cu U A) (2*(f+(A.idxOf (min a b,max a b):Nat)))=_
     rw[jz hV,if_pos (by omega),show(2*(f+(A.idxOf (min a b,max a b):Nat))/2).toNat=f.toNat+A.idxOf (min a b,max a b) by omega,ij]
     exact wj
    ·rename_i h4
     rw[if_neg h4]
     split at h0
     ·exact absurd h0 (by dsimp only;omega)
     ·rename_i h5
      rw[if_neg h5]
      show a8 (cu U (A++[(min a b,max a b)])) (2*(f+(A.length:Int)))=_
      rw[jz (gn _ h1),if_pos (by omega),rp,show(2*(f+(A.length:Int))/2).toNat=(cu U A).length by rw[oF];omega,eh]
      exact wj
theorem Dr {f:Int}{A:List (Int×Int)}{a b:Int}:∃B,(gD f A a b).1=A++B:=by
 rcases sS f A a b with h|⟨h,_⟩
 ·exact⟨[],by rw[h];simp⟩
 ·exact⟨_,h⟩
def kp (n:ao)(st:List Int)(ck:Int):List Int:=([0]++(List.range n.aT.toNat).map (Bz ck))++st.map (fun z=>bits .and .i64 z 1)
theorem rq {n:ao}(h:aj n){st:List Int}(hs:st.length=n.au.length)(ck:Int):(kp n st ck).length=bE n:=by
 have:=h.oE
 have h1:=h.size.1.1
 unfold kp
 simp
 unfold oE at this
 omega
theorem GH (n:ao)(st:List Int)(ck:Int):(kp n st ck).getD 0 default=0:=rfl
theorem JI {n:ao}{st:List Int}{ck:Int}{k:Nat}(hk:k<n.aT.toNat):(kp n st ck).getD (1+k) default=Bz ck k:=by
 unfold kp
 rw[du (by simp;omega),show 1+k=([0]:List Int).length+k from rfl,kN,ov hk]
theorem At {n:ao}(h:aj n){st:List Int}{ck:Int}{i:Nat}(hi:i<st.length):(kp n st ck).getD (oE n+i) default=bits .and .i64 (st.getD i default) 1:=by
 have h2:=h.oE
 unfold kp
 rw[show oE n+i=(([0]:List Int)++(List.range n.aT.toNat).map (Bz ck)).length+i by simp;unfold oE at*;omega,kN,hH hi]
theorem dp.nil:dp []:=fun j=>by simp only[List.getD_eq_getElem?_getD];exact .inl rfl
theorem dp.app {V W:List Int}(h:dp V)(g:dp W):dp (V++W):=fun j=>by
 by_cases h1:j<V.length
 ·rw[du h1];exact h j
 ·obtain⟨i,rfl⟩:∃i,j=V.length+i:=⟨j-V.length,by omega⟩
  rw[kN];exact g i
theorem yb {V:List Int}(h:∀i,i<V.length->nr (V.getD i default)):dp V:=fun j=>by
 by_cases h1:j<V.length
 ·exact h j h1
 ·rw[List.getD_eq_getElem?_getD,List.getElem?_eq_none (by omega)];exact .inl rfl
theorem yc (n:ao)(st:List Int)(ck:Int):dp (kp n st ck):=by
 refine dp.app (dp.app ?_ ?_) ?_
 ·exact yb fun i hi=>by simp at hi;subst hi;exact .inl rfl
 ·exact yb fun i hi=>by simp at hi;rw[ov (by omega)];exact tR _
 ·exact yb fun i hi=>by rw[List.length_map] at hi;rw[hH hi];exact tR _
theorem GI {n:ao}(ck:Int):∀k,1+k<=dE n->zE n ck k=([0]++(List.range k).map (Bz ck))++List.replicate (dE n-1-k) 0
 |0,h=>by
  show List.replicate (dE n) (0:Int)=[0]++[]++List.replicate (dE n-1-0) 0
  rw[show dE n=(dE n-1-0)+1 by omega]
  rfl
 |k+1,h=>by
  rw[zE,GI ck k (by omega),show dE n-1-k=(dE n-1-(k+1))+1 by omega,show 1+k=(([0]:List Int)++(List.range k).map (Bz ck)).length by simp;omega,tS,List.range_succ,List.map_append]
  simp
theorem GJ {n:ao}(h:aj n){st:List Int}(hs:st.length=n.au.length)(ck:Int):∀k,k<=st.length->zF n st ck k=(([0]++(List.range n.aT.toNat).map (Bz ck))++(st.take k).map (fun z=>bits .and .i64 z 1))++List.replicate (dE n-1-n.aT.toNat-k) 0
 |0,_=>by
  have h1:=h.oE
  have h2:=h.ei.n1
  unfold oE at h1
  rw[zF,GI ck _ (by omega)]
  simp
 |k+1,hk=>by
  have h1:=h.oE
  have h2:=h.ei.n1
  unfold oE at h1
  have e:1+n.aT.toNat+k=(([0]++(List.range n.aT.toNat).map (Bz ck))++(st.take k).map (fun z=>bits .and .i64 z 1)).length:=by simp;omega
  rw[zF,GJ h hs ck k (by omega),show dE n-1-n.aT.toNat-k=(dE n-1-n.aT.toNat-(k+1))+1 by omega,e,tS,iR (show k<st.length by omega),List.map_append]
  simp
theorem JJ {n:ao}(h:aj n){st:List Int}(hs:st.length=n.au.length)(ck:Int):∀i,i<=n.af.length->Gz n st ck i=cu (kp n st ck) (n.af.take i)++List.replicate (n.af.length-i) 0
 |0,_=>by
  have h1:=h.oE
  have h2:=h.ei.n1
  unfold oE at h1
  rw[Gz,GJ h hs ck _ (Nat.le_refl _),List.take_length]
  show kp n st ck++_=kp n st ck++_
  congr 2
  omega
 |i+1,hi=>by
  have hl:=rq h hs ck
  have e:bE n+i=(cu (kp n st ck) (n.af.take i)).length:=by rw[oF,hl];simp;omega
  rw[Gz,JJ h hs ck i (by omega),oD,oD,show n.af.length-i=(n.af.length-(i+1))+1 by omega,e,tS,iR (show i<n.af.length by omega),rp]
theorem tX {n:ao}(h:aj n){st:List Int}(hs:st.length=n.au.length)(ck:Int):gC n st ck=cu (kp n st ck) n.af:=by
 rw[gC,JJ h hs ck _ (Nat.le_refl _),List.take_length,Nat.sub_self]
 simp
theorem Ms {n m:ao}{ins:List Int}(R:List Int->List Int->Prop)(h0:R (fU n) (fU m))(hR:∀st RC ck,R st RC->Ff m RC ck=Ff n st ck/\R (mP n st ck) (mP m RC ck)):pZ m ins=pZ n ins:=by
 have jq:∀k,R (BC n ins k) (BC m ins k):=fun k=>by
  induction k with
  |zero=>exact h0
  |succ k ih=>exact(hR _ _ _ ih).2
 have:∀k,pP m ins k=pP n ins k:=fun k=>by
  induction k with
  |zero=>rfl
  |succ k ih=>rw[pP,pP,ih,(hR _ _ _ (jq k)).1]
 exact this _
theorem Mt {n:ao}{A:List (Int×Int)}{to:List Int}{st:List Int}{ck:Int}(hv:∀x,x∈bc n->a8 (gC (jI n A to) st ck) (a8 to x)=a8 (gC n st ck) x):
  Ff (jI n A to) st ck=Ff n st ck/\mP (jI n A to) st ck=mP n st ck:=by
 rw[jV] at hv
 refine⟨x9 fun l hl=>hv l (List.mem_append_left _ hl),?_⟩
 have hl:(jI n A to).au.length=n.au.length:=by simp[jI]
 unfold mP
 rw[hl]
 refine lY (by rw[fJ,fJ]) fun i hi=> ?_
 rw[fJ] at hi
 rw[mQ _ _ _ hi,mQ _ _ _ hi]
 unfold uW
 rw[show(jI n A to).au.getD i default=_ from hH (f:=fun s:fR=>(⟨s.kind,s.init,dZ to s.ins⟩:fR)) hi]
 rw[show lp (gC (jI n A to) st ck) (dZ to (n.au.getD i default).ins)=lp (gC n st ck) (n.au.getD i default).ins from x9 fun l hl=>hv l (List.mem_append_right _ (List.mem_flatMap.2 ⟨_,aK hi,hl⟩))]
theorem H0 {n:ao}{A:List (Int×Int)}{to:List Int}:fU (jI n A to)=fU n:=by
 unfold fU jI
 rw[List.map_map]
 rfl
theorem GK {n:ao}(h:aj n){A:List (Int×Int)}{to:List Int}{ins:List Int}(hv:∀st ck,st.length=n.au.length->∀x,x∈bc n->a8 (gC (jI n A to) st ck) (a8 to x)=a8 (gC n st ck) x):
  pZ (jI n A to) ins=pZ n ins:=by
 refine Ms (fun st RC=>RC=st/\st.length=n.au.length) ⟨H0,(An h).1⟩ ?_
 rintro st RC ck ⟨rfl,hl⟩
 have:=Mt (hv RC ck hl)
 exact⟨this.1,this.2,fJ _ _ _ _⟩
theorem Ds {n:ao}{A:List (Int×Int)}{to:List Int}(h:aj (jI n A to)){st:List Int}(hs:st.length=n.au.length)(ck:Int):gC (jI n A to) st ck=cu (kp n st ck) A:=by
 rw[tX h (by simp[jI];exact hs)]
 rfl
theorem Dt {f:Int}{n:ao}{skip inst:Int}{S:List (Int×Int)×List Int}(aS:aj n){U U':List Int}(hU:U.length=bE n)(Du:dp U)(hU':U'.length=f.toNat)(Mu:dp U')(hz:U'.getD 0 default=0)
  (h0:HZ f n S 0) (As:aD inst f) (hs:∀k,k<bE n->a8 (cu U' S.1) (S.2.getD k default)=U.getD k default)
  (Ot:∀i:Nat,i<n.af.length->(i:Int)=skip->a8 U' inst=(cu U n.af).getD (bE n+i) default):
  ∀i,i<=n.af.length->∀T,pn f n skip inst S i=some T->∀k,k<bE n+i->a8 (cu U' T.1) (T.2.getD k default)=(cu U n.af).getD k default
 |0,_,T,hT=>by
  simp only[pn,Option.some.injEq] at hT
  subst hT
  exact fun k hk=>by rw[hs k (by omega),qG (by omega)]
 |i+1,hi,T,hT=>by
  cases hp:pn f n skip inst S i with
  |none=>simp only[pn,hp] at hT;cases hT
  |some P=>
   have ih:=Dt aS hU Du hU' Mu hz h0 As hs Ot i (by omega) P hp
   have r:=GG aS h0 As i (by omega) P hp
   have rl:=r.len
   obtain⟨l1,l2⟩:=r.lits aS (show i<n.af.length by omega)
   have f1:=r.b.f1
   have f2:=r.b.cy
   have g2:=aS.ei.f2
   have RD:=As
   unfold aD at RD
   by_cases W5:(i:Int)=skip
   ·rw[Ar hp W5] at hT
    injection hT with hT
    subst hT
    refine fun k hk=> ?_
    by_cases p6:k<P.2.length
    ·dsimp only
     rw[dd p6];exact ih k (by omega)
    ·obtain rfl:k=P.2.length:=by omega
     dsimp only
     rw[eh]
     have e:a8 (cu U' ([]++P.1)) inst=a8 (cu U' []) inst:=jX (by simp;omega)
     rw[List.nil_append] at e
     rw[e,rl]
     exact Ot i (by omega) W5
   ·by_cases hn:(gD f P.1 (a8 P.2 (n.af.getD i default).1) (a8 P.2 (n.af.getD i default).2)).2<0
    ·rw[GF hp W5 hn] at hT;cases hT
    ·rw[x7 hp W5 hn] at hT
     injection hT with hT
     subst hT
     obtain⟨B2,hB2⟩:=Dr (f:=f) (A:=P.1) (a:=a8 P.2 (n.af.getD i default).1) (b:=a8 P.2 (n.af.getD i default).2)
     refine fun k hk=> ?_
     by_cases p6:k<P.2.length
     ·dsimp only
      have ht:=r.b.tok k p6
      unfold aD at ht
      rw[dd p6,hB2,jX (U:=U') (A:=P.1) (B:=B2) (l:=P.2.getD k default) (by omega)]
      exact ih k (by omega)
     ·obtain rfl:k=P.2.length:=by omega
      dsimp only
      obtain⟨q1,q2⟩:=aS.wh (show i<n.af.length by omega)
      have Z7:=q1
      have Z8:=q2
      unfold aD at Z7 Z8
      have c1:=mn (V:=cu U n.af) (V':=cu U' P.1) (to:=P.2) (l:=(n.af.getD i default).1) (gn _ Du) (gn _ Mu) (k:=f+P.1.length) (by omega) (r.b.tok _ (by omega)) (ih _ (by omega))
      have c2:=mn (V:=cu U n.af) (V':=cu U' P.1) (to:=P.2) (l:=(n.af.getD i default).2) (gn _ Du) (gn _ Mu) (k:=f+P.1.length) (by omega) (r.b.tok _ (by omega)) (ih _ (by omega))
      have ij:=BF (U:=U) (A:=n.af) (f:=aB n) (by omega) (by omega) (i:=i) (by omega) ⟨q1,q2⟩
      rw[eh,Dq hU' Mu hz r.b l1 l2 (by omega),c1,c2,rl,<-ij]
      congr 1
theorem Ou {n:ao}(h:aj n):∀i,i<=n.af.length->pn (aB n) n (-1) 0 ([],iF n) i=some (cP n i)
 |0,_=>rfl
 |i+1,hi=>by
  have ih:=Ou h i (by omega)
  have hB:=pj h i (by omega)
  have hl:=lr n i
  have hs:=h.size
  unfold fS at hs
  obtain⟨l1,l2⟩:=kP h (by omega) hB
  rw[x7 ih (by omega) (by rcases hB.addLit l1 l2 with h1|⟨_,h1⟩;(have:=h1.1;omega);omega)]
  rfl
theorem Mv {n:ao}(h:aj n):HZ (aB n) n ([],iF n) 0:=⟨tT.leaf h,by simp[kO]⟩
theorem Au {n:ao}{U:List Int}(Du:dp U){k:Nat}(hk:k<bE n):a8 U ((iF n).getD k default)=U.getD k default:=by
 rw[mm hk,jz Du,if_pos (by omega),show(2*(k:Int)/2).toNat=k by omega]
theorem RE {n:ao}(h:aj n){U:List Int}(hU:U.length=bE n)(Du:dp U)(hz:U.getD 0 default=0){i:Nat}(hi:i<=n.af.length):∀k,k<bE n+i->a8 (cu U (cP n i).1) ((cP n i).2.getD k default)=(cu U n.af).getD k default:=by
 have hf:=h.ei.f2
 have hc:=h.count
 exact Dt h hU Du (by omega) Du hz (Mv h) (by unfold aD;omega) (fun k hk=>Au Du hk) (fun i _ h=>by omega) i hi _ (Ou h i hi)
theorem H2 {n:ao}(h:aj n){V V' to:List Int}(h1:dp V)(h2:dp V'){k:Int}(hk:k<=1000000)(hv:∀i,i<dE n->aD (to.getD i default) k/\a8 V' (to.getD i default)=V.getD i default):
  ∀x,x∈bc n->a8 V' (a8 to x)=a8 V x:=fun x hx=>by
 have:=(h.root x hx).nat h.ei
 exact mn h1 h2 hk (hv _ this).1 (hv _ this).2
theorem JK {n:ao}(h:aj n)(ins:List Int):pZ (Mq n) ins=pZ n ins:=by
 refine GK h fun st ck hs=> ?_
 have hB:=pj h _ (Nat.le_refl _)
 have hl:=lr n n.af.length
 have hn:=h.ei.n1
 have f1:=hB.f1
 have f2:=hB.cy
 refine H2 h (oC _ _ _) (oC _ _ _) (k:=aB n+(cP n n.af.length).1.length) (by omega) fun i hi=>⟨hB.tok i (by omega),?_⟩
 rw[Ds (rk h) hs,tX h hs]
 exact RE h (rq h hs ck) (yc _ _ _) (GH _ _ _) (Nat.le_refl _) i (by omega)
theorem JL {n:ao}(h:aj n){K:List Bool}(hK:∀i,i<n.af.length->K.getD (bE n+i) default=true->(kA n i<bE n\/K.getD (kA n i) default=true)/\(kB n i<bE n\/K.getD (kB n i) default=true)){U:List Int}(hU:U.length=bE n)(Du:dp U):
  ∀i,i<=n.af.length->∀k,k<bE n+i->(k<bE n\/K.getD k default=true)->a8 (cu U (a9 n K i).1) ((a9 n K i).2.getD k default)=(cu U n.af).getD k default
 |0,_,k,hk,_=>by
  show a8 U ((iF n).getD k default)=_
  rw[Au Du (by omega),qG (by omega)]
 |i+1,hi,k,hk,IG=>by
  have ih:=JL h hK hU Du i (by omega)
  have hB:=nF h K i (by omega)
  have hl:=ko n K i
  have f1:=hB.f1
  have f2:=hB.cy
  have g2:=h.ei.f2
  by_cases Mw:K.getD (bE n+i) default=true
  ·have e:a9 n K (i+1)=((a9 n K i).1++[(a8 (a9 n K i).2 (n.af.getD i default).1,a8 (a9 n K i).2 (n.af.getD i default).2)],(a9 n K i).2++[2*(aB n+(a9 n K i).1.length)]):=by rw[a9,if_pos Mw]
   rw[e]
   by_cases p6:k<(a9 n K i).2.length
   ·dsimp only
    have ht:=hB.tok k p6
    unfold aD at ht
    rw[dd p6,jX (U:=U) (A:=(a9 n K i).1) (l:=(a9 n K i).2.getD k default) (by omega)]
    exact ih k (by omega) IG
   ·obtain rfl:k=(a9 n K i).2.length:=by omega
    dsimp only
    obtain⟨q1,q2⟩:=h.wh (show i<n.af.length by omega)
    have Z7:=q1
    have Z8:=q2
    unfold aD at Z7 Z8
    obtain⟨k1,k2⟩:=hK i (by omega) Mw
    have c1:=mn (V:=cu U n.af) (V':=cu U (a9 n K i).1) (to:=(a9 n K i).2) (l:=(n.af.getD i default).1) (gn _ Du) (gn _ Du) (k:=aB n+(a9 n K i).1.length) (by omega) (hB.tok _ (by omega)) (ih _ (by omega) k1)
    have c2:=mn (V:=cu U n.af) (V':=cu U (a9 n K i).1) (to:=(a9 n K i).2) (l:=(n.af.getD i default).2) (gn _ Du) (gn _ Du) (k:=aB n+(a9 n K i).1.length) (by omega) (hB.tok _ (by omega)) (ih _ (by omega) k2)
    have ij:=BF (U:=U) (A:=n.af) (f:=aB n) (by omega) (by omega) (i:=i) (by omega) ⟨q1,q2⟩
    rw[eh,jz (gn _ Du),if_pos (by omega),rp,show(2*(aB n+((a9 n K i).1.length:Int))/2).toNat=(cu U (a9 n K i).1).length by rw[oF];omega,eh]
    show bits .and .i64 (a8 (cu U (a9 n K i).1) (a8 (a9 n K i).2 (n.af.getD i default).1)) (a8 (cu U (a9 n K i).1) (a8 (a9 n K i).2 (n.af.getD i default).2))=_
    rw[c1,c2,<-ij,hl.2]
    congr 1
  ·have e:a9 n K (i+1)=((a9 n K i).1,(a9 n K i).2++[0]):=by rw[a9,if_neg Mw]
   rw[e]
   by_cases p6:k<(a9 n K i).2.length
   ·dsimp only
    rw[dd p6]
    exact ih k (by omega) IG
   ·obtain rfl:k=bE n+i:=by omega
    exact absurd IG (fun h=>h.elim (by omega) Mw)
end Go.Xw
end
