/- Texts that belong together; each under its stated conditions. -/
import Derived.Test.YtiepmliokblkjaaGreatBrf
import Derived.Test.YtiepmliokblkjaaGreatAddLaw
import Derived.Test.YtiepmliokblkjaaGreatMap
set_option linter.all false
section
namespace Go.Proofs
open Go.Xw
set_option maxRecDepth 100000
set_option maxHeartbeats 1000000
attribute [local irreducible] ax aE
theorem FV (x:bf){w0:World}(hX:fG w0 x)(aS:aj x.n)(a:Option Addr)(c:Nat):∀(k:Nat),k<dF x.n->∀(w:World) (L:List bh) (B:List Bool),Hp w0 w (rO 4 1 eB a c B::L)->B.length=dF x.n->kj x.n B k->
  bN Tryz.prog 129 [x.v,.int .i64 (k:Int),.slice a (dF x.n) c] w (fun v w'=>∃B',v= .tuple ⟨[]⟩/\E6 x.n B k B'/\Hp w0 w' (rO 4 1 eB a c B'::L)):=by
 have hn:=aS.ei
 obtain⟨n1,n2,n3,n4,n5,n6⟩:=hn
 have hn:=aS.ei
 have vv:=aS.nodes
 have Oo:x.n.af.length=x.af.length:=rfl
 intro k
 induction k using Nat.strongRecOn with
 |_ k ih=>
 intro hk w L B hp IU Dq
 refine vJ Tryz.Qx ?_;intro C
 refine bP hp ?_;intro w b3 hx hp;refine az ?_;refine bb hp ?_
 refine lh (fun OX=> ?_) (fun OX=> ?_)
 ·refine aN ?_;refine aq ?_
  refine⟨B,rfl,⟨rfl,fun j hj=>⟨.inl,fun h=> ?_⟩⟩,hp.drop⟩
  rcases h with h|h
  ·exact h
  ·exact Dq.C6 hn h (Nat.le_refl _) OX
 ·refine aM ?_;(repeat(first|(refine ah ?_;refine aI hp ?_)|(refine aH ?_;refine nO hp rfl rfl rfl (by omega) (by decide) rfl rfl ?_;intro w hp;refine az ?_)))
  refine bQ hp Tryz.func70 (iG x _ aS.b) ?_;intro w hx hp
  have Ef:∀j,(B.set k true).getD j default=true↔j=k\/B.getD j default=true:=fun j=>qB (by omega)
  apply ae<;>intro hge
  ·have hi:k-bE x.n<x.af.length:=by omega
   have V7:bE x.n+(k-bE x.n)=k:=by omega
   have hz:((k:Int)-aB x.n).toNat=k-bE x.n:=by omega
   obtain⟨q1,q2,q3,q4⟩:=aS.tH hi
   have Q:=aS.tH hi
   rw[<-hz] at Q
   obtain⟨Q1,Q2,Q3,Q4⟩:=Q
   have ka:=n5 _ hi
   have kb:=n6 _ hi
   have eA:((kA x.n (k-bE x.n):Nat):Int)=(x.af.getD (k-bE x.n) default).1/2:=Int.toNat_of_nonneg (show 0<=(x.af.getD (k-bE x.n) default).1/2 by omega)
   have eB':((kB x.n (k-bE x.n):Nat):Int)=(x.af.getD (k-bE x.n) default).2/2:=Int.toNat_of_nonneg (show 0<=(x.af.getD (k-bE x.n) default).2/2 by omega)
   have hcl1:kj x.n (B.set k true) (kA x.n (k-bE x.n)):=fun j hj hjm hB=>by
    rw[Ef] at hB
    have h1:=Dq j hj (by omega) (hB.resolve_left (by omega))
    exact⟨(Ef _).2 (.inr h1.1),(Ef _).2 (.inr h1.2)⟩
   refine aN ?_
   refine j7 hp ?_;intro w hx hp;have hs:=hp;(repeat(refine ah ?_;first|refine dN ?_|refine iC rfl (by omega) (by omega) rfl rfl rfl ?_))
   refine gq ?_
   rw[hz,<-eA]
   refine oW Tryz.func129 (ih (kA x.n (k-bE x.n)) (by omega) (by omega) _ _ _ hp.f1 (by simp;omega) hcl1) ?_;rintro _ w ⟨B1,rfl,OG,hp⟩;refine⟨fun hq=>Bool.noConfusion (hq.symm.trans (by kernel_rfl:bH _ _=false)),?_⟩;refine fO ?_
   have hp:=hp.f1
   have hB1l:B1.length=dF x.n:=by rw[OG.len];simp;omega
   have hcl2:kj x.n B1 (kB x.n (k-bE x.n)):=by
    refine OG.closed hn (by simp;omega) fun j hj hjm hB=> ?_
    rw[Ef] at hB
    have h1:=Dq j hj (by omega) (hB.resolve_left (by omega))
    exact⟨(Ef _).2 (.inr h1.1),(Ef _).2 (.inr h1.2)⟩
   refine j7 hp ?_;intro w hx hp;have hs:=hp;(repeat(refine ah ?_;first|refine dN ?_|refine iC rfl (by omega) (by omega) rfl rfl rfl ?_))
   refine gq ?_
   rw[hz,<-eB']
   refine oW Tryz.func129 (ih (kB x.n (k-bE x.n)) (by omega) (by omega) _ _ _ hp.f1 hB1l hcl2) ?_;rintro _ w ⟨B2,rfl,Fb,hp⟩;refine⟨fun hq=>Bool.noConfusion (hq.symm.trans (by kernel_rfl:bH _ _=false)),?_⟩;refine fO ?_;refine aq ?_
   refine⟨B2,rfl,⟨by rw[Fb.len,OG.len];simp,fun j hj=> ?_⟩,hp.f1.drop⟩
   rw[Fb.iff j (by omega),OG.iff j (by simp;omega),Ef]
   have h3:=dM.tH (n:=x.n) (b:=j) hi
   rw[V7] at h3
   rw[h3]
   constructor
   ·rintro(((h|h)|h)|h)
    ·exact .inr (.inl h)
    ·exact .inl h
    ·exact .inr (.inr (.inl h))
    ·exact .inr (.inr (.inr h))
   ·rintro(h|h|h|h)
    ·exact .inl (.inl (.inr h))
    ·exact .inl (.inl (.inl h))
    ·exact .inl (.inr h)
    ·exact .inr h
  ·refine aM ?_;refine aq ?_
   refine⟨B.set k true,rfl,⟨by simp,fun j hj=> ?_⟩,hp.drop⟩
   rw[Ef]
   constructor
   ·rintro(rfl|h)
    ·exact .inr (.refl _)
    ·exact .inl h
   ·rintro(h|h)
    ·exact .inr h
    ·exact .inl (h.leaf (by omega))
theorem ss (x:bf)(w0:World)(hX:fG w0 x)(aS:aj x.n):
  bN Tryz.prog 69 [x.v] w0 (fun v w=>∃b c,v= .slice b (dF x.n) c/\Hp w0 w [rO 4 1 eB b c (aC x.n)]):=by
 have hn:=aS.ei
 obtain⟨n1,n2,n3,n4,n5,n6⟩:=hn
 have hn:=aS.ei
 have vv:=aS.nodes
 have hrB:=JA aS
 refine eu Tryz.Vl ?_;intro C hp;skip;refine bP hp ?_;intro w b1 hx hp;refine az ?_;refine aI hp ?_
 refine bQ hp Tryz.func128 (jS x _ aS.b) ?_;intro w hx hp
 rw[<-n4]
 refine mG hp eB false rfl rfl rfl rfl (s:=1) rfl (by decide) rfl (by unfold maxLen;omega) (by show 1*_<=_;omega) ?_;intro w b3 hx hp;refine az ?_;refine aI hp ?_
 refine cy Tryz.func127 (Bv x _ hp.dR aS) ?_;rintro _ w ⟨b2,c2,rfl,hq⟩;have hx:=hq.x;have hp:=hp.bJ hq;refine az ?_
 refine gK [1,3,10,11,12] (fun(i:Nat) (_:List Bool)=>[(1,.pointer (some ⟨b1,0,none⟩)),(3,.slice (some ⟨b3,0,none⟩) (dF x.n) (dF x.n)),(10,.slice b2 (bc x.n).length c2),(11,.int .i64 (bc x.n).length),(12,.int .i64 (i:Int))])
  (fun i B w'=>i<=(bc x.n).length/\(B.length=dF x.n/\kj x.n B (dF x.n)/\∀k,k<dF x.n->(B.getD k default=true↔∃j,j<i/\dM x.n ((bc x.n).getD j default/2).toNat k))/\Hp w0 w' [rO 4 1 eB (some ⟨b3,0,none⟩) (dF x.n) B,rO 3 1 eI b2 c2 (bc x.n),rB b1 33 x.cs]) (fun i _=>(bc x.n).length-i) 0 _ rfl ⟨by omega,⟨by simp,?_,?_⟩,hp.f1⟩ ?_
 ·intro i hi _ h
  simp[List.getD_eq_getElem?_getD,List.getElem?_replicate] at h
  split at h<;>simp at h
 ·intro k hk
  simp[List.getD_eq_getElem?_getD,List.getElem?_replicate,hk]
 rintro i B w1 ⟨hi,⟨IU,Dq,hB⟩,hp⟩ IH C
 refine bL ?_
 apply ae<;>intro bD
 ·have aF:i<(bc x.n).length:=by omega
  have hr:=E5 aS aF
  have eR:((((bc x.n).getD i default/2).toNat:Nat):Int)=(bc x.n).getD i default/2:=Int.toNat_of_nonneg (by omega)
  refine aN ?_;(repeat(refine ah ?_;first|refine aI hp ?_|refine bb hp ?_))
  refine gq ?_
  rw[<-eR]
  refine cy Tryz.func129 (FV x hX aS _ _ ((bc x.n).getD i default/2).toNat (by omega) _ _ _ hp IU (fun j hj hjm=>Dq j hj (by omega))) ?_;rintro _ w ⟨B',rfl,hm,hp⟩;refine az ?_
  refine IH (i+1) B' _ _ _ (by omega) rfl ⟨by omega,⟨by rw[hm.len];exact IU,hm.closed hn IU Dq,fun k hk=> ?_⟩,hp⟩
  rw[hm.iff k (by omega),hB k hk]
  constructor
  ·rintro(⟨j,h1,h2⟩|h)
   ·exact⟨j,by omega,h2⟩
   ·exact⟨i,by omega,h⟩
  ·rintro⟨j,h1,h2⟩
   by_cases hj:j<i
   ·exact .inl ⟨j,hj,h2⟩
   ·obtain rfl:j=i:=by omega
    exact .inr h2
 ·refine aM ?_;refine aq ?_
  obtain rfl:i=(bc x.n).length:=by omega
  refine⟨some ⟨b3,0,none⟩,dF x.n,rfl,?_⟩
  rw[show B=aC x.n from mJ IU hB] at hp
  exact hp.sub (by simp)
def Ns (n:ao)(B B':List Bool):Prop:=B'.length=dF n/\∀k,k<dF n->(B'.getD k default=true↔∃j,j<dF n/\B.getD j default=true/\dM n j k)
theorem Iv (x:bf)(a:Option Addr)(c:Nat)(B:List Bool)(w0:World)(hX:fG w0 x)(aS:aj x.n)(hR:Rd w0 a 1 eB B)(hl:B.length=dF x.n):
  bN Tryz.prog 190 [x.v,.slice a (dF x.n) c] w0 (fun v w=>∃b c' B',v= .slice b (dF x.n) c'/\Ns x.n B B'/\Hp w0 w [rO 4 1 eB b c' B']):=by
 have hn:=aS.ei
 obtain⟨n1,n2,n3,n4,n5,n6⟩:=hn
 have hn:=aS.ei
 have vv:=aS.nodes
 have Oo:x.n.af.length=x.af.length:=rfl
 rw[<-hl]
 refine eu Tryz.Rr ?_;intro C hp;skip;refine bP hp ?_;intro w b2 hx hp;refine az ?_
 refine lX hp eB ([]:List Bool) ?_;intro w b7 hx hp;refine az ?_
 refine gT hp ?_;intro b5 c5 w hp bZ;refine az ?_;refine aI hp ?_
 refine gK [2,5,6] (fun(i:Nat) (_:List Bool)=>[(2,.pointer (some ⟨b2,0,none⟩)),(5,.slice b5 B.length c5),(6,.int .i64 ((i:Int)-1))])
  (fun i B1 w'=>i<=x.af.length/\(B1.length=dF x.n/\(∀k,k<dF x.n->B1.getD k default=true->∃j,j<dF x.n/\B.getD j default=true/\dM x.n j k)/\(∀k,B.getD k default=true->B1.getD k default=true)/\
   ∀j,i<=j->j<x.af.length->B1.getD (bE x.n+j) default=true->B1.getD (kA x.n j) default=true/\B1.getD (kB x.n j) default=true)/\Hp w0 w' [rO 4 1 eB b5 c5 B1,rB b2 33 x.cs]) (fun i _=>i) x.af.length B rfl
   ⟨by omega,⟨hl,fun k hk h=>⟨k,hk,h,.refl _⟩,fun k h=>h,fun j h1 h2=>by omega⟩,hp⟩ ?_
 rintro i B1 w1 ⟨hi,⟨IU,Xx,Sv,Dq⟩,hp⟩ IH C
 refine bL ?_
 apply ae<;>intro bD
 ·have aF:i-1<x.af.length:=by omega
  have hz:((i:Int)-1).toNat=i-1:=by omega
  have Ch:(aB x.n+((i:Int)-1)).toNat=bE x.n+(i-1):=by omega
  have Q:=aS.tH aF
  rw[<-hz] at Q
  obtain⟨Q1,Q2,Q3,Q4⟩:=Q
  have ka:=n5 _ aF
  have kb:=n6 _ aF
  have eA:(kA x.n (i-1))=((x.af.getD ((i:Int)-1).toNat default).1/2).toNat:=by rw[hz];rfl
  have eB':(kB x.n (i-1))=((x.af.getD ((i:Int)-1).toNat default).2/2).toNat:=by rw[hz];rfl
  refine aN ?_;refine aI hp ?_
  refine bQ hp Tryz.func137 (jG x _ aS.b) ?_;intro w hx hp;refine ik hp ?_
  refine lh (fun hm=> ?_) (fun hm=> ?_)
  ·rw[Ch] at hm
   have vL:(B1.set ((x.af.getD ((i:Int)-1).toNat default).1/2).toNat true).length=B1.length:=by simp
   refine aN ?_;(repeat(first|(refine ah ?_;first|refine aI hp ?_|refine rS hp ?_)|(refine aH ?_;refine ki hp rfl rfl rfl (by omega) (by decide) rfl rfl ?_;intro w hp;refine az ?_)))
   rw[<-eA,<-eB'] at hp
   have s1:∀k,((B1.set (kA x.n (i-1)) true).set (kB x.n (i-1)) true).getD k default=true↔k=kB x.n (i-1)\/k=kA x.n (i-1)\/B1.getD k default=true:=fun k=>by
    rw[qB (by simp;omega),qB (by omega)]
   refine IH (i-1) ((B1.set (kA x.n (i-1)) true).set (kB x.n (i-1)) true) _ _ _ (by omega) (by rw[show(((i-1:Nat):Int))-1=(i:Int)-1-1 by omega];rfl) ⟨by omega,⟨by simp;exact IU,fun k hk h=> ?_,fun k h=>(s1 k).2 (.inr (.inr (Sv k h))),fun j h1 h2 h=> ?_⟩,hp⟩
   ·rw[s1] at h
    obtain⟨j0,g1,g2,g3⟩:=Xx _ (by omega) hm
    rcases h with rfl|rfl|h
    ·exact⟨j0,g1,g2,g3.trans (.right aF (.refl _))⟩
    ·exact⟨j0,g1,g2,g3.trans (.left aF (.refl _))⟩
    ·exact Xx k hk h
   ·by_cases hj:j=i-1
    ·subst hj
     exact⟨(s1 _).2 (.inr (.inl rfl)),(s1 _).2 (.inl rfl)⟩
    ·have hkb:bE x.n+j≠kB x.n (i-1):=by omega
     have SV:bE x.n+j≠kA x.n (i-1):=by omega
     have h3:=Dq j (by omega) h2 ((((s1 _).1 h).resolve_left hkb).resolve_left SV)
     exact⟨(s1 _).2 (.inr (.inr h3.1)),(s1 _).2 (.inr (.inr h3.2))⟩
  ·rw[Ch] at hm
   refine aM ?_
   refine IH (i-1) B1 _ _ _ (by omega) (by rw[show(((i-1:Nat):Int))-1=(i:Int)-1-1 by omega];rfl) ⟨by omega,⟨IU,Xx,Sv,fun j h1 h2 h=> ?_⟩,hp⟩
   by_cases hj:j=i-1
   ·subst hj
    rw[hm] at h;cases h
   ·exact Dq j (by omega) h2 h
 ·refine aM ?_;refine aq ?_
  obtain rfl:i=0:=by omega
  refine⟨b5,c5,B1,rfl,⟨IU,fun k hk=>⟨Xx k hk,?_⟩⟩,hp.sub (by simp)⟩
  rintro⟨j,hj,h1,h2⟩
  exact kj.C6 (m:=dF x.n) hn (fun i hi _ h=>Dq i (by omega) hi h) h2 (by omega) (Sv j h1)
theorem zP (x:bf)(w0:World)(hX:fG w0 x)(hS:kK x.n)(hW:nq x.n)(aS:aj x.n):
  bN Tryz.prog 176 [x.v] w0 (fun v w=>∃b c,v= .slice b (dF x.n) c/\Hp w0 w [rO 4 1 eB b c (aC x.n)]):=by
 have hn:=aS.ei
 obtain⟨n1,n2,n3,n4,n5,n6⟩:=hn
 have vv:=aS.nodes
 have hrB:=JA aS
 refine eu Tryz.Rg ?_;intro C hp;skip;refine bP hp ?_;intro w b1 hx hp;refine az ?_;refine aI hp ?_
 refine bQ hp Tryz.func77 ((eZ x _ hp.dR hS hW).tt (fj aS)) ?_;intro w hx hp
 refine aM ?_;refine aI hp ?_
 refine bQ hp Tryz.func82 (gY x _) ?_;intro w hx hp
 rw[show cM x.n=ag x.n from if_pos aS.size,<-n4]
 refine mG hp eB false rfl rfl rfl rfl (s:=1) rfl (by decide) rfl (by unfold maxLen;omega) (by show 1*_<=_;omega) ?_;intro w b3 hx hp;refine az ?_;refine aI hp ?_
 refine cy Tryz.func136 (Bw x _ hp.dR aS) ?_;rintro _ w ⟨b2,c2,rfl,hq⟩;have hx:=hq.x;have hp:=hp.bJ hq;refine az ?_
 refine gK [1,3,4,5] (fun(i:Nat) (_:List Bool)=>[(1,.pointer (some ⟨b1,0,none⟩)),(3,.slice (some ⟨b3,0,none⟩) (dF x.n) (dF x.n)),(4,.slice b2 (bc x.n).length c2),(5,.int .i64 (i:Int))])
  (fun i B w'=>i<=(bc x.n).length/\(B.length=dF x.n/\∀k,k<dF x.n->(B.getD k default=true↔∃j,j<i/\((bc x.n).getD j default/2).toNat=k))/\Hp w0 w' [rO 3 1 eI b2 c2 (bc x.n),rO 4 1 eB (some ⟨b3,0,none⟩) (dF x.n) B,rB b1 33 x.cs]) (fun i _=>(bc x.n).length-i) 0 _ rfl ⟨by omega,⟨by simp,?_⟩,hp⟩ ?_
 ·intro k hk
  simp[List.getD_eq_getElem?_getD,List.getElem?_replicate,hk]
 rintro i B w1 ⟨hi,⟨IU,hB⟩,hp⟩ IH C
 refine bL ?_
 apply ae<;>intro bD
 ·have aF:i<(bc x.n).length:=by omega
  have hr:=E5 aS aF
  refine aN ?_;(repeat(first|(refine ah ?_;refine bb hp ?_)|(refine aH ?_;refine ki hp rfl rfl rfl (by omega) (by decide) rfl rfl ?_;intro w hp;refine az ?_)))
  refine IH (i+1) (B.set ((bc x.n).getD i default/2).toNat true) _ _ _ (by omega) rfl ⟨by omega,⟨by simp;exact IU,fun k hk=> ?_⟩,hp⟩
  rw[qB (by omega),hB k hk]
  constructor
  ·rintro(rfl|⟨j,h1,h2⟩)
   ·exact⟨i,by omega,rfl⟩
   ·exact⟨j,by omega,h2⟩
  ·rintro⟨j,h1,h2⟩
   by_cases hj:j<i
   ·exact .inr ⟨j,hj,h2⟩
   ·obtain rfl:j=i:=by omega
    exact .inl h2.symm
 ·refine aM ?_;refine aI hp ?_
  obtain rfl:i=(bc x.n).length:=by omega
  refine cy Tryz.func190 (Iv x _ _ B _ hp.dR aS hp.rd IU) ?_;rintro _ w ⟨b9,c9,B',rfl,hm,hq⟩;refine az ?_;refine aq ?_
  have hp:=hp.bJ hq
  skip
  refine⟨b9,c9,rfl,?_⟩
  rw[show B'=aC x.n from mJ hm.1 fun k hk=>by
   rw[hm.2 k hk]
   constructor
   ·rintro⟨j,h1,h2,h3⟩
    obtain⟨i,h4,h5⟩:=(hB j h1).1 h2
    exact⟨i,h4,by rw[h5];exact h3⟩
   ·rintro⟨i,h4,h5⟩
    have hr:=E5 aS h4
    exact⟨_,by omega,(hB _ (by omega)).2 ⟨i,h4,rfl⟩,h5⟩] at hp
  exact hp.sub (by simp)
end Go.Proofs
end
section
namespace Go.Proofs
open Go.Xw
set_option maxRecDepth 100000
set_option maxHeartbeats 1000000
attribute [local irreducible] ax aE
theorem su (n:ao):(aC n).length=dF n:=ri _ _
end Go.Proofs
end
section
namespace Go.Proofs
open Go.Xw
set_option maxRecDepth 100000
set_option maxHeartbeats 1000000
attribute [local irreducible] ax aE
theorem Nt (x:bf)(w0:World)(hX:fG w0 x)(aS:aj x.n):
  bN Tryz.prog 109 [x.v] w0 (fun v w=>∃y,(y.n=gE x.n/\v=y.v)/\Hp w0 w [dv y]):=by
 have hn:=aS.ei
 have n1:=hn.n1
 have n4:=hn.n2
 have f2:=hn.f2
 have vv:=aS.nodes
 have iA:=aS.jR
 have Oo:x.n.af.length=x.af.length:=rfl
 have CH:=su x.n
 refine eu Tryz.Qk ?_;intro C hp;skip;refine bP hp ?_;intro w b1 hx hp;refine az ?_;skip;refine bP hp ?_;intro w b2 hx hp;refine az ?_;refine aI hp ?_
 refine cy Tryz.func69 (ss x _ hp.dR aS) ?_;rintro _ w ⟨b3,c3,rfl,hq⟩;have hx:=hq.x;have hp:=hp.bJ hq;refine az ?_;refine aI hp ?_
 refine cy Tryz.func104 (v8 x _ hp.dR aS) ?_;rintro _ w ⟨y0,⟨D8,rfl⟩,hq⟩;have hx:=hq.x;have hp:=hp.bJ hq;refine az ?_
 refine bP hp ?_;intro w b4 hx hp;refine az ?_;(repeat(first|(refine ah ?_;refine aI hp ?_)|(refine aH ?_;refine aW hp ?_;intro w hp;refine az ?_)))
 refine cy Tryz.func105 (zg x _ aS) ?_;rintro _ w ⟨b5,c5,rfl,hq⟩;have hx:=hq.x;have hp:=hp.bJ hq;refine az ?_;refine aI hp ?_
 have E':y0.af=[]:=congrArg ao.af D8
 have Sw:y0.aT=x.aT:=congrArg ao.aT D8
 have KO:aU y0.au=(tT x.n []).au:=congrArg ao.au D8
 have th:y0.au.length=x.au.length:=by rw[<-cm y0.au,KO,vt.1,x.fE]
 have Aa:y0.cs=(y0.wA y0.aa y0.ac []).cs:=by unfold bf.cs bf.wA;rw[E']
 have hp:=(kI hp.f2).f7.f7.f4.f3.f7.f6.f6.f7
 rw[E'] at hp
 have hp:=Hp.Ls hp Aa
 refine eg [1,2,3,4,5,16,17,18] (fun(i:Nat) (_:Option Addr) (_:Nat)=>[(1,.pointer (some ⟨b1,0,none⟩)),(2,.pointer (some ⟨b2,0,none⟩)),(3,.slice b3 (dF x.n) c3),(4,.pointer (some ⟨b4,0,none⟩)),(5,.slice b5 (dF x.n) c5),(16,.slice x.aa x.af.length x.ac),(17,.int .i64 x.af.length),(18,.int .i64 (i:Int))])
  (fun i aa ac w'=>i<=x.af.length/\Hp w0 w' [rB b4 33 [.int .i64 y0.aT,.slice y0.sa y0.au.length y0.sc,.slice aa ((a9 x.n (aC x.n) i).1).length ac,.slice y0.oa y0.outs.length y0.oc],rO 120 2 gh aa ac (a9 x.n (aC x.n) i).1,rO 3 1 eI b5 c5 ((a9 x.n (aC x.n) i).2++List.replicate (x.af.length-i) 0),rO 4 1 eB b3 c3 (aC x.n),E0 y0.sa y0.sc y0.au,rO 3 1 eI y0.oa y0.oc y0.outs,rB b2 33 (aL Tryz.dY.zero),rB b1 33 x.cs])
  (fun i _ _=>x.af.length-i) 0 y0.aa y0.ac rfl ⟨by omega,hp⟩ ?_
 rintro i aa ac w1 ⟨hi,hp⟩ IH C
 have hl:=km x.n (aC x.n) i
 have hB:=nF aS (aC x.n) i hi
 have sE:((a9 x.n (aC x.n) i).2++List.replicate (x.af.length-i) (0:Int)).length=dF x.n:=by simp;omega
 refine bL ?_
 apply ae<;>intro bD
 ·have aF:i<x.af.length:=by omega
  have hz:(aB x.n+(i:Int)).toNat=bE x.n+i:=by omega
  obtain⟨q1,q2,q3,q4⟩:=aS.tH aF
  have Nu:List.replicate (x.af.length-i) (0:Int)=List.replicate (x.af.length-(i+1)+1) 0:=by rw[show x.af.length-i=x.af.length-(i+1)+1 by omega]
  refine aN ?_;refine bb hp ?_
  refine bP hp ?_;intro w b7 hx hp;refine az ?_;(repeat(first|(refine ah ?_;refine aI hp ?_)|(refine aH ?_;refine aW hp ?_;intro w hp;refine az ?_)))
  refine bQ hp Tryz.func70 (iG x _ aS.b) ?_;intro w hx hp;refine ik hp ?_
  refine lh (fun hk=> ?_) (fun hk=> ?_)
  ·rw[hz] at hk
   have e1:(a9 x.n (aC x.n) (i+1)).1=(a9 x.n (aC x.n) i).1++[(a8 (a9 x.n (aC x.n) i).2 (x.af.getD i default).1,a8 (a9 x.n (aC x.n) i).2 (x.af.getD i default).2)]:=by rw[a9,if_pos hk];rfl
   have e2:(a9 x.n (aC x.n) (i+1)).2=(a9 x.n (aC x.n) i).2++[2*(aB x.n+(a9 x.n (aC x.n) i).1.length)]:=by rw[a9,if_pos hk]
   have g1:=hB.f1
   have g2:=hB.cC
   refine aN ?_
   refine fR hp ?_;(repeat(refine fy ?_))
   refine j8 Tryz.func107 (fun F w hp=> ?_);refine bN.mono (qX _ _ _ _ sE (x.af.getD i default).1 _ hp.pre.rd q1 (by omega) (by omega)) ?_;rintro _ w ⟨rfl,hx⟩;have hp:=hp.ext hx;refine⟨fun _=>hp.sub (by(repeat(first|exact List.sublist_append_left _ _|apply List.Sublist.cons))),_,hp,?_⟩;clear hp;refine cX ?_;refine fy ?_
   refine j8 Tryz.func107 (fun F w hp=> ?_);refine bN.mono (qX _ _ _ _ sE (x.af.getD i default).2 _ hp.pre.rd q3 (by omega) (by omega)) ?_;rintro _ w ⟨rfl,hx⟩;have hp:=hp.ext hx;refine⟨fun _=>hp.sub (by(repeat(first|exact List.sublist_append_left _ _|apply List.Sublist.cons))),_,hp,?_⟩;clear hp;refine cX ?_
   rw[oD,oD]
   refine pO gh [(a8 (a9 x.n (aC x.n) i).2 (x.af.getD i default).1,a8 (a9 x.n (aC x.n) i).2 (x.af.getD i default).2)] rfl rfl rfl rfl (s:=2) rfl (by decide) (by infer_instance) (by rfl) (by rfl) (by rfl) (by decide) ?_;intro b42;refine cX ?_
   refine fZ rfl rfl rfl rfl rfl rfl rfl (by decide) rfl (zl) rfl rfl (fun hq=>Bool.noConfusion (hq.symm.trans (by kernel_rfl:bH _ _=false))) ?_;intro kv kx bZ;refine cX ?_;refine Aj rfl rfl rfl rfl (by kernel_rfl) ?_;refine cX ?_
   refine dc ?_;intro w hp C;refine bL ?_;refine aI hp ?_
   have SW:xL (y0.wA kv kx ((a9 x.n (aC x.n) i).1++[(a8 (a9 x.n (aC x.n) i).2 (x.af.getD i default).1,a8 (a9 x.n (aC x.n) i).2 (x.af.getD i default).2)])):=⟨by show _<=y0.aT/\y0.aT<=_;omega,by show y0.au.length<=_;omega,by show((a9 x.n (aC x.n) i).1++_).length<=_;simp;omega⟩
   have hnd3:ag (y0.wA kv kx ((a9 x.n (aC x.n) i).1++[(a8 (a9 x.n (aC x.n) i).2 (x.af.getD i default).1,a8 (a9 x.n (aC x.n) i).2 (x.af.getD i default).2)])).n-1=aB x.n+(a9 x.n (aC x.n) i).1.length:=by
    rw[iU,eD];show 1+y0.aT+y0.au.length+(((a9 x.n (aC x.n) i).1++_).length:Nat)-1=_;simp;omega
   refine bQ hp Tryz.func128 (jS (y0.wA kv kx ((a9 x.n (aC x.n) i).1++[(a8 (a9 x.n (aC x.n) i).2 (x.af.getD i default).1,a8 (a9 x.n (aC x.n) i).2 (x.af.getD i default).2)])) _ SW) ?_;intro w hx hp;refine ki hp rfl rfl rfl (by omega) (by decide) rfl rfl ?_;intro w hp;refine az ?_
   rw[hnd3,hz,Nu,show bE x.n+i=(a9 x.n (aC x.n) i).2.length by omega,tR] at hp
   refine IH (i+1) kv kx _ _ _ (by omega) rfl ⟨by omega,?_⟩
   rw[e1,e2]
   exact hp.drop.drop
  ·rw[hz] at hk
   have e:a9 x.n (aC x.n) (i+1)=((a9 x.n (aC x.n) i).1,(a9 x.n (aC x.n) i).2++[0]):=by rw[a9,if_neg (by rw[hk];decide)]
   refine aM ?_
   refine IH (i+1) aa ac _ _ _ (by omega) rfl ⟨by omega,?_⟩
   rw[Nu,List.replicate_succ,List.append_cons] at hp
   rw[e]
   exact hp.drop
 ·refine aM ?_;refine aI hp ?_
  obtain rfl:i=x.af.length:=by omega
  rw[Nat.sub_self,List.replicate_zero,List.append_nil] at hp sE
  refine cy Tryz.func108 (v9 b4 (y0.wA aa ac (a9 x.n (aC x.n) x.af.length).1) x b5 c5 (dF x.n) (a9 x.n (aC x.n) x.af.length).2 sE (hp.f2.f2.f5.f5.f4) aS (Nat.le_refl _) (by omega) (by show _<=y0.au.length;omega) (by show y0.au.length<=_;omega)) ?_;rintro _ w ⟨R,oa,oc,rfl,⟨hR,wJ⟩,hp⟩;refine az ?_;(repeat(first|(refine ah ?_;refine aI hp ?_)|(refine aH ?_;refine aW hp ?_;intro w hp;refine az ?_)|(refine dA ?_;refine iD hp rfl ?_)))
  have fF:R.length=y0.au.length:=hR
  have FW:aU R=x.n.au.map fun s=>⟨s.kind,s.init,dZ (a9 x.n (aC x.n) x.af.length).2 s.ins⟩:=by
   rw[wJ]
   show lY (FU (aU y0.au) x.n _) x.au.length (aU y0.au)=_
   rw[KO,<-x.fE]
   exact Cr vt.1 vt.2
  refine⟨⟨x.aT,R,y0.sa,y0.sc,(a9 x.n (aC x.n) x.af.length).1,aa,ac,dZ (a9 x.n (aC x.n) x.af.length).2 x.outs,oa,oc⟩,⟨?_,?_⟩,?_⟩
  ·unfold bf.n
   rw[FW]
   rfl
  ·unfold bf.v bf.cs
   rw[fF]
   show Value.agg ⟨[.int .i64 y0.aT,_,_,_]⟩=_
   rw[Sw]
   rfl
  ·exact Hp.tk (fe (x:=⟨x.aT,R,y0.sa,y0.sc,(a9 x.n (aC x.n) x.af.length).1,aa,ac,dZ (a9 x.n (aC x.n) x.af.length).2 x.outs,oa,oc⟩) (hp.f2.f3.f3)) 1
theorem Eg (x:bf)(w0:World)(hX:fG w0 x)(hS:kK x.n)(hW:nq x.n):
  bN Tryz.prog 147 [x.v] w0 (fun v w=>∃y,(y.n=Au x.n (gE x.n)/\v=y.v)/\Hp w0 w [dv y]):=by
 refine eu Tryz.QM ?_;intro C hp;skip;refine bP hp ?_;intro w b1 hx hp;refine az ?_;skip;refine bP hp ?_;intro w b2 hx hp;refine az ?_;refine aI hp ?_
 by_cases aS:aj x.n
 ·have hn:=aS.ei
  have n1:=hn.n1
  have n4:=hn.n2
  have f2:=hn.f2
  have vv:=aS.nodes
  have iA:=aS.jR
  have Oo:x.n.af.length=x.af.length:=rfl
  have CH:=su x.n
  have OT:=kN x.n
  rw[rp aS]
  refine bQ hp Tryz.func77 ((eZ x _ hp.dR hS hW).tt (fj aS)) ?_;intro w hx hp
  refine aM ?_;refine aI hp ?_
  refine cy Tryz.func176 (zP x _ hp.dR hS hW aS) ?_;rintro _ w ⟨b3,c3,rfl,hq⟩;have hx:=hq.x;have hp:=hp.bJ hq;refine az ?_;refine aI hp ?_
  refine cy Tryz.func85 (zh x _ hp.dR aS hS) ?_;rintro _ w ⟨y0,b5,c5,⟨D8,rfl⟩,hq⟩;refine az ?_
  have hp:=hp.call2 hq
  skip
  refine bP hp ?_;intro w b4 hx hp;refine az ?_;(repeat(first|(refine ah ?_;refine aI hp ?_)|(refine aH ?_;refine aW hp ?_;intro w hp;refine az ?_)))
  have E':y0.af=[]:=congrArg ao.af D8
  have Sw:y0.aT=x.aT:=congrArg ao.aT D8
  have KO:aU y0.au=(ky x.n []).au:=congrArg ao.au D8
  have th:y0.au.length=x.au.length:=by rw[<-cm y0.au,KO,vu.1,x.fE]
  have Aa:y0.cs=(y0.wA y0.aa y0.ac []).cs:=by unfold bf.cs bf.wA;rw[E']
  refine bQ hp Tryz.func137 (jG x _ aS.b) ?_;intro w hx hp
  have hp:=(kI hp.f1).f7.f7.f4.f3.f7.f7.f6.f7
  rw[E'] at hp
  have hp:=Hp.Ls hp Aa
  refine lU [1,2,3,4,5,6,7] (fun(i:Nat) (_:Option Addr) (_:Nat) (tb:Option Addr) (tc:Nat)=>[(1,.pointer (some ⟨b1,0,none⟩)),(2,.pointer (some ⟨b2,0,none⟩)),(3,.slice b3 (dF x.n) c3),(4,.pointer (some ⟨b4,0,none⟩)),(5,.slice tb (a9 x.n (aC x.n) i).2.length tc),(6,.int .i64 (aB x.n+(a9 x.n (aC x.n) i).1.length)),(7,.int .i64 (i:Int))])
   (fun i aa ac tb tc w'=>i<=x.af.length/\Hp w0 w' [rB b4 33 [.int .i64 y0.aT,.slice y0.sa y0.au.length y0.sc,.slice aa ((a9 x.n (aC x.n) i).1).length ac,.slice y0.oa y0.outs.length y0.oc],rO 120 2 gh aa ac (a9 x.n (aC x.n) i).1,rO 3 1 eI tb tc (a9 x.n (aC x.n) i).2,rO 4 1 eB b3 c3 (aC x.n),E0 y0.sa y0.sc y0.au,rO 3 1 eI y0.oa y0.oc y0.outs,rB b2 33 (aL Tryz.dY.zero),rB b1 33 x.cs])
   (fun i _ _ _ _=>x.af.length-i) 0 y0.aa y0.ac b5 c5 (by rw[show aB x.n+((a9 x.n (aC x.n) 0).1.length:Int)=aB x.n by show aB x.n+((0:Nat):Int)=_;omega];rfl) ⟨by omega,hp⟩ ?_
  rintro i aa ac tb tc w1 ⟨hi,hp⟩ IH C
  have hl:=km x.n (aC x.n) i
  have hB:=nF aS (aC x.n) i hi
  have g1:=hB.f1
  have g2:=hB.cC
  refine bL ?_;refine aI hp ?_
  apply ae<;>intro bD
  ·have aF:i<x.af.length:=by omega
   have hz:(aB x.n+(i:Int)).toNat=bE x.n+i:=by omega
   obtain⟨q1,q2,q3,q4⟩:=aS.tH aF
   refine aN ?_;refine aI hp ?_
   refine bQ hp Tryz.func137 (jG x _ aS.b) ?_;intro w hx hp;refine ik hp ?_
   refine lh (fun hk=> ?_) (fun hk=> ?_)
   ·rw[hz] at hk
    have hk:(aC x.n).getD (bE x.n+i) default=false:=by simpa using hk
    have e:a9 x.n (aC x.n) (i+1)=((a9 x.n (aC x.n) i).1,(a9 x.n (aC x.n) i).2++[0]):=by rw[a9,if_neg (by rw[hk];decide)]
    refine aN ?_;refine gG hp ?_;intro w _ hx hp;refine az ?_
    refine gT hp ?_;intro Pv Sd w hp bZ;refine az ?_
    refine IH (i+1) aa ac Pv Sd _ _ _ (by omega) (by rw[e];rfl) ⟨by omega,?_⟩
    rw[e]
    exact hp.drop
   ·rw[hz] at hk
    have hk:(aC x.n).getD (bE x.n+i) default=true:=by simpa using hk
    have e1:(a9 x.n (aC x.n) (i+1)).1=(a9 x.n (aC x.n) i).1++[(a8 (a9 x.n (aC x.n) i).2 (x.af.getD i default).1,a8 (a9 x.n (aC x.n) i).2 (x.af.getD i default).2)]:=by rw[a9,if_pos hk];rfl
    have e2:(a9 x.n (aC x.n) (i+1)).2=(a9 x.n (aC x.n) i).2++[2*(aB x.n+(a9 x.n (aC x.n) i).1.length)]:=by rw[a9,if_pos hk]
    refine aM ?_
    have Nc:(dZ (a9 x.n (aC x.n) i).2 [(x.af.getD i default).1,(x.af.getD i default).2]).length=2:=rfl
    refine fR hp ?_;(repeat(first|(refine gu ?_;first|refine fy ?_|refine sK rfl (by omega) rfl rfl rfl ?_)|(refine qw ?_;refine lI rfl rfl rfl rfl rfl rfl rfl rfl rfl rfl ?_;intro _;refine cX ?_)))
    refine j8 Tryz.func146 (fun F w hp=> ?_);refine bN.mono (qY _ _ _ _ (a9 x.n (aC x.n) i).2 [(x.af.getD i default).1,(x.af.getD i default).2] _ _ rfl rfl _ hp.pre.rd hp.pre.rd (Su (p:=fun l=>0<=l/\l/2<((a9 x.n (aC x.n) i).2.length:Int)) ⟨q1,by omega⟩ ⟨q3,by omega⟩) (by omega) (by simp)) ?_;rintro _ w ⟨r8,e8,rfl,hq⟩;have hp:=hp.eU hq;refine⟨fun _=>hp.sub (by(repeat(first|exact List.sublist_append_left _ _|apply List.Sublist.cons))),_,hp,?_⟩;clear hp;refine cX ?_
    refine dc ?_;intro w hp C;refine bL ?_
    refine fR hp ?_;(repeat(refine gu ?_;first|refine fy ?_|refine tE rfl (by omega) (by omega) rfl rfl rfl ?_))
    refine pO gh [(a8 (a9 x.n (aC x.n) i).2 (x.af.getD i default).1,a8 (a9 x.n (aC x.n) i).2 (x.af.getD i default).2)] rfl rfl rfl rfl (s:=2) rfl (by decide) (by infer_instance) (by rfl) (by rfl) (by rfl) (by decide) ?_;intro b42;refine cX ?_
    refine fZ rfl rfl rfl rfl rfl rfl rfl (by decide) rfl (zl) rfl rfl (fun hq=>Bool.noConfusion (hq.symm.trans (by kernel_rfl:bH _ _=false))) ?_;intro kv kx bZ;refine cX ?_;refine Aj rfl rfl rfl rfl (by kernel_rfl) ?_;refine cX ?_
    refine dc ?_;intro w hp C;refine bL ?_;refine gG hp ?_;intro w _ hx hp;refine az ?_
    refine gT hp ?_;intro Pv Sd w hp bZ;refine az ?_
    refine IH (i+1) kv kx Pv Sd _ _ _ (by omega) (by rw[e1,e2,show aB x.n+((((a9 x.n (aC x.n) i).1++[(a8 (a9 x.n (aC x.n) i).2 (x.af.getD i default).1,a8 (a9 x.n (aC x.n) i).2 (x.af.getD i default).2)]).length:Nat):Int)=aB x.n+((a9 x.n (aC x.n) i).1.length:Int)+1 by simp;omega];rfl) ⟨by omega,?_⟩
    rw[e1,e2]
    exact hp.drop.drop.drop.drop
  ·refine aM ?_
   obtain rfl:i=x.af.length:=by omega
   have hp:=ou hp.f4
   clear IH
   have Ku:(a9 x.n (aC x.n) x.af.length).2.length=dF x.n:=by omega
   have pJ:∀l,aD l (ag x.n)->0<=l/\l/2<((a9 x.n (aC x.n) x.af.length).2.length:Int):=fun l h=>by unfold aD at h;omega
   refine gK [1,2,4,5,9] (fun(j:Nat) (_:List dO)=>[(1,.pointer (some ⟨b1,0,none⟩)),(2,.pointer (some ⟨b2,0,none⟩)),(4,.pointer (some ⟨b4,0,none⟩)),(5,.slice tb (a9 x.n (aC x.n) x.af.length).2.length tc),(9,.int .i64 (j:Int))])
    (fun j R w'=>(j<=x.au.length/\R.length=y0.au.length/\aU R=lY (FU (aU y0.au) x.n (a9 x.n (aC x.n) x.af.length).2) j (aU y0.au))/\Hp w0 w' [rO 68 3 ke y0.sa y0.sc R,fz R,rB b4 33 [.int .i64 y0.aT,.slice y0.sa y0.au.length y0.sc,.slice aa ((a9 x.n (aC x.n) x.af.length).1).length ac,.slice y0.oa y0.outs.length y0.oc],rO 120 2 gh aa ac (a9 x.n (aC x.n) x.af.length).1,rO 3 1 eI tb tc (a9 x.n (aC x.n) x.af.length).2,rO 4 1 eB b3 c3 (aC x.n),rO 3 1 eI y0.oa y0.oc y0.outs,rB b2 33 (aL Tryz.dY.zero),rB b1 33 x.cs]) (fun j _=>x.au.length-j) 0 y0.au rfl
    ⟨⟨by omega,rfl,by rw[kJ]⟩,hp⟩ ?_
   rintro j R w2 ⟨⟨hj,hR,wJ⟩,hp⟩ IH C
   refine bL ?_;refine aI hp ?_
   apply ae<;>intro jK
   ·have fK:j<x.au.length:=by omega
    have pW:=aS.ins fK
    have OV:=x.rT j
    have hq:∀q,q<(x.au.getD j default).ins.length->0<=(x.au.getD j default).ins.getD q default/\(x.au.getD j default).ins.getD q default/2<((a9 x.n (aC x.n) x.af.length).2.length:Int):=fun q hq=>
     pJ _ (aS.ck (aK (show j<x.n.au.length by rw[x.fE];exact fK)) _ (by rw[OV];exact aK hq))
    have lN:=hX.au.at_ fK
    have fD:y0.sa≠none:=bW hp (X:=R) (by omega)
    refine aN ?_
    refine fR hp ?_;(repeat(refine gu ?_;first|refine fy ?_|refine sK rfl (by omega) rfl rfl rfl ?_))
    refine j8 Tryz.func146 (fun F w hp=> ?_);refine bN.mono (qY _ _ _ _ (a9 x.n (aC x.n) x.af.length).2 (x.au.getD j default).ins _ _ rfl rfl _ hp.pre.rd hp.pre.rd hq (by omega) (by omega)) ?_;rintro _ w ⟨r,e,rfl,hq⟩;have hp:=hp.eU hq;refine⟨fun _=>hp.sub (by(repeat(first|exact List.sublist_append_left _ _|apply List.Sublist.cons))),_,hp,?_⟩;clear hp;refine cX ?_
    first|refine Bt ({R.getD j default with ins:=dZ (a9 x.n (aC x.n) x.af.length).2 (x.au.getD j default).ins,ia:=r,ic:=e}) rfl rfl rfl (by omega) (by decide) rfl rfl (by kernel_rfl) ?_|refine Gm ({R.getD j default with ins:=dZ (a9 x.n (aC x.n) x.af.length).2 (x.au.getD j default).ins,ia:=r,ic:=e}) rfl rfl rfl (by omega) (by decide) rfl rfl (by kernel_rfl) ?_
    refine cX ?_
    refine dc ?_;intro w hp C;refine bL ?_
    obtain⟨Q,hq,gF⟩:=nC hp.f2 (i:=j) (by omega)
    have hp:=(gF _ _ {R.getD j default with ins:=dZ (a9 x.n (aC x.n) x.af.length).2 (x.au.getD j default).ins,ia:=r,ic:=e} hq.drop.f1).f1
    refine IH (j+1) _ _ _ _ (by omega) rfl ⟨⟨by omega,by simp;omega,?_⟩,hp⟩
    have Db:j<(aU y0.au).length:=by rw[cm];omega
    rw[pI,wJ,<-mI (f:=FU (aU y0.au) x.n (a9 x.n (aC x.n) x.af.length).2) Db]
    congr 1
    have h1:(R.getD j default).s=(aU y0.au).getD j default:=by
     rw[<-gL,wJ,wI (Nat.le_refl _) (by omega)]
    unfold FU
    rw[<-h1,OV]
    rfl
   ·refine aM ?_;refine aI hp ?_
    obtain rfl:j=x.au.length:=by omega
    refine cy Tryz.func146 (qY _ _ _ _ (a9 x.n (aC x.n) x.af.length).2 x.outs _ _ rfl rfl _ hp.rd hp.rd (fun q hq=>pJ _ (aS.out _ (aK hq))) (by omega) (by omega)) ?_;rintro _ w ⟨r,e,rfl,hq⟩;have hx:=hq.x;have hp:=hp.bJ hq;refine az ?_;(repeat(first|(refine ah ?_;refine aI hp ?_)|(refine aH ?_;(first|refine iE hp ?_|refine aW hp ?_);intro w hp;refine az ?_)|(refine dA ?_;refine iD hp rfl ?_)))
    have FW:aU R=x.n.au.map fun s=>⟨s.kind,s.init,dZ (a9 x.n (aC x.n) x.af.length).2 s.ins⟩:=by
     rw[wJ,KO,<-x.fE]
     exact Cr vu.1 vu.2
    have hp:=gX (hp.f2.f2)
    refine⟨⟨x.aT,R,y0.sa,y0.sc,(a9 x.n (aC x.n) x.af.length).1,aa,ac,dZ (a9 x.n (aC x.n) x.af.length).2 x.outs,r,e⟩,⟨?_,?_⟩,?_⟩
    ·unfold bf.n
     rw[FW]
     rfl
    ·unfold bf.v bf.cs
     rw[hR,Sw]
    ·exact Hp.tk (fe (x:=⟨x.aT,R,y0.sa,y0.sc,(a9 x.n (aC x.n) x.af.length).1,aa,ac,dZ (a9 x.n (aC x.n) x.af.length).2 x.outs,r,e⟩) (hp.f1.f3.f2)) 1
 ·refine bQ hp Tryz.func77 ((eZ x _ hp.dR hS hW).ff (cY aS)) ?_;intro w hx hp
  refine aN ?_;refine aW hp ?_;intro w hp;refine az ?_;refine iD hp rfl ?_
  rw[Dl aS]
  exact⟨Nr,⟨rfl,rfl⟩,Hp.tk (OW hp) 1⟩
end Go.Proofs
end
