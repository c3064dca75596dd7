/- Texts that belong together; each under its stated conditions. -/
import Derived.Test.YtiepmliokblkjaaGreatBrf
import Derived.Test.YtiepmliokblkjaaGreatSweep
import Derived.Test.YtiepmliokblkjaaGreatEvSt3
set_option linter.all false
section
namespace Go.Xw
structure q7 (n:ao)(i:Nat):Prop where
 r:ow n (bE n+i)
 lt:(n.af.getD i default).1<(n.af.getD i default).2
 one:1<(n.af.getD i default).1
 ne:¬((n.af.getD i default).1%2=0/\(n.af.getD i default).2=(n.af.getD i default).1+1)
 un:∀k,k<i->n.af.getD k default≠n.af.getD i default
def K3 (n:ao):Prop:=aj n/\∀i,i<n.af.length->q7 n i
theorem zr {p:Prop}(h:¬p):pB p=false:=by simp[pB,h]
theorem K4 {p:Prop}(h:p):pB p=true:=by simp[pB,h]
end Go.Xw
namespace Go.Proofs
open Go.Xw
set_option maxRecDepth 100000
set_option maxHeartbeats 1000000
attribute [local irreducible] ax aE
theorem Ev {n:ao}{i:Nat}(hn:HU n)(hi:i<n.af.length):(aC n).getD (aB n+(i:Int)).toNat default=true↔ow n (bE n+i):=by
 have h2:=hn.f2
 have h3:=hn.n1
 rw[show(aB n+(i:Int)).toNat=bE n+i by omega]
 exact jT (by omega)
theorem Cx (n:ao):(aC n).length=dF n:=ri _ _
theorem zt (x:bf)(w0:World)(hX:fG w0 x)(hS:kK x.n)(hW:nq x.n):
  bN Tryz.prog 19 [x.v] w0 (fun v w=>v= .bool (pB (K3 x.n))/\Ext w0 w):=by
 refine eu Tryz.UX ?_;intro C hp;skip;refine bP hp ?_;intro w b1 hx hp;refine az ?_;refine aI hp ?_
 by_cases aS:aj x.n
 ·have hn:=aS.ei
  obtain⟨n1,n2,n3,n4,n5,n6⟩:=hn
  have hn:=aS.ei
  have vv:=aS.nodes
  have Oo:x.n.af.length=x.af.length:=rfl
  have CH:=Cx x.n
  refine bQ hp Tryz.func68 ((lj x _ hp.dR hS).tt (fj aS)) ?_;intro w hx hp
  refine aM ?_;refine aI hp ?_
  refine cy Tryz.func69 (ss x _ hp.dR aS) ?_;rintro _ w ⟨b3,c3,rfl,hq⟩;have hx:=hq.x;have hp:=hp.bJ hq;refine az ?_;refine aI hp ?_
  refine aR [1,3,14,15,16] (fun(i:Nat)=>[(1,.pointer (some ⟨b1,0,none⟩)),(3,.slice b3 (dF x.n) c3),(14,.slice x.aa x.af.length x.ac),(15,.int .i64 x.af.length),(16,.int .i64 (i:Int))])
   (fun i w'=>i<=x.af.length/\(∀j,j<i->q7 x.n j)/\Hp w0 w' [rO 4 1 eB b3 c3 (aC x.n),rB b1 33 x.cs]) (fun i=>x.af.length-i) 0 rfl ⟨by omega,fun j hj=>by omega,hp⟩ ?_
  rintro i w1 ⟨hi,dL,hp⟩ IH C
  refine bL ?_
  apply ae<;>intro bD
  ·have aF:i<x.af.length:=by omega
   obtain⟨q1,q2,q3,q4⟩:=aS.tH aF
   have ij:=Ev hn aF
   refine aN ?_;refine bb hp ?_
   refine bP hp ?_;intro w b5 hx hp;refine az ?_;(repeat(first|(refine ah ?_;refine aI hp ?_)|(refine aH ?_;refine aW hp ?_;intro w hp;refine az ?_)))
   refine bQ hp Tryz.func70 (iG x _ aS.b) ?_;intro w hx hp;refine ik hp ?_
   (first|apply fx|apply cf)<;>intro h1 e<;>rw[e]<;>clear e;all_goals((repeat(first|(refine aG ?_;first|refine aO ?_|refine ba ?_)|(refine ah ?_;refine aI hp ?_))))
   ·have gM:¬q7 x.n i:=fun h=>by have:=ij.2 h.r;rw[this] at h1;cases h1
    refine aN ?_;refine aq ?_
    exact⟨by rw[zr (fun h=>gM (h.2 i aF))],hp.x⟩
   ·have h1:(aC x.n).getD (aB x.n+(i:Int)).toNat default=true:=by simpa using h1
    (first|apply fx|apply cf)<;>intro h2 e<;>rw[e]<;>clear e;all_goals((repeat(first|(refine aG ?_;first|refine aO ?_|refine ba ?_)|(refine ah ?_;refine aI hp ?_))))
    ·have gM:¬q7 x.n i:=fun h=>by have Te:=h.lt;have e:x.n.af=x.af:=rfl;rw[e] at Te;omega
     refine aN ?_;refine aq ?_
     exact⟨by rw[zr (fun h=>gM (h.2 i aF))],hp.x⟩
    ·(first|apply fx|apply cf)<;>intro h3 e<;>rw[e]<;>clear e;all_goals((repeat(first|(refine aG ?_;first|refine aO ?_|refine ba ?_)|(refine ah ?_;refine aI hp ?_))))
     ·have gM:¬q7 x.n i:=fun h=>by have Te:=h.one;have e:x.n.af=x.af:=rfl;rw[e] at Te;omega
      refine aN ?_;refine aq ?_
      exact⟨by rw[zr (fun h=>gM (h.2 i aF))],hp.x⟩
     ·(first|apply fx|apply cf)<;>intro h4 e<;>rw[e]<;>clear e;all_goals((repeat(first|(refine aG ?_;first|refine aO ?_|refine ba ?_)|(refine ah ?_;refine aI hp ?_))))
      ·apply ae<;>intro h5
       ·have gM:¬q7 x.n i:=fun h=>by have Te:=h.ne;have e:x.n.af=x.af:=rfl;rw[e] at Te;omega
        refine aN ?_;refine aq ?_
        exact⟨by rw[zr (fun h=>gM (h.2 i aF))],hp.x⟩
       ·have tq:Rd w0 (nk x.aa x.ac 2 0) 2 gh (x.af.take i):=⟨Sl.NL hX.af.h (by omega) hX.cap⟩
        have EV:=hX.cap
        refine aM ?_;refine aI hp ?_
        refine aR [1,3,5,14,15,16,58,59,60] (fun(k:Nat)=>[(1,.pointer (some ⟨b1,0,none⟩)),(3,.slice b3 (dF x.n) c3),(5,.pointer (some ⟨b5,0,none⟩)),(14,.slice x.aa x.af.length x.ac),(15,.int .i64 x.af.length),(16,.int .i64 (i:Int)),(58,.slice (nk x.aa x.ac 2 0) i x.ac),(59,.int .i64 (i:Int)),(60,.int .i64 (k:Int))])
         (fun k w'=>k<=i/\(∀j,j<k->x.af.getD j default≠x.af.getD i default)/\Hp w0 w' [rB b5 120 (gh (x.af.getD i default)),rO 4 1 eB b3 c3 (aC x.n),rB b1 33 x.cs]) (fun k=>i-k) 0 rfl ⟨by omega,fun j hj=>by omega,hp⟩ ?_
        rintro k w2 ⟨hk,fD,hp⟩ kE C
        have Ku:(x.af.take i).length=i:=by simp;omega
        have NH:k<i->(x.af.take i).getD k default=x.af.getD k default:=fun h=>by simp[List.getD_eq_getElem?_getD,List.getElem?_take,h]
        refine bL ?_
        apply ae<;>intro jK
        ·have fK:k<i:=by omega
         have NH:=NH fK
         refine aN ?_;refine bb hp ?_
         refine bP hp ?_;intro w b7 hx hp;refine az ?_;(repeat(first|(refine ah ?_;refine aI hp ?_)|(refine aH ?_;refine aW hp ?_;intro w hp;refine az ?_)))
         refine lh (fun he=> ?_) (fun he=> ?_)
         ·have he:x.af.getD k default=x.af.getD i default:=by
           have h2:x.af.getD i default=(x.af.take i).getD k default:=by
            simp only[Bool.and_true,Bool.and_eq_true,decide_eq_true_eq] at he
            first|exact Prod.ext he.1 he.2|exact Prod.ext he.1.symm he.2.symm
           rw[h2,NH]
          have gM:¬q7 x.n i:=fun h=>h.un k fK he
          refine aN ?_;refine aq ?_
          exact⟨by rw[zr (fun h=>gM (h.2 i aF))],hp.x⟩
         ·have he:x.af.getD k default≠x.af.getD i default:=fun h2=>by
           rw[<-NH] at h2
           simp only[Bool.and_true,Bool.and_eq_false_iff,decide_eq_false_iff_not] at he
           rcases he with he|he<;>exact he (by rw[h2])
          refine aM ?_
          refine kE (k+1) _ _ _ (by omega) rfl ⟨by omega,fun j hj=> ?_,hp.drop⟩
          by_cases dC:j<k
          ·exact fD j dC
          ·obtain rfl:j=k:=by omega
           exact he
        ·refine aM ?_
         obtain rfl:k=i:=by omega
         refine IH (k+1) _ _ _ (by omega) rfl ⟨by omega,fun j hj=> ?_,hp.drop⟩
         by_cases dC:j<k
         ·exact dL j dC
         ·obtain rfl:j=k:=by omega
          exact⟨ij.1 h1,by show(x.af.getD j default).1<(x.af.getD j default).2;omega,by show 1<(x.af.getD j default).1;omega,by show¬((x.af.getD j default).1%2=0/\(x.af.getD j default).2=(x.af.getD j default).1+1);omega,fD⟩
      ·have tq:Rd w0 (nk x.aa x.ac 2 0) 2 gh (x.af.take i):=⟨Sl.NL hX.af.h (by omega) hX.cap⟩
       have EV:=hX.cap
       refine aM ?_;refine aI hp ?_
       refine aR [1,3,5,14,15,16,58,59,60] (fun(k:Nat)=>[(1,.pointer (some ⟨b1,0,none⟩)),(3,.slice b3 (dF x.n) c3),(5,.pointer (some ⟨b5,0,none⟩)),(14,.slice x.aa x.af.length x.ac),(15,.int .i64 x.af.length),(16,.int .i64 (i:Int)),(58,.slice (nk x.aa x.ac 2 0) i x.ac),(59,.int .i64 (i:Int)),(60,.int .i64 (k:Int))])
        (fun k w'=>k<=i/\(∀j,j<k->x.af.getD j default≠x.af.getD i default)/\Hp w0 w' [rB b5 120 (gh (x.af.getD i default)),rO 4 1 eB b3 c3 (aC x.n),rB b1 33 x.cs]) (fun k=>i-k) 0 rfl ⟨by omega,fun j hj=>by omega,hp⟩ ?_
       rintro k w2 ⟨hk,fD,hp⟩ kE C
       have Ku:(x.af.take i).length=i:=by simp;omega
       have NH:k<i->(x.af.take i).getD k default=x.af.getD k default:=fun h=>by simp[List.getD_eq_getElem?_getD,List.getElem?_take,h]
       refine bL ?_
       apply ae<;>intro jK
       ·have fK:k<i:=by omega
        have NH:=NH fK
        refine aN ?_;refine bb hp ?_
        refine bP hp ?_;intro w b7 hx hp;refine az ?_;(repeat(first|(refine ah ?_;refine aI hp ?_)|(refine aH ?_;refine aW hp ?_;intro w hp;refine az ?_)))
        refine lh (fun he=> ?_) (fun he=> ?_)
        ·have he:x.af.getD k default=x.af.getD i default:=by
          have h2:x.af.getD i default=(x.af.take i).getD k default:=by
           simp only[Bool.and_true,Bool.and_eq_true,decide_eq_true_eq] at he
           first|exact Prod.ext he.1 he.2|exact Prod.ext he.1.symm he.2.symm
          rw[h2,NH]
         have gM:¬q7 x.n i:=fun h=>h.un k fK he
         refine aN ?_;refine aq ?_
         exact⟨by rw[zr (fun h=>gM (h.2 i aF))],hp.x⟩
        ·have he:x.af.getD k default≠x.af.getD i default:=fun h2=>by
          rw[<-NH] at h2
          simp only[Bool.and_true,Bool.and_eq_false_iff,decide_eq_false_iff_not] at he
          rcases he with he|he<;>exact he (by rw[h2])
         refine aM ?_
         refine kE (k+1) _ _ _ (by omega) rfl ⟨by omega,fun j hj=> ?_,hp.drop⟩
         by_cases dC:j<k
         ·exact fD j dC
         ·obtain rfl:j=k:=by omega
          exact he
       ·refine aM ?_
        obtain rfl:k=i:=by omega
        refine IH (k+1) _ _ _ (by omega) rfl ⟨by omega,fun j hj=> ?_,hp.drop⟩
        by_cases dC:j<k
        ·exact dL j dC
        ·obtain rfl:j=k:=by omega
         exact⟨ij.1 h1,by show(x.af.getD j default).1<(x.af.getD j default).2;omega,by show 1<(x.af.getD j default).1;omega,by show¬((x.af.getD j default).1%2=0/\(x.af.getD j default).2=(x.af.getD j default).1+1);omega,fD⟩
  ·refine aM ?_;refine aq ?_
   obtain rfl:i=x.af.length:=by omega
   exact⟨by rw[K4 ⟨aS,dL⟩],hp.x⟩
 ·refine bQ hp Tryz.func68 ((lj x _ hp.dR hS).ff (cY aS)) ?_;intro w hx hp
  refine aN ?_;refine aq ?_
  exact⟨by rw[zr (fun h=>aS h.1)],hp.x⟩
end Go.Proofs
end
section
namespace Go.Xw
open Go.Proofs
set_option maxHeartbeats 1000000
structure SM (A:List (Int×Int))(i:Nat):Prop where
 lt:(A.getD i default).1<(A.getD i default).2
 one:1<(A.getD i default).1
 ne:¬((A.getD i default).1%2=0/\(A.getD i default).2=(A.getD i default).1+1)
 un:∀k,k<i->A.getD k default≠A.getD i default
def ux (A:List (Int×Int)):Prop:=∀i,i<A.length->SM A i
theorem ux.snoc {A:List (Int×Int)}(h:ux A){x:Int×Int}(h1:x.1<x.2)(h2:1<x.1)(h3:¬(x.1%2=0/\x.2=x.1+1))(h4:x∉A):ux (A++[x]):=by
 intro i hi
 simp at hi
 by_cases mh:i<A.length
 ·obtain⟨a1,a2,a3,a4⟩:=h i mh
  refine⟨?_,?_,?_,fun k hk=> ?_⟩
  ·rw[dd mh];exact a1
  ·rw[dd mh];exact a2
  ·rw[dd mh];exact a3
  ·rw[dd mh,dd (by omega)];exact a4 k hk
 ·obtain rfl:i=A.length:=by omega
  refine⟨?_,?_,?_,fun k hk=> ?_⟩
  ·rw[eh];exact h1
  ·rw[eh];exact h2
  ·rw[eh];exact h3
  ·rw[eh,dd hk]
   intro he
   exact h4 (he▸aK hk)
theorem IC {f:Int}{A:List (Int×Int)}(h:ux A){a b:Int}(ha:0<=a/\a<=1000000)(hb:0<=b/\b<=1000000):ux (gD f A a b).1:=by
 have na:=pf ha.1 (show a<=9223372036854775807 by omega)
 unfold gD
 repeat' split
 all_goals first|exact h|skip
 rename_i h1 h2 h3 h4 h5
 refine h.snoc ?_ ?_ ?_ ?_
 ·show min a b<max a b;omega
 ·show 1<min a b;omega
 ·show¬(min a b%2=0/\max a b=min a b+1)
  split at na<;>omega
 ·intro hm
  exact h4 (List.idxOf_lt_length_of_mem hm)
theorem Hu {n:ao}(h:aj n):∀i,i<=n.af.length->ux (cP n i).1
 |0,_=>fun i hi=>by simp[cP] at hi
 |i+1,hi=>by
  have hB:=ph h i (by omega)
  obtain⟨l1,l2⟩:=kO h (show i<n.af.length by omega) hB
  have f1:=hB.f1
  have f2:=hB.cC
  unfold aD at l1 l2
  exact IC (Hu h i (by omega)) (by omega) (by omega)
def Kept (n:ao)(K:List Bool)(k:Nat):Prop:=k<bE n\/K.getD k default=true
structure SwS (n:ao)(K:List Bool)(i:Nat)(A:List (Int×Int))(T:List Int):Prop where
 leaf:∀k,k<bE n->T.getD k default=2*(k:Int)
 to:∀j,j<i->K.getD (bE n+j) default=true->∃r,r<A.length/\T.getD (bE n+j) default=2*(aB n+(r:Int))/\A.getD r default=(a8 T (n.af.getD j default).1,a8 T (n.af.getD j default).2)
 fro:∀r,r<A.length->∃j,j<i/\K.getD (bE n+j) default=true/\T.getD (bE n+j) default=2*(aB n+(r:Int))
 mono:∀j k,j<k->k<bE n+i->Kept n K j->Kept n K k->T.getD j default<T.getD k default
theorem K5 {n:ao}(h:aj n)(K:List Bool):∀i,i<=n.af.length->SwS n K i (a9 n K i).1 (a9 n K i).2
 |0,_=>⟨fun k hk=>mn hk,fun j hj=>by omega,fun r hr=>by simp[a9] at hr,fun j k hj hk _ _=>by
   show(iH n).getD j default<(iH n).getD k default
   rw[mn (by omega),mn (by omega)];omega⟩
 |i+1,hi=>by
  obtain⟨s1,s2,s3,s4⟩:=K5 h K i (by omega)
  have hB:=nF h K i (by omega)
  have hl:=km n K i
  have f1:=hB.f1
  have f2:=hB.cC
  have g2:=h.ei.f2
  by_cases Mx:K.getD (bE n+i) default=true
  ·have e:a9 n K (i+1)=((a9 n K i).1++[(a8 (a9 n K i).2 (n.af.getD i default).1,a8 (a9 n K i).2 (n.af.getD i default).2)],(a9 n K i).2++[2*(aB n+(a9 n K i).1.length)]):=by rw[a9,if_pos Mx]
   have pJ:∀j,j<=i->a8 ((a9 n K i).2++[2*(aB n+((a9 n K i).1.length:Int))]) (n.af.getD j default).1=a8 (a9 n K i).2 (n.af.getD j default).1/\a8 ((a9 n K i).2++[2*(aB n+((a9 n K i).1.length:Int))]) (n.af.getD j default).2=a8 (a9 n K i).2 (n.af.getD j default).2:=fun j hj=>by
    obtain⟨q1,q2⟩:=h.wk (show j<n.af.length by omega)
    unfold aD at q1 q2
    exact⟨qG (by omega),qG (by omega)⟩
   rw[e]
   dsimp only
   refine⟨fun k hk=> ?_,fun j hj dC=> ?_,fun r hr=> ?_,fun j k hj hk dC p6=> ?_⟩
   ·rw[dd (by omega)];exact s1 k hk
   ·rw[(pJ j (by omega)).1,(pJ j (by omega)).2]
    by_cases Iu:j<i
    ·obtain⟨r,r1,r2,r3⟩:=s2 j Iu dC
     exact⟨r,by simp;omega,by rw[dd (by omega)];exact r2,by rw[dd r1];exact r3⟩
    ·obtain rfl:j=i:=by omega
     exact⟨(a9 n K j).1.length,by simp,by rw[show bE n+j=(a9 n K j).2.length by omega,eh],by rw[eh]⟩
   ·simp at hr
    by_cases KH:r<(a9 n K i).1.length
    ·obtain⟨j,j1,j2,j3⟩:=s3 r KH
     exact⟨j,by omega,j2,by rw[dd (by omega)];exact j3⟩
    ·obtain rfl:r=(a9 n K i).1.length:=by omega
     exact⟨i,by omega,Mx,by rw[show bE n+i=(a9 n K i).2.length by omega,eh]⟩
   ·by_cases vV:k<bE n+i
    ·rw[dd (by omega),dd (by omega)];exact s4 j k hj vV dC p6
    ·obtain rfl:k=(a9 n K i).2.length:=by omega
     have ht:=hB.tok j (by omega)
     unfold aD at ht
     rw[eh,dd (by omega)]
     rcases dC with dC|dC
     ·rw[s1 j dC] at ht⊢;omega
     ·by_cases Iu:j<bE n
      ·rw[s1 j Iu] at ht⊢;omega
      ·obtain⟨r,r1,r2,r3⟩:=s2 (j-bE n) (by omega) (by rw[show bE n+(j-bE n)=j by omega];exact dC)
       rw[show bE n+(j-bE n)=j by omega] at r2
       rw[r2];omega
  ·have e:a9 n K (i+1)=((a9 n K i).1,(a9 n K i).2++[0]):=by rw[a9,if_neg Mx]
   have pJ:∀j,j<i->a8 ((a9 n K i).2++[0]) (n.af.getD j default).1=a8 (a9 n K i).2 (n.af.getD j default).1/\a8 ((a9 n K i).2++[0]) (n.af.getD j default).2=a8 (a9 n K i).2 (n.af.getD j default).2:=fun j hj=>by
    obtain⟨q1,q2⟩:=h.wk (show j<n.af.length by omega)
    unfold aD at q1 q2
    exact⟨qG (by omega),qG (by omega)⟩
   rw[e]
   dsimp only
   have fD:∀j,j<i+1->K.getD (bE n+j) default=true->j<i:=fun j hj dC=>by
    by_cases Iu:j<i
    ·exact Iu
    ·obtain rfl:j=i:=by omega
     exact absurd dC Mx
   refine⟨fun k hk=> ?_,fun j hj dC=> ?_,fun r hr=> ?_,fun j k hj hk dC p6=> ?_⟩
   ·rw[dd (by omega)];exact s1 k hk
   ·have Iu:=fD j hj dC
    rw[(pJ j Iu).1,(pJ j Iu).2]
    obtain⟨r,r1,r2,r3⟩:=s2 j Iu dC
    exact⟨r,r1,by rw[dd (by omega)];exact r2,r3⟩
   ·obtain⟨j,j1,j2,j3⟩:=s3 r hr
    exact⟨j,by omega,j2,by rw[dd (by omega)];exact j3⟩
   ·have vV:k<bE n+i:=by
     rcases p6 with p6|p6
     ·omega
     ·by_cases Ip:k<bE n
      ·omega
      ·have:=fD (k-bE n) (by omega) (by rw[show bE n+(k-bE n)=k by omega];exact p6)
       omega
    rw[dd (by omega),dd (by omega)];exact s4 j k hj vV dC p6
theorem Kept.even {n:ao}{K:List Bool}{i:Nat}{A:List (Int×Int)}{T:List Int}(s:SwS n K i A T){k:Nat}(hk:k<bE n+i)(hK:Kept n K k):T.getD k default%2=0:=by
 by_cases h:k<bE n
 ·rw[s.leaf k h];omega
 ·rcases hK with hK|hK
  ·omega
  ·obtain⟨r,_,r2,_⟩:=s.to (k-bE n) (by omega) (by rw[show bE n+(k-bE n)=k by omega];exact hK)
   rw[show bE n+(k-bE n)=k by omega] at r2
   rw[r2];omega
theorem K6 {T:List Int}{l:Int}(h:T.getD (l/2).toNat default%2=0)(h0:0<=T.getD (l/2).toNat default)(h1:T.getD (l/2).toNat default<=1000000):a8 T l=T.getD (l/2).toNat default+l%2:=by
 rw[BI T h0 (by omega)]
 have e:=pf h0 (show T.getD (l/2).toNat default<=9223372036854775807 by omega)
 rw[if_pos h] at e
 split<;>omega
structure SwP (n:ao)(K:List Bool)(T:List Int):Prop where
 lit:∀l,0<=l->l/2<ag n->Kept n K (l/2).toNat->a8 T l=T.getD (l/2).toNat default+l%2/\T.getD (l/2).toNat default%2=0
 lt:∀l m,0<=l->l<m->m/2<ag n->Kept n K (l/2).toNat->Kept n K (m/2).toNat->a8 T l<a8 T m
 one:∀l,1<l->l/2<ag n->Kept n K (l/2).toNat->1<a8 T l
theorem SN {n:ao}(h:aj n)(K:List Bool):SwP n K (a9 n K n.af.length).2:=by
 have s:=K5 h K _ (Nat.le_refl _)
 have hB:=nF h K n.af.length (Nat.le_refl _)
 have hl:=km n K n.af.length
 have f1:=hB.f1
 have f2:=hB.cC
 have hn:=h.ei
 have n1:=hn.n1
 have n2:=hn.n2
 have n3:=hn.f1
 have pJ:∀l,0<=l->l/2<ag n->Kept n K (l/2).toNat->a8 (a9 n K n.af.length).2 l=(a9 n K n.af.length).2.getD (l/2).toNat default+l%2/\(a9 n K n.af.length).2.getD (l/2).toNat default%2=0:=fun l h0 h1 hK=>by
  have qb:=Kept.even s (k:=(l/2).toNat) (by omega) hK
  have ht:=hB.tok (l/2).toNat (by omega)
  unfold aD at ht
  exact⟨K6 qb ht.1 (by omega),qb⟩
 refine⟨pJ,fun l m h0 h1 h2 k1 k2=> ?_,fun l h1 h2 k1=> ?_⟩
 ·obtain⟨a1,a2⟩:=pJ l h0 (by omega) k1
  obtain⟨b1,b2⟩:=pJ m (by omega) h2 k2
  rw[a1,b1]
  by_cases he:(l/2).toNat=(m/2).toNat
  ·rw[he];omega
  ·have:=s.mono (l/2).toNat (m/2).toNat (by omega) (by omega) k1 k2
   omega
 ·obtain⟨a1,a2⟩:=pJ l (by omega) h2 k1
  have:=s.mono 0 (l/2).toNat (by omega) (by omega) (.inl (by omega)) k1
  rw[s.leaf 0 (by omega)] at this
  rw[a1];omega
theorem A4 {n:ao}(h:aj n){i:Nat}(hi:i<n.af.length)(hK:(aC n).getD (bE n+i) default=true):Kept n (aC n) (kA n i)/\Kept n (aC n) (kB n i):=
 ⟨.inr (kR h hi hK).1,.inr (kR h hi hK).2⟩
theorem F4 {n:ao}(h:aj n)(hN:ux n.af):ux (gE n).af:=by
 have s:=K5 h (aC n) _ (Nat.le_refl _)
 have p:=SN h (aC n)
 have hn:=h.ei
 have n2:=hn.n2
 have n1:=hn.n1
 have g2:=hn.f2
 show ux (a9 n (aC n) n.af.length).1
 generalize (a9 n (aC n) n.af.length).1=A at*
 generalize (a9 n (aC n) n.af.length).2=T at*
 have ij:∀r,r<A.length->∃j,j<n.af.length/\(aC n).getD (bE n+j) default=true/\T.getD (bE n+j) default=2*(aB n+(r:Int))/\A.getD r default=(a8 T (n.af.getD j default).1,a8 T (n.af.getD j default).2):=fun r hr=>by
  obtain⟨j,j1,j2,j3⟩:=s.fro r hr
  obtain⟨r',r1,r2,r3⟩:=s.to j j1 j2
  obtain rfl:r'=r:=by omega
  exact⟨j,j1,j2,j3,r3⟩
 have SO:∀l m,0<=l->0<=m->l/2<ag n->m/2<ag n->Kept n (aC n) (l/2).toNat->Kept n (aC n) (m/2).toNat->a8 T l=a8 T m->l=m:=fun l m h1 h2 h3 h4 k1 k2 he=>by
  rcases Int.lt_trichotomy l m with bD|bD|bD
  ·have:=p.lt l m h1 bD h4 k1 k2;omega
  ·exact bD
  ·have:=p.lt m l h2 bD h3 k2 k1;omega
 intro r hr
 obtain⟨j,j1,j2,j3,j4⟩:=ij r hr
 obtain⟨a1,a2,a3,a4⟩:=hN j j1
 obtain⟨k1,k2⟩:=A4 h j1 j2
 obtain⟨q1,q2⟩:=h.wk j1
 unfold aD at q1 q2
 unfold kA at k1
 unfold kB at k2
 have m1:=p.lit _ (by omega) (by omega) k1
 have m2:=p.lit _ (by omega) (by omega) k2
 have m3:=p.lt _ _ (by omega) a1 (by omega) k1 k2
 have m4:=p.one _ a2 (by omega) k1
 refine⟨by rw[j4];exact m3,by rw[j4];exact m4,?_,fun r2 KH=> ?_⟩
 ·rw[j4]
  dsimp only
  rintro⟨e1,e2⟩
  have m5:=p.lit ((n.af.getD j default).1+1) (by omega) (by omega) (by rw[show((n.af.getD j default).1+1)/2=(n.af.getD j default).1/2 by omega];exact k1)
  rw[show((n.af.getD j default).1+1)/2=(n.af.getD j default).1/2 by omega] at m5
  have m6:=SO (n.af.getD j default).2 ((n.af.getD j default).1+1) (by omega) (by omega) (by omega) (by omega) k2 (by rw[show((n.af.getD j default).1+1)/2=(n.af.getD j default).1/2 by omega];exact k1) (by omega)
  omega
 ·obtain⟨i,i1,i2,i3,i4⟩:=ij r2 (by omega)
  obtain⟨c1,c2⟩:=A4 h i1 i2
  obtain⟨p1,p2⟩:=h.wk i1
  unfold aD at p1 p2
  unfold kA at c1
  unfold kB at c2
  rw[j4,i4]
  intro he
  rw[Prod.mk.injEq] at he
  have e1:=SO _ _ (by omega) (by omega) (by omega) (by omega) c1 k1 he.1
  have e2:=SO _ _ (by omega) (by omega) (by omega) (by omega) c2 k2 he.2
  have e3:n.af.getD i default=n.af.getD j default:=Prod.ext e1 e2
  have kc:i≠j:=fun kc=>by subst kc;omega
  rcases Nat.lt_or_gt_of_ne kc with bD|bD
  ·exact a4 i bD e3
  ·exact(hN i i1).un j bD e3.symm
theorem A5 (n:ao):bE (gE n)=bE n:=by unfold bE gE;rw[nU]
theorem F5 {n:ao}(h:aj n){a b:Nat}(hc:dM n a b):a<dF n->(aC n).getD a default=true->dM (gE n) (((a9 n (aC n) n.af.length).2.getD a default)/2).toNat (((a9 n (aC n) n.af.length).2.getD b default)/2).toNat:=by
 have s:=K5 h (aC n) _ (Nat.le_refl _)
 have p:=SN h (aC n)
 have hn:=h.ei
 have n2:=hn.n2
 have n1:=hn.n1
 have g2:=hn.f2
 have WW:=A5 n
 have hA:(gE n).af=(a9 n (aC n) n.af.length).1:=rfl
 induction hc with
 |refl k=>exact fun _ _=> .refl _
 | @left i k hi _ ih=>
  intro ha hr
  obtain⟨k1,k2⟩:=kR h hi hr
  obtain⟨q1,q2⟩:=h.wk hi
  unfold aD at q1 q2
  have pL:=ih (by have:=hn.ka i hi;omega) k1
  obtain⟨r,r1,r2,r3⟩:=s.to i hi hr
  have m1:=p.lit (n.af.getD i default).1 (by omega) (by omega) (.inr k1)
  have e:kA (gE n) r=(((a9 n (aC n) n.af.length).2.getD (kA n i) default)/2).toNat:=by
   unfold kA
   rw[hA,r3,m1.1]
   dsimp only
   omega
  rw[r2,show((2*(aB n+(r:Int)))/2).toNat=bE (gE n)+r by omega]
  exact .left (by rw[hA];exact r1) (by rw[e];exact pL)
 | @right i k hi _ ih=>
  intro ha hr
  obtain⟨k1,k2⟩:=kR h hi hr
  obtain⟨q1,q2⟩:=h.wk hi
  unfold aD at q1 q2
  have pL:=ih (by have:=hn.kb i hi;omega) k2
  obtain⟨r,r1,r2,r3⟩:=s.to i hi hr
  have m1:=p.lit (n.af.getD i default).2 (by omega) (by omega) (.inr k2)
  have e:kB (gE n) r=(((a9 n (aC n) n.af.length).2.getD (kB n i) default)/2).toNat:=by
   unfold kB
   rw[hA,r3,m1.1]
   dsimp only
   omega
  rw[r2,show((2*(aB n+(r:Int)))/2).toNat=bE (gE n)+r by omega]
  exact .right (by rw[hA];exact r1) (by rw[e];exact pL)
theorem zS {n:ao}(h:aj n){r:Nat}(hr:r<(gE n).af.length):ow (gE n) (bE (gE n)+r):=by
 have s:=K5 h (aC n) _ (Nat.le_refl _)
 have p:=SN h (aC n)
 have hn:=h.ei
 have n2:=hn.n2
 have n1:=hn.n1
 have g2:=hn.f2
 have WW:=A5 n
 have hA:(gE n).af=(a9 n (aC n) n.af.length).1:=rfl
 rw[hA] at hr
 obtain⟨j,j1,j2,j3⟩:=s.fro r hr
 obtain⟨q,q1,q2⟩:=(jT (m:=dF n) (by omega)).1 j2
 have O4:=yC h (aK q1)
 have bD:=(h.root _ (aK q1)).nat hn
 have h0:=h.root _ (aK q1)
 unfold aD at h0
 have hc:=F5 h q2 bD O4
 have m1:=p.lit ((bc n).getD q default) (by omega) (by omega) (.inr O4)
 refine⟨q,?_,?_⟩
 ·show q<(bc (jI n _ _)).length
  rw[AJ,List.length_map];exact q1
 ·show dM _ (((bc (jI n (a9 n (aC n) n.af.length).1 (a9 n (aC n) n.af.length).2)).getD q default)/2).toNat _
  rw[AJ,hH q1,m1.1,show(((a9 n (aC n) n.af.length).2.getD ((bc n).getD q default/2).toNat default+(bc n).getD q default%2)/2).toNat=(((a9 n (aC n) n.af.length).2.getD ((bc n).getD q default/2).toNat default)/2).toNat by omega]
  rw[j3,show((2*(aB n+(r:Int)))/2).toNat=bE (gE n)+r by omega] at hc
  exact hc
theorem SP {n:ao}(h:aj n):K3 (tU n):=by
 refine⟨Dk h,fun i hi=> ?_⟩
 obtain⟨a1,a2,a3,a4⟩:=F4 (rn h) (Hu h _ (Nat.le_refl _)) i hi
 exact⟨zS (rn h) hi,a1,a2,a3,a4⟩
end Go.Xw
end
