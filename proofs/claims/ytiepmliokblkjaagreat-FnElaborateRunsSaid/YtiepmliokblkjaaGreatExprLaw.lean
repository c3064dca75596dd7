/- Texts that belong together; each under its stated conditions. -/
import Derived.Test.YtiepmliokblkjaaGreatBrf
import Derived.Test.YtiepmliokblkjaaGreatAddLaw
set_option linter.all false
section
namespace Go.Xw
def bf.wA (y:bf)(aa:Option Addr)(ac:Nat)(l:List (Int×Int)):bf:=⟨y.aT,y.au,y.sa,y.sc,l,aa,ac,y.outs,y.oa,y.oc⟩
class Bk (w0:World)(b:Nat)(t:outParam TypeId)(cs:outParam (List Value)):Prop where
 h:jZ w0 b t cs
instance (priority:=low) Bp.base {w0:World}{L:List bh}{b:Nat}{t:TypeId}{cs:List Value}[h:Bk w0 b t cs]:Bp w0 L b t cs:=⟨fun _ hp=>h.h.ext hp.x⟩
theorem bf.Mj (y:bf)(aa:Option Addr)(ac:Nat){r:ao×Int}(h:r.1={y.n with af:=r.1.af}):(y.wA aa ac r.1.af).n=r.1:=by rw[h];rfl
end Go.Xw
namespace Go.Proofs
open Go.Xw
set_option maxRecDepth 100000
set_option maxHeartbeats 1000000
attribute [local irreducible] ax aE
theorem mK (y:bf)(p:Nat)(a b:Int){w0 w:World}{L:List bh}(hp:Hp w0 w (rB p 33 y.cs::rO 120 2 gh y.aa y.ac y.af::L))(hb:xL y)(hl:y.af.length<=1000000)(ha:0<=a/\a<=1000000)(A7:0<=b/\b<=1000000):
  bN Tryz.prog 106 [.pointer (some ⟨p,0,none⟩),.int .i64 a,.int .i64 b] w (fun v w'=>∃aa ac,v= .int .i64 (ay y.n a b).2/\Hp w0 w' (rB p 33 (y.wA aa ac (ay y.n a b).1.af).cs::rO 120 2 gh aa ac (ay y.n a b).1.af::L)):=by
 have hnc:=pf ha.1 (by omega)
 have Om:∀v,cS a=v↔bits .xor .i64 a 1=v:=fun v=> .rfl
 refine vJ Tryz.Qh ?_;intro C
 (first|apply fx|apply cf)<;>intro h1 e<;>rw[e]<;>clear e;all_goals((repeat(refine aG ?_;first|refine aO ?_|refine ba ?_)))
 ·refine aN ?_;refine aq ?_
  have e:ay y.n a b=(y.n,0):=by unfold ay;rw[if_pos (.inl h1)]
  rw[e]
  exact⟨y.aa,y.ac,rfl,hp⟩
 ·(first|apply fx|apply cf)<;>intro h2 e<;>rw[e]<;>clear e;all_goals((repeat(refine aG ?_;first|refine aO ?_|refine ba ?_)))
  ·refine aN ?_;refine aq ?_
   have e:ay y.n a b=(y.n,0):=by unfold ay;rw[if_pos (.inr (.inl h2))]
   rw[e]
   exact⟨y.aa,y.ac,rfl,hp⟩
  ·apply ae<;>intro h3
   ·refine aN ?_;refine aq ?_
    have e:ay y.n a b=(y.n,0):=by unfold ay;rw[if_pos (.inr (.inr h3))]
    rw[e]
    exact⟨y.aa,y.ac,rfl,hp⟩
   ·have e0:¬(a=0\/b=0\/cS a=b):=fun h=>h.elim h1 fun h=>h.elim h2 h3
    refine aM ?_
    (first|apply fx|apply cf)<;>intro h4 e<;>rw[e]<;>clear e;all_goals((repeat(refine aG ?_;first|refine aO ?_|refine ba ?_)))
    ·refine aN ?_;refine aq ?_
     have e:ay y.n a b=(y.n,b):=by unfold ay;rw[if_neg e0,if_pos (.inl h4)]
     rw[e]
     exact⟨y.aa,y.ac,rfl,hp⟩
    ·apply ae<;>intro h5
     ·refine aN ?_;refine aq ?_
      have e:ay y.n a b=(y.n,b):=by unfold ay;rw[if_neg e0,if_pos (.inr h5)]
      rw[e]
      exact⟨y.aa,y.ac,rfl,hp⟩
     ·refine aM ?_
      apply ae<;>intro h6
      ·refine aN ?_;refine aq ?_
       have e:ay y.n a b=(y.n,a):=by unfold ay;rw[if_neg e0,if_neg (fun h=>h.elim h4 h5),if_pos h6]
       rw[e]
       exact⟨y.aa,y.ac,rfl,hp⟩
      ·have e1:ay y.n a b=if y.af.idxOf (min a b,max a b)<y.af.length then(y.n,2*(aB y.n+(y.af.idxOf (min a b,max a b):Nat)))
         else if 300<=y.af.length then(y.n,-1) else({y.n with af:=y.af++[(min a b,max a b)]},2*ag y.n):=by
        unfold ay;rw[if_neg e0,if_neg (fun h=>h.elim h4 h5),if_neg h6];rfl
       refine aM ?_
       refine bP hp ?_;intro w b7 hx hp;refine az ?_;(repeat(first|(refine ah ?_;refine aI hp ?_)|(refine aH ?_;refine aW hp ?_;intro w hp;refine az ?_)))
       refine aR [0,7,46,47,48] (fun(i:Nat)=>[(0,.pointer (some ⟨p,0,none⟩)),(7,.pointer (some ⟨b7,0,none⟩)),(46,.slice y.aa y.af.length y.ac),(47,.int .i64 y.af.length),(48,.int .i64 (i:Int))])
        (fun i w'=>i<=y.af.length/\(∀j,j<i->y.af.getD j default≠(min a b,max a b))/\Hp w0 w' (rB b7 120 (gh (min a b,max a b))::rB p 33 y.cs::rO 120 2 gh y.aa y.ac y.af::L)) (fun i=>y.af.length-i) 0 rfl ⟨by omega,fun j hj=>by omega,hp⟩ ?_
       rintro i w2 ⟨hi,fD,hp⟩ IH C
       refine bL ?_
       apply ae<;>intro bD
       ·have aF:i<y.af.length:=by omega
        refine aN ?_;refine bb hp ?_
        refine bP hp ?_;intro w b9 hx hp;refine az ?_;(repeat(first|(refine ah ?_;refine aI hp ?_)|(refine aH ?_;refine aW hp ?_;intro w hp;refine az ?_)))
        refine lh (fun he=> ?_) (fun he=> ?_)
        ·have he:y.af.getD i default=(min a b,max a b):=by
          simp only[Bool.and_true,Bool.and_eq_true,decide_eq_true_eq] at he
          first|exact Prod.ext he.1 he.2|exact Prod.ext he.1.symm he.2.symm
         have Db:=C9 fD aF he
         refine aN ?_;refine aI hp ?_
         have E9:=eD y
         obtain⟨g1,g2,g3⟩:=id hb
         refine bQ hp Tryz.func70 (iG y _ hb) ?_;intro w hx hp;refine aq ?_
         rw[e1,Db,if_pos aF]
         skip
         exact⟨y.aa,y.ac,rfl,hp.drop.drop⟩
        ·have he:y.af.getD i default≠(min a b,max a b):=fun h2=>by
          simp only[Bool.and_true,Bool.and_eq_false_iff,decide_eq_false_iff_not] at he
          rcases he with he|he<;>exact he (by rw[h2])
         refine aM ?_
         refine IH (i+1) _ _ _ (by omega) rfl ⟨by omega,fun j hj=> ?_,hp.drop⟩
         by_cases dC:j<i
         ·exact fD j dC
         ·obtain rfl:j=i:=by omega
          exact he
       ·obtain rfl:i=y.af.length:=by omega
        have Db:=xR fD
        refine aM ?_;refine aI hp ?_
        apply ae<;>intro h7
        ·refine aN ?_;refine aq ?_
         rw[e1,if_neg Db,if_pos (by omega)]
         exact⟨y.aa,y.ac,rfl,hp.drop⟩
        ·refine aM ?_
         refine j7 hp ?_;intro w hx hp;have hs:=hp;(repeat(refine dN ?_))
         refine CZ (fun _ hx=>hs.ext hx) hp gh [(min a b,max a b)] rfl rfl rfl rfl (s:=2) rfl (by decide) (by infer_instance) (by rfl) (by rfl) (by rfl) (by decide) ?_;intro w b8 hx hp;have hs:=hs.ext hx;refine fO ?_
         refine gW hp rfl rfl rfl rfl rfl rfl rfl (by decide) rfl (zl) rfl rfl (by kernel_rfl) ?_;intro b' c' w hp bZ;refine fO ?_;refine Ah hp rfl rfl rfl rfl (by kernel_rfl) ?_;intro w hp;refine fO ?_
         have SW:xL (y.wA b' c' (y.af++[(min a b,max a b)])):=⟨hb.1,hb.2,by show(y.af++_).length<=_;simp;omega⟩
         have vv:ag (y.wA b' c' (y.af++[(min a b,max a b)])).n=ag y.n+1:=by rw[iU,iU];show 1+y.aT+y.au.length+((y.af++_).length:Nat)=_;simp;omega
         have hnd2:=iU y
         obtain⟨g1,g2,g3⟩:=id hb
         refine aI hp ?_
         refine bQ hp Tryz.func128 (jS (y.wA b' c' (y.af++[(min a b,max a b)])) _ SW) ?_;intro w hx hp;refine aq ?_
         rw[e1,if_neg Db,if_neg (by omega)]
         refine⟨b',c',by congr 1;omega,?_⟩
         exact hp.drop.drop
theorem JC (y:bf)(p:Nat)(a b:Int){w0 w:World}{L F:List bh}(hp:Hp w0 w ((rB p 33 y.cs::rO 120 2 gh y.aa y.ac y.af::L)++F))(hb:xL y)(hl:y.af.length<=1000000)(ha:0<=a/\a<=1000000)(A7:0<=b/\b<=1000000):
  bN Tryz.prog 106 [.pointer (some ⟨p,0,none⟩),.int .i64 a,.int .i64 b] w (fun v w'=>∃aa ac,v= .int .i64 (ay y.n a b).2/\Hp w0 w' ((rB p 33 (y.wA aa ac (ay y.n a b).1.af).cs::rO 120 2 gh aa ac (ay y.n a b).1.af::L)++F)):=
 mK (L:=L++F) y p a b hp hb hl ha A7
theorem By (y:bf)(p:Nat)(a b:Int){w0 w:World}{L:List bh}(hp:Hp w0 w (rB p 33 y.cs::rO 120 2 gh y.aa y.ac y.af::L))(aS:aj y.n)(ha:aD a (ag y.n))(hb:aD b (ag y.n)):
  bN Tryz.prog 153 [.pointer (some ⟨p,0,none⟩),.int .i64 a,.int .i64 b] w (fun v w'=>∃aa ac,v= .int .i64 (cF y.n a b).2/\Hp w0 w' (rB p 33 (y.wA aa ac (cF y.n a b).1.af).cs::rO 120 2 gh aa ac (cF y.n a b).1.af::L)):=by
 have hc:=aS.count
 have hs:=aS.jR
 have On:=ha
 have rN:=hb
 unfold aD at On rN
 have na:=xO On.1 (by omega)
 have nb:=xO rN.1 (by omega)
 have la:=cN ha (by omega)
 have lb:=cN hb (by omega)
 have g:=dw aS la lb
 have gb:=g.b
 refine vJ Tryz.QQ ?_;intro C
 refine cy Tryz.func106 (mK y p (cS a) (cS b) hp aS.b (by omega) (by omega) (by omega)) ?_;rintro _ w ⟨aa,ac,rfl,hp⟩;refine az ?_
 apply ae<;>intro h0
 ·refine aN ?_;refine aq ?_
  have e:cF y.n a b=((ay y.n (cS a) (cS b)).1,-1):=by unfold cF Lb;rw[if_pos h0]
  rw[e]
  exact⟨aa,ac,rfl,hp⟩
 ·refine aM ?_;refine aq ?_
  have e:cF y.n a b=((ay y.n (cS a) (cS b)).1,cS (ay y.n (cS a) (cS b)).2):=by unfold cF Lb;rw[if_neg h0]
  rw[e]
  exact⟨aa,ac,rfl,hp⟩
noncomputable def dG (n:ao)(lits:List Int)(r:ao×Int):ao×Int:= @ite _ (aj n/\∀l,l∈lits->aD l (ag n)) (Classical.propDecidable _) (E8 n r) (n,-1)
theorem ga {n:ao}{lits:List Int}{r:ao×Int}(h:¬(aj n/\∀l,l∈lits->aD l (ag n))):dG n lits r=(n,-1):=by unfold dG;rw[if_neg h]
theorem gZ {n:ao}{lits:List Int}{r:ao×Int}(h:aj n/\∀l,l∈lits->aD l (ag n))(h2:r.2<0):dG n lits r=(n,-1):=by unfold dG E8;rw[if_pos h,if_pos h2]
theorem dS {n:ao}{lits:List Int}{r:ao×Int}(h:aj n/\∀l,l∈lits->aD l (ag n))(h2:¬r.2<0):dG n lits r=r:=by unfold dG E8;rw[if_pos h,if_neg h2]
theorem eF (x:bf)(a b:Int)(w0:World)(hX:fG w0 x)(hS:kK x.n)(hW:nq x.n)(ha:da a)(hb:da b):
  bN Tryz.prog 86 [x.v,.int .i64 a,.int .i64 b] w0 (fun v w=>∃y,(y.n=(dG x.n [a,b] (ay x.n a b)).1/\v= .tuple ⟨[y.v,.int .i64 (dG x.n [a,b] (ay x.n a b)).2]⟩)/\Hp w0 w [dv y]):=by
 refine eu Tryz.Vy ?_;intro C hp;skip;refine bP hp ?_;intro w b3 hx hp;refine az ?_;skip;refine bP hp ?_;intro w b6 hx hp;refine az ?_;refine aI hp ?_
 refine cy Tryz.func80 (cq x _ hp.dR hS) ?_;rintro _ w ⟨y,⟨hy,rfl⟩,hq⟩;have hx:=hq.x;have hp:=hp.bJ hq;refine az ?_
 refine bP hp ?_;intro w b8 hx hp;refine az ?_;(repeat(first|(refine ah ?_;refine aI hp ?_)|(refine aH ?_;refine aW hp ?_;intro w hp;refine az ?_)))
 have E':y.af=x.af:=congrArg ao.af hy
 refine bQ hp Tryz.func82 (gY x _) ?_;intro w hx hp;refine aI hp ?_
 by_cases aS:aj x.n
 ·have hc:=aS.count
  rw[show cM x.n=ag x.n from if_pos aS.size]
  refine bQ hp Tryz.func77 ((eZ x _ hp.dR hS hW).tt (fj aS)) ?_;intro w hx hp;(repeat(refine aO ?_))
  by_cases la:aD a (ag x.n)
  ·refine bQ hp Tryz.func81 ((eV a _ _ ha).yes la) ?_;intro w hx hp;(repeat(refine aO ?_))
   by_cases lb:aD b (ag x.n)
   ·refine bQ hp Tryz.func81 ((eV b _ _ hb).yes lb) ?_;intro w hx hp;refine aO ?_
    have hl:∀l,l∈[a,b]->aD l (ag x.n):=fun l h=>by simp at h;rcases h with rfl|rfl<;>assumption
    have la':=la
    have lb':=lb
    unfold aD at la' lb'
    have Om:=JB la'.1 (by omega) lb'.1 (by omega)
    refine aM ?_
    (first|apply fx|apply cf)<;>intro h1 e<;>rw[e]<;>clear e;all_goals((repeat(refine aG ?_;first|refine aO ?_|refine ba ?_)))
    ·refine aN ?_;(repeat(first|(refine ah ?_;refine aI hp ?_)|(refine aH ?_;refine aW hp ?_;intro w hp;refine az ?_)|(refine dA ?_;refine bg hp rfl ?_)))
     have e:ay x.n a b=(x.n,0):=by unfold ay;rw[if_pos (.inl h1)]
     rw[dS ⟨aS,hl⟩ (by rw[e];dsimp only;omega),e]
     exact⟨y,⟨hy,rfl⟩,hp.sub (by simp)⟩
    ·(first|apply fx|apply cf)<;>intro h2 e<;>rw[e]<;>clear e;all_goals((repeat(refine aG ?_;first|refine aO ?_|refine ba ?_)))
     ·refine aN ?_;(repeat(first|(refine ah ?_;refine aI hp ?_)|(refine aH ?_;refine aW hp ?_;intro w hp;refine az ?_)|(refine dA ?_;refine bg hp rfl ?_)))
      have e:ay x.n a b=(x.n,0):=by unfold ay;rw[if_pos (.inr (.inl h2))]
      rw[dS ⟨aS,hl⟩ (by rw[e];dsimp only;omega),e]
      exact⟨y,⟨hy,rfl⟩,hp.sub (by simp)⟩
     ·apply ae<;>intro h3
      ·refine aN ?_;(repeat(first|(refine ah ?_;refine aI hp ?_)|(refine aH ?_;refine aW hp ?_;intro w hp;refine az ?_)|(refine dA ?_;refine bg hp rfl ?_)))
       have e:ay x.n a b=(x.n,0):=by unfold ay;rw[if_pos (.inr (.inr (Om.2 h3)))]
       rw[dS ⟨aS,hl⟩ (by rw[e];dsimp only;omega),e]
       exact⟨y,⟨hy,rfl⟩,hp.sub (by simp)⟩
      ·have e0:¬(a=0\/b=0\/cS a=b):=fun h=>h.elim h1 fun h=>h.elim h2 fun h=>h3 (Om.1 h)
       refine aM ?_
       (first|apply fx|apply cf)<;>intro h4 e<;>rw[e]<;>clear e;all_goals((repeat(refine aG ?_;first|refine aO ?_|refine ba ?_)))
       ·refine aN ?_;(repeat(first|(refine ah ?_;refine aI hp ?_)|(refine aH ?_;refine aW hp ?_;intro w hp;refine az ?_)|(refine dA ?_;refine bg hp rfl ?_)))
        have e:ay x.n a b=(x.n,b):=by unfold ay;rw[if_neg e0,if_pos (.inl h4)]
        rw[dS ⟨aS,hl⟩ (by rw[e];dsimp only;omega),e]
        exact⟨y,⟨hy,rfl⟩,hp.sub (by simp)⟩
       ·apply ae<;>intro h5
        ·refine aN ?_;(repeat(first|(refine ah ?_;refine aI hp ?_)|(refine aH ?_;refine aW hp ?_;intro w hp;refine az ?_)|(refine dA ?_;refine bg hp rfl ?_)))
         have e:ay x.n a b=(x.n,b):=by unfold ay;rw[if_neg e0,if_pos (.inr h5)]
         rw[dS ⟨aS,hl⟩ (by rw[e];dsimp only;omega),e]
         exact⟨y,⟨hy,rfl⟩,hp.sub (by simp)⟩
        ·refine aM ?_
         apply ae<;>intro h6
         ·refine aN ?_;(repeat(first|(refine ah ?_;refine aI hp ?_)|(refine aH ?_;refine aW hp ?_;intro w hp;refine az ?_)|(refine dA ?_;refine bg hp rfl ?_)))
          have e:ay x.n a b=(x.n,a):=by unfold ay;rw[if_neg e0,if_neg (fun h=>h.elim h4 h5),if_pos h6]
          rw[dS ⟨aS,hl⟩ (by rw[e];dsimp only;omega),e]
          exact⟨y,⟨hy,rfl⟩,hp.sub (by simp)⟩
         ·have e1:ay x.n a b=if x.af.idxOf (min a b,max a b)<x.af.length then(x.n,2*(aB x.n+(x.af.idxOf (min a b,max a b):Nat)))
            else if 300<=x.af.length then(x.n,-1) else({x.n with af:=x.af++[(min a b,max a b)]},2*ag x.n):=by
           unfold ay;rw[if_neg e0,if_neg (fun h=>h.elim h4 h5),if_neg h6];rfl
          have iA:=aS.jR
          refine aM ?_
          refine bP hp ?_;intro w ng hx hp;refine az ?_;refine aW hp ?_;intro w hp;refine az ?_
          refine aR [3,6,8,9,10,11] (fun(i:Nat)=>[(3,.pointer (some ⟨b3,0,none⟩)),(6,.pointer (some ⟨b6,0,none⟩)),(8,.pointer (some ⟨b8,0,none⟩)),(9,.int .i64 (ag x.n)),(10,.pointer (some ⟨ng,0,none⟩)),(11,.int .i64 (i:Int))])
           (fun i w'=>i<=x.af.length/\(∀j,j<i->x.af.getD j default≠(min a b,max a b))/\Hp w0 w' [rB ng 120 (gh (min a b,max a b)),rB b8 33 y.cs,dv y,rB b6 33 (aL Tryz.dY.zero),rB b3 33 x.cs]) (fun i=>x.af.length-i) 0 rfl ⟨by omega,fun j hj=>by omega,hp⟩ ?_
          rintro i w2 ⟨hi,fD,hp⟩ IH C
          refine bL ?_;refine aI hp ?_
          apply ae<;>intro bD
          ·have aF:i<x.af.length:=by omega
           refine aN ?_
           refine j7 hp ?_;intro w hx hp;have hs:=hp;(repeat(refine ah ?_;first|refine dN ?_|refine fc ?_))
           refine lh (fun he=> ?_) (fun he=> ?_)
           ·have he:x.af.getD i default=(min a b,max a b):=by
             simp only[Bool.and_true,Bool.and_eq_true,decide_eq_true_eq] at he
             first|exact Prod.ext he.1 he.2|exact Prod.ext he.1.symm he.2.symm
            have Db:=C9 fD aF he
            refine aN ?_
            refine j7 hp ?_;intro w hx hp;have hs:=hp;(repeat(refine dN ?_))
            refine oW Tryz.func137 (jG x _ aS.b) ?_;rintro _ w ⟨rfl,hx⟩;have hp:=hp.ext hx;have hs:=hs.ext hx;refine⟨fun _=>hs,?_⟩;refine fO ?_;refine uT hp rfl rfl rfl rfl (by kernel_rfl) ?_;intro w hp;refine fO ?_;refine bg hp rfl ?_
            have e:ay x.n a b=(x.n,2*(aB x.n+(i:Int))):=by rw[e1,Db,if_pos aF]
            rw[dS ⟨aS,hl⟩ (by rw[e];dsimp only;omega),e]
            exact⟨y,⟨hy,rfl⟩,hp.sub (by simp)⟩
           ·have he:x.af.getD i default≠(min a b,max a b):=fun h2=>by
             simp only[Bool.and_true,Bool.and_eq_false_iff,decide_eq_false_iff_not] at he
             rcases he with he|he<;>exact he (by rw[h2])
            refine aM ?_
            refine IH (i+1) _ _ _ (by omega) rfl ⟨by omega,fun j hj=> ?_,hp⟩
            by_cases dC:j<i
            ·exact fD j dC
            ·obtain rfl:j=i:=by omega
             exact he
          ·obtain rfl:i=x.af.length:=by omega
           have Db:=xR fD
           refine aM ?_;refine aI hp ?_
           apply ae<;>intro h7
           ·refine aN ?_;(repeat(first|(refine ah ?_;refine aI hp ?_)|(refine aH ?_;refine aW hp ?_;intro w hp;refine az ?_)|(refine dA ?_;refine bg hp rfl ?_)))
            have e:ay x.n a b=(x.n,-1):=by rw[e1,if_neg Db,if_pos (by omega)]
            rw[gZ ⟨aS,hl⟩ (by rw[e];exact(by decide:(-1:Int)<0))]
            exact⟨y,⟨hy,rfl⟩,hp.sub (by simp)⟩
           ·have hp:=kI hp.f2
            have hlen:y.af.length=x.af.length:=by rw[E']
            have e:ay x.n a b=({x.n with af:=x.af++[(min a b,max a b)]},2*ag x.n):=by rw[e1,if_neg Db,if_neg (by omega)]
            refine aM ?_;(repeat(refine aI hp ?_))
            refine lX hp gh [(min a b,max a b)] ?_;intro w b8' hx hp;refine az ?_
            refine gT hp ?_;intro b' c' w hp bZ;refine az ?_;(repeat(first|(refine ah ?_;refine aI hp ?_)|(refine aH ?_;(first|refine iE hp ?_|refine aW hp ?_);intro w hp;refine az ?_)|(refine dA ?_;refine bg hp rfl ?_)))
            rw[dS ⟨aS,hl⟩ (by rw[e];dsimp only;omega),e]
            refine⟨y.wA b' c' (y.af++[(min a b,max a b)]),⟨?_,rfl⟩,?_⟩
            ·rw[E',<-hy];rfl
            ·exact Hp.sub (fe (x:=y.wA b' c' (y.af++[(min a b,max a b)])) hp.drop) (by simp)
   ·refine bQ hp Tryz.func81 ((eV b _ _ hb).no lb) ?_;intro w hx hp;refine aO ?_
    have gM:¬(aj x.n/\∀l,l∈[a,b]->aD l (ag x.n)):=fun h=>lb (h.2 b (by simp))
    refine aN ?_;(repeat(first|(refine ah ?_;refine aI hp ?_)|(refine aH ?_;refine aW hp ?_;intro w hp;refine az ?_)|(refine dA ?_;refine bg hp rfl ?_)))
    rw[ga gM]
    exact⟨y,⟨hy,rfl⟩,hp.sub (by simp)⟩
  ·refine bQ hp Tryz.func81 ((eV a _ _ ha).no la) ?_;intro w hx hp;(repeat(refine aG ?_;first|refine aO ?_|refine ba ?_))
   have gM:¬(aj x.n/\∀l,l∈[a,b]->aD l (ag x.n)):=fun h=>la (h.2 a (by simp))
   refine aN ?_;(repeat(first|(refine ah ?_;refine aI hp ?_)|(refine aH ?_;refine aW hp ?_;intro w hp;refine az ?_)|(refine dA ?_;refine bg hp rfl ?_)))
   rw[ga gM]
   exact⟨y,⟨hy,rfl⟩,hp.sub (by simp)⟩
 ·refine bQ hp Tryz.func77 ((eZ x _ hp.dR hS hW).ff (cY aS)) ?_;intro w hx hp;(repeat(refine ba ?_))
  have gM:¬(aj x.n/\∀l,l∈[a,b]->aD l (ag x.n)):=fun h=>aS h.1
  refine aN ?_;(repeat(first|(refine ah ?_;refine aI hp ?_)|(refine aH ?_;refine aW hp ?_;intro w hp;refine az ?_)|(refine dA ?_;refine bg hp rfl ?_)))
  rw[ga gM]
  exact⟨y,⟨hy,rfl⟩,hp.sub (by simp)⟩
theorem Rw {n:ao}{lits:List Int}{r:ao×Int}(h:kK n)(g:aj n->(∀l,l∈lits->aD l (ag n))->iv n r):kK (dG n lits r).1:=by
 by_cases hh:aj n/\∀l,l∈lits->aD l (ag n)
 ·by_cases h2:r.2<0
  ·rw[gZ hh h2];exact h
  ·rw[dS hh h2];exact(g hh.1 hh.2).ok.S'
 ·rw[ga hh];exact h
theorem cO {n:ao}{a b:Int}:(∀l,l∈[a,b]->aD l (ag n))↔aD a (ag n)/\aD b (ag n):=by simp
theorem wK {n:ao}(h:kK n)(a b:Int):kK (dG n [a,b] (ay n a b)).1:=Rw h fun h hl=>dw h (hl a (by simp)) (hl b (by simp))
def fb (a:Int):Int:=if a<0 then-2 else cS a
theorem xS {a:Int}(h:da a):da (fb a):=by
 unfold fb
 split
 ·unfold da;omega
 ·have:=xO (a:=a) (by omega) h.2
  unfold da;omega
theorem xT {a k:Int}(h:da a):aD (fb a) k↔aD a k:=by
 unfold fb
 split
 ·unfold aD;omega
 ·exact tI h (by omega)
theorem mL {a k:Int}(h:aD a k):fb a=cS a:=by unfold aD at h;unfold fb;rw[if_neg (by omega)]
theorem mM (a:Int)(w0:World):bN Tryz.prog 172 [.int .i64 a] w0 (fun v w'=>v= .int .i64 (fb a)/\Ext w0 w'):=by
 refine eu Tryz.Rb ?_;intro C hp
 apply ae<;>intro h
 ·refine aN ?_;refine aq ?_
  exact⟨by rw[fb,if_pos h],hp.x⟩
 ·refine aM ?_;refine aq ?_
  exact⟨by rw[fb,if_neg h];rfl,hp.x⟩
theorem Mk {n:ao}{a b:Int}(ha:da a)(hb:da b):dG n [a,b] (cF n a b)=
  if(dG n [fb a,fb b] (ay n (fb a) (fb b))).2<0 then(n,-1) else((dG n [fb a,fb b] (ay n (fb a) (fb b))).1,cS (dG n [fb a,fb b] (ay n (fb a) (fb b))).2):=by
 by_cases hh:aj n/\∀l,l∈[a,b]->aD l (ag n)
 ·have hl:=cO.1 hh.2
  have Rx:aj n/\∀l,l∈[cS a,cS b]->aD l (ag n):=⟨hh.1,cO.2 ⟨(tI ha hl.1.1).2 hl.1,(tI hb hl.2.1).2 hl.2⟩⟩
  rw[mL hl.1,mL hl.2]
  by_cases h2:(ay n (cS a) (cS b)).2<0
  ·have e:cF n a b=((ay n (cS a) (cS b)).1,-1):=by unfold cF Lb;rw[if_pos h2]
   rw[gZ hh (by rw[e];exact(by decide:(-1:Int)<0)),gZ Rx h2]
   rfl
  ·have hc:=hh.1.count
   have g:=dw Rx.1 (cO.1 Rx.2).1 (cO.1 Rx.2).2
   have gc:=g.ok.count
   have gl:=g.aD h2
   have gl2:=cN gl (by omega)
   unfold Go.Xw.aD at gl2
   have e:cF n a b=((ay n (cS a) (cS b)).1,cS (ay n (cS a) (cS b)).2):=by unfold cF Lb;rw[if_neg h2]
   rw[dS hh (by rw[e];dsimp only;omega),dS Rx h2,if_neg h2,e]
 ·have Rx:¬(aj n/\∀l,l∈[fb a,fb b]->aD l (ag n)):=fun h=>hh ⟨h.1,cO.2 ⟨(xT ha).1 (cO.1 h.2).1,(xT hb).1 (cO.1 h.2).2⟩⟩
  rw[ga hh,ga Rx]
  rfl
theorem nD (x:bf)(a b:Int)(w0:World)(hX:fG w0 x)(hS:kK x.n)(hW:nq x.n)(ha:da a)(hb:da b):
  bN Tryz.prog 144 [x.v,.int .i64 a,.int .i64 b] w0 (fun v w=>∃y,(y.n=(dG x.n [a,b] (cF x.n a b)).1/\v= .tuple ⟨[y.v,.int .i64 (dG x.n [a,b] (cF x.n a b)).2]⟩)/\Hp w0 w [dv y]):=by
 rw[Mk ha hb]
 refine eu Tryz.QJ ?_;intro C hp;skip;refine bP hp ?_;intro w b3 hx hp;refine az ?_;skip;refine bP hp ?_;intro w b6 hx hp;refine az ?_
 refine fR hp ?_;refine fy ?_
 refine j8 Tryz.func172 (fun F w hp=> ?_);refine bN.mono (mM a _) ?_;rintro _ w ⟨rfl,hx⟩;have hp:=hp.ext hx;refine⟨fun _=>hp.sub (by(repeat(first|exact List.sublist_append_left _ _|apply List.Sublist.cons))),_,hp,?_⟩;clear hp;refine cX ?_
 refine j8 Tryz.func172 (fun F w hp=> ?_);refine bN.mono (mM b _) ?_;rintro _ w ⟨rfl,hx⟩;have hp:=hp.ext hx;refine⟨fun _=>hp.sub (by(repeat(first|exact List.sublist_append_left _ _|apply List.Sublist.cons))),_,hp,?_⟩;clear hp;refine cX ?_
 refine j8 Tryz.func86 (fun F w hp=> ?_);refine bN.mono (eF x _ _ _ hp.dR hS hW (xS ha) (xS hb)) ?_;rintro _ w ⟨y,⟨hy,rfl⟩,hq⟩;have hp:=hp.eU hq;refine⟨fun _=>hp.sub (by(repeat(first|exact List.sublist_append_left _ _|apply List.Sublist.cons))),_,hp,?_⟩;clear hp;refine cX ?_
 (first|refine oq ?_|refine iS rfl ?_);intro b8;refine cX ?_;refine eO rfl rfl rfl rfl (by kernel_rfl) ?_;refine cX ?_
 refine dc ?_;intro w hp C;refine bL ?_
 apply ae<;>intro h0
 ·refine aN ?_;refine aI hp ?_
  refine cy Tryz.func80 (cq x _ hp.dR hS) ?_;rintro _ w ⟨z,⟨hz,rfl⟩,hq⟩;have hx:=hq.x;have hp:=hp.bJ hq;refine az ?_;refine aW hp ?_;intro w hp;refine az ?_;refine bg hp rfl ?_
  rw[if_pos h0]
  exact⟨z,⟨hz,rfl⟩,hp.sub (by simp)⟩
 ·refine aM ?_;(repeat(first|(refine ah ?_;refine aI hp ?_)|(refine aH ?_;refine aW hp ?_;intro w hp;refine az ?_)|(refine dA ?_;refine bg hp rfl ?_)))
  rw[if_neg h0]
  exact⟨y,⟨hy,rfl⟩,hp.sub (by simp)⟩
end Go.Proofs
end
section
namespace Go.Xw
open Go.Proofs
set_option maxHeartbeats 1000000
structure dK where
 kind:Int
 a:Int
 b:Int
deriving Inhabited,DecidableEq
def jx (k:Int):Int:=if 0<=k/\k<=3 then 0 else if k=4 then 1 else if 5<=k/\k<=11 then 2 else if k=12 then 3 else-1
theorem An (k:Int): -1<=jx k/\jx k<=3:=by unfold jx;repeat' split<;>omega
def e6 (o:dK)(m:Int):Prop:=if o.kind=0 then(0<=o.a/\o.a<=15)/\o.b=0 else if o.kind=2 then(0<=o.a/\o.a<m)/\o.b=0 else if o.kind=3 then(0<=o.a/\o.a<m)/\0<=o.b/\o.b<=3 else 0<=jx o.kind/\o.a=0/\o.b=0
instance (o:dK)(m:Int):Decidable (e6 o m):=by unfold e6;infer_instance
theorem e6.ar {o:dK}{m:Int}(h:e6 o m):0<=jx o.kind:=by
 unfold e6 at h
 by_cases h0:o.kind=0
 ·rw[h0];decide
 ·rw[if_neg h0] at h
  by_cases h2:o.kind=2
  ·rw[h2];decide
  ·rw[if_neg h2] at h
   by_cases h3:o.kind=3
   ·rw[h3];decide
   ·rw[if_neg h3] at h;exact h.1
def fk (ops:List dK):Nat->Int
 |0=>1
 |i+1=>fk ops i-1+jx (ops.getD i default).kind
structure fU (ops:List dK)(m:Int):Prop where
 len:ops.length<=15
 each:∀i,i<ops.length->fk ops i≠0/\e6 (ops.getD i default) m
 full:fk ops ops.length=0
inductive cI where
 |leaf (o:dK)
 |un (o:dK) (x:cI)
 |bin (o:dK) (x y:cI)
 |nS (o:dK) (x y z:cI)
def cI.dh:cI->List dK
 | .leaf o=>[o]
 | .un o x=>o::x.dh
 | .bin o x y=>o::(x.dh++y.dh)
 | .nS o x y z=>o::(x.dh++y.dh++z.dh)
def cI.ok (m:Int):cI->Prop
 | .leaf o=>jx o.kind=0/\e6 o m/\o.kind≠1
 | .un o x=>jx o.kind=1/\x.ok m
 | .bin o x y=>jx o.kind=2/\x.ok m/\y.ok m
 | .nS o x y z=>jx o.kind=3/\x.ok m/\y.ok m/\z.ok m
theorem cI.pos:∀t:cI,0<t.dh.length
 | .leaf o=>by simp[cI.dh]
 | .un o x=>by simp[cI.dh]
 | .bin o x y=>by simp[cI.dh]
 | .nS o x y z=>by simp[cI.dh]
def Z2:Nat->List dK->Prop
 |n,[]=>n=0
 |n,o::r=>0<n/\0<=jx o.kind/\Z2 (n-1+(jx o.kind).toNat) r
theorem parse (m:Int):∀(l:List dK) (n:Nat),Z2 n l->(∀o,o∈l->e6 o m/\o.kind≠1)->∃ts:List cI,ts.length=n/\l=ts.flatMap cI.dh/\∀t,t∈ts->t.ok m
 |[],n,h,_=>⟨[],h.symm,rfl,by simp⟩
 |o::r,n,h,ho=>by
  obtain⟨h1,h2,h3⟩:=h
  obtain⟨ts,e1,e2,e3⟩:=parse m r _ h3 (fun p hp=>ho p (List.mem_cons_of_mem _ hp))
  have NK:=ho o (by simp)
  have hb:=An o.kind
  have hc:jx o.kind=0\/jx o.kind=1\/jx o.kind=2\/jx o.kind=3:=by omega
  rcases hc with hc|hc|hc|hc
  ·rw[hc] at e1
   refine⟨.leaf o::ts,by simp[e1];omega,by rw[List.flatMap_cons,<-e2];rfl,fun t ht=> ?_⟩
   rcases List.mem_cons.1 ht with rfl|ht
   ·exact⟨hc,NK.1,NK.2⟩
   ·exact e3 t ht
  ·rw[hc] at e1
   match ts,e1,e2,e3 with
   |[],e1,_,_=>simp at e1<;>omega
   |x::ts,e1,e2,e3=>
    refine⟨.un o x::ts,by simp at e1⊢;omega,by rw[e2,List.flatMap_cons,List.flatMap_cons];rfl,fun t ht=> ?_⟩
    rcases List.mem_cons.1 ht with rfl|ht
    ·exact⟨hc,e3 x (by simp)⟩
    ·exact e3 t (by simp[ht])
  ·rw[hc] at e1
   match ts,e1,e2,e3 with
   |[],e1,_,_=>simp at e1<;>omega
   |[x],e1,_,_=>simp at e1<;>omega
   |x::y::ts,e1,e2,e3=>
    refine⟨.bin o x y::ts,by simp at e1⊢;omega,by rw[e2];simp[cI.dh],fun t ht=> ?_⟩
    rcases List.mem_cons.1 ht with rfl|ht
    ·exact⟨hc,e3 x (by simp),e3 y (by simp)⟩
    ·exact e3 t (by simp[ht])
  ·rw[hc] at e1
   match ts,e1,e2,e3 with
   |[],e1,_,_=>simp at e1<;>omega
   |[x],e1,_,_=>simp at e1<;>omega
   |[x,y],e1,_,_=>simp at e1<;>omega
   |x::y::z::ts,e1,e2,e3=>
    refine⟨.nS o x y z::ts,by simp at e1⊢;omega,by rw[e2];simp[cI.dh],fun t ht=> ?_⟩
    rcases List.mem_cons.1 ht with rfl|ht
    ·exact⟨hc,e3 x (by simp),e3 y (by simp),e3 z (by simp)⟩
    ·exact e3 t (by simp[ht])
theorem fU.VL {ops:List dK}{m:Int}(h:fU ops m):∀j i,j+i=ops.length->0<=fk ops i/\Z2 (fk ops i).toNat (ops.drop i)
 |0,i,hi=>by
  obtain rfl:i=ops.length:=by omega
  rw[h.full,List.drop_length]
  exact⟨Int.le_refl _,rfl⟩
 |j+1,i,hi=>by
  have pW:i<ops.length:=by omega
  obtain⟨xU,pL⟩:=fU.VL h j (i+1) (by omega)
  obtain⟨h1,h2⟩:=h.each i pW
  have Ml:=h2.ar
  have he:fk ops (i+1)=fk ops i-1+jx (ops.getD i default).kind:=rfl
  have key:∀i,i<=ops.length->0<=fk ops i:=fun i=>by
   induction i with
   |zero=>intro _;show(0:Int)<=1;decide
   |succ i ih=>
    intro hi
    have h3:=ih (by omega)
    obtain⟨h4,h5⟩:=h.each i (by omega)
    have h6:=h5.ar
    show 0<=fk ops i-1+jx (ops.getD i default).kind
    omega
  have oh:=key i (by omega)
  refine⟨oh,?_⟩
  have hg:ops[i]=ops.getD i default:=by rw[List.getD_eq_getElem?_getD,List.getElem?_eq_getElem pW];rfl
  rw[List.drop_eq_getElem_cons pW,hg]
  refine⟨by omega,Ml,?_⟩
  rw[show(fk ops i).toNat-1+(jx (ops.getD i default).kind).toNat=(fk ops (i+1)).toNat by omega]
  exact pL
theorem fU.tree {ops:List dK}{m:Int}(h:fU ops m)(hp:∀o,o∈ops->o.kind≠1):∃t:cI,ops=t.dh/\t.ok m:=by
 have h1:=(h.VL ops.length 0 (by omega)).2
 rw[show(fk ops 0).toNat=1 from rfl,List.drop_zero] at h1
 obtain⟨ts,e1,e2,e3⟩:=parse m ops 1 h1 fun o ho=>⟨by
  obtain⟨i,hi,he⟩:=List.getElem_of_mem ho
  have:=(h.each i hi).2
  rw[List.getD_eq_getElem?_getD,List.getElem?_eq_getElem hi] at this
  rw[<-he];exact this,hp o ho⟩
 match ts,e1,e2,e3 with
 |[t],_,e2,e3=>exact⟨t,by rw[e2];simp,e3 t (by simp)⟩
structure Ad (σ:Type) where
 and:σ->Int->Int->σ×Int
 or:σ->Int->Int->σ×Int
 xor:σ->Int->Int->σ×Int
 jk:σ->Int->Int->Int->σ×Int
 not:Int->Int
section
variable {σ:Type} (A:Ad σ)
def g7 (l:List Int)(k:Nat):Int:=l.getD k 0
def tN (sig:List (List Int))(w:Nat)(o:dK):List Int:=(List.range w).map fun k=>
 if o.kind=0 then o.a/2^k%2 else if o.kind=2 then g7 (sig.getD o.a.toNat default) k else if k=0 then g7 (sig.getD o.a.toNat default) o.b.toNat else 0
def bC (f:σ->Int->Int->σ×Int)(s:σ)(a b:List Int):Nat->σ×List Int
 |0=>(s,[])
 |k+1=>((f (bC f s a b k).1 (a.getD k default) (b.getD k default)).1,(bC f s a b k).2++[(f (bC f s a b k).1 (a.getD k default) (b.getD k default)).2])
def qC (r:σ×List Int×Int)(a b:Int):σ×Int:=A.xor r.1 a b
def jh (r:σ×List Int×Int)(a b:Int):σ×Int:=A.xor (qC A r a b).1 (qC A r a b).2 r.2.2
def pX (r:σ×List Int×Int)(a b:Int):σ×Int:=A.and (jh A r a b).1 a b
def pY (r:σ×List Int×Int)(a b:Int):σ×Int:=A.and (pX A r a b).1 (qC A r a b).2 r.2.2
def mN (r:σ×List Int×Int)(a b:Int):σ×Int:=A.or (pY A r a b).1 (pX A r a b).2 (pY A r a b).2
def bU (s:σ)(a b:List Int)(c:Int):Nat->σ×List Int×Int
 |0=>(s,[],c)
 |k+1=>if k+1<a.length then((mN A (bU s a b c k) (a.getD k default) (b.getD k default)).1,(bU s a b c k).2.1++[(jh A (bU s a b c k) (a.getD k default) (b.getD k default)).2],(mN A (bU s a b c k) (a.getD k default) (b.getD k default)).2)
  else((jh A (bU s a b c k) (a.getD k default) (b.getD k default)).1,(bU s a b c k).2.1++[(jh A (bU s a b c k) (a.getD k default) (b.getD k default)).2],(bU s a b c k).2.2)
def qD (s:σ)(a b:List Int)(c:Int):σ×List Int:=((bU A s a b c a.length).1,(bU A s a b c a.length).2.1)
def bV (eq:Bool)(s:σ)(a b:List Int):Nat->σ×Int
 |0=>(s,if eq then 1 else 0)
 |k+1=>if eq then A.and (A.xor (bV eq s a b k).1 (a.getD k default) (b.getD k default)).1 (bV eq s a b k).2 (A.not (A.xor (bV eq s a b k).1 (a.getD k default) (b.getD k default)).2)
  else A.jk (A.xor (bV eq s a b k).1 (a.getD k default) (b.getD k default)).1 (A.xor (bV eq s a b k).1 (a.getD k default) (b.getD k default)).2 (b.getD k default) (bV eq s a b k).2
def ll (w:Nat)(z:Int):List Int:=(List.replicate w (0:Int)).set 0 z
def di (s:σ)(a:List Int):Nat->σ×Int
 |0=>(s,0)
 |k+1=>A.or (di s a k).1 (di s a k).2 (a.getD k default)
def gO (w:Nat)(kind:Int)(s:σ)(a b:List Int):σ×List Int:=
 if kind=8 then qD A s a b 0 else if kind=9 then qD A s a (b.map A.not) 1 else if kind=10 then((bV A true s a b a.length).1,ll w (bV A true s a b a.length).2) else if kind=11 then((bV A false s a b a.length).1,ll w (bV A false s a b a.length).2)
 else if kind=5 then bC A.and s a b a.length else if kind=6 then bC A.or s a b a.length else bC A.xor s a b a.length
def sO (s:σ)(a b c:List Int):σ×List Int:=bC (fun s' x y=>A.jk s' (di A s a a.length).2 x y) (di A s a a.length).1 b c b.length
def dD (sig:List (List Int))(w:Nat):cI->σ->σ×List Int
 | .leaf o,s=>(s,tN sig w o)
 | .un _ x,s=>((dD sig w x s).1,(dD sig w x s).2.map A.not)
 | .bin o x y,s=>gO A w o.kind (dD sig w y (dD sig w x s).1).1 (dD sig w x s).2 (dD sig w y (dD sig w x s).1).2
 | .nS _ x y z,s=>sO A (dD sig w z (dD sig w y (dD sig w x s).1).1).1 (dD sig w x s).2 (dD sig w y (dD sig w x s).1).2 (dD sig w z (dD sig w y (dD sig w x s).1).1).2
end
end Go.Xw
end
