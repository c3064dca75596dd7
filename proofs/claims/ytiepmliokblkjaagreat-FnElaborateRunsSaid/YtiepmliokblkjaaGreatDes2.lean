/- Texts that belong together; each under its stated conditions. -/
import Derived.Test.YtiepmliokblkjaaGreatBrf
import Derived.Test.YtiepmliokblkjaaGreatWord5
set_option linter.all false
section
namespace Go.Xw
def fN (n:aQ):Nat->List Int
 |0=>[]
 |i+1=>if aY n (i:Nat)=0\/aY n (i:Nat)=1 then fN n i++[((i:Nat):Int)] else fN n i
def gS (n:aQ):List Int:=if n.sg.length<=30 then fN n n.sg.length else[]
theorem nf (n:aQ):∀i,(fN n i).length<=i
 |0=>Nat.le_refl _
 |i+1=>by
  have:=nf n i
  rw[fN]
  split
  ·rw[List.length_append,List.length_singleton];omega
  ·omega
theorem AV (n:aQ){i:Nat}:∀j,i<=j->(fN n i).length<=(fN n j).length
 |0,h=>by rw[Nat.le_zero.1 h];exact Nat.le_refl _
 |j+1,h=>by
  rcases Nat.lt_or_ge i (j+1) with h2|h2
  ·have:=AV n (i:=i) j (by omega)
   rw[fN]
   split
   ·rw[List.length_append];omega
   ·exact this
  ·rw[show i=j+1 by omega];exact Nat.le_refl _
theorem Hm (n:aQ){i:Nat}(hi:i<n.sg.length)(h:aY n (i:Nat)=0\/aY n (i:Nat)=1):(fN n i).length<(fN n n.sg.length).length:=by
 have:=AV n (i:=i+1) n.sg.length hi
 rw[fN,if_pos h,List.length_append,List.length_singleton] at this
 omega
theorem Cp (n:aQ):∀i j,j<(fN n i).length->0<=(fN n i).getD j default/\(fN n i).getD j default<i
 |0,j,hj=>absurd hj (Nat.not_lt_zero _)
 |i+1,j,hj=>by
  rw[fN] at hj⊢
  split
  ·rename_i h
   rw[if_pos h,List.length_append,List.length_singleton] at hj
   by_cases EB:j<(fN n i).length
   ·rw[du EB]
    have:=Cp n i j EB
    omega
   ·rw[show j=(fN n i).length by omega,List.getD_eq_getElem?_getD,List.getElem?_concat_length]
    show 0<=((i:Nat):Int)/\((i:Nat):Int)<((i+1:Nat):Int)
    omega
  ·rename_i h
   rw[if_neg h] at hj
   have:=Cp n i j hj
   omega
theorem uu (n:aQ):(gS n).length<=30:=by
 unfold gS
 split
 ·have:=nf n n.sg.length;omega
 ·exact Nat.zero_le _
theorem Cq (n:aQ){j:Nat}(hj:j<(gS n).length):0<=(gS n).getD j default/\(gS n).getD j default<n.sg.length:=by
 unfold gS at hj⊢
 split
 ·rename_i h
  rw[if_pos h] at hj
  exact Cp n _ j hj
 ·rename_i h
  rw[if_neg h] at hj
  exact absurd hj (Nat.not_lt_zero _)
structure ku where
 ms:List bm
 a:Option Addr
 c:Nat
def ku.cs (D:ku):List Value:=[.slice D.a D.ms.length D.c]
def ku.v (D:ku):Value:= .agg ⟨D.cs⟩
class vr (w:World)(D:ku):Prop where
 row:Rd w D.a 4 bm.cs D.ms
 mod:∀x,x∈D.ms->iJ w x
theorem vr.ext {w w':World}{D:ku}(h:vr w D)(hx:Ext w w'):vr w' D:=⟨h.row.ext hx,fun x hm=>(h.mod x hm).ext hx⟩
class qW (w0:World)(L:List bh)(D:ku):Prop where
 h:∀w,Hp w0 w L->vr w D
instance (priority:=low) qW.base {w0:World}{L:List bh}{D:ku}[h:vr w0 D]:qW w0 L D:=⟨fun _ hp=>h.ext hp.x⟩
def so (D:List bm):bh:=rQ (D.map mS)
def KM (D:ku):bh:=rQ [rO 41 4 bm.cs D.a D.c D.ms,so D.ms]
theorem KN {w:World}{D:ku}(h:(KM D).P w):vr w D:=by
 have h1:=h (rO 41 4 bm.cs D.a D.c D.ms) (by simp)
 have h2:=h (so D.ms) (by simp)
 exact⟨⟨dk.sl h1 RU.len⟩,fun x hx=>JV (h2 _ (List.mem_map.2 ⟨x,hx,rfl⟩))⟩
instance qW.head {w0:World}{L:List bh}{D:ku}:qW w0 (KM D::L) D:=⟨fun _ hp=>KN hp.g0⟩
instance qW.tail {w0:World}{L:List bh}{R:bh}{D:ku}[h:qW w0 L D]:qW w0 (R::L) D:=⟨fun w hp=>h.h w hp.drop⟩
theorem Hp.Th {w0 w:World}{L:List bh}(hp:Hp w0 w L){D:ku}[h:qW w0 L D]:vr w D:=h.h w hp
instance (priority:=low) gm.Wz {w0:World}{L:List bh}{D:ku}[h:qW w0 L D]:gm w0 L D.a 4 bm.cs D.ms:=⟨fun w hp=>(h.h w hp).row.h⟩
class Ln (i:Nat)(D:List bm):Prop where
 h:i<D.length
theorem vr.at_ {w:World}{D:ku}(h:vr w D){i:Nat}(hi:i<D.ms.length):iJ w (D.ms.getD i default):=h.mod _ (aK hi)
instance (priority:=low) nV.Wz {w0:World}{L:List bh}{D:ku}{i:Nat}[h:qW w0 L D][k:Ln i D.ms]:nV w0 L (D.ms.getD i default):=⟨fun w hp=>(h.h w hp).at_ k.h⟩
structure CtP (D:List bm)(k:Nat):Prop where
 len:D.length<=4
 lk:k<D.length
 sg:∀i,i<D.length->(D.getD i default).sg.length<=30
 aP:∀i,i<D.length->(D.getD i default).aP.length<=30
 il:∀i,i<D.length->(D.getD i default).ins.length<=3
 ms:∀i,i<D.length->(D.getD i default).ms.length<=2
 im:∀i,i<(D.getD k default).ins.length->0<=((D.getD k default).ins.getD i default).kind/\((D.getD k default).ins.getD i default).kind<k
 ip:∀i,i<(D.getD k default).ins.length->((D.getD k default).ins.getD i default).ins.length=(gS (D.getD ((D.getD k default).ins.getD i default).kind.toNat default).n).length
end Go.Xw
namespace Go.Proofs
open Go.Xw
set_option maxRecDepth 100000
set_option maxHeartbeats 2000000
attribute [local irreducible] ax aE
theorem rM (x:bm)(w0:World)(hM:iJ w0 x):
  bN Tryz.prog 171 [x.v] w0 (fun v w=>∃b c,v= .slice b (gS x.n).length c/\Hp w0 w [rO 3 1 eI b c (gS x.n)]):=by
 refine eu Tryz.Ra ?_;intro C hp;skip;refine bP hp ?_;intro w b1 hx hp;refine az ?_;(repeat(first|(refine ah ?_;refine aI hp ?_)|(refine bK ?_;refine gG hp ?_;intro w _ hx hp;refine az ?_)))
 apply ae<;>intro h30
 ·have e:gS x.n=[]:=by unfold gS;rw[if_neg (by show¬x.sg.length<=30;omega)]
  refine aN ?_;refine aq ?_
  rw[e]
  exact⟨_,_,rfl,hp.tk 1⟩
 ·have e:gS x.n=fN x.n x.sg.length:=by unfold gS;rw[if_pos (by show x.sg.length<=30;omega)];rfl
  refine aM ?_
  refine eg [1,3,4] (fun(i:Nat) (b:Option Addr) (c:Nat)=>[(1,.pointer (some ⟨b1,0,none⟩)),(3,.slice b (fN x.n i).length c),(4,.int .i64 (i:Int))])
   (fun i b c w'=>i<=x.sg.length/\Hp w0 w' [rO 3 1 eI b c (fN x.n i),rB b1 41 x.cs]) (fun i _ _=>x.sg.length-i) 0 _ _ rfl ⟨by omega,hp⟩ ?_
  clear hp
  rintro i b c w1 ⟨hi,hp⟩ IH C
  have AL:=nf x.n i
  obtain⟨P,hP⟩:∃P,P=fN x.n i:=⟨_,rfl⟩
  rw[<-hP] at hp AL⊢
  refine bL ?_;refine aI hp ?_
  apply ae<;>intro bD
  ·have aF:i<x.sg.length:=by omega
   have ek:=bG x.n i
   refine aN ?_;(repeat(refine ah ?_;first|refine aI hp ?_|refine dg hp ?_))
   (first|apply fx|apply cf)<;>intro hk e<;>rw[e]<;>clear e;all_goals((repeat(first|(refine aG ?_;first|refine aO ?_|refine ba ?_)|(refine ah ?_;first|refine aI hp ?_|refine dg hp ?_))))
   ·have eN:fN x.n (i+1)=P++[((i:Nat):Int)]:=by rw[fN,if_pos (.inl (by rw[bG];exact hk)),<-hP]
    refine aN ?_;refine gG hp ?_;intro w _ hx hp;refine az ?_
    refine gT hp ?_;intro b' c' w hp bZ;refine az ?_
    refine IH (i+1) b' c' _ _ _ (by omega) (by rw[eN];rfl) ⟨by omega,?_⟩
    rw[eN]
    exact hp.drop
   ·apply ae<;>intro p6
    ·have eN:fN x.n (i+1)=P++[((i:Nat):Int)]:=by rw[fN,if_pos (.inr (by rw[bG];exact p6)),<-hP]
     refine aN ?_;refine gG hp ?_;intro w _ hx hp;refine az ?_
     refine gT hp ?_;intro b' c' w hp bZ;refine az ?_
     refine IH (i+1) b' c' _ _ _ (by omega) (by rw[eN];rfl) ⟨by omega,?_⟩
     rw[eN]
     exact hp.drop
    ·have eN:fN x.n (i+1)=P:=by rw[fN,if_neg (by rw[bG];exact fun h=>h.elim hk p6),<-hP]
     refine aM ?_
     refine IH (i+1) b c _ _ _ (by omega) (by rw[eN];rfl) ⟨by omega,?_⟩
     rw[eN]
     exact hp
  ·refine aM ?_;refine aq ?_
   obtain rfl:i=x.sg.length:=by omega
   rw[hP,<-e] at hp⊢
   exact⟨b,c,rfl,hp.tk 1⟩
theorem v7 (D:ku)(k:Int)(w0:World)(hD:vr w0 D):
  bN Tryz.prog 167 [D.v,.int .i64 k] w0 (fun v w=>∃b,(v= .bool b/\(b=true->0<=k/\CtP D.ms k.toNat))/\Ext w0 w):=by
 refine eu Tryz.Ju ?_;intro C hp;skip;refine bP hp ?_;intro w b2 hx hp;refine az ?_;refine aI hp ?_
 (first|apply fx|apply cf)<;>intro h1 e<;>rw[e]<;>clear e;all_goals((repeat(refine aG ?_;first|refine aO ?_|refine ba ?_)))
 ·refine aN ?_;refine aq ?_
  exact⟨false,⟨rfl,fun h=>Bool.noConfusion h⟩,hp.x⟩
 ·(first|apply fx|apply cf)<;>intro h2 e<;>rw[e]<;>clear e;all_goals((repeat(first|(refine aG ?_;first|refine aO ?_|refine ba ?_)|(refine ah ?_;refine aI hp ?_))))
  ·refine aN ?_;refine aq ?_
   exact⟨false,⟨rfl,fun h=>Bool.noConfusion h⟩,hp.x⟩
  ·apply ae<;>intro h3
   ·refine aN ?_;refine aq ?_
    exact⟨false,⟨rfl,fun h=>Bool.noConfusion h⟩,hp.x⟩
   ·obtain⟨kn,WA⟩:=Int.eq_ofNat_of_zero_le (show 0<=k by omega)
    subst WA
    refine aM ?_
    refine aR [1,2,5] (fun(i:Nat)=>[(1,.int .i64 ((kn:Nat):Int)),(2,.pointer (some ⟨b2,0,none⟩)),(5,.int .i64 (i:Int))])
     (fun i w'=>(i<=D.ms.length/\∀j,j<i->(D.ms.getD j default).sg.length<=30/\(D.ms.getD j default).aP.length<=30/\(D.ms.getD j default).ins.length<=3/\(D.ms.getD j default).ms.length<=2)/\Hp w0 w' [rB b2 136 D.cs]) (fun i=>D.ms.length-i) 0 rfl ⟨⟨by omega,fun j hj=>by omega⟩,hp⟩ ?_
    clear hp
    rintro i w1 ⟨⟨hi,nH⟩,hp⟩ IH C
    refine bL ?_;refine aI hp ?_
    apply ae<;>intro bD
    ·have aF:i<D.ms.length:=by omega
     have ld:Ln i D.ms:=⟨aF⟩
     refine aN ?_;(repeat(refine ah ?_;first|refine aI hp ?_|refine bb hp ?_))
     refine bP hp ?_;intro w b6 hx hp;refine az ?_;(repeat(first|(refine ah ?_;refine aI hp ?_)|(refine aH ?_;refine aW hp ?_;intro w hp;refine az ?_)))
     (first|apply fx|apply cf)<;>intro g1 e<;>rw[e]<;>clear e;all_goals((repeat(first|(refine aG ?_;first|refine aO ?_|refine ba ?_)|(refine ah ?_;refine aI hp ?_))))
     ·refine aN ?_;refine aq ?_
      exact⟨false,⟨rfl,fun h=>Bool.noConfusion h⟩,hp.x⟩
     ·(first|apply fx|apply cf)<;>intro g2 e<;>rw[e]<;>clear e;all_goals((repeat(first|(refine aG ?_;first|refine aO ?_|refine ba ?_)|(refine ah ?_;refine aI hp ?_))))
      ·refine aN ?_;refine aq ?_
       exact⟨false,⟨rfl,fun h=>Bool.noConfusion h⟩,hp.x⟩
      ·(first|apply fx|apply cf)<;>intro g3 e<;>rw[e]<;>clear e;all_goals((repeat(first|(refine aG ?_;first|refine aO ?_|refine ba ?_)|(refine ah ?_;refine aI hp ?_))))
       ·refine aN ?_;refine aq ?_
        exact⟨false,⟨rfl,fun h=>Bool.noConfusion h⟩,hp.x⟩
       ·apply ae<;>intro g4
        ·refine aN ?_;refine aq ?_
         exact⟨false,⟨rfl,fun h=>Bool.noConfusion h⟩,hp.x⟩
        ·refine aM ?_
         refine IH (i+1) _ _ _ (by omega) rfl ⟨⟨by omega,fun j hj=> ?_⟩,hp.drop⟩
         by_cases EB:j=i
         ·subst EB
          exact⟨by omega,by omega,by omega,by omega⟩
         ·exact nH j (by omega)
    ·refine aM ?_
     obtain rfl:i=D.ms.length:=by omega
     clear IH
     have lk:kn<D.ms.length:=by omega
     have ld:Ln kn D.ms:=⟨lk⟩
     have pW:=(nH kn lk).2.2.1
     refine aR [1,2,7] (fun(i:Nat)=>[(1,.int .i64 ((kn:Nat):Int)),(2,.pointer (some ⟨b2,0,none⟩)),(7,.int .i64 (i:Int))])
      (fun i w'=>(i<=(D.ms.getD kn default).ins.length/\∀j,j<i->(0<=((D.ms.getD kn default).ins.getD j default).kind/\((D.ms.getD kn default).ins.getD j default).kind<kn)/\((D.ms.getD kn default).ins.getD j default).ins.length=(gS (D.ms.getD ((D.ms.getD kn default).ins.getD j default).kind.toNat default).n).length)/\Hp w0 w' [rB b2 136 D.cs]) (fun i=>(D.ms.getD kn default).ins.length-i) 0 rfl ⟨⟨by omega,fun j hj=>by omega⟩,hp⟩ ?_
     clear hp
     rintro i w1 ⟨⟨hi,yQ⟩,hp⟩ IH C
     refine bL ?_;(repeat(refine ah ?_;first|refine aI hp ?_|refine dg hp ?_))
     apply ae<;>intro jK
     ·have aF:i<(D.ms.getD kn default).ins.length:=by omega
      refine aN ?_;(repeat(refine ah ?_;first|refine aI hp ?_|refine bb hp ?_|refine dg hp ?_))
      refine bP hp ?_;intro w b8 hx hp;refine az ?_;refine aW hp ?_;intro w hp;refine az ?_
      refine j7 hp ?_;intro w hx hp;have hs:=hp;refine dN ?_
      (first|apply fx|apply cf)<;>intro g1 e<;>rw[e]<;>clear e;all_goals((repeat(first|(refine aG ?_;first|refine cx rfl rfl rfl ?_|refine dB rfl rfl rfl ?_)|(refine ah ?_;refine dN ?_))))
      ·skip
       refine aN ?_;refine aq ?_
       exact⟨false,⟨rfl,fun h=>Bool.noConfusion h⟩,hp.x⟩
      ·(first|apply fx|apply cf)<;>intro g2 e<;>rw[e]<;>clear e;all_goals((repeat(first|(refine aG ?_;first|refine cx rfl rfl rfl ?_|refine dB rfl rfl rfl ?_)|(refine ah ?_;first|refine dN ?_|refine jb rfl (by omega) (by omega) rfl rfl rfl ?_))))
       ·skip
        refine aN ?_;refine aq ?_
        exact⟨false,⟨rfl,fun h=>Bool.noConfusion h⟩,hp.x⟩
       ·have lq:((D.ms.getD kn default).ins.getD i default).kind.toNat<D.ms.length:=by omega
        have Xt:Ln ((D.ms.getD kn default).ins.getD i default).kind.toNat D.ms:=⟨lq⟩
        refine oW Tryz.func171 (rM (D.ms.getD ((D.ms.getD kn default).ins.getD i default).kind.toNat default) _ hp.mod) ?_;rintro _ w ⟨bp,cp,rfl,hq⟩;have hx:=hq.x;have hp:=hp.bJ hq;have hs:=hs.ext hx;refine⟨fun _=>hs,?_⟩;refine fO ?_;(repeat(refine cx rfl rfl rfl ?_))
        skip
        apply ae<;>intro g3
        ·refine aN ?_;refine aq ?_
         exact⟨false,⟨rfl,fun h=>Bool.noConfusion h⟩,hp.x⟩
        ·refine aM ?_
         refine IH (i+1) _ _ _ (by omega) rfl ⟨⟨by omega,fun j hj=> ?_⟩,hp.drop.drop⟩
         by_cases EB:j=i
         ·subst EB
          exact⟨⟨by omega,by omega⟩,by omega⟩
         ·exact yQ j (by omega)
     ·refine aM ?_;refine aq ?_
      obtain rfl:i=(D.ms.getD kn default).ins.length:=by omega
      refine⟨true,⟨rfl,fun _=>⟨by omega,⟨by omega,lk,fun j hj=>(nH j hj).1,fun j hj=>(nH j hj).2.1,fun j hj=>(nH j hj).2.2.1,fun j hj=>(nH j hj).2.2.2,fun j hj=>(yQ j hj).1,fun j hj=>(yQ j hj).2⟩⟩⟩,hp.x⟩
end Go.Proofs
end
section
namespace Go.Xw
class Xu (i:Nat)(R:List dO):Prop where
 h:i<R.length
instance (priority:=low) gm.ofMod6 {w0:World}{L:List bh}{x:bm}{i:Nat}[h:nV w0 L x][k:Xu i x.ins]:gm w0 L (x.ins.getD i default).ia 1 eI (x.ins.getD i default).ins:=⟨fun w hp=>((h.h w hp).ins.at_ k.h).h⟩
end Go.Xw
namespace Go.Proofs
open Go.Xw
set_option maxRecDepth 100000
set_option maxHeartbeats 2000000
attribute [local irreducible] ax aE
theorem sr (D:ku)(k s:Int)(w0:World)(hD:vr w0 D):
  bN Tryz.prog 168 [D.v,.int .i64 k,.int .i64 s] w0 (fun v w=>∃z,v= .int .i64 z/\Ext w0 w):=by
 refine eu Tryz.Jv ?_;intro C hp;skip;refine bP hp ?_;intro w b3 hx hp;refine az ?_;refine aI hp ?_
 refine cy Tryz.func167 (v7 D k _ hp.Th) ?_;rintro _ w ⟨b,⟨rfl,hb⟩,hx⟩;have hp:=hp.ext hx;refine az ?_
 cases b
 ·(repeat(refine ba ?_))
  refine aN ?_;refine aq ?_
  exact⟨_,rfl,hp.x⟩
 obtain⟨CB,hC⟩:=hb rfl
 obtain⟨kn,WA⟩:=Int.eq_ofNat_of_zero_le CB
 subst WA
 rw[Int.toNat_natCast] at hC
 have lk:=hC.lk
 have ldk:Ln kn D.ms:=⟨lk⟩
 have q1:=hC.sg kn lk
 have q2:=hC.aP kn lk
 have q3:=hC.il kn lk
 have q4:=hC.ms kn lk
 (repeat(refine aO ?_))
 (first|apply fx|apply cf)<;>intro h1 e<;>rw[e]<;>clear e;all_goals((repeat(first|(refine aG ?_;first|refine aO ?_|refine ba ?_)|(refine ah ?_;first|refine aI hp ?_|refine dg hp ?_))))
 ·refine aN ?_;refine aq ?_
  exact⟨_,rfl,hp.x⟩
 ·apply ae<;>intro h2
  ·refine aN ?_;refine aq ?_
   exact⟨_,rfl,hp.x⟩
  ·refine aM ?_;(repeat(refine ah ?_;first|refine aI hp ?_|refine bb hp ?_))
   refine bP hp ?_;intro w b7 hx hp;refine az ?_;refine aW hp ?_;intro w hp;refine az ?_
   refine gK [2,3,7,8,9] (fun(i:Nat) (n:Nat)=>[(2,.int .i64 s),(3,.pointer (some ⟨b3,0,none⟩)),(7,.pointer (some ⟨b7,0,none⟩)),(8,.int .i64 (n:Int)),(9,.int .i64 (i:Int))])
    (fun i n w'=>(i<=(D.ms.getD kn default).aP.length/\n<=i)/\Hp w0 w' [rB b7 41 (D.ms.getD kn default).cs,rB b3 136 D.cs]) (fun i _=>(D.ms.getD kn default).aP.length-i) 0 0 rfl ⟨⟨by omega,by omega⟩,hp⟩ ?_
   clear hp
   rintro i n w1 ⟨⟨hi,hn⟩,hp⟩ IH C
   refine bL ?_;refine aI hp ?_
   apply ae<;>intro bD
   ·have aF:i<(D.ms.getD kn default).aP.length:=by omega
    refine aN ?_;(repeat(refine ah ?_;first|refine aI hp ?_|refine dg hp ?_))
    apply ae<;>intro he
    ·refine aN ?_
     exact IH (i+1) (n+1) _ _ _ (by omega) rfl ⟨⟨by omega,by omega⟩,hp⟩
    ·refine aM ?_
     exact IH (i+1) n _ _ _ (by omega) rfl ⟨⟨by omega,by omega⟩,hp⟩
   ·refine aM ?_
    clear IH
    refine gK [2,3,7,8,10] (fun(i:Nat) (n:Nat)=>[(2,.int .i64 s),(3,.pointer (some ⟨b3,0,none⟩)),(7,.pointer (some ⟨b7,0,none⟩)),(8,.int .i64 (n:Int)),(10,.int .i64 (i:Int))])
     (fun i n w'=>(i<=(D.ms.getD kn default).ms.length/\n<=30+i)/\Hp w0 w' [rB b7 41 (D.ms.getD kn default).cs,rB b3 136 D.cs]) (fun i _=>(D.ms.getD kn default).ms.length-i) 0 n rfl ⟨⟨by omega,by omega⟩,hp⟩ ?_
    clear hp hn hi bD
    rintro i n w1 ⟨⟨hi,hn⟩,hp⟩ IH C
    refine bL ?_;refine aI hp ?_
    apply ae<;>intro bD
    ·have aF:i<(D.ms.getD kn default).ms.length:=by omega
     refine aN ?_;(repeat(refine ah ?_;first|refine aI hp ?_|refine dg hp ?_))
     apply ae<;>intro he
     ·refine aN ?_
      exact IH (i+1) (n+1) _ _ _ (by omega) rfl ⟨⟨by omega,by omega⟩,hp⟩
     ·refine aM ?_
      exact IH (i+1) n _ _ _ (by omega) rfl ⟨⟨by omega,by omega⟩,hp⟩
    ·refine aM ?_
     clear IH
     refine gK [2,3,7,8,11] (fun(i:Nat) (n:Nat)=>[(2,.int .i64 s),(3,.pointer (some ⟨b3,0,none⟩)),(7,.pointer (some ⟨b7,0,none⟩)),(8,.int .i64 (n:Int)),(11,.int .i64 (i:Int))])
      (fun i n w'=>(i<=(D.ms.getD kn default).ins.length/\n<=40+30*i)/\Hp w0 w' [rB b7 41 (D.ms.getD kn default).cs,rB b3 136 D.cs]) (fun i _=>(D.ms.getD kn default).ins.length-i) 0 n rfl ⟨⟨by omega,by omega⟩,hp⟩ ?_
     clear hp hn hi bD
     rintro i n w1 ⟨⟨hi,hn⟩,hp⟩ IH C
     refine bL ?_;refine aI hp ?_
     apply ae<;>intro bD
     ·have aF:i<(D.ms.getD kn default).ins.length:=by omega
      have lii:Xu i (D.ms.getD kn default).ins:=⟨aF⟩
      have HV:=hC.im i aF
      have St:=hC.ip i aF
      have lq:((D.ms.getD kn default).ins.getD i default).kind.toNat<D.ms.length:=by omega
      have Xt:Ln ((D.ms.getD kn default).ins.getD i default).kind.toNat D.ms:=⟨lq⟩
      obtain⟨q,hq⟩:∃q,q=((D.ms.getD kn default).ins.getD i default).kind.toNat:=⟨_,rfl⟩
      refine aN ?_
      refine j7 hp ?_;intro w hx hp;have hs:=hp;(repeat(refine ah ?_;first|refine dN ?_|refine lH rfl (by omega) rfl rfl rfl ?_|refine jb rfl (by omega) (by omega) rfl rfl rfl ?_))
      rw[<-hq] at Xt lq St⊢
      (first|(refine Jl (fun _ hx=>hs.ext hx) hp ?_;intro w ti hx hp)|(refine Bm (fun _ hx=>hs.ext hx) hp rfl ?_;intro w ti hx hp));have hs:=hs.ext hx;refine fO ?_;refine uT hp rfl rfl rfl rfl (by kernel_rfl) ?_;intro w hp;refine fO ?_
      refine aI hp ?_
      have AL:=uu (D.ms.getD q default).n
      refine cy Tryz.func171 (rM (D.ms.getD q default) _ hp.mod) ?_;rintro _ w ⟨bp,cp,rfl,hq⟩;have hx:=hq.x;have hp:=hp.bJ hq;refine az ?_
      refine gK [2,3,7,8,11,12,13,14] (fun(j:Nat) (m:Nat)=>[(2,.int .i64 s),(3,.pointer (some ⟨b3,0,none⟩)),(7,.pointer (some ⟨b7,0,none⟩)),(8,.int .i64 (m:Int)),(11,.int .i64 (i:Int)),(12,.pointer (some ⟨ti,0,none⟩)),(13,.slice bp (gS (D.ms.getD q default).n).length cp),(14,.int .i64 (j:Int))])
       (fun j m w'=>(j<=(gS (D.ms.getD q default).n).length/\m<=40+30*i+j)/\Hp w0 w' [rO 3 1 eI bp cp (gS (D.ms.getD q default).n),rB ti 41 (D.ms.getD q default).cs,rB b7 41 (D.ms.getD kn default).cs,rB b3 136 D.cs]) (fun j _=>(gS (D.ms.getD q default).n).length-j) 0 n rfl ⟨⟨by omega,by omega⟩,hp⟩ ?_
      clear hp
      rintro j m w1 ⟨⟨hj,hm⟩,hp⟩ kE C
      refine bL ?_
      apply ae<;>intro jK
      ·have zf:j<(gS (D.ms.getD q default).n).length:=by omega
       have MR:=Cq (D.ms.getD q default).n zf
       change _/\(gS (D.ms.getD q default).n).getD j default<((D.ms.getD q default).sg.length:Int) at MR
       refine aN ?_
       refine j7 hp ?_;intro w hx hp;have hs:=hp;(repeat(refine ah ?_;first|refine dN ?_|refine fc ?_|refine iC rfl (by omega) (by omega) rfl rfl rfl ?_))
       (first|apply fx|apply cf)<;>intro g1 e<;>rw[e]<;>clear e;all_goals((repeat(first|(refine aG ?_;first|refine cx rfl rfl rfl ?_|refine dB rfl rfl rfl ?_)|(refine ah ?_;first|refine dN ?_|refine fc ?_|refine lH rfl (by omega) rfl rfl rfl ?_))))
       ·skip
        apply ae<;>intro g2
        ·refine aN ?_
         exact kE (j+1) (m+1) _ _ _ (by omega) rfl ⟨⟨by omega,by omega⟩,hp⟩
        ·refine aM ?_
         exact kE (j+1) m _ _ _ (by omega) rfl ⟨⟨by omega,by omega⟩,hp⟩
       ·skip
        refine aM ?_
        exact kE (j+1) m _ _ _ (by omega) rfl ⟨⟨by omega,by omega⟩,hp⟩
      ·refine aM ?_
       exact IH (i+1) m _ _ _ (by omega) rfl ⟨⟨by omega,by omega⟩,hp.drop.drop⟩
     ·refine aM ?_;refine aq ?_
      exact⟨_,rfl,hp.x⟩
end Go.Proofs
end
