/- The contract of the reference's Elaborate; under its stated conditions. -/
import Derived.Test.YtiepmliokblkjaaGreatBrf
import Derived.Test.YtiepmliokblkjaaGreatElabM
import Derived.Test.YtiepmliokblkjaaGreatAxX
import Derived.Test.YtiepmliokblkjaaGreatFlatU
set_option linter.all false
namespace Go.Xw
open Go.Proofs
theorem A3 {Q:List dO}{M:ao}{q:Nat}(h:aU Q=M.au)(l:List Int)(a:Option Addr)(c:Nat):aU (Q.set q {Q.getD q default with ins:=l,ia:=a,ic:=c})=(lD M q l).au:=by
 rw[we]
 show _=M.au.set q ⟨(M.au.getD q default).kind,(M.au.getD q default).init,l⟩
 rw[<-h,gL];rfl
theorem Hr (N:ao)(q:Nat)(bits:List Int):∀k,ji N q bits k={N with au:=(ji N q bits k).au}
 |0=>rfl
 |k+1=>by
  have h:=Hr N q bits k
  show lD (ji N q bits k) (q+k) [bits.getD k default]={N with au:=(lD (ji N q bits k) (q+k) [bits.getD k default]).au}
  rw[h];rfl
theorem Hs (sig:List (List Int))(x:yh)(N:ao)(q:Nat):∀k,l8 sig x N q k={N with au:=(l8 sig x N q k).au}
 |0=>rfl
 |k+1=>by
  have h:=Hs sig x N q k
  show lD (l8 sig x N q k) (q+k) (p7 sig x k)={N with au:=(lD (l8 sig x N q k) (q+k) (p7 sig x k)).au}
  rw[h];rfl
theorem Ht (n:aQ)(sig:List (List Int))(N:ao)(q:Nat):∀j,(dj n sig N q j).1={N with au:=(dj n sig N q j).1.au}
 |0=>rfl
 |j+1=>by
  have h:=Ht n sig N q j
  have h2:=Hs sig (n.ms.getD j default) (dj n sig N q j).1 (dj n sig N q j).2 (wN n (n.ms.getD j default).out)
  show l8 sig (n.ms.getD j default) (dj n sig N q j).1 (dj n sig N q j).2 (wN n (n.ms.getD j default).out)={N with au:=(l8 sig (n.ms.getD j default) (dj n sig N q j).1 (dj n sig N q j).2 (wN n (n.ms.getD j default).out)).au}
  rw[h2,h]
theorem zq (Q P:List dO):aU (Q++P)=aU Q++aU P:=by simp[aU]
end Go.Xw
namespace Go.Proofs
open Go.Xw
set_option maxRecDepth 100000
set_option maxHeartbeats 8000000
attribute [local irreducible] ax aE
theorem sx (x:bf)(n:Nat)(sa:Option Addr)(sc:Nat)(R:List (cL Int))(hn:R.length=n)(oa:Option Addr)(oc:Nat)(ops:List dK)(wv:Int)(w0:World)(hX:fG w0 x)(aS:aj x.n)(hR:Rd w0 sa 1 jl R)(hQ:Lk w0 R)(hO:Rd w0 oa 3 kf ops)(fF:n<=1000)(ns:∀l,l∈aJ R->l.length<=4/\∀z,z∈l->aD z (ag x.n))(jL:ops.length<=15)(XI:∀i,i<ops.length->u6 (ops.getD i default))(hw:da wv):
  bN Tryz.prog 30 [x.v,.slice sa n sc,.slice oa ops.length oc,.int .i64 wv] w0 (fun v w'=>∃y b c,(y.n=(EA x.n (aJ R) ops wv).1/\v= .tuple ⟨[y.v,.slice b (EA x.n (aJ R) ops wv).2.length c]⟩)/\Hp w0 w' [dv y,rO 3 1 eI b c (EA x.n (aJ R) ops wv).2]):=by
 subst hn
 have hc:=aS.count
 have hm:∀i,i<R.length->(R.getD i default).ins∈aJ R:=fun i hi=>by rw[<-bk];exact aK (by rw[fh];exact hi)
 exact zR x sa sc R oa oc ops wv w0 hX aS.S' aS.W hR hQ hO (by omega) (fun i hi=>by have:=(ns _ (hm i hi)).1;omega) (fun i hi j hj=>((ns _ (hm i hi)).2 _ (aK hj)).i64 (by omega)) (by omega) XI hw
theorem F0 (x:bm)(w0:World)(hM:iJ w0 x)(hS:qL x.n)(hW:qM x.n):
  bN Tryz.prog 6 [x.v] w0 (fun v w=>∃y,(y.n=(B0 x.n).1/\v= .tuple ⟨[y.v,.bool (B0 x.n).2]⟩)/\Hp w0 w [dv y]):=by
 refine eu Tryz.Ya ?_;intro C hp;skip;refine bP hp ?_;intro w b1 hx hp;refine az ?_;skip;refine bP hp ?_;intro w b2 hx hp;refine az ?_;refine aI hp ?_
 by_cases hf:ch x.n
 ·obtain⟨l,he⟩:∃l,gQ x.n=some l:=by
   have h:=hf.ev
   cases he:gQ x.n with
   |none=>rw[he] at h;exact Bool.noConfusion h
   |some l=>exact⟨l,rfl⟩
  have hm:=(dI hf).2
  have l1:x.sg.length<=30:=hm.l1
  have l2:x.aP.length<=30:=by have:=hm.l2;rw[x.cC] at this;exact this
  have l3:x.ms.length<=2:=hm.l3
  have p0:=DZ hm 0
  have E9:fB x.n=true:=cR.2 hf
  refine bQ hp Tryz.func26 (ja x _ hp.mod hS hW) ?_;intro w hx hp
  rw[E9]
  refine aM ?_;refine aI hp ?_
  refine cy Tryz.func28 (dJ x 0 _ hp.mod l1) ?_;rintro _ w ⟨bw,cw,rfl,hq⟩;have hx:=hq.x;have hp:=hp.bJ hq;refine az ?_
  refine bQ hp Tryz.func27 (uj bw cw _ (ee x.n 0) rfl _ hp.rd p0.1 p0.2) ?_;intro w hx hp
  refine bP hp ?_;intro w b4 hx hp;refine az ?_;(repeat(first|(refine ah ?_;refine aI hp ?_)|(refine aH ?_;refine aW hp ?_;intro w hp;refine az ?_)))
  refine mG hp (jl (α:=Int)) (default:cL Int) rfl rfl rfl rfl (s:=1) rfl (by decide) rfl (by unfold maxLen;omega) (by show 24*_<=_;omega) ?_;intro w bs hx hp;refine az ?_
  have hp:=sV (e:=3) (s:=1) (enc:=eI) x.sg.length hp
  have Lj:(some ⟨bs,0,none⟩:Option Addr)≠none:=by simp
  have eW:∀s:Nat,s<x.sg.length->(x.sg.getD s default).width=((wN x.n (s:Nat):Nat):Int)/\wN x.n (s:Nat)<=4:=fun s hs=>by
   have h1:=oL hm (s:=(s:Nat)) (by unfold dr;exact⟨by omega,by show(s:Int)<x.sg.length;omega⟩)
   have h2:=(nY hm hf (s:=(s:Nat)) (by unfold dr;exact⟨by omega,by show(s:Int)<x.sg.length;omega⟩)).2
   rw[pt] at h1
   exact⟨h1.symm,h2⟩
  refine aR [1,2,4,5,6,7] (fun(i:Nat)=>[(1,.pointer (some ⟨b1,0,none⟩)),(2,.pointer (some ⟨b2,0,none⟩)),(4,.pointer (some ⟨b4,0,none⟩)),(5,.slice (some ⟨bs,0,none⟩) x.sg.length x.sg.length),(6,.int .i64 (((uB x.n i).2:Nat):Int)),(7,.int .i64 (i:Int))])
   (fun i w'=>i<=x.sg.length/\∃R,(R.length=x.sg.length/\aJ R=(uB x.n i).1)/\Hp w0 w' [rO 31 1 jl (some ⟨bs,0,none⟩) x.sg.length R,cD 3 1 eI R,rB b4 33 [.int .i64 (cT (ee x.n 0)),.slice none 0 0,.slice none 0 0,.slice none 0 0],rB b1 41 x.cs,rB b2 33 (aL Tryz.dY.zero)]) (fun i=>x.sg.length-i) 0 rfl ⟨by omega,List.replicate x.sg.length default,⟨by simp,by
    show aJ _=List.replicate x.sg.length []
    unfold aJ
    rw[List.map_replicate];rfl⟩,(hp.f4.f5.f4.f3.f4).tk 5⟩ ?_
  clear hp
  rintro i w1 ⟨hi,R,⟨fF,fP⟩,hp⟩ IH C
  have hb:=OY hm hi
  obtain⟨st,jr⟩:∃st,st=uB x.n i:=⟨_,rfl⟩
  rw[<-jr] at fP hb⊢
  have oh:=hb.pos
  refine bL ?_;refine aI hp ?_
  apply ae<;>intro bD
  ·have aF:i<x.sg.length:=by omega
   obtain⟨e1,e2⟩:=eW i aF
   have lN:=hb.row i aF
   by_cases hk:(x.sg.getD i default).kind=0
   ·have eN:uB x.n (i+1)=iX st i (wN x.n (i:Nat)):=by rw[uB,if_pos (by rw[bG];exact hk),<-jr]
    refine aN ?_
    refine aR [1,2,4,5,6,7,8] (fun(k:Nat)=>[(1,.pointer (some ⟨b1,0,none⟩)),(2,.pointer (some ⟨b2,0,none⟩)),(4,.pointer (some ⟨b4,0,none⟩)),(5,.slice (some ⟨bs,0,none⟩) x.sg.length x.sg.length),(6,.int .i64 ((st.2+k:Nat):Int)),(7,.int .i64 (i:Int)),(8,.int .i64 (k:Int))])
     (fun k w'=>k<=wN x.n (i:Nat)/\∃R,(R.length=x.sg.length/\aJ R=(iX st i k).1)/\Hp w0 w' [rO 31 1 jl (some ⟨bs,0,none⟩) x.sg.length R,cD 3 1 eI R,rB b4 33 [.int .i64 (cT (ee x.n 0)),.slice none 0 0,.slice none 0 0,.slice none 0 0],rB b1 41 x.cs,rB b2 33 (aL Tryz.dY.zero)]) (fun k=>wN x.n (i:Nat)-k) 0 rfl ⟨by omega,R,⟨fF,by rw[rE (by rw[hb.len];exact aF)];exact fP⟩,hp⟩ ?_
    clear hp fF fP
    rintro k w1 ⟨Ip,R,⟨fF,fP⟩,hp⟩ kE C
    have sb:(R.getD i default).ins.length<=20:=by
     rw[<-bk,fP]
     show((st.1.set i (st.1.getD i default++jt st.2 k)).getD i default).length<=20
     rw[cH (by rw[hb.len];exact aF),if_pos rfl,List.length_append,oK]
     omega
    refine bL ?_;(repeat(refine ah ?_;first|refine aI hp ?_|refine dg hp ?_))
    (first|apply fx|apply cf)<;>intro jK e<;>rw[e]<;>clear e;all_goals((repeat(first|(refine aG ?_;first|refine aO ?_|refine ba ?_)|(refine ah ?_;first|refine aI hp ?_|refine dg hp ?_))))
    ·have fK:k<wN x.n (i:Nat):=by omega
     refine ae (fun _=> ?_) (fun hg=>False.elim (by omega));refine aN ?_;(repeat(first|(refine ah ?_;refine bb hp ?_)|(refine bK ?_;refine gG hp ?_;intro w _ hx hp;refine az ?_)))
     rename_i bl
     obtain⟨Qr,hq,gF⟩:=oJ hp.f2 (show i<R.length by omega)
     have hp:=hq
     refine gT hp ?_;intro a' c' w hp bZ;refine az ?_
     first|refine nO hp (y:=(⟨(R.getD i default).ins++[2*((st.2+k:Nat):Int)],a',c'⟩:cL Int)) rfl rfl rfl (by omega) (by decide) (rfl) rfl ?_|refine ki hp (y:=(⟨(R.getD i default).ins++[2*((st.2+k:Nat):Int)],a',c'⟩:cL Int)) rfl rfl rfl (by omega) (by decide) (rfl) rfl ?_
     intro w hp;refine az ?_
     have hp:=((gF _ _ (⟨(R.getD i default).ins++[2*((st.2+k:Nat):Int)],a',c'⟩:cL Int) hp).f1.drop).f1
     refine kE (k+1) _ _ _ (by omega) rfl ⟨by omega,_,⟨?_,?_⟩,hp⟩
     ·rw[List.length_set];exact fF
     ·rw[mv,rF (by rw[hb.len];exact aF),<-fP,bk]
      rfl
    ·refine aM ?_
     obtain rfl:k=wN x.n (i:Nat):=by omega
     exact IH (i+1) _ _ _ (by omega) (by rw[eN];rfl) ⟨by omega,R,⟨fF,by rw[eN];exact fP⟩,hp⟩
   ·have eN:uB x.n (i+1)=st:=by rw[uB,if_neg (by rw[bG];exact hk),jr]
    refine aN ?_
    refine aR [1,2,4,5,6,7,8] (fun(k:Nat)=>[(1,.pointer (some ⟨b1,0,none⟩)),(2,.pointer (some ⟨b2,0,none⟩)),(4,.pointer (some ⟨b4,0,none⟩)),(5,.slice (some ⟨bs,0,none⟩) x.sg.length x.sg.length),(6,.int .i64 ((st.2:Nat):Int)),(7,.int .i64 (i:Int)),(8,.int .i64 (k:Int))])
     (fun k w'=>k=0/\Hp w0 w' [rO 31 1 jl (some ⟨bs,0,none⟩) x.sg.length R,cD 3 1 eI R,rB b4 33 [.int .i64 (cT (ee x.n 0)),.slice none 0 0,.slice none 0 0,.slice none 0 0],rB b1 41 x.cs,rB b2 33 (aL Tryz.dY.zero)]) (fun k=>0) 0 rfl ⟨rfl,hp⟩ ?_
    clear hp
    rintro k w1 ⟨rfl,hp⟩ kE C
    refine bL ?_;(repeat(refine ah ?_;first|refine aI hp ?_|refine dg hp ?_))
    (first|apply fx|apply cf)<;>intro jK e<;>rw[e]<;>clear e;all_goals((repeat(first|(refine aG ?_;first|refine aO ?_|refine ba ?_)|(refine ah ?_;first|refine aI hp ?_|refine dg hp ?_))))
    ·refine ae (fun hg=>False.elim (by omega)) (fun _=> ?_);refine aM ?_
     exact IH (i+1) _ _ _ (by omega) (by rw[eN];rfl) ⟨by omega,R,⟨fF,by rw[eN];exact fP⟩,hp⟩
    ·refine aM ?_
     exact IH (i+1) _ _ _ (by omega) (by rw[eN];rfl) ⟨by omega,R,⟨fF,by rw[eN];exact fP⟩,hp⟩
  ·refine aM ?_
   obtain rfl:i=x.sg.length:=by omega
   clear IH
   subst jr
   have fP:aJ R=(vd x.n 0).1:=fP
   refine aR [1,2,4,5,6,9] (fun(i:Nat)=>[(1,.pointer (some ⟨b1,0,none⟩)),(2,.pointer (some ⟨b2,0,none⟩)),(4,.pointer (some ⟨b4,0,none⟩)),(5,.slice (some ⟨bs,0,none⟩) x.sg.length x.sg.length),(6,.int .i64 (((vd x.n i).2:Nat):Int)),(9,.int .i64 (i:Int))])
    (fun i w'=>i<=x.sg.length/\∃R Q sa sc,(R.length=x.sg.length/\aJ R=(vd x.n i).1/\aU Q=pw [0] x.n i)/\Hp w0 w' [rO 31 1 jl (some ⟨bs,0,none⟩) x.sg.length R,cD 3 1 eI R,rO 68 3 ke sa sc Q,fz Q,rB b4 33 [.int .i64 (cT (ee x.n 0)),.slice sa Q.length sc,.slice none 0 0,.slice none 0 0],rB b1 41 x.cs,rB b2 33 (aL Tryz.dY.zero)]) (fun i=>x.sg.length-i) 0 rfl ⟨by omega,R,[],none,0,⟨fF,fP,rfl⟩,?_⟩ ?_
   ·exact((ot hp).eH (e:=68) (sz:=3) (enc:=ke) (c:=0) (X:=[]) (Ext.refl _) (dk.nil _ _ _ _ _)).f1.f1.f3.f3
   clear hp fF fP hb oh
   rintro i w1 ⟨hi,R,Q,sa,sc,⟨fF,fP,oX⟩,hp⟩ IH C
   have hb:=OZ hm hi
   have uF:Q.length=dU x.n 3 i:=by rw[<-cm Q,oX,l7]
   have hQb:=iM hm 3 i hi
   obtain⟨st,jr⟩:∃st,st=vd x.n i:=⟨_,rfl⟩
   rw[<-jr] at fP hb⊢
   have oh:=hb.pos
   refine bL ?_;refine aI hp ?_
   apply ae<;>intro bD
   ·have aF:i<x.sg.length:=by omega
    obtain⟨e1,e2⟩:=eW i aF
    have lN:=hb.row i aF
    by_cases hk:(x.sg.getD i default).kind=3
    ·have zb:aY x.n (i:Nat)=3:=by rw[bG];exact hk
     have eN:vd x.n (i+1)=iX st i (wN x.n (i:Nat)):=by rw[vd,if_pos zb,<-jr]
     have eQ:pw [0] x.n (i+1)=pw [0] x.n i++gR [0] (iy x.n (i:Nat)) (wN x.n (i:Nat)):=by rw[pw,if_pos zb]
     have hv:iy x.n (i:Nat)=(x.sg.getD i default).init:=by unfold iy;rw[Int.toNat_natCast];rfl
     refine aN ?_
     refine aR [1,2,4,5,6,9,10] (fun(k:Nat)=>[(1,.pointer (some ⟨b1,0,none⟩)),(2,.pointer (some ⟨b2,0,none⟩)),(4,.pointer (some ⟨b4,0,none⟩)),(5,.slice (some ⟨bs,0,none⟩) x.sg.length x.sg.length),(6,.int .i64 ((st.2+k:Nat):Int)),(9,.int .i64 (i:Int)),(10,.int .i64 (k:Int))])
      (fun k w'=>k<=wN x.n (i:Nat)/\∃R Q sa sc,(R.length=x.sg.length/\aJ R=(iX st i k).1/\aU Q=pw [0] x.n i++gR [0] (iy x.n (i:Nat)) k)/\Hp w0 w' [rO 31 1 jl (some ⟨bs,0,none⟩) x.sg.length R,cD 3 1 eI R,rO 68 3 ke sa sc Q,fz Q,rB b4 33 [.int .i64 (cT (ee x.n 0)),.slice sa Q.length sc,.slice none 0 0,.slice none 0 0],rB b1 41 x.cs,rB b2 33 (aL Tryz.dY.zero)]) (fun k=>wN x.n (i:Nat)-k) 0 rfl ⟨by omega,R,Q,sa,sc,⟨fF,by rw[rE (by rw[hb.len];exact aF)];exact fP,by rw[oX];simp[gR]⟩,hp⟩ ?_
     clear hp fF fP oX uF
     rintro k w1 ⟨Ip,R,Q,sa,sc,⟨fF,fP,oX⟩,hp⟩ kE C
     have uF:Q.length=dU x.n 3 i+k:=by rw[<-cm Q,oX,List.length_append,l7,sX]
     have sb:(R.getD i default).ins.length<=20:=by
      rw[<-bk,fP]
      show((st.1.set i (st.1.getD i default++jt st.2 k)).getD i default).length<=20
      rw[cH (by rw[hb.len];exact aF),if_pos rfl,List.length_append,oK]
      omega
     refine bL ?_;(repeat(refine ah ?_;first|refine aI hp ?_|refine dg hp ?_))
     (first|apply fx|apply cf)<;>intro jK e<;>rw[e]<;>clear e;all_goals((repeat(first|(refine aG ?_;first|refine aO ?_|refine ba ?_)|(refine ah ?_;first|refine aI hp ?_|refine dg hp ?_))))
     ·have fK:k<wN x.n (i:Nat):=by omega
      have Xp:((k:Nat):Int)<=((IntKind.i64.bits:Nat):Int):=by show((k:Nat):Int)<=64;omega
      refine ae (fun _=> ?_) (fun hg=>False.elim (by omega));refine aN ?_
      refine j7 hp ?_;intro w hx hp;have hs:=hp;(repeat(first|(refine ah ?_;first|refine dN ?_|refine lH rfl (by omega) rfl rfl rfl ?_)|(refine bK ?_;refine qv (fun _ hx=>hs.ext hx) hp rfl rfl rfl rfl rfl rfl rfl rfl rfl rfl ?_;intro w _ hx hp;have hs:=hs.ext hx;refine fO ?_)))
      rename_i b0
      refine CZ (fun _ hx=>hs.ext hx) hp ke [⟨0,bits .and .i64 ((x.sg.getD i default).init/2^((k:Nat):Int).toNat) 1,[0],some ⟨b0,0,none⟩,1⟩] rfl rfl rfl rfl (s:=3) rfl (by decide) (by infer_instance) (by rfl) (by rfl) (by rfl) (by decide) ?_;intro w bq hx hp;have hs:=hs.ext hx;refine fO ?_
      refine gW hp rfl rfl rfl rfl rfl rfl rfl (by decide) rfl (zl) rfl rfl (by kernel_rfl) ?_;intro SH SI w hp bZ;refine fO ?_;refine Ah hp rfl rfl rfl rfl (by kernel_rfl) ?_;intro w hp;refine fO ?_
      have hp:=((qy (y:=⟨0,bits .and .i64 ((x.sg.getD i default).init/2^((k:Nat):Int).toNat) 1,[0],some ⟨b0,0,none⟩,1⟩) (hp.f5.f2)).f1.drop).f3.f3.f3
      (repeat(first|(refine ah ?_;refine bb hp ?_)|(refine bK ?_;refine gG hp ?_;intro w _ hx hp;refine az ?_)))
      rename_i bl
      obtain⟨Qr,hq,gF⟩:=oJ hp.f2 (show i<R.length by omega)
      have hp:=hq
      refine gT hp ?_;intro a' c' w hp bZ;refine az ?_
      first|refine nO hp (y:=(⟨(R.getD i default).ins++[2*((st.2+k:Nat):Int)],a',c'⟩:cL Int)) rfl rfl rfl (by omega) (by decide) (rfl) rfl ?_|refine ki hp (y:=(⟨(R.getD i default).ins++[2*((st.2+k:Nat):Int)],a',c'⟩:cL Int)) rfl rfl rfl (by omega) (by decide) (rfl) rfl ?_
      intro w hp;refine az ?_
      have hp:=((gF _ _ (⟨(R.getD i default).ins++[2*((st.2+k:Nat):Int)],a',c'⟩:cL Int) hp).f1.drop).f1
      refine kE (k+1) _ _ _ (by omega) rfl ⟨by omega,_,_,SH,SI,⟨?_,?_,?_⟩,hp⟩
      ·rw[List.length_set];exact fF
      ·rw[mv,rF (by rw[hb.len];exact aF),<-fP,bk]
       rfl
      ·rw[zq,oX,vT,<-List.append_assoc,hv,dx,Int.toNat_natCast];rfl
     ·refine aM ?_
      obtain rfl:k=wN x.n (i:Nat):=by omega
      rw[<-eQ] at oX
      exact IH (i+1) _ _ _ (by omega) (by rw[eN];rfl) ⟨by omega,R,Q,sa,sc,⟨fF,by rw[eN];exact fP,oX⟩,hp⟩
    ·have zb:aY x.n (i:Nat)≠3:=by rw[bG];exact hk
     have eN:vd x.n (i+1)=st:=by rw[vd,if_neg zb,jr]
     have eQ:pw [0] x.n (i+1)=pw [0] x.n i:=by rw[pw,if_neg zb]
     refine aN ?_
     refine aR [1,2,4,5,6,9,10] (fun(k:Nat)=>[(1,.pointer (some ⟨b1,0,none⟩)),(2,.pointer (some ⟨b2,0,none⟩)),(4,.pointer (some ⟨b4,0,none⟩)),(5,.slice (some ⟨bs,0,none⟩) x.sg.length x.sg.length),(6,.int .i64 ((st.2:Nat):Int)),(9,.int .i64 (i:Int)),(10,.int .i64 (k:Int))])
      (fun k w'=>k=0/\Hp w0 w' [rO 31 1 jl (some ⟨bs,0,none⟩) x.sg.length R,cD 3 1 eI R,rO 68 3 ke sa sc Q,fz Q,rB b4 33 [.int .i64 (cT (ee x.n 0)),.slice sa Q.length sc,.slice none 0 0,.slice none 0 0],rB b1 41 x.cs,rB b2 33 (aL Tryz.dY.zero)]) (fun k=>0) 0 rfl ⟨rfl,hp⟩ ?_
     clear hp
     rintro k w1 ⟨rfl,hp⟩ kE C
     refine bL ?_;(repeat(refine ah ?_;first|refine aI hp ?_|refine dg hp ?_))
     (first|apply fx|apply cf)<;>intro jK e<;>rw[e]<;>clear e;all_goals((repeat(first|(refine aG ?_;first|refine aO ?_|refine ba ?_)|(refine ah ?_;first|refine aI hp ?_|refine dg hp ?_))))
     ·refine ae (fun hg=>False.elim (by omega)) (fun _=> ?_);refine aM ?_
      exact IH (i+1) _ _ _ (by omega) (by rw[eN];rfl) ⟨by omega,R,Q,sa,sc,⟨fF,by rw[eN];exact fP,by rw[eQ];exact oX⟩,hp⟩
     ·refine aM ?_
      exact IH (i+1) _ _ _ (by omega) (by rw[eN];rfl) ⟨by omega,R,Q,sa,sc,⟨fF,by rw[eN];exact fP,by rw[eQ];exact oX⟩,hp⟩
   ·refine aM ?_
    obtain rfl:i=x.sg.length:=by omega
    clear IH
    subst jr
    have fP:aJ R=(pS x.n 0).1:=fP
    refine aR [1,2,4,5,6,11] (fun(j:Nat)=>[(1,.pointer (some ⟨b1,0,none⟩)),(2,.pointer (some ⟨b2,0,none⟩)),(4,.pointer (some ⟨b4,0,none⟩)),(5,.slice (some ⟨bs,0,none⟩) x.sg.length x.sg.length),(6,.int .i64 (((pS x.n j).2:Nat):Int)),(11,.int .i64 (j:Int))])
     (fun j w'=>j<=x.ms.length/\∃R Q sa sc,(R.length=x.sg.length/\aJ R=(pS x.n j).1/\aU Q=ni [0] [0,0,0,0] x.n j)/\Hp w0 w' [rO 31 1 jl (some ⟨bs,0,none⟩) x.sg.length R,cD 3 1 eI R,rO 68 3 ke sa sc Q,fz Q,rB b4 33 [.int .i64 (cT (ee x.n 0)),.slice sa Q.length sc,.slice none 0 0,.slice none 0 0],rB b1 41 x.cs,rB b2 33 (aL Tryz.dY.zero)]) (fun j=>x.ms.length-j) 0 rfl ⟨by omega,R,Q,sa,sc,⟨fF,fP,oX⟩,hp⟩ ?_
    clear hp fF fP hb oh oX uF
    rintro j w1 ⟨hj,R,Q,sa,sc,⟨fF,fP,oX⟩,hp⟩ IH C
    have hb:=O0 hm hj
    have uF:Q.length=dU x.n 3 x.sg.length+jc x.n j:=by rw[<-cm Q,oX,jA];rfl
    have hQb:=iM hm 3 x.sg.length (Nat.le_refl _)
    have hQb2:=tf hm j hj
    refine bL ?_;refine aI hp ?_
    apply ae<;>intro bD
    ·have aF:j<x.ms.length:=by omega
     have i4:=(hm.ms j aF).2.2.2.1
     change dr x.n (x.ms.getD j default).out at i4
     unfold dr at i4
     change 0<=(x.ms.getD j default).out/\(x.ms.getD j default).out<x.sg.length at i4
     obtain⟨o,ho⟩:=Int.eq_ofNat_of_zero_le i4.1
     have jL:o<x.sg.length:=by omega
     obtain⟨e1,e2⟩:=eW o jL
     obtain⟨st,jr⟩:∃st,st=pS x.n j:=⟨_,rfl⟩
     have eo:(x.ms.getD j default).out.toNat=o:=by omega
     have eN:pS x.n (j+1)=iX st o (wN x.n (o:Nat)):=by
      rw[pS]
      show iX (pS x.n j) (x.ms.getD j default).out.toNat (wN x.n (x.ms.getD j default).out)=_
      rw[eo,ho,jr]
     have eQ:ni [0] [0,0,0,0] x.n (j+1)=ni [0] [0,0,0,0] x.n j++ju [0,0,0,0] (wN x.n (o:Nat)):=by
      rw[ni]
      show ni [0] [0,0,0,0] x.n j++ju [0,0,0,0] (wN x.n (x.ms.getD j default).out)=_
      rw[ho]
     rw[<-jr] at fP hb⊢
     have oh:=hb.pos
     have lN:=hb.row o jL
     refine aN ?_
     refine aR [1,2,4,5,6,11,12] (fun(k:Nat)=>[(1,.pointer (some ⟨b1,0,none⟩)),(2,.pointer (some ⟨b2,0,none⟩)),(4,.pointer (some ⟨b4,0,none⟩)),(5,.slice (some ⟨bs,0,none⟩) x.sg.length x.sg.length),(6,.int .i64 ((st.2+k:Nat):Int)),(11,.int .i64 (j:Int)),(12,.int .i64 (k:Int))])
      (fun k w'=>k<=wN x.n (o:Nat)/\∃R Q sa sc,(R.length=x.sg.length/\aJ R=(iX st o k).1/\aU Q=ni [0] [0,0,0,0] x.n j++ju [0,0,0,0] k)/\Hp w0 w' [rO 31 1 jl (some ⟨bs,0,none⟩) x.sg.length R,cD 3 1 eI R,rO 68 3 ke sa sc Q,fz Q,rB b4 33 [.int .i64 (cT (ee x.n 0)),.slice sa Q.length sc,.slice none 0 0,.slice none 0 0],rB b1 41 x.cs,rB b2 33 (aL Tryz.dY.zero)]) (fun k=>wN x.n (o:Nat)-k) 0 rfl ⟨by omega,R,Q,sa,sc,⟨fF,by rw[rE (by rw[hb.len];exact jL)];exact fP,by rw[oX];simp[ju]⟩,hp⟩ ?_
     clear hp fF fP oX uF
     rintro k w1 ⟨Ip,R,Q,sa,sc,⟨fF,fP,oX⟩,hp⟩ kE C
     have uF:Q.length=dU x.n 3 x.sg.length+jc x.n j+k:=by rw[<-cm Q,oX,List.length_append,jA];simp[ju];rfl
     have sb:(R.getD o default).ins.length<=20:=by
      rw[<-bk,fP]
      show((st.1.set o (st.1.getD o default++jt st.2 k)).getD o default).length<=20
      rw[cH (by rw[hb.len];exact jL),if_pos rfl,List.length_append,oK]
      omega
     refine bL ?_
     refine j7 hp ?_;intro w hx hp;have hs:=hp;(repeat(refine ah ?_;first|refine dN ?_|refine lH rfl (by omega) rfl rfl rfl ?_|refine iC rfl (by omega) (by omega) rfl rfl rfl ?_))
     skip
     rw[eo]
     apply ae<;>intro jK
     ·have fK:k<wN x.n (o:Nat):=by omega
      refine aN ?_;(repeat(first|(refine ah ?_;refine aI hp ?_)|(refine bK ?_;refine gG hp ?_;intro w _ hx hp;refine az ?_)))
      rename_i b0
      refine r7 hp ke [⟨1,0,[0,0,0,0],some ⟨b0,0,none⟩,4⟩] rfl rfl rfl rfl (s:=3) rfl (by decide) (by infer_instance) (by rfl) (by rfl) (by rfl) (by decide) ?_;intro w bq hx hp;refine az ?_
      refine gT hp ?_;intro SH SI w hp bZ;refine az ?_;refine iE hp ?_;intro w hp;refine az ?_
      have hp:=((qy (y:=⟨1,0,[0,0,0,0],some ⟨b0,0,none⟩,4⟩) (hp.f5.f2)).f1.drop).f3.f3.f3
      obtain⟨Qr,hq,gF⟩:=oJ hp.f1 (show o<R.length by omega)
      have hp:=hq
      clear hq
      refine Br hp (Hp.drop hp) (by kernel_rfl) (by kernel_rfl) rfl rfl ?_;(repeat(first|(refine gu ?_;first|refine fy ?_|refine sK rfl (by omega) rfl rfl rfl ?_|refine tE rfl (by omega) (by omega) rfl rfl rfl ?_)|(refine qw ?_;refine lI rfl rfl rfl rfl rfl rfl rfl rfl rfl rfl ?_;intro _;refine cX ?_)))
      rename_i bl
      rw[eo]
      refine fZ rfl rfl rfl rfl rfl rfl rfl (by decide) rfl (zl) rfl rfl (fun _ _ _ _ _ hp=>hp.sub (by(repeat(first|exact List.sublist_append_left _ _|apply List.Sublist.cons)))) ?_;intro a' c' bZ;refine cX ?_
      first|refine Jq (y:=(⟨(R.getD o default).ins++[2*((st.2+k:Nat):Int)],a',c'⟩:cL Int)) rfl rfl rfl (by omega) (by decide) (rfl) rfl (by kernel_rfl) ?_|refine Gl (y:=(⟨(R.getD o default).ins++[2*((st.2+k:Nat):Int)],a',c'⟩:cL Int)) rfl rfl rfl (by omega) (by decide) (rfl) rfl (by kernel_rfl) ?_
      refine cX ?_
      refine dc ?_;intro w hp C;refine bL ?_
      rw[eo] at hp
      have hp:=(gF _ _ (⟨(R.getD o default).ins++[2*((st.2+k:Nat):Int)],a',c'⟩:cL Int) hp.drop).f1
      refine kE (k+1) _ _ _ (by omega) rfl ⟨by omega,_,_,SH,SI,⟨?_,?_,?_⟩,hp⟩
      ·rw[List.length_set];exact fF
      ·rw[mv,rF (by rw[hb.len];exact jL),<-fP,bk]
       rfl
      ·rw[zq,oX]
       unfold ju
       rw[List.replicate_succ',<-List.append_assoc];rfl
     ·refine aM ?_
      obtain rfl:k=wN x.n (o:Nat):=by omega
      rw[<-eQ] at oX
      exact IH (j+1) _ _ _ (by omega) (by rw[eN];rfl) ⟨by omega,R,Q,sa,sc,⟨fF,by rw[eN];exact fP,oX⟩,hp⟩
    ·refine aM ?_;refine aI hp ?_
     obtain rfl:j=x.ms.length:=by omega
     clear IH
     refine cy Tryz.func29 (lM x _ hp.mod hS hW) ?_;rintro _ w ⟨be,ce,rfl,hq⟩;have hx:=hq.x;have hp:=hp.bJ hq;refine az ?_
     rw[mV he] at hp⊢
     have qb:=iW he
     have jg:=qb.2.1
     have OT:l.length<=30:=by have h:=qb.2.2;rw[x.cC] at h;omega
     have Fw:=kQ l
     obtain⟨Fv,yP⟩:=py hf he
     have jr:=oM.start Fv
     have zv:∀i,i<x.aP.length->∀j,j<(x.aP.getD i default).ops.length->u6 ((x.aP.getD i default).ops.getD j default):=fun i hi j hj=>by
      have h:=hW.ops i (by rw[x.cC];exact hi)
      rw[x.mR] at h
      exact h j hj
     have h1:Hp w0 _ (rO 120 2 gh none 0 ([]:List (Int×Int))::rO 3 1 eI none 0 ([]:List Int)::_):=(hp.eH (e:=3) (sz:=1) (enc:=eI) (c:=0) (X:=[]) (Ext.refl _) (dk.nil _ _ _ _ _)).eH (e:=120) (sz:=2) (enc:=gh) (c:=0) (X:=[]) (Ext.refl _) (dk.nil _ _ _ _ _)
     have D8:(⟨cT (ee x.n 0),Q,sa,sc,[],none,0,[],none,0⟩:bf).n=(fu x.n l 0).1.1:=by
      show(⟨cT (ee x.n 0),aU Q,[],[]⟩:ao)=kq x.n
      rw[oX];rfl
     have h2:=fe (x:=⟨cT (ee x.n 0),Q,sa,sc,[],none,0,[],none,0⟩) (gX (h1.f1.f1.f6.f6))
     refine aR [1,2,4,5,13,15] (fun(i:Nat)=>[(1,.pointer (some ⟨b1,0,none⟩)),(2,.pointer (some ⟨b2,0,none⟩)),(4,.pointer (some ⟨b4,0,none⟩)),(5,.slice (some ⟨bs,0,none⟩) x.sg.length x.sg.length),(13,.slice be l.length ce),(15,.int .i64 (i:Int))])
      (fun i w'=>i<=l.length/\∃R y,(R.length=x.sg.length/\aJ R=(fu x.n l i).2/\y.n=(fu x.n l i).1.1/\(fu x.n l i).1.2=false)/\Hp w0 w' [dv y,rB b4 33 y.cs,rO 31 1 jl (some ⟨bs,0,none⟩) x.sg.length R,cD 3 1 eI R,rO 3 1 eI be ce (cJ l),rB b1 41 x.cs,rB b2 33 (aL Tryz.dY.zero)]) (fun i=>l.length-i) 0 rfl ⟨by omega,R,⟨cT (ee x.n 0),Q,sa,sc,[],none,0,[],none,0⟩,⟨fF,fP,D8,rfl⟩,h2.f6.f6.f3.f5.f5.f6.f6⟩ ?_
     clear hp h1 h2 D8 fF fP oX uF
     rintro i w1 ⟨hi,R,y,⟨fF,fP,m0,Ee⟩,hp⟩ IH C
     have hP:=px hm hf (fun i hi=>(jg i hi).1) i hi
     refine bL ?_
     apply ae<;>intro bD
     ·have aF:i<l.length:=by omega
      obtain⟨q,hq⟩:∃q,q=l.getD i 0:=⟨_,rfl⟩
      have Tg:(cJ l).getD i default=((q:Nat):Int):=by rw[hq];exact mu l i
      have KJ:q<x.aP.length:=by
       have h:=(jg q (by rw[hq,List.getD_eq_getElem?_getD,List.getElem?_eq_getElem aF];exact List.getElem_mem _)).1
       rw[x.cC] at h;exact h
      obtain⟨qR,yB,rY,KK⟩:=gg hm hf (i:=q) (by rw[x.cC];exact KJ)
      have wE:dT x.n q=(x.aP.getD q default).tg:=x.Le q
      have AN:opsL x.n q=(x.aP.getD q default).ops:=x.mR q
      have pH:=rY
      rw[wE] at pH
      unfold dr at pH
      change 0<=(x.aP.getD q default).tg/\(x.aP.getD q default).tg<x.sg.length at pH
      obtain⟨t,ht⟩:=Int.eq_ofNat_of_zero_le pH.1
      have Ea:(x.aP.getD q default).tg.toNat=t:=by omega
      obtain⟨e1,e2⟩:=eW t (by omega)
      have DW:=nY hm hf rY
      have IN:wN x.n (dT x.n q)=wN x.n (t:Nat):=by rw[wE,ht]
      have la:Lf q x.aP:=⟨KJ⟩
      have hxl:x.n.sg.length=x.sg.length:=rfl
      have hAx:Mn (fu x.n l i).1.1 (fu x.n l i).2 (opsL x.n q) (wN x.n (dT x.n q):Nat):=V2 hm hf hP.dR hP.sig (by rw[x.cC];exact KJ) rY
      obtain⟨ev,oU⟩:∃ev,ev=dD a6 (fu x.n l i).2 (wN x.n (dT x.n q)) (cU x.n q) (fu x.n l i).1:=⟨_,rfl⟩
      have F3:(fu x.n l i).1=((fu x.n l i).1.1,false):=by rw[<-Ee]
      have SL:fI (opsL x.n q) (fu x.n l i).2.length=cU x.n q:=by unfold cU;rw[hP.sig.len]
      have eT:fu x.n l (i+1)=(ev.1,(fu x.n l i).2.set t ev.2):=by
       rw[fu,<-hq]
       unfold IL
       rw[<-oU,wE,Ea]
      have Cw:ev.2.length=wN x.n (dT x.n q):=by rw[oU];exact cv _ _ _ _ _
      refine aN ?_
      refine j7 hp ?_;intro w hx hp;have hs:=hp;(repeat(refine ah ?_;first|refine dN ?_|refine fc ?_|refine jb rfl (by omega) (by omega) rfl rfl rfl ?_))
      rw[Tg,Int.toNat_natCast]
      (first|(refine Jl (fun _ hx=>hs.ext hx) hp ?_;intro w Xo hx hp)|(refine Bm (fun _ hx=>hs.ext hx) hp rfl ?_;intro w Xo hx hp));have hs:=hs.ext hx;refine fO ?_;refine uT hp rfl rfl rfl rfl (by kernel_rfl) ?_;intro w hp;refine fO ?_
      obtain⟨r,hr⟩:∃r,r=EA y.n (aJ R) (x.aP.getD q default).ops ((wN x.n (t:Nat):Nat):Int):=⟨_,rfl⟩
      refine fR hp ?_;(repeat(refine gu ?_;first|refine fy ?_|refine NR rfl (by omega) (by omega) rfl rfl rfl ?_))
      rw[Ea,e1]
      refine j8 Tryz.func30 (fun F w hp=> ?_)
      refine bN.mono (sx y x.sg.length (some ⟨bs,0,none⟩) x.sg.length R fF (x.aP.getD q default).oa (x.aP.getD q default).oc (x.aP.getD q default).ops ((wN x.n (t:Nat):Nat):Int) _ hp.pre.dR (by rw[m0];exact hP.dR) hp.pre.rd hp.pre.rs hp.pre.rd (by omega) (by rw[fP,m0];exact hP.sig.row) (by rw[<-AN];exact qR.len) (zv q KJ) (by unfold da;omega)) ?_
      rw[<-hr]
      rintro _ w ⟨y',b,c,⟨ey,rfl⟩,hq⟩
      have hp:=Hp.FJ hp hq
      refine⟨fun hq=>Bool.noConfusion (hq.symm.trans (by kernel_rfl:bH _ _=false)),_,hp,?_⟩
      clear hp hq
      refine cX ?_
      (first|refine oq ?_|refine iS rfl ?_);intro b17;refine cX ?_;refine eO rfl rfl rfl rfl (by kernel_rfl) ?_;refine cX ?_
      refine dc ?_;intro w hp C;refine bL ?_
      rw[m0,fP,<-IN,<-AN] at hr
      cases hb:ev.1.2 with
      |true=>
       rw[G2 (by rw[SL,<-F3,<-oU];exact hb)] at hr
       subst hr
       refine aN ?_;refine aW hp ?_;intro w hp;refine az ?_;refine bg hp rfl ?_
       rw[J9 hf he (i:=i+1) (by omega) (by rw[eT];exact hb)]
       exact⟨zj,⟨rfl,rfl⟩,(oQ hp).tk 1⟩
      |false=>
       rw[Kb hAx (by rw[SL,<-F3,<-oU];exact hb),SL,<-F3,<-oU] at hr
       subst hr
       have fD:((((ev.1.1,ev.2):ao×List Int).2.length:Nat):Int)≠0:=by
        show((ev.2.length:Nat):Int)≠0
        rw[Cw];omega
       refine mE (decide_eq_false fD) rfl ?_;(repeat(first|(refine ah ?_;refine aI hp ?_)|(refine aH ?_;refine aW hp ?_;intro w hp;refine az ?_)))
       first|refine nO hp (y:=(⟨ev.2,b,c⟩:cL Int)) rfl rfl rfl (by omega) (by decide) (rfl) rfl ?_|refine ki hp (y:=(⟨ev.2,b,c⟩:cL Int)) rfl rfl rfl (by omega) (by decide) (rfl) rfl ?_
       intro w hp;refine az ?_
       rw[Ea] at hp
       obtain⟨Qr,D1,gF⟩:=oJ (hp.f7) (i:=t) (by omega)
       have hp:=gF _ _ (⟨ev.2,b,c⟩:cL Int) (D1.drop.f3)
       exact IH (i+1) _ _ _ (by omega) rfl ⟨by omega,_,y',⟨by rw[List.length_set];exact fF,by rw[eT,mv,fP],by rw[eT];exact ey,by rw[eT];exact hb⟩,(hp.f9.f9.f9.f3.f9.f9.f7).tk 7⟩
     ·refine aM ?_
      obtain rfl:i=l.length:=by omega
      clear IH hP
      have fP:aJ R=(bO x.n l).2:=fP
      have pU:∀u,u<R.length->(R.getD u default).ins.length<=1000:=fun u hu=>by
       have h:=(jr.sig.row _ (by rw[<-fP];exact aK (X:=aJ R) (i:=u) (by rw[fh];exact hu))).1
       rw[bk] at h;omega
      have hp:Hp w0 _ [_,_,_,_,_,_]:=(hp.f4).drop
      have m0:y.n=(fX x.n (bO x.n l).2 (bO x.n l).1 0).1.1:=m0
      have Ee:(fX x.n (bO x.n l).2 (bO x.n l).1 0).1.2=false:=Ee
      have hxl:x.n.sg.length=x.sg.length:=rfl
      refine aR [1,2,4,5,19,20] (fun(s:Nat)=>[(1,.pointer (some ⟨b1,0,none⟩)),(2,.pointer (some ⟨b2,0,none⟩)),(4,.pointer (some ⟨b4,0,none⟩)),(5,.slice (some ⟨bs,0,none⟩) x.sg.length x.sg.length),(19,.int .i64 (((fX x.n (bO x.n l).2 (bO x.n l).1 s).2:Nat):Int)),(20,.int .i64 (s:Int))])
       (fun s w'=>s<=x.sg.length/\∃y,(y.n=(fX x.n (bO x.n l).2 (bO x.n l).1 s).1.1/\(fX x.n (bO x.n l).2 (bO x.n l).1 s).1.2=false)/\Hp w0 w' [dv y,rB b4 33 y.cs,rO 31 1 jl (some ⟨bs,0,none⟩) x.sg.length R,cD 3 1 eI R,rB b1 41 x.cs,rB b2 33 (aL Tryz.dY.zero)]) (fun s=>x.sg.length-s) 0 rfl ⟨by omega,y,⟨m0,Ee⟩,hp⟩ ?_
      clear hp m0 Ee
      rintro s w1 ⟨hs,y,⟨m0,Ee⟩,hp⟩ IH C
      obtain⟨AI,zy,hS3⟩:=qO hm jr s hs
      have hS4:=iM hm 3 s hs
      refine bL ?_;refine aI hp ?_
      apply ae<;>intro bD
      ·have aF:s<x.sg.length:=by omega
       obtain⟨e1,e2⟩:=eW s aF
       by_cases hk:(x.sg.getD s default).kind=3
       ·have zb:aY x.n (s:Nat)=3:=by rw[bG];exact hk
        have eT:(fX x.n (bO x.n l).2 (bO x.n l).1 (s+1))=(jm x.n (bO x.n l).2 ((s:Nat):Int) (fX x.n (bO x.n l).2 (bO x.n l).1 s) x.aP.length):=by rw[fX,if_pos zb,x.cC]
        refine aN ?_
        refine aR [1,2,4,5,19,20,21] (fun(i:Nat)=>[(1,.pointer (some ⟨b1,0,none⟩)),(2,.pointer (some ⟨b2,0,none⟩)),(4,.pointer (some ⟨b4,0,none⟩)),(5,.slice (some ⟨bs,0,none⟩) x.sg.length x.sg.length),(19,.int .i64 (((jm x.n (bO x.n l).2 ((s:Nat):Int) (fX x.n (bO x.n l).2 (bO x.n l).1 s) i).2:Nat):Int)),(20,.int .i64 (s:Int)),(21,.int .i64 (i:Int))])
         (fun i w'=>i<=x.aP.length/\∃y,(y.n=(jm x.n (bO x.n l).2 ((s:Nat):Int) (fX x.n (bO x.n l).2 (bO x.n l).1 s) i).1.1/\(jm x.n (bO x.n l).2 ((s:Nat):Int) (fX x.n (bO x.n l).2 (bO x.n l).1 s) i).1.2=false)/\Hp w0 w' [dv y,rB b4 33 y.cs,rO 31 1 jl (some ⟨bs,0,none⟩) x.sg.length R,cD 3 1 eI R,rB b1 41 x.cs,rB b2 33 (aL Tryz.dY.zero)]) (fun i=>x.aP.length-i) 0 rfl ⟨by omega,y,⟨m0,Ee⟩,hp⟩ ?_
        clear hp m0 Ee
        rintro i w1 ⟨hi,y,⟨m0,Ee⟩,hp⟩ kE C
        obtain⟨vU,Xh,hI3⟩:=nZ hm aF zb AI zy i (by rw[x.cC];exact hi)
        refine bL ?_;refine aI hp ?_
        (first|apply fx|apply cf)<;>intro jK e<;>rw[e]<;>clear e;all_goals((repeat(first|(refine aG ?_;first|refine aO ?_|refine ba ?_)|(refine ah ?_;first|refine aI hp ?_|refine dg hp ?_))))
        ·have fK:i<x.aP.length:=by omega
         obtain⟨qR,yB,rY,KK⟩:=gg hm hf (i:=i) (by rw[x.cC];exact fK)
         have AN:opsL x.n i=(x.aP.getD i default).ops:=x.mR i
         have la:Lf i x.aP:=⟨fK⟩
         refine ae (fun _=> ?_) (fun hg=>False.elim (by omega));refine aN ?_;(repeat(refine ah ?_;first|refine aI hp ?_|refine dg hp ?_))
         apply ae<;>intro ht
         ·have eJ:(jm x.n (bO x.n l).2 ((s:Nat):Int) (fX x.n (bO x.n l).2 (bO x.n l).1 s) (i+1))=(jm x.n (bO x.n l).2 ((s:Nat):Int) (fX x.n (bO x.n l).2 (bO x.n l).1 s) i):=by
           rw[jm]
           unfold zJ
           rw[if_neg (show¬dT x.n i=((s:Nat):Int) from fun h=>ht ((x.Le i).symm.trans h))]
          refine aN ?_
          exact kE (i+1) _ _ _ (by omega) (by rw[eJ];rfl) ⟨by omega,y,⟨by rw[eJ];exact m0,by rw[eJ];exact Ee⟩,hp⟩
         ·have ht:=Decidable.not_not.1 ht
          have IV:dT x.n i=(s:Nat):=(x.Le i).trans ht
          have ij:=BX hm aF zb AI zy (i:=i) (by rw[x.cC];exact fK) IV
          have DW:=nY hm hf rY
          rw[IV] at DW
          obtain⟨v1,v2,v3,v4⟩:=vU.ev (wN x.n (s:Nat)) (cU x.n i)
          obtain⟨ev,oU⟩:∃ev,ev=dD a6 (bO x.n l).2 (wN x.n (s:Nat)) (cU x.n i) (jm x.n (bO x.n l).2 ((s:Nat):Int) (fX x.n (bO x.n l).2 (bO x.n l).1 s) i).1:=⟨_,rfl⟩
          have Cw:ev.2.length=wN x.n (s:Nat):=by rw[oU];exact cv _ _ _ _ _
          rw[<-oU] at v1 v2 v3 v4
          have eJ:(jm x.n (bO x.n l).2 ((s:Nat):Int) (fX x.n (bO x.n l).2 (bO x.n l).1 s) (i+1))=((ji ev.1.1 (jm x.n (bO x.n l).2 ((s:Nat):Int) (fX x.n (bO x.n l).2 (bO x.n l).1 s) i).2 ev.2 (wN x.n (s:Nat)),ev.1.2),(jm x.n (bO x.n l).2 ((s:Nat):Int) (fX x.n (bO x.n l).2 (bO x.n l).1 s) i).2+wN x.n (s:Nat)):=by
           rw[jm]
           unfold zJ
           rw[if_pos IV,<-oU]
          have F3:(jm x.n (bO x.n l).2 ((s:Nat):Int) (fX x.n (bO x.n l).2 (bO x.n l).1 s) i).1=((jm x.n (bO x.n l).2 ((s:Nat):Int) (fX x.n (bO x.n l).2 (bO x.n l).1 s) i).1.1,false):=by rw[<-Ee]
          have SL:fI (opsL x.n i) (bO x.n l).2.length=cU x.n i:=by unfold cU;rw[vU.sig.len]
          have hAx:Mn (jm x.n (bO x.n l).2 ((s:Nat):Int) (fX x.n (bO x.n l).2 (bO x.n l).1 s) i).1.1 (bO x.n l).2 (opsL x.n i) (wN x.n (s:Nat):Nat):=V2 hm hf vU.dR vU.sig (by rw[x.cC];exact fK) (s:=(s:Nat)) (by unfold dr;exact⟨by omega,by rw[hxl];omega⟩)
          obtain⟨r,hr⟩:∃r,r=EA y.n (aJ R) (x.aP.getD i default).ops ((wN x.n (s:Nat):Nat):Int):=⟨_,rfl⟩
          refine aM ?_
          refine fR hp ?_;(repeat(refine gu ?_;first|refine fy ?_|refine sK rfl (by omega) rfl rfl rfl ?_))
          rw[e1]
          refine j8 Tryz.func30 (fun F w hp=> ?_)
          refine bN.mono (sx y x.sg.length (some ⟨bs,0,none⟩) x.sg.length R fF (x.aP.getD i default).oa (x.aP.getD i default).oc (x.aP.getD i default).ops ((wN x.n (s:Nat):Nat):Int) _ hp.pre.dR (by rw[m0];exact vU.dR) hp.pre.rd hp.pre.rs hp.pre.rd (by omega) (by rw[fP,m0];exact vU.sig.row) (by rw[<-AN];exact qR.len) (zv i fK) (by unfold da;omega)) ?_
          rw[<-hr]
          rintro _ w ⟨y',b,c,⟨ey,rfl⟩,hq⟩
          have hp:=Hp.FJ hp hq
          refine⟨fun hq=>Bool.noConfusion (hq.symm.trans (by kernel_rfl:bH _ _=false)),_,hp,?_⟩
          clear hp hq
          refine cX ?_
          (first|refine oq ?_|refine iS rfl ?_);intro b22;refine cX ?_;refine eO rfl rfl rfl rfl (by kernel_rfl) ?_;refine cX ?_
          refine dc ?_;intro w hp C;refine bL ?_
          rw[m0,fP,<-AN] at hr
          cases hb:ev.1.2 with
          |true=>
           rw[G2 (by rw[SL,<-F3,<-oU];exact hb)] at hr
           subst hr
           refine aN ?_;refine aW hp ?_;intro w hp;refine az ?_;refine bg hp rfl ?_
           rw[Ka hf he aF zb (i:=i+1) (by rw[x.cC];omega) (by rw[eJ];exact hb)]
           exact⟨zj,⟨rfl,rfl⟩,(oQ hp).tk 1⟩
          |false=>
           rw[Kb hAx (by rw[SL,<-F3,<-oU];exact hb),SL,<-F3,<-oU] at hr
           subst hr
           have fD:((((ev.1.1,ev.2):ao×List Int).2.length:Nat):Int)≠0:=by
            show((ev.2.length:Nat):Int)≠0
            rw[Cw];omega
           refine mE (decide_eq_false fD) rfl ?_;(repeat(first|(refine ah ?_;refine aI hp ?_)|(refine aH ?_;refine aW hp ?_;intro w hp;refine az ?_)))
           obtain⟨q0,Ik⟩:∃q0,q0=(jm x.n (bO x.n l).2 ((s:Nat):Int) (fX x.n (bO x.n l).2 (bO x.n l).1 s) i).2:=⟨_,rfl⟩
           rw[<-Ik] at eJ ij v1
           obtain⟨ck,Q,sa,sc,A,aa,ac,O,oa,oc⟩:=y'
           have ey:(⟨ck,aU Q,A,O⟩:ao)=ev.1.1:=ey
           obtain⟨m,wm⟩:∃m,m=Q.length:=⟨_,rfl⟩
           have hatm:q0+wN x.n (s:Nat)<=m:=by
            have h:=congrArg (fun N:ao=>N.au.length) ey
            have h:(aU Q).length=ev.1.1.au.length:=h
            rw[cm,v1.len] at h
            rw[wm,h]
            exact Nat.le_trans ij (Nat.le_add_right _ _)
           have hm12:m<=300:=by
            have h:=congrArg (fun N:ao=>N.au.length) ey
            have h:(aU Q).length=ev.1.1.au.length:=h
            rw[cm,v1.len] at h
            have h6:=iM hm 3 x.n.sg.length (Nat.le_refl _)
            have h7:=tf hm x.n.ms.length (Nat.le_refl _)
            have h8:x.n.ms.length=x.ms.length:=rfl
            omega
           have hp:=((ou (kI (x:=⟨ck,Q,sa,sc,A,aa,ac,O,oa,oc⟩) hp.f1)).f11.f11.f11.f11.f7.f7.f7.f7.f9.f11).Ls (w9:=([.int .i64 ck,.slice sa m sc,.slice aa A.length ac,.slice oa O.length oc]:List Value)) (by rw[wm])
           have hp:Hp w0 _ [_,_,_,_,_,_,_,_,_,_]:=hp.tk 10
           have XA:aU Q=(ji ev.1.1 q0 ev.2 0).au:=congrArg ao.au ey
           refine aR [1,2,4,5,19,20,21,23,24] (fun(k:Nat)=>[(1,.pointer (some ⟨b1,0,none⟩)),(2,.pointer (some ⟨b2,0,none⟩)),(4,.pointer (some ⟨b4,0,none⟩)),(5,.slice (some ⟨bs,0,none⟩) x.sg.length x.sg.length),(19,.int .i64 ((q0+k:Nat):Int)),(20,.int .i64 (s:Int)),(21,.int .i64 (i:Int)),(23,.slice b ev.2.length c),(24,.int .i64 (k:Int))])
            (fun k w'=>k<=ev.2.length/\∃Q,(Q.length=m/\aU Q=(ji ev.1.1 q0 ev.2 k).au)/\Hp w0 w' [rB b4 33 [.int .i64 ck,.slice sa m sc,.slice aa A.length ac,.slice oa O.length oc],rO 3 1 eI b c ev.2,rO 68 3 ke sa sc Q,fz Q,rO 120 2 gh aa ac A,rO 3 1 eI oa oc O,rO 31 1 jl (some ⟨bs,0,none⟩) x.sg.length R,cD 3 1 eI R,rB b1 41 x.cs,rB b2 33 (aL Tryz.dY.zero)]) (fun k=>ev.2.length-k) 0 (by rw[Ik];rfl) ⟨by omega,Q,⟨wm.symm,XA⟩,hp⟩ ?_
           clear hp XA
           have eyi:ck=ev.1.1.aT:=congrArg ao.aT ey
           have eya:A=ev.1.1.af:=congrArg ao.af ey
           have eyo:O=ev.1.1.outs:=congrArg ao.outs ey
           clear wm ey
           rintro k w1 ⟨Ip,Q,⟨uF,oX⟩,hp⟩ WQ C
           refine bL ?_
           apply ae<;>intro Ks
           ·have O1:k<ev.2.length:=by omega
            have hsn2:sa≠none:=bW hp (X:=Q) (by omega)
            refine aN ?_
            refine j7 hp ?_;intro w hx hp;have hs:=hp;(repeat(first|(refine ah ?_;first|refine dN ?_|refine fc ?_)|(refine bK ?_;refine qv (fun _ hx=>hs.ext hx) hp rfl rfl rfl rfl rfl rfl rfl rfl rfl rfl ?_;intro w _ hx hp;have hs:=hs.ext hx;refine fO ?_)))
            rename_i bl
            first|refine EX hp ({Q.getD (q0+k) default with ins:=[ev.2.getD k default],ia:=some ⟨bl,0,none⟩,ic:=1}) rfl rfl rfl (by omega) (by decide) rfl rfl (by kernel_rfl) ?_|refine Gi hp ({Q.getD (q0+k) default with ins:=[ev.2.getD k default],ia:=some ⟨bl,0,none⟩,ic:=1}) rfl rfl rfl (by omega) (by decide) rfl rfl (by kernel_rfl) ?_
            intro w hp;refine fO ?_
            obtain⟨Qr,D1,gF⟩:=nC hp.f4 (i:=q0+k) (by omega)
            have hp:=gF _ _ {Q.getD (q0+k) default with ins:=[ev.2.getD k default],ia:=some ⟨bl,0,none⟩,ic:=1} (D1.drop.f1)
            exact WQ (k+1) _ _ _ (by omega) rfl ⟨by omega,_,⟨by rw[List.length_set];exact uF,A3 oX _ _ _⟩,hp.f3.f3.f3⟩
           ·refine aM ?_
            obtain rfl:k=ev.2.length:=by omega
            clear WQ
            subst uF
            have h:=fe (x:=⟨ck,Q,sa,sc,A,aa,ac,O,oa,oc⟩) (gX (hp.f9.f9.f9.f9.f4.f9.f9.f9.f9))
            refine kE (i+1) _ _ _ (by omega) (by rw[eJ,Cw];rfl) ⟨by omega,⟨ck,Q,sa,sc,A,aa,ac,O,oa,oc⟩,⟨?_,by rw[eJ];exact hb⟩,h.tk 6⟩
            rw[eJ]
            show(⟨ck,aU Q,A,O⟩:ao)=ji ev.1.1 q0 ev.2 (wN x.n (s:Nat))
            rw[Hr,<-Cw,oX,eyi,eya,eyo]
        ·refine aM ?_
         obtain rfl:i=x.aP.length:=by omega
         exact IH (s+1) _ _ _ (by omega) (by rw[eT];rfl) ⟨by omega,y,⟨by rw[eT];exact m0,by rw[eT];exact Ee⟩,hp⟩
       ·have eT:(fX x.n (bO x.n l).2 (bO x.n l).1 (s+1))=(fX x.n (bO x.n l).2 (bO x.n l).1 s):=by rw[fX,if_neg (by rw[bG];exact hk)]
        refine aN ?_
        refine aR [1,2,4,5,19,20,21] (fun(i:Nat)=>[(1,.pointer (some ⟨b1,0,none⟩)),(2,.pointer (some ⟨b2,0,none⟩)),(4,.pointer (some ⟨b4,0,none⟩)),(5,.slice (some ⟨bs,0,none⟩) x.sg.length x.sg.length),(19,.int .i64 (((fX x.n (bO x.n l).2 (bO x.n l).1 s).2:Nat):Int)),(20,.int .i64 (s:Int)),(21,.int .i64 (i:Int))])
         (fun i w'=>i=0/\Hp w0 w' [dv y,rB b4 33 y.cs,rO 31 1 jl (some ⟨bs,0,none⟩) x.sg.length R,cD 3 1 eI R,rB b1 41 x.cs,rB b2 33 (aL Tryz.dY.zero)]) (fun i=>0) 0 rfl ⟨rfl,hp⟩ ?_
        clear hp
        rintro i w1 ⟨rfl,hp⟩ kE C
        refine bL ?_;refine aI hp ?_
        (first|apply fx|apply cf)<;>intro jK e<;>rw[e]<;>clear e;all_goals((repeat(first|(refine aG ?_;first|refine aO ?_|refine ba ?_)|(refine ah ?_;first|refine aI hp ?_|refine dg hp ?_))))
        ·refine ae (fun hg=>False.elim (by omega)) (fun _=> ?_);refine aM ?_
         exact IH (s+1) _ _ _ (by omega) (by rw[eT];rfl) ⟨by omega,y,⟨by rw[eT];exact m0,by rw[eT];exact Ee⟩,hp⟩
        ·refine aM ?_
         exact IH (s+1) _ _ _ (by omega) (by rw[eT];rfl) ⟨by omega,y,⟨by rw[eT];exact m0,by rw[eT];exact Ee⟩,hp⟩
      ·refine aM ?_
       obtain rfl:s=x.sg.length:=by omega
       clear IH
       have eR:(fX x.n (bO x.n l).2 (bO x.n l).1 x.sg.length)=dP x.n l:=rfl
       rw[eR] at m0 Ee AI zy⊢
       obtain⟨ck,Q,sa,sc,A,aa,ac,O,oa,oc⟩:=y
       have ey:(⟨ck,aU Q,A,O⟩:ao)=(dP x.n l).1.1:=m0
       obtain rfl:O=[]:=by have h:=congrArg ao.outs ey;rw[AI.outs] at h;exact h
       obtain⟨m,wm⟩:∃m,m=Q.length:=⟨_,rfl⟩
       have hmN:(dP x.n l).1.1.au.length=m:=by rw[wm,<-cm Q,<-ey]
       have hmw0:m=dU x.n 3 x.sg.length+jc x.n x.ms.length:=by rw[<-hmN,AI.len];rfl
       have hp:=((ou (kI (x:=⟨ck,Q,sa,sc,A,aa,ac,[],oa,oc⟩) hp)).f8.f8.f8.f8.f7.f7.f7.f7.f8).Ls (w9:=([.int .i64 ck,.slice sa m sc,.slice aa A.length ac,.slice oa ([]:List Int).length oc]:List Value)) (by rw[wm];rfl)
       have oX:aU Q=(dj x.n (bO x.n l).2 (dP x.n l).1.1 (dP x.n l).2 0).1.au:=congrArg ao.au ey
       have hmt:∀j,j<=x.ms.length->oM x.n (bO x.n l).2 (dj x.n (bO x.n l).2 (dP x.n l).1.1 (dP x.n l).2 j).1 (dj x.n (bO x.n l).2 (dP x.n l).1.1 (dP x.n l).2 j).2/\(dj x.n (bO x.n l).2 (dP x.n l).1.1 (dP x.n l).2 j).2=(dP x.n l).2+jc x.n j:=fun j hj=>by
        have h:=wR hm hf yP (N:=(dP x.n l).1.1) (by have h:=AI;rw[zy] at h;exact h) j hj
        rw[zy];exact h
       refine aR [1,2,4,5,19,25] (fun(j:Nat)=>[(1,.pointer (some ⟨b1,0,none⟩)),(2,.pointer (some ⟨b2,0,none⟩)),(4,.pointer (some ⟨b4,0,none⟩)),(5,.slice (some ⟨bs,0,none⟩) x.sg.length x.sg.length),(19,.int .i64 (((dj x.n (bO x.n l).2 (dP x.n l).1.1 (dP x.n l).2 j).2:Nat):Int)),(25,.int .i64 (j:Int))])
        (fun j w'=>j<=x.ms.length/\∃Q,(Q.length=m/\aU Q=(dj x.n (bO x.n l).2 (dP x.n l).1.1 (dP x.n l).2 j).1.au)/\Hp w0 w' [rB b4 33 [.int .i64 ck,.slice sa m sc,.slice aa A.length ac,.slice oa ([]:List Int).length oc],rO 68 3 ke sa sc Q,fz Q,rO 120 2 gh aa ac A,rO 3 1 eI oa oc ([]:List Int),rO 31 1 jl (some ⟨bs,0,none⟩) x.sg.length R,cD 3 1 eI R,rB b1 41 x.cs,rB b2 33 (aL Tryz.dY.zero)]) (fun j=>x.ms.length-j) 0 rfl ⟨by omega,Q,⟨wm.symm,oX⟩,hp⟩ ?_
       clear hp oX
       have eyi:ck=(dP x.n l).1.1.aT:=congrArg ao.aT ey
       have eya:A=(dP x.n l).1.1.af:=congrArg ao.af ey
       clear wm ey m0
       rintro j w1 ⟨hj,Q,⟨uF,oX⟩,hp⟩ IH C
       obtain⟨Tp,Tq⟩:=hmt j hj
       have hT3:=tf hm j hj
       have hT4:=iM hm 3 x.sg.length (Nat.le_refl _)
       have hS2':(dP x.n l).2=dU x.n 3 x.sg.length:=zy
       refine bL ?_;refine aI hp ?_
       apply ae<;>intro bD
       ·have aF:j<x.ms.length:=by omega
        obtain⟨i1,i2,i3,i4,_⟩:=hm.ms j aF
        change dr x.n (x.ms.getD j default).addr at i1
        change dr x.n (x.ms.getD j default).data at i2
        change dr x.n (x.ms.getD j default).write at i3
        change dr x.n (x.ms.getD j default).out at i4
        obtain⟨w1',w2',w3',w4',w5'⟩:=G0 hm hf aF
        change wN x.n (x.ms.getD j default).addr=2 at w1'
        change wN x.n (x.ms.getD j default).write=1 at w2'
        change wN x.n (x.ms.getD j default).data=wN x.n (x.ms.getD j default).out at w3'
        have f1:=l9 yP i1
        have f2:=l9 yP i2
        have f3:=l9 yP i3
        rw[<-fP,bk] at f1 f2 f3
        unfold dr at i1 i2 i3 i4
        change 0<=(x.ms.getD j default).addr/\(x.ms.getD j default).addr<x.sg.length at i1
        change 0<=(x.ms.getD j default).data/\(x.ms.getD j default).data<x.sg.length at i2
        change 0<=(x.ms.getD j default).write/\(x.ms.getD j default).write<x.sg.length at i3
        change 0<=(x.ms.getD j default).out/\(x.ms.getD j default).out<x.sg.length at i4
        obtain⟨o,ho⟩:=Int.eq_ofNat_of_zero_le i4.1
        have eo:(x.ms.getD j default).out.toNat=o:=by omega
        obtain⟨e1,e2⟩:=eW o (by omega)
        have la1:FM (x.ms.getD j default).addr.toNat R:=⟨by omega⟩
        have la2:FM (x.ms.getD j default).data.toNat R:=⟨by omega⟩
        have la3:FM (x.ms.getD j default).write.toNat R:=⟨by omega⟩
        have zB:wN x.n (x.ms.getD j default).out=wN x.n (o:Nat):=by rw[ho]
        have eN:(dj x.n (bO x.n l).2 (dP x.n l).1.1 (dP x.n l).2 (j+1))=(l8 (bO x.n l).2 (x.ms.getD j default) (dj x.n (bO x.n l).2 (dP x.n l).1.1 (dP x.n l).2 j).1 (dj x.n (bO x.n l).2 (dP x.n l).1.1 (dP x.n l).2 j).2 (wN x.n (o:Nat)),(dj x.n (bO x.n l).2 (dP x.n l).1.1 (dP x.n l).2 j).2+wN x.n (o:Nat)):=by
         rw[dj]
         show(l8 (bO x.n l).2 (x.ms.getD j default) (dj x.n (bO x.n l).2 (dP x.n l).1.1 (dP x.n l).2 j).1 (dj x.n (bO x.n l).2 (dP x.n l).1.1 (dP x.n l).2 j).2 (wN x.n (x.ms.getD j default).out),(dj x.n (bO x.n l).2 (dP x.n l).1.1 (dP x.n l).2 j).2+wN x.n (x.ms.getD j default).out)=_
         rw[zB]
        have hmw:=lC x.n (i:=j+1) (j:=x.ms.length) (by omega)
        have hmw2:jc x.n (j+1)=jc x.n j+wN x.n (o:Nat):=by
         rw[jc]
         show jc x.n j+wN x.n (x.ms.getD j default).out=_
         rw[zB]
        refine aN ?_;(repeat(refine ah ?_;first|refine aI hp ?_|refine bb hp ?_))
        refine bP hp ?_;intro w Tk hx hp;refine az ?_;refine aW hp ?_;intro w hp;refine az ?_
        obtain⟨q0,Ik⟩:∃q0,q0=(dj x.n (bO x.n l).2 (dP x.n l).1.1 (dP x.n l).2 j).2:=⟨_,rfl⟩
        rw[<-Ik] at eN Tp Tq
        have hq0m:q0+wN x.n (o:Nat)<=m:=by omega
        refine aR [1,2,4,5,19,25,26,27] (fun(k:Nat)=>[(1,.pointer (some ⟨b1,0,none⟩)),(2,.pointer (some ⟨b2,0,none⟩)),(4,.pointer (some ⟨b4,0,none⟩)),(5,.slice (some ⟨bs,0,none⟩) x.sg.length x.sg.length),(19,.int .i64 ((q0+k:Nat):Int)),(25,.int .i64 (j:Int)),(26,.pointer (some ⟨Tk,0,none⟩)),(27,.int .i64 (k:Int))])
         (fun k w'=>k<=wN x.n (o:Nat)/\∃Q,(Q.length=m/\aU Q=(l8 (bO x.n l).2 (x.ms.getD j default) (dj x.n (bO x.n l).2 (dP x.n l).1.1 (dP x.n l).2 j).1 q0 k).au)/\Hp w0 w' [rB Tk 70 (p9 (x.ms.getD j default)),rB b4 33 [.int .i64 ck,.slice sa m sc,.slice aa A.length ac,.slice oa ([]:List Int).length oc],rO 68 3 ke sa sc Q,fz Q,rO 120 2 gh aa ac A,rO 3 1 eI oa oc ([]:List Int),rO 31 1 jl (some ⟨bs,0,none⟩) x.sg.length R,cD 3 1 eI R,rB b1 41 x.cs,rB b2 33 (aL Tryz.dY.zero)]) (fun k=>wN x.n (o:Nat)-k) 0 (by rw[Ik];rfl) ⟨by omega,Q,⟨uF,oX⟩,hp⟩ ?_
        clear hp uF oX
        rintro k w1 ⟨Ip,Q,⟨uF,oX⟩,hp⟩ kE C
        refine bL ?_;(repeat(refine ah ?_;first|refine aI hp ?_|refine rS hp ?_))
        rw[eo]
        apply ae<;>intro jK
        ·have fK:k<wN x.n (o:Nat):=by omega
         have hsn2:sa≠none:=bW hp (X:=Q) (by omega)
         have la1n:(R.getD (x.ms.getD j default).addr.toNat default).ia≠none:=bW hp (X:=(R.getD (x.ms.getD j default).addr.toNat default).ins) (by omega)
         have la2n:(R.getD (x.ms.getD j default).data.toNat default).ia≠none:=bW hp (X:=(R.getD (x.ms.getD j default).data.toNat default).ins) (by omega)
         have la3n:(R.getD (x.ms.getD j default).write.toNat default).ia≠none:=bW hp (X:=(R.getD (x.ms.getD j default).write.toNat default).ins) (by omega)
         refine aN ?_
         refine j7 hp ?_;intro w hx hp;have hs:=hp;(repeat(first|(refine ah ?_;first|refine dN ?_|refine fc ?_|refine jb rfl (by omega) (by omega) rfl rfl rfl ?_)|(refine bK ?_;refine qv (fun _ hx=>hs.ext hx) hp rfl rfl rfl rfl rfl rfl rfl rfl rfl rfl ?_;intro w _ hx hp;have hs:=hs.ext hx;refine fO ?_)))
         rename_i bl
         have eL:[(R.getD (x.ms.getD j default).addr.toNat default).ins.getD (Int.toNat 0) default,(R.getD (x.ms.getD j default).addr.toNat default).ins.getD (Int.toNat 1) default,(R.getD (x.ms.getD j default).data.toNat default).ins.getD k default,(R.getD (x.ms.getD j default).write.toNat default).ins.getD (Int.toNat 0) default]=p7 (bO x.n l).2 (x.ms.getD j default) k:=by
          unfold p7
          rw[<-fP,bk,bk,bk];rfl
         first|refine EX hp ({Q.getD (q0+k) default with ins:=p7 (bO x.n l).2 (x.ms.getD j default) k,ia:=some ⟨bl,0,none⟩,ic:=4}) rfl rfl rfl (by omega) (by decide) rfl rfl (by kernel_rfl) ?_|refine Gi hp ({Q.getD (q0+k) default with ins:=p7 (bO x.n l).2 (x.ms.getD j default) k,ia:=some ⟨bl,0,none⟩,ic:=4}) rfl rfl rfl (by omega) (by decide) rfl rfl (by kernel_rfl) ?_
         intro w hp;refine fO ?_
         rw[eL] at hp
         obtain⟨Qr,D1,gF⟩:=nC hp.f4 (i:=q0+k) (by omega)
         have hp:=gF _ _ {Q.getD (q0+k) default with ins:=p7 (bO x.n l).2 (x.ms.getD j default) k,ia:=some ⟨bl,0,none⟩,ic:=4} (D1.drop.f1)
         exact kE (k+1) _ _ _ (by omega) rfl ⟨by omega,_,⟨by rw[List.length_set];exact uF,A3 oX _ _ _⟩,hp.f3.f3.f3⟩
        ·refine aM ?_
         obtain rfl:k=wN x.n (o:Nat):=by omega
         exact IH (j+1) _ _ _ (by omega) (by rw[eN];rfl) ⟨by omega,Q,⟨uF,by rw[eN];exact oX⟩,hp.drop⟩
       ·refine aM ?_
        obtain rfl:j=x.ms.length:=by omega
        clear IH
        have hT0:(dj x.n (bO x.n l).2 (dP x.n l).1.1 (dP x.n l).2 x.ms.length)=G1 x.n l:=rfl
        have heM:=Ht x.n (bO x.n l).2 (dP x.n l).1.1 (dP x.n l).2 x.ms.length
        rw[hT0] at oX Tp Tq heM
        refine aR [1,2,4,5,28] (fun(i:Nat)=>[(1,.pointer (some ⟨b1,0,none⟩)),(2,.pointer (some ⟨b2,0,none⟩)),(4,.pointer (some ⟨b4,0,none⟩)),(5,.slice (some ⟨bs,0,none⟩) x.sg.length x.sg.length),(28,.int .i64 (i:Int))])
         (fun i w'=>i<=x.sg.length/\∃oa oc,Hp w0 w' [rO 3 1 eI oa oc ((iY x.n (bO x.n l).2 i)),rB b4 33 [.int .i64 ck,.slice sa m sc,.slice aa A.length ac,.slice oa ((iY x.n (bO x.n l).2 i)).length oc],rO 68 3 ke sa sc Q,fz Q,rO 120 2 gh aa ac A,rO 31 1 jl (some ⟨bs,0,none⟩) x.sg.length R,cD 3 1 eI R,rB b1 41 x.cs,rB b2 33 (aL Tryz.dY.zero)]) (fun i=>x.sg.length-i) 0 rfl ⟨by omega,oa,oc,hp.f3.f3.f3.f3.f4⟩ ?_
        clear hp
        rintro i w1 ⟨hi,oa,oc,hp⟩ IH C
        have jL:=oO yP i hi
        have IJ:=iM hm 1 i hi
        obtain⟨O,hO⟩:∃O,O=iY x.n (bO x.n l).2 i:=⟨_,rfl⟩
        rw[<-hO] at hp jL
        refine bL ?_;refine aI hp ?_
        apply ae<;>intro bD
        ·have aF:i<x.sg.length:=by omega
         have la1:FM i R:=⟨by omega⟩
         have Li:=pU i (by omega)
         refine aN ?_;(repeat(refine ah ?_;first|refine aI hp ?_|refine dg hp ?_))
         apply ae<;>intro hk
         ·have eT:iY x.n (bO x.n l).2 (i+1)=O++(R.getD i default).ins:=by rw[iY,if_pos (by rw[bG];exact hk),<-hO,<-fP,bk]
          refine aN ?_
          refine j7 hp ?_;intro w hx hp;have hs:=hp;(repeat(refine ah ?_;first|refine dN ?_|refine fc ?_))
          refine gW hp rfl rfl rfl rfl rfl rfl rfl (by decide) rfl (zl) rfl rfl (by kernel_rfl) ?_;intro M8 pD w hp bZ;refine fO ?_;refine Ah hp rfl rfl rfl rfl (by kernel_rfl) ?_;intro w hp;refine fO ?_
          refine IH (i+1) _ _ _ (by omega) rfl ⟨by omega,M8,pD,?_⟩
          rw[eT]
          exact hp
         ·have eT:iY x.n (bO x.n l).2 (i+1)=O:=by rw[iY,if_neg (by rw[bG];exact hk),<-hO]
          refine aM ?_
          refine IH (i+1) _ _ _ (by omega) rfl ⟨by omega,oa,oc,?_⟩
          rw[eT]
          exact hp
        ·refine aM ?_;refine aI hp ?_
         obtain rfl:i=x.sg.length:=by omega
         clear IH
         subst uF
         have m0:(⟨ck,Q,sa,sc,A,aa,ac,O,oa,oc⟩:bf).n=zx x.n l:=by
          show(⟨ck,aU Q,A,O⟩:ao)={(G1 x.n l).1 with outs:=iY x.n (bO x.n l).2 x.sg.length}
          rw[oX,hO,heM,eyi,eya]
         have aS:=vf hf he
         have h:=fe (x:=⟨ck,Q,sa,sc,A,aa,ac,O,oa,oc⟩) (gX (hp.f1.f1.f4.f4.f4))
         have hp:Hp w0 _ [_,_,_,_,_,_]:=h
         refine cy Tryz.func31 (FX ⟨ck,Q,sa,sc,A,aa,ac,O,oa,oc⟩ _ hp.dR (by rw[m0];exact aS.S') (by rw[m0];exact aS.W)) ?_;rintro _ w ⟨y2,⟨En,rfl⟩,hq⟩;have hx:=hq.x;have hp:=hp.bJ hq;refine az ?_;refine aW hp ?_;intro w hp;refine az ?_;refine bg hp rfl ?_
         rw[m0,rp aS] at En
         rw[rH he hf Ee]
         exact⟨y2,⟨En,rfl⟩,hp.tk 1⟩
 ·have E9:fB x.n=false:=by unfold fB;exact bt hf
  refine bQ hp Tryz.func26 (ja x _ hp.mod hS hW) ?_;intro w hx hp
  rw[E9]
  refine aN ?_;refine aW hp ?_;intro w hp;refine az ?_;refine bg hp rfl ?_
  rw[yw hf]
  exact⟨zj,⟨rfl,rfl⟩,(oQ hp).tk 1⟩
end Go.Proofs
