/- The contract of the reference's Elaborate; under its stated conditions. -/
import Derived.Test.YtiepmliokblkjaaGreatBrf
import Derived.Test.YtiepmliokblkjaaGreatElabM
import Derived.Test.YtiepmliokblkjaaGreatAxX
import Derived.Test.YtiepmliokblkjaaGreatFlatU
set_option linter.all false
namespace Go.Xw
open Go.Proofs
theorem AZ {Q:List dM}{M:ao}{q:Nat}(h:aU Q=M.au)(l:List Int)(a:Option Addr)(c:Nat):aU (Q.set q {Q.getD q default with ins:=l,ia:=a,ic:=c})=(lE M q l).au:=by
 rw[jN]
 show _=M.au.set q ⟨(M.au.getD q default).kind,(M.au.getD q default).init,l⟩
 rw[<-h,gL];rfl
theorem Hq (N:ao)(q:Nat)(bits:List Int):∀k,jh N q bits k={N with au:=(jh N q bits k).au}
 |0=>rfl
 |k+1=>by
  have h:=Hq N q bits k
  show lE (jh N q bits k) (q+k) [bits.getD k default]={N with au:=(lE (jh N q bits k) (q+k) [bits.getD k default]).au}
  rw[h];rfl
theorem Hr (sig:List (List Int))(x:yf)(N:ao)(q:Nat):∀k,l7 sig x N q k={N with au:=(l7 sig x N q k).au}
 |0=>rfl
 |k+1=>by
  have h:=Hr sig x N q k
  show lE (l7 sig x N q k) (q+k) (p7 sig x k)={N with au:=(lE (l7 sig x N q k) (q+k) (p7 sig x k)).au}
  rw[h];rfl
theorem Hs (n:aQ)(sig:List (List Int))(N:ao)(q:Nat):∀j,(dj n sig N q j).1={N with au:=(dj n sig N q j).1.au}
 |0=>rfl
 |j+1=>by
  have h:=Hs n sig N q j
  have h2:=Hr sig (n.ms.getD j default) (dj n sig N q j).1 (dj n sig N q j).2 (wN n (n.ms.getD j default).out)
  show l7 sig (n.ms.getD j default) (dj n sig N q j).1 (dj n sig N q j).2 (wN n (n.ms.getD j default).out)={N with au:=(l7 sig (n.ms.getD j default) (dj n sig N q j).1 (dj n sig N q j).2 (wN n (n.ms.getD j default).out)).au}
  rw[h2,h]
theorem zo (Q P:List dM):aU (Q++P)=aU Q++aU P:=by simp[aU]
end Go.Xw
namespace Go.Proofs
open Go.Xw
set_option maxRecDepth 100000
set_option maxHeartbeats 8000000
attribute [local irreducible] ax aE
theorem ss (x:bf)(n:Nat)(sa:Option Addr)(sc:Nat)(R:List (cL Int))(hn:R.length=n)(oa:Option Addr)(oc:Nat)(ops:List dJ)(wv:Int)(w0:World)(hX:fG w0 x)(aS:aj x.n)(hR:Rd w0 sa 1 jk R)(hQ:Lj w0 R)(hO:Rd w0 oa 3 kg ops)(fF:n<=1000)(ns:∀l,l∈aJ R->l.length<=4/\∀z,z∈l->aD z (ag x.n))(jL:ops.length<=15)(XF:∀i,i<ops.length->u5 (ops.getD i default))(hw:da wv):
  bN Tryz.prog 30 [x.v,.slice sa n sc,.slice oa ops.length oc,.int .i64 wv] w0 (fun v w'=>∃y b c,(y.n=(Ey x.n (aJ R) ops wv).1/\v= .tuple ⟨[y.v,.slice b (Ey x.n (aJ R) ops wv).2.length c]⟩)/\Hp w0 w' [dv y,rO 3 1 eI b c (Ey x.n (aJ R) ops wv).2]):=by
 subst hn
 have hc:=aS.count
 have hm:∀i,i<R.length->(R.getD i default).ins∈aJ R:=fun i hi=>by rw[<-bk];exact aK (by rw[fg];exact hi)
 exact zO x sa sc R oa oc ops wv w0 hX aS.S' aS.W hR hQ hO (by omega) (fun i hi=>by have:=(ns _ (hm i hi)).1;omega) (fun i hi j hj=>((ns _ (hm i hi)).2 _ (aK hj)).i64 (by omega)) (by omega) XF hw
theorem FZ (x:bm)(w0:World)(hM:iH w0 x)(hS:qK x.n)(hW:qL x.n):
  bN Tryz.prog 6 [x.v] w0 (fun v w=>∃y,(y.n=(BV x.n).1/\v= .tuple ⟨[y.v,.bool (BV x.n).2]⟩)/\Hp w0 w [dv y]):=by
 refine eu Tryz.X7 ?_;intro C hp;skip;refine bP hp ?_;intro w b1 hx hp;refine az ?_;skip;refine bP hp ?_;intro w b2 hx hp;refine az ?_;refine aH hp ?_
 by_cases hf:ch x.n
 ·obtain⟨l,he⟩:∃l,gQ x.n=some l:=by
   have h:=hf.ev
   cases he:gQ x.n with
   |none=>rw[he] at h;exact Bool.noConfusion h
   |some l=>exact⟨l,rfl⟩
  have hm:=(dH hf).2
  have l1:x.sg.length<=30:=hm.l1
  have l2:x.aP.length<=30:=by have:=hm.l2;rw[x.cy] at this;exact this
  have l3:x.ms.length<=2:=hm.l3
  have p0:=DX hm 0
  have E8:fB x.n=true:=cR.2 hf
  refine bQ hp Tryz.func26 (iY x _ hp.mod hS hW) ?_;intro w hx hp
  rw[E8]
  refine aM ?_;refine aH hp ?_
  refine cx Tryz.func28 (dI x 0 _ hp.mod l1) ?_;rintro _ w ⟨bw,cw,rfl,hq⟩;have hx:=hq.x;have hp:=hp.bJ hq;refine az ?_
  refine bQ hp Tryz.func27 (uk bw cw _ (ee x.n 0) rfl _ hp.rd p0.1 p0.2) ?_;intro w hx hp
  refine bP hp ?_;intro w b4 hx hp;refine az ?_;(repeat(first|(refine ah ?_;refine aH hp ?_)|(refine aI ?_;refine aW hp ?_;intro w hp;refine az ?_)))
  refine mF hp (jk (α:=Int)) (default:cL Int) rfl rfl rfl rfl (s:=1) rfl (by decide) rfl (by unfold maxLen;omega) (by show 24*_<=_;omega) ?_;intro w bs hx hp;refine az ?_
  have hp:=sV (e:=3) (s:=1) (enc:=eI) x.sg.length hp
  have Li:(some ⟨bs,0,none⟩:Option Addr)≠none:=by simp
  have eW:∀s:Nat,s<x.sg.length->(x.sg.getD s default).width=((wN x.n (s:Nat):Nat):Int)/\wN x.n (s:Nat)<=4:=fun s hs=>by
   have h1:=oL hm (s:=(s:Nat)) (by unfold dr;exact⟨by omega,by show(s:Int)<x.sg.length;omega⟩)
   have h2:=(nY hm hf (s:=(s:Nat)) (by unfold dr;exact⟨by omega,by show(s:Int)<x.sg.length;omega⟩)).2
   rw[pv] at h1
   exact⟨h1.symm,h2⟩
  refine aR [1,2,4,5,6,7] (fun(i:Nat)=>[(1,.pointer (some ⟨b1,0,none⟩)),(2,.pointer (some ⟨b2,0,none⟩)),(4,.pointer (some ⟨b4,0,none⟩)),(5,.slice (some ⟨bs,0,none⟩) x.sg.length x.sg.length),(6,.int .i64 (((tj x.n i).2:Nat):Int)),(7,.int .i64 (i:Int))])
   (fun i w'=>i<=x.sg.length/\∃R,(R.length=x.sg.length/\aJ R=(tj x.n i).1)/\Hp w0 w' [rO 31 1 jk (some ⟨bs,0,none⟩) x.sg.length R,cC 3 1 eI R,rB b4 33 [.int .i64 (cT (ee x.n 0)),.slice none 0 0,.slice none 0 0,.slice none 0 0],rB b1 41 x.cs,rB b2 33 (aL Tryz.dY.zero)]) (fun i=>x.sg.length-i) 0 rfl ⟨by omega,List.replicate x.sg.length default,⟨by simp,by
    show aJ _=List.replicate x.sg.length []
    unfold aJ
    rw[List.map_replicate];rfl⟩,(hp.f4.f5.f4.f3.f4).tk 5⟩ ?_
  clear hp
  rintro i w1 ⟨hi,R,⟨fF,fO⟩,hp⟩ IH C
  have hb:=OX hm hi
  obtain⟨st,jq⟩:∃st,st=tj x.n i:=⟨_,rfl⟩
  rw[<-jq] at fO hb⊢
  have oh:=hb.pos
  refine bL ?_;refine aH hp ?_
  apply ae<;>intro bD
  ·have aF:i<x.sg.length:=by omega
   obtain⟨e1,e2⟩:=eW i aF
   have lN:=hb.row i aF
   by_cases hk:(x.sg.getD i default).kind=0
   ·have eN:tj x.n (i+1)=iV st i (wN x.n (i:Nat)):=by rw[tj,if_pos (by rw[bG];exact hk),<-jq]
    refine aN ?_
    refine aR [1,2,4,5,6,7,8] (fun(k:Nat)=>[(1,.pointer (some ⟨b1,0,none⟩)),(2,.pointer (some ⟨b2,0,none⟩)),(4,.pointer (some ⟨b4,0,none⟩)),(5,.slice (some ⟨bs,0,none⟩) x.sg.length x.sg.length),(6,.int .i64 ((st.2+k:Nat):Int)),(7,.int .i64 (i:Int)),(8,.int .i64 (k:Int))])
     (fun k w'=>k<=wN x.n (i:Nat)/\∃R,(R.length=x.sg.length/\aJ R=(iV st i k).1)/\Hp w0 w' [rO 31 1 jk (some ⟨bs,0,none⟩) x.sg.length R,cC 3 1 eI R,rB b4 33 [.int .i64 (cT (ee x.n 0)),.slice none 0 0,.slice none 0 0,.slice none 0 0],rB b1 41 x.cs,rB b2 33 (aL Tryz.dY.zero)]) (fun k=>wN x.n (i:Nat)-k) 0 rfl ⟨by omega,R,⟨fF,by rw[rC (by rw[hb.len];exact aF)];exact fO⟩,hp⟩ ?_
    clear hp fF fO
    rintro k w1 ⟨Io,R,⟨fF,fO⟩,hp⟩ kF C
    have r7:(R.getD i default).ins.length<=20:=by
     rw[<-bk,fO]
     show((st.1.set i (st.1.getD i default++jt st.2 k)).getD i default).length<=20
     rw[cG (by rw[hb.len];exact aF),if_pos rfl,List.length_append,oK]
     omega
    refine bL ?_;(repeat(refine ah ?_;first|refine aH hp ?_|refine dg hp ?_))
    (first|apply fx|apply cf)<;>intro jK e<;>rw[e]<;>clear e;all_goals((repeat(first|(refine aG ?_;first|refine aO ?_|refine ba ?_)|(refine ah ?_;first|refine aH hp ?_|refine dg hp ?_))))
    ·have fK:k<wN x.n (i:Nat):=by omega
     refine ae (fun _=> ?_) (fun hg=>False.elim (by omega));refine aN ?_;(repeat(first|(refine ah ?_;refine bb hp ?_)|(refine bK ?_;refine gG hp ?_;intro w _ hx hp;refine az ?_)))
     rename_i bl
     obtain⟨Qr,hq,gF⟩:=oJ hp.f2 (show i<R.length by omega)
     have hp:=hq
     refine gT hp ?_;intro a' c' w hp bZ;refine az ?_
     first|refine nO hp (y:=(⟨(R.getD i default).ins++[2*((st.2+k:Nat):Int)],a',c'⟩:cL Int)) rfl rfl rfl (by omega) (by decide) (rfl) rfl ?_|refine kj hp (y:=(⟨(R.getD i default).ins++[2*((st.2+k:Nat):Int)],a',c'⟩:cL Int)) rfl rfl rfl (by omega) (by decide) (rfl) rfl ?_
     intro w hp;refine az ?_
     have hp:=((gF _ _ (⟨(R.getD i default).ins++[2*((st.2+k:Nat):Int)],a',c'⟩:cL Int) hp).f1.drop).f1
     refine kF (k+1) _ _ _ (by omega) rfl ⟨by omega,_,⟨?_,?_⟩,hp⟩
     ·rw[List.length_set];exact fF
     ·rw[mu,rD (by rw[hb.len];exact aF),<-fO,bk]
      rfl
    ·refine aM ?_
     obtain rfl:k=wN x.n (i:Nat):=by omega
     exact IH (i+1) _ _ _ (by omega) (by rw[eN];rfl) ⟨by omega,R,⟨fF,by rw[eN];exact fO⟩,hp⟩
   ·have eN:tj x.n (i+1)=st:=by rw[tj,if_neg (by rw[bG];exact hk),jq]
    refine aN ?_
    refine aR [1,2,4,5,6,7,8] (fun(k:Nat)=>[(1,.pointer (some ⟨b1,0,none⟩)),(2,.pointer (some ⟨b2,0,none⟩)),(4,.pointer (some ⟨b4,0,none⟩)),(5,.slice (some ⟨bs,0,none⟩) x.sg.length x.sg.length),(6,.int .i64 ((st.2:Nat):Int)),(7,.int .i64 (i:Int)),(8,.int .i64 (k:Int))])
     (fun k w'=>k=0/\Hp w0 w' [rO 31 1 jk (some ⟨bs,0,none⟩) x.sg.length R,cC 3 1 eI R,rB b4 33 [.int .i64 (cT (ee x.n 0)),.slice none 0 0,.slice none 0 0,.slice none 0 0],rB b1 41 x.cs,rB b2 33 (aL Tryz.dY.zero)]) (fun k=>0) 0 rfl ⟨rfl,hp⟩ ?_
    clear hp
    rintro k w1 ⟨rfl,hp⟩ kF C
    refine bL ?_;(repeat(refine ah ?_;first|refine aH hp ?_|refine dg hp ?_))
    (first|apply fx|apply cf)<;>intro jK e<;>rw[e]<;>clear e;all_goals((repeat(first|(refine aG ?_;first|refine aO ?_|refine ba ?_)|(refine ah ?_;first|refine aH hp ?_|refine dg hp ?_))))
    ·refine ae (fun hg=>False.elim (by omega)) (fun _=> ?_);refine aM ?_
     exact IH (i+1) _ _ _ (by omega) (by rw[eN];rfl) ⟨by omega,R,⟨fF,by rw[eN];exact fO⟩,hp⟩
    ·refine aM ?_
     exact IH (i+1) _ _ _ (by omega) (by rw[eN];rfl) ⟨by omega,R,⟨fF,by rw[eN];exact fO⟩,hp⟩
  ·refine aM ?_
   obtain rfl:i=x.sg.length:=by omega
   clear IH
   subst jq
   have fO:aJ R=(u9 x.n 0).1:=fO
   refine aR [1,2,4,5,6,9] (fun(i:Nat)=>[(1,.pointer (some ⟨b1,0,none⟩)),(2,.pointer (some ⟨b2,0,none⟩)),(4,.pointer (some ⟨b4,0,none⟩)),(5,.slice (some ⟨bs,0,none⟩) x.sg.length x.sg.length),(6,.int .i64 (((u9 x.n i).2:Nat):Int)),(9,.int .i64 (i:Int))])
    (fun i w'=>i<=x.sg.length/\∃R Q sa sc,(R.length=x.sg.length/\aJ R=(u9 x.n i).1/\aU Q=px [0] x.n i)/\Hp w0 w' [rO 31 1 jk (some ⟨bs,0,none⟩) x.sg.length R,cC 3 1 eI R,rO 68 3 kf sa sc Q,fz Q,rB b4 33 [.int .i64 (cT (ee x.n 0)),.slice sa Q.length sc,.slice none 0 0,.slice none 0 0],rB b1 41 x.cs,rB b2 33 (aL Tryz.dY.zero)]) (fun i=>x.sg.length-i) 0 rfl ⟨by omega,R,[],none,0,⟨fF,fO,rfl⟩,?_⟩ ?_
   ·exact((ot hp).eH (e:=68) (sz:=3) (enc:=kf) (c:=0) (X:=[]) (Ext.refl _) (dk.nil _ _ _ _ _)).f1.f1.f3.f3
   clear hp fF fO hb oh
   rintro i w1 ⟨hi,R,Q,sa,sc,⟨fF,fO,oX⟩,hp⟩ IH C
   have hb:=OY hm hi
   have uF:Q.length=dU x.n 3 i:=by rw[<-cm Q,oX,l6]
   have hQb:=iK hm 3 i hi
   obtain⟨st,jq⟩:∃st,st=u9 x.n i:=⟨_,rfl⟩
   rw[<-jq] at fO hb⊢
   have oh:=hb.pos
   refine bL ?_;refine aH hp ?_
   apply ae<;>intro bD
   ·have aF:i<x.sg.length:=by omega
    obtain⟨e1,e2⟩:=eW i aF
    have lN:=hb.row i aF
    by_cases hk:(x.sg.getD i default).kind=3
    ·have y9:aY x.n (i:Nat)=3:=by rw[bG];exact hk
     have eN:u9 x.n (i+1)=iV st i (wN x.n (i:Nat)):=by rw[u9,if_pos y9,<-jq]
     have eQ:px [0] x.n (i+1)=px [0] x.n i++gR [0] (iy x.n (i:Nat)) (wN x.n (i:Nat)):=by rw[px,if_pos y9]
     have hv:iy x.n (i:Nat)=(x.sg.getD i default).init:=by unfold iy;rw[Int.toNat_natCast];rfl
     refine aN ?_
     refine aR [1,2,4,5,6,9,10] (fun(k:Nat)=>[(1,.pointer (some ⟨b1,0,none⟩)),(2,.pointer (some ⟨b2,0,none⟩)),(4,.pointer (some ⟨b4,0,none⟩)),(5,.slice (some ⟨bs,0,none⟩) x.sg.length x.sg.length),(6,.int .i64 ((st.2+k:Nat):Int)),(9,.int .i64 (i:Int)),(10,.int .i64 (k:Int))])
      (fun k w'=>k<=wN x.n (i:Nat)/\∃R Q sa sc,(R.length=x.sg.length/\aJ R=(iV st i k).1/\aU Q=px [0] x.n i++gR [0] (iy x.n (i:Nat)) k)/\Hp w0 w' [rO 31 1 jk (some ⟨bs,0,none⟩) x.sg.length R,cC 3 1 eI R,rO 68 3 kf sa sc Q,fz Q,rB b4 33 [.int .i64 (cT (ee x.n 0)),.slice sa Q.length sc,.slice none 0 0,.slice none 0 0],rB b1 41 x.cs,rB b2 33 (aL Tryz.dY.zero)]) (fun k=>wN x.n (i:Nat)-k) 0 rfl ⟨by omega,R,Q,sa,sc,⟨fF,by rw[rC (by rw[hb.len];exact aF)];exact fO,by rw[oX];simp[gR]⟩,hp⟩ ?_
     clear hp fF fO oX uF
     rintro k w1 ⟨Io,R,Q,sa,sc,⟨fF,fO,oX⟩,hp⟩ kF C
     have uF:Q.length=dU x.n 3 i+k:=by rw[<-cm Q,oX,List.length_append,l6,sX]
     have r7:(R.getD i default).ins.length<=20:=by
      rw[<-bk,fO]
      show((st.1.set i (st.1.getD i default++jt st.2 k)).getD i default).length<=20
      rw[cG (by rw[hb.len];exact aF),if_pos rfl,List.length_append,oK]
      omega
     refine bL ?_;(repeat(refine ah ?_;first|refine aH hp ?_|refine dg hp ?_))
     (first|apply fx|apply cf)<;>intro jK e<;>rw[e]<;>clear e;all_goals((repeat(first|(refine aG ?_;first|refine aO ?_|refine ba ?_)|(refine ah ?_;first|refine aH hp ?_|refine dg hp ?_))))
     ·have fK:k<wN x.n (i:Nat):=by omega
      have Xm:((k:Nat):Int)<=((IntKind.i64.bits:Nat):Int):=by show((k:Nat):Int)<=64;omega
      refine ae (fun _=> ?_) (fun hg=>False.elim (by omega));refine aN ?_
      refine j8 hp ?_;intro w hx hp;have hs:=hp;(repeat(first|(refine ah ?_;first|refine dQ ?_|refine mG rfl (by omega) rfl rfl rfl ?_)|(refine bK ?_;refine sJ (fun _ hx=>hs.ext hx) hp rfl rfl rfl rfl rfl rfl rfl rfl rfl rfl ?_;intro w _ hx hp;have hs:=hs.ext hx;refine fW ?_)))
      rename_i b0
      refine CU (fun _ hx=>hs.ext hx) hp kf [⟨0,bits .and .i64 ((x.sg.getD i default).init/2^((k:Nat):Int).toNat) 1,[0],some ⟨b0,0,none⟩,1⟩] rfl rfl rfl rfl (s:=3) rfl (by decide) (by infer_instance) (by rfl) (by rfl) (by rfl) (by decide) ?_;intro w bq hx hp;have hs:=hs.ext hx;refine fW ?_
      refine gW hp rfl rfl rfl rfl rfl rfl rfl (by decide) rfl (zl) rfl rfl (by kernel_rfl) ?_;intro SE SF w hp bZ;refine fW ?_;refine CX hp rfl rfl rfl rfl (by kernel_rfl) ?_;intro w hp;refine fW ?_
      have hp:=((qx (y:=⟨0,bits .and .i64 ((x.sg.getD i default).init/2^((k:Nat):Int).toNat) 1,[0],some ⟨b0,0,none⟩,1⟩) (hp.f5.f2)).f1.drop).f3.f3.f3
      (repeat(first|(refine ah ?_;refine bb hp ?_)|(refine bK ?_;refine gG hp ?_;intro w _ hx hp;refine az ?_)))
      rename_i bl
      obtain⟨Qr,hq,gF⟩:=oJ hp.f2 (show i<R.length by omega)
      have hp:=hq
      refine gT hp ?_;intro a' c' w hp bZ;refine az ?_
      first|refine nO hp (y:=(⟨(R.getD i default).ins++[2*((st.2+k:Nat):Int)],a',c'⟩:cL Int)) rfl rfl rfl (by omega) (by decide) (rfl) rfl ?_|refine kj hp (y:=(⟨(R.getD i default).ins++[2*((st.2+k:Nat):Int)],a',c'⟩:cL Int)) rfl rfl rfl (by omega) (by decide) (rfl) rfl ?_
      intro w hp;refine az ?_
      have hp:=((gF _ _ (⟨(R.getD i default).ins++[2*((st.2+k:Nat):Int)],a',c'⟩:cL Int) hp).f1.drop).f1
      refine kF (k+1) _ _ _ (by omega) rfl ⟨by omega,_,_,SE,SF,⟨?_,?_,?_⟩,hp⟩
      ·rw[List.length_set];exact fF
      ·rw[mu,rD (by rw[hb.len];exact aF),<-fO,bk]
       rfl
      ·rw[zo,oX,vS,<-List.append_assoc,hv,dx,Int.toNat_natCast];rfl
     ·refine aM ?_
      obtain rfl:k=wN x.n (i:Nat):=by omega
      rw[<-eQ] at oX
      exact IH (i+1) _ _ _ (by omega) (by rw[eN];rfl) ⟨by omega,R,Q,sa,sc,⟨fF,by rw[eN];exact fO,oX⟩,hp⟩
    ·have y9:aY x.n (i:Nat)≠3:=by rw[bG];exact hk
     have eN:u9 x.n (i+1)=st:=by rw[u9,if_neg y9,jq]
     have eQ:px [0] x.n (i+1)=px [0] x.n i:=by rw[px,if_neg y9]
     refine aN ?_
     refine aR [1,2,4,5,6,9,10] (fun(k:Nat)=>[(1,.pointer (some ⟨b1,0,none⟩)),(2,.pointer (some ⟨b2,0,none⟩)),(4,.pointer (some ⟨b4,0,none⟩)),(5,.slice (some ⟨bs,0,none⟩) x.sg.length x.sg.length),(6,.int .i64 ((st.2:Nat):Int)),(9,.int .i64 (i:Int)),(10,.int .i64 (k:Int))])
      (fun k w'=>k=0/\Hp w0 w' [rO 31 1 jk (some ⟨bs,0,none⟩) x.sg.length R,cC 3 1 eI R,rO 68 3 kf sa sc Q,fz Q,rB b4 33 [.int .i64 (cT (ee x.n 0)),.slice sa Q.length sc,.slice none 0 0,.slice none 0 0],rB b1 41 x.cs,rB b2 33 (aL Tryz.dY.zero)]) (fun k=>0) 0 rfl ⟨rfl,hp⟩ ?_
     clear hp
     rintro k w1 ⟨rfl,hp⟩ kF C
     refine bL ?_;(repeat(refine ah ?_;first|refine aH hp ?_|refine dg hp ?_))
     (first|apply fx|apply cf)<;>intro jK e<;>rw[e]<;>clear e;all_goals((repeat(first|(refine aG ?_;first|refine aO ?_|refine ba ?_)|(refine ah ?_;first|refine aH hp ?_|refine dg hp ?_))))
     ·refine ae (fun hg=>False.elim (by omega)) (fun _=> ?_);refine aM ?_
      exact IH (i+1) _ _ _ (by omega) (by rw[eN];rfl) ⟨by omega,R,Q,sa,sc,⟨fF,by rw[eN];exact fO,by rw[eQ];exact oX⟩,hp⟩
     ·refine aM ?_
      exact IH (i+1) _ _ _ (by omega) (by rw[eN];rfl) ⟨by omega,R,Q,sa,sc,⟨fF,by rw[eN];exact fO,by rw[eQ];exact oX⟩,hp⟩
   ·refine aM ?_
    obtain rfl:i=x.sg.length:=by omega
    clear IH
    subst jq
    have fO:aJ R=(pS x.n 0).1:=fO
    refine aR [1,2,4,5,6,11] (fun(j:Nat)=>[(1,.pointer (some ⟨b1,0,none⟩)),(2,.pointer (some ⟨b2,0,none⟩)),(4,.pointer (some ⟨b4,0,none⟩)),(5,.slice (some ⟨bs,0,none⟩) x.sg.length x.sg.length),(6,.int .i64 (((pS x.n j).2:Nat):Int)),(11,.int .i64 (j:Int))])
     (fun j w'=>j<=x.ms.length/\∃R Q sa sc,(R.length=x.sg.length/\aJ R=(pS x.n j).1/\aU Q=ni [0] [0,0,0,0] x.n j)/\Hp w0 w' [rO 31 1 jk (some ⟨bs,0,none⟩) x.sg.length R,cC 3 1 eI R,rO 68 3 kf sa sc Q,fz Q,rB b4 33 [.int .i64 (cT (ee x.n 0)),.slice sa Q.length sc,.slice none 0 0,.slice none 0 0],rB b1 41 x.cs,rB b2 33 (aL Tryz.dY.zero)]) (fun j=>x.ms.length-j) 0 rfl ⟨by omega,R,Q,sa,sc,⟨fF,fO,oX⟩,hp⟩ ?_
    clear hp fF fO hb oh oX uF
    rintro j w1 ⟨hj,R,Q,sa,sc,⟨fF,fO,oX⟩,hp⟩ IH C
    have hb:=OZ hm hj
    have uF:Q.length=dU x.n 3 x.sg.length+ja x.n j:=by rw[<-cm Q,oX,jA];rfl
    have hQb:=iK hm 3 x.sg.length (Nat.le_refl _)
    have hQb2:=tf hm j hj
    refine bL ?_;refine aH hp ?_
    apply ae<;>intro bD
    ·have aF:j<x.ms.length:=by omega
     have i4:=(hm.ms j aF).2.2.2.1
     change dr x.n (x.ms.getD j default).out at i4
     unfold dr at i4
     change 0<=(x.ms.getD j default).out/\(x.ms.getD j default).out<x.sg.length at i4
     obtain⟨o,ho⟩:=Int.eq_ofNat_of_zero_le i4.1
     have jL:o<x.sg.length:=by omega
     obtain⟨e1,e2⟩:=eW o jL
     obtain⟨st,jq⟩:∃st,st=pS x.n j:=⟨_,rfl⟩
     have eo:(x.ms.getD j default).out.toNat=o:=by omega
     have eN:pS x.n (j+1)=iV st o (wN x.n (o:Nat)):=by
      rw[pS]
      show iV (pS x.n j) (x.ms.getD j default).out.toNat (wN x.n (x.ms.getD j default).out)=_
      rw[eo,ho,jq]
     have eQ:ni [0] [0,0,0,0] x.n (j+1)=ni [0] [0,0,0,0] x.n j++ju [0,0,0,0] (wN x.n (o:Nat)):=by
      rw[ni]
      show ni [0] [0,0,0,0] x.n j++ju [0,0,0,0] (wN x.n (x.ms.getD j default).out)=_
      rw[ho]
     rw[<-jq] at fO hb⊢
     have oh:=hb.pos
     have lN:=hb.row o jL
     refine aN ?_
     refine aR [1,2,4,5,6,11,12] (fun(k:Nat)=>[(1,.pointer (some ⟨b1,0,none⟩)),(2,.pointer (some ⟨b2,0,none⟩)),(4,.pointer (some ⟨b4,0,none⟩)),(5,.slice (some ⟨bs,0,none⟩) x.sg.length x.sg.length),(6,.int .i64 ((st.2+k:Nat):Int)),(11,.int .i64 (j:Int)),(12,.int .i64 (k:Int))])
      (fun k w'=>k<=wN x.n (o:Nat)/\∃R Q sa sc,(R.length=x.sg.length/\aJ R=(iV st o k).1/\aU Q=ni [0] [0,0,0,0] x.n j++ju [0,0,0,0] k)/\Hp w0 w' [rO 31 1 jk (some ⟨bs,0,none⟩) x.sg.length R,cC 3 1 eI R,rO 68 3 kf sa sc Q,fz Q,rB b4 33 [.int .i64 (cT (ee x.n 0)),.slice sa Q.length sc,.slice none 0 0,.slice none 0 0],rB b1 41 x.cs,rB b2 33 (aL Tryz.dY.zero)]) (fun k=>wN x.n (o:Nat)-k) 0 rfl ⟨by omega,R,Q,sa,sc,⟨fF,by rw[rC (by rw[hb.len];exact jL)];exact fO,by rw[oX];simp[ju]⟩,hp⟩ ?_
     clear hp fF fO oX uF
     rintro k w1 ⟨Io,R,Q,sa,sc,⟨fF,fO,oX⟩,hp⟩ kF C
     have uF:Q.length=dU x.n 3 x.sg.length+ja x.n j+k:=by rw[<-cm Q,oX,List.length_append,jA];simp[ju];rfl
     have r7:(R.getD o default).ins.length<=20:=by
      rw[<-bk,fO]
      show((st.1.set o (st.1.getD o default++jt st.2 k)).getD o default).length<=20
      rw[cG (by rw[hb.len];exact jL),if_pos rfl,List.length_append,oK]
      omega
     refine bL ?_
     refine j8 hp ?_;intro w hx hp;have hs:=hp;(repeat(refine ah ?_;first|refine dQ ?_|refine mG rfl (by omega) rfl rfl rfl ?_|refine iZ rfl (by omega) (by omega) rfl rfl rfl ?_))
     skip
     rw[eo]
     apply ae<;>intro jK
     ·have fK:k<wN x.n (o:Nat):=by omega
      refine aN ?_;(repeat(first|(refine ah ?_;refine aH hp ?_)|(refine bK ?_;refine gG hp ?_;intro w _ hx hp;refine az ?_)))
      rename_i b0
      refine r4 hp kf [⟨1,0,[0,0,0,0],some ⟨b0,0,none⟩,4⟩] rfl rfl rfl rfl (s:=3) rfl (by decide) (by infer_instance) (by rfl) (by rfl) (by rfl) (by decide) ?_;intro w bq hx hp;refine az ?_
      refine gT hp ?_;intro SE SF w hp bZ;refine az ?_;refine iC hp ?_;intro w hp;refine az ?_
      have hp:=((qx (y:=⟨1,0,[0,0,0,0],some ⟨b0,0,none⟩,4⟩) (hp.f5.f2)).f1.drop).f3.f3.f3
      obtain⟨Qr,hq,gF⟩:=oJ hp.f1 (show o<R.length by omega)
      have hp:=hq
      clear hq
      refine Bm hp (Hp.drop hp) (by kernel_rfl) (by kernel_rfl) rfl rfl ?_;(repeat(first|(refine gu ?_;first|refine fy ?_|refine sK rfl (by omega) rfl rfl rfl ?_|refine tF rfl (by omega) (by omega) rfl rfl rfl ?_)|(refine qv ?_;refine lI rfl rfl rfl rfl rfl rfl rfl rfl rfl rfl ?_;intro _;refine cX ?_)))
      rename_i bl
      rw[eo]
      refine fZ rfl rfl rfl rfl rfl rfl rfl (by decide) rfl (zl) rfl rfl (fun _ _ _ _ _ hp=>hp.sub (by(repeat(first|exact List.sublist_append_left _ _|apply List.Sublist.cons)))) ?_;intro a' c' bZ;refine cX ?_
      first|refine Jp (y:=(⟨(R.getD o default).ins++[2*((st.2+k:Nat):Int)],a',c'⟩:cL Int)) rfl rfl rfl (by omega) (by decide) (rfl) rfl (by kernel_rfl) ?_|refine Gk (y:=(⟨(R.getD o default).ins++[2*((st.2+k:Nat):Int)],a',c'⟩:cL Int)) rfl rfl rfl (by omega) (by decide) (rfl) rfl (by kernel_rfl) ?_
      refine cX ?_
      refine dc ?_;intro w hp C;refine bL ?_
      rw[eo] at hp
      have hp:=(gF _ _ (⟨(R.getD o default).ins++[2*((st.2+k:Nat):Int)],a',c'⟩:cL Int) hp.drop).f1
      refine kF (k+1) _ _ _ (by omega) rfl ⟨by omega,_,_,SE,SF,⟨?_,?_,?_⟩,hp⟩
      ·rw[List.length_set];exact fF
      ·rw[mu,rD (by rw[hb.len];exact jL),<-fO,bk]
       rfl
      ·rw[zo,oX]
       unfold ju
       rw[List.replicate_succ',<-List.append_assoc];rfl
     ·refine aM ?_
      obtain rfl:k=wN x.n (o:Nat):=by omega
      rw[<-eQ] at oX
      exact IH (j+1) _ _ _ (by omega) (by rw[eN];rfl) ⟨by omega,R,Q,sa,sc,⟨fF,by rw[eN];exact fO,oX⟩,hp⟩
    ·refine aM ?_;refine aH hp ?_
     obtain rfl:j=x.ms.length:=by omega
     clear IH
     refine cx Tryz.func29 (lM x _ hp.mod hS hW) ?_;rintro _ w ⟨be,ce,rfl,hq⟩;have hx:=hq.x;have hp:=hp.bJ hq;refine az ?_
     rw[mV he] at hp⊢
     have qb:=iU he
     have je:=qb.2.1
     have OS:l.length<=30:=by have h:=qb.2.2;rw[x.cy] at h;omega
     have Fv:=kR l
     obtain⟨Fu,yN⟩:=pz hf he
     have jq:=oM.start Fu
     have zt:∀i,i<x.aP.length->∀j,j<(x.aP.getD i default).ops.length->u5 ((x.aP.getD i default).ops.getD j default):=fun i hi j hj=>by
      have h:=hW.ops i (by rw[x.cy];exact hi)
      rw[x.mR] at h
      exact h j hj
     have h1:Hp w0 _ (rO 120 2 gh none 0 ([]:List (Int×Int))::rO 3 1 eI none 0 ([]:List Int)::_):=(hp.eH (e:=3) (sz:=1) (enc:=eI) (c:=0) (X:=[]) (Ext.refl _) (dk.nil _ _ _ _ _)).eH (e:=120) (sz:=2) (enc:=gh) (c:=0) (X:=[]) (Ext.refl _) (dk.nil _ _ _ _ _)
     have D6:(⟨cT (ee x.n 0),Q,sa,sc,[],none,0,[],none,0⟩:bf).n=(fu x.n l 0).1.1:=by
      show(⟨cT (ee x.n 0),aU Q,[],[]⟩:ao)=kr x.n
      rw[oX];rfl
     have h2:=fc (x:=⟨cT (ee x.n 0),Q,sa,sc,[],none,0,[],none,0⟩) (gX (h1.f1.f1.f6.f6))
     refine aR [1,2,4,5,13,15] (fun(i:Nat)=>[(1,.pointer (some ⟨b1,0,none⟩)),(2,.pointer (some ⟨b2,0,none⟩)),(4,.pointer (some ⟨b4,0,none⟩)),(5,.slice (some ⟨bs,0,none⟩) x.sg.length x.sg.length),(13,.slice be l.length ce),(15,.int .i64 (i:Int))])
      (fun i w'=>i<=l.length/\∃R y,(R.length=x.sg.length/\aJ R=(fu x.n l i).2/\y.n=(fu x.n l i).1.1/\(fu x.n l i).1.2=false)/\Hp w0 w' [dv y,rB b4 33 y.cs,rO 31 1 jk (some ⟨bs,0,none⟩) x.sg.length R,cC 3 1 eI R,rO 3 1 eI be ce (cJ l),rB b1 41 x.cs,rB b2 33 (aL Tryz.dY.zero)]) (fun i=>l.length-i) 0 rfl ⟨by omega,R,⟨cT (ee x.n 0),Q,sa,sc,[],none,0,[],none,0⟩,⟨fF,fO,D6,rfl⟩,h2.f6.f6.f3.f5.f5.f6.f6⟩ ?_
     clear hp h1 h2 D6 fF fO oX uF
     rintro i w1 ⟨hi,R,y,⟨fF,fO,m0,Ec⟩,hp⟩ IH C
     have hP:=py hm hf (fun i hi=>(je i hi).1) i hi
     refine bL ?_
     apply ae<;>intro bD
     ·have aF:i<l.length:=by omega
      obtain⟨q,hq⟩:∃q,q=l.getD i 0:=⟨_,rfl⟩
      have Td:(cJ l).getD i default=((q:Nat):Int):=by rw[hq];exact mr l i
      have KI:q<x.aP.length:=by
       have h:=(je q (by rw[hq,List.getD_eq_getElem?_getD,List.getElem?_eq_getElem aF];exact List.getElem_mem _)).1
       rw[x.cy] at h;exact h
      obtain⟨qQ,yz,rV,KJ⟩:=gg hm hf (i:=q) (by rw[x.cy];exact KI)
      have wC:dT x.n q=(x.aP.getD q default).tg:=x.Ld q
      have AJ:opsL x.n q=(x.aP.getD q default).ops:=x.mR q
      have pI:=rV
      rw[wC] at pI
      unfold dr at pI
      change 0<=(x.aP.getD q default).tg/\(x.aP.getD q default).tg<x.sg.length at pI
      obtain⟨t,ht⟩:=Int.eq_ofNat_of_zero_le pI.1
      have D9:(x.aP.getD q default).tg.toNat=t:=by omega
      obtain⟨e1,e2⟩:=eW t (by omega)
      have DU:=nY hm hf rV
      have IM:wN x.n (dT x.n q)=wN x.n (t:Nat):=by rw[wC,ht]
      have la:Le q x.aP:=⟨KI⟩
      have hxl:x.n.sg.length=x.sg.length:=rfl
      have hAx:Mm (fu x.n l i).1.1 (fu x.n l i).2 (opsL x.n q) (wN x.n (dT x.n q):Nat):=VY hm hf hP.dR hP.sig (by rw[x.cy];exact KI) rV
      obtain⟨ev,oU⟩:∃ev,ev=dB a6 (fu x.n l i).2 (wN x.n (dT x.n q)) (cU x.n q) (fu x.n l i).1:=⟨_,rfl⟩
      have F0:(fu x.n l i).1=((fu x.n l i).1.1,false):=by rw[<-Ec]
      have SI:fI (opsL x.n q) (fu x.n l i).2.length=cU x.n q:=by unfold cU;rw[hP.sig.len]
      have eT:fu x.n l (i+1)=(ev.1,(fu x.n l i).2.set t ev.2):=by
       rw[fu,<-hq]
       unfold IK
       rw[<-oU,wC,D9]
      have Cr:ev.2.length=wN x.n (dT x.n q):=by rw[oU];exact cv _ _ _ _ _
      refine aN ?_
      refine j8 hp ?_;intro w hx hp;have hs:=hp;(repeat(refine ah ?_;first|refine dQ ?_|refine fo ?_|refine jr rfl (by omega) (by omega) rfl rfl rfl ?_))
      rw[Td,Int.toNat_natCast]
      (first|(refine Jk (fun _ hx=>hs.ext hx) hp ?_;intro w Xl hx hp)|(refine Bi (fun _ hx=>hs.ext hx) hp rfl ?_;intro w Xl hx hp));have hs:=hs.ext hx;refine fW ?_;refine xG hp rfl rfl rfl rfl (by kernel_rfl) ?_;intro w hp;refine fW ?_
      obtain⟨r,hr⟩:∃r,r=Ey y.n (aJ R) (x.aP.getD q default).ops ((wN x.n (t:Nat):Nat):Int):=⟨_,rfl⟩
      refine fQ hp ?_;(repeat(refine gu ?_;first|refine fy ?_|refine NQ rfl (by omega) (by omega) rfl rfl rfl ?_))
      rw[D9,e1]
      refine j9 Tryz.func30 (fun F w hp=> ?_)
      refine bN.mono (ss y x.sg.length (some ⟨bs,0,none⟩) x.sg.length R fF (x.aP.getD q default).oa (x.aP.getD q default).oc (x.aP.getD q default).ops ((wN x.n (t:Nat):Nat):Int) _ hp.pre.dR (by rw[m0];exact hP.dR) hp.pre.rd hp.pre.rs hp.pre.rd (by omega) (by rw[fO,m0];exact hP.sig.row) (by rw[<-AJ];exact qQ.len) (zt q KI) (by unfold da;omega)) ?_
      rw[<-hr]
      rintro _ w ⟨y',b,c,⟨ey,rfl⟩,hq⟩
      have hp:=Hp.FI hp hq
      refine⟨fun hq=>Bool.noConfusion (hq.symm.trans (by kernel_rfl:bH _ _=false)),_,hp,?_⟩
      clear hp hq
      refine cX ?_
      (first|refine oq ?_|refine iQ rfl ?_);intro b17;refine cX ?_;refine eO rfl rfl rfl rfl (by kernel_rfl) ?_;refine cX ?_
      refine dc ?_;intro w hp C;refine bL ?_
      rw[m0,fO,<-IM,<-AJ] at hr
      cases hb:ev.1.2 with
      |true=>
       rw[G1 (by rw[SI,<-F0,<-oU];exact hb)] at hr
       subst hr
       refine aN ?_;refine aW hp ?_;intro w hp;refine az ?_;refine bh hp rfl ?_
       rw[J8 hf he (i:=i+1) (by omega) (by rw[eT];exact hb)]
       exact⟨zh,⟨rfl,rfl⟩,(oQ hp).tk 1⟩
      |false=>
       rw[Ka hAx (by rw[SI,<-F0,<-oU];exact hb),SI,<-F0,<-oU] at hr
       subst hr
       have fD:((((ev.1.1,ev.2):ao×List Int).2.length:Nat):Int)≠0:=by
        show((ev.2.length:Nat):Int)≠0
        rw[Cr];omega
       refine mD (decide_eq_false fD) rfl ?_;(repeat(first|(refine ah ?_;refine aH hp ?_)|(refine aI ?_;refine aW hp ?_;intro w hp;refine az ?_)))
       first|refine nO hp (y:=(⟨ev.2,b,c⟩:cL Int)) rfl rfl rfl (by omega) (by decide) (rfl) rfl ?_|refine kj hp (y:=(⟨ev.2,b,c⟩:cL Int)) rfl rfl rfl (by omega) (by decide) (rfl) rfl ?_
       intro w hp;refine az ?_
       rw[D9] at hp
       obtain⟨Qr,DZ,gF⟩:=oJ (hp.f7) (i:=t) (by omega)
       have hp:=gF _ _ (⟨ev.2,b,c⟩:cL Int) (DZ.drop.f3)
       exact IH (i+1) _ _ _ (by omega) rfl ⟨by omega,_,y',⟨by rw[List.length_set];exact fF,by rw[eT,mu,fO],by rw[eT];exact ey,by rw[eT];exact hb⟩,(hp.f9.f9.f9.f3.f9.f9.f7).tk 7⟩
     ·refine aM ?_
      obtain rfl:i=l.length:=by omega
      clear IH hP
      have fO:aJ R=(bO x.n l).2:=fO
      have pU:∀u,u<R.length->(R.getD u default).ins.length<=1000:=fun u hu=>by
       have h:=(jq.sig.row _ (by rw[<-fO];exact aK (X:=aJ R) (i:=u) (by rw[fg];exact hu))).1
       rw[bk] at h;omega
      have hp:Hp w0 _ [_,_,_,_,_,_]:=(hp.f4).drop
      have m0:y.n=(fX x.n (bO x.n l).2 (bO x.n l).1 0).1.1:=m0
      have Ec:(fX x.n (bO x.n l).2 (bO x.n l).1 0).1.2=false:=Ec
      have hxl:x.n.sg.length=x.sg.length:=rfl
      refine aR [1,2,4,5,19,20] (fun(s:Nat)=>[(1,.pointer (some ⟨b1,0,none⟩)),(2,.pointer (some ⟨b2,0,none⟩)),(4,.pointer (some ⟨b4,0,none⟩)),(5,.slice (some ⟨bs,0,none⟩) x.sg.length x.sg.length),(19,.int .i64 (((fX x.n (bO x.n l).2 (bO x.n l).1 s).2:Nat):Int)),(20,.int .i64 (s:Int))])
       (fun s w'=>s<=x.sg.length/\∃y,(y.n=(fX x.n (bO x.n l).2 (bO x.n l).1 s).1.1/\(fX x.n (bO x.n l).2 (bO x.n l).1 s).1.2=false)/\Hp w0 w' [dv y,rB b4 33 y.cs,rO 31 1 jk (some ⟨bs,0,none⟩) x.sg.length R,cC 3 1 eI R,rB b1 41 x.cs,rB b2 33 (aL Tryz.dY.zero)]) (fun s=>x.sg.length-s) 0 rfl ⟨by omega,y,⟨m0,Ec⟩,hp⟩ ?_
      clear hp m0 Ec
      rintro s w1 ⟨hs,y,⟨m0,Ec⟩,hp⟩ IH C
      obtain⟨AE,zw,hS3⟩:=qN hm jq s hs
      have hS4:=iK hm 3 s hs
      refine bL ?_;refine aH hp ?_
      apply ae<;>intro bD
      ·have aF:s<x.sg.length:=by omega
       obtain⟨e1,e2⟩:=eW s aF
       by_cases hk:(x.sg.getD s default).kind=3
       ·have y9:aY x.n (s:Nat)=3:=by rw[bG];exact hk
        have eT:(fX x.n (bO x.n l).2 (bO x.n l).1 (s+1))=(jl x.n (bO x.n l).2 ((s:Nat):Int) (fX x.n (bO x.n l).2 (bO x.n l).1 s) x.aP.length):=by rw[fX,if_pos y9,x.cy]
        refine aN ?_
        refine aR [1,2,4,5,19,20,21] (fun(i:Nat)=>[(1,.pointer (some ⟨b1,0,none⟩)),(2,.pointer (some ⟨b2,0,none⟩)),(4,.pointer (some ⟨b4,0,none⟩)),(5,.slice (some ⟨bs,0,none⟩) x.sg.length x.sg.length),(19,.int .i64 (((jl x.n (bO x.n l).2 ((s:Nat):Int) (fX x.n (bO x.n l).2 (bO x.n l).1 s) i).2:Nat):Int)),(20,.int .i64 (s:Int)),(21,.int .i64 (i:Int))])
         (fun i w'=>i<=x.aP.length/\∃y,(y.n=(jl x.n (bO x.n l).2 ((s:Nat):Int) (fX x.n (bO x.n l).2 (bO x.n l).1 s) i).1.1/\(jl x.n (bO x.n l).2 ((s:Nat):Int) (fX x.n (bO x.n l).2 (bO x.n l).1 s) i).1.2=false)/\Hp w0 w' [dv y,rB b4 33 y.cs,rO 31 1 jk (some ⟨bs,0,none⟩) x.sg.length R,cC 3 1 eI R,rB b1 41 x.cs,rB b2 33 (aL Tryz.dY.zero)]) (fun i=>x.aP.length-i) 0 rfl ⟨by omega,y,⟨m0,Ec⟩,hp⟩ ?_
        clear hp m0 Ec
        rintro i w1 ⟨hi,y,⟨m0,Ec⟩,hp⟩ kF C
        obtain⟨vT,Xe,hI3⟩:=nZ hm aF y9 AE zw i (by rw[x.cy];exact hi)
        refine bL ?_;refine aH hp ?_
        (first|apply fx|apply cf)<;>intro jK e<;>rw[e]<;>clear e;all_goals((repeat(first|(refine aG ?_;first|refine aO ?_|refine ba ?_)|(refine ah ?_;first|refine aH hp ?_|refine dg hp ?_))))
        ·have fK:i<x.aP.length:=by omega
         obtain⟨qQ,yz,rV,KJ⟩:=gg hm hf (i:=i) (by rw[x.cy];exact fK)
         have AJ:opsL x.n i=(x.aP.getD i default).ops:=x.mR i
         have la:Le i x.aP:=⟨fK⟩
         refine ae (fun _=> ?_) (fun hg=>False.elim (by omega));refine aN ?_;(repeat(refine ah ?_;first|refine aH hp ?_|refine dg hp ?_))
         apply ae<;>intro ht
         ·have eJ:(jl x.n (bO x.n l).2 ((s:Nat):Int) (fX x.n (bO x.n l).2 (bO x.n l).1 s) (i+1))=(jl x.n (bO x.n l).2 ((s:Nat):Int) (fX x.n (bO x.n l).2 (bO x.n l).1 s) i):=by
           rw[jl]
           unfold zG
           rw[if_neg (show¬dT x.n i=((s:Nat):Int) from fun h=>ht ((x.Ld i).symm.trans h))]
          refine aN ?_
          exact kF (i+1) _ _ _ (by omega) (by rw[eJ];rfl) ⟨by omega,y,⟨by rw[eJ];exact m0,by rw[eJ];exact Ec⟩,hp⟩
         ·have ht:=Decidable.not_not.1 ht
          have IU:dT x.n i=(s:Nat):=(x.Ld i).trans ht
          have ij:=BS hm aF y9 AE zw (i:=i) (by rw[x.cy];exact fK) IU
          have DU:=nY hm hf rV
          rw[IU] at DU
          obtain⟨v1,v2,v3,v4⟩:=vT.ev (wN x.n (s:Nat)) (cU x.n i)
          obtain⟨ev,oU⟩:∃ev,ev=dB a6 (bO x.n l).2 (wN x.n (s:Nat)) (cU x.n i) (jl x.n (bO x.n l).2 ((s:Nat):Int) (fX x.n (bO x.n l).2 (bO x.n l).1 s) i).1:=⟨_,rfl⟩
          have Cr:ev.2.length=wN x.n (s:Nat):=by rw[oU];exact cv _ _ _ _ _
          rw[<-oU] at v1 v2 v3 v4
          have eJ:(jl x.n (bO x.n l).2 ((s:Nat):Int) (fX x.n (bO x.n l).2 (bO x.n l).1 s) (i+1))=((jh ev.1.1 (jl x.n (bO x.n l).2 ((s:Nat):Int) (fX x.n (bO x.n l).2 (bO x.n l).1 s) i).2 ev.2 (wN x.n (s:Nat)),ev.1.2),(jl x.n (bO x.n l).2 ((s:Nat):Int) (fX x.n (bO x.n l).2 (bO x.n l).1 s) i).2+wN x.n (s:Nat)):=by
           rw[jl]
           unfold zG
           rw[if_pos IU,<-oU]
          have F0:(jl x.n (bO x.n l).2 ((s:Nat):Int) (fX x.n (bO x.n l).2 (bO x.n l).1 s) i).1=((jl x.n (bO x.n l).2 ((s:Nat):Int) (fX x.n (bO x.n l).2 (bO x.n l).1 s) i).1.1,false):=by rw[<-Ec]
          have SI:fI (opsL x.n i) (bO x.n l).2.length=cU x.n i:=by unfold cU;rw[vT.sig.len]
          have hAx:Mm (jl x.n (bO x.n l).2 ((s:Nat):Int) (fX x.n (bO x.n l).2 (bO x.n l).1 s) i).1.1 (bO x.n l).2 (opsL x.n i) (wN x.n (s:Nat):Nat):=VY hm hf vT.dR vT.sig (by rw[x.cy];exact fK) (s:=(s:Nat)) (by unfold dr;exact⟨by omega,by rw[hxl];omega⟩)
          obtain⟨r,hr⟩:∃r,r=Ey y.n (aJ R) (x.aP.getD i default).ops ((wN x.n (s:Nat):Nat):Int):=⟨_,rfl⟩
          refine aM ?_
          refine fQ hp ?_;(repeat(refine gu ?_;first|refine fy ?_|refine sK rfl (by omega) rfl rfl rfl ?_))
          rw[e1]
          refine j9 Tryz.func30 (fun F w hp=> ?_)
          refine bN.mono (ss y x.sg.length (some ⟨bs,0,none⟩) x.sg.length R fF (x.aP.getD i default).oa (x.aP.getD i default).oc (x.aP.getD i default).ops ((wN x.n (s:Nat):Nat):Int) _ hp.pre.dR (by rw[m0];exact vT.dR) hp.pre.rd hp.pre.rs hp.pre.rd (by omega) (by rw[fO,m0];exact vT.sig.row) (by rw[<-AJ];exact qQ.len) (zt i fK) (by unfold da;omega)) ?_
          rw[<-hr]
          rintro _ w ⟨y',b,c,⟨ey,rfl⟩,hq⟩
          have hp:=Hp.FI hp hq
          refine⟨fun hq=>Bool.noConfusion (hq.symm.trans (by kernel_rfl:bH _ _=false)),_,hp,?_⟩
          clear hp hq
          refine cX ?_
          (first|refine oq ?_|refine iQ rfl ?_);intro b22;refine cX ?_;refine eO rfl rfl rfl rfl (by kernel_rfl) ?_;refine cX ?_
          refine dc ?_;intro w hp C;refine bL ?_
          rw[m0,fO,<-AJ] at hr
          cases hb:ev.1.2 with
          |true=>
           rw[G1 (by rw[SI,<-F0,<-oU];exact hb)] at hr
           subst hr
           refine aN ?_;refine aW hp ?_;intro w hp;refine az ?_;refine bh hp rfl ?_
           rw[J' hf he aF y9 (i:=i+1) (by rw[x.cy];omega) (by rw[eJ];exact hb)]
           exact⟨zh,⟨rfl,rfl⟩,(oQ hp).tk 1⟩
          |false=>
           rw[Ka hAx (by rw[SI,<-F0,<-oU];exact hb),SI,<-F0,<-oU] at hr
           subst hr
           have fD:((((ev.1.1,ev.2):ao×List Int).2.length:Nat):Int)≠0:=by
            show((ev.2.length:Nat):Int)≠0
            rw[Cr];omega
           refine mD (decide_eq_false fD) rfl ?_;(repeat(first|(refine ah ?_;refine aH hp ?_)|(refine aI ?_;refine aW hp ?_;intro w hp;refine az ?_)))
           obtain⟨q0,Ij⟩:∃q0,q0=(jl x.n (bO x.n l).2 ((s:Nat):Int) (fX x.n (bO x.n l).2 (bO x.n l).1 s) i).2:=⟨_,rfl⟩
           rw[<-Ij] at eJ ij v1
           obtain⟨ck,Q,sa,sc,A,aa,ac,O,oa,oc⟩:=y'
           have ey:(⟨ck,aU Q,A,O⟩:ao)=ev.1.1:=ey
           obtain⟨m,wj⟩:∃m,m=Q.length:=⟨_,rfl⟩
           have hatm:q0+wN x.n (s:Nat)<=m:=by
            have h:=congrArg (fun N:ao=>N.au.length) ey
            have h:(aU Q).length=ev.1.1.au.length:=h
            rw[cm,v1.len] at h
            rw[wj,h]
            exact Nat.le_trans ij (Nat.le_add_right _ _)
           have hm12:m<=300:=by
            have h:=congrArg (fun N:ao=>N.au.length) ey
            have h:(aU Q).length=ev.1.1.au.length:=h
            rw[cm,v1.len] at h
            have h6:=iK hm 3 x.n.sg.length (Nat.le_refl _)
            have h7:=tf hm x.n.ms.length (Nat.le_refl _)
            have h8:x.n.ms.length=x.ms.length:=rfl
            omega
           have hp:=((ou (kJ (x:=⟨ck,Q,sa,sc,A,aa,ac,O,oa,oc⟩) hp.f1)).f11.f11.f11.f11.f7.f7.f7.f7.f9.f11).Lr (zS:=([.int .i64 ck,.slice sa m sc,.slice aa A.length ac,.slice oa O.length oc]:List Value)) (by rw[wj])
           have hp:Hp w0 _ [_,_,_,_,_,_,_,_,_,_]:=hp.tk 10
           have Xx:aU Q=(jh ev.1.1 q0 ev.2 0).au:=congrArg ao.au ey
           refine aR [1,2,4,5,19,20,21,23,24] (fun(k:Nat)=>[(1,.pointer (some ⟨b1,0,none⟩)),(2,.pointer (some ⟨b2,0,none⟩)),(4,.pointer (some ⟨b4,0,none⟩)),(5,.slice (some ⟨bs,0,none⟩) x.sg.length x.sg.length),(19,.int .i64 ((q0+k:Nat):Int)),(20,.int .i64 (s:Int)),(21,.int .i64 (i:Int)),(23,.slice b ev.2.length c),(24,.int .i64 (k:Int))])
            (fun k w'=>k<=ev.2.length/\∃Q,(Q.length=m/\aU Q=(jh ev.1.1 q0 ev.2 k).au)/\Hp w0 w' [rB b4 33 [.int .i64 ck,.slice sa m sc,.slice aa A.length ac,.slice oa O.length oc],rO 3 1 eI b c ev.2,rO 68 3 kf sa sc Q,fz Q,rO 120 2 gh aa ac A,rO 3 1 eI oa oc O,rO 31 1 jk (some ⟨bs,0,none⟩) x.sg.length R,cC 3 1 eI R,rB b1 41 x.cs,rB b2 33 (aL Tryz.dY.zero)]) (fun k=>ev.2.length-k) 0 (by rw[Ij];rfl) ⟨by omega,Q,⟨wj.symm,Xx⟩,hp⟩ ?_
           clear hp Xx
           have eyi:ck=ev.1.1.aT:=congrArg ao.aT ey
           have eya:A=ev.1.1.af:=congrArg ao.af ey
           have eyo:O=ev.1.1.outs:=congrArg ao.outs ey
           clear wj ey
           rintro k w1 ⟨Io,Q,⟨uF,oX⟩,hp⟩ WM C
           refine bL ?_
           apply ae<;>intro Kr
           ·have O0:k<ev.2.length:=by omega
            have hsn2:sa≠none:=bW hp (X:=Q) (by omega)
            refine aN ?_
            refine j8 hp ?_;intro w hx hp;have hs:=hp;(repeat(first|(refine ah ?_;first|refine dQ ?_|refine fo ?_)|(refine bK ?_;refine sJ (fun _ hx=>hs.ext hx) hp rfl rfl rfl rfl rfl rfl rfl rfl rfl rfl ?_;intro w _ hx hp;have hs:=hs.ext hx;refine fW ?_)))
            rename_i bl
            first|refine EW hp ({Q.getD (q0+k) default with ins:=[ev.2.getD k default],ia:=some ⟨bl,0,none⟩,ic:=1}) rfl rfl rfl (by omega) (by decide) rfl rfl (by kernel_rfl) ?_|refine Gh hp ({Q.getD (q0+k) default with ins:=[ev.2.getD k default],ia:=some ⟨bl,0,none⟩,ic:=1}) rfl rfl rfl (by omega) (by decide) rfl rfl (by kernel_rfl) ?_
            intro w hp;refine fW ?_
            obtain⟨Qr,DZ,gF⟩:=nC hp.f4 (i:=q0+k) (by omega)
            have hp:=gF _ _ {Q.getD (q0+k) default with ins:=[ev.2.getD k default],ia:=some ⟨bl,0,none⟩,ic:=1} (DZ.drop.f1)
            exact WM (k+1) _ _ _ (by omega) rfl ⟨by omega,_,⟨by rw[List.length_set];exact uF,AZ oX _ _ _⟩,hp.f3.f3.f3⟩
           ·refine aM ?_
            obtain rfl:k=ev.2.length:=by omega
            clear WM
            subst uF
            have h:=fc (x:=⟨ck,Q,sa,sc,A,aa,ac,O,oa,oc⟩) (gX (hp.f9.f9.f9.f9.f4.f9.f9.f9.f9))
            refine kF (i+1) _ _ _ (by omega) (by rw[eJ,Cr];rfl) ⟨by omega,⟨ck,Q,sa,sc,A,aa,ac,O,oa,oc⟩,⟨?_,by rw[eJ];exact hb⟩,h.tk 6⟩
            rw[eJ]
            show(⟨ck,aU Q,A,O⟩:ao)=jh ev.1.1 q0 ev.2 (wN x.n (s:Nat))
            rw[Hq,<-Cr,oX,eyi,eya,eyo]
        ·refine aM ?_
         obtain rfl:i=x.aP.length:=by omega
         exact IH (s+1) _ _ _ (by omega) (by rw[eT];rfl) ⟨by omega,y,⟨by rw[eT];exact m0,by rw[eT];exact Ec⟩,hp⟩
       ·have eT:(fX x.n (bO x.n l).2 (bO x.n l).1 (s+1))=(fX x.n (bO x.n l).2 (bO x.n l).1 s):=by rw[fX,if_neg (by rw[bG];exact hk)]
        refine aN ?_
        refine aR [1,2,4,5,19,20,21] (fun(i:Nat)=>[(1,.pointer (some ⟨b1,0,none⟩)),(2,.pointer (some ⟨b2,0,none⟩)),(4,.pointer (some ⟨b4,0,none⟩)),(5,.slice (some ⟨bs,0,none⟩) x.sg.length x.sg.length),(19,.int .i64 (((fX x.n (bO x.n l).2 (bO x.n l).1 s).2:Nat):Int)),(20,.int .i64 (s:Int)),(21,.int .i64 (i:Int))])
         (fun i w'=>i=0/\Hp w0 w' [dv y,rB b4 33 y.cs,rO 31 1 jk (some ⟨bs,0,none⟩) x.sg.length R,cC 3 1 eI R,rB b1 41 x.cs,rB b2 33 (aL Tryz.dY.zero)]) (fun i=>0) 0 rfl ⟨rfl,hp⟩ ?_
        clear hp
        rintro i w1 ⟨rfl,hp⟩ kF C
        refine bL ?_;refine aH hp ?_
        (first|apply fx|apply cf)<;>intro jK e<;>rw[e]<;>clear e;all_goals((repeat(first|(refine aG ?_;first|refine aO ?_|refine ba ?_)|(refine ah ?_;first|refine aH hp ?_|refine dg hp ?_))))
        ·refine ae (fun hg=>False.elim (by omega)) (fun _=> ?_);refine aM ?_
         exact IH (s+1) _ _ _ (by omega) (by rw[eT];rfl) ⟨by omega,y,⟨by rw[eT];exact m0,by rw[eT];exact Ec⟩,hp⟩
        ·refine aM ?_
         exact IH (s+1) _ _ _ (by omega) (by rw[eT];rfl) ⟨by omega,y,⟨by rw[eT];exact m0,by rw[eT];exact Ec⟩,hp⟩
      ·refine aM ?_
       obtain rfl:s=x.sg.length:=by omega
       clear IH
       have eR:(fX x.n (bO x.n l).2 (bO x.n l).1 x.sg.length)=dN x.n l:=rfl
       rw[eR] at m0 Ec AE zw⊢
       obtain⟨ck,Q,sa,sc,A,aa,ac,O,oa,oc⟩:=y
       have ey:(⟨ck,aU Q,A,O⟩:ao)=(dN x.n l).1.1:=m0
       obtain rfl:O=[]:=by have h:=congrArg ao.outs ey;rw[AE.outs] at h;exact h
       obtain⟨m,wj⟩:∃m,m=Q.length:=⟨_,rfl⟩
       have hmN:(dN x.n l).1.1.au.length=m:=by rw[wj,<-cm Q,<-ey]
       have hmw0:m=dU x.n 3 x.sg.length+ja x.n x.ms.length:=by rw[<-hmN,AE.len];rfl
       have hp:=((ou (kJ (x:=⟨ck,Q,sa,sc,A,aa,ac,[],oa,oc⟩) hp)).f8.f8.f8.f8.f7.f7.f7.f7.f8).Lr (zS:=([.int .i64 ck,.slice sa m sc,.slice aa A.length ac,.slice oa ([]:List Int).length oc]:List Value)) (by rw[wj];rfl)
       have oX:aU Q=(dj x.n (bO x.n l).2 (dN x.n l).1.1 (dN x.n l).2 0).1.au:=congrArg ao.au ey
       have hmt:∀j,j<=x.ms.length->oM x.n (bO x.n l).2 (dj x.n (bO x.n l).2 (dN x.n l).1.1 (dN x.n l).2 j).1 (dj x.n (bO x.n l).2 (dN x.n l).1.1 (dN x.n l).2 j).2/\(dj x.n (bO x.n l).2 (dN x.n l).1.1 (dN x.n l).2 j).2=(dN x.n l).2+ja x.n j:=fun j hj=>by
        have h:=wP hm hf yN (N:=(dN x.n l).1.1) (by have h:=AE;rw[zw] at h;exact h) j hj
        rw[zw];exact h
       refine aR [1,2,4,5,19,25] (fun(j:Nat)=>[(1,.pointer (some ⟨b1,0,none⟩)),(2,.pointer (some ⟨b2,0,none⟩)),(4,.pointer (some ⟨b4,0,none⟩)),(5,.slice (some ⟨bs,0,none⟩) x.sg.length x.sg.length),(19,.int .i64 (((dj x.n (bO x.n l).2 (dN x.n l).1.1 (dN x.n l).2 j).2:Nat):Int)),(25,.int .i64 (j:Int))])
        (fun j w'=>j<=x.ms.length/\∃Q,(Q.length=m/\aU Q=(dj x.n (bO x.n l).2 (dN x.n l).1.1 (dN x.n l).2 j).1.au)/\Hp w0 w' [rB b4 33 [.int .i64 ck,.slice sa m sc,.slice aa A.length ac,.slice oa ([]:List Int).length oc],rO 68 3 kf sa sc Q,fz Q,rO 120 2 gh aa ac A,rO 3 1 eI oa oc ([]:List Int),rO 31 1 jk (some ⟨bs,0,none⟩) x.sg.length R,cC 3 1 eI R,rB b1 41 x.cs,rB b2 33 (aL Tryz.dY.zero)]) (fun j=>x.ms.length-j) 0 rfl ⟨by omega,Q,⟨wj.symm,oX⟩,hp⟩ ?_
       clear hp oX
       have eyi:ck=(dN x.n l).1.1.aT:=congrArg ao.aT ey
       have eya:A=(dN x.n l).1.1.af:=congrArg ao.af ey
       clear wj ey m0
       rintro j w1 ⟨hj,Q,⟨uF,oX⟩,hp⟩ IH C
       obtain⟨Tm,Tn⟩:=hmt j hj
       have hT3:=tf hm j hj
       have hT4:=iK hm 3 x.sg.length (Nat.le_refl _)
       have hS2':(dN x.n l).2=dU x.n 3 x.sg.length:=zw
       refine bL ?_;refine aH hp ?_
       apply ae<;>intro bD
       ·have aF:j<x.ms.length:=by omega
        obtain⟨i1,i2,i3,i4,_⟩:=hm.ms j aF
        change dr x.n (x.ms.getD j default).addr at i1
        change dr x.n (x.ms.getD j default).data at i2
        change dr x.n (x.ms.getD j default).write at i3
        change dr x.n (x.ms.getD j default).out at i4
        obtain⟨w1',w2',w3',w4',w5'⟩:=GZ hm hf aF
        change wN x.n (x.ms.getD j default).addr=2 at w1'
        change wN x.n (x.ms.getD j default).write=1 at w2'
        change wN x.n (x.ms.getD j default).data=wN x.n (x.ms.getD j default).out at w3'
        have f1:=l8 yN i1
        have f2:=l8 yN i2
        have f3:=l8 yN i3
        rw[<-fO,bk] at f1 f2 f3
        unfold dr at i1 i2 i3 i4
        change 0<=(x.ms.getD j default).addr/\(x.ms.getD j default).addr<x.sg.length at i1
        change 0<=(x.ms.getD j default).data/\(x.ms.getD j default).data<x.sg.length at i2
        change 0<=(x.ms.getD j default).write/\(x.ms.getD j default).write<x.sg.length at i3
        change 0<=(x.ms.getD j default).out/\(x.ms.getD j default).out<x.sg.length at i4
        obtain⟨o,ho⟩:=Int.eq_ofNat_of_zero_le i4.1
        have eo:(x.ms.getD j default).out.toNat=o:=by omega
        obtain⟨e1,e2⟩:=eW o (by omega)
        have la1:FL (x.ms.getD j default).addr.toNat R:=⟨by omega⟩
        have la2:FL (x.ms.getD j default).data.toNat R:=⟨by omega⟩
        have la3:FL (x.ms.getD j default).write.toNat R:=⟨by omega⟩
        have zz:wN x.n (x.ms.getD j default).out=wN x.n (o:Nat):=by rw[ho]
        have eN:(dj x.n (bO x.n l).2 (dN x.n l).1.1 (dN x.n l).2 (j+1))=(l7 (bO x.n l).2 (x.ms.getD j default) (dj x.n (bO x.n l).2 (dN x.n l).1.1 (dN x.n l).2 j).1 (dj x.n (bO x.n l).2 (dN x.n l).1.1 (dN x.n l).2 j).2 (wN x.n (o:Nat)),(dj x.n (bO x.n l).2 (dN x.n l).1.1 (dN x.n l).2 j).2+wN x.n (o:Nat)):=by
         rw[dj]
         show(l7 (bO x.n l).2 (x.ms.getD j default) (dj x.n (bO x.n l).2 (dN x.n l).1.1 (dN x.n l).2 j).1 (dj x.n (bO x.n l).2 (dN x.n l).1.1 (dN x.n l).2 j).2 (wN x.n (x.ms.getD j default).out),(dj x.n (bO x.n l).2 (dN x.n l).1.1 (dN x.n l).2 j).2+wN x.n (x.ms.getD j default).out)=_
         rw[zz]
        have hmw:=lD x.n (i:=j+1) (j:=x.ms.length) (by omega)
        have hmw2:ja x.n (j+1)=ja x.n j+wN x.n (o:Nat):=by
         rw[ja]
         show ja x.n j+wN x.n (x.ms.getD j default).out=_
         rw[zz]
        refine aN ?_;(repeat(refine ah ?_;first|refine aH hp ?_|refine bb hp ?_))
        refine bP hp ?_;intro w Th hx hp;refine az ?_;refine aW hp ?_;intro w hp;refine az ?_
        obtain⟨q0,Ij⟩:∃q0,q0=(dj x.n (bO x.n l).2 (dN x.n l).1.1 (dN x.n l).2 j).2:=⟨_,rfl⟩
        rw[<-Ij] at eN Tm Tn
        have hq0m:q0+wN x.n (o:Nat)<=m:=by omega
        refine aR [1,2,4,5,19,25,26,27] (fun(k:Nat)=>[(1,.pointer (some ⟨b1,0,none⟩)),(2,.pointer (some ⟨b2,0,none⟩)),(4,.pointer (some ⟨b4,0,none⟩)),(5,.slice (some ⟨bs,0,none⟩) x.sg.length x.sg.length),(19,.int .i64 ((q0+k:Nat):Int)),(25,.int .i64 (j:Int)),(26,.pointer (some ⟨Th,0,none⟩)),(27,.int .i64 (k:Int))])
         (fun k w'=>k<=wN x.n (o:Nat)/\∃Q,(Q.length=m/\aU Q=(l7 (bO x.n l).2 (x.ms.getD j default) (dj x.n (bO x.n l).2 (dN x.n l).1.1 (dN x.n l).2 j).1 q0 k).au)/\Hp w0 w' [rB Th 70 (p9 (x.ms.getD j default)),rB b4 33 [.int .i64 ck,.slice sa m sc,.slice aa A.length ac,.slice oa ([]:List Int).length oc],rO 68 3 kf sa sc Q,fz Q,rO 120 2 gh aa ac A,rO 3 1 eI oa oc ([]:List Int),rO 31 1 jk (some ⟨bs,0,none⟩) x.sg.length R,cC 3 1 eI R,rB b1 41 x.cs,rB b2 33 (aL Tryz.dY.zero)]) (fun k=>wN x.n (o:Nat)-k) 0 (by rw[Ij];rfl) ⟨by omega,Q,⟨uF,oX⟩,hp⟩ ?_
        clear hp uF oX
        rintro k w1 ⟨Io,Q,⟨uF,oX⟩,hp⟩ kF C
        refine bL ?_;(repeat(refine ah ?_;first|refine aH hp ?_|refine rP hp ?_))
        rw[eo]
        apply ae<;>intro jK
        ·have fK:k<wN x.n (o:Nat):=by omega
         have hsn2:sa≠none:=bW hp (X:=Q) (by omega)
         have la1n:(R.getD (x.ms.getD j default).addr.toNat default).ia≠none:=bW hp (X:=(R.getD (x.ms.getD j default).addr.toNat default).ins) (by omega)
         have la2n:(R.getD (x.ms.getD j default).data.toNat default).ia≠none:=bW hp (X:=(R.getD (x.ms.getD j default).data.toNat default).ins) (by omega)
         have la3n:(R.getD (x.ms.getD j default).write.toNat default).ia≠none:=bW hp (X:=(R.getD (x.ms.getD j default).write.toNat default).ins) (by omega)
         refine aN ?_
         refine j8 hp ?_;intro w hx hp;have hs:=hp;(repeat(first|(refine ah ?_;first|refine dQ ?_|refine fo ?_|refine jr rfl (by omega) (by omega) rfl rfl rfl ?_)|(refine bK ?_;refine sJ (fun _ hx=>hs.ext hx) hp rfl rfl rfl rfl rfl rfl rfl rfl rfl rfl ?_;intro w _ hx hp;have hs:=hs.ext hx;refine fW ?_)))
         rename_i bl
         have eL:[(R.getD (x.ms.getD j default).addr.toNat default).ins.getD (Int.toNat 0) default,(R.getD (x.ms.getD j default).addr.toNat default).ins.getD (Int.toNat 1) default,(R.getD (x.ms.getD j default).data.toNat default).ins.getD k default,(R.getD (x.ms.getD j default).write.toNat default).ins.getD (Int.toNat 0) default]=p7 (bO x.n l).2 (x.ms.getD j default) k:=by
          unfold p7
          rw[<-fO,bk,bk,bk];rfl
         first|refine EW hp ({Q.getD (q0+k) default with ins:=p7 (bO x.n l).2 (x.ms.getD j default) k,ia:=some ⟨bl,0,none⟩,ic:=4}) rfl rfl rfl (by omega) (by decide) rfl rfl (by kernel_rfl) ?_|refine Gh hp ({Q.getD (q0+k) default with ins:=p7 (bO x.n l).2 (x.ms.getD j default) k,ia:=some ⟨bl,0,none⟩,ic:=4}) rfl rfl rfl (by omega) (by decide) rfl rfl (by kernel_rfl) ?_
         intro w hp;refine fW ?_
         rw[eL] at hp
         obtain⟨Qr,DZ,gF⟩:=nC hp.f4 (i:=q0+k) (by omega)
         have hp:=gF _ _ {Q.getD (q0+k) default with ins:=p7 (bO x.n l).2 (x.ms.getD j default) k,ia:=some ⟨bl,0,none⟩,ic:=4} (DZ.drop.f1)
         exact kF (k+1) _ _ _ (by omega) rfl ⟨by omega,_,⟨by rw[List.length_set];exact uF,AZ oX _ _ _⟩,hp.f3.f3.f3⟩
        ·refine aM ?_
         obtain rfl:k=wN x.n (o:Nat):=by omega
         exact IH (j+1) _ _ _ (by omega) (by rw[eN];rfl) ⟨by omega,Q,⟨uF,by rw[eN];exact oX⟩,hp.drop⟩
       ·refine aM ?_
        obtain rfl:j=x.ms.length:=by omega
        clear IH
        have hT0:(dj x.n (bO x.n l).2 (dN x.n l).1.1 (dN x.n l).2 x.ms.length)=G0 x.n l:=rfl
        have heM:=Hs x.n (bO x.n l).2 (dN x.n l).1.1 (dN x.n l).2 x.ms.length
        rw[hT0] at oX Tm Tn heM
        refine aR [1,2,4,5,28] (fun(i:Nat)=>[(1,.pointer (some ⟨b1,0,none⟩)),(2,.pointer (some ⟨b2,0,none⟩)),(4,.pointer (some ⟨b4,0,none⟩)),(5,.slice (some ⟨bs,0,none⟩) x.sg.length x.sg.length),(28,.int .i64 (i:Int))])
         (fun i w'=>i<=x.sg.length/\∃oa oc,Hp w0 w' [rO 3 1 eI oa oc ((iW x.n (bO x.n l).2 i)),rB b4 33 [.int .i64 ck,.slice sa m sc,.slice aa A.length ac,.slice oa ((iW x.n (bO x.n l).2 i)).length oc],rO 68 3 kf sa sc Q,fz Q,rO 120 2 gh aa ac A,rO 31 1 jk (some ⟨bs,0,none⟩) x.sg.length R,cC 3 1 eI R,rB b1 41 x.cs,rB b2 33 (aL Tryz.dY.zero)]) (fun i=>x.sg.length-i) 0 rfl ⟨by omega,oa,oc,hp.f3.f3.f3.f3.f4⟩ ?_
        clear hp
        rintro i w1 ⟨hi,oa,oc,hp⟩ IH C
        have jL:=oO yN i hi
        have II:=iK hm 1 i hi
        obtain⟨O,hO⟩:∃O,O=iW x.n (bO x.n l).2 i:=⟨_,rfl⟩
        rw[<-hO] at hp jL
        refine bL ?_;refine aH hp ?_
        apply ae<;>intro bD
        ·have aF:i<x.sg.length:=by omega
         have la1:FL i R:=⟨by omega⟩
         have Lh:=pU i (by omega)
         refine aN ?_;(repeat(refine ah ?_;first|refine aH hp ?_|refine dg hp ?_))
         apply ae<;>intro hk
         ·have eT:iW x.n (bO x.n l).2 (i+1)=O++(R.getD i default).ins:=by rw[iW,if_pos (by rw[bG];exact hk),<-hO,<-fO,bk]
          refine aN ?_
          refine j8 hp ?_;intro w hx hp;have hs:=hp;(repeat(refine ah ?_;first|refine dQ ?_|refine fo ?_))
          refine gW hp rfl rfl rfl rfl rfl rfl rfl (by decide) rfl (zl) rfl rfl (by kernel_rfl) ?_;intro M7 pE w hp bZ;refine fW ?_;refine CX hp rfl rfl rfl rfl (by kernel_rfl) ?_;intro w hp;refine fW ?_
          refine IH (i+1) _ _ _ (by omega) rfl ⟨by omega,M7,pE,?_⟩
          rw[eT]
          exact hp
         ·have eT:iW x.n (bO x.n l).2 (i+1)=O:=by rw[iW,if_neg (by rw[bG];exact hk),<-hO]
          refine aM ?_
          refine IH (i+1) _ _ _ (by omega) rfl ⟨by omega,oa,oc,?_⟩
          rw[eT]
          exact hp
        ·refine aM ?_;refine aH hp ?_
         obtain rfl:i=x.sg.length:=by omega
         clear IH
         subst uF
         have m0:(⟨ck,Q,sa,sc,A,aa,ac,O,oa,oc⟩:bf).n=zv x.n l:=by
          show(⟨ck,aU Q,A,O⟩:ao)={(G0 x.n l).1 with outs:=iW x.n (bO x.n l).2 x.sg.length}
          rw[oX,hO,heM,eyi,eya]
         have aS:=vd hf he
         have h:=fc (x:=⟨ck,Q,sa,sc,A,aa,ac,O,oa,oc⟩) (gX (hp.f1.f1.f4.f4.f4))
         have hp:Hp w0 _ [_,_,_,_,_,_]:=h
         refine cx Tryz.func31 (FW ⟨ck,Q,sa,sc,A,aa,ac,O,oa,oc⟩ _ hp.dR (by rw[m0];exact aS.S') (by rw[m0];exact aS.W)) ?_;rintro _ w ⟨y2,⟨El,rfl⟩,hq⟩;have hx:=hq.x;have hp:=hp.bJ hq;refine az ?_;refine aW hp ?_;intro w hp;refine az ?_;refine bh hp rfl ?_
         rw[m0,rm aS] at El
         rw[rF he hf Ec]
         exact⟨y2,⟨El,rfl⟩,hp.tk 1⟩
 ·have E8:fB x.n=false:=by unfold fB;exact bt hf
  refine bQ hp Tryz.func26 (iY x _ hp.mod hS hW) ?_;intro w hx hp
  rw[E8]
  refine aN ?_;refine aW hp ?_;intro w hp;refine az ?_;refine bh hp rfl ?_
  rw[yu hf]
  exact⟨zh,⟨rfl,rfl⟩,(oQ hp).tk 1⟩
end Go.Proofs
