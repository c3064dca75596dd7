/- Texts that belong together; each under its stated conditions. -/
import Derived.Test.YtiepmliokblkjaaGreatBrf
import Derived.Test.YtiepmliokblkjaaGreatWord
set_option linter.all false
section
namespace Go.Proofs
open Go.Xw
set_option maxRecDepth 100000
set_option maxHeartbeats 8000000
attribute [local irreducible] ax aE
theorem AS {x:bm}(hm:aV x.n)(hf:ch x.n){s:Nat}(hs:s<x.sg.length):(x.sg.getD s default).width=((wN x.n (s:Nat):Nat):Int)/\1<=wN x.n (s:Nat)/\wN x.n (s:Nat)<=4:=by
 have h1:=oL hm (s:=(s:Nat)) (by unfold dr;exact⟨by omega,by show(s:Int)<x.sg.length;omega⟩)
 have h2:=nY hm hf (s:=(s:Nat)) (by unfold dr;exact⟨by omega,by show(s:Int)<x.sg.length;omega⟩)
 rw[pt] at h1
 exact⟨h1.symm,h2⟩
theorem vq {z:Int}{w:Nat}(h:z=(w:Nat)):(1:Int)*2^z.toNat-1=2^w-1:=by rw[h,Int.toNat_natCast,Int.one_mul]
theorem AT {w:Nat}(h:w<=4){z:Int}(hz:z=(w:Nat)):1<=(2:Int)^z.toNat/\(2:Int)^z.toNat<=16/\z<=((IntKind.i64.bits:Nat):Int):=by
 refine⟨?_,?_,by show z<=64;omega⟩
 ·rw[hz,Int.toNat_natCast]
  have:=wD w
  omega
 ·rw[hz,Int.toNat_natCast]
  exact wq h
theorem FN {x:bm}(hm:aV x.n){j:Nat}(hj:j<x.ms.length):(0<=(x.ms.getD j default).addr/\(x.ms.getD j default).addr<x.sg.length)/\(0<=(x.ms.getD j default).data/\(x.ms.getD j default).data<x.sg.length)/\(0<=(x.ms.getD j default).write/\(x.ms.getD j default).write<x.sg.length)/\(0<=(x.ms.getD j default).out/\(x.ms.getD j default).out<x.sg.length):=by
 obtain⟨i1,i2,i3,i4,_⟩:=hm.ms j hj
 exact⟨i1,i2,i3,i4⟩
theorem D9 (x:bm)(hm:aV x.n)(w0:World)(hM:iJ w0 x):
  bN Tryz.prog 161 [x.v] w0 (fun v w=>∃b,v= .slice (some ⟨b,0,none⟩) x.sg.length x.sg.length/\Hp w0 w [rO 4 1 eB (some ⟨b,0,none⟩) x.sg.length (vp x.n x.ms.length)]):=by
 have l1:x.sg.length<=30:=hm.l1
 have l3:x.ms.length<=2:=hm.l3
 have u7:(m9 x.n).length=x.sg.length:=y7 x.n
 refine eu Tryz.QX ?_;intro C hp;skip;refine bP hp ?_;intro w b1 hx hp;refine az ?_;refine aI hp ?_
 refine mG hp eB false rfl rfl rfl rfl (s:=1) rfl (by decide) rfl (by unfold maxLen;omega) (by show 1*_<=_;omega) ?_;intro w b hx hp;refine az ?_
 have e1:List.replicate x.sg.length false=kh false (m9 x.n) 0:=by rw[vI,u7]
 rw[e1] at hp
 refine aR [1,3,4] (fun(i:Nat)=>[(1,.pointer (some ⟨b1,0,none⟩)),(3,.slice (some ⟨b,0,none⟩) x.sg.length x.sg.length),(4,.int .i64 (i:Int))])
  (fun i w'=>i<=x.sg.length/\Hp w0 w' [rO 4 1 eB (some ⟨b,0,none⟩) x.sg.length (kh false (m9 x.n) i),rB b1 41 x.cs]) (fun i=>x.sg.length-i) 0 rfl ⟨by omega,hp⟩ ?_
 clear hp
 rintro i w1 ⟨hi,hp⟩ IH C
 have iO:=xG false (m9 x.n) (i:=i) (by omega)
 refine bL ?_;refine aI hp ?_
 apply ae<;>intro bD
 ·have aF:i<x.sg.length:=by omega
  refine aN ?_;(repeat(first|(refine ah ?_;first|refine aI hp ?_|refine dg hp ?_)|(refine aH ?_;refine nO hp rfl rfl rfl (by omega) (by decide) rfl rfl ?_;intro w hp;refine az ?_)))
  rw[xH false (m9 x.n) (by omega) (x:=decide ((x.sg.getD i default).kind=3)) (by rw[y8 (n:=x.n) aF,bG];rfl)] at hp
  exact IH (i+1) _ _ _ (by omega) rfl ⟨by omega,hp⟩
 ·refine aM ?_
  obtain rfl:i=x.sg.length:=by omega
  clear IH
  have e2:kh false (m9 x.n) x.sg.length=vp x.n 0:=by rw[<-u7,xF];rfl
  rw[e2] at hp
  refine aR [1,3,5] (fun(j:Nat)=>[(1,.pointer (some ⟨b1,0,none⟩)),(3,.slice (some ⟨b,0,none⟩) x.sg.length x.sg.length),(5,.int .i64 (j:Int))])
   (fun j w'=>j<=x.ms.length/\Hp w0 w' [rO 4 1 eB (some ⟨b,0,none⟩) x.sg.length (vp x.n j),rB b1 41 x.cs]) (fun j=>x.ms.length-j) 0 rfl ⟨by omega,hp⟩ ?_
  clear hp
  rintro j w1 ⟨hj,hp⟩ IH C
  have sY:(vp x.n j).length=x.sg.length:=ur x.n j
  refine bL ?_;refine aI hp ?_
  apply ae<;>intro jK
  ·have fK:j<x.ms.length:=by omega
   have Xr:=FN hm fK
   refine aN ?_;(repeat(first|(refine ah ?_;first|refine aI hp ?_|refine dg hp ?_)|(refine aH ?_;refine ki hp rfl rfl rfl (by omega) (by decide) rfl rfl ?_;intro w hp;refine az ?_)))
   exact IH (j+1) _ _ _ (by omega) rfl ⟨by omega,hp⟩
  ·refine aM ?_;refine aq ?_
   obtain rfl:j=x.ms.length:=by omega
   exact⟨b,rfl,hp.tk 1⟩
theorem sn (x:bm)(hf:ch x.n)(hS:qL x.n)(hW:qM x.n)(v wl:List Int)(y9:OR x.n v wl)(va wa:Option Addr)(vc wc:Nat)(w0:World)(hM:iJ w0 x)(hv:Rd w0 va 1 eI v)(hwr:Rd w0 wa 1 eI wl):
  bN Tryz.prog 121 [x.v,.agg ⟨[.slice va v.length vc,.slice wa wl.length wc]⟩] w0 (fun r w=>r= .bool true/\Ext w0 w):=by
 have hm:=(dI hf).2
 have l1:x.sg.length<=30:=hm.l1
 have l3:x.ms.length<=2:=hm.l3
 have Xq:v.length=x.sg.length:=y9.val.len
 have Sa:wl.length=4*x.ms.length:=y9.B7
 have E9:fB x.n=true:=cR.2 hf
 refine eu Tryz.Qp ?_;intro C hp;skip;refine bP hp ?_;intro w b2 hx hp;refine az ?_;skip;refine bP hp ?_;intro w b3 hx hp;refine az ?_;refine aI hp ?_
 refine bQ hp Tryz.func26 (ja x _ hp.mod hS hW) ?_;intro w hx hp
 rw[E9]
 (repeat(first|(refine aG ?_;refine aO ?_)|(refine ah ?_;refine aI hp ?_)))
 refine iB (fun hg=>False.elim (by have hg:=of_decide_eq_true hg;omega)) (fun hg=> ?_);rw[hg];clear hg;(repeat(first|(refine aG ?_;refine aO ?_)|(refine ah ?_;refine aI hp ?_)))
 refine ae (fun hg=>False.elim (by omega)) (fun _=> ?_);refine aM ?_;refine aI hp ?_
 refine cy Tryz.func161 (D9 x hm _ hp.mod) ?_;rintro _ w ⟨bS,rfl,hq⟩;have hx:=hq.x;have hp:=hp.bJ hq;refine az ?_
 have sY:(vp x.n x.ms.length).length=x.sg.length:=ur x.n _
 refine aR [2,3,5,6] (fun(i:Nat)=>[(2,.pointer (some ⟨b2,0,none⟩)),(3,.pointer (some ⟨b3,0,none⟩)),(5,.slice (some ⟨bS,0,none⟩) x.sg.length x.sg.length),(6,.int .i64 (i:Int))])
  (fun i w'=>i<=x.sg.length/\Hp w0 w' [rO 4 1 eB (some ⟨bS,0,none⟩) x.sg.length (vp x.n x.ms.length),rB b3 111 [.slice va v.length vc,.slice wa wl.length wc],rB b2 41 x.cs]) (fun i=>x.sg.length-i) 0 rfl ⟨by omega,hp⟩ ?_
 clear hp
 rintro i w1 ⟨hi,hp⟩ IH C
 refine bL ?_;refine aI hp ?_
 apply ae<;>intro bD
 ·have aF:i<x.sg.length:=by omega
  obtain⟨e1,e2,e3⟩:=AS hm hf aF
  have Ww:=AT e3 e1
  have hr:=y9.val.Az i aF
  obtain⟨So,Hi⟩:=hr
  have jr:=D6 hm x.ms.length (Nat.le_refl _) i aF
  refine aN ?_;refine bb hp ?_
  cases hb:(vp x.n x.ms.length).getD i default with
  |true=>
   refine aN ?_;(repeat(refine ah ?_;first|refine aI hp ?_|refine bb hp ?_|refine dg hp ?_))
   rw[vq e1]
   refine bQ hp Tryz.func79 ((cE (v.getD i default) 0 (2^wN x.n (i:Nat)-1) _).yes (by omega)) ?_;intro w hx hp
   refine aM ?_
   exact IH (i+1) _ _ _ (by omega) rfl ⟨by omega,hp⟩
  |false=>
   rw[hb] at jr
   have hz:v.getD i default=0:=by
    rcases jr with h|⟨h1,h2⟩
    ·exact Bool.noConfusion h
    ·exact y9.v0 i aF h1 h2
   refine aM ?_;(repeat(refine ah ?_;first|refine aI hp ?_|refine bb hp ?_))
   refine bQ hp Tryz.func79 ((cE (v.getD i default) 0 0 _).yes (by omega)) ?_;intro w hx hp
   refine aM ?_
   exact IH (i+1) _ _ _ (by omega) rfl ⟨by omega,hp⟩
 ·refine aM ?_
  obtain rfl:i=x.sg.length:=by omega
  clear IH
  refine aR [2,3,8] (fun(i:Nat)=>[(2,.pointer (some ⟨b2,0,none⟩)),(3,.pointer (some ⟨b3,0,none⟩)),(8,.int .i64 (i:Int))])
   (fun i w'=>i<=wl.length/\Hp w0 w' [rB b3 111 [.slice va v.length vc,.slice wa wl.length wc],rB b2 41 x.cs]) (fun i=>wl.length-i) 0 rfl ⟨by omega,hp.drop⟩ ?_
  clear hp
  rintro i w1 ⟨hi,hp⟩ IH C
  refine bL ?_;refine aI hp ?_
  apply ae<;>intro jK
  ·have fK:i<wl.length:=by omega
   have hj:i/4<x.ms.length:=by omega
   have ej:(((i:Nat):Int)/4).toNat=i/4:=by omega
   have Xr:=FN hm hj
   rw[<-ej] at Xr
   have dC:(((i:Nat):Int)/4)<x.ms.length:=by omega
   obtain⟨_,_,d1,d2⟩:=yO hm hf hj
   have s7:=y9.OI (i/4) hj (i%4) (by omega)
   rw[show 4*(i/4)+i%4=i by omega] at s7
   obtain⟨So,Hi⟩:=s7
   obtain⟨e1,e2,e3⟩:=AS (s:=(x.ms.getD (i/4) default).data.toNat) hm hf (by rw[ej] at Xr;omega)
   have Tf:=e1
   rw[<-ej] at Tf
   have Ww:=AT e3 Tf
   have d2:wN x.n ((x.ms.getD (i/4) default).data.toNat:Nat)=wN x.n (fa x.n (i/4):Nat):=d2
   refine aN ?_
   refine j7 hp ?_;intro w hx hp;have hs:=hp;(repeat(refine ah ?_;first|refine dN ?_|refine fc ?_|refine iC rfl (by omega) (by omega) rfl rfl rfl ?_))
   refine gq ?_
   rw[ej,vq e1]
   refine oW Tryz.func79 ((cE (wl.getD i default) 0 (2^wN x.n ((x.ms.getD (i/4) default).data.toNat:Nat)-1) _).yes (by rw[d2];omega)) ?_;rintro _ w ⟨rfl,hx⟩;have hp:=hp.ext hx;have hs:=hs.ext hx;refine⟨fun _=>hs,?_⟩;refine fO ?_
   skip
   refine aM ?_
   exact IH (i+1) _ _ _ (by omega) rfl ⟨by omega,hp⟩
  ·refine aM ?_;refine aq ?_
   exact⟨rfl,hp.x⟩
theorem D' (x:bm)(hf:ch x.n)(hS:qL x.n)(hW:qM x.n)(w0:World)(hM:iJ w0 x):
  bN Tryz.prog 64 [x.v] w0 (fun r w=>∃va vc wa wc,r= .agg ⟨[.slice va (jj x.n).length vc,.slice wa (mZ x.n).length wc]⟩/\Hp w0 w [rO 3 1 eI va vc (jj x.n),rO 3 1 eI wa wc (mZ x.n)]):=by
 have hm:=(dI hf).2
 have l1:x.sg.length<=30:=hm.l1
 have l3:x.ms.length<=2:=hm.l3
 have sY:(jj x.n).length=x.sg.length:=by simp[jj];rfl
 have Sa:(mZ x.n).length=4*x.ms.length:=by simp[mZ];rfl
 have E9:fB x.n=true:=cR.2 hf
 refine eu Tryz.Vg ?_;intro C hp;skip;refine bP hp ?_;intro w b1 hx hp;refine az ?_;skip;refine bP hp ?_;intro w b2 hx hp;refine az ?_;refine aI hp ?_
 refine bQ hp Tryz.func26 (ja x _ hp.mod hS hW) ?_;intro w hx hp
 rw[E9]
 refine aM ?_
 have h4:((nat_lit 4:Nat):Int)*((x.ms.length:Nat):Int)=4*(x.ms.length:Int):=rfl
 refine fR hp ?_;refine fy ?_
 refine Bs eI (0:Int) rfl rfl rfl rfl (s:=1) rfl (by decide) (by infer_instance) rfl (by unfold maxLen;omega) (by show 8*_<=_;omega) ?_;intro bv;refine cX ?_;refine fy ?_
 refine Bs eI (0:Int) rfl rfl rfl rfl (s:=1) rfl (by decide) (by infer_instance) rfl (by unfold maxLen;omega) (by show 8*_<=_;omega) ?_;intro bw;refine cX ?_
 (first|refine oq ?_|refine iS rfl ?_);intro b3;refine cX ?_;refine eO rfl rfl rfl rfl (by kernel_rfl) ?_;refine cX ?_
 refine dc ?_;intro w hp C;refine bL ?_
 have ez:(4*(x.ms.length:Int)).toNat=4*x.ms.length:=by omega
 have e1:List.replicate x.sg.length (0:Int)=kh 0 (jj x.n) 0:=by rw[vI,sY]
 rw[e1] at hp
 refine aR [1,2,3,4] (fun(i:Nat)=>[(1,.pointer (some ⟨b1,0,none⟩)),(2,.pointer (some ⟨b2,0,none⟩)),(3,.pointer (some ⟨b3,0,none⟩)),(4,.int .i64 (i:Int))])
  (fun i w'=>i<=x.sg.length/\Hp w0 w' [rO 3 1 eI (some ⟨bv,0,none⟩) x.sg.length (kh 0 (jj x.n) i),rO 3 1 eI (some ⟨bw,0,none⟩) (4*x.ms.length) (mZ x.n),rB b3 111 [.slice (some ⟨bv,0,none⟩) x.sg.length x.sg.length,.slice (some ⟨bw,0,none⟩) (4*x.ms.length) (4*x.ms.length)],rB b2 111 (aL Tryz.Ak.zero),rB b1 41 x.cs]) (fun i=>x.sg.length-i) 0 rfl ⟨by omega,hp.f1.f2⟩ ?_
 clear hp
 rintro i w1 ⟨hi,hp⟩ IH C
 have iO:=xG (0:Int) (jj x.n) (i:=i) (by omega)
 refine bL ?_;refine aI hp ?_
 apply ae<;>intro bD
 ·have aF:i<x.sg.length:=by omega
  obtain⟨e1,e2,e3⟩:=AS hm hf aF
  have Ww:=AT e3 e1
  refine aN ?_
  refine j7 hp ?_;intro w hx hp;have hs:=hp;(repeat(first|(refine ah ?_;first|refine dN ?_|refine lH rfl (by omega) rfl rfl rfl ?_)|(refine aH ?_;refine Bq hp rfl rfl rfl (by omega) (by decide) rfl rfl (by kernel_rfl) ?_;intro w hp;refine fO ?_)))
  have ev:bits .and .i64 (x.sg.getD i default).init (1*2^(x.sg.getD i default).width.toNat-1)=(jj x.n).getD i default:=by
   rw[vq e1,ew _ _ (by omega),mY (n:=x.n) aF]
   unfold iy
   rw[Int.toNat_natCast];rfl
  rw[ev,xH (0:Int) (jj x.n) (by omega) (by rw[List.getD_eq_getElem?_getD,List.getElem?_eq_getElem (by omega)];rfl)] at hp
  skip
  exact IH (i+1) _ _ _ (by omega) rfl ⟨by omega,hp⟩
 ·refine aM ?_;(repeat(first|(refine ah ?_;refine aI hp ?_)|(refine aH ?_;refine aW hp ?_;intro w hp;refine az ?_)|(refine dA ?_;refine iD hp rfl ?_)))
  obtain rfl:i=x.sg.length:=by omega
  rw[<-sY,xF] at hp
  rw[<-sY,<-Sa]
  exact⟨_,_,_,_,rfl,by rw[Sa];exact hp.tk 2⟩
end Go.Proofs
end
section
namespace Go.Xw
theorem Hp.Sq {w0 w w':World}{L F:List bh}{R1 R2 R3:bh}(h:Hp w0 w (L++F))(hc:Hp w w' [R1,R2,R3]):Hp w0 w' ((R1::R2::R3::L)++F):=h.NT hc
end Go.Xw
namespace Go.Proofs
open Go.Xw
set_option maxRecDepth 100000
set_option maxHeartbeats 8000000
attribute [local irreducible] ax aE
theorem OS {n:aQ}(hm:aV n)(hf:ch n){v:List Int}(h:qP n v):∀i,i<v.length->0<=v.getD i default/\v.getD i default<=15:=fun i hi=>by
 rw[h.len] at hi
 have h1:=h.Az i hi
 have h2:=wq (nY hm hf (s:=(i:Nat)) (by unfold dr;omega)).2
 have:=h1.2
 exact⟨h1.1,by omega⟩
theorem za (x:bm)(hf:ch x.n){l:List Nat}(he:gQ x.n=some l)(hS:qL x.n)(hW:qM x.n)(v wl:List Int)(y9:OR x.n v wl)(va wa:Option Addr)(vc wc:Nat)(ins:List Int)(ia:Option Addr)(ic:Nat)(pW:ins.length=(ee x.n 0).length)(w0:World)(hM:iJ w0 x)(hv:Rd w0 va 1 eI v)(hwr:Rd w0 wa 1 eI wl)(hI:Rd w0 ia 1 eI ins):
  bN Tryz.prog 122 [x.v,.agg ⟨[.slice va v.length vc,.slice wa wl.length wc]⟩,.slice ia ins.length ic] w0 (fun r w=>∃b c,r= .slice b (B5 x.n l v ins).length c/\Hp w0 w [rO 3 1 eI b c (B5 x.n l v ins)]):=by
 have hm:=(dI hf).2
 have l1:x.sg.length<=30:=hm.l1
 have Xq:v.length=x.sg.length:=y9.val.len
 have sE:=po x.n.sg 0
 have sE:(ee x.n 0).length<=x.sg.length:=sE
 have qb:=iW he
 have jg:=qb.2.1
 have hl:∀i,i∈l->i<x.n.aP.length:=fun i hi=>(jg i hi).1
 have OT:l.length<=30:=by have h:=qb.2.2;have h2:=hm.l2;omega
 have Fw:=kQ l
 refine eu Tryz.Qq ?_;intro C hp;skip;refine bP hp ?_;intro w b3 hx hp;refine az ?_;skip;refine bP hp ?_;intro w b4 hx hp;refine az ?_;(repeat(refine aI hp ?_))
 refine bQ hp Tryz.func121 (sn x hf hS hW v wl y9 va wa vc wc _ hp.mod hp.rd hp.rd) ?_;intro w hx hp;(repeat(first|(refine aG ?_;refine aO ?_)|(refine ah ?_;refine aI hp ?_)))
 refine cy Tryz.func28 (dJ x 0 _ hp.mod l1) ?_;rintro _ w ⟨bp,cp,rfl,hq⟩;have hx:=hq.x;have hp:=hp.bJ hq;refine az ?_;(repeat(refine aO ?_))
 refine ae (fun hg=>False.elim (by omega)) (fun _=> ?_);refine aM ?_;(repeat(first|(refine ah ?_;refine aI hp ?_)|(refine bK ?_;refine gG hp ?_;intro w _ hx hp;refine az ?_)))
 refine gT hp ?_;intro a7 c7 w hp bZ;refine az ?_
 rw[List.nil_append] at hp
 refine aR [2,3,7,8,9] (fun(i:Nat)=>[(2,.slice ia ins.length ic),(3,.pointer (some ⟨b3,0,none⟩)),(7,.slice a7 v.length c7),(8,.int .i64 (((AG x.n v ins i).2:Nat):Int)),(9,.int .i64 (i:Int))])
  (fun i w'=>i<=x.sg.length/\Hp w0 w' [rO 3 1 eI a7 c7 (AG x.n v ins i).1,rB b3 41 x.cs]) (fun i=>x.sg.length-i) 0 rfl ⟨by omega,?_⟩ ?_
 ·exact(hp.f3.f1).tk 2
 clear hp
 rintro i w1 ⟨hi,hp⟩ IH C
 obtain⟨g1,g2,g3⟩:=B4 (ins:=ins) y9.val.len i hi
 have g1:(AG x.n v ins i).1.length=x.sg.length:=g1
 obtain⟨st,jr⟩:∃st,st=AG x.n v ins i:=⟨_,rfl⟩
 rw[<-jr] at g1 g2 hp⊢
 refine bL ?_;refine aI hp ?_
 apply ae<;>intro bD
 ·have aF:i<x.sg.length:=by omega
  obtain⟨e1,e2,e3⟩:=AS hm hf aF
  have Ww:=AT e3 e1
  have fD:a7≠none:=bW hp (X:=st.1) (by omega)
  refine aN ?_;(repeat(refine ah ?_;first|refine aI hp ?_|refine dg hp ?_))
  apply ae<;>intro hk
  ·have zb:aY x.n (i:Nat)=0:=by rw[bG];exact hk
   have hpa:=(OH 0 (n:=x.n) aF zb).1
   have eN:AG x.n v ins (i+1)=(st.1.set i (ins.getD st.2 default%2^wN x.n (i:Nat)),st.2+1):=by rw[AG,if_pos zb,<-jr]
   refine aN ?_
   refine j7 hp ?_;intro w hx hp;have hs:=hp;(repeat(first|(refine ah ?_;first|refine dN ?_|refine fc ?_|refine lH rfl (by omega) rfl rfl rfl ?_)|(refine aH ?_;refine Bq hp rfl rfl rfl (by omega) (by decide) rfl rfl (by kernel_rfl) ?_;intro w hp;refine fO ?_)))
   skip
   have ev:bits .and .i64 (ins.getD st.2 default) (1*2^(x.sg.getD i default).width.toNat-1)=ins.getD st.2 default%2^wN x.n (i:Nat):=by
    rw[vq e1,ew _ _ (by omega)]
   rw[ev] at hp
   refine IH (i+1) _ _ _ (by omega) (by rw[eN];rfl) ⟨by omega,?_⟩
   rw[eN]
   exact hp
  ·have eN:AG x.n v ins (i+1)=st:=by rw[AG,if_neg (by rw[bG];exact hk),jr]
   refine aM ?_
   refine IH (i+1) _ _ _ (by omega) (by rw[eN];rfl) ⟨by omega,?_⟩
   rw[eN]
   exact hp
 ·refine aM ?_;refine aI hp ?_
  obtain rfl:i=x.sg.length:=by omega
  clear IH
  subst jr
  have wL:=wU y9.val ins
  obtain⟨v',Ua⟩:∃v',v'=(AG x.n v ins x.n.sg.length).1:=⟨_,rfl⟩
  have hp:Hp w0 w1 [rO 3 1 eI a7 c7 v',rB b3 41 x.cs]:=by rw[Ua];exact hp
  rw[<-Ua] at wL
  refine cy Tryz.func29 (lM x _ hp.mod hS hW) ?_;rintro _ w ⟨be,ce,rfl,hq⟩;have hx:=hq.x;have hp:=hp.bJ hq;refine az ?_
  rw[mV he] at hp⊢
  refine aR [3,7,10,12] (fun(i:Nat)=>[(3,.pointer (some ⟨b3,0,none⟩)),(7,.slice a7 v.length c7),(10,.slice be l.length ce),(12,.int .i64 (i:Int))])
   (fun i w'=>i<=l.length/\Hp w0 w' [rO 3 1 eI a7 c7 (rX x.n l v' i),rO 3 1 eI be ce (cJ l),rB b3 41 x.cs]) (fun i=>l.length-i) 0 rfl ⟨by omega,hp.f1⟩ ?_
  clear hp
  rintro i w1 ⟨hi,hp⟩ IH C
  have hoV:=qQ hm hf hl wL i hi
  have jL:(rX x.n l v' i).length=v.length:=by rw[hoV.len,y9.val.len]
  have IJ:=OS hm hf hoV
  obtain⟨vi,Wx⟩:∃vi,vi=rX x.n l v' i:=⟨_,rfl⟩
  rw[<-Wx] at jL IJ hp
  refine bL ?_
  apply ae<;>intro jK
  ·have aF:i<l.length:=by omega
   obtain⟨q,hq⟩:∃q,q=l.getD i 0:=⟨_,rfl⟩
   have Tg:(cJ l).getD i default=((q:Nat):Int):=by rw[hq];exact mu l i
   have KJ:q<x.aP.length:=by
    have h:=(jg q (by rw[hq,List.getD_eq_getElem?_getD,List.getElem?_eq_getElem aF];exact List.getElem_mem _)).1
    rw[x.cC] at h;exact h
   obtain⟨qR,yB,rY,KK⟩:=gg hm hf (i:=q) (by rw[x.cC];exact KJ)
   have wE:dT x.n q=(x.aP.getD q default).tg:=x.Le q
   have AN:opsL x.n q=(x.aP.getD q default).ops:=x.mR q
   have pH:=rY
   rw[wE] at pH
   unfold dr at pH
   change 0<=(x.aP.getD q default).tg/\(x.aP.getD q default).tg<x.sg.length at pH
   obtain⟨t,ht⟩:=Int.eq_ofNat_of_zero_le pH.1
   have Ea:(x.aP.getD q default).tg.toNat=t:=by omega
   obtain⟨e1,e2,e3⟩:=AS hm hf (s:=t) (by omega)
   have Tf:(x.sg.getD (x.aP.getD q default).tg.toNat default).width=((wN x.n (t:Nat):Nat):Int):=by rw[Ea];exact e1
   have Ww:=AT e3 Tf
   have IN:wN x.n (dT x.n q)=wN x.n (t:Nat):=by rw[wE,ht]
   have la:Lf q x.aP:=⟨KJ⟩
   have fD:a7≠none:=bW hp (X:=vi) (by omega)
   have nR:=kL qR yB
   have Cf:(cU x.n q).ok vi.length:=by
    have h:=nR.2
    rw[show((vi.length:Nat):Int)=(x.n.sg.length:Int) by rw[jL];exact congrArg _ Xq];exact h
   have eT:rX x.n l v' (i+1)=vi.set t (lr vi (wN x.n (t:Nat)) (cU x.n q)):=by
    rw[rX,<-hq,<-Wx,IN,wE,Ea]
   refine aN ?_
   refine j7 hp ?_;intro w hx hp;have hs:=hp;(repeat(refine ah ?_;first|refine dN ?_|refine fc ?_|refine jb rfl (by omega) (by omega) rfl rfl rfl ?_))
   rw[Tg,Int.toNat_natCast]
   (first|(refine Jl (fun _ hx=>hs.ext hx) hp ?_;intro w zO hx hp)|(refine Bm (fun _ hx=>hs.ext hx) hp rfl ?_;intro w zO hx hp));have hs:=hs.ext hx;refine fO ?_;refine uT hp rfl rfl rfl rfl (by kernel_rfl) ?_;intro w hp;refine fO ?_
   refine j7 hp ?_;intro w hx hp;have hs:=hp;(repeat(refine ah ?_;first|refine dN ?_|refine iC rfl (by omega) (by omega) rfl rfl rfl ?_))
   refine gq ?_
   rw[Ea,vq e1]
   have jd:=fun w h1 h2=>jY (x.aP.getD q default).ops (x.aP.getD q default).oa (x.aP.getD q default).oc vi a7 c7 (wN x.n (t:Nat)) ⟨e2,e3⟩ (by rw[<-AN];exact qR.len) IJ (cU x.n q) [] [] (by rw[List.nil_append,List.append_nil,<-AN];exact nR.1) Cf w h1 h2
   rw[jL] at jd
   refine oW Tryz.func123 (jd _ hp.rd hp.rd) ?_;rintro _ w ⟨rfl,hx⟩;have hp:=hp.ext hx;have hs:=hs.ext hx;refine⟨fun _=>hs,?_⟩;refine fO ?_
   (repeat(first|(refine ah ?_;refine aI hp ?_)|(refine aH ?_;refine ki hp rfl rfl rfl (by omega) (by decide) rfl rfl ?_;intro w hp;refine az ?_)))
   rw[Ea] at hp
   refine IH (i+1) _ _ _ (by omega) rfl ⟨by omega,?_⟩
   rw[eT]
   exact hp.drop
  ·refine aM ?_;refine aq ?_
   obtain rfl:i=l.length:=by omega
   have e:B5 x.n l v ins=vi:=by rw[Wx,Ua];rfl
   rw[e]
   rw[<-jL]
   exact⟨a7,c7,rfl,hp.tk 1⟩
end Go.Proofs
end
