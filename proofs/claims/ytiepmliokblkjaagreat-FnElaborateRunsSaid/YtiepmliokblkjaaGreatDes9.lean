/- Drawn designs and drawn flat modules; under its stated conditions. -/
import Derived.Test.YtiepmliokblkjaaGreatBrf
import Derived.Test.YtiepmliokblkjaaGreatDes8
set_option linter.all false
namespace Go.Xw
theorem NC {D:List bm}(h:∀x,x∈D->pV x 1000 1000 2 1):Ed D:=fun k hk i hi=>by
 have q:=(h _ (aK hk)).ops _ (aK hi)
 exact⟨by omega,fun j hj=>q.2 _ (aK hj)⟩
instance qW.own {w0:World}{L:List bh}{D:ku}:qW w0 (rO 41 4 bm.cs D.a D.c D.ms::so D.ms::L) D:=⟨fun _ hp=>KN (zn (D:=D) hp).g0⟩
theorem Iz {w0 w:World}{L:List bh}{R:List bm}{y:bm}(h:Hp w0 w (mS y::so R::L)):Hp w0 w (so (R++[y])::L):=by
 have h1:Hp w0 w (R.map mS++(mS y::L)):=h.f1.unpack
 refine Hp.pack (Hp.perm h1 ?_)
 simp only[List.map_append,List.map_cons,List.map_nil,List.append_assoc]
 exact .refl _
theorem IA {w0 w:World}{L:List bh}(h:Hp w0 w L):Hp w0 w (so []::L):=Hp.pack (Rs:=[]) h
end Go.Xw
namespace Go.Proofs
open Go.Xw
set_option maxRecDepth 100000
set_option maxHeartbeats 4000000
attribute [local irreducible] ax aE
theorem Et {w0 w:World}{L F:List bh}{p:Nat}{a:Option Addr}{n c:Nat}{code:List Int}(hR:Rd w0 a 1 xt code)(hn:code.length=n)(D:ku)(hD:D.ms.length<=2)[hX:qW w0 L D](hp:Hp w0 w ((fv p a n c::L)++F)):
  bN Tryz.prog 160 [.pointer (some ⟨p,0,none⟩),D.v] w (fun v w'=>∃x:bm,(v=x.v/\pV x 1000 1000 2 1)/\Hp w0 w' ((mS x::fv p a n c::L)++F)):=by
 have:qW w0 (L++F) D:=⟨fun w hp=>hX.h w hp.pre⟩
 exact Es (L:=L++F) hR hn D hD hp
theorem K0 {w0 w:World}{L F:List bh}{p:Nat}{a:Option Addr}{n c:Nat}{code:List Int}(hR:Rd w0 a 1 xt code)(hn:code.length=n)(x:bm)(hl:x.sg.length<=30)(m:Nat)(hm:m<=16)[hX:nV w0 L x](hp:Hp w0 w ((fv p a n c::L)++F)):
  bN Tryz.prog 61 [.pointer (some ⟨p,0,none⟩),x.v,.int .i64 ((m:Nat):Int)] w (fun v w'=>∃(R:List (cL Int)) (b:Option Addr) (c':Nat),(v= .slice b R.length c'/\R.length=m/\∀i,i<R.length->(R.getD i default).ins.length=(ee x.n 0).length)/\Hp w0 w' ((rO 31 1 jl b c' R::cD 3 1 eI R::fv p a n c::L)++F)):=by
 have:nV w0 (L++F) x:=⟨fun w hp=>hX.h w hp.pre⟩
 exact KX (L:=L++F) hR hn x hl m hm hp
theorem Eu {w0 w:World}{L:List bh}{p:Nat}{a:Option Addr}{n c:Nat}{code:List Int}(hR:Rd w0 a 1 xt code)(hn:code.length=n)(hp:Hp w0 w (fv p a n c::L)):
  bN Tryz.prog 118 [.pointer (some ⟨p,0,none⟩)] w (fun v w'=>∃D:ku,(v=D.v/\Ed D.ms)/\Hp w0 w' (KM D::fv p a n c::L)):=by
 refine vJ Tryz.Qn ?_;intro C
 refine bP hp ?_;intro w b2 hx hp;refine az ?_
 refine bP hp ?_;intro w b3 hx hp;refine az ?_;refine aW hp ?_;intro w hp;refine az ?_
 refine cy Tryz.func62 (cg hR hn hp.f2 2) ?_
 rintro _ w ⟨z1,⟨rfl,_,ED⟩,hp⟩
 have ED:=ED (by decide)
 refine az ?_
 refine cy Tryz.func62 (cg hR hn hp 2) ?_
 rintro _ w ⟨z2,⟨rfl,_,Ch⟩,hp⟩
 have Ch:=Ch (by decide)
 have hz:0<=z1*(1+z2)/\z1*(1+z2)<=2:=by
  rcases(show z1=0\/z1=1 by omega) with rfl|rfl<;>omega
 refine az ?_
 obtain⟨nn,Om⟩:∃nn:Nat,1+z1*(1+z2)=(nn:Int):=⟨(1+z1*(1+z2)).toNat,by omega⟩
 refine aR [0,2,3,4,5] (fun(k:Nat)=>[(0,.pointer (some ⟨p,0,none⟩)),(2,.pointer (some ⟨b2,0,none⟩)),(3,.pointer (some ⟨b3,0,none⟩)),(4,.int .i64 (nn:Int)),(5,.int .i64 (k:Int))])
  (fun k w'=>k<=nn/\∃D:ku,(D.ms.length=k/\∀x,x∈D.ms->pV x 1000 1000 2 1)/\Hp w0 w' (fv p a n c::rB b3 136 [.slice D.a D.ms.length D.c]::rB b2 136 (aL Tryz.Jr.zero)::rO 41 4 bm.cs D.a D.c D.ms::so D.ms::L)) (fun k=>nn-k) 0 (by rw[Om];rfl) ⟨by omega,⟨[],none,0⟩,⟨rfl,fun x hx=>absurd hx List.not_mem_nil⟩,?_⟩ ?_
 ·have h2:Hp w0 w (rO 41 4 bm.cs none 0 []::so []::_):=(IA hp).eH (Ext.refl _) (dk.nil _ _ _ _ _)
  exact h2.f1.f1.f4.f4.f4
 clear hp
 rintro k w1 ⟨hk,D,⟨hDl,hD⟩,hp⟩ IH C
 refine bL ?_
 apply ae<;>intro bD
 ·have aF:k<nn:=by omega
  refine aN ?_
  refine fR hp ?_;(repeat(refine fy ?_))
  refine j8 Tryz.func160 (fun F w hp=> ?_);refine bN.mono (Et hR hn D (by omega) hp) ?_;rintro _ w ⟨x,⟨rfl,hx⟩,hp⟩;refine⟨fun _=>hp.pre.drop,_,hp,?_⟩;clear hp;refine cX ?_
  refine pO bm.cs [x] rfl rfl rfl rfl (s:=4) rfl (by decide) (by infer_instance) (by rfl) (by rfl) (by rfl) (by decide) ?_;intro bl;refine cX ?_
  refine fZ rfl rfl rfl rfl rfl rfl rfl (by decide) rfl (zl) rfl rfl (fun hq=>Bool.noConfusion (hq.symm.trans (by kernel_rfl:bH _ _=false))) ?_;intro a2 c2 bZ;refine cX ?_;refine Aj rfl rfl rfl rfl (by kernel_rfl) ?_;refine cX ?_
  refine dc ?_;intro w hp C;refine bL ?_
  have h:=(Iz (hp.drop.f4.f4.f4.f4.f5.f5)).f4.f4.f4.f4
  refine IH (k+1) _ _ _ (by omega) rfl ⟨by omega,⟨D.ms++[x],a2,c2⟩,⟨by rw[List.length_append,hDl];rfl,fun y hy=> ?_⟩,h⟩
  rcases fY hy with hy|rfl
  ·exact hD y hy
  ·exact hx
 ·refine aM ?_;(repeat(first|(refine ah ?_;refine aI hp ?_)|(refine aH ?_;refine aW hp ?_;intro w hp;refine az ?_)|(refine dA ?_;refine iD hp rfl ?_)))
  exact⟨D,⟨rfl,NC hD⟩,(zn (hp.f2.f2.f2.f4.f4)).f2.drop.f2.drop⟩
theorem IB {w0 w:World}{L:List bh}{p:Nat}{a:Option Addr}{n c:Nat}{code:List Int}(hR:Rd w0 a 1 xt code)(hn:code.length=n)(hp:Hp w0 w (fv p a n c::L)):
  bN Tryz.prog 60 [.pointer (some ⟨p,0,none⟩)] w (fun v w'=>∃y:bm,(v=y.v/\Ek y)/\Hp w0 w' (mS y::fv p a n c::L)):=by
 refine vJ Tryz.Vc ?_;intro C
 refine bP hp ?_;intro w b2 hx hp;refine az ?_
 refine aR [0,2,3] (fun(k:Nat)=>[(0,.pointer (some ⟨p,0,none⟩)),(2,.pointer (some ⟨b2,0,none⟩)),(3,.int .i64 (k:Int))])
  (fun k w'=>k<=5/\Hp w0 w' (fv p a n c::rB b2 41 (aL Tryz.np.zero)::L)) (fun k=>5-k) 0 rfl ⟨by omega,hp.f1⟩ ?_
 clear hp
 rintro k w1 ⟨hk,hp⟩ IH C
 refine bL ?_
 apply ae<;>intro bD
 ·have aF:k<5:=by omega
  refine aN ?_
  refine cy Tryz.func118 (Eu hR hn hp) ?_;rintro _ w ⟨D,⟨rfl,hO⟩,hp⟩;refine az ?_
  refine cy Tryz.func62 (cg hR hn hp.f1 2) ?_;rintro _ w ⟨z,⟨rfl,_,hz⟩,hp⟩;refine az ?_
  have hz:=hz (by decide)
  refine cy Tryz.func117 (A1 D hO (1+z) (by omega) hp) ?_;rintro _ w ⟨y,b,rfl,hy,hp⟩;refine az ?_
  refine bP hp ?_;intro w b4 hx hp;refine az ?_;refine aW hp ?_;intro w hp;refine az ?_
  cases b
  ·refine aM ?_
   exact IH (k+1) _ _ _ (by omega) rfl ⟨by omega,(hp.drop.drop).f1.drop⟩
  ·refine aN ?_;(repeat(first|(refine ah ?_;refine aI hp ?_)|(refine aH ?_;refine aW hp ?_;intro w hp;refine az ?_)|(refine dA ?_;refine iD hp rfl ?_)))
   exact⟨y,⟨rfl,hy⟩,((hp.drop).f2.drop).f2.drop⟩
 ·refine aM ?_
  refine cy Tryz.func119 (zo _) ?_;rintro _ w ⟨D,rfl,hO,hq⟩;have hx:=hq.x;have hp:=hp.bJ hq;refine az ?_
  refine cy Tryz.func117 (A1 D hO 2 (by decide) hp) ?_;rintro _ w ⟨y,b,rfl,hy,hp⟩;refine az ?_
  refine bP hp ?_;intro w b6 hx hp;refine az ?_;(repeat(first|(refine ah ?_;refine aI hp ?_)|(refine aH ?_;refine aW hp ?_;intro w hp;refine az ?_)|(refine dA ?_;refine iD hp rfl ?_)))
  exact⟨y,⟨rfl,hy⟩,((hp.drop.f1.drop).f2.drop)⟩
theorem FY (a:Option Addr)(c:Nat)(code:List Int)(w0:World)(hR:Rd w0 a 1 xt code)(hB:SE code)(hl:code.length<=1048576):
  bN Tryz.prog 15 [.slice a code.length c] w0 (fun v w=>∃(x:bm) (R:List (cL Int)) (b:Option Addr) (c':Nat),(v= .tuple ⟨[x.v,.slice b R.length c']⟩/\Ek x/\(1<=R.length/\R.length<=8)/\∀i,i<R.length->(R.getD i default).ins.length=(ee x.n 0).length)/\Hp w0 w [rO 31 1 jl b c' R,cD 3 1 eI R,mS x]):=by
 refine eu Tryz.US ?_;intro C hp
 refine bP hp ?_;intro w b2 hx hp;refine az ?_
 refine cy Tryz.func59 (KV a c code _ hp.rd hB hl) ?_;rintro _ w ⟨p,rfl,hq⟩;have hx:=hq.x;have hp:=hp.bJ hq;refine az ?_
 refine cy Tryz.func60 (IB hR rfl hp) ?_;rintro _ w ⟨x,⟨rfl,To⟩,hp⟩;refine az ?_
 refine bP hp ?_;intro w b5 hx hp;refine az ?_;refine aW hp ?_;intro w hp;refine az ?_
 refine fR hp ?_;(repeat(refine fy ?_))
 refine HQ ?_;refine HQ ?_;refine Pz ?_
 refine j8 Tryz.func62 (fun F w hp=> ?_);refine bN.mono (gk hR rfl hp 8) ?_;rintro _ w ⟨z,⟨rfl,_,hz⟩,hp⟩;refine⟨fun _=>hp.pre.b2,_,hp,?_⟩;clear hp;refine cX ?_
 have hz:=hz (by decide)
 obtain⟨m,hm⟩:∃m:Nat,1+z=(m:Int):=⟨(1+z).toNat,by omega⟩
 rw[hm]
 refine j8 Tryz.func61 (fun F w hp=> ?_);refine bN.mono (K0 hR rfl x To.l1 m (by omega) hp) ?_;rintro _ w ⟨R,b,c',⟨rfl,fF,fP⟩,hp⟩;refine⟨fun _=>hp.pre.drop.drop.b2,_,hp,?_⟩;clear hp;refine cX ?_;refine eO rfl rfl rfl rfl (by kernel_rfl) ?_;refine cX ?_
 refine dc ?_;intro w hp C;refine bL ?_;refine bg hp rfl ?_
 have hp:Hp w0 w [_,_,_]:=(hp.f4.f2.f2).tk 3
 exact⟨x,R,b,c',⟨rfl,To,by omega,fP⟩,hp⟩
end Go.Proofs
