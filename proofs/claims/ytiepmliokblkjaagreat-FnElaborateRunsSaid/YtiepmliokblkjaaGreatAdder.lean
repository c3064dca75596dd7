/- Texts that belong together; each under its stated conditions. -/
import Derived.Test.YtiepmliokblkjaaGreatBrf
import Derived.Test.YtiepmliokblkjaaGreatAxS
import Derived.Test.YtiepmliokblkjaaGreatExprSim
import Derived.Test.YtiepmliokblkjaaGreatModR
set_option linter.all false
section
namespace Go.Xw
theorem Hp.FJ {w0 w w':World}{L F:List bh}{R1 R2:bh}(h:Hp w0 w (L++F))(hc:Hp w w' [R1,R2]):Hp w0 w' ((R1::R2::L)++F):=h.call2 hc
end Go.Xw
namespace Go.Proofs
open Go.Xw
set_option maxRecDepth 100000
set_option maxHeartbeats 2000000
attribute [local irreducible] ax aE
theorem um (b:Bool)(w0:World):bN Tryz.prog 162 [.bool b] w0 (fun v w=>v= .int .i64 (if b then 1 else 0)/\Ext w0 w):=by
 refine eu Tryz.QY ?_;intro C hp
 cases b
 ·refine aM ?_;refine aq ?_
  exact⟨rfl,hp.x⟩
 ·refine aN ?_;refine aq ?_
  exact⟨rfl,hp.x⟩
theorem KB (x:bf)(kind:Int)(qe:5<=kind/\kind<=11)(aA bA:Option Addr)(cA cB wd:Nat)(hw:1<=wd/\wd<=4)(a b:List Int)(IT:a.length=wd)(Td:b.length=wd)(w0:World)(hX:fG w0 x)(aS:aj x.n)(hA:Rd w0 aA 1 eI a)(hB:Rd w0 bA 1 eI b)(ha:∀z,z∈a->lK x.n z)(hb:∀z,z∈b->lK x.n z):
  bN Tryz.prog 143 [x.v,.int .i64 kind,.slice aA wd cA,.slice bA wd cB] w0 (fun v w=>∃y b' c',(y.n=(gO bY wd kind x.n a b).1/\v= .tuple ⟨[y.v,.slice b' wd c']⟩)/\Hp w0 w [dv y,rO 3 1 eI b' c' (gO bY wd kind x.n a b).2]):=by
 have hkc:kind=5\/kind=6\/kind=7\/kind=8\/kind=9\/kind=10\/kind=11:=by omega
 refine eu Tryz.QI ?_;intro C hp;skip;refine bP hp ?_;intro w b4 hx hp;refine az ?_;skip;refine bP hp ?_;intro w b8 hx hp;refine az ?_
 rcases hkc with rfl|rfl|rfl|rfl|rfl|rfl|rfl
 ·have hZ:gO bY wd 5 x.n a b=bC bY.and x.n a b wd:=by unfold gO;rw[if_neg (by decide),if_neg (by decide),if_neg (by decide),if_neg (by decide),if_pos rfl,IT]
  refine aM ?_
  refine aM ?_;(repeat(first|(refine aG ?_;refine aO ?_)|(refine bK ?_;refine gG hp ?_;intro w _ hx hp;refine az ?_)))
  refine aM ?_
  refine kg [1,2,3,4,8,10,15] (fun(k:Nat) (_:bf) (_:List bh) (o:Option Addr) (oc:Nat) (_:Unit)=>[(1,.int .i64 5),(2,.slice aA wd cA),(3,.slice bA wd cB),(4,.pointer (some ⟨b4,0,none⟩)),(8,.pointer (some ⟨b8,0,none⟩)),(10,.slice o (bC bY.and x.n a b k).2.length oc),(15,.int .i64 (k:Int))])
   (fun k y N o oc _ w'=>(k<=wd/\y.n=(bC bY.and x.n a b k).1/\lJ w0 N y/\(0<k->N=[dv y]))/\Hp w0 w' (rO 3 1 eI o oc (bC bY.and x.n a b k).2::rB b8 33 (aL Tryz.dY.zero)::rB b4 33 y.cs::N)) (fun k _ _ _ _ _=>wd-k) 0 x [] _ _ () rfl ⟨⟨by omega,rfl,inferInstance,fun h=>by omega⟩,hp⟩ ?_
  clear hp
  rintro k y N o oc _ w1 ⟨⟨hk,hy,hN,Io⟩,hp⟩ IH C
  have g:=fH bj (s:=x.n) (f:=bY.and) (fun _ _ _ _ h1 h2 h3=>bj.and h1 h2 h3) aS ha hb k
  have uV:=dH bY.and x.n a b k
  obtain⟨r,hr⟩:∃r,r=bC bY.and x.n a b k:=⟨_,rfl⟩
  rw[<-hr] at g hp hy uV⊢
  have hi:aj r.1:=g.i
  have w6:aj y.n:=by rw[hy];exact hi
  have va:=bj.mono g.dX (cZ bj aS ha k)
  have vb:=bj.mono g.dX (cZ bj aS hb k)
  refine bL ?_
  apply ae<;>intro bD
  ·have CF:k<wd:=by omega
   have eK:bC bY.and x.n a b (k+1)=((bY.and r.1 (a.getD k default) (b.getD k default)).1,r.2++[(bY.and r.1 (a.getD k default) (b.getD k default)).2]):=by rw[bC,<-hr]
   have eX:dG y.n [a.getD k default,b.getD k default] (ay y.n (a.getD k default) (b.getD k default))=bY.and r.1 (a.getD k default) (b.getD k default):=by rw[hy];rfl
   refine aN ?_;refine aI hp ?_
   refine bP hp ?_;intro w b17 hx hp;refine az ?_;refine aW hp ?_;intro w hp;refine az ?_
   refine aN ?_
   refine fR hp ?_;(repeat(refine gu ?_;first|refine fy ?_|refine jE rfl (by omega) rfl rfl rfl ?_))
   refine j8 Tryz.func86 (fun F w hp=> ?_);refine bN.mono (eF y (a.getD k default) (b.getD k default) _ hp.pre.dR w6.S' w6.W (va.i64 hi) (vb.i64 hi)) ?_;rintro _ w ⟨z1,⟨vY,rfl⟩,hq⟩;have hp:=hp.eU hq;refine⟨fun _=>hp.sub (by(repeat(first|exact List.sublist_append_left _ _|apply List.Sublist.cons))),_,hp,?_⟩;clear hp;refine cX ?_;refine eO rfl rfl rfl rfl (by kernel_rfl) ?_;refine cX ?_
   refine dc ?_;intro w hp C;refine bL ?_;(repeat(first|(refine ah ?_;refine aI hp ?_)|(refine aH ?_;refine aW hp ?_;intro w hp;refine az ?_)|(refine bK ?_;refine gG hp ?_;intro w _ hx hp;refine az ?_)))
   rw[eX] at vY hp⊢
   refine gT hp ?_;intro o' pD w hp bZ;refine az ?_
   have hp:=hp.drop
   have hp:=(hp.f4.f4.f4).tk 4
   refine IH (k+1) z1 [dv z1] o' pD () _ _ _ (by omega) (by rw[eK];rfl) ⟨⟨by omega,by rw[eK];exact vY,inferInstance,fun _=>rfl⟩,?_⟩
   rw[eK]
   exact hp
  ·obtain rfl:k=wd:=by omega
   have KC:=Io (by omega)
   subst KC
   refine aM ?_;(repeat(first|(refine ah ?_;refine aI hp ?_)|(refine aH ?_;refine aW hp ?_;intro w hp;refine az ?_)|(refine dA ?_;refine bg hp rfl ?_)))
   rw[hZ,<-hr]
   exact⟨y,o,oc,⟨hy,by rw[uV];rfl⟩,(hp.f3).tk 2⟩
 ·have hZ:gO bY wd 6 x.n a b=bC bY.or x.n a b wd:=by unfold gO;rw[if_neg (by decide),if_neg (by decide),if_neg (by decide),if_neg (by decide),if_neg (by decide),if_pos rfl,IT]
  refine aM ?_
  refine aM ?_;(repeat(first|(refine aG ?_;refine aO ?_)|(refine bK ?_;refine gG hp ?_;intro w _ hx hp;refine az ?_)))
  refine aM ?_
  refine kg [1,2,3,4,8,10,15] (fun(k:Nat) (_:bf) (_:List bh) (o:Option Addr) (oc:Nat) (_:Unit)=>[(1,.int .i64 6),(2,.slice aA wd cA),(3,.slice bA wd cB),(4,.pointer (some ⟨b4,0,none⟩)),(8,.pointer (some ⟨b8,0,none⟩)),(10,.slice o (bC bY.or x.n a b k).2.length oc),(15,.int .i64 (k:Int))])
   (fun k y N o oc _ w'=>(k<=wd/\y.n=(bC bY.or x.n a b k).1/\lJ w0 N y/\(0<k->N=[dv y]))/\Hp w0 w' (rO 3 1 eI o oc (bC bY.or x.n a b k).2::rB b8 33 (aL Tryz.dY.zero)::rB b4 33 y.cs::N)) (fun k _ _ _ _ _=>wd-k) 0 x [] _ _ () rfl ⟨⟨by omega,rfl,inferInstance,fun h=>by omega⟩,hp⟩ ?_
  clear hp
  rintro k y N o oc _ w1 ⟨⟨hk,hy,hN,Io⟩,hp⟩ IH C
  have g:=fH bj (s:=x.n) (f:=bY.or) (fun _ _ _ _ h1 h2 h3=>bj.or h1 h2 h3) aS ha hb k
  have uV:=dH bY.or x.n a b k
  obtain⟨r,hr⟩:∃r,r=bC bY.or x.n a b k:=⟨_,rfl⟩
  rw[<-hr] at g hp hy uV⊢
  have hi:aj r.1:=g.i
  have w6:aj y.n:=by rw[hy];exact hi
  have va:=bj.mono g.dX (cZ bj aS ha k)
  have vb:=bj.mono g.dX (cZ bj aS hb k)
  refine bL ?_
  apply ae<;>intro bD
  ·have CF:k<wd:=by omega
   have eK:bC bY.or x.n a b (k+1)=((bY.or r.1 (a.getD k default) (b.getD k default)).1,r.2++[(bY.or r.1 (a.getD k default) (b.getD k default)).2]):=by rw[bC,<-hr]
   have eX:dG y.n [a.getD k default,b.getD k default] (cF y.n (a.getD k default) (b.getD k default))=bY.or r.1 (a.getD k default) (b.getD k default):=by rw[hy];rfl
   refine aN ?_;refine aI hp ?_
   refine bP hp ?_;intro w b17 hx hp;refine az ?_;refine aW hp ?_;intro w hp;refine az ?_
   refine aM ?_
   refine aN ?_
   refine fR hp ?_;(repeat(refine gu ?_;first|refine fy ?_|refine jE rfl (by omega) rfl rfl rfl ?_))
   refine j8 Tryz.func144 (fun F w hp=> ?_);refine bN.mono (nD y (a.getD k default) (b.getD k default) _ hp.pre.dR w6.S' w6.W (va.i64 hi) (vb.i64 hi)) ?_;rintro _ w ⟨z1,⟨vY,rfl⟩,hq⟩;have hp:=hp.eU hq;refine⟨fun _=>hp.sub (by(repeat(first|exact List.sublist_append_left _ _|apply List.Sublist.cons))),_,hp,?_⟩;clear hp;refine cX ?_;refine eO rfl rfl rfl rfl (by kernel_rfl) ?_;refine cX ?_
   refine dc ?_;intro w hp C;refine bL ?_;(repeat(first|(refine ah ?_;refine aI hp ?_)|(refine aH ?_;refine aW hp ?_;intro w hp;refine az ?_)|(refine bK ?_;refine gG hp ?_;intro w _ hx hp;refine az ?_)))
   rw[eX] at vY hp⊢
   refine gT hp ?_;intro o' pD w hp bZ;refine az ?_
   have hp:=hp.drop
   have hp:=(hp.f4.f4.f4).tk 4
   refine IH (k+1) z1 [dv z1] o' pD () _ _ _ (by omega) (by rw[eK];rfl) ⟨⟨by omega,by rw[eK];exact vY,inferInstance,fun _=>rfl⟩,?_⟩
   rw[eK]
   exact hp
  ·obtain rfl:k=wd:=by omega
   have KC:=Io (by omega)
   subst KC
   refine aM ?_;(repeat(first|(refine ah ?_;refine aI hp ?_)|(refine aH ?_;refine aW hp ?_;intro w hp;refine az ?_)|(refine dA ?_;refine bg hp rfl ?_)))
   rw[hZ,<-hr]
   exact⟨y,o,oc,⟨hy,by rw[uV];rfl⟩,(hp.f3).tk 2⟩
 ·have hZ:gO bY wd 7 x.n a b=bC bY.xor x.n a b wd:=by unfold gO;rw[if_neg (by decide),if_neg (by decide),if_neg (by decide),if_neg (by decide),if_neg (by decide),if_neg (by decide),IT]
  refine aM ?_
  refine aM ?_;(repeat(first|(refine aG ?_;refine aO ?_)|(refine bK ?_;refine gG hp ?_;intro w _ hx hp;refine az ?_)))
  refine aM ?_
  refine kg [1,2,3,4,8,10,15] (fun(k:Nat) (_:bf) (_:List bh) (o:Option Addr) (oc:Nat) (_:Unit)=>[(1,.int .i64 7),(2,.slice aA wd cA),(3,.slice bA wd cB),(4,.pointer (some ⟨b4,0,none⟩)),(8,.pointer (some ⟨b8,0,none⟩)),(10,.slice o (bC bY.xor x.n a b k).2.length oc),(15,.int .i64 (k:Int))])
   (fun k y N o oc _ w'=>(k<=wd/\y.n=(bC bY.xor x.n a b k).1/\lJ w0 N y/\(0<k->N=[dv y]))/\Hp w0 w' (rO 3 1 eI o oc (bC bY.xor x.n a b k).2::rB b8 33 (aL Tryz.dY.zero)::rB b4 33 y.cs::N)) (fun k _ _ _ _ _=>wd-k) 0 x [] _ _ () rfl ⟨⟨by omega,rfl,inferInstance,fun h=>by omega⟩,hp⟩ ?_
  clear hp
  rintro k y N o oc _ w1 ⟨⟨hk,hy,hN,Io⟩,hp⟩ IH C
  have g:=fH bj (s:=x.n) (f:=bY.xor) (fun _ _ _ _ h1 h2 h3=>bj.xor h1 h2 h3) aS ha hb k
  have uV:=dH bY.xor x.n a b k
  obtain⟨r,hr⟩:∃r,r=bC bY.xor x.n a b k:=⟨_,rfl⟩
  rw[<-hr] at g hp hy uV⊢
  have hi:aj r.1:=g.i
  have w6:aj y.n:=by rw[hy];exact hi
  have va:=bj.mono g.dX (cZ bj aS ha k)
  have vb:=bj.mono g.dX (cZ bj aS hb k)
  refine bL ?_
  apply ae<;>intro bD
  ·have CF:k<wd:=by omega
   have eK:bC bY.xor x.n a b (k+1)=((bY.xor r.1 (a.getD k default) (b.getD k default)).1,r.2++[(bY.xor r.1 (a.getD k default) (b.getD k default)).2]):=by rw[bC,<-hr]
   have eX:dG y.n [a.getD k default,b.getD k default] (de y.n (a.getD k default) (b.getD k default))=bY.xor r.1 (a.getD k default) (b.getD k default):=by rw[hy];rfl
   refine aN ?_;refine aI hp ?_
   refine bP hp ?_;intro w b17 hx hp;refine az ?_;refine aW hp ?_;intro w hp;refine az ?_
   refine aM ?_
   refine aM ?_
   refine fR hp ?_;(repeat(refine gu ?_;first|refine fy ?_|refine jE rfl (by omega) rfl rfl rfl ?_))
   refine j8 Tryz.func174 (fun F w hp=> ?_);refine bN.mono (ks y (a.getD k default) (b.getD k default) _ hp.pre.dR w6.S' w6.W (va.i64 hi) (vb.i64 hi)) ?_;rintro _ w ⟨z1,⟨vY,rfl⟩,hq⟩;have hp:=hp.eU hq;refine⟨fun _=>hp.sub (by(repeat(first|exact List.sublist_append_left _ _|apply List.Sublist.cons))),_,hp,?_⟩;clear hp;refine cX ?_;refine eO rfl rfl rfl rfl (by kernel_rfl) ?_;refine cX ?_
   refine dc ?_;intro w hp C;refine bL ?_;(repeat(first|(refine ah ?_;refine aI hp ?_)|(refine aH ?_;refine aW hp ?_;intro w hp;refine az ?_)|(refine bK ?_;refine gG hp ?_;intro w _ hx hp;refine az ?_)))
   rw[eX] at vY hp⊢
   refine gT hp ?_;intro o' pD w hp bZ;refine az ?_
   have hp:=hp.drop
   have hp:=(hp.f4.f4.f4).tk 4
   refine IH (k+1) z1 [dv z1] o' pD () _ _ _ (by omega) (by rw[eK];rfl) ⟨⟨by omega,by rw[eK];exact vY,inferInstance,fun _=>rfl⟩,?_⟩
   rw[eK]
   exact hp
  ·obtain rfl:k=wd:=by omega
   have KC:=Io (by omega)
   subst KC
   refine aM ?_;(repeat(first|(refine ah ?_;refine aI hp ?_)|(refine aH ?_;refine aW hp ?_;intro w hp;refine az ?_)|(refine dA ?_;refine bg hp rfl ?_)))
   rw[hZ,<-hr]
   exact⟨y,o,oc,⟨hy,by rw[uV];rfl⟩,(hp.f3).tk 2⟩
 ·have hZ:gO bY wd 8 x.n a b=qD bY x.n a b 0:=by unfold gO;rw[if_pos rfl]
  rw[hZ]
  refine aN ?_;refine aI hp ?_
  refine cy Tryz.func173 (D5 x aA bA cA cB wd hw a b 0 IT Td _ hp.dR aS hp.rd hp.rd ha hb (.inl (mO aS).1)) ?_
  rintro _ w ⟨z,bz,cz,⟨ez,rfl⟩,hq⟩
  have hp:=hp.call2 hq
  refine az ?_;refine aW hp ?_;intro w hp;refine az ?_;refine bg hp rfl ?_
  exact⟨z,bz,cz,⟨ez,rfl⟩,hp.tk 2⟩
 ·have hZ:gO bY wd 9 x.n a b=qD bY x.n a (b.map fb) 1:=by unfold gO;rw[if_neg (by decide),if_pos rfl];rfl
  rw[hZ]
  have HN:∀z,z∈b.map fb->lK x.n z:=fun z hz=>by
   obtain⟨z',Ot,rfl⟩:=List.mem_map.1 hz
   exact bj.not aS (hb z' Ot)
  refine aM ?_
  refine aN ?_
  refine fR hp ?_;refine fy ?_
  refine j8 Tryz.func142 (fun F w hp=> ?_);refine bN.mono (D4 bA cB wd b Td _ hp.pre.rd (by omega) (fun i hi=>(hb _ (aK hi)).i64 aS)) ?_;rintro _ w ⟨bn,cn,rfl,hq⟩;have hp:=hp.eU hq;refine⟨fun _=>hp.sub (by(repeat(first|exact List.sublist_append_left _ _|apply List.Sublist.cons))),_,hp,?_⟩;clear hp;refine cX ?_
  refine j8 Tryz.func173 (fun F w hp=> ?_)
  refine bN.mono (D5 x aA bn cA cn wd hw a (b.map fb) 1 IT (by rw[List.length_map];exact Td) w hp.pre.dR aS hp.pre.rd hp.pre.rd ha HN (.inl (mO aS).2)) ?_
  rintro _ w ⟨z,bz,cz,⟨ez,rfl⟩,hq⟩
  have hp:=Hp.FJ hp hq
  refine⟨fun hq=>Bool.noConfusion (hq.symm.trans (by kernel_rfl:bH _ _=false)),_,hp,?_⟩
  clear hp
  refine cX ?_;refine eO rfl rfl rfl rfl (by kernel_rfl) ?_;refine cX ?_
  refine dc ?_;intro w hp C;refine bL ?_;refine bg hp rfl ?_
  exact⟨z,bz,cz,⟨ez,rfl⟩,hp.tk 2⟩
 ·have hZ:gO bY wd 10 x.n a b=((bV bY true x.n a b wd).1,ll wd (bV bY true x.n a b wd).2):=by unfold gO;rw[if_neg (by decide),if_neg (by decide),if_pos rfl,IT]
  refine aM ?_
  refine aM ?_;(repeat(first|(refine aG ?_;refine ba ?_)|(refine bK ?_;refine gG hp ?_;intro w _ hx hp;refine az ?_)))
  refine aN ?_
  refine bQ hp Tryz.func162 (um true _) ?_;intro w hx hp
  refine kg [1,2,3,4,8,10,11,12] (fun(k:Nat) (_:bf) (_:List bh) (o:Option Addr) (oc:Nat) (_:Unit)=>[(1,.int .i64 10),(2,.slice aA wd cA),(3,.slice bA wd cB),(4,.pointer (some ⟨b4,0,none⟩)),(8,.pointer (some ⟨b8,0,none⟩)),(10,.slice o (List.replicate k (0:Int)).length oc),(11,.int .i64 (bV bY true x.n a b k).2),(12,.int .i64 (k:Int))])
   (fun k y N o oc _ w'=>(k<=wd/\y.n=(bV bY true x.n a b k).1/\lJ w0 N y/\(0<k->N=[dv y]))/\Hp w0 w' (rO 3 1 eI o oc (List.replicate k (0:Int))::rB b8 33 (aL Tryz.dY.zero)::rB b4 33 y.cs::N)) (fun k _ _ _ _ _=>wd-k) 0 x [] _ _ () rfl ⟨⟨by omega,rfl,inferInstance,fun h=>by omega⟩,hp⟩ ?_
  clear hp
  rintro k y N o oc _ w1 ⟨⟨hk,hy,hN,Io⟩,hp⟩ IH C
  obtain⟨hi,Lm,hle⟩:=js bj true aS ha hb k
  obtain⟨r,hr⟩:∃r,r=bV bY true x.n a b k:=⟨_,rfl⟩
  rw[<-hr] at hi Lm hle hy⊢
  have w6:aj y.n:=by rw[hy];exact hi
  have va:=bj.mono hle (cZ bj aS ha k)
  have vb:=bj.mono hle (cZ bj aS hb k)
  obtain⟨x1,x2,x3⟩:=bj.xor hi va vb
  have ve1:=bj.mono x3 Lm
  have CH:(List.replicate k (0:Int)).length=k:=by simp
  refine bL ?_
  apply ae<;>intro bD
  ·have CF:k<wd:=by omega
   have eX:dG y.n [a.getD k default,b.getD k default] (de y.n (a.getD k default) (b.getD k default))=bY.xor r.1 (a.getD k default) (b.getD k default):=by rw[hy];rfl
   refine aN ?_
   refine fR hp ?_;(repeat(refine gu ?_;first|refine fy ?_|refine jE rfl (by omega) rfl rfl rfl ?_))
   refine j8 Tryz.func174 (fun F w hp=> ?_);refine bN.mono (ks y (a.getD k default) (b.getD k default) _ hp.pre.dR w6.S' w6.W (va.i64 hi) (vb.i64 hi)) ?_;rintro _ w ⟨z1,⟨vY,rfl⟩,hq⟩;have hp:=hp.eU hq;refine⟨fun _=>hp.sub (by(repeat(first|exact List.sublist_append_left _ _|apply List.Sublist.cons))),_,hp,?_⟩;clear hp;refine cX ?_
   (first|refine oq ?_|refine iS rfl ?_);intro zO;refine cX ?_;refine eO rfl rfl rfl rfl (by kernel_rfl) ?_;refine cX ?_
   refine dc ?_;intro w hp C;refine bL ?_
   rw[eX] at vY⊢
   have ED:aj z1.n:=by rw[vY];exact x1
   refine aN ?_
   have eN:fb (bY.xor r.1 (a.getD k default) (b.getD k default)).2=bY.not (bY.xor r.1 (a.getD k default) (b.getD k default)).2:=rfl
   have nx:=bj.not x1 x2
   refine fR hp ?_;refine fy ?_
   refine j8 Tryz.func172 (fun F w hp=> ?_);refine bN.mono (mM (bY.xor r.1 (a.getD k default) (b.getD k default)).2 _) ?_;rintro _ w ⟨rfl,hx⟩;have hp:=hp.ext hx;refine⟨fun _=>hp.sub (by(repeat(first|exact List.sublist_append_left _ _|apply List.Sublist.cons))),_,hp,?_⟩;clear hp;refine cX ?_
   rw[eN]
   refine j8 Tryz.func86 (fun F w hp=> ?_);refine bN.mono (eF z1 r.2 (bY.not (bY.xor r.1 (a.getD k default) (b.getD k default)).2) _ hp.pre.dR ED.S' ED.W (ve1.i64 x1) (nx.i64 x1)) ?_;rintro _ w ⟨z2,⟨Ll,rfl⟩,hq⟩;have hp:=hp.eU hq;refine⟨fun _=>hp.sub (by(repeat(first|exact List.sublist_append_left _ _|apply List.Sublist.cons))),_,hp,?_⟩;clear hp;refine cX ?_;refine eO rfl rfl rfl rfl (by kernel_rfl) ?_;refine cX ?_
   refine dc ?_;intro w hp C;refine bL ?_;(repeat(first|(refine ah ?_;refine aI hp ?_)|(refine aH ?_;refine aW hp ?_;intro w hp;refine az ?_)|(refine bK ?_;refine gG hp ?_;intro w _ hx hp;refine az ?_)))
   have eK:bV bY true x.n a b (k+1)=bY.and (bY.xor r.1 (a.getD k default) (b.getD k default)).1 r.2 (bY.not (bY.xor r.1 (a.getD k default) (b.getD k default)).2):=by rw[bV,if_pos rfl,<-hr]
   have eY:dG z1.n [r.2,bY.not (bY.xor r.1 (a.getD k default) (b.getD k default)).2] (ay z1.n r.2 (bY.not (bY.xor r.1 (a.getD k default) (b.getD k default)).2))=bV bY true x.n a b (k+1):=by rw[vY,eK];rfl
   rw[eY] at Ll⊢
   refine gT hp ?_;intro o' pD w hp bZ;refine az ?_
   have hp:=hp.drop
   have hp:=(hp.f2.f2).drop.drop
   have hp:=(hp.f3.f3.f3).tk 4
   have er:List.replicate k (0:Int)++[0]=List.replicate (k+1) (0:Int):=by rw[List.replicate_succ']
   refine IH (k+1) z2 [dv z2] o' pD () _ _ _ (by omega) (by rw[<-er];rfl) ⟨⟨by omega,Ll,inferInstance,fun _=>rfl⟩,?_⟩
   rw[<-er]
   exact hp
  ·obtain rfl:k=wd:=by omega
   have KC:=Io (by omega)
   subst KC
   clear IH
   refine aM ?_;(repeat(first|(refine ah ?_;refine aI hp ?_)|(refine aH ?_;(first|refine aW hp ?_|refine ki hp rfl rfl rfl (by omega) (by decide) rfl rfl ?_);intro w hp;refine az ?_)|(refine dA ?_;refine bg hp rfl ?_)))
   rw[hZ,<-hr]
   exact⟨y,o,oc,⟨hy,by simp;rfl⟩,(hp.f3).tk 2⟩
 ·have hZ:gO bY wd 11 x.n a b=((bV bY false x.n a b wd).1,ll wd (bV bY false x.n a b wd).2):=by unfold gO;rw[if_neg (by decide),if_neg (by decide),if_neg (by decide),if_pos rfl,IT]
  refine aM ?_
  refine aM ?_;(repeat(first|(refine aG ?_;refine aO ?_)|(refine bK ?_;refine gG hp ?_;intro w _ hx hp;refine az ?_)))
  refine aN ?_
  refine bQ hp Tryz.func162 (um false _) ?_;intro w hx hp
  refine kg [1,2,3,4,8,10,11,12] (fun(k:Nat) (_:bf) (_:List bh) (o:Option Addr) (oc:Nat) (_:Unit)=>[(1,.int .i64 11),(2,.slice aA wd cA),(3,.slice bA wd cB),(4,.pointer (some ⟨b4,0,none⟩)),(8,.pointer (some ⟨b8,0,none⟩)),(10,.slice o (List.replicate k (0:Int)).length oc),(11,.int .i64 (bV bY false x.n a b k).2),(12,.int .i64 (k:Int))])
   (fun k y N o oc _ w'=>(k<=wd/\y.n=(bV bY false x.n a b k).1/\lJ w0 N y/\(0<k->N=[dv y]))/\Hp w0 w' (rO 3 1 eI o oc (List.replicate k (0:Int))::rB b8 33 (aL Tryz.dY.zero)::rB b4 33 y.cs::N)) (fun k _ _ _ _ _=>wd-k) 0 x [] _ _ () rfl ⟨⟨by omega,rfl,inferInstance,fun h=>by omega⟩,hp⟩ ?_
  clear hp
  rintro k y N o oc _ w1 ⟨⟨hk,hy,hN,Io⟩,hp⟩ IH C
  obtain⟨hi,Lm,hle⟩:=js bj false aS ha hb k
  obtain⟨r,hr⟩:∃r,r=bV bY false x.n a b k:=⟨_,rfl⟩
  rw[<-hr] at hi Lm hle hy⊢
  have w6:aj y.n:=by rw[hy];exact hi
  have va:=bj.mono hle (cZ bj aS ha k)
  have vb:=bj.mono hle (cZ bj aS hb k)
  obtain⟨x1,x2,x3⟩:=bj.xor hi va vb
  have ve1:=bj.mono x3 Lm
  have CH:(List.replicate k (0:Int)).length=k:=by simp
  refine bL ?_
  apply ae<;>intro bD
  ·have CF:k<wd:=by omega
   have eX:dG y.n [a.getD k default,b.getD k default] (de y.n (a.getD k default) (b.getD k default))=bY.xor r.1 (a.getD k default) (b.getD k default):=by rw[hy];rfl
   refine aN ?_
   refine fR hp ?_;(repeat(refine gu ?_;first|refine fy ?_|refine jE rfl (by omega) rfl rfl rfl ?_))
   refine j8 Tryz.func174 (fun F w hp=> ?_);refine bN.mono (ks y (a.getD k default) (b.getD k default) _ hp.pre.dR w6.S' w6.W (va.i64 hi) (vb.i64 hi)) ?_;rintro _ w ⟨z1,⟨vY,rfl⟩,hq⟩;have hp:=hp.eU hq;refine⟨fun _=>hp.sub (by(repeat(first|exact List.sublist_append_left _ _|apply List.Sublist.cons))),_,hp,?_⟩;clear hp;refine cX ?_
   (first|refine oq ?_|refine iS rfl ?_);intro zO;refine cX ?_;refine eO rfl rfl rfl rfl (by kernel_rfl) ?_;refine cX ?_
   refine dc ?_;intro w hp C;refine bL ?_
   rw[eX] at vY⊢
   have ED:aj z1.n:=by rw[vY];exact x1
   refine aM ?_
   have vb1:=bj.mono x3 vb
   refine fR hp ?_;(repeat(refine gu ?_;first|refine fy ?_|refine jE rfl (by omega) rfl rfl rfl ?_))
   refine j8 Tryz.func145 (fun F w hp=> ?_);refine bN.mono (uk z1 (bY.xor r.1 (a.getD k default) (b.getD k default)).2 (b.getD k default) r.2 _ hp.pre.dR ED.S' ED.W (x2.i64 x1) (vb1.i64 x1) (ve1.i64 x1)) ?_;rintro _ w ⟨z2,⟨Ll,rfl⟩,hq⟩;have hp:=hp.eU hq;refine⟨fun _=>hp.sub (by(repeat(first|exact List.sublist_append_left _ _|apply List.Sublist.cons))),_,hp,?_⟩;clear hp;refine cX ?_;refine eO rfl rfl rfl rfl (by kernel_rfl) ?_;refine cX ?_
   refine dc ?_;intro w hp C;refine bL ?_;(repeat(first|(refine ah ?_;refine aI hp ?_)|(refine aH ?_;refine aW hp ?_;intro w hp;refine az ?_)|(refine bK ?_;refine gG hp ?_;intro w _ hx hp;refine az ?_)))
   have eK:bV bY false x.n a b (k+1)=bY.jk (bY.xor r.1 (a.getD k default) (b.getD k default)).1 (bY.xor r.1 (a.getD k default) (b.getD k default)).2 (b.getD k default) r.2:=by rw[bV,if_neg (by decide),<-hr]
   have eY:dG z1.n [(bY.xor r.1 (a.getD k default) (b.getD k default)).2,b.getD k default,r.2] (dy z1.n (bY.xor r.1 (a.getD k default) (b.getD k default)).2 (b.getD k default) r.2)=bV bY false x.n a b (k+1):=by rw[vY,eK];rfl
   rw[eY] at Ll⊢
   refine gT hp ?_;intro o' pD w hp bZ;refine az ?_
   have hp:=hp.drop
   have hp:=(hp.f2.f2).drop.drop
   have hp:=(hp.f3.f3.f3).tk 4
   have er:List.replicate k (0:Int)++[0]=List.replicate (k+1) (0:Int):=by rw[List.replicate_succ']
   refine IH (k+1) z2 [dv z2] o' pD () _ _ _ (by omega) (by rw[<-er];rfl) ⟨⟨by omega,Ll,inferInstance,fun _=>rfl⟩,?_⟩
   rw[<-er]
   exact hp
  ·obtain rfl:k=wd:=by omega
   have KC:=Io (by omega)
   subst KC
   clear IH
   refine aM ?_;(repeat(first|(refine ah ?_;refine aI hp ?_)|(refine aH ?_;(first|refine aW hp ?_|refine ki hp rfl rfl rfl (by omega) (by decide) rfl rfl ?_);intro w hp;refine az ?_)|(refine dA ?_;refine bg hp rfl ?_)))
   rw[hZ,<-hr]
   exact⟨y,o,oc,⟨hy,by simp;rfl⟩,(hp.f3).tk 2⟩
end Go.Proofs
end
section
namespace Go.Proofs
open Go.Xw
set_option maxRecDepth 100000
set_option maxHeartbeats 2000000
attribute [local irreducible] ax aE
theorem Ci (lit:Int)(bx p wd:Nat)(sv:Value)(bad:Bool){w0 w1:World}{L:List bh}(jP:Hp w0 w1 (rB bx 88 [.pointer (some ⟨p,0,none⟩),sv,.int .i64 (wd:Int),.bool bad]::L)):
  bN Tryz.prog 152 [.pointer (some ⟨bx,0,none⟩),.int .i64 lit] w1 (fun v w'=>v= .int .i64 (if lit<0 then 0 else lit)/\Hp w0 w' (rB bx 88 [.pointer (some ⟨p,0,none⟩),sv,.int .i64 (wd:Int),.bool (if lit<0 then true else bad)]::L)):=by
 refine enter Tryz.QP _ _ rfl rfl (by show _<=_;simp only[List.length];decide) (fun C=> ?_);have hp:=jP;refine bL ?_
 skip
 apply ae<;>intro h
 ·rw[if_pos h,if_pos h]
  refine aN ?_;refine iE hp ?_;intro w hp;refine az ?_;refine aq ?_
  exact⟨rfl,hp⟩
 ·rw[if_neg h,if_neg h]
  refine aM ?_;refine aq ?_
  exact⟨rfl,hp⟩
theorem uo (y:bf)(s:ao×Bool)(hs:s.1={y.n with af:=s.1.af})(aS:aj s.1)(a b:Int)(ha:aD a (ag s.1))(hb:aD b (ag s.1))(bx p wd:Nat)(sv:Value)(aa:Option Addr)(ac:Nat){w0 w1:World}{L:List bh}(jP:Hp w0 w1 (rB bx 88 [.pointer (some ⟨p,0,none⟩),sv,.int .i64 (wd:Int),.bool s.2]::rB p 33 (y.wA aa ac s.1.af).cs::rO 120 2 gh aa ac s.1.af::L)):
  bN Tryz.prog 98 [.pointer (some ⟨bx,0,none⟩),.int .i64 a,.int .i64 b] w1 (fun v w'=>∃kv kx,v= .int .i64 (a6.and s a b).2/\Hp w0 w' (rB bx 88 [.pointer (some ⟨p,0,none⟩),sv,.int .i64 (wd:Int),.bool (a6.and s a b).1.2]::rB p 33 (y.wA kv kx (a6.and s a b).1.1.af).cs::rO 120 2 gh kv kx (a6.and s a b).1.1.af::L)):=by
 have m0:(y.wA aa ac s.1.af).n=s.1:=hs.symm
 have Si:aj (y.wA aa ac s.1.af).n:=by rw[m0];exact aS
 have xM:=aS.count
 refine enter Tryz.VG _ _ rfl rfl (by show _<=_;simp only[List.length];decide) (fun C=> ?_);have hp:=jP;refine bL ?_
 refine aI hp ?_
 refine cy Tryz.func106 (mK (y.wA aa ac s.1.af) p a b (hp.f2.f2) Si.b (by show s.1.af.length<=_;omega) (by unfold aD at ha;omega) (by unfold aD at hb;omega)) ?_;rintro _ w ⟨kv,kx,rfl,hp⟩;refine az ?_
 rw[m0] at hp⊢
 have hp:=hp.f1.f1.f2
 refine cy Tryz.func152 (Ci (ay s.1 a b).2 bx p wd sv s.2 hp) ?_;rintro _ w ⟨rfl,hp⟩;refine az ?_;refine aq ?_
 have e:a6.and s a b=if(ay s.1 a b).2<0 then(((ay s.1 a b).1,true),0) else(((ay s.1 a b).1,s.2),(ay s.1 a b).2):=rfl
 by_cases h0:(ay s.1 a b).2<0
 ·rw[if_pos h0] at e hp⊢
  rw[e]
  exact⟨kv,kx,rfl,hp⟩
 ·rw[if_neg h0] at e hp⊢
  rw[e]
  exact⟨kv,kx,rfl,hp⟩
theorem FK (y:bf)(s:ao×Bool)(hs:s.1={y.n with af:=s.1.af})(aS:aj s.1)(a b:Int)(ha:aD a (ag s.1))(hb:aD b (ag s.1))(bx p wd:Nat)(sv:Value)(aa:Option Addr)(ac:Nat){w0 w1:World}{L:List bh}(jP:Hp w0 w1 (rB bx 88 [.pointer (some ⟨p,0,none⟩),sv,.int .i64 (wd:Int),.bool s.2]::rB p 33 (y.wA aa ac s.1.af).cs::rO 120 2 gh aa ac s.1.af::L)):
  bN Tryz.prog 99 [.pointer (some ⟨bx,0,none⟩),.int .i64 a,.int .i64 b] w1 (fun v w'=>∃kv kx,v= .int .i64 (a6.or s a b).2/\Hp w0 w' (rB bx 88 [.pointer (some ⟨p,0,none⟩),sv,.int .i64 (wd:Int),.bool (a6.or s a b).1.2]::rB p 33 (y.wA kv kx (a6.or s a b).1.1.af).cs::rO 120 2 gh kv kx (a6.or s a b).1.1.af::L)):=by
 have m0:(y.wA aa ac s.1.af).n=s.1:=hs.symm
 have Si:aj (y.wA aa ac s.1.af).n:=by rw[m0];exact aS
 have xM:=aS.count
 refine enter Tryz.VH _ _ rfl rfl (by show _<=_;simp only[List.length];decide) (fun C=> ?_);have hp:=jP;refine bL ?_
 refine aI hp ?_
 refine cy Tryz.func153 (By (y.wA aa ac s.1.af) p a b (hp.f2.f2) Si (by rw[m0];exact ha) (by rw[m0];exact hb)) ?_;rintro _ w ⟨kv,kx,rfl,hp⟩;refine az ?_
 rw[m0] at hp⊢
 have hp:=hp.f1.f1.f2
 refine cy Tryz.func152 (Ci (cF s.1 a b).2 bx p wd sv s.2 hp) ?_;rintro _ w ⟨rfl,hp⟩;refine az ?_;refine aq ?_
 have e:a6.or s a b=if(cF s.1 a b).2<0 then(((cF s.1 a b).1,true),0) else(((cF s.1 a b).1,s.2),(cF s.1 a b).2):=rfl
 by_cases h0:(cF s.1 a b).2<0
 ·rw[if_pos h0] at e hp⊢
  rw[e]
  exact⟨kv,kx,rfl,hp⟩
 ·rw[if_neg h0] at e hp⊢
  rw[e]
  exact⟨kv,kx,rfl,hp⟩
theorem uq (y:bf)(s:ao×Bool)(hs:s.1={y.n with af:=s.1.af})(aS:aj s.1)(a b:Int)(ha:aD a (ag s.1))(hb:aD b (ag s.1))(bx p wd:Nat)(sv:Value)(aa:Option Addr)(ac:Nat){w0 w1:World}{L:List bh}(jP:Hp w0 w1 (rB bx 88 [.pointer (some ⟨p,0,none⟩),sv,.int .i64 (wd:Int),.bool s.2]::rB p 33 (y.wA aa ac s.1.af).cs::rO 120 2 gh aa ac s.1.af::L)):
  bN Tryz.prog 100 [.pointer (some ⟨bx,0,none⟩),.int .i64 a,.int .i64 b] w1 (fun v w'=>∃kv kx,v= .int .i64 (a6.xor s a b).2/\Hp w0 w' (rB bx 88 [.pointer (some ⟨p,0,none⟩),sv,.int .i64 (wd:Int),.bool (a6.xor s a b).1.2]::rB p 33 (y.wA kv kx (a6.xor s a b).1.1.af).cs::rO 120 2 gh kv kx (a6.xor s a b).1.1.af::L)):=by
 have m0:(y.wA aa ac s.1.af).n=s.1:=hs.symm
 have Si:aj (y.wA aa ac s.1.af).n:=by rw[m0];exact aS
 have xM:=aS.count
 refine enter Tryz.Qb _ _ rfl rfl (by show _<=_;simp only[List.length];decide) (fun C=> ?_);have hp:=jP;refine bL ?_
 refine aI hp ?_
 refine cy Tryz.func154 (Kz (y.wA aa ac s.1.af) p a b (hp.f2.f2) Si (by rw[m0];exact ha) (by rw[m0];exact hb)) ?_;rintro _ w ⟨kv,kx,rfl,hp⟩;refine az ?_
 rw[m0] at hp⊢
 have hp:=hp.f1.f1.f2
 refine cy Tryz.func152 (Ci (de s.1 a b).2 bx p wd sv s.2 hp) ?_;rintro _ w ⟨rfl,hp⟩;refine az ?_;refine aq ?_
 have e:a6.xor s a b=if(de s.1 a b).2<0 then(((de s.1 a b).1,true),0) else(((de s.1 a b).1,s.2),(de s.1 a b).2):=rfl
 by_cases h0:(de s.1 a b).2<0
 ·rw[if_pos h0] at e hp⊢
  rw[e]
  exact⟨kv,kx,rfl,hp⟩
 ·rw[if_neg h0] at e hp⊢
  rw[e]
  exact⟨kv,kx,rfl,hp⟩
theorem Cj (y:bf)(s:ao×Bool)(hs:s.1={y.n with af:=s.1.af})(aS:aj s.1)(c a b:Int)(hc:aD c (ag s.1))(ha:aD a (ag s.1))(hb:aD b (ag s.1))(bx p wd:Nat)(sv:Value)(aa:Option Addr)(ac:Nat){w0 w1:World}{L:List bh}(jP:Hp w0 w1 (rB bx 88 [.pointer (some ⟨p,0,none⟩),sv,.int .i64 (wd:Int),.bool s.2]::rB p 33 (y.wA aa ac s.1.af).cs::rO 120 2 gh aa ac s.1.af::L)):
  bN Tryz.prog 103 [.pointer (some ⟨bx,0,none⟩),.int .i64 c,.int .i64 a,.int .i64 b] w1 (fun v w'=>∃kv kx,v= .int .i64 (a6.jk s c a b).2/\Hp w0 w' (rB bx 88 [.pointer (some ⟨p,0,none⟩),sv,.int .i64 (wd:Int),.bool (a6.jk s c a b).1.2]::rB p 33 (y.wA kv kx (a6.jk s c a b).1.1.af).cs::rO 120 2 gh kv kx (a6.jk s c a b).1.1.af::L)):=by
 have m0:(y.wA aa ac s.1.af).n=s.1:=hs.symm
 have Si:aj (y.wA aa ac s.1.af).n:=by rw[m0];exact aS
 have xM:=aS.count
 refine enter Tryz.Qe _ _ rfl rfl (by show _<=_;simp only[List.length];decide) (fun C=> ?_);have hp:=jP;refine bL ?_
 refine aI hp ?_
 refine cy Tryz.func156 (KA (y.wA aa ac s.1.af) p c a b (hp.f2.f2) Si (by rw[m0];exact hc) (by rw[m0];exact ha) (by rw[m0];exact hb)) ?_;rintro _ w ⟨kv,kx,rfl,hp⟩;refine az ?_
 rw[m0] at hp⊢
 have hp:=hp.f1.f1.f2
 refine cy Tryz.func152 (Ci (dy s.1 c a b).2 bx p wd sv s.2 hp) ?_;rintro _ w ⟨rfl,hp⟩;refine az ?_;refine aq ?_
 have e:a6.jk s c a b=if(dy s.1 c a b).2<0 then(((dy s.1 c a b).1,true),0) else(((dy s.1 c a b).1,s.2),(dy s.1 c a b).2):=rfl
 by_cases h0:(dy s.1 c a b).2<0
 ·rw[if_pos h0] at e hp⊢
  rw[e]
  exact⟨kv,kx,rfl,hp⟩
 ·rw[if_neg h0] at e hp⊢
  rw[e]
  exact⟨kv,kx,rfl,hp⟩
end Go.Proofs
end
