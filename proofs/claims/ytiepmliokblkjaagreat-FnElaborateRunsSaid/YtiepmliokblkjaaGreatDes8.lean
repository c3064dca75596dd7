/- Drawn modules; under its stated conditions. Printed by wip/gen_des8.py. -/
import Derived.Test.YtiepmliokblkjaaGreatBrf
import Derived.Test.YtiepmliokblkjaaGreatJoin
set_option linter.all false
namespace Go.Xw
structure pV (x:bm)(s a i m:Nat):Prop where
 sg:x.sg.length<=s
 aP:x.aP.length<=a
 ops:∀y,y∈x.aP->y.ops.length<=9/\∀o,o∈y.ops->sU o
 ins:x.ins.length<=i
 ms:x.ms.length<=m
theorem CK.snoc {A:List Int}(h:CK A){z:Int}(hz:0<=z/\z<=1000000):CK (A++[z]):=fun j hj=>by
 by_cases dC:j<A.length
 ·rw[du dC];exact h j dC
 ·rw[List.length_append,List.length_singleton] at hj
  rw[show j=A.length by omega,List.getD_eq_getElem?_getD,List.getElem?_concat_length]
  exact hz
theorem CK.app {A B:List Int}(h:CK A)(hb:CK B):CK (A++B):=fun j hj=>by
 by_cases dC:j<A.length
 ·rw[du dC];exact h j dC
 ·rw[List.length_append] at hj
  have:=hb (j-A.length) (by omega)
  rw[List.getD_eq_getElem?_getD,List.getElem?_append_right (by omega),<-List.getD_eq_getElem?_getD]
  exact this
theorem pV.zero:pV default 0 0 0 0:=⟨Nat.le_refl _,Nat.le_refl _,fun _ h=>absurd h List.not_mem_nil,Nat.le_refl _,Nat.le_refl _⟩
theorem pV.Er {x:bm}{s a i m:Nat}(h:pV x s a i m)(X:List pQ){sa:Option Addr}{sc:Nat}{s':Nat}(hs:s+X.length<=s'):pV {x with sg:=x.sg++X,sa:=sa,sc:=sc} s' a i m:=⟨by show(x.sg++X).length<=s';have:=h.sg;rw[List.length_append];omega,h.aP,h.ops,h.ins,h.ms⟩
theorem pV.Hq {x:bm}{s a i m:Nat}(h:pV x s a i m){y:qJ}(hy:y.ops.length<=9/\∀o,o∈y.ops->sU o){aa:Option Addr}{ac:Nat}:pV {x with aP:=x.aP++[y],aa:=aa,ac:=ac} s (a+1) i m:=⟨h.sg,by show(x.aP++[y]).length<=a+1;have:=h.aP;rw[List.length_append,List.length_singleton];omega,fun q hq=>by
 rcases fY hq with hq|rfl
 ·exact h.ops q hq
 ·exact hy,h.ins,h.ms⟩
theorem pV.WL {x:bm}{s a i m:Nat}(h:pV x s a i m)(y:dO){ia:Option Addr}{ic:Nat}:pV {x with ins:=x.ins++[y],ia:=ia,ic:=ic} s a (i+1) m:=⟨h.sg,h.aP,h.ops,by show(x.ins++[y]).length<=i+1;have:=h.ins;rw[List.length_append,List.length_singleton];omega,h.ms⟩
theorem pV.WM {x:bm}{s a i m:Nat}(h:pV x s a i m)(y:yh){ma:Option Addr}{mc:Nat}:pV {x with ms:=x.ms++[y],ma:=ma,mc:=mc} s a i (m+1):=⟨h.sg,h.aP,h.ops,h.ins,by show(x.ms++[y]).length<=m+1;have:=h.ms;rw[List.length_append,List.length_singleton];omega⟩
theorem pV.WN {x:bm}{s a i m:Nat}(h:pV x s a i m)(j:Nat)(y:pQ):pV {x with sg:=x.sg.set j y} s a i m:=⟨by show(x.sg.set j y).length<=s;rw[List.length_set];exact h.sg,h.aP,h.ops,h.ins,h.ms⟩
theorem pV.mono {x:bm}{s a i m s' a' i' m':Nat}(h:pV x s a i m)(h1:s<=s')(h2:a<=a')(h3:i<=i')(h4:m<=m'):pV x s' a' i' m':=⟨Nat.le_trans h.sg h1,Nat.le_trans h.aP h2,h.ops,Nat.le_trans h.ins h3,Nat.le_trans h.ms h4⟩
end Go.Xw
namespace Go.Proofs
open Go.Xw
set_option maxRecDepth 100000
set_option maxHeartbeats 8000000
attribute [local irreducible] ax aE
theorem mf {w0 w:World}{L F:List bh}{p:Nat}{a:Option Addr}{n c:Nat}{code:List Int}(hR:Rd w0 a 1 xt code)(hn:code.length=n)(b:Option Addr)(cb:Nat)(X:List Int)[hX:gm w0 L b 1 eI X](h0:0<X.length)(h1:X.length<=200)(hp:Hp w0 w ((fv p a n c::L)++F)):
  bN Tryz.prog 187 [.pointer (some ⟨p,0,none⟩),.slice b X.length cb] w (fun v w'=>∃z,(v= .int .i64 z/\∃j,j<X.length/\z=X.getD j default)/\Hp w0 w' ((fv p a n c::L)++F)):=by
 have:gm w0 (L++F) b 1 eI X:=⟨fun w hp=>hX.h w hp.pre⟩
 exact pK (L:=L++F) hR hn hp b cb X h0 h1
theorem nJ {w0 w:World}{L:List bh}{p:Nat}{a:Option Addr}{n c:Nat}{code:List Int}(hR:Rd w0 a 1 xt code)(hn:code.length=n)(A:List Int)(va:Option Addr)(vc:Nat)(hA:CK A)(Xy:A.length<=100000)(x:bm)(s:Int)(hx:x.aP.length<=100000)[hV:gm w0 L va 1 eI A](hp:Hp w0 w (wy x.aa x.ac x.aP::fv p a n c::L)):
  bN Tryz.prog 189 [.pointer (some ⟨p,0,none⟩),x.v,.int .i64 s,.slice va A.length vc] w (fun v w'=>∃(y:qJ) (aa:Option Addr) (ac:Nat),(v=({x with aP:=x.aP++[y],aa:=aa,ac:=ac}:bm).v/\y.ops.length<=9/\∀o,o∈y.ops->sU o)/\Hp w0 w' (wy aa ac (x.aP++[y])::fv p a n c::L)):=by
 refine bN.mono (Eo hR hn A va vc hA Xy x s hx ((DC hp).f2)) ?_
 rintro v w ⟨y,aa,ac,h,hp⟩
 exact⟨y,aa,ac,h,(qK ((El (R:=x.aP) (y:=y) ((hp.f3.drop).f1.f1.f3.f3)).f2))⟩
theorem Es {w0 w:World}{L:List bh}{p:Nat}{a:Option Addr}{n c:Nat}{code:List Int}(hR:Rd w0 a 1 xt code)(hn:code.length=n)(D:ku)(hD:D.ms.length<=2)[qW w0 L D](hp:Hp w0 w (fv p a n c::L)):
  bN Tryz.prog 160 [.pointer (some ⟨p,0,none⟩),D.v] w (fun v w'=>∃x:bm,(v=x.v/\pV x 1000 1000 2 1)/\Hp w0 w' (mS x::fv p a n c::L)):=by
 refine vJ Tryz.QW ?_;intro C
 refine bP hp ?_;intro w b3 hx hp;refine az ?_
 refine bP hp ?_;intro w b4 hx hp;refine az ?_
 refine bP hp ?_;intro w b5 hx hp;refine az ?_;(repeat(first|(refine aH ?_;refine aW hp ?_;intro w hp;refine az ?_)|(refine bK ?_;refine gG hp ?_;intro w _ hx hp;refine az ?_)))
 rename_i b6 b7
 refine cy Tryz.func62 (cg hR hn hp.f5 2) ?_;rintro _ w ⟨z,⟨rfl,_,hz⟩,hp⟩;refine az ?_
 have hz:=hz (by decide)
 obtain⟨nn,Om⟩:∃nn:Nat,1+z=(nn:Int):=⟨(1+z).toNat,by omega⟩
 have hp:=(AA hp.KT).f5.f6.f9.f9.f9.f8.f8.f8.f8.f9
 refine jv [0,3,4,5,6,7,8,9] (fun(k:Nat) (V:List Int) (va:Option Addr) (vc:Nat)=>[(0,.pointer (some ⟨p,0,none⟩)),(3,.pointer (some ⟨b3,0,none⟩)),(4,.pointer (some ⟨b4,0,none⟩)),(5,.pointer (some ⟨b5,0,none⟩)),(6,.slice va V.length vc),(7,.slice (some ⟨b7,0,none⟩) 0 0),(8,.int .i64 (nn:Int)),(9,.int .i64 (k:Int))])
  (fun k V va vc w'=>(k<=nn/\V.length<=k/\CK V)/\∃x:bm,pV x k 0 0 0/\Hp w0 w' (fv p a n c::rO 66 3 n7 x.sa x.sc x.sg::wy x.aa x.ac x.aP::kP x.ia x.ic x.ins::rO 70 4 p9 x.ma x.mc x.ms::rB b5 41 x.cs::rB b4 41 (aL Tryz.np.zero)::rB b3 136 D.cs::rO 3 1 eI va vc V::rO 3 1 eI (some ⟨b7,0,none⟩) 0 []::L)) (fun k _ _ _=>nn-k) 0 [] _ _ (by rw[Om];rfl) ⟨⟨by omega,by decide,fun j hj=>absurd hj (Nat.not_lt_zero _)⟩,default,pV.zero,hp⟩ ?_
 clear hp
 rintro k V va vc w1 ⟨⟨hk,EF,hV⟩,x,iz,hp⟩ IH C
 have Ir:=iz.sg
 refine bL ?_
 apply ae<;>intro bD
 ·refine aN ?_;(repeat(first|(refine ah ?_;refine aI hp ?_)|(refine bK ?_;refine gG hp ?_;intro w _ hx hp;refine az ?_)))
  refine gT hp ?_;intro v2 c2 w hp bZ;refine az ?_
  have hp:=hp.drop
  refine fR hp ?_;(repeat(first|(refine gu ?_;refine fy ?_)|(refine qw ?_;refine lI rfl rfl rfl rfl rfl rfl rfl rfl rfl rfl ?_;intro _;refine cX ?_)))
  refine HQ ?_
  refine j8 Tryz.func187 (fun F w hp=> ?_);refine bN.mono (mf hR hn _ _ _ (by decide) (by decide) hp) ?_;rintro _ w ⟨z2,⟨rfl,_⟩,hp⟩;refine⟨fun _=>hp.pre.f1.drop,_,hp,?_⟩;clear hp;refine cX ?_
  refine pO n7 [(⟨0,z2,0⟩:pQ)] rfl rfl rfl rfl (s:=3) rfl (by decide) (by infer_instance) (by rfl) (by rfl) (by rfl) (by decide) ?_;intro bl;refine cX ?_
  refine fZ rfl rfl rfl rfl rfl rfl rfl (by decide) rfl (zl) rfl rfl (fun hq=>Bool.noConfusion (hq.symm.trans (by kernel_rfl:bH _ _=false))) ?_;intro s2 t2 bZ;refine cX ?_;refine Aj rfl rfl rfl rfl (by kernel_rfl) ?_;refine cX ?_
  refine dc ?_;intro w hp C;refine bL ?_
  refine IH (k+1) (V++[((x.sg.length:Nat):Int)]) v2 c2 _ _ _ (by omega) rfl ⟨⟨by omega,by rw[List.length_append,List.length_singleton];omega,hV.snoc (by omega)⟩,{x with sg:=x.sg++[⟨0,z2,0⟩],sa:=s2,sc:=t2},iz.Er [⟨0,z2,0⟩] (by rw[List.length_singleton];omega),hp.drop.f1.drop⟩
 ·refine aM ?_
  clear IH
  have iz:pV x 2 0 0 0:=⟨by omega,iz.aP,iz.ops,iz.ins,iz.ms⟩
  have EF:V.length<=2:=by omega
  clear bD hk Ir
  refine cy Tryz.func62 (cg hR hn hp 3) ?_;rintro _ w ⟨z2,⟨rfl,_,Ch⟩,hp⟩;refine az ?_
  have Ch:=Ch (by decide)
  obtain⟨n2,Ly⟩:=Int.eq_ofNat_of_zero_le Ch.1
  refine kg [0,3,4,5,6,7,8,10] (fun(k:Nat) (V:List Int) (va:Option Addr) (W:List Int) (wa:Option Addr) (cz:Nat×Nat)=>[(0,.pointer (some ⟨p,0,none⟩)),(3,.pointer (some ⟨b3,0,none⟩)),(4,.pointer (some ⟨b4,0,none⟩)),(5,.pointer (some ⟨b5,0,none⟩)),(6,.slice va V.length cz.1),(7,.slice wa W.length cz.2),(8,.int .i64 (n2:Int)),(10,.int .i64 (k:Int))])
   (fun k V va W wa cz w'=>((k<=n2/\V.length<=2+k/\W.length<=k)/\CK V/\CK W)/\∃x:bm,pV x (2+k) 0 0 0/\Hp w0 w' (fv p a n c::rO 66 3 n7 x.sa x.sc x.sg::wy x.aa x.ac x.aP::kP x.ia x.ic x.ins::rO 70 4 p9 x.ma x.mc x.ms::rB b5 41 x.cs::rB b4 41 (aL Tryz.np.zero)::rB b3 136 D.cs::rO 3 1 eI va cz.1 V::rO 3 1 eI wa cz.2 W::L)) (fun k _ _ _ _ _=>n2-k) 0 V va [] (some ⟨b7,0,none⟩) (vc,0) (by rw[Ly];rfl) ⟨⟨⟨by omega,by omega,by decide⟩,hV,fun j hj=>absurd hj (Nat.not_lt_zero _)⟩,x,iz,hp⟩ ?_
  clear hp iz hV EF
  rintro k V va W wa ⟨vc,wc⟩ w1 ⟨⟨⟨hk,EF,OO⟩,hV,hW⟩,x,iz,hp⟩ IH C
  have Ir:=iz.sg
  refine bL ?_
  apply ae<;>intro bD
  ·refine aN ?_;(repeat(first|(refine ah ?_;refine aI hp ?_)|(refine bK ?_;refine gG hp ?_;intro w _ hx hp;refine az ?_)))
   refine gT hp ?_;intro v2 c2 w hp bZ;refine az ?_;(repeat(first|(refine ah ?_;refine aI hp ?_)|(refine bK ?_;refine gG hp ?_;intro w _ hx hp;refine az ?_)))
   refine gT hp ?_;intro w2 d2 w hp bZ;refine az ?_
   have hp:=hp.drop.drop
   refine fR hp ?_;(repeat(first|(refine gu ?_;refine fy ?_)|(refine qw ?_;refine lI rfl rfl rfl rfl rfl rfl rfl rfl rfl rfl ?_;intro _;refine cX ?_)))
   refine HQ ?_
   refine j8 Tryz.func187 (fun F w hp=> ?_);refine bN.mono (mf hR hn _ _ _ (by decide) (by decide) hp) ?_;rintro _ w ⟨z3,⟨rfl,_⟩,hp⟩;refine⟨fun _=>hp.pre.f1.drop,_,hp,?_⟩;clear hp;refine cX ?_
   refine j8 Tryz.func62 (fun F w hp=> ?_);refine bN.mono (gk hR hn hp 4) ?_;rintro _ w ⟨z4,⟨rfl,_⟩,hp⟩;refine⟨fun _=>hp.pre.f1.drop,_,hp,?_⟩;clear hp;refine cX ?_
   refine pO n7 [(⟨3,z3,z4⟩:pQ)] rfl rfl rfl rfl (s:=3) rfl (by decide) (by infer_instance) (by rfl) (by rfl) (by rfl) (by decide) ?_;intro bl;refine cX ?_
   refine fZ rfl rfl rfl rfl rfl rfl rfl (by decide) rfl (zl) rfl rfl (fun hq=>Bool.noConfusion (hq.symm.trans (by kernel_rfl:bH _ _=false))) ?_;intro s2 t2 bZ;refine cX ?_;refine Aj rfl rfl rfl rfl (by kernel_rfl) ?_;refine cX ?_
   refine dc ?_;intro w hp C;refine bL ?_
   refine IH (k+1) (V++[((x.sg.length:Nat):Int)]) v2 (W++[((x.sg.length:Nat):Int)]) w2 (c2,d2) _ _ _ (by omega) rfl ⟨⟨⟨by omega,by rw[List.length_append,List.length_singleton];omega,by rw[List.length_append,List.length_singleton];omega⟩,hV.snoc (by omega),hW.snoc (by omega)⟩,{x with sg:=x.sg++[⟨3,z3,z4⟩],sa:=s2,sc:=t2},iz.Er [⟨3,z3,z4⟩] (by rw[List.length_singleton];omega),hp.drop.f1.drop⟩
  ·refine aM ?_
   clear IH
   have iz:pV x 4 0 0 0:=⟨by omega,iz.aP,iz.ops,iz.ins,iz.ms⟩
   have EF:V.length<=4:=by omega
   have OO:W.length<=2:=by omega
   clear bD hk Ir
   have EF:V.length<=64:=by omega
   refine jv [0,3,4,5,6,7,11] (fun(t:Nat) (V:List Int) (va:Option Addr) (vc:Nat)=>[(0,.pointer (some ⟨p,0,none⟩)),(3,.pointer (some ⟨b3,0,none⟩)),(4,.pointer (some ⟨b4,0,none⟩)),(5,.pointer (some ⟨b5,0,none⟩)),(6,.slice va V.length vc),(7,.slice wa W.length wc),(11,.int .i64 (t:Int))])
    (fun t V va vc w'=>(t<=2/\V.length<=64+30*t/\CK V)/\∃x:bm,pV x (4+30*t) (30*t) t 0/\Hp w0 w' (fv p a n c::rO 66 3 n7 x.sa x.sc x.sg::wy x.aa x.ac x.aP::kP x.ia x.ic x.ins::rO 70 4 p9 x.ma x.mc x.ms::rB b5 41 x.cs::rB b4 41 (aL Tryz.np.zero)::rB b3 136 D.cs::rO 3 1 eI va vc V::rO 3 1 eI wa wc W::L)) (fun t _ _ _=>2-t) 0 V va vc rfl ⟨⟨by omega,by omega,hV⟩,x,iz,hp⟩ ?_
   clear hp iz hV EF
   rintro t V va vc w1 ⟨⟨ht,EF,hV⟩,x,iz,hp⟩ IH C
   have Ir:=iz.sg
   have Ez:=iz.aP
   refine bL ?_;refine aI hp ?_
   (first|apply fx|apply cf)<;>intro h1 e<;>rw[e]<;>clear e;all_goals((repeat(refine aG ?_;first|refine aO ?_|refine ba ?_)))
   ·have bD:t<D.ms.length:=by omega
    refine ae (fun _=> ?_) (fun hg=>False.elim (by omega));refine aN ?_
    refine cy Tryz.func188 (oS hR hn hp 2) ?_;rintro _ w ⟨b,rfl,hp⟩;refine az ?_
    apply Cv [0,3,4,5,6,7,11] (fun _:Unit=>[(0,.pointer (some ⟨p,0,none⟩)),(3,.pointer (some ⟨b3,0,none⟩)),(4,.pointer (some ⟨b4,0,none⟩)),(5,.pointer (some ⟨b5,0,none⟩)),(6,.slice va V.length vc),(7,.slice wa W.length wc),(11,.int .i64 (t:Int))]) (fun _ w'=>Hp w0 w' (fv p a n c::rO 66 3 n7 x.sa x.sc x.sg::wy x.aa x.ac x.aP::kP x.ia x.ic x.ins::rO 70 4 p9 x.ma x.mc x.ms::rB b5 41 x.cs::rB b4 41 (aL Tryz.np.zero)::rB b3 136 D.cs::rO 3 1 eI va vc V::rO 3 1 eI wa wc W::L))
    ·intro J
     cases b
     ·(repeat(refine aO ?_))
      apply ae<;>intro h0
      ·refine aN ?_
       exact IH (t+1) V va vc _ _ _ (by omega) rfl ⟨⟨by omega,by omega,hV⟩,x,iz.mono (by omega) (by omega) (by omega) (by omega),hp⟩
      ·exact oT rfl (J () _ _ _ rfl hp)
     ·(repeat(refine ba ?_))
      exact oT rfl (J () _ _ _ rfl hp)
    ·clear hp
     rintro⟨⟩ w hp C
     refine bL ?_
     show ax _ _ _ _ _ (G.act (.load _ _) _)
     refine aI hp ?_
     refine cy Tryz.func62 (cg hR hn hp D.ms.length) ?_;rintro _ w ⟨z5,⟨rfl,_,hz5⟩,hp⟩;refine az ?_;refine gG hp ?_;intro w _ hx hp;refine az ?_
     have hz5:=hz5 (by omega)
     obtain⟨q,rfl⟩:=Int.eq_ofNat_of_zero_le hz5.1
     have lq:Ln q D.ms:=⟨by omega⟩
     refine cy Tryz.func187 (pK hR hn hp.f1 _ _ _ (by decide) (by decide)) ?_;rintro _ w ⟨z6,⟨rfl,_⟩,hp⟩;refine az ?_
     refine bP hp ?_;intro w ti hx hp;refine az ?_;(repeat(first|(refine ah ?_;first|refine aI hp ?_|refine bb hp ?_)|(refine aH ?_;refine aW hp ?_;intro w hp;refine az ?_)))
     refine bP hp ?_;intro w zO hx hp;refine az ?_;(repeat(first|(refine ah ?_;refine aI hp ?_)|(refine aH ?_;refine aW hp ?_;intro w hp;refine az ?_)))
     obtain⟨N,hN⟩:∃N,N=D.ms.getD q default:=⟨_,rfl⟩
     have nh:nV w0 (rB zO 41 N.cs::rB ti 150 [.int .i64 ((q:Nat):Int),.int .i64 z6,.slice none 0 0]::fv p a n c::L) N:=by rw[hN];infer_instance
     have nl:nV w0 L N:=by rw[hN];infer_instance
     rw[<-hN] at hp⊢
     refine cy Tryz.func171 (rM N _ hp.mod) ?_;rintro _ w ⟨bp,cp,rfl,hq⟩;have hx:=hq.x;have hp:=hp.bJ hq;refine az ?_;refine gG hp ?_;intro w _ hx hp;refine az ?_
     rename_i b15
     have Lj:=(hp.mod (x:=N)).sg.h.1
     have AL:=uu N.n
     have hPi:∀j,j<(gS N.n).length->0<=(gS N.n).getD j default/\(gS N.n).getD j default<N.sg.length:=fun j hj=>Cq N.n hj
     have hp:Hp w0 w (rO 3 1 eI none 0 []::_):=((hp.f5.drop)).eH (Ext.refl _) (dk.nil _ _ _ _ _)
     refine jv [0,3,4,5,6,7,11,12,13,14,15,16] (fun(j:Nat) (U:List Int) (ua:Option Addr) (uc:Nat)=>[(0,.pointer (some ⟨p,0,none⟩)),(3,.pointer (some ⟨b3,0,none⟩)),(4,.pointer (some ⟨b4,0,none⟩)),(5,.pointer (some ⟨b5,0,none⟩)),(6,.slice va V.length vc),(7,.slice wa W.length wc),(11,.int .i64 (t:Int)),(12,.pointer (some ⟨ti,0,none⟩)),(13,.pointer (some ⟨zO,0,none⟩)),(14,.slice bp (gS N.n).length cp),(15,.slice ua U.length uc),(16,.int .i64 (j:Int))])
      (fun j U ua uc w'=>(j<=(gS N.n).length/\U.length<=j/\CK U)/\∃(x:bm) (I:List Int) (ia:Option Addr) (ic:Nat),(pV x (4+30*t+j) (30*t+j) t 0/\I.length=j)/\Hp w0 w' (rO 3 1 eI ia ic I::rO 3 1 eI ua uc U::rO 3 1 eI bp cp (gS N.n)::rB zO 41 N.cs::rB ti 150 [.int .i64 ((q:Nat):Int),.int .i64 z6,.slice ia I.length ic]::fv p a n c::rO 66 3 n7 x.sa x.sc x.sg::wy x.aa x.ac x.aP::kP x.ia x.ic x.ins::rO 70 4 p9 x.ma x.mc x.ms::rB b5 41 x.cs::rB b4 41 (aL Tryz.np.zero)::rB b3 136 D.cs::rO 3 1 eI va vc V::rO 3 1 eI wa wc W::L)) (fun j _ _ _=>(gS N.n).length-j) 0 [] _ _ rfl ⟨⟨by omega,by decide,fun j hj=>absurd hj (Nat.not_lt_zero _)⟩,x,[],none,0,⟨iz,rfl⟩,hp⟩ ?_
     clear hp iz Ir Ez
     rintro j U ua uc w1 ⟨⟨hj,hUl,hU⟩,x,I,ia,ic,⟨iz,Lo⟩,hp⟩ kE C
     have Ir:=iz.sg
     have Ez:=iz.aP
     refine bL ?_
     apply ae<;>intro jK
     ·have zf:j<(gS N.n).length:=by omega
      have hPj:=hPi j zf
      have Lj:=Lj (by omega)
      refine aN ?_
      refine j7 hp ?_;intro w hx hp;have hs:=hp;(repeat(refine ah ?_;first|refine dN ?_|refine fc ?_|refine iC rfl (by omega) (by omega) rfl rfl rfl ?_))
      show ax _ _ _ _ _ (G.cond _ _ _ _)
      apply Cv [0,3,4,5,6,7,11,12,13,14,15,16,17] (fun z:Int=>[(0,.pointer (some ⟨p,0,none⟩)),(3,.pointer (some ⟨b3,0,none⟩)),(4,.pointer (some ⟨b4,0,none⟩)),(5,.pointer (some ⟨b5,0,none⟩)),(6,.slice va V.length vc),(7,.slice wa W.length wc),(11,.int .i64 (t:Int)),(12,.pointer (some ⟨ti,0,none⟩)),(13,.pointer (some ⟨zO,0,none⟩)),(14,.slice bp (gS N.n).length cp),(15,.slice ua U.length uc),(16,.int .i64 (j:Int)),(17,.int .i64 z)]) (fun _ w'=>Hp w0 w' (rO 3 1 eI ia ic I::rO 3 1 eI ua uc U::rO 3 1 eI bp cp (gS N.n)::rB zO 41 N.cs::rB ti 150 [.int .i64 ((q:Nat):Int),.int .i64 z6,.slice ia I.length ic]::fv p a n c::rO 66 3 n7 x.sa x.sc x.sg::wy x.aa x.ac x.aP::kP x.ia x.ic x.ins::rO 70 4 p9 x.ma x.mc x.ms::rB b5 41 x.cs::rB b4 41 (aL Tryz.np.zero)::rB b3 136 D.cs::rO 3 1 eI va vc V::rO 3 1 eI wa wc W::L))
      ·intro J
       apply ae<;>intro hw
       rotate_left
       ·exact oT rfl (J _ _ _ _ rfl hp)
       ·refine aN ?_
        show ax _ _ _ _ _ (G.act (.load _ _) _)
        exact SG hp rfl rfl (J z6 _ _ _ rfl hp)
      ·clear hp
       intro z w hp C
       refine bL ?_
       show ax _ _ _ _ _ (G.act (.load _ _) _)
       (repeat(refine aI hp ?_))
       refine lX hp n7 [(⟨2,z,0⟩:pQ)] ?_;intro w bl hx hp;refine az ?_
       refine gT hp ?_;intro s2 t2 w hp bZ;refine az ?_;(repeat(first|(refine ah ?_;refine aI hp ?_)|(refine aH ?_;refine iE hp ?_;intro w hp;refine az ?_)|(refine bK ?_;refine gG hp ?_;intro w _ hx hp;refine az ?_)))
       refine gT hp ?_;intro i2 j2 w hp bZ;refine az ?_;refine iE hp ?_;intro w hp;refine az ?_
       have hp:=hp.drop.drop
       have iz:=iz.Er [⟨2,z,0⟩] (sa:=s2) (sc:=t2) (s':=4+30*t+(j+1)) (by rw[List.length_singleton];omega)
       have mh:(I++[((x.sg.length:Nat):Int)]).length=j+1:=by rw[List.length_append,Lo];rfl
       refine j7 hp ?_;intro w hx hp;have hs:=hp;(repeat(refine ah ?_;first|refine dN ?_|refine fc ?_|refine iC rfl (by omega) (by omega) rfl rfl rfl ?_))
       show ax _ _ _ _ _ (G.cond _ _ _ _)
       apply ae<;>intro hk
       ·refine aN ?_;refine gG hp ?_;intro w _ hx hp;refine az ?_
        refine gT hp ?_;intro u2 d2 w hp bZ;refine az ?_
        exact kE (j+1) (U++[((x.sg.length:Nat):Int)]) u2 d2 _ _ _ (by omega) rfl ⟨⟨by omega,by rw[List.length_append,List.length_singleton];omega,hU.snoc (by omega)⟩,{x with sg:=x.sg++[⟨2,z,0⟩],sa:=s2,sc:=t2},I++[((x.sg.length:Nat):Int)],i2,j2,⟨iz.mono (by omega) (by omega) (by omega) (by omega),mh⟩,hp.drop⟩
       ·refine aM ?_;refine aI hp ?_
        refine cy Tryz.func189 (nJ hR hn V va vc hV (by omega) {x with sg:=x.sg++[⟨2,z,0⟩],sa:=s2,sc:=t2} _ (by show x.aP.length<=_;omega) (hp.f6.f5.f5.f5.f5.f5.f6.f7)) ?_
        rintro _ w ⟨y,aa,ac,⟨rfl,hy⟩,hp⟩
        refine az ?_;refine aW hp ?_;intro w hp;refine az ?_
        exact kE (j+1) U ua uc _ _ _ (by omega) rfl ⟨⟨by omega,by omega,hU⟩,{x with sg:=x.sg++[⟨2,z,0⟩],sa:=s2,sc:=t2,aP:=x.aP++[y],aa:=aa,ac:=ac},I++[((x.sg.length:Nat):Int)],i2,j2,⟨(iz.Hq hy).mono (by omega) (by omega) (by omega) (by omega),mh⟩,hp.f7.f2.f7.f7.f7.f7.f7⟩
     ·refine aM ?_;(repeat(refine aI hp ?_))
      obtain rfl:j=(gS N.n).length:=by omega
      clear kE
      have hx3:=iz.ins
      have hp:=H5 ((hp.f2.drop).f7)
      refine lX hp ke [(⟨((q:Nat):Int),z6,I,ia,ic⟩:dO)] ?_;intro w bl hx hp;refine az ?_
      refine gT hp ?_;intro q2 r2 w hp bZ;refine az ?_;refine iE hp ?_;intro w hp;refine az ?_
      refine gT hp ?_;intro v2 c2 w hp bZ;refine az ?_
      have h:=ry ((qy (y:=⟨((q:Nat):Int),z6,I,ia,ic⟩) ((hp.drop).f1.f2)).f1)
      have iz:=iz.WL ⟨((q:Nat):Int),z6,I,ia,ic⟩ (ia:=q2) (ic:=r2)
      exact IH (t+1) (V++U) v2 c2 _ _ _ (by omega) rfl ⟨⟨by omega,by rw[List.length_append];omega,hV.app hU⟩,{x with ins:=x.ins++[⟨((q:Nat):Int),z6,I,ia,ic⟩],ia:=q2,ic:=r2},iz.mono (by omega) (by omega) (by omega) (by omega),(((h.f1.drop).f1.drop).f1.drop).f3.f3.f3⟩
   ·refine aM ?_
    have iz:pV x 64 60 2 0:=iz.mono (by omega) (by omega) (by omega) (by omega)
    have EF:V.length<=124:=by omega
    clear IH h1 ht Ir Ez
    have Ir:=iz.sg
    have hx3:=iz.ms
    have hp:=((hp.f7).drop)
    refine cy Tryz.func188 (oS hR hn hp 4) ?_;rintro _ w ⟨b,rfl,hp⟩;refine az ?_
    apply Cv [0,4,5,6,7] (fun q:List Int×Option Addr×Nat=>[(0,.pointer (some ⟨p,0,none⟩)),(4,.pointer (some ⟨b4,0,none⟩)),(5,.pointer (some ⟨b5,0,none⟩)),(6,.slice q.2.1 q.1.length q.2.2),(7,.slice wa W.length wc)])
     (fun q w'=>(q.1.length<=125/\CK q.1)/\∃x:bm,pV x 68 63 2 1/\Hp w0 w' (fv p a n c::rO 66 3 n7 x.sa x.sc x.sg::wy x.aa x.ac x.aP::kP x.ia x.ic x.ins::rO 70 4 p9 x.ma x.mc x.ms::rB b5 41 x.cs::rB b4 41 (aL Tryz.np.zero)::rO 3 1 eI q.2.1 q.2.2 q.1::rO 3 1 eI wa wc W::L))
    ·intro J
     cases b
     ·exact oT rfl (J (V,va,vc) _ _ _ rfl ⟨⟨by show V.length<=125;omega,hV⟩,x,iz.mono (by omega) (by omega) (by omega) (by omega),hp⟩)
     ·refine aN ?_;refine aI hp ?_
      refine cy Tryz.func62 (cg hR hn hp 2) ?_;rintro _ w ⟨z,⟨rfl,_,hz⟩,hp⟩;refine az ?_;refine aI hp ?_
      have hz:=hz (by decide)
      refine lX hp n7 [(⟨2,2,0⟩:pQ),⟨2,1+z,0⟩,⟨2,1,0⟩,⟨2,1+z,0⟩] ?_;intro w bl hx hp;refine az ?_
      refine gT hp ?_;intro s2 t2 w hp bZ;refine az ?_;(repeat(first|(refine ah ?_;refine aI hp ?_)|(refine aH ?_;refine iE hp ?_;intro w hp;refine az ?_)))
      refine lX hp p9 [(⟨((x.sg.length:Nat):Int),((x.sg.length:Nat):Int)+1,((x.sg.length:Nat):Int)+2,((x.sg.length:Nat):Int)+3⟩:yh)] ?_;intro w bl2 hx hp;refine az ?_
      refine gT hp ?_;intro m2 c2 w hp bZ;refine az ?_;(repeat(first|(refine aH ?_;refine iE hp ?_;intro w hp;refine az ?_)|(refine bK ?_;refine gG hp ?_;intro w _ hx hp;refine az ?_)))
      refine gT hp ?_;intro v2 d2 w hp bZ;refine az ?_
      have hp:=hp.drop.drop.drop
      have iz:=((iz.Er [(⟨2,2,0⟩:pQ),⟨2,1+z,0⟩,⟨2,1,0⟩,⟨2,1+z,0⟩] (sa:=s2) (sc:=t2) (s':=68) (by show 64+4<=68;decide)).WM (⟨((x.sg.length:Nat):Int),((x.sg.length:Nat):Int)+1,((x.sg.length:Nat):Int)+2,((x.sg.length:Nat):Int)+3⟩:yh) (ma:=m2) (mc:=c2))
      have hV:CK (V++[((x.sg.length:Nat):Int)+3]):=hV.snoc (by omega)
      have EF:(V++[((x.sg.length:Nat):Int)+3]).length<=125:=by rw[List.length_append,List.length_singleton];omega
      refine aR [0,4,5,6,7,19,21] (fun(k:Nat)=>[(0,.pointer (some ⟨p,0,none⟩)),(4,.pointer (some ⟨b4,0,none⟩)),(5,.pointer (some ⟨b5,0,none⟩)),(6,.slice v2 (V++[((x.sg.length:Nat):Int)+3]).length d2),(7,.slice wa W.length wc),(19,.int .i64 (x.sg.length:Nat)),(21,.int .i64 (k:Int))])
       (fun k w'=>k<=3/\∃y:bm,pV y 68 (60+k) 2 1/\Hp w0 w' (fv p a n c::rO 66 3 n7 y.sa y.sc y.sg::wy y.aa y.ac y.aP::kP y.ia y.ic y.ins::rO 70 4 p9 y.ma y.mc y.ms::rB b5 41 y.cs::rB b4 41 (aL Tryz.np.zero)::rO 3 1 eI v2 d2 (V++[((x.sg.length:Nat):Int)+3])::rO 3 1 eI wa wc W::L)) (fun k=>3-k) 0 rfl ⟨by omega,_,iz,hp⟩ ?_
      clear hp iz hx3
      rintro k w1 ⟨hk,y,iz,hp⟩ IH C
      have Ez:=iz.aP
      refine bL ?_
      apply ae<;>intro bD
      ·refine aN ?_;refine aI hp ?_
       refine cy Tryz.func189 (nJ hR hn _ v2 d2 hV (by omega) y _ (by omega) (hp.f1.f1.f2)) ?_
       rintro _ w ⟨z',aa,ac,⟨rfl,hy⟩,hp⟩
       refine az ?_;refine aW hp ?_;intro w hp;refine az ?_
       exact IH (k+1) _ _ _ (by omega) rfl ⟨by omega,{y with aP:=y.aP++[z'],aa:=aa,ac:=ac},iz.Hq hy,hp.f2.f2⟩
      ·exact Iy rfl rfl (J (V++[((x.sg.length:Nat):Int)+3],v2,d2) _ _ _ rfl ⟨⟨EF,hV⟩,y,iz.mono (by omega) (by omega) (by omega) (by omega),hp⟩)
    ·clear hp iz hV EF Ir hx3
     rintro⟨V,va,vc⟩ w ⟨⟨EF,hV⟩,x,iz,hp⟩ C
     dsimp only at EF hV hp⊢
     refine bL ?_
     show ax _ _ _ _ _ (G.act (.call _ _) _)
     refine cy Tryz.func62 (cg hR hn hp 2) ?_;rintro _ w ⟨z,⟨rfl,_,hz⟩,hp⟩;refine az ?_
     have hz:=hz (by decide)
     obtain⟨n3,hn3⟩:∃nn:Nat,1+z=(nn:Int):=⟨(1+z).toNat,by omega⟩
     refine jv [0,4,5,6,7,8,22] (fun(k:Nat) (V:List Int) (va:Option Addr) (vc:Nat)=>[(0,.pointer (some ⟨p,0,none⟩)),(4,.pointer (some ⟨b4,0,none⟩)),(5,.pointer (some ⟨b5,0,none⟩)),(6,.slice va V.length vc),(7,.slice wa W.length wc),(8,.int .i64 (n3:Int)),(22,.int .i64 (k:Int))])
      (fun k V va vc w'=>(k<=n3/\V.length<=125+k/\CK V)/\∃x:bm,pV x (68+k) (63+k) 2 1/\Hp w0 w' (fv p a n c::rO 66 3 n7 x.sa x.sc x.sg::wy x.aa x.ac x.aP::kP x.ia x.ic x.ins::rO 70 4 p9 x.ma x.mc x.ms::rB b5 41 x.cs::rB b4 41 (aL Tryz.np.zero)::rO 3 1 eI va vc V::rO 3 1 eI wa wc W::L)) (fun k _ _ _=>n3-k) 0 V va vc (by rw[hn3];rfl) ⟨⟨by omega,by omega,hV⟩,x,iz,hp⟩ ?_
     clear hp iz hV EF
     rintro k V va vc w1 ⟨⟨hk,EF,hV⟩,x,iz,hp⟩ IH C
     have Ir:=iz.sg
     refine bL ?_
     apply ae<;>intro bD
     ·refine aN ?_;refine aI hp ?_
      refine fR hp ?_;(repeat(first|(refine gu ?_;refine fy ?_)|(refine qw ?_;refine lI rfl rfl rfl rfl rfl rfl rfl rfl rfl rfl ?_;intro _;refine cX ?_)))
      refine HQ ?_
      refine j8 Tryz.func187 (fun F w hp=> ?_);refine bN.mono (mf hR hn _ _ _ (by decide) (by decide) hp) ?_;rintro _ w ⟨z3,⟨rfl,_⟩,hp⟩;refine⟨fun _=>hp.pre.f1.drop,_,hp,?_⟩;clear hp;refine cX ?_;refine lI rfl rfl rfl rfl rfl rfl rfl rfl rfl rfl ?_;intro _;refine cX ?_
      refine HQ ?_
      refine j8 Tryz.func187 (fun F w hp=> ?_);refine bN.mono (mf hR hn _ _ _ (by decide) (by decide) hp) ?_;rintro _ w ⟨z4,⟨rfl,_⟩,hp⟩;refine⟨fun _=>hp.pre.f1.drop.f1.drop,_,hp,?_⟩;clear hp;refine cX ?_
      refine pO n7 [(⟨z3,z4,0⟩:pQ)] rfl rfl rfl rfl (s:=3) rfl (by decide) (by infer_instance) (by rfl) (by rfl) (by rfl) (by decide) ?_;intro bl;refine cX ?_
      refine fZ rfl rfl rfl rfl rfl rfl rfl (by decide) rfl (zl) rfl rfl (fun hq=>Bool.noConfusion (hq.symm.trans (by kernel_rfl:bH _ _=false))) ?_;intro s2 t2 bZ;refine cX ?_;refine Aj rfl rfl rfl rfl (by kernel_rfl) ?_;refine cX ?_
      refine dc ?_;intro w hp C;refine bL ?_
      have hp:=hp.drop.f1.drop.f1.drop
      have iz:=iz.Er [(⟨z3,z4,0⟩:pQ)] (sa:=s2) (sc:=t2) (s':=69+k) (by rw[List.length_singleton];omega)
      have sY:(x.sg++[(⟨z3,z4,0⟩:pQ)]).length=x.sg.length+1:=by rw[List.length_append];rfl
      have u5:s2≠none:=fun h=>absurd (bZ.1 h).2 (List.cons_ne_nil _ _)
      apply Cv [0,4,5,6,7,8,22,23] (fun _:Unit=>[(0,.pointer (some ⟨p,0,none⟩)),(4,.pointer (some ⟨b4,0,none⟩)),(5,.pointer (some ⟨b5,0,none⟩)),(6,.slice va V.length vc),(7,.slice wa W.length wc),(8,.int .i64 (n3:Int)),(22,.int .i64 (k:Int)),(23,.int .i64 (x.sg.length:Nat))])
       (fun _ w'=>∃x:bm,pV x (69+k) (63+k) 2 1/\Hp w0 w' (fv p a n c::rO 66 3 n7 x.sa x.sc x.sg::wy x.aa x.ac x.aP::kP x.ia x.ic x.ins::rO 70 4 p9 x.ma x.mc x.ms::rB b5 41 x.cs::rB b4 41 (aL Tryz.np.zero)::rO 3 1 eI va vc V::rO 3 1 eI wa wc W::L))
      ·intro J
       apply ae<;>intro CB
       rotate_left
       ·exact oT rfl (J () _ _ _ rfl ⟨_,iz,hp⟩)
       ·refine aN ?_
        show ax _ _ _ _ _ (G.act (.load _ _) _)
        refine aI hp ?_
        refine Jn hp (⟨1,((x.sg++[(⟨z3,z4,0⟩:pQ)]).getD x.sg.length default).width,((x.sg++[(⟨z3,z4,0⟩:pQ)]).getD x.sg.length default).init⟩:pQ) rfl rfl rfl (by omega) (by decide) rfl rfl ?_
        intro w hp
        generalize (⟨1,((x.sg++[(⟨z3,z4,0⟩:pQ)]).getD x.sg.length default).width,((x.sg++[(⟨z3,z4,0⟩:pQ)]).getD x.sg.length default).init⟩:pQ)=Y at hp
        rw[show(x.sg++[(⟨z3,z4,0⟩:pQ)]).length=((x.sg++[(⟨z3,z4,0⟩:pQ)]).set x.sg.length Y).length from List.length_set.symm] at hp
        exact Ep mF rfl (J () _ _ _ rfl ⟨_,iz.WN x.sg.length Y,hp⟩)
      ·obtain⟨s,hs⟩:∃s,s=x.sg.length:=⟨_,rfl⟩
       rw[<-hs] at Ir⊢
       clear hp iz
       rintro⟨⟩ w ⟨x,iz,hp⟩ C
       have Ez:=iz.aP
       refine bL ?_
       show ax _ _ _ _ _ (G.act (.load _ _) _)
       refine aI hp ?_
       refine cy Tryz.func189 (nJ hR hn V va vc hV (by omega) x _ (by omega) (hp.f1.f1.f2)) ?_
       rintro _ w ⟨y,aa,ac,⟨rfl,hy⟩,hp⟩
       refine az ?_;(repeat(first|(refine aH ?_;refine aW hp ?_;intro w hp;refine az ?_)|(refine bK ?_;refine gG hp ?_;intro w _ hx hp;refine az ?_)))
       refine gT hp ?_;intro v2 d2 w hp bZ;refine az ?_
       exact IH (k+1) (V++[((s:Nat):Int)]) v2 d2 _ _ _ (by omega) rfl ⟨⟨by omega,by rw[List.length_append,List.length_singleton];omega,hV.snoc (by omega)⟩,{x with aP:=x.aP++[y],aa:=aa,ac:=ac},(iz.Hq hy).mono (by omega) (by omega) (by omega) (by omega),(hp.drop).f2.f2⟩
     ·refine aM ?_
      clear IH
      have iz:pV x 70 65 2 1:=iz.mono (by omega) (by omega) (by omega) (by omega)
      have EF:V.length<=200:=by omega
      refine aR [0,4,5,6,7,24] (fun(k:Nat)=>[(0,.pointer (some ⟨p,0,none⟩)),(4,.pointer (some ⟨b4,0,none⟩)),(5,.pointer (some ⟨b5,0,none⟩)),(6,.slice va V.length vc),(7,.slice wa W.length wc),(24,.int .i64 (k:Int))])
       (fun k w'=>k<=W.length/\∃x:bm,pV x 70 (65+k) 2 1/\Hp w0 w' (fv p a n c::rO 66 3 n7 x.sa x.sc x.sg::wy x.aa x.ac x.aP::kP x.ia x.ic x.ins::rO 70 4 p9 x.ma x.mc x.ms::rB b5 41 x.cs::rB b4 41 (aL Tryz.np.zero)::rO 3 1 eI va vc V::rO 3 1 eI wa wc W::L)) (fun k=>W.length-k) 0 rfl ⟨by omega,x,iz,hp⟩ ?_
      clear hp iz bD hk Ir
      rintro k w1 ⟨hk,x,iz,hp⟩ IH C
      have Ez:=iz.aP
      refine bL ?_
      apply ae<;>intro bD
      ·have aF:k<W.length:=by omega
       refine aN ?_
       refine j7 hp ?_;intro w hx hp;have hs:=hp;(repeat(refine ah ?_;first|refine dN ?_|refine fc ?_))
       refine oW Tryz.func189 (nJ hR hn V va vc hV (by omega) x _ (by omega) (hp.f1.f1.f2)) ?_;rintro _ w ⟨y,aa,ac,⟨rfl,hy⟩,hp⟩;refine⟨fun hq=>Bool.noConfusion (hq.symm.trans (by kernel_rfl:bH _ _=false)),?_⟩;refine fO ?_;refine uT hp rfl rfl rfl rfl (by kernel_rfl) ?_;intro w hp;refine fO ?_
       skip
       exact IH (k+1) _ _ _ (by omega) rfl ⟨by omega,{x with aP:=x.aP++[y],aa:=aa,ac:=ac},iz.Hq hy,hp.f2.f2⟩
      ·refine aM ?_;(repeat(first|(refine ah ?_;refine aI hp ?_)|(refine aH ?_;refine aW hp ?_;intro w hp;refine az ?_)|(refine dA ?_;refine iD hp rfl ?_)))
       have h:=oH (x:=x) (hp.f4.f4.f4.f4)
       exact⟨x,⟨rfl,iz.mono (by omega) (by omega) (by omega) (by omega)⟩,(((h.f2.drop).f2.drop).f2.drop).f2.drop⟩
end Go.Proofs
