/- The contract of the program's Elaborate; under its stated conditions. -/
import Derived.Test.YtiepmliokblkjaaGreatBrf
import Derived.Test.YtiepmliokblkjaaGreatElabM
set_option linter.all false
namespace Go.Proofs
open Go.Xw
set_option maxRecDepth 100000
set_option maxHeartbeats 8000000
attribute [local irreducible] ax aE
theorem FY (x:bm)(w0:World)(hM:iH w0 x)(hS:qK x.n)(hW:qL x.n):
  bN Tryz.prog 8 [x.v] w0 (fun v w=>∃y,(y.n=(BV x.n).1/\v= .tuple ⟨[y.v,.bool (BV x.n).2]⟩)/\Hp w0 w [dv y]):=by
 refine eu Tryz.X8 ?_;intro C hp;skip;refine bP hp ?_;intro w b1 hx hp;refine az ?_;skip;refine bP hp ?_;intro w b2 hx hp;refine az ?_;refine aH hp ?_
 by_cases hf:ch x.n
 ·obtain⟨l,he⟩:∃l,gQ x.n=some l:=by
   have h:=hf.ev
   cases he:gQ x.n with
   |none=>rw[he] at h;exact Bool.noConfusion h
   |some l=>exact⟨l,rfl⟩
  have hm:=(dH hf).2
  have l1:x.sg.length<=30:=hm.l1
  have l2:x.aP.length<=30:=by have:=hm.l2;rw[x.cy] at this;exact this
  have l3:x.ms.length<=2:=hm.l3
  have p0:=DX hm 0
  have E8:fB x.n=true:=cR.2 hf
  refine bQ hp Tryz.func36 (uh x _ hp.mod hS hW) ?_;intro w hx hp
  rw[E8]
  refine aM ?_;refine aH hp ?_
  refine cx Tryz.func18 (iX x 0 _ hp.mod l1) ?_;rintro _ w ⟨bw,cw,rfl,hq⟩;have hx:=hq.x;have hp:=hp.bJ hq;refine az ?_
  refine bQ hp Tryz.func37 (rI bw cw _ (ee x.n 0) rfl _ hp.rd p0.1 p0.2) ?_;intro w hx hp
  refine bP hp ?_;intro w b4 hx hp;refine az ?_;(repeat(first|(refine ah ?_;refine aH hp ?_)|(refine aI ?_;refine aW hp ?_;intro w hp;refine az ?_)))
  refine mF hp (jk (α:=Int)) (default:cL Int) rfl rfl rfl rfl (s:=1) rfl (by decide) rfl (by unfold maxLen;omega) (by show 24*_<=_;omega) ?_;intro w bs hx hp;refine az ?_
  refine bP hp ?_;intro w b5 hx hp;refine az ?_;refine iC hp ?_;intro w hp;refine az ?_
  refine bP hp ?_;intro w b6 hx hp;refine az ?_;(repeat(first|(refine ah ?_;refine aH hp ?_)|(refine aI ?_;refine iC hp ?_;intro w hp;refine az ?_)))
  have hp:=sV (e:=3) (s:=1) (enc:=eI) x.sg.length hp
  have eW:∀s:Nat,s<x.sg.length->(x.sg.getD s default).width=((wN x.n (s:Nat):Nat):Int)/\wN x.n (s:Nat)<=4:=fun s hs=>by
   have h1:=oL hm (s:=(s:Nat)) (by unfold dr;exact⟨by omega,by show(s:Int)<x.sg.length;omega⟩)
   have h2:=(nY hm hf (s:=(s:Nat)) (by unfold dr;exact⟨by omega,by show(s:Int)<x.sg.length;omega⟩)).2
   rw[pv] at h1
   exact⟨h1.symm,h2⟩
  refine aR [1,2,4,5,7,50,51,52] (fun(i:Nat)=>[(1,.pointer (some ⟨b1,0,none⟩)),(2,.pointer (some ⟨b2,0,none⟩)),(4,.pointer (some ⟨b4,0,none⟩)),(5,.pointer (some ⟨b5,0,none⟩)),(7,.func (.func 38) ⟨[]⟩ ⟨[.pointer (some ⟨b1,0,none⟩),.pointer (some ⟨b5,0,none⟩),.pointer (some ⟨b6,0,none⟩)]⟩),(50,.slice x.sa x.sg.length x.sc),(51,.int .i64 x.sg.length),(52,.int .i64 (i:Int))])
   (fun i w'=>i<=x.sg.length/\∃R p,(R.length=x.sg.length/\(aJ R,p)=tj x.n i)/\Hp w0 w' [rO 31 1 jk (some ⟨bs,0,none⟩) x.sg.length R,cC 3 1 eI R,rB b6 3 [.int .i64 ((p:Nat):Int)],rB b5 50 [.slice (some ⟨bs,0,none⟩) x.sg.length x.sg.length],rB b1 41 x.cs,rB b4 33 [.int .i64 (cT (ee x.n 0)),.slice none 0 0,.slice none 0 0,.slice none 0 0],rB b2 33 (aL Tryz.dY.zero)]) (fun i=>x.sg.length-i) 0 rfl ⟨by omega,List.replicate x.sg.length default,1,⟨by simp,by
    show(aJ _,1)=(List.replicate x.sg.length [],1)
    unfold aJ
    rw[List.map_replicate];rfl⟩,(hp.f6.f5.f7.f5.f5.f5.f6).tk 7⟩ ?_
  clear hp
  rintro i w1 ⟨hi,R,p,⟨fF,fO⟩,hp⟩ IH C
  refine bL ?_
  apply ae<;>intro bD
  ·have aF:i<x.sg.length:=by omega
   obtain⟨e1,e2⟩:=eW i aF
   have hb:=OX hm hi
   rw[<-fO] at hb
   have lN:=hb.row i aF
   rw[bk] at lN
   refine aN ?_;refine bb hp ?_
   refine bP hp ?_;intro w b9 hx hp;refine az ?_;(repeat(first|(refine ah ?_;refine aH hp ?_)|(refine aI ?_;refine aW hp ?_;intro w hp;refine az ?_)))
   apply ae<;>intro hk
   ·have eN:tj x.n (i+1)=iV (tj x.n i) i (wN x.n (i:Nat)):=by rw[tj,if_pos (by rw[bG];exact hk)]
    refine aN ?_
    refine cx Tryz.func38 (zi x w0 hM b1 b5 b6 bs p i _ rfl aF (wN x.n (i:Nat)) e1 e2 l1 R fF lN hb.pos _ _ (hp.f5.f5.f5.f5.f5)) ?_;rintro _ w ⟨R',rfl,⟨Eh,Cp⟩,hp⟩;refine az ?_
    exact IH (i+1) _ _ _ (by omega) rfl ⟨by omega,R',p+wN x.n (i:Nat),⟨by rw[Eh,fF],by rw[eN,<-fO];exact Prod.ext Cp rfl⟩,(hp.f4.f4.f4.f4.f4.f5).drop⟩
   ·have eN:tj x.n (i+1)=tj x.n i:=by rw[tj,if_neg (by rw[bG];exact hk)]
    refine aM ?_
    exact IH (i+1) _ _ _ (by omega) rfl ⟨by omega,R,p,⟨fF,by rw[eN];exact fO⟩,hp.drop⟩
  ·refine aM ?_;refine aH hp ?_
   obtain rfl:i=x.sg.length:=by omega
   clear IH
   have fO:(aJ R,p)=u9 x.n 0:=fO
   refine aR [1,2,4,5,7,65,66,67] (fun(i:Nat)=>[(1,.pointer (some ⟨b1,0,none⟩)),(2,.pointer (some ⟨b2,0,none⟩)),(4,.pointer (some ⟨b4,0,none⟩)),(5,.pointer (some ⟨b5,0,none⟩)),(7,.func (.func 38) ⟨[]⟩ ⟨[.pointer (some ⟨b1,0,none⟩),.pointer (some ⟨b5,0,none⟩),.pointer (some ⟨b6,0,none⟩)]⟩),(65,.slice x.sa x.sg.length x.sc),(66,.int .i64 x.sg.length),(67,.int .i64 (i:Int))])
    (fun i w'=>i<=x.sg.length/\∃R p sa sc,(R.length=x.sg.length/\(aJ R,p)=u9 x.n i)/\Hp w0 w' [rO 31 1 jk (some ⟨bs,0,none⟩) x.sg.length R,cC 3 1 eI R,rB b6 3 [.int .i64 ((p:Nat):Int)],rB b5 50 [.slice (some ⟨bs,0,none⟩) x.sg.length x.sg.length],rB b1 41 x.cs,rO 68 3 kf sa sc (qA (px [] x.n i)),rB b4 33 [.int .i64 (cT (ee x.n 0)),.slice sa (qA (px [] x.n i)).length sc,.slice none 0 0,.slice none 0 0],rB b2 33 (aL Tryz.dY.zero)]) (fun i=>x.sg.length-i) 0 rfl ⟨by omega,R,p,none,0,⟨fF,fO⟩,?_⟩ ?_
   ·have hp:=(hp.eH (e:=68) (sz:=3) (enc:=kf) (c:=0) (X:=[]) (Ext.refl _) (dk.nil _ _ _ _ _)).f5.f5.f5.f5.f5
    exact hp
   clear hp
   clear fF fO
   rintro i w1 ⟨hi,R,p,sa,sc,⟨fF,fO⟩,hp⟩ IH C
   have uF:(qA (px [] x.n i)).length=dU x.n 3 i:=by rw[Cn,l6]
   have hQb:=iK hm 3 i hi
   refine bL ?_
   apply ae<;>intro bD
   ·have aF:i<x.sg.length:=by omega
    obtain⟨e1,e2⟩:=eW i aF
    have hb:=OY hm hi
    rw[<-fO] at hb
    have lN:=hb.row i aF
    rw[bk] at lN
    refine aN ?_;refine bb hp ?_
    refine bP hp ?_;intro w wV hx hp;refine az ?_;(repeat(first|(refine ah ?_;refine aH hp ?_)|(refine aI ?_;refine aW hp ?_;intro w hp;refine az ?_)))
    apply ae<;>intro hk
    ·have y9:aY x.n (i:Nat)=3:=by rw[bG];exact hk
     have eN:u9 x.n (i+1)=iV (u9 x.n i) i (wN x.n (i:Nat)):=by rw[u9,if_pos y9]
     have eQ:px [] x.n (i+1)=px [] x.n i++gR [] (iy x.n (i:Nat)) (wN x.n (i:Nat)):=by rw[px,if_pos y9]
     have hv:iy x.n (i:Nat)=(x.sg.getD i default).init:=by unfold iy;rw[Int.toNat_natCast];rfl
     have V8:=(hm.sg i aF).2.2
     refine aN ?_
     refine cx Tryz.func38 (zi x w0 hM b1 b5 b6 bs p i _ rfl aF (wN x.n (i:Nat)) e1 e2 l1 R fF lN hb.pos _ _ (hp.f5.f5.f5.f5.f5)) ?_;rintro _ w ⟨R',rfl,⟨Eh,Cp⟩,hp⟩;refine az ?_
     obtain⟨p',nL⟩:∃p',p'=p+wN x.n (i:Nat):=⟨_,rfl⟩
     rw[<-nL] at hp
     refine aR [1,2,4,5,7,11,12,65,66,67] (fun(k:Nat)=>[(1,.pointer (some ⟨b1,0,none⟩)),(2,.pointer (some ⟨b2,0,none⟩)),(4,.pointer (some ⟨b4,0,none⟩)),(5,.pointer (some ⟨b5,0,none⟩)),(7,.func (.func 38) ⟨[]⟩ ⟨[.pointer (some ⟨b1,0,none⟩),.pointer (some ⟨b5,0,none⟩),.pointer (some ⟨b6,0,none⟩)]⟩),(11,.pointer (some ⟨wV,0,none⟩)),(12,.int .i64 (k:Int)),(65,.slice x.sa x.sg.length x.sc),(66,.int .i64 x.sg.length),(67,.int .i64 (i:Int))])
      (fun k w'=>k<=wN x.n (i:Nat)/\∃sa sc,Hp w0 w' [rB wV 66 (n7 (x.sg.getD i default)),rO 31 1 jk (some ⟨bs,0,none⟩) x.sg.length R',cC 3 1 eI R',rB b6 3 [.int .i64 ((p':Nat):Int)],rB b5 50 [.slice (some ⟨bs,0,none⟩) x.sg.length x.sg.length],rB b1 41 x.cs,rO 68 3 kf sa sc (qA (px [] x.n i++gR [] (iy x.n (i:Nat)) k)),rB b4 33 [.int .i64 (cT (ee x.n 0)),.slice sa (qA (px [] x.n i++gR [] (iy x.n (i:Nat)) k)).length sc,.slice none 0 0,.slice none 0 0],rB b2 33 (aL Tryz.dY.zero)]) (fun k=>wN x.n (i:Nat)-k) 0 rfl ⟨by omega,sa,sc,?_⟩ ?_
     ·have e0:px [] x.n i++gR [] (iy x.n (i:Nat)) 0=px [] x.n i:=by simp[gR]
      rw[e0]
      exact hp.f4.f4.f4.f4.f4.f5
     clear hp
     rintro k w1 ⟨Io,sa,sc,hp⟩ kF C
     have hQl2:(qA (px [] x.n i++gR [] (iy x.n (i:Nat)) k)).length=dU x.n 3 i+k:=by rw[Cn,List.length_append,l6,sX]
     refine bL ?_;refine aH hp ?_
     apply ae<;>intro jK
     ·have fK:k<wN x.n (i:Nat):=by omega
      have Xm:((k:Nat):Int)<=((IntKind.i64.bits:Nat):Int):=by show((k:Nat):Int)<=64;omega
      refine aN ?_;(repeat(refine aH hp ?_))
      refine r4 hp kf [⟨0,bits .and .i64 ((x.sg.getD i default).init/2^((k:Nat):Int).toNat) 1,[],none,0⟩] rfl rfl rfl rfl (s:=3) rfl (by decide) (by infer_instance) (by rfl) (by rfl) (by rfl) (by decide) ?_;intro w bl hx hp;refine az ?_
      refine gT hp ?_;intro SE SF w hp bZ;refine az ?_;refine iC hp ?_;intro w hp;refine az ?_
      have eA:qA (px [] x.n i++gR [] (iy x.n (i:Nat)) k)++[⟨0,bits .and .i64 ((x.sg.getD i default).init/2^((k:Nat):Int).toNat) 1,[],none,0⟩]=qA (px [] x.n i++gR [] (iy x.n (i:Nat)) (k+1)):=by
       rw[vS,<-List.append_assoc,Co _ [_],hv,dx,Int.toNat_natCast];rfl
      rw[eA] at hp
      exact kF (k+1) _ _ _ (by omega) rfl ⟨by omega,SE,SF,hp.drop⟩
     ·refine aM ?_
      obtain rfl:k=wN x.n (i:Nat):=by omega
      rw[<-eQ] at hp
      exact IH (i+1) _ _ _ (by omega) rfl ⟨by omega,R',p',sa,sc,⟨by rw[Eh,fF],by rw[eN,<-fO,nL];exact Prod.ext Cp rfl⟩,hp.drop⟩
    ·have y9:aY x.n (i:Nat)≠3:=by rw[bG];exact hk
     have eN:u9 x.n (i+1)=u9 x.n i:=by rw[u9,if_neg y9]
     have eQ:px [] x.n (i+1)=px [] x.n i:=by rw[px,if_neg y9]
     refine aM ?_
     exact IH (i+1) _ _ _ (by omega) rfl ⟨by omega,R,p,sa,sc,⟨fF,by rw[eN];exact fO⟩,by rw[eQ];exact hp.drop⟩
   ·refine aM ?_;refine aH hp ?_
    obtain rfl:i=x.sg.length:=by omega
    clear IH
    have fO:(aJ R,p)=pS x.n 0:=fO
    refine aR [1,2,4,5,7,98,99,100] (fun(j:Nat)=>[(1,.pointer (some ⟨b1,0,none⟩)),(2,.pointer (some ⟨b2,0,none⟩)),(4,.pointer (some ⟨b4,0,none⟩)),(5,.pointer (some ⟨b5,0,none⟩)),(7,.func (.func 38) ⟨[]⟩ ⟨[.pointer (some ⟨b1,0,none⟩),.pointer (some ⟨b5,0,none⟩),.pointer (some ⟨b6,0,none⟩)]⟩),(98,.slice x.ma x.ms.length x.mc),(99,.int .i64 x.ms.length),(100,.int .i64 (j:Int))])
     (fun j w'=>j<=x.ms.length/\∃R p sa sc,(R.length=x.sg.length/\(aJ R,p)=pS x.n j)/\Hp w0 w' [rO 31 1 jk (some ⟨bs,0,none⟩) x.sg.length R,cC 3 1 eI R,rB b6 3 [.int .i64 ((p:Nat):Int)],rB b5 50 [.slice (some ⟨bs,0,none⟩) x.sg.length x.sg.length],rB b1 41 x.cs,rO 68 3 kf sa sc (qA (ni [] [] x.n j)),rB b4 33 [.int .i64 (cT (ee x.n 0)),.slice sa (qA (ni [] [] x.n j)).length sc,.slice none 0 0,.slice none 0 0],rB b2 33 (aL Tryz.dY.zero)]) (fun j=>x.ms.length-j) 0 rfl ⟨by omega,R,p,sa,sc,⟨fF,fO⟩,hp⟩ ?_
    clear hp fF fO
    rintro j w1 ⟨hj,R,p,sa,sc,⟨fF,fO⟩,hp⟩ IH C
    have uF:(qA (ni [] [] x.n j)).length=dU x.n 3 x.sg.length+ja x.n j:=by rw[Cn,jA];rfl
    have hQb:=iK hm 3 x.sg.length (Nat.le_refl _)
    have hQb2:=tf hm j hj
    refine bL ?_
    apply ae<;>intro bD
    ·have aF:j<x.ms.length:=by omega
     have i4:=(hm.ms j aF).2.2.2.1
     change dr x.n (x.ms.getD j default).out at i4
     unfold dr at i4
     change 0<=(x.ms.getD j default).out/\(x.ms.getD j default).out<x.sg.length at i4
     obtain⟨o,ho⟩:=Int.eq_ofNat_of_zero_le i4.1
     have jL:o<x.sg.length:=by omega
     obtain⟨e1,e2⟩:=eW o jL
     have hb:=OZ hm hj
     rw[<-fO] at hb
     have lN:=hb.row o jL
     rw[bk] at lN
     have eo:(x.ms.getD j default).out.toNat=o:=by omega
     have eN:pS x.n (j+1)=iV (pS x.n j) o (wN x.n (o:Nat)):=by
      rw[pS]
      show iV (pS x.n j) (x.ms.getD j default).out.toNat (wN x.n (x.ms.getD j default).out)=_
      rw[eo,ho]
     have eQ:ni [] [] x.n (j+1)=ni [] [] x.n j++ju [] (wN x.n (o:Nat)):=by
      rw[ni]
      show ni [] [] x.n j++ju [] (wN x.n (x.ms.getD j default).out)=_
      rw[ho]
     refine aN ?_;refine bb hp ?_
     refine bP hp ?_;intro w B8 hx hp;refine az ?_;(repeat(first|(refine ah ?_;refine aH hp ?_)|(refine aI ?_;refine aW hp ?_;intro w hp;refine az ?_)))
     refine cx Tryz.func38 (zi x w0 hM b1 b5 b6 bs p o (x.ms.getD j default).out ho jL (wN x.n (o:Nat)) e1 e2 l1 R fF lN hb.pos _ _ (hp.f5.f5.f5.f5.f5)) ?_;rintro _ w ⟨R',rfl,⟨Eh,Cp⟩,hp⟩;refine az ?_
     obtain⟨p',nL⟩:∃p',p'=p+wN x.n (o:Nat):=⟨_,rfl⟩
     rw[<-nL] at hp
     refine aR [1,2,4,5,7,14,15,98,99,100] (fun(k:Nat)=>[(1,.pointer (some ⟨b1,0,none⟩)),(2,.pointer (some ⟨b2,0,none⟩)),(4,.pointer (some ⟨b4,0,none⟩)),(5,.pointer (some ⟨b5,0,none⟩)),(7,.func (.func 38) ⟨[]⟩ ⟨[.pointer (some ⟨b1,0,none⟩),.pointer (some ⟨b5,0,none⟩),.pointer (some ⟨b6,0,none⟩)]⟩),(14,.pointer (some ⟨B8,0,none⟩)),(15,.int .i64 (k:Int)),(98,.slice x.ma x.ms.length x.mc),(99,.int .i64 x.ms.length),(100,.int .i64 (j:Int))])
      (fun k w'=>k<=wN x.n (o:Nat)/\∃sa sc,Hp w0 w' [rB B8 70 (p9 (x.ms.getD j default)),rO 31 1 jk (some ⟨bs,0,none⟩) x.sg.length R',cC 3 1 eI R',rB b6 3 [.int .i64 ((p':Nat):Int)],rB b5 50 [.slice (some ⟨bs,0,none⟩) x.sg.length x.sg.length],rB b1 41 x.cs,rO 68 3 kf sa sc (qA (ni [] [] x.n j++ju [] k)),rB b4 33 [.int .i64 (cT (ee x.n 0)),.slice sa (qA (ni [] [] x.n j++ju [] k)).length sc,.slice none 0 0,.slice none 0 0],rB b2 33 (aL Tryz.dY.zero)]) (fun k=>wN x.n (o:Nat)-k) 0 rfl ⟨by omega,sa,sc,?_⟩ ?_
     ·have e0:ni [] [] x.n j++ju [] 0=ni [] [] x.n j:=by simp[ju]
      rw[e0]
      exact hp.f4.f4.f4.f4.f4.f5
     clear hp
     rintro k w1 ⟨Io,sa,sc,hp⟩ kF C
     have hQl2:(qA (ni [] [] x.n j++ju [] k)).length=dU x.n 3 x.sg.length+ja x.n j+k:=by rw[Co,List.length_append,uF,Cn];simp[ju]
     refine bL ?_;(repeat(refine ah ?_;first|refine aH hp ?_|refine rP hp ?_))
     rw[eo]
     apply ae<;>intro jK
     ·have fK:k<wN x.n (o:Nat):=by omega
      refine aN ?_;refine aH hp ?_
      refine r4 hp kf [⟨1,0,[],none,0⟩] rfl rfl rfl rfl (s:=3) rfl (by decide) (by infer_instance) (by rfl) (by rfl) (by rfl) (by decide) ?_;intro w bl hx hp;refine az ?_
      refine gT hp ?_;intro SE SF w hp bZ;refine az ?_;refine iC hp ?_;intro w hp;refine az ?_
      have eA:qA (ni [] [] x.n j++ju [] k)++[⟨1,0,[],none,0⟩]=qA (ni [] [] x.n j++ju [] (k+1)):=by
       unfold ju
       rw[List.replicate_succ',<-List.append_assoc,Co _ [_]];rfl
      rw[eA] at hp
      exact kF (k+1) _ _ _ (by omega) rfl ⟨by omega,SE,SF,hp.drop⟩
     ·refine aM ?_
      obtain rfl:k=wN x.n (o:Nat):=by omega
      rw[<-eQ] at hp
      exact IH (j+1) _ _ _ (by omega) rfl ⟨by omega,R',p',sa,sc,⟨by rw[Eh,fF],by rw[eN,<-fO,nL];exact Prod.ext Cp rfl⟩,hp.drop⟩
    ·refine aM ?_;refine aH hp ?_
     obtain rfl:j=x.ms.length:=by omega
     clear IH
     refine bP hp ?_;intro w bx hx hp;refine az ?_;refine aH hp ?_
     refine cx Tryz.func39 (pT x _ hp.mod hS hW) ?_;rintro _ w ⟨be,ce,rfl,hq⟩;have hx:=hq.x;have hp:=hp.bJ hq;refine az ?_
     rw[mV he] at hp⊢
     have qb:=iU he
     have je:=qb.2.1
     have OS:l.length<=30:=by have h:=qb.2.2;rw[x.cy] at h;omega
     have Fv:=kR l
     obtain⟨Fu,yN⟩:=pz hf he
     have jq:=oM.start Fu
     obtain⟨m,wj⟩:∃m,m=dU x.n 3 x.sg.length+ja x.n x.ms.length:=⟨_,rfl⟩
     have EA:(kr x.n).au.length=m:=by rw[wj];exact jA _ _ _ _
     have hm12:m<=200:=by omega
     have hQm:(qA (ni [] [] x.n x.ms.length)).length=m:=by rw[wj];exact uF
     have oX:aU (qA (ni [] [] x.n x.ms.length))=(kr x.n).au.map nG:=by rw[Nu,yn];exact(yn _ _ _ _).symm
     obtain⟨Qm,hQme⟩:∃Qm,Qm=qA (ni [] [] x.n x.ms.length):=⟨_,rfl⟩
     have hp:=(Iv (ni [] [] x.n x.ms.length) hp)
     rw[<-hQme] at hp hQm oX
     rw[hQm] at hp
     have WL:aJ R=(fu x.n l 0).2:=congrArg Prod.fst fO
     have eB:∀(N:ao) (aa:Option Addr) (ac:Nat) (A:List (Int×Int)),N.aT=cT (ee x.n 0)->N.au.length=m->N.outs=[]->([.int .i64 (cT (ee x.n 0)),.slice sa m sc,.slice aa A.length ac,.slice none 0 0]:List Value)=((gN N sa sc).wA aa ac A).cs:=fun N aa ac A h1 h2 h3=>by
      show _=([.int .i64 N.aT,.slice sa (gA N.au).length sc,.slice aa A.length ac,.slice none N.outs.length 0]:List Value)
      rw[h1,Sv,h2,h3];rfl
     refine aR [1,2,4,5,16,134,135,136] (fun(i:Nat)=>[(1,.pointer (some ⟨b1,0,none⟩)),(2,.pointer (some ⟨b2,0,none⟩)),(4,.pointer (some ⟨b4,0,none⟩)),(5,.pointer (some ⟨b5,0,none⟩)),(16,.pointer (some ⟨bx,0,none⟩)),(134,.slice be l.length ce),(135,.int .i64 l.length),(136,.int .i64 (i:Int))])
      (fun i w'=>i<=l.length/\∃R aa ac wv,(R.length=x.sg.length/\aJ R=(fu x.n l i).2)/\Hp w0 w' [rB bx 88 [.pointer (some ⟨b4,0,none⟩),.slice (some ⟨bs,0,none⟩) x.sg.length x.sg.length,.int .i64 (wv),.bool (fu x.n l i).1.2],rB b4 33 [.int .i64 (cT (ee x.n 0)),.slice sa m sc,.slice aa (fu x.n l i).1.1.af.length ac,.slice none 0 0],rO 120 2 gh aa ac (fu x.n l i).1.1.af,rO 31 1 jk (some ⟨bs,0,none⟩) x.sg.length R,cC 3 1 eI R,rO 68 3 kf sa sc Qm,fz Qm,rO 3 1 eI be ce (cJ l),rB b5 50 [.slice (some ⟨bs,0,none⟩) x.sg.length x.sg.length],rB b1 41 x.cs,rB b2 33 (aL Tryz.dY.zero)]) (fun i=>l.length-i) 0 rfl ⟨by omega,R,none,0,0,⟨fF,WL⟩,?_⟩ ?_
     ·have hp:=hp.eH (e:=120) (sz:=2) (enc:=gh) (c:=0) (X:=[]) (Ext.refl _) (dk.nil _ _ _ _ _)
      exact(hp.f11.f9.f9.f5.f5.f10.f9.f9.f8.f11.f10).tk 11
     clear hp fF fO WL
     rintro i w1 ⟨hi,R,aa,ac,wv,⟨fF,fO⟩,hp⟩ IH C
     have hP:=py hm hf (fun i hi=>(je i hi).1) i hi
     refine bL ?_
     apply ae<;>intro bD
     ·have aF:i<l.length:=by omega
      obtain⟨q,hq⟩:∃q,q=l.getD i 0:=⟨_,rfl⟩
      have Td:(cJ l).getD i default=((q:Nat):Int):=by rw[hq];exact mr l i
      have KI:q<x.aP.length:=by
       have h:=(je q (by rw[hq,List.getD_eq_getElem?_getD,List.getElem?_eq_getElem aF];exact List.getElem_mem _)).1
       rw[x.cy] at h;exact h
      obtain⟨qQ,yz,rV,KJ⟩:=gg hm hf (i:=q) (by rw[x.cy];exact KI)
      have wC:dT x.n q=(x.aP.getD q default).tg:=x.Ld q
      have AJ:opsL x.n q=(x.aP.getD q default).ops:=x.mR q
      have pI:=rV
      rw[wC] at pI
      unfold dr at pI
      change 0<=(x.aP.getD q default).tg/\(x.aP.getD q default).tg<x.sg.length at pI
      obtain⟨t,ht⟩:=Int.eq_ofNat_of_zero_le pI.1
      have D9:(x.aP.getD q default).tg.toNat=t:=by omega
      obtain⟨e1,e2⟩:=eW t (by omega)
      have DU:=nY hm hf rV
      have IM:wN x.n (dT x.n q)=wN x.n (t:Nat):=by rw[wC,ht]
      have la:Le q x.aP:=⟨KI⟩
      refine aN ?_;(repeat(refine ah ?_;first|refine aH hp ?_|refine bb hp ?_|refine ik hp ?_))
      rw[Td,Int.toNat_natCast]
      skip
      refine bP hp ?_;intro w b21 hx hp;refine az ?_;(repeat(first|(refine ah ?_;first|refine aH hp ?_|refine rP hp ?_)|(refine aI ?_;(first|refine iC hp ?_|refine aW hp ?_);intro w hp;refine az ?_)))
      rw[D9,e1] at hp
      have hpL:Hp w0 _ [_,_]:=(hp.f9.f1).tk 2
      refine Jj (hpL) (by kernel_rfl) (by kernel_rfl) rfl rfl ?_;intro w hx hs;have hp:=hp.ext hx;(repeat(refine dQ ?_))
      refine gq ?_
      have nR:=kM qQ yz
      have K0:=KR w0 R x.sg.length fF (some ⟨bs,0,none⟩) x.sg.length bx b4 (wN x.n (t:Nat)) (by rw[<-IM];exact DU) (gN (kr x.n) sa sc) (x.aP.getD q default).ops (x.aP.getD q default).oa (x.aP.getD q default).oc (by rw[<-AJ];exact qQ.len) (by omega) (fun u hu=>by
       have h:=(hP.sig.row _ (by rw[<-fO];exact aK (X:=aJ R) (i:=u) (by rw[fg];exact hu))).1
       rw[bk] at h;omega) (cU x.n q) (by rw[<-AJ];exact nR.1) nR.2 (fu x.n l i).1 (by rw[Wz];exact hP.eq) hP.dR (fun r hr=>by rw[fO] at hr;exact(hP.sig.row r hr).2) aa ac _ _ ((hp.f3.f3.f3).f1.Lr (eB (kr x.n) aa ac _ rfl EA rfl)).f1
      rw[fO,<-IM] at K0
      refine oW Tryz.func40 (K0) ?_;rintro _ w ⟨b,c,kx,ky,qq,rfl,hp⟩;have hs:=(hp.f10.f5.tk 2);refine⟨fun _=>hs,?_⟩;refine fW ?_
      obtain⟨ev,oU⟩:∃ev,ev=dB a6 (fu x.n l i).2 (wN x.n (dT x.n q)) (cU x.n q) (fu x.n l i).1:=⟨_,rfl⟩
      rw[<-oU] at hp⊢
      first|refine EV hp (y:=(⟨ev.2,b,c⟩:cL Int)) rfl rfl rfl (by omega) (by decide) (rfl) rfl (by kernel_rfl) ?_|refine CY hp (y:=(⟨ev.2,b,c⟩:cL Int)) rfl rfl rfl (by omega) (by decide) (rfl) rfl (by kernel_rfl) ?_
      intro w hp;refine fW ?_
      rw[D9] at hp
      obtain⟨Qr,DZ,gF⟩:=oJ (hp.f6) (i:=t) (by omega)
      have hp:=gF _ _ (⟨ev.2,b,c⟩:cL Int) (DZ.drop.f1)
      have eT:fu x.n l (i+1)=(ev.1,(fu x.n l i).2.set t ev.2):=by
       rw[fu,<-hq]
       unfold IK
       rw[<-oU,wC,D9]
      have rn:ev.1.1.aT=cT (ee x.n 0)/\ev.1.1.au.length=m/\ev.1.1.outs=[]:=by
       have h:=(hP.step hm hf (i:=q) (by rw[x.cy];exact KI)).eq
       have h2:IK x.n (fu x.n l i) q=fu x.n l (i+1):=by rw[fu,<-hq]
       rw[h2,eT] at h
       have h:ev.1.1={kr x.n with af:=ev.1.1.af}:=h
       rw[h]
       exact⟨rfl,EA,rfl⟩
      have hp:=(((hp.f4).drop).f4.f4.f4.f4).f1.Lr (eB (kr x.n) kx ky ev.1.1.af rfl EA rfl).symm
      refine IH (i+1) _ _ _ (by omega) rfl ⟨by omega,R.set t ⟨ev.2,b,c⟩,kx,ky,((wN x.n (dT x.n q):Nat):Int),⟨by rw[List.length_set];exact fF,by rw[eT,mu,fO]⟩,?_⟩
      rw[eT]
      exact hp.f1
     ·refine aM ?_;refine aH hp ?_
      obtain rfl:i=l.length:=by omega
      clear IH hP
      have fO:aJ R=(bO x.n l).2:=fO
      have pU:∀u,u<R.length->(R.getD u default).ins.length<=1000:=fun u hu=>by
       have h:=(jq.sig.row _ (by rw[<-fO];exact aK (X:=aJ R) (i:=u) (by rw[fg];exact hu))).1
       rw[bk] at h;omega
      have Xx:aU Qm=zu (bO x.n l).1.1.au 0:=by
       rw[J7,oX,Fu.eq]
      refine aR [1,2,4,5,16,22,168,169,170] (fun(s:Nat)=>[(1,.pointer (some ⟨b1,0,none⟩)),(2,.pointer (some ⟨b2,0,none⟩)),(4,.pointer (some ⟨b4,0,none⟩)),(5,.pointer (some ⟨b5,0,none⟩)),(16,.pointer (some ⟨bx,0,none⟩)),(22,.int .i64 (((fX x.n (bO x.n l).2 (bO x.n l).1 s).2:Nat):Int)),(168,.slice x.sa x.sg.length x.sc),(169,.int .i64 x.sg.length),(170,.int .i64 (s:Int))])
       (fun s w'=>s<=x.sg.length/\∃Q aa ac wv,(Q.length=m/\aU Q=zu (fX x.n (bO x.n l).2 (bO x.n l).1 s).1.1.au (fX x.n (bO x.n l).2 (bO x.n l).1 s).2)/\Hp w0 w' [rB bx 88 [.pointer (some ⟨b4,0,none⟩),.slice (some ⟨bs,0,none⟩) x.sg.length x.sg.length,.int .i64 (wv),.bool (fX x.n (bO x.n l).2 (bO x.n l).1 s).1.2],rB b4 33 [.int .i64 (cT (ee x.n 0)),.slice sa m sc,.slice aa (fX x.n (bO x.n l).2 (bO x.n l).1 s).1.1.af.length ac,.slice none 0 0],rO 120 2 gh aa ac (fX x.n (bO x.n l).2 (bO x.n l).1 s).1.1.af,rO 68 3 kf sa sc Q,fz Q,rO 31 1 jk (some ⟨bs,0,none⟩) x.sg.length R,cC 3 1 eI R,rB b5 50 [.slice (some ⟨bs,0,none⟩) x.sg.length x.sg.length],rB b1 41 x.cs,rB b2 33 (aL Tryz.dY.zero)]) (fun s=>x.sg.length-s) 0 rfl ⟨by omega,Qm,aa,ac,wv,⟨hQm,Xx⟩,(hp.f10.f10.f10.f7.f7.f9.f9.f9.f9.f9).tk 10⟩ ?_
      clear hp
      rintro s w1 ⟨hs,Q,aa,ac,wv,⟨oV,lF⟩,hp⟩ IH C
      obtain⟨AE,zw,hS3⟩:=qN hm jq s hs
      have hS4:=iK hm 3 s hs
      refine bL ?_
      apply ae<;>intro bD
      ·have aF:s<x.sg.length:=by omega
       obtain⟨e1,e2⟩:=eW s aF
       refine aN ?_;refine bb hp ?_
       refine bP hp ?_;intro w Tg hx hp;refine az ?_;(repeat(first|(refine ah ?_;refine aH hp ?_)|(refine aI ?_;refine aW hp ?_;intro w hp;refine az ?_)))
       apply ae<;>intro hk
       ·have eT:(fX x.n (bO x.n l).2 (bO x.n l).1 (s+1))=(fX x.n (bO x.n l).2 (bO x.n l).1 s):=by rw[fX,if_neg (by rw[bG];exact hk)]
        refine aN ?_
        exact IH (s+1) _ _ _ (by omega) (by rw[eT];rfl) ⟨by omega,Q,aa,ac,wv,⟨oV,by rw[eT];exact lF⟩,by rw[eT];exact hp.drop⟩
       ·have y9:aY x.n (s:Nat)=3:=by rw[bG];exact Decidable.not_not.1 hk
        have eT:(fX x.n (bO x.n l).2 (bO x.n l).1 (s+1))=(jl x.n (bO x.n l).2 ((s:Nat):Int) (fX x.n (bO x.n l).2 (bO x.n l).1 s) x.aP.length):=by rw[fX,if_pos y9,x.cy]
        refine aM ?_;refine aH hp ?_
        refine aR [1,2,4,5,16,22,23,24,168,169,170,179,180,181] (fun(i:Nat)=>[(1,.pointer (some ⟨b1,0,none⟩)),(2,.pointer (some ⟨b2,0,none⟩)),(4,.pointer (some ⟨b4,0,none⟩)),(5,.pointer (some ⟨b5,0,none⟩)),(16,.pointer (some ⟨bx,0,none⟩)),(22,.int .i64 (((jl x.n (bO x.n l).2 ((s:Nat):Int) (fX x.n (bO x.n l).2 (bO x.n l).1 s) i).2:Nat):Int)),(23,.int .i64 (s:Int)),(24,.pointer (some ⟨Tg,0,none⟩)),(168,.slice x.sa x.sg.length x.sc),(169,.int .i64 x.sg.length),(170,.int .i64 (s:Int)),(179,.slice x.aa x.aP.length x.ac),(180,.int .i64 x.aP.length),(181,.int .i64 (i:Int))])
         (fun i w'=>i<=x.aP.length/\∃Q aa ac wv,(Q.length=m/\aU Q=zu (jl x.n (bO x.n l).2 ((s:Nat):Int) (fX x.n (bO x.n l).2 (bO x.n l).1 s) i).1.1.au (jl x.n (bO x.n l).2 ((s:Nat):Int) (fX x.n (bO x.n l).2 (bO x.n l).1 s) i).2)/\Hp w0 w' [rB Tg 66 (n7 (x.sg.getD s default)),rB bx 88 [.pointer (some ⟨b4,0,none⟩),.slice (some ⟨bs,0,none⟩) x.sg.length x.sg.length,.int .i64 (wv),.bool (jl x.n (bO x.n l).2 ((s:Nat):Int) (fX x.n (bO x.n l).2 (bO x.n l).1 s) i).1.2],rB b4 33 [.int .i64 (cT (ee x.n 0)),.slice sa m sc,.slice aa (jl x.n (bO x.n l).2 ((s:Nat):Int) (fX x.n (bO x.n l).2 (bO x.n l).1 s) i).1.1.af.length ac,.slice none 0 0],rO 120 2 gh aa ac (jl x.n (bO x.n l).2 ((s:Nat):Int) (fX x.n (bO x.n l).2 (bO x.n l).1 s) i).1.1.af,rO 68 3 kf sa sc Q,fz Q,rO 31 1 jk (some ⟨bs,0,none⟩) x.sg.length R,cC 3 1 eI R,rB b5 50 [.slice (some ⟨bs,0,none⟩) x.sg.length x.sg.length],rB b1 41 x.cs,rB b2 33 (aL Tryz.dY.zero)]) (fun i=>x.aP.length-i) 0 rfl ⟨by omega,Q,aa,ac,wv,⟨oV,lF⟩,hp⟩ ?_
        clear hp oV lF
        rintro i w1 ⟨hi,Q,aa,ac,wv,⟨oV,lF⟩,hp⟩ kF C
        obtain⟨vT,Xe,hI3⟩:=nZ hm aF y9 AE zw i (by rw[x.cy];exact hi)
        refine bL ?_
        apply ae<;>intro jK
        ·have fK:i<x.aP.length:=by omega
         obtain⟨qQ,yz,rV,KJ⟩:=gg hm hf (i:=i) (by rw[x.cy];exact fK)
         have AJ:opsL x.n i=(x.aP.getD i default).ops:=x.mR i
         have la:Le i x.aP:=⟨fK⟩
         refine aN ?_;refine bb hp ?_
         refine bP hp ?_;intro w Th hx hp;refine az ?_;(repeat(first|(refine ah ?_;refine aH hp ?_)|(refine aI ?_;refine aW hp ?_;intro w hp;refine az ?_)))
         apply ae<;>intro ht
         ·have IU:dT x.n i=(s:Nat):=(x.Ld i).trans ht
          have ij:=BS hm aF y9 AE zw (i:=i) (by rw[x.cy];exact fK) IU
          have DU:=nY hm hf rV
          rw[IU] at DU
          have nR:=kM qQ yz
          obtain⟨v1,v2,v3,v4⟩:=vT.ev (wN x.n (s:Nat)) (cU x.n i)
          obtain⟨ev,oU⟩:∃ev,ev=dB a6 (bO x.n l).2 (wN x.n (s:Nat)) (cU x.n i) (jl x.n (bO x.n l).2 ((s:Nat):Int) (fX x.n (bO x.n l).2 (bO x.n l).1 s) i).1:=⟨_,rfl⟩
          have Cr:ev.2.length=wN x.n (s:Nat):=by rw[oU];exact cv _ _ _ _ _
          rw[<-oU] at v1 v2 v3 v4
          have eJ:(jl x.n (bO x.n l).2 ((s:Nat):Int) (fX x.n (bO x.n l).2 (bO x.n l).1 s) (i+1))=((jh ev.1.1 (jl x.n (bO x.n l).2 ((s:Nat):Int) (fX x.n (bO x.n l).2 (bO x.n l).1 s) i).2 ev.2 (wN x.n (s:Nat)),ev.1.2),(jl x.n (bO x.n l).2 ((s:Nat):Int) (fX x.n (bO x.n l).2 (bO x.n l).1 s) i).2+wN x.n (s:Nat)):=by
           rw[jl]
           unfold zG
           rw[if_pos IU,<-oU]
          obtain⟨q0,Ij⟩:∃q0,q0=(jl x.n (bO x.n l).2 ((s:Nat):Int) (fX x.n (bO x.n l).2 (bO x.n l).1 s) i).2:=⟨_,rfl⟩
          rw[<-Ij] at eJ ij v1 lF
          have hlN:ev.1.1.au.length=m:=by rw[v1.len,wj];rfl
          have hlI:(jl x.n (bO x.n l).2 ((s:Nat):Int) (fX x.n (bO x.n l).2 (bO x.n l).1 s) i).1.1.au.length=m:=by rw[vT.len,wj];rfl
          have Lv:q0+wN x.n (s:Nat)<=m:=by rw[wj];exact Nat.le_trans ij (Nat.le_add_right _ _)
          refine aN ?_;(repeat(first|(refine ah ?_;refine aH hp ?_)|(refine aI ?_;refine iC hp ?_;intro w hp;refine az ?_)))
          rw[e1] at hp
          have K0:=KR w0 R x.sg.length fF (some ⟨bs,0,none⟩) x.sg.length bx b4 (wN x.n (s:Nat)) DU (gN (jl x.n (bO x.n l).2 ((s:Nat):Int) (fX x.n (bO x.n l).2 (bO x.n l).1 s) i).1.1 sa sc) (x.aP.getD i default).ops (x.aP.getD i default).oa (x.aP.getD i default).oc (by rw[<-AJ];exact qQ.len) (by omega) pU (cU x.n i) (by rw[<-AJ];exact nR.1) nR.2 (jl x.n (bO x.n l).2 ((s:Nat):Int) (fX x.n (bO x.n l).2 (bO x.n l).1 s) i).1 (by rw[Wz]) vT.dR (fun r hr=>by rw[fO] at hr;exact(vT.sig.row r hr).2) aa ac _ _ ((hp.f1.f1.f4.f4.f4).f1.Lr (eB (jl x.n (bO x.n l).2 ((s:Nat):Int) (fX x.n (bO x.n l).2 (bO x.n l).1 s) i).1.1 aa ac _ vT.ck hlI vT.outs)).f1
          rw[fO,<-oU] at K0
          refine cx Tryz.func40 (K0) ?_;rintro _ w ⟨b,c,kx,ky,qq,rfl,hp⟩;refine az ?_
          have hp:=(((hp.f4).drop).f4.f4.f3.f3.f4).Lr (eB (jl x.n (bO x.n l).2 ((s:Nat):Int) (fX x.n (bO x.n l).2 (bO x.n l).1 s) i).1.1 kx ky ev.1.1.af vT.ck hlI vT.outs).symm
          refine aR [1,2,4,5,16,22,23,24,168,169,170,179,180,181,201,202,203] (fun(k:Nat)=>[(1,.pointer (some ⟨b1,0,none⟩)),(2,.pointer (some ⟨b2,0,none⟩)),(4,.pointer (some ⟨b4,0,none⟩)),(5,.pointer (some ⟨b5,0,none⟩)),(16,.pointer (some ⟨bx,0,none⟩)),(22,.int .i64 ((q0+k:Nat):Int)),(23,.int .i64 (s:Int)),(24,.pointer (some ⟨Tg,0,none⟩)),(168,.slice x.sa x.sg.length x.sc),(169,.int .i64 x.sg.length),(170,.int .i64 (s:Int)),(179,.slice x.aa x.aP.length x.ac),(180,.int .i64 x.aP.length),(181,.int .i64 (i:Int)),(201,.slice b ev.2.length c),(202,.int .i64 ev.2.length),(203,.int .i64 (k:Int))])
           (fun k w'=>k<=ev.2.length/\∃Q wv,(Q.length=m/\aU Q=zu (jh ev.1.1 q0 ev.2 k).au (q0+k))/\Hp w0 w' [rO 3 1 eI b c ev.2,rB Tg 66 (n7 (x.sg.getD s default)),rB bx 88 [.pointer (some ⟨b4,0,none⟩),.slice (some ⟨bs,0,none⟩) x.sg.length x.sg.length,.int .i64 (wv),.bool ev.1.2],rB b4 33 [.int .i64 (cT (ee x.n 0)),.slice sa m sc,.slice kx ev.1.1.af.length ky,.slice none 0 0],rO 120 2 gh kx ky ev.1.1.af,rO 68 3 kf sa sc Q,fz Q,rO 31 1 jk (some ⟨bs,0,none⟩) x.sg.length R,cC 3 1 eI R,rB b5 50 [.slice (some ⟨bs,0,none⟩) x.sg.length x.sg.length],rB b1 41 x.cs,rB b2 33 (aL Tryz.dY.zero)]) (fun k=>ev.2.length-k) 0 (by rw[Ij];rfl) ⟨by omega,Q,_,⟨oV,?_⟩,hp.f3.f1.f3.f4.f4⟩ ?_
          ·rw[lF]
           show zu (jl x.n (bO x.n l).2 ((s:Nat):Int) (fX x.n (bO x.n l).2 (bO x.n l).1 s) i).1.1.au q0=zu ev.1.1.au q0
           rw[v3]
          clear hp oV lF
          rintro k w1 ⟨Io,Q,wv,⟨oV,lF⟩,hp⟩ WM C
          refine bL ?_
          apply ae<;>intro Kr
          ·have O0:k<ev.2.length:=by omega
           obtain⟨u1,_⟩:=v1.bits (bits:=ev.2) (w:=wN x.n (s:Nat)) ij Cr v2 k (by omega)
           have u2:(jh ev.1.1 q0 ev.2 k).au.length=m:=by rw[u1.len,wj];rfl
           have hvk:=v2 _ (aK O0)
           have Li:sa≠none:=bW hp (X:=Q) (by omega)
           refine aN ?_;(repeat(first|(refine ah ?_;first|refine aH hp ?_|refine bb hp ?_)|(refine bK ?_;refine gG hp ?_;intro w _ hx hp;refine az ?_)))
           rename_i bl
           first|refine Jm hp ({Q.getD (q0+k) default with ins:=[ev.2.getD k default],ia:=some ⟨bl,0,none⟩,ic:=1}) rfl rfl rfl (by omega) (by decide) rfl rfl ?_|refine NP hp ({Q.getD (q0+k) default with ins:=[ev.2.getD k default],ia:=some ⟨bl,0,none⟩,ic:=1}) rfl rfl rfl (by omega) (by decide) rfl rfl ?_
           intro w hp;refine az ?_
           obtain⟨Qr,DZ,gF⟩:=nC hp.f7 (i:=q0+k) (by omega)
           have hp:=gF _ _ {Q.getD (q0+k) default with ins:=[ev.2.getD k default],ia:=some ⟨bl,0,none⟩,ic:=1} (DZ.drop.f1)
           exact WM (k+1) _ _ _ (by omega) rfl ⟨by omega,_,wv,⟨by rw[List.length_set];exact oV,Eg lF (by omega) _ _ _⟩,hp.f6.f6.f6.f6.f6.f6⟩
          ·refine aM ?_
           obtain rfl:k=ev.2.length:=by omega
           clear WM
           refine kF (i+1) _ _ _ (by omega) (by rw[eJ,Cr];rfl) ⟨by omega,Q,kx,ky,wv,⟨oV,by rw[eJ];rw[Cr] at lF;exact lF⟩,?_⟩
           rw[eJ]
           show Hp w0 _ [rB Tg 66 (n7 (x.sg.getD s default)),rB bx 88 [.pointer (some ⟨b4,0,none⟩),.slice (some ⟨bs,0,none⟩) x.sg.length x.sg.length,.int .i64 (wv),.bool ev.1.2],rB b4 33 [.int .i64 (cT (ee x.n 0)),.slice sa m sc,.slice kx (jh ev.1.1 q0 ev.2 (wN x.n (s:Nat))).af.length ky,.slice none 0 0],rO 120 2 gh kx ky (jh ev.1.1 q0 ev.2 (wN x.n (s:Nat))).af,rO 68 3 kf sa sc Q,fz Q,rO 31 1 jk (some ⟨bs,0,none⟩) x.sg.length R,cC 3 1 eI R,rB b5 50 [.slice (some ⟨bs,0,none⟩) x.sg.length x.sg.length],rB b1 41 x.cs,rB b2 33 (aL Tryz.dY.zero)]
           rw[AU]
           exact hp.drop
         ·have eJ:(jl x.n (bO x.n l).2 ((s:Nat):Int) (fX x.n (bO x.n l).2 (bO x.n l).1 s) (i+1))=(jl x.n (bO x.n l).2 ((s:Nat):Int) (fX x.n (bO x.n l).2 (bO x.n l).1 s) i):=by
           rw[jl]
           unfold zG
           rw[if_neg (show¬dT x.n i=((s:Nat):Int) from fun h=>ht ((x.Ld i).symm.trans h))]
          refine aM ?_
          exact kF (i+1) _ _ _ (by omega) (by rw[eJ];rfl) ⟨by omega,Q,aa,ac,wv,⟨oV,by rw[eJ];exact lF⟩,by rw[eJ];exact hp.drop⟩
        ·refine aM ?_
         obtain rfl:i=x.aP.length:=by omega
         exact IH (s+1) _ _ _ (by omega) (by rw[eT];rfl) ⟨by omega,Q,aa,ac,wv,⟨oV,by rw[eT];exact lF⟩,by rw[eT];exact hp.drop⟩
      ·refine aM ?_;refine aH hp ?_
       obtain rfl:s=x.sg.length:=by omega
       clear IH
       have eR:(fX x.n (bO x.n l).2 (bO x.n l).1 x.sg.length)=dN x.n l:=rfl
       rw[eR] at hp lF AE zw⊢
       cases hb:(dN x.n l).1.2 with
       |true=>
        refine aN ?_;refine aW hp ?_;intro w hp;refine az ?_;refine bh hp rfl ?_
        rw[wQ he hb]
        exact⟨zh,⟨rfl,rfl⟩,(oQ hp).tk 1⟩
       |false=>
        refine aM ?_;refine aH hp ?_
        have hp:=hp.drop
        have hlN:(dN x.n l).1.1.au.length=m:=by rw[AE.len,wj];rfl
        have hmt:∀j,j<=x.ms.length->oM x.n (bO x.n l).2 (dj x.n (bO x.n l).2 (dN x.n l).1.1 (dN x.n l).2 j).1 (dj x.n (bO x.n l).2 (dN x.n l).1.1 (dN x.n l).2 j).2/\(dj x.n (bO x.n l).2 (dN x.n l).1.1 (dN x.n l).2 j).2=(dN x.n l).2+ja x.n j:=fun j hj=>by
         have h:=wP hm hf yN (N:=(dN x.n l).1.1) (by have h:=AE;rw[zw] at h;exact h) j hj
         rw[zw];exact h
        refine aR [1,2,4,5,22,225,226,227] (fun(j:Nat)=>[(1,.pointer (some ⟨b1,0,none⟩)),(2,.pointer (some ⟨b2,0,none⟩)),(4,.pointer (some ⟨b4,0,none⟩)),(5,.pointer (some ⟨b5,0,none⟩)),(22,.int .i64 (((dj x.n (bO x.n l).2 (dN x.n l).1.1 (dN x.n l).2 j).2:Nat):Int)),(225,.slice x.ma x.ms.length x.mc),(226,.int .i64 x.ms.length),(227,.int .i64 (j:Int))])
         (fun j w'=>j<=x.ms.length/\∃Q,(Q.length=m/\aU Q=zu (dj x.n (bO x.n l).2 (dN x.n l).1.1 (dN x.n l).2 j).1.au (dj x.n (bO x.n l).2 (dN x.n l).1.1 (dN x.n l).2 j).2)/\Hp w0 w' [rB b4 33 [.int .i64 (cT (ee x.n 0)),.slice sa m sc,.slice aa (dN x.n l).1.1.af.length ac,.slice none 0 0],rO 120 2 gh aa ac (dN x.n l).1.1.af,rO 68 3 kf sa sc Q,fz Q,rO 31 1 jk (some ⟨bs,0,none⟩) x.sg.length R,cC 3 1 eI R,rB b5 50 [.slice (some ⟨bs,0,none⟩) x.sg.length x.sg.length],rB b1 41 x.cs,rB b2 33 (aL Tryz.dY.zero)]) (fun j=>x.ms.length-j) 0 rfl ⟨by omega,Q,⟨oV,lF⟩,hp⟩ ?_
        clear hp oV lF
        rintro j w1 ⟨hj,Q,⟨oV,lF⟩,hp⟩ IH C
        obtain⟨Tm,Tn⟩:=hmt j hj
        have hT3:=tf hm j hj
        have hT4:=iK hm 3 x.sg.length (Nat.le_refl _)
        have hS2':(dN x.n l).2=dU x.n 3 x.sg.length:=zw
        refine bL ?_
        apply ae<;>intro bD
        ·have aF:j<x.ms.length:=by omega
         obtain⟨i1,i2,i3,i4,_⟩:=hm.ms j aF
         change dr x.n (x.ms.getD j default).addr at i1
         change dr x.n (x.ms.getD j default).data at i2
         change dr x.n (x.ms.getD j default).write at i3
         change dr x.n (x.ms.getD j default).out at i4
         obtain⟨w1',w2',w3',w4',w5'⟩:=GZ hm hf aF
         change wN x.n (x.ms.getD j default).addr=2 at w1'
         change wN x.n (x.ms.getD j default).write=1 at w2'
         change wN x.n (x.ms.getD j default).data=wN x.n (x.ms.getD j default).out at w3'
         have f1:=l8 yN i1
         have f2:=l8 yN i2
         have f3:=l8 yN i3
         rw[<-fO,bk] at f1 f2 f3
         unfold dr at i1 i2 i3 i4
         change 0<=(x.ms.getD j default).addr/\(x.ms.getD j default).addr<x.sg.length at i1
         change 0<=(x.ms.getD j default).data/\(x.ms.getD j default).data<x.sg.length at i2
         change 0<=(x.ms.getD j default).write/\(x.ms.getD j default).write<x.sg.length at i3
         change 0<=(x.ms.getD j default).out/\(x.ms.getD j default).out<x.sg.length at i4
         obtain⟨o,ho⟩:=Int.eq_ofNat_of_zero_le i4.1
         have eo:(x.ms.getD j default).out.toNat=o:=by omega
         obtain⟨e1,e2⟩:=eW o (by omega)
         have la1:FL (x.ms.getD j default).addr.toNat R:=⟨by omega⟩
         have la2:FL (x.ms.getD j default).data.toNat R:=⟨by omega⟩
         have la3:FL (x.ms.getD j default).write.toNat R:=⟨by omega⟩
         have zz:wN x.n (x.ms.getD j default).out=wN x.n (o:Nat):=by rw[ho]
         have eN:(dj x.n (bO x.n l).2 (dN x.n l).1.1 (dN x.n l).2 (j+1))=(l7 (bO x.n l).2 (x.ms.getD j default) (dj x.n (bO x.n l).2 (dN x.n l).1.1 (dN x.n l).2 j).1 (dj x.n (bO x.n l).2 (dN x.n l).1.1 (dN x.n l).2 j).2 (wN x.n (o:Nat)),(dj x.n (bO x.n l).2 (dN x.n l).1.1 (dN x.n l).2 j).2+wN x.n (o:Nat)):=by
          rw[dj]
          show(l7 (bO x.n l).2 (x.ms.getD j default) (dj x.n (bO x.n l).2 (dN x.n l).1.1 (dN x.n l).2 j).1 (dj x.n (bO x.n l).2 (dN x.n l).1.1 (dN x.n l).2 j).2 (wN x.n (x.ms.getD j default).out),(dj x.n (bO x.n l).2 (dN x.n l).1.1 (dN x.n l).2 j).2+wN x.n (x.ms.getD j default).out)=_
          rw[zz]
         have hmw:=lD x.n (i:=j+1) (j:=x.ms.length) (by omega)
         have hmw2:ja x.n (j+1)=ja x.n j+wN x.n (o:Nat):=by
          rw[ja]
          show ja x.n j+wN x.n (x.ms.getD j default).out=_
          rw[zz]
         refine aN ?_;refine bb hp ?_
         refine bP hp ?_;intro w b32 hx hp;refine az ?_;refine aW hp ?_;intro w hp;refine az ?_
         obtain⟨q0,Ij⟩:∃q0,q0=(dj x.n (bO x.n l).2 (dN x.n l).1.1 (dN x.n l).2 j).2:=⟨_,rfl⟩
         rw[<-Ij] at lF eN Tm Tn
         have hq0m:q0+wN x.n (o:Nat)<=m:=by omega
         have Xy:=fun k hk=>BU hm hf yN Tm aF (by rw[Tn];exact congrArg (· +ja x.n j) zw) k hk
         refine aR [1,2,4,5,22,32,33,225,226,227] (fun(k:Nat)=>[(1,.pointer (some ⟨b1,0,none⟩)),(2,.pointer (some ⟨b2,0,none⟩)),(4,.pointer (some ⟨b4,0,none⟩)),(5,.pointer (some ⟨b5,0,none⟩)),(22,.int .i64 ((q0+k:Nat):Int)),(32,.pointer (some ⟨b32,0,none⟩)),(33,.int .i64 (k:Int)),(225,.slice x.ma x.ms.length x.mc),(226,.int .i64 x.ms.length),(227,.int .i64 (j:Int))])
          (fun k w'=>k<=wN x.n (o:Nat)/\∃Q,(Q.length=m/\aU Q=zu (l7 (bO x.n l).2 (x.ms.getD j default) (dj x.n (bO x.n l).2 (dN x.n l).1.1 (dN x.n l).2 j).1 q0 k).au (q0+k))/\Hp w0 w' [rB b32 70 (p9 (x.ms.getD j default)),rB b4 33 [.int .i64 (cT (ee x.n 0)),.slice sa m sc,.slice aa (dN x.n l).1.1.af.length ac,.slice none 0 0],rO 120 2 gh aa ac (dN x.n l).1.1.af,rO 68 3 kf sa sc Q,fz Q,rO 31 1 jk (some ⟨bs,0,none⟩) x.sg.length R,cC 3 1 eI R,rB b5 50 [.slice (some ⟨bs,0,none⟩) x.sg.length x.sg.length],rB b1 41 x.cs,rB b2 33 (aL Tryz.dY.zero)]) (fun k=>wN x.n (o:Nat)-k) 0 (by rw[Ij];rfl) ⟨by omega,Q,⟨oV,lF⟩,hp⟩ ?_
         clear hp oV lF
         rintro k w1 ⟨Io,Q,⟨oV,lF⟩,hp⟩ kF C
         refine bL ?_;(repeat(refine ah ?_;first|refine aH hp ?_|refine rP hp ?_))
         rw[eo]
         apply ae<;>intro jK
         ·have fK:k<wN x.n (o:Nat):=by omega
          have u2:(l7 (bO x.n l).2 (x.ms.getD j default) (dj x.n (bO x.n l).2 (dN x.n l).1.1 (dN x.n l).2 j).1 q0 k).au.length=m:=by
           have h:=(Xy k (by show k<=wN x.n (x.ms.getD j default).out;omega)).len
           rw[wj];exact h
          have Li:sa≠none:=bW hp (X:=Q) (by omega)
          have la1n:(R.getD (x.ms.getD j default).addr.toNat default).ia≠none:=bW hp (X:=(R.getD (x.ms.getD j default).addr.toNat default).ins) (by omega)
          have la2n:(R.getD (x.ms.getD j default).data.toNat default).ia≠none:=bW hp (X:=(R.getD (x.ms.getD j default).data.toNat default).ins) (by omega)
          have la3n:(R.getD (x.ms.getD j default).write.toNat default).ia≠none:=bW hp (X:=(R.getD (x.ms.getD j default).write.toNat default).ins) (by omega)
          refine aN ?_
          refine j8 hp ?_;intro w hx hp;have hs:=hp;(repeat(first|(refine ah ?_;first|refine dQ ?_|refine fo ?_|refine jr rfl (by omega) (by omega) rfl rfl rfl ?_)|(refine bK ?_;refine sJ (fun _ hx=>hs.ext hx) hp rfl rfl rfl rfl rfl rfl rfl rfl rfl rfl ?_;intro w _ hx hp;have hs:=hs.ext hx;refine fW ?_)))
          rename_i bl
          have eL:[(R.getD (x.ms.getD j default).addr.toNat default).ins.getD (Int.toNat 0) default,(R.getD (x.ms.getD j default).addr.toNat default).ins.getD (Int.toNat 1) default,(R.getD (x.ms.getD j default).data.toNat default).ins.getD k default,(R.getD (x.ms.getD j default).write.toNat default).ins.getD (Int.toNat 0) default]=p7 (bO x.n l).2 (x.ms.getD j default) k:=by
           unfold p7
           rw[<-fO,bk,bk,bk];rfl
          first|refine EW hp ({Q.getD (q0+k) default with ins:=p7 (bO x.n l).2 (x.ms.getD j default) k,ia:=some ⟨bl,0,none⟩,ic:=4}) rfl rfl rfl (by omega) (by decide) rfl rfl (by kernel_rfl) ?_|refine Gh hp ({Q.getD (q0+k) default with ins:=p7 (bO x.n l).2 (x.ms.getD j default) k,ia:=some ⟨bl,0,none⟩,ic:=4}) rfl rfl rfl (by omega) (by decide) rfl rfl (by kernel_rfl) ?_
          intro w hp;refine fW ?_
          rw[eL] at hp
          obtain⟨Qr,DZ,gF⟩:=nC hp.f5 (i:=q0+k) (by omega)
          have hp:=gF _ _ {Q.getD (q0+k) default with ins:=p7 (bO x.n l).2 (x.ms.getD j default) k,ia:=some ⟨bl,0,none⟩,ic:=4} (DZ.drop.f1)
          exact kF (k+1) _ _ _ (by omega) rfl ⟨by omega,_,⟨by rw[List.length_set];exact oV,Eg lF (by omega) _ _ _⟩,hp.f4.f4.f4.f4⟩
         ·refine aM ?_
          obtain rfl:k=wN x.n (o:Nat):=by omega
          exact IH (j+1) _ _ _ (by omega) (by rw[eN];rfl) ⟨by omega,Q,⟨oV,by rw[eN];exact lF⟩,hp.drop⟩
        ·refine aM ?_;refine aH hp ?_
         obtain rfl:j=x.ms.length:=by omega
         clear IH
         have hT0:(dj x.n (bO x.n l).2 (dN x.n l).1.1 (dN x.n l).2 x.ms.length)=G0 x.n l:=rfl
         rw[hT0] at lF Tm Tn
         obtain⟨g1,g2⟩:=Fq hf he
         rw[g2,MK] at lF
         refine aR [2,4,5,281,282,283] (fun(i:Nat)=>[(2,.pointer (some ⟨b2,0,none⟩)),(4,.pointer (some ⟨b4,0,none⟩)),(5,.pointer (some ⟨b5,0,none⟩)),(281,.slice x.sa x.sg.length x.sc),(282,.int .i64 x.sg.length),(283,.int .i64 (i:Int))])
          (fun i w'=>i<=x.sg.length/\∃oa oc,Hp w0 w' [rO 3 1 eI oa oc ((iW x.n (bO x.n l).2 i)),rB b4 33 [.int .i64 (cT (ee x.n 0)),.slice sa m sc,.slice aa (dN x.n l).1.1.af.length ac,.slice oa ((iW x.n (bO x.n l).2 i)).length oc],rO 120 2 gh aa ac (dN x.n l).1.1.af,rO 68 3 kf sa sc Q,fz Q,rO 31 1 jk (some ⟨bs,0,none⟩) x.sg.length R,cC 3 1 eI R,rB b5 50 [.slice (some ⟨bs,0,none⟩) x.sg.length x.sg.length],rB b2 33 (aL Tryz.dY.zero)]) (fun i=>x.sg.length-i) 0 rfl ⟨by omega,none,0,?_⟩ ?_
         ·have hp:=hp.eH (e:=3) (sz:=1) (enc:=eI) (c:=0) (X:=[]) (Ext.refl _) (dk.nil _ _ _ _ _)
          exact(hp.f9.f8.f8.f8.f8.f8.f8.f8.f8).tk 9
         clear hp
         rintro i w1 ⟨hi,oa,oc,hp⟩ IH C
         have jL:=oO yN i hi
         have II:=iK hm 1 i hi
         obtain⟨O,hO⟩:∃O,O=iW x.n (bO x.n l).2 i:=⟨_,rfl⟩
         rw[<-hO] at hp jL
         refine bL ?_
         apply ae<;>intro bD
         ·have aF:i<x.sg.length:=by omega
          have la1:FL i R:=⟨by omega⟩
          have Lh:=pU i (by omega)
          refine aN ?_;refine bb hp ?_
          refine bP hp ?_;intro w b35 hx hp;refine az ?_;(repeat(first|(refine ah ?_;refine aH hp ?_)|(refine aI ?_;refine aW hp ?_;intro w hp;refine az ?_)))
          apply ae<;>intro hk
          ·have eT:iW x.n (bO x.n l).2 (i+1)=O++(R.getD i default).ins:=by rw[iW,if_pos (by rw[bG];exact hk),<-hO,<-fO,bk]
           refine aN ?_
           refine j8 hp ?_;intro w hx hp;have hs:=hp;(repeat(refine ah ?_;first|refine dQ ?_|refine fo ?_))
           refine gW hp rfl rfl rfl rfl rfl rfl rfl (by decide) rfl (zl) rfl rfl (by kernel_rfl) ?_;intro M7 pE w hp bZ;refine fW ?_;refine CX hp rfl rfl rfl rfl (by kernel_rfl) ?_;intro w hp;refine fW ?_
           refine IH (i+1) _ _ _ (by omega) rfl ⟨by omega,M7,pE,?_⟩
           rw[eT]
           exact hp.drop
          ·have eT:iW x.n (bO x.n l).2 (i+1)=O:=by rw[iW,if_neg (by rw[bG];exact hk),<-hO]
           refine aM ?_
           refine IH (i+1) _ _ _ (by omega) rfl ⟨by omega,oa,oc,?_⟩
           rw[eT]
           exact hp.drop
         ·refine aM ?_;refine aH hp ?_
          obtain rfl:i=x.sg.length:=by omega
          clear IH
          subst oV
          have m0:(⟨cT (ee x.n 0),Q,sa,sc,(dN x.n l).1.1.af,aa,ac,O,oa,oc⟩:bf).n=zv x.n l:=by
           show(⟨cT (ee x.n 0),aU Q,(dN x.n l).1.1.af,O⟩:ao)={(G0 x.n l).1 with outs:=iW x.n (bO x.n l).2 x.sg.length}
           rw[lF,<-g1.ck,hO,<-AW x.n (bO x.n l).2 (dN x.n l).1.1 (dN x.n l).2 x.ms.length]
           rfl
          have h:=fc (x:=(⟨cT (ee x.n 0),Q,sa,sc,(dN x.n l).1.1.af,aa,ac,O,oa,oc⟩:bf)) (gX (hp.f1.f1.f2.f4.f4))
          have hp:Hp w0 _ [_,_,_]:=(h.f5.f2.f2).tk 3
          refine cx Tryz.func41 (KO (⟨cT (ee x.n 0),Q,sa,sc,(dN x.n l).1.1.af,aa,ac,O,oa,oc⟩:bf) _ hp.dR (by rw[m0];exact vd hf he)) ?_;rintro _ w ⟨y2,⟨El,rfl⟩,hq⟩;have hx:=hq.x;have hp:=hp.bJ hq;refine az ?_;refine aW hp ?_;intro w hp;refine az ?_;refine bh hp rfl ?_
          rw[rF he hf hb,<-m0]
          exact⟨y2,⟨El,rfl⟩,hp.tk 1⟩
 ·have E8:fB x.n=false:=by unfold fB;exact bt hf
  refine bQ hp Tryz.func36 (uh x _ hp.mod hS hW) ?_;intro w hx hp
  rw[E8]
  refine aN ?_;refine aW hp ?_;intro w hp;refine az ?_;refine bh hp rfl ?_
  rw[yu hf]
  exact⟨zh,⟨rfl,rfl⟩,(oQ hp).tk 1⟩
end Go.Proofs
