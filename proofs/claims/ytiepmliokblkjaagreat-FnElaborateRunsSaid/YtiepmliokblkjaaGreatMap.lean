/- The contracts of the functions that map literals and build nets anew; each under its stated conditions. -/
import Derived.Test.YtiepmliokblkjaaGreatBrf
import Derived.Test.YtiepmliokblkjaaGreatExprLaw
import Derived.Test.YtiepmliokblkjaaGreatMapLaw
set_option linter.all false
namespace Go.Proofs
open Go.Xw
set_option maxRecDepth 100000
set_option maxHeartbeats 1000000
attribute [local irreducible] ax aE
theorem qX (a:Option Addr)(c:Nat)(V:List Int)(m:Nat)(hm:V.length=m)(l:Int)(w0:World)(hR:Rd w0 a 1 eI V)(h0:0<=l)(h1:l/2<m)(hb:m<=1000000000):
  bN Tryz.prog 107 [.slice a m c,.int .i64 l] w0 (fun v w=>v= .int .i64 (a8 V l)/\Ext w0 w):=by
 subst hm
 refine eu Tryz.Qi ?_;intro C hp;refine ik hp ?_;refine aq ?_
 exact⟨rfl,hp.x⟩
theorem AX (a b:Option Addr)(c d:Nat)(to lits:List Int)(m n:Nat)(hm:to.length=m)(hn:lits.length=n)(w0:World)(hR:Rd w0 a 1 eI to)(hQ:Rd w0 b 1 eI lits)(hl:∀i,i<n->0<=lits.getD i default/\lits.getD i default/2<m)(hb:m<=1000000)(HN:n<=1000000):
  bN Tryz.prog 157 [.slice a m c,.slice b n d] w0 (fun v w=>∃r e,v= .slice r (dZ to lits).length e/\Hp w0 w [rO 3 1 eI r e (dZ to lits)]):=by
 subst hm hn
 have Nc:=x6 to lits
 refine eu Tryz.QU ?_;intro C hp
 refine eg [0,5,8,9,10] (fun(i:Nat) (r:Option Addr) (e:Nat)=>[(0,.slice a to.length c),(5,.slice r ((dZ to lits).take i).length e),(8,.slice b lits.length d),(9,.int .i64 lits.length),(10,.int .i64 (i:Int))])
  (fun i r e w'=>i<=lits.length/\Hp w0 w' [rO 3 1 eI r e ((dZ to lits).take i)]) (fun i _ _=>lits.length-i) 0 none 0 rfl ⟨by omega,hp.eH (Ext.refl _) (dk.nil _ _ _ _ _)⟩ ?_
 rintro i r e w1 ⟨hi,hp⟩ IH C
 refine bL ?_
 apply ae<;>intro bD
 ·have aF:i<lits.length:=by omega
  obtain⟨q1,q2⟩:=hl i aF
  refine aN ?_;refine bb hp ?_
  refine bQ hp Tryz.func107 (qX _ _ to _ rfl (lits.getD i default) _ hp.rd q1 q2 (by omega)) ?_;intro w hx hp;refine gG hp ?_;intro w _ hx hp;refine az ?_
  refine gT hp ?_;intro r' e' w hp bZ;refine az ?_
  have hs:(dZ to lits).take (i+1)=(dZ to lits).take i++[a8 to (lits.getD i default)]:=by
   rw[iT (by omega),dZ,hH aF]
  refine IH (i+1) r' e' _ _ _ (by omega) (by rw[hs];rfl) ⟨by omega,?_⟩
  rw[hs]
  exact hp.drop
 ·refine aM ?_;refine aq ?_
  obtain rfl:i=lits.length:=by omega
  rw[<-Nc,List.take_length] at hp⊢
  exact⟨r,e,rfl,hp⟩
theorem qY (a b:Option Addr)(c d:Nat)(to lits:List Int)(m n:Nat)(hm:to.length=m)(hn:lits.length=n)(w0:World)(hR:Rd w0 a 1 eI to)(hQ:Rd w0 b 1 eI lits)(hl:∀i,i<n->0<=lits.getD i default/\lits.getD i default/2<m)(hb:m<=1000000)(HN:n<=1000000):
  bN Tryz.prog 146 [.slice a m c,.slice b n d] w0 (fun v w=>∃r e,v= .slice r (dZ to lits).length e/\Hp w0 w [rO 3 1 eI r e (dZ to lits)]):=by
 subst hm hn
 have Nc:=x6 to lits
 refine eu Tryz.QL ?_;intro C hp;refine gG hp ?_;intro w _ hx hp;refine az ?_
 refine eg [0,1,5,6] (fun(i:Nat) (r:Option Addr) (e:Nat)=>[(0,.slice a to.length c),(1,.slice b lits.length d),(5,.slice r ((dZ to lits).take i).length e),(6,.int .i64 (i:Int))])
  (fun i r e w'=>i<=lits.length/\Hp w0 w' [rO 3 1 eI r e ((dZ to lits).take i)]) (fun i _ _=>lits.length-i) 0 _ _ rfl ⟨by omega,hp⟩ ?_
 rintro i r e w1 ⟨hi,hp⟩ IH C
 refine bL ?_
 apply ae<;>intro bD
 ·have aF:i<lits.length:=by omega
  obtain⟨q1,q2⟩:=hl i aF
  refine aN ?_
  refine j7 hp ?_;intro w hx hp;have hs:=hp;(repeat(first|(refine ah ?_;first|refine fc ?_|refine jb rfl (by omega) (by omega) rfl rfl rfl ?_)|(refine bK ?_;refine qv (fun _ hx=>hs.ext hx) hp rfl rfl rfl rfl rfl rfl rfl rfl rfl rfl ?_;intro w _ hx hp;have hs:=hs.ext hx;refine fO ?_)))
  refine gW hp rfl rfl rfl rfl rfl rfl rfl (by decide) rfl (zl) rfl rfl (by kernel_rfl) ?_;intro r' e' w hp bZ;refine fO ?_
  have hs:(dZ to lits).take (i+1)=(dZ to lits).take i++[a8 to (lits.getD i default)]:=by
   rw[iT (by omega),dZ,hH aF]
  refine IH (i+1) r' e' _ _ _ (by omega) (by rw[hs];rfl) ⟨by omega,?_⟩
  rw[hs]
  exact hp.drop
 ·refine aM ?_;refine aq ?_
  obtain rfl:i=lits.length:=by omega
  rw[<-Nc,List.take_length] at hp⊢
  exact⟨r,e,rfl,hp⟩
theorem zg (x:bf)(w0:World)(aS:aj x.n):
  bN Tryz.prog 105 [x.v] w0 (fun v w=>∃b c,v= .slice b (dF x.n) c/\Hp w0 w [rO 3 1 eI b c (iH x.n++List.replicate x.af.length 0)]):=by
 have hn:=aS.ei
 have n1:=hn.n1
 have n4:=hn.n2
 have f2:=hn.f2
 have vv:=aS.nodes
 have Oo:x.n.af.length=x.af.length:=rfl
 have CH:(List.replicate (dF x.n) (0:Int)).length=dF x.n:=by simp
 refine eu Tryz.Qg ?_;intro C hp;skip;refine bP hp ?_;intro w b1 hx hp;refine az ?_;refine aI hp ?_
 refine bQ hp Tryz.func128 (jS x _ aS.b) ?_;intro w hx hp
 rw[<-n4]
 refine mG hp eI 0 rfl rfl rfl rfl (s:=1) rfl (by decide) rfl (by unfold maxLen;omega) (by show 8*_<=_;omega) ?_;intro w b3 hx hp;refine az ?_
 refine aR [1,3,4] (fun(i:Nat)=>[(1,.pointer (some ⟨b1,0,none⟩)),(3,.slice (some ⟨b3,0,none⟩) (dF x.n) (dF x.n)),(4,.int .i64 (i:Int))])
  (fun i w'=>i<=bE x.n/\Hp w0 w' [rO 3 1 eI (some ⟨b3,0,none⟩) (dF x.n) (lY (fun k=>2*((k:Nat):Int)) i (List.replicate (dF x.n) 0)),rB b1 33 x.cs]) (fun i=>bE x.n-i) 0 rfl ⟨by omega,by rw[kJ];exact hp⟩ ?_
 rintro i w1 ⟨hi,hp⟩ IH C
 have hul:=xK (f:=fun k=>2*((k:Nat):Int)) (X:=List.replicate (dF x.n) (0:Int)) (i:=i) (by omega)
 refine bL ?_;refine aI hp ?_
 refine bQ hp Tryz.func70 (iG x _ aS.b) ?_;intro w hx hp
 apply ae<;>intro bD
 ·refine aN ?_;refine nO hp rfl rfl rfl (by omega) (by decide) rfl rfl ?_;intro w hp;refine az ?_
  refine IH (i+1) _ _ _ (by omega) rfl ⟨by omega,?_⟩
  rw[mI (f:=fun k=>2*((k:Nat):Int)) (by omega)] at hp
  exact hp
 ·refine aM ?_;refine aq ?_
  obtain rfl:i=bE x.n:=by omega
  have e:lY (fun k=>2*((k:Nat):Int)) (bE x.n) (List.replicate (dF x.n) 0)=iH x.n++List.replicate x.af.length 0:=by
   unfold lY iH
   rw[List.drop_replicate,show dF x.n-bE x.n=x.af.length by omega]
  rw[e] at hp
  exact⟨_,_,rfl,hp.sub (by simp)⟩
theorem v8 (x:bf)(w0:World)(hX:fG w0 x)(aS:aj x.n):
  bN Tryz.prog 104 [x.v] w0 (fun v w=>∃y,(y.n=tT x.n []/\v=y.v)/\Hp w0 w [dv y]):=by
 have hr:=hX.au.row
 have iA:=aS.jR
 refine eu Tryz.Qf ?_;intro C hp;skip;refine bP hp ?_;intro w b1 hx hp;refine az ?_;skip;refine bP hp ?_;intro w b2 hx hp;refine az ?_;refine aI hp ?_;refine bP hp ?_;intro w b3 hx hp;refine az ?_;(repeat(first|(refine ah ?_;refine aI hp ?_)|(refine aH ?_;refine aW hp ?_;intro w hp;refine az ?_)))
 refine jv [2,3,10,11,12] (fun(i:Nat) (_:List dO) (_:Option Addr) (_:Nat)=>[(2,.pointer (some ⟨b2,0,none⟩)),(3,.pointer (some ⟨b3,0,none⟩)),(10,.slice x.sa x.au.length x.sc),(11,.int .i64 x.au.length),(12,.int .i64 (i:Int))])
  (fun i R b c w'=>(i<=x.au.length/\R.length=i/\aU R=(tT x.n []).au.take i)/\Hp w0 w' [rB b3 33 [.int .i64 x.aT,.slice b R.length c,.slice none 0 0,.slice none 0 0],rO 68 3 ke b c R,fz R,rB b2 33 (aL Tryz.dY.zero),rB b1 33 x.cs]) (fun i _ _ _=>x.au.length-i) 0 [] none 0 rfl
  ⟨⟨by omega,rfl,rfl⟩,Hp.f2 ((ot hp).eH (Ext.refl _) (dk.nil _ _ _ _ _))⟩ ?_
 rintro i R b c w1 ⟨⟨hi,hR,wJ⟩,hp⟩ IH C
 refine bL ?_
 apply ae<;>intro bD
 ·have aF:i<x.au.length:=by omega
  refine aN ?_;refine bb hp ?_
  refine bP hp ?_;intro w b5 hx hp;refine az ?_;(repeat(first|(refine ah ?_;refine aI hp ?_)|(refine aH ?_;refine aW hp ?_;intro w hp;refine az ?_)))
  refine r7 hp ke [⟨(x.au.getD i default).kind,(x.au.getD i default).init,[],none,0⟩] rfl rfl rfl rfl (s:=3) rfl (by decide) (by infer_instance) (by rfl) (by rfl) (by rfl) (by decide) ?_;intro w b23 hx hp;refine az ?_
  refine gT hp ?_;intro b' c' w hp bZ;refine az ?_;refine iE hp ?_;intro w hp;refine az ?_
  have hp:Hp w0 w (rO 3 1 eI none 0 ([]:List Int)::_):=hp.eH (Ext.refl _) (dk.nil _ _ _ _ _)
  have hp:=qy (y:=⟨(x.au.getD i default).kind,(x.au.getD i default).init,[],none,0⟩) (hp.f7.f7.f6.f6.f7.f5)
  refine IH (i+1) _ b' c' _ _ _ (by omega) rfl ⟨⟨by omega,by simp;omega,?_⟩,Hp.tk (hp.f4.f4.f2.f4.f4) 5⟩
  have uV:(tT x.n []).au.length=x.au.length:=by simp[tT,x.fE]
  rw[iT (by omega),<-wJ,vN]
  have e:(tT x.n []).au.getD i default=⟨(x.au.getD i default).kind,(x.au.getD i default).init,[]⟩:=by
   show(x.n.au.map _).getD i default=_
   rw[hH (by rw[x.fE];exact aF),x.tF]
   rfl
  rw[e]
  rfl
 ·refine aM ?_;(repeat(first|(refine ah ?_;refine aI hp ?_)|(refine aH ?_;refine aW hp ?_;intro w hp;refine az ?_)|(refine dA ?_;refine iD hp rfl ?_)))
  obtain rfl:i=x.au.length:=by omega
  have uV:(tT x.n []).au.length=x.au.length:=by simp[tT,x.fE]
  rw[<-uV,List.take_length] at wJ
  have hp:=(hp.f4.f4.f2.f4.f4)
  have hp:=gX hp
  have hp:Hp w0 _ (rO 120 2 gh none 0 ([]:List (Int×Int))::_):=hp.eH (Ext.refl _) (dk.nil _ _ _ _ _)
  have hp:Hp w0 _ (rO 3 1 eI none 0 ([]:List Int)::_):=hp.eH (Ext.refl _) (dk.nil _ _ _ _ _)
  refine⟨⟨x.aT,R,b,c,[],none,0,[],none,0⟩,⟨by unfold bf.n;rw[wJ];rfl,rfl⟩,?_⟩
  exact Hp.sub (fe (x:=⟨x.aT,R,b,c,[],none,0,[],none,0⟩) (hp.f1.f2)) (by simp)
def FU (S:List fS)(n:ao)(to:List Int)(i:Nat):fS:=⟨(S.getD i default).kind,(S.getD i default).init,dZ to (n.au.getD i default).ins⟩
theorem pI (R:List dO)(i:Nat)(y:dO):aU (R.set i y)=(aU R).set i y.s:=by simp[aU,List.map_set]
theorem v9 (p:Nat)(y x:bf)(pa:Option Addr)(pc m:Nat)(to:List Int)(hm:to.length=m){w0 w:World}{L:List bh}(hp:Hp w0 w (rB p 33 y.cs::E0 y.sa y.sc y.au::rO 3 1 eI y.oa y.oc y.outs::L))[hX:lJ w0 L x][hT:gm w0 L pa 1 eI to](aS:aj x.n)(vv:dF x.n<=m)(hmb:m<=1000000)(th:x.au.length<=y.au.length)(Ee:y.au.length<=1000000):
  bN Tryz.prog 108 [.pointer (some ⟨p,0,none⟩),x.v,.slice pa m pc] w (fun v w'=>∃R oa oc,v= .tuple ⟨[]⟩/\(R.length=y.au.length/\aU R=lY (FU (aU y.au) x.n to) x.au.length (aU y.au))/\
   Hp w0 w' (rB p 33 [.int .i64 y.aT,.slice y.sa y.au.length y.sc,.slice y.aa y.af.length y.ac,.slice oa (dZ to x.outs).length oc]::E0 y.sa y.sc R::rO 3 1 eI oa oc (dZ to x.outs)::L)):=by
 subst hm
 have hn:=aS.ei
 have n1:=hn.n1
 have n2:=hn.n2
 have iA:=aS.jR
 have sY:=x.fE
 have pJ:∀l,aD l (ag x.n)->0<=l/\l/2<to.length:=fun l h=>by unfold aD at h;omega
 refine vJ Tryz.Qj ?_;intro C
 refine bP hp ?_;intro w b4 hx hp;refine az ?_;refine aI hp ?_
 have hp:=ou (hp.f3.f2.f2.f3)
 refine gK [0,2,4,9,10,11] (fun(i:Nat) (_:List dO)=>[(0,.pointer (some ⟨p,0,none⟩)),(2,.slice pa to.length pc),(4,.pointer (some ⟨b4,0,none⟩)),(9,.slice x.sa x.au.length x.sc),(10,.int .i64 x.au.length),(11,.int .i64 (i:Int))])
  (fun i R w'=>(i<=x.au.length/\R.length=y.au.length/\aU R=lY (FU (aU y.au) x.n to) i (aU y.au))/\Hp w0 w' (rO 68 3 ke y.sa y.sc R::fz R::rB b4 33 x.cs::rB p 33 y.cs::rO 3 1 eI y.oa y.oc y.outs::L)) (fun i _=>x.au.length-i) 0 y.au rfl
  ⟨⟨by omega,rfl,by rw[kJ]⟩,hp⟩ ?_
 rintro i R w1 ⟨⟨hi,hR,wJ⟩,hp⟩ IH C
 refine bL ?_
 apply ae<;>intro bD
 ·have aF:i<x.au.length:=by omega
  have pW:=aS.ins aF
  have OV:=x.rT i
  have hq:∀j,j<(x.au.getD i default).ins.length->0<=(x.au.getD i default).ins.getD j default/\(x.au.getD i default).ins.getD j default/2<to.length:=fun j hj=>
   pJ _ (aS.ck (aK (show i<x.n.au.length by omega)) _ (by rw[OV];exact aK hj))
  refine aN ?_;refine bb hp ?_
  have lN:=hX.in_ aF
  have fD:y.sa≠none:=bW hp (X:=R) (by omega)
  refine bP hp ?_;intro w b7 hx hp;refine az ?_;refine aW hp ?_;intro w hp;refine az ?_
  refine fR hp ?_;(repeat(refine fy ?_))
  refine j8 Tryz.func157 (fun F w hp=> ?_);refine bN.mono (AX pa _ pc _ to (x.au.getD i default).ins _ _ rfl rfl _ hp.pre.rd hp.pre.rd hq (by omega) (by omega)) ?_;rintro _ w ⟨r,e,rfl,hq⟩;have hp:=hp.eU hq;refine⟨fun _=>hp.sub (by(repeat(first|exact List.sublist_append_left _ _|apply List.Sublist.cons))),_,hp,?_⟩;clear hp;refine cX ?_
  first|refine Bt ({R.getD i default with ins:=dZ to (x.au.getD i default).ins,ia:=r,ic:=e}) rfl rfl rfl (by omega) (by decide) rfl rfl (by kernel_rfl) ?_|refine Gm ({R.getD i default with ins:=dZ to (x.au.getD i default).ins,ia:=r,ic:=e}) rfl rfl rfl (by omega) (by decide) rfl rfl (by kernel_rfl) ?_
  refine cX ?_
  refine dc ?_;intro w hp C;refine bL ?_
  obtain⟨Q,hq,gF⟩:=nC (hp.f1.drop.f2) (i:=i) (by omega)
  have hp:=(gF _ _ {R.getD i default with ins:=dZ to (x.au.getD i default).ins,ia:=r,ic:=e} hq.drop.f1).f1
  refine IH (i+1) _ _ _ _ (by omega) rfl ⟨⟨by omega,by simp;omega,?_⟩,hp⟩
  have Db:i<(aU y.au).length:=by rw[cm];omega
  rw[pI,wJ,<-mI (f:=FU (aU y.au) x.n to) Db]
  congr 1
  have h1:(R.getD i default).s=(aU y.au).getD i default:=by
   rw[<-gL,wJ,wI (Nat.le_refl _) (by omega)]
  unfold FU
  rw[<-h1,OV]
  rfl
 ·refine aM ?_;refine aI hp ?_
  obtain rfl:i=x.au.length:=by omega
  refine cy Tryz.func157 (AX pa _ pc _ to x.outs _ _ rfl rfl _ hp.rd hp.rd (fun j hj=>pJ _ (aS.out _ (aK hj))) (by omega) (by omega)) ?_;rintro _ w ⟨r,e,rfl,hq⟩;have hx:=hq.x;have hp:=hp.bJ hq;refine az ?_;refine iE hp ?_;intro w hp;refine az ?_;refine aq ?_
  have hp:=gX (hp.f5.drop.f3.drop.f3.f1.f3.f3)
  exact⟨R,r,e,rfl,⟨hR,wJ⟩,hp.f1.f1.f2⟩
theorem Su {p:Int->Prop}{a b:Int}(ha:p a)(hb:p b):∀j,j<[a,b].length->p ([a,b].getD j default)
 |0,_=>ha
 |1,_=>hb
 |j+2,h=>by simp at h;omega
theorem Cr {n:ao}{to:List Int}{S:List fS}(hl:S.length=n.au.length)(h:∀i,i<n.au.length->(S.getD i default).kind=(n.au.getD i default).kind/\(S.getD i default).init=(n.au.getD i default).init):
  lY (FU S n to) n.au.length S=n.au.map fun s=>⟨s.kind,s.init,dZ to s.ins⟩:=by
 have e:=tG (FU S n to) S
 rw[hl] at e
 rw[e]
 refine lZ (by simp) fun i hi=> ?_
 simp at hi
 rw[ov hi,hH hi]
 unfold FU
 rw[(h i hi).1,(h i hi).2]
theorem vt {n:ao}{A:List (Int×Int)}:(tT n A).au.length=n.au.length/\∀i,i<n.au.length->((tT n A).au.getD i default).kind=(n.au.getD i default).kind/\((tT n A).au.getD i default).init=(n.au.getD i default).init:=
 ⟨by simp[tT],fun i hi=>by unfold tT;rw[hH hi];exact⟨rfl,rfl⟩⟩
theorem vu {n:ao}{A:List (Int×Int)}:(ky n A).au.length=n.au.length/\∀i,i<n.au.length->((ky n A).au.getD i default).kind=(n.au.getD i default).kind/\((ky n A).au.getD i default).init=(n.au.getD i default).init:=
 ⟨by simp[ky],fun i hi=>by unfold ky;rw[hH hi];exact⟨rfl,rfl⟩⟩
def Nr:bf:=⟨0,[],none,0,[],none,0,[],none,0⟩
theorem OW {w0 w:World}{L:List bh}(h:Hp w0 w L):Hp w0 w (dv Nr::L):=by
 have h1:Hp w0 w (rO 3 1 eI none 0 ([]:List Int)::L):=h.eH (Ext.refl _) (dk.nil _ _ _ _ _)
 have h2:Hp w0 w (rO 120 2 gh none 0 ([]:List (Int×Int))::rO 3 1 eI none 0 ([]:List Int)::L):=h1.eH (Ext.refl _) (dk.nil _ _ _ _ _)
 have h3:Hp w0 w (rO 68 3 ke none 0 ([]:List dO)::fz []::rO 120 2 gh none 0 ([]:List (Int×Int))::rO 3 1 eI none 0 ([]:List Int)::L):=(ot h2).eH (Ext.refl _) (dk.nil _ _ _ _ _)
 exact fe (x:=Nr) (gX h3)
theorem zh (x:bf)(w0:World)(hX:fG w0 x)(aS:aj x.n)(hS:kK x.n):
  bN Tryz.prog 85 [x.v] w0 (fun v w=>∃y b c,(y.n=ky x.n []/\v= .tuple ⟨[y.v,.slice b (iH x.n).length c]⟩)/\Hp w0 w [dv y,rO 3 1 eI b c (iH x.n)]):=by
 have hn:=aS.ei
 have n1:=hn.n1
 have n4:=hn.n2
 have f2:=hn.f2
 have vv:=aS.nodes
 have iA:=aS.jR
 have OT:=kN x.n
 obtain⟨s1,s2,s3,s4⟩:=hS
 rw[x.fE] at s1 s2
 simp only[x.rT] at s2
 refine eu Tryz.Vx ?_;intro C hp;skip;refine bP hp ?_;intro w b1 hx hp;refine az ?_;skip;refine bP hp ?_;intro w b2 hx hp;refine az ?_
 refine fR hp ?_;(repeat(refine fy ?_))
 refine j8 Tryz.func140 (fun F w hp=> ?_);refine bN.mono (qz _ _ _ _ hp.dR.au s1 s2) ?_;rintro _ w ⟨b5,c5,R,⟨hR,rfl⟩,hq⟩;have hp:=hp.eU hq;refine⟨fun _=>hp.sub (by(repeat(first|exact List.sublist_append_left _ _|apply List.Sublist.cons))),_,hp,?_⟩;clear hp;refine cX ?_
 (first|refine oq ?_|refine iS rfl ?_);intro b4;refine cX ?_;refine eO rfl rfl rfl rfl (by kernel_rfl) ?_;refine cX ?_
 refine dc ?_;intro w hp C;refine bL ?_;refine gG hp ?_;intro w _ hx hp;refine az ?_
 have fF:R.length=x.au.length:=by rw[<-cm R,hR,cm]
 refine eg [1,2,4,5,6] (fun(i:Nat) (b:Option Addr) (c:Nat)=>[(1,.pointer (some ⟨b1,0,none⟩)),(2,.pointer (some ⟨b2,0,none⟩)),(4,.pointer (some ⟨b4,0,none⟩)),(5,.slice b ((iH x.n).take i).length c),(6,.int .i64 (i:Int))])
  (fun i b c w'=>i<=bE x.n/\Hp w0 w' [rO 3 1 eI b c ((iH x.n).take i),rB b4 33 [.int .i64 x.aT,.slice b5 R.length c5,.slice none 0 0,.slice none 0 0],E0 b5 c5 R,rB b2 33 (aL Tryz.dY.zero),rB b1 33 x.cs]) (fun i _ _=>bE x.n-i) 0 _ _ rfl
  ⟨by omega,hp⟩ ?_
 rintro i b c w1 ⟨hi,hp⟩ IH C
 refine bL ?_;refine aI hp ?_
 refine bQ hp Tryz.func137 (jG x _ aS.b) ?_;intro w hx hp
 apply ae<;>intro bD
 ·have aF:i<bE x.n:=by omega
  refine aN ?_;refine gG hp ?_;intro w _ hx hp;refine az ?_
  refine gT hp ?_;intro b' c' w hp bZ;refine az ?_
  have e:(iH x.n).take (i+1)=(iH x.n).take i++[2*(i:Int)]:=by rw[iT (by omega),mn aF]
  refine IH (i+1) b' c' _ _ _ (by omega) (by rw[e];rfl) ⟨by omega,?_⟩
  rw[e]
  exact hp.drop
 ·refine aM ?_
  obtain rfl:i=bE x.n:=by omega
  rw[<-OT,List.take_length] at hp⊢
  have hp:=ou hp.f2
  clear IH
  refine gK [2,4,5,7] (fun(i:Nat) (_:List dO)=>[(2,.pointer (some ⟨b2,0,none⟩)),(4,.pointer (some ⟨b4,0,none⟩)),(5,.slice b (iH x.n).length c),(7,.int .i64 (i:Int))])
   (fun i T w'=>(i<=x.au.length/\T.length=R.length/\aU T=lY (fun i=>⟨((aU R).getD i default).kind,((aU R).getD i default).init,List.replicate ((aU R).getD i default).ins.length 0⟩) i (aU R))/\
    Hp w0 w' [rO 68 3 ke b5 c5 T,fz T,rO 3 1 eI b c (iH x.n),rB b4 33 [.int .i64 x.aT,.slice b5 R.length c5,.slice none 0 0,.slice none 0 0],rB b2 33 (aL Tryz.dY.zero)]) (fun i _=>x.au.length-i) 0 R rfl
   ⟨⟨by omega,rfl,by rw[kJ]⟩,Hp.tk hp 5⟩ ?_
  rintro i T w2 ⟨⟨hi,hT,hTs⟩,hp⟩ IH C
  refine bL ?_;refine aI hp ?_
  apply ae<;>intro bD
  ·have aF:i<x.au.length:=by omega
   have h1:(T.getD i default).s=(aU R).getD i default:=by rw[<-gL,hTs,wI (Nat.le_refl _) (by rw[cm];omega)]
   have h2:(T.getD i default).ins=(x.au.getD i default).ins:=by
    have h3:(aU R).getD i default=(aU x.au).getD i default:=by rw[hR]
    rw[gL x.au] at h3
    exact congrArg fS.ins (h1.trans h3)
   have h4:=s2 i aF
   rw[<-h2] at h4
   have fD:b5≠none:=bW hp (X:=T) (by omega)
   refine aN ?_
   refine fR hp ?_;(repeat(refine gu ?_;first|refine fy ?_|refine sK rfl (by omega) rfl rfl rfl ?_))
   refine Bs eI 0 rfl rfl rfl rfl (s:=1) rfl (by decide) (by infer_instance) rfl (by unfold maxLen;omega) (by show 8*_<=_;omega) ?_;intro b43;refine cX ?_
   refine Bt ({T.getD i default with ins:=List.replicate (T.getD i default).ins.length 0,ia:=some ⟨b43,0,none⟩,ic:=(T.getD i default).ins.length}) rfl rfl rfl (by omega) (by decide) (by show[_,_,Value.slice _ (List.replicate _ _).length _]=_;rw[List.length_replicate];rfl) rfl (by kernel_rfl) ?_;refine cX ?_
   refine dc ?_;intro w hp C;refine bL ?_
   obtain⟨Q,hq,gF⟩:=nC hp.f2 (i:=i) (by omega)
   have hp:=(gF _ _ {T.getD i default with ins:=List.replicate (T.getD i default).ins.length 0,ia:=some ⟨b43,0,none⟩,ic:=(T.getD i default).ins.length} hq.drop.f1).f1
   refine IH (i+1) _ _ _ _ (by omega) rfl ⟨⟨by omega,by simp;omega,?_⟩,hp⟩
   have Db:i<(aU R).length:=by rw[cm];omega
   rw[pI,hTs,<-mI (f:=fun i=>(⟨((aU R).getD i default).kind,((aU R).getD i default).init,List.replicate ((aU R).getD i default).ins.length 0⟩:fS)) Db]
   congr 1
   rw[<-h1]
   rfl
  ·refine aM ?_;(repeat(first|(refine ah ?_;refine aI hp ?_)|(refine aH ?_;refine aW hp ?_;intro w hp;refine az ?_)|(refine dA ?_;refine bg hp rfl ?_)))
   obtain rfl:i=x.au.length:=by omega
   have hZ:aU T=(ky x.n []).au:=by
    rw[hTs,<-fF,<-cm R,tG,hR]
    refine lZ (by show _=((aU x.au).map _).length;simp) fun j hj=> ?_
    simp at hj
    unfold ky
    rw[ov hj,hH (by rw[x.fE];simpa [aU] using hj)]
    rfl
   have hp:=gX hp
   have hp:Hp w0 _ (rO 120 2 gh none 0 ([]:List (Int×Int))::_):=hp.eH (Ext.refl _) (dk.nil _ _ _ _ _)
   have hp:Hp w0 _ (rO 3 1 eI none 0 ([]:List Int)::_):=hp.eH (Ext.refl _) (dk.nil _ _ _ _ _)
   rw[<-hT] at hp
   refine⟨⟨x.aT,T,b5,c5,[],none,0,[],none,0⟩,b,c,⟨by unfold bf.n;rw[hZ];rfl,by rw[<-hT];rfl⟩,?_⟩
   exact Hp.tk (fe (x:=⟨x.aT,T,b5,c5,[],none,0,[],none,0⟩) (hp.f1.f2)) 2
end Go.Proofs
