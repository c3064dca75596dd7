/- The literals of an expression have the bits of its value: plain data; under its stated conditions. -/
import Derived.Test.YtiepmliokblkjaaGreatMapLaw
import Derived.Test.YtiepmliokblkjaaGreatSimLaw
set_option linter.all false
namespace Go.Xw
open Go.Proofs
set_option maxHeartbeats 1000000
theorem bldE {z:ao}(h:aj z):tS (aB z) z.af []:=by
 have hc:=h.count
 have hs:=h.size
 have hfa:aB z=1+z.aT+z.au.length:=rfl
 unfold fT at hs
 exact⟨⟨hc.1,by omega⟩,hs.2.2.1,fun i hi=>h.wk hi,fun i hi=>by simp at hi⟩
theorem oG (n:ao)(a b:Int):∃T,(ay n a b).1.af=n.af++T:=by rw[rm];exact Dt
theorem orLE (r:ao×Int):(Lb r).1=r.1:=by unfold Lb;split<;>rfl
theorem GM (n:ao)(a b:Int):∃T,(cF n a b).1.af=n.af++T:=by unfold cF;rw[orLE];exact oG _ _ _
theorem Dx (n:ao)(a b c d:Int):∃T,(eE n a b c d).1.af=n.af++T:=by
 obtain⟨T1,h1⟩:=oG n a b
 obtain⟨T2,h2⟩:=oG (ay n a b).1 c d
 obtain⟨T3,h3⟩:=GM (ay (ay n a b).1 c d).1 (ay n a b).2 (ay (ay n a b).1 c d).2
 unfold eE
 split
 ·exact⟨T1,h1⟩
 ·split
  ·exact⟨T1++T2,by rw[h2,h1,List.append_assoc]⟩
  ·exact⟨T1++(T2++T3),by rw[h3,h2,h1,List.append_assoc,List.append_assoc]⟩
theorem RI {n:ao}{r:ao×Int}(g:iv n r):aB r.1=aB n:=by rw[g.eq];rfl
def vB (U:List Int)(n:ao)(l:Int):Bool:=decide (a8 (cu U n.af) l=1)
structure fg (U:List Int)(n:ao):Prop where
 len:U.length=bE n
 My:dp U
 zero:U.getD 0 default=0
theorem BL {U:List Int}{z z':ao}(hz:aj z)(hU:fg U z){T:List (Int×Int)}(hA:z'.af=z.af++T){l:Int}(hl:aD l (ag z)):vB U z' l=vB U z l:=by
 have h1:=hl.nat hz.ei
 have n1:=hz.ei.n1
 have h2:=hU.len
 unfold vB
 rw[hA,jW (by omega)]
theorem qI {U:List Int}{z:ao}(hz:aj z)(hU:fg U z){l:Int}(hl:aD l (ag z)):vB U z (cS l)= !vB U z l:=by
 have hc:=hz.count
 have O7:=hl
 unfold aD at O7
 have hV:=gn z.af hU.My
 have h:=ya hV (a:=l) (by omega) (by omega)
 have h2:=iV hV l
 unfold vB
 rw[h]
 unfold nr at h2
 rcases h2 with h2|h2<;>rw[h2]<;>decide
theorem Dy {U:List Int}{z:ao}(hz:aj z)(hU:fg U z):vB U z 0=false/\vB U z 1=true:=by
 have hV:=gn z.af hU.My
 have h2:=hU.len
 have h3:=hz.ei.n1
 have f2:=hz.ei.f2
 have hc:=hz.count
 have e:(cu U z.af).getD 0 default=0:=by rw[qH (by omega)];exact hU.zero
 have l0:a8 (cu U z.af) 0=0:=by rw[jz hV];exact e
 have l1:a8 (cu U z.af) 1=1:=by rw[jz hV];show 1-(cu U z.af).getD 0 default=1;rw[e];rfl
 unfold vB
 rw[l0,l1];decide
theorem BM {U:List Int}{z:ao}(hz:aj z)(hU:fg U z){a b:Int}(ha:aD a (ag z))(hb:aD b (ag z))(hn:¬(ay z a b).2<0):vB U (ay z a b).1 (ay z a b).2=(vB U z a&&vB U z b):=by
 have h:a8 (cu U (ay z a b).1.af) (ay z a b).2=bits .and .i64 (a8 (cu U z.af) a) (a8 (cu U z.af) b):=by
  rw[rm] at hn⊢
  have hc:=hz.count
  have f2:=hz.ei.f2
  have hl:=hU.len
  exact Ds (by omega) hU.My hU.zero (bldE hz) (by rw[hc.2.1];exact ha) (by rw[hc.2.1];exact hb) (by dsimp only at hn;omega)
 have hV:=gn z.af hU.My
 have va:=iV hV a
 have vb:=iV hV b
 unfold vB
 rw[h,sG va vb]
 unfold nr at va vb
 rcases va with va|va<;>rcases vb with vb|vb<;>rw[va,vb]<;>decide
theorem fg.next {U:List Int}{n:ao}(h:fg U n){r:ao×Int}(g:iv n r):fg U r.1:=⟨by rw[h.len];unfold bE;rw[RI g],h.My,h.zero⟩
theorem Ow {U:List Int}{z:ao}(hz:aj z)(hU:fg U z){a b:Int}(ha:aD a (ag z))(hb:aD b (ag z))(hn:¬(cF z a b).2<0):vB U (cF z a b).1 (cF z a b).2=(vB U z a||vB U z b):=by
 have hc:=hz.count
 have la:=cN ha (by omega)
 have lb:=cN hb (by omega)
 have g:=dw hz la lb
 have hN:¬(ay z (cS a) (cS b)).2<0:=fun h=>by
  unfold cF Lb at hn
  rw[if_pos h] at hn
  exact hn (show(-1:Int)<0 by decide)
 have e:cF z a b=((ay z (cS a) (cS b)).1,cS (ay z (cS a) (cS b)).2):=by unfold cF Lb;rw[if_neg hN]
 rw[e]
 show vB U (ay z (cS a) (cS b)).1 (cS (ay z (cS a) (cS b)).2)=_
 rw[qI g.ok (hU.next g) (g.aD hN),BM hz hU la lb hN,qI hz hU ha,qI hz hU hb]
 cases vB U z a<;>cases vB U z b<;>rfl
theorem JN {U:List Int}{z:ao}(hz:aj z)(hU:fg U z){a b c d:Int}(ha:aD a (ag z))(hb:aD b (ag z))(hc:aD c (ag z))(hd:aD d (ag z))(hn:¬(eE z a b c d).2<0):vB U (eE z a b c d).1 (eE z a b c d).2=((vB U z a&&vB U z b)||(vB U z c&&vB U z d)):=by
 have g1:=dw hz ha hb
 have g2:=dw g1.ok (hc.mono g1.nodes) (hd.mono g1.nodes)
 have n1:¬(ay z a b).2<0:=fun h=>by
  unfold eE at hn
  rw[if_pos h] at hn
  exact hn (show(-1:Int)<0 by decide)
 have n2:¬(ay (ay z a b).1 c d).2<0:=fun h=>by
  unfold eE at hn
  rw[if_neg n1,if_pos h] at hn
  exact hn (show(-1:Int)<0 by decide)
 have e:eE z a b c d=cF (ay (ay z a b).1 c d).1 (ay z a b).2 (ay (ay z a b).1 c d).2:=by unfold eE;rw[if_neg n1,if_neg n2]
 rw[e] at hn⊢
 have u1:=hU.next g1
 obtain⟨T1,p1⟩:=oG z a b
 obtain⟨T2,p2⟩:=oG (ay z a b).1 c d
 rw[Ow g2.ok (u1.next g2) ((g1.aD n1).mono g2.nodes) (g2.aD n2) hn,BL g1.ok u1 p2 (g1.aD n1),BM hz hU ha hb n1,BM g1.ok u1 (hc.mono g1.nodes) (hd.mono g1.nodes) n2,BL hz hU p1 hc,BL hz hU p1 hd]
theorem RJ {U:List Int}{z:ao}(hz:aj z)(hU:fg U z){a b:Int}(ha:aD a (ag z))(hb:aD b (ag z))(hn:¬(de z a b).2<0):vB U (de z a b).1 (de z a b).2=(vB U z a^^vB U z b):=by
 have hc:=hz.count
 unfold de at hn⊢
 rw[JN hz hU ha (cN hb (by omega)) (cN ha (by omega)) hb hn,qI hz hU ha,qI hz hU hb]
 cases vB U z a<;>cases vB U z b<;>rfl
theorem RK {U:List Int}{z:ao}(hz:aj z)(hU:fg U z){s a b:Int}(hs:aD s (ag z))(ha:aD a (ag z))(hb:aD b (ag z))(hn:¬(dy z s a b).2<0):vB U (dy z s a b).1 (dy z s a b).2=if vB U z s then vB U z a else vB U z b:=by
 have hc:=hz.count
 unfold dy at hn⊢
 rw[JN hz hU hs ha (cN hs (by omega)) hb hn,qI hz hU hs]
 cases vB U z s<;>cases vB U z a<;>cases vB U z b<;>rfl
def IK (s s':ao×Bool):Prop:=Rz s s'/\∃T,s'.1.af=s.1.af++T
abbrev IS (s:ao×Bool):Prop:=aj s.1
abbrev VS (s:ao×Bool)(z:Int):Prop:=aD z (ag s.1)
theorem VW (bad:Bool)(r:ao×Int):(se bad r).1.1=r.1:=by unfold se;split<;>rfl
theorem GN {n:ao}{bad:Bool}{r:ao×Int}(g:iv n r)(hp:∃T,r.1.af=n.af++T):IS (se bad r).1/\VS (se bad r).1 (se bad r).2/\IK (n,bad) (se bad r).1:=by
 obtain⟨h1,h2,h3⟩:=qE (bad:=bad) g
 exact⟨h1,h2,h3,by rw[VW];exact hp⟩
theorem aX:Mm a6 IS VS IK where
 refl s:=⟨cG.refl s,[],by simp⟩
 trans h k:=⟨cG.trans h.1 k.1,by
  obtain⟨T,h1⟩:=h.2
  obtain⟨T2,h2⟩:=k.2
  exact⟨T++T2,by rw[h2,h1,List.append_assoc]⟩⟩
 mono h v:=cG.mono h.1 v
 zero s h:=cG.zero s h
 one s h:=cG.one s h
 and h a b:=GN (dw h a b) (oG _ _ _)
 or h a b:=GN (tK h a b) (GM _ _ _)
 xor h a b:=GN (tL h a b) (Dx _ _ _ _ _)
 jk h c a b:=GN (tM h c a b) (Dx _ _ _ _ _)
 not h a:=cG.not h a
theorem fg.le {U:List Int}{s s':ao×Bool}(h:fg U s.1)(hl:IK s s'):fg U s'.1:=by
 have e:=hl.1.1.2
 exact⟨by rw[h.len];unfold bE;rw[e];rfl,h.My,h.zero⟩
theorem IK.v {U:List Int}{s s':ao×Bool}(hl:IK s s')(hI:IS s)(hU:fg U s.1){z:Int}(hz:VS s z):vB U s'.1 z=vB U s.1 z:=by
 obtain⟨T,h⟩:=hl.2
 exact BL hI hU h hz
theorem IK.jf {s s':ao×Bool}(hl:IK s s')(h:s'.2=false):s.2=false:=by
 cases hs:s.2 with
 |false=>rfl
 |true=>rw[hl.1.2 hs] at h;exact h
theorem GO {bad:Bool}{r:ao×Int}(h:(se bad r).1.2=false):¬r.2<0/\se bad r=((r.1,bad),r.2):=by
 unfold se at h⊢
 split at h
 ·exact Bool.noConfusion h
 ·rename_i hn
  rw[if_neg hn];exact⟨hn,rfl⟩
section
variable {U:List Int} {s:ao×Bool} (hI:IS s) (hU:fg U s.1)
include hI hU
theorem GP {a b:Int}(ha:VS s a)(hb:VS s b)(hn:(a6.and s a b).1.2=false):vB U (a6.and s a b).1.1 (a6.and s a b).2=(vB U s.1 a&&vB U s.1 b):=by
 obtain⟨h1,h2⟩:=GO hn
 show vB U (se s.2 (ay s.1 a b)).1.1 (se s.2 (ay s.1 a b)).2=_
 rw[h2];exact BM hI hU ha hb h1
theorem RL {a b:Int}(ha:VS s a)(hb:VS s b)(hn:(a6.or s a b).1.2=false):vB U (a6.or s a b).1.1 (a6.or s a b).2=(vB U s.1 a||vB U s.1 b):=by
 obtain⟨h1,h2⟩:=GO hn
 show vB U (se s.2 (cF s.1 a b)).1.1 (se s.2 (cF s.1 a b)).2=_
 rw[h2];exact Ow hI hU ha hb h1
theorem yf {a b:Int}(ha:VS s a)(hb:VS s b)(hn:(a6.xor s a b).1.2=false):vB U (a6.xor s a b).1.1 (a6.xor s a b).2=(vB U s.1 a^^vB U s.1 b):=by
 obtain⟨h1,h2⟩:=GO hn
 show vB U (se s.2 (de s.1 a b)).1.1 (se s.2 (de s.1 a b)).2=_
 rw[h2];exact RJ hI hU ha hb h1
theorem Ox {c a b:Int}(hc:VS s c)(ha:VS s a)(hb:VS s b)(hn:(a6.jk s c a b).1.2=false):vB U (a6.jk s c a b).1.1 (a6.jk s c a b).2=if vB U s.1 c then vB U s.1 a else vB U s.1 b:=by
 obtain⟨h1,h2⟩:=GO hn
 show vB U (se s.2 (dy s.1 c a b)).1.1 (se s.2 (dy s.1 c a b)).2=_
 rw[h2];exact RK hI hU hc ha hb h1
end
def iI (U:List Int)(n:ao)(ls:List Int)(p:Nat->Bool):Prop:=∀k,k<ls.length->vB U n (ls.getD k default)=p k
theorem iI.le {U:List Int}{s s':ao×Bool}(hl:IK s s')(hI:IS s)(hU:fg U s.1){ls:List Int}(hv:∀z,z∈ls->VS s z){p:Nat->Bool}(h:iI U s.1 ls p):iI U s'.1 ls p:=fun k hk=>by
 rw[hl.v hI hU (hv _ (aK hk))];exact h k hk
theorem iI.snoc {U:List Int}{n:ao}{ls:List Int}{p:Nat->Bool}{m:Nat}(hm:ls.length=m)(h:iI U n ls p){z:Int}(hz:vB U n z=p m):iI U n (ls++[z]) p:=fun k hk=>by
 subst hm
 by_cases p6:k<ls.length
 ·rw[dd p6];exact h k p6
 ·obtain rfl:k=ls.length:=by simp at hk;omega
  rw[eh];exact hz
section
variable {U:List Int} {s:ao×Bool} (hI:IS s) (hU:fg U s.1) {a b:List Int} {p q:Nat->Bool} (ha:∀z,z∈a->VS s z) (hb:∀z,z∈b->VS s z) (hp:iI U s.1 a p) (hq:iI U s.1 b q)
include hI hU ha hb hp hq
theorem Dz {f:ao×Bool->Int->Int->(ao×Bool)×Int}(g:Bool->Bool->Bool)(hf:∀s' x y,IK s s'->IS s'->VS s' x->VS s' y->IS (f s' x y).1/\VS (f s' x y).1 (f s' x y).2/\IK s' (f s' x y).1)(hv:∀s' x y,IK s s'->IS s'->VS s' x->VS s' y->(f s' x y).1.2=false->vB U (f s' x y).1.1 (f s' x y).2=g (vB U s'.1 x) (vB U s'.1 y)):∀k,k<=a.length->k<=b.length->(bC f s a b k).1.2=false->iI U (bC f s a b k).1.1 (bC f s a b k).2 (fun j=>g (p j) (q j))
 |0,_,_,_=>fun j hj=>absurd hj (Nat.not_lt_zero _)
 |k+1,ka,kb,hn=>by
  have G:=fH aX hf hI ha hb k
  have va:=aX.mono G.dX (cZ aX hI ha k)
  have vb:=aX.mono G.dX (cZ aX hI hb k)
  have h1:=hf _ _ _ G.dX G.i va vb
  have SY:(f (bC f s a b k).1 (a.getD k default) (b.getD k default)).1.2=false:=hn
  have ih:=Dz g hf hv k (by omega) (by omega) (h1.2.2.jf SY)
  have h2:=hv _ _ _ G.dX G.i va vb SY
  rw[G.dX.v hI hU (cZ aX hI ha k),G.dX.v hI hU (cZ aX hI hb k),hp k (by omega),hq k (by omega)] at h2
  exact(ih.le h1.2.2 G.i (hU.le G.dX) G.v).snoc (dH f s a b k) h2
def rU (p q:Nat->Bool)(c:Bool):Nat->Bool
 |0=>c
 |k+1=>(p k&&q k)||((p k^^q k)&&rU p q c k)
omit hI hU ha hb hp hq in
theorem H4 (p q:Nat->Bool)(c:Bool)(k:Nat):rU p q c (k+1)=((p k&&q k)||((p k^^q k)&&rU p q c k)):=rfl
theorem GQ {c:Int}(hc:VS s c)(wh:b.length=a.length):∀k,k<=a.length->(bU a6 s a b c k).1.2=false->iI U (bU a6 s a b c k).1.1 (bU a6 s a b c k).2.1 (fun j=>(p j^^q j)^^rU p q (vB U s.1 c) j)/\(k<a.length->vB U (bU a6 s a b c k).1.1 (bU a6 s a b c k).2.2=rU p q (vB U s.1 c) k)
 |0,_,_=>⟨fun j hj=>absurd hj (Nat.not_lt_zero _),fun _=>rfl⟩
 |k+1,hk,hn=>by
  obtain⟨G,vc⟩:=oz aX hI ha hb hc k
  have hl:=jV a6 s a b c k
  obtain⟨r,hr⟩:∃r,r=bU a6 s a b c k:=⟨_,rfl⟩
  rw[<-hr] at G vc hl
  have va:=aX.mono G.dX (cZ aX hI ha k)
  have vb:=aX.mono G.dX (cZ aX hI hb k)
  have gi:IS r.1:=G.i
  have uR:=hU.le G.dX
  have pa:vB U r.1.1 (a.getD k default)=p k:=by
   rw[G.dX.v hI hU (cZ aX hI ha k)];exact hp k (by omega)
  have pb:vB U r.1.1 (b.getD k default)=q k:=by
   rw[G.dX.v hI hU (cZ aX hI hb k)];exact hq k (by omega)
  have x1:=aX.xor gi va vb
  have y1:=aX.xor x1.1 x1.2.1 (aX.mono x1.2.2 vc)
  have l1:=aX.trans x1.2.2 y1.2.2
  rw[bU] at hn⊢
  rw[<-hr] at hn⊢
  by_cases bD:k+1<a.length
  ·rw[if_pos bD] at hn⊢
   have p1:=aX.and y1.1 (aX.mono l1 va) (aX.mono l1 vb)
   have l2:=aX.trans l1 p1.2.2
   have q1:=aX.and p1.1 (aX.mono (aX.trans y1.2.2 p1.2.2) x1.2.1) (aX.mono l2 vc)
   have c1:=aX.or q1.1 (aX.mono q1.2.2 p1.2.1) q1.2.1
   have hnC:(mN a6 r (a.getD k default) (b.getD k default)).1.2=false:=hn
   have hnQ:(pY a6 r (a.getD k default) (b.getD k default)).1.2=false:=c1.2.2.jf hnC
   have hnP:(pX a6 r (a.getD k default) (b.getD k default)).1.2=false:=q1.2.2.jf hnQ
   have VX:(jh a6 r (a.getD k default) (b.getD k default)).1.2=false:=p1.2.2.jf hnP
   have JO:(qC a6 r (a.getD k default) (b.getD k default)).1.2=false:=y1.2.2.jf VX
   have hnR:r.1.2=false:=x1.2.2.jf JO
   obtain⟨xU,pL⟩:=GQ hc wh k (by omega) (by rw[<-hr];exact hnR)
   rw[<-hr] at xU pL
   have pL:=pL (by omega)
   have uX:=uR.le x1.2.2
   have uY:=uX.le y1.2.2
   have uP:=uY.le p1.2.2
   have uQ:=uP.le q1.2.2
   have eX:vB U (qC a6 r (a.getD k default) (b.getD k default)).1.1 (qC a6 r (a.getD k default) (b.getD k default)).2=(p k^^q k):=(yf gi uR va vb JO).trans (by rw[pa,pb])
   have eY:vB U (jh a6 r (a.getD k default) (b.getD k default)).1.1 (jh a6 r (a.getD k default) (b.getD k default)).2=((p k^^q k)^^rU p q (vB U s.1 c) k):=(yf x1.1 uX x1.2.1 (aX.mono x1.2.2 vc) VX).trans (by rw[x1.2.2.v gi uR vc,pL];exact congrArg (fun t=>t^^rU p q (vB U s.1 c) k) eX)
   have eP:vB U (pX a6 r (a.getD k default) (b.getD k default)).1.1 (pX a6 r (a.getD k default) (b.getD k default)).2=(p k&&q k):=(GP y1.1 uY (aX.mono l1 va) (aX.mono l1 vb) hnP).trans (by rw[l1.v gi uR va,l1.v gi uR vb,pa,pb])
   have eQ:vB U (pY a6 r (a.getD k default) (b.getD k default)).1.1 (pY a6 r (a.getD k default) (b.getD k default)).2=((p k^^q k)&&rU p q (vB U s.1 c) k):=(GP p1.1 uP (aX.mono (aX.trans y1.2.2 p1.2.2) x1.2.1) (aX.mono l2 vc) hnQ).trans (by rw[(aX.trans y1.2.2 p1.2.2).v x1.1 uX x1.2.1,l2.v gi uR vc,pL];exact congrArg (fun t=>t&&rU p q (vB U s.1 c) k) eX)
   have eC:vB U (mN a6 r (a.getD k default) (b.getD k default)).1.1 (mN a6 r (a.getD k default) (b.getD k default)).2=rU p q (vB U s.1 c) (k+1):=(RL q1.1 uQ (aX.mono q1.2.2 p1.2.1) q1.2.1 hnC).trans (by rw[q1.2.2.v p1.1 uP p1.2.1,H4];exact congr (congrArg Bool.or eP) eQ)
   have lYC:=aX.trans p1.2.2 (aX.trans q1.2.2 c1.2.2)
   refine⟨((xU.le (aX.trans l1 lYC) gi uR G.v).snoc hl ?_),fun _=>eC⟩
   exact(lYC.v y1.1 uY y1.2.1).trans eY
  ·rw[if_neg bD] at hn⊢
   have VX:(jh a6 r (a.getD k default) (b.getD k default)).1.2=false:=hn
   have JO:(qC a6 r (a.getD k default) (b.getD k default)).1.2=false:=y1.2.2.jf VX
   have hnR:r.1.2=false:=x1.2.2.jf JO
   obtain⟨xU,pL⟩:=GQ hc wh k (by omega) (by rw[<-hr];exact hnR)
   rw[<-hr] at xU pL
   have pL:=pL (by omega)
   have uX:=uR.le x1.2.2
   have eX:vB U (qC a6 r (a.getD k default) (b.getD k default)).1.1 (qC a6 r (a.getD k default) (b.getD k default)).2=(p k^^q k):=(yf gi uR va vb JO).trans (by rw[pa,pb])
   have eY:vB U (jh a6 r (a.getD k default) (b.getD k default)).1.1 (jh a6 r (a.getD k default) (b.getD k default)).2=((p k^^q k)^^rU p q (vB U s.1 c) k):=(yf x1.1 uX x1.2.1 (aX.mono x1.2.2 vc) VX).trans (by rw[x1.2.2.v gi uR vc,pL];exact congrArg (fun t=>t^^rU p q (vB U s.1 c) k) eX)
   exact⟨(xU.le l1 gi uR G.v).snoc hl eY,fun h=>absurd h bD⟩
def SZ (p q:Nat->Bool):Nat->Bool
 |0=>true
 |k+1=>SZ p q k&& !(p k^^q k)
def VY (p q:Nat->Bool):Nat->Bool
 |0=>false
 |k+1=>if p k^^q k then q k else VY p q k
theorem GR (eq:Bool)(wh:b.length=a.length):∀k,k<=a.length->(bV a6 eq s a b k).1.2=false->vB U (bV a6 eq s a b k).1.1 (bV a6 eq s a b k).2=if eq then SZ p q k else VY p q k
 |0,_,_=>by
  obtain⟨h0,h1⟩:=Dy hI hU
  cases eq
  ·exact h0
  ·exact h1
 |k+1,hk,hn=>by
  obtain⟨gi,gv,gl⟩:=js aX eq hI ha hb k
  have va:=aX.mono gl (cZ aX hI ha k)
  have vb:=aX.mono gl (cZ aX hI hb k)
  obtain⟨r,hr⟩:∃r,r=bV a6 eq s a b k:=⟨_,rfl⟩
  rw[<-hr] at gi gv gl va vb
  have uR:=hU.le gl
  have pa:vB U r.1.1 (a.getD k default)=p k:=by
   rw[gl.v hI hU (cZ aX hI ha k)];exact hp k (by omega)
  have pb:vB U r.1.1 (b.getD k default)=q k:=by
   rw[gl.v hI hU (cZ aX hI hb k)];exact hq k (by omega)
  have x1:=aX.xor gi va vb
  have uX:=uR.le x1.2.2
  rw[bV] at hn⊢
  rw[<-hr] at hn⊢
  cases eq
  ·have m1:=aX.jk x1.1 x1.2.1 (aX.mono x1.2.2 vb) (aX.mono x1.2.2 gv)
   have VZ:(a6.jk (a6.xor r.1 (a.getD k default) (b.getD k default)).1 (a6.xor r.1 (a.getD k default) (b.getD k default)).2 (b.getD k default) r.2).1.2=false:=hn
   have JO:=m1.2.2.jf VZ
   have ih:=GR false wh k (by omega) (by rw[<-hr];exact x1.2.2.jf JO)
   rw[<-hr] at ih
   show vB U (a6.jk (a6.xor r.1 (a.getD k default) (b.getD k default)).1 (a6.xor r.1 (a.getD k default) (b.getD k default)).2 (b.getD k default) r.2).1.1 (a6.jk (a6.xor r.1 (a.getD k default) (b.getD k default)).1 (a6.xor r.1 (a.getD k default) (b.getD k default)).2 (b.getD k default) r.2).2=if p k^^q k then q k else VY p q k
   rw[Ox x1.1 uX x1.2.1 (aX.mono x1.2.2 vb) (aX.mono x1.2.2 gv) VZ,yf gi uR va vb JO,x1.2.2.v gi uR vb,x1.2.2.v gi uR gv,pa,pb,ih]
   rfl
  ·have m1:=aX.and x1.1 (aX.mono x1.2.2 gv) (aX.not x1.1 x1.2.1)
   have VZ:(a6.and (a6.xor r.1 (a.getD k default) (b.getD k default)).1 r.2 (a6.not (a6.xor r.1 (a.getD k default) (b.getD k default)).2)).1.2=false:=hn
   have JO:=m1.2.2.jf VZ
   have ih:=GR true wh k (by omega) (by rw[<-hr];exact x1.2.2.jf JO)
   rw[<-hr] at ih
   show vB U (a6.and (a6.xor r.1 (a.getD k default) (b.getD k default)).1 r.2 (a6.not (a6.xor r.1 (a.getD k default) (b.getD k default)).2)).1.1 (a6.and (a6.xor r.1 (a.getD k default) (b.getD k default)).1 r.2 (a6.not (a6.xor r.1 (a.getD k default) (b.getD k default)).2)).2=(SZ p q k&& !(p k^^q k))
   rw[GP x1.1 uX (aX.mono x1.2.2 gv) (aX.not x1.1 x1.2.1) VZ,x1.2.2.v gi uR gv,ih]
   show(SZ p q k&&vB U (a6.xor r.1 (a.getD k default) (b.getD k default)).1.1 (cS (a6.xor r.1 (a.getD k default) (b.getD k default)).2))=_
   rw[qI x1.1 uX x1.2.1,yf gi uR va vb JO,pa,pb]
end
def JP (p:Nat->Bool):Nat->Bool
 |0=>false
 |k+1=>JP p k||p k
theorem Oy {U:List Int}{s:ao×Bool}(hI:IS s)(hU:fg U s.1){a:List Int}{p:Nat->Bool}(ha:∀z,z∈a->VS s z)(hp:iI U s.1 a p):∀k,k<=a.length->(di a6 s a k).1.2=false->vB U (di a6 s a k).1.1 (di a6 s a k).2=JP p k
 |0,_,_=>(Dy hI hU).1
 |k+1,hk,hn=>by
  obtain⟨gi,gv,gl⟩:=oA aX hI ha k
  have va:=aX.mono gl (cZ aX hI ha k)
  have h1:=aX.or gi gv va
  have SY:(a6.or (di a6 s a k).1 (di a6 s a k).2 (a.getD k default)).1.2=false:=hn
  have ih:=Oy hI hU ha hp k (by omega) (h1.2.2.jf SY)
  show vB U (a6.or (di a6 s a k).1 (di a6 s a k).2 (a.getD k default)).1.1 (a6.or (di a6 s a k).1 (di a6 s a k).2 (a.getD k default)).2=(JP p k||p k)
  rw[RL gi (hU.le gl) gv va SY,ih,gl.v hI hU (cZ aX hI ha k),hp k (by omega)]
end Go.Xw
