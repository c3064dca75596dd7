/- The net of a flat module, as plain data: registers, memories, outputs; no condition but the stated ones. -/
import Derived.Test.YtiepmliokblkjaaGreatElabLaw
set_option linter.all false
namespace Go.Xw
open Go.Proofs
set_option maxHeartbeats 1000000
theorem wP {α:Type}[Inhabited α]{X:List α}{i j:Nat}{y:α}(hi:i<X.length):(X.set i y).getD j default=if j=i then y else X.getD j default:=cH hi
def lD (N:ao)(q:Nat)(l:List Int):ao:={N with au:=N.au.set q ⟨(N.au.getD q default).kind,(N.au.getD q default).init,l⟩}
theorem mW (N:ao)(q:Nat)(l:List Int):ag (lD N q l)=ag N/\aB (lD N q l)=aB N:=by
 unfold ag aB lD
 simp
theorem MK {N:ao}(h:aj N){q:Nat}(hq:q<N.au.length){l:List Int}(hl:(N.au.getD q default).kind=0/\l.length=1\/(N.au.getD q default).kind=1/\l.length=4)(hv:∀z,z∈l->aD z (ag N)):aj (lD N q l):=by
 obtain⟨e1,e2⟩:=mW N q l
 have hs:=h.sq _ (aK hq)
 refine .mk' ⟨h.size.1,by unfold lD;rw[List.length_set];exact h.size.2.1,h.size.2.2.1,h.size.2.2.2⟩ (fun s u5=> ?_) (fun o ho=>by rw[e1];exact h.out o ho) (fun s u5 z hz=> ?_) (fun i hi=>by rw[e2];exact h.af i hi)
 ·rcases List.mem_or_eq_of_mem_set u5 with u5|rfl
  ·exact h.sq s u5
  ·unfold iF at hs⊢
   rcases hl with⟨h1,h2⟩|⟨h1,h2⟩
   ·rw[h1] at hs⊢
    have u5:0<=(N.au.getD q default).init/\(N.au.getD q default).init<=1:=by omega
    exact .inl ⟨rfl,u5,h2⟩
   ·rw[h1] at hs⊢
    have u5:0<=(N.au.getD q default).init/\(N.au.getD q default).init<=31:=by omega
    exact .inr ⟨rfl,u5,h2⟩
 ·rw[e1]
  rcases List.mem_or_eq_of_mem_set u5 with u5|rfl
  ·exact h.ck u5 z hz
  ·exact hv z hz
theorem jX (N:ao)(q:Nat)(l:List Int):(lD N q l).au.length=N.au.length/\∀p,((lD N q l).au.getD p default).kind=(N.au.getD p default).kind/\((lD N q l).au.getD p default).init=(N.au.getD p default).init:=by
 refine⟨by unfold lD;simp,fun p=> ?_⟩
 by_cases hq:q<N.au.length
 ·have:(lD N q l).au.getD p default=if p=q then⟨(N.au.getD q default).kind,(N.au.getD q default).init,l⟩ else N.au.getD p default:=wP hq
  rw[this]
  split
  ·rename_i h;rw[h];exact⟨rfl,rfl⟩
  ·exact⟨rfl,rfl⟩
 ·have:(lD N q l).au=N.au:=by unfold lD;exact List.set_eq_of_length_le (by omega)
  rw[this];exact⟨rfl,rfl⟩
def zw (Q:List fS)(q:Nat):List fS:=Q.take q++(Q.drop q).map nG
theorem ML (Q:List fS):zw Q Q.length=Q:=by simp[zw]
theorem J8 (Q:List fS):zw Q 0=Q.map nG:=by simp[zw]
theorem wQ (Q:List fS)(q:Nat):(zw Q q).length=Q.length:=by simp[zw];omega
theorem BW {Q:List fS}{q p:Nat}(hp:p<Q.length):(zw Q q).getD p default=if p<q then Q.getD p default else nG (Q.getD p default):=by
 unfold zw
 by_cases h:p<q
 ·rw[if_pos h,List.getD_eq_getElem?_getD,List.getElem?_append_left (by rw[List.length_take];omega),List.getElem?_take_of_lt h,<-List.getD_eq_getElem?_getD]
 ·rw[if_neg h,List.getD_eq_getElem?_getD,List.getElem?_append_right (by rw[List.length_take];omega),List.length_take,List.getElem?_map,List.getElem?_drop,show q+(p-min q Q.length)=p by omega,List.getD_eq_getElem?_getD,List.getElem?_eq_getElem hp]
  rfl
theorem MM {N:ao}{q:Nat}(hq:q<N.au.length)(l:List Int):zw (lD N q l).au (q+1)=(zw N.au q).set q ⟨((zw N.au q).getD q default).kind,((zw N.au q).getD q default).init,l⟩:=by
 obtain⟨e1,e2⟩:=jX N q l
 refine lZ (by rw[List.length_set,wQ,wQ,e1]) fun p hp=> ?_
 rw[wQ,e1] at hp
 rw[BW (by rw[e1];exact hp),wP (by rw[wQ];exact hq),BW hq,if_neg (Nat.lt_irrefl q)]
 have e3:(lD N q l).au.getD p default=if p=q then⟨(N.au.getD q default).kind,(N.au.getD q default).init,l⟩ else N.au.getD p default:=wP hq
 rw[e3]
 by_cases S1:p=q
 ·subst S1
  rw[if_pos (by omega),if_pos rfl,if_pos rfl];rfl
 ·rw[if_neg S1,if_neg S1,BW hp]
  by_cases h:p<q
  ·rw[if_pos h,if_pos (by omega)]
  ·rw[if_neg h,if_neg (by omega)]
def ji (N:ao)(q:Nat)(bits:List Int):Nat->ao
 |0=>N
 |k+1=>lD (ji N q bits k) (q+k) [bits.getD k default]
noncomputable def zJ (n:aQ)(sig:List (List Int))(s:Int)(st:(ao×Bool)×Nat)(i:Nat):(ao×Bool)×Nat:=
 if dT n i=s then((ji (dD a6 sig (wN n s) (cU n i) st.1).1.1 st.2 (dD a6 sig (wN n s) (cU n i) st.1).2 (wN n s),(dD a6 sig (wN n s) (cU n i) st.1).1.2),st.2+wN n s) else st
noncomputable def jm (n:aQ)(sig:List (List Int))(s:Int)(st:(ao×Bool)×Nat):Nat->(ao×Bool)×Nat
 |0=>st
 |i+1=>zJ n sig s (jm n sig s st i) i
noncomputable def fX (n:aQ)(sig:List (List Int))(st:ao×Bool):Nat->(ao×Bool)×Nat
 |0=>(st,0)
 |s+1=>if aY n (s:Nat)=3 then jm n sig (s:Nat) (fX n sig st s) n.aP.length else fX n sig st s
structure oM (n:aQ)(sig:List (List Int))(N:ao)(q:Nat):Prop where
 dR:aj N
 ck:N.aT=cT (ee n 0)
 len:N.au.length=dU n 3 n.sg.length+jc n n.ms.length
 kind:∀p,p<N.au.length->(N.au.getD p default).kind=if p<dU n 3 n.sg.length then 0 else 1
 outs:N.outs=[]
 sig:BU n N sig
 qle:q<=N.au.length
theorem oM.start {n:aQ}{st:(ao×Bool)×List (List Int)}(h:Lh n st):oM n st.2 st.1.1 0:=by
 have e:=h.eq
 refine⟨h.dR,by rw[e];rfl,by rw[e];exact jA _ _ _ _,fun p hp=> ?_,by rw[e];rfl,h.sig,Nat.zero_le _⟩
 rw[e] at hp⊢
 exact yq _ _ n n.ms.length p hp
theorem oM.set {n:aQ}{sig:List (List Int)}{N:ao}{q:Nat}(h:oM n sig N q)(hq:q<N.au.length){l:List Int}(hl:l.length=if q<dU n 3 n.sg.length then 1 else 4)(hv:∀z,z∈l->aD z (ag N)):oM n sig (lD N q l) (q+1):=by
 obtain⟨e1,e2⟩:=jX N q l
 have hk:=h.kind q hq
 refine⟨MK h.dR hq ?_ hv,h.ck,by rw[e1];exact h.len,fun p hp=>by rw[(e2 p).1];exact h.kind p (by rw[e1] at hp;exact hp),h.outs,h.sig.mono (by rw[(mW N q l).1];exact Int.le_refl _),by rw[e1];omega⟩
 split at hk
 ·rename_i h1;rw[if_pos h1] at hl;exact .inl ⟨hk,hl⟩
 ·rename_i h1;rw[if_neg h1] at hl;exact .inr ⟨hk,hl⟩
theorem oM.bits {n:aQ}{sig:List (List Int)}{N:ao}{q:Nat}(h:oM n sig N q){bits:List Int}{w:Nat}(hq:q+w<=dU n 3 n.sg.length)(hb:bits.length=w)(hv:∀z,z∈bits->aD z (ag N)):∀k,k<=w->oM n sig (ji N q bits k) (q+k)/\ag (ji N q bits k)=ag N
 |0,_=>⟨h,rfl⟩
 |k+1,hk=>by
  obtain⟨ih,pL⟩:=oM.bits h hq hb hv k (by omega)
  refine⟨ih.set (by rw[ih.len];omega) (by rw[if_pos (by omega)];rfl) (fun z hz=> ?_),by rw[ji,(mW _ _ _).1,pL]⟩
  simp only[List.mem_singleton] at hz
  rw[hz,pL]
  exact hv _ (aK (by omega))
theorem oM.ev {n:aQ}{sig:List (List Int)}{st:ao×Bool}{q:Nat}(h:oM n sig st.1 q)(w:Nat)(t:cI):oM n sig (dD a6 sig w t st).1.1 q/\(∀z,z∈(dD a6 sig w t st).2->aD z (ag (dD a6 sig w t st).1.1))/\(dD a6 sig w t st).1.1.au=st.1.au/\(st.2=true->(dD a6 sig w t st).1.2=true):=by
 have g:=Fp h.dR h.sig w t
 have e:=g.dX.1.2
 have es:(dD a6 sig w t st).1.1.au=st.1.au:=by rw[e]
 refine⟨⟨g.i,by rw[e];exact h.ck,by rw[es];exact h.len,fun p hp=>by rw[es] at hp⊢;exact h.kind p hp,by rw[e];exact h.outs,h.sig.mono g.dX.1.1,by rw[es];exact h.qle⟩,g.v,es,g.dX.2⟩
theorem oM.zJ {n:aQ}{sig:List (List Int)}{st:(ao×Bool)×Nat}(h:oM n sig st.1.1 st.2){s:Int}{i:Nat}(ht:dT n i=s)(hq:st.2+wN n s<=dU n 3 n.sg.length):oM n sig (zJ n sig s st i).1.1 (zJ n sig s st i).2/\(zJ n sig s st i).2=st.2+wN n s/\(st.1.2=true->(zJ n sig s st i).1.2=true):=by
 obtain⟨h1,h2,h3,h4⟩:=h.ev (wN n s) (cU n i)
 unfold Go.Xw.zJ
 rw[if_pos ht]
 exact⟨(h1.bits hq (cv a6 sig _ _ _) h2 _ (Nat.le_refl _)).1,rfl,h4⟩
theorem DJ {n:aQ}(hm:aV n){s:Nat}(hk:aY n (s:Nat)=3):∀j,j<=n.ms.length->hJ n.ms (s:Nat) j=0
 |0,_=>rfl
 |j+1,hj=>by
  rw[hJ,DJ hm hk j (by omega),if_neg]
  intro he
  have:=(hm.ms j (by omega)).2.2.2.2
  rw[he,hk] at this
  omega
theorem oN {n:aQ}(hm:aV n){s:Nat}(hs:s<n.sg.length)(hk:aY n (s:Nat)=3):gH n.aP (s:Nat) n.aP.length=1:=by
 have h1:=hm.R4 s hs (by rw[bG] at hk;omega)
 have h2:=DJ hm hk n.ms.length (Nat.le_refl _)
 unfold wz at h1
 omega
theorem nZ {n:aQ}(hm:aV n){sig:List (List Int)}{st:(ao×Bool)×Nat}{s:Nat}(hs:s<n.sg.length)(hk:aY n (s:Nat)=3)(h:oM n sig st.1.1 st.2)(hq:st.2=dU n 3 s):∀i,i<=n.aP.length->oM n sig (jm n sig (s:Nat) st i).1.1 (jm n sig (s:Nat) st i).2/\(((jm n sig (s:Nat) st i).2:Nat):Int)=(dU n 3 s:Nat)+gH n.aP (s:Nat) i*(wN n (s:Nat):Nat)/\(st.1.2=true->(jm n sig (s:Nat) st i).1.2=true)
 |0,_=>⟨h,by simp[jm,gH,hq],fun h=>h⟩
 |i+1,hi=>by
  obtain⟨h1,h2,h3⟩:=nZ hm hs hk h hq i (by omega)
  rw[jm,gH]
  by_cases he:dT n i=(s:Nat)
  ·have hc:=oN hm hs hk
   have OF:=mr n.aP (s:Nat) (i:=i+1) n.aP.length hi
   have S2:(n.aP.getD i default).tg=(s:Nat):=he
   rw[gH,if_pos S2] at OF
   have h0:=(mT n.aP (s:Nat) i).1
   have h4:gH n.aP (s:Nat) i=0:=by omega
   rw[h4] at h2⊢
   have h5:dU n 3 (s+1)=dU n 3 s+wN n (s:Nat):=by rw[dU,if_pos hk]
   have h6:=lB n 3 (i:=s+1) (j:=n.sg.length) (by omega)
   obtain⟨g1,g2,g3⟩:=h1.zJ he (by omega)
   rw[if_pos S2]
   exact⟨g1,by rw[g2];omega,fun hb=>g3 (h3 hb)⟩
  ·rw[if_neg (show¬(n.aP.getD i default).tg=(s:Nat) from he)]
   have e:zJ n sig (s:Nat) (jm n sig (s:Nat) st i) i=jm n sig (s:Nat) st i:=by unfold Go.Xw.zJ;rw[if_neg he]
   rw[e]
   exact⟨h1,h2,h3⟩
theorem BX {n:aQ}(hm:aV n){sig:List (List Int)}{st:(ao×Bool)×Nat}{s:Nat}(hs:s<n.sg.length)(hk:aY n (s:Nat)=3)(h:oM n sig st.1.1 st.2)(hq:st.2=dU n 3 s){i:Nat}(hi:i<n.aP.length)(he:dT n i=(s:Nat)):(jm n sig (s:Nat) st i).2+wN n (s:Nat)<=dU n 3 n.sg.length:=by
 have h2:=(nZ hm hs hk h hq i (by omega)).2.1
 have hc:=oN hm hs hk
 have OF:=mr n.aP (s:Nat) (i:=i+1) n.aP.length hi
 have S2:(n.aP.getD i default).tg=(s:Nat):=he
 rw[gH,if_pos S2] at OF
 have h0:=(mT n.aP (s:Nat) i).1
 have h4:gH n.aP (s:Nat) i=0:=by omega
 rw[h4] at h2
 have h5:dU n 3 (s+1)=dU n 3 s+wN n (s:Nat):=by rw[dU,if_pos hk]
 have h6:=lB n 3 (i:=s+1) (j:=n.sg.length) (by omega)
 omega
theorem qO {n:aQ}(hm:aV n){sig:List (List Int)}{st:ao×Bool}(h:oM n sig st.1 0):∀s,s<=n.sg.length->oM n sig (fX n sig st s).1.1 (fX n sig st s).2/\(fX n sig st s).2=dU n 3 s/\(st.2=true->(fX n sig st s).1.2=true)
 |0,_=>⟨h,rfl,fun h=>h⟩
 |s+1,hs=>by
  obtain⟨h1,h2,h3⟩:=qO hm h s (by omega)
  rw[fX,dU]
  by_cases hk:aY n (s:Nat)=3
  ·rw[if_pos hk,if_pos hk]
   obtain⟨g1,g2,g3⟩:=nZ hm (by omega) hk h1 h2 n.aP.length (Nat.le_refl _)
   rw[oN hm (by omega) hk] at g2
   exact⟨g1,by omega,fun hb=>g3 (h3 hb)⟩
  ·rw[if_neg hk,if_neg hk]
   exact⟨h1,h2,h3⟩
def p7 (sig:List (List Int))(x:yh)(k:Nat):List Int:=[(sig.getD x.addr.toNat default).getD 0 default,(sig.getD x.addr.toNat default).getD 1 default,(sig.getD x.data.toNat default).getD k default,(sig.getD x.write.toNat default).getD 0 default]
def l8 (sig:List (List Int))(x:yh)(N:ao)(q:Nat):Nat->ao
 |0=>N
 |k+1=>lD (l8 sig x N q k) (q+k) (p7 sig x k)
def dj (n:aQ)(sig:List (List Int))(N:ao)(q:Nat):Nat->ao×Nat
 |0=>(N,q)
 |j+1=>(l8 sig (n.ms.getD j default) (dj n sig N q j).1 (dj n sig N q j).2 (wN n (n.ms.getD j default).out),(dj n sig N q j).2+wN n (n.ms.getD j default).out)
def yu (n:aQ)(sig:List (List Int)):Prop:=∀s:Nat,s<n.sg.length->(sig.getD s default).length=wN n (s:Nat)
theorem l9 {n:aQ}{sig:List (List Int)}(h:yu n sig){s:Int}(hs:dr n s):(sig.getD s.toNat default).length=wN n s:=by
 unfold dr at hs
 have:=h s.toNat (by omega)
 rw[this,show((s.toNat:Nat):Int)=s by omega]
theorem BY {n:aQ}{N:ao}{sig:List (List Int)}(h:BU n N sig){s:Int}(hs:dr n s):∀z,z∈sig.getD s.toNat default->aD z (ag N):=by
 unfold dr at hs
 exact(h.row _ (aK (by rw[h.len];omega))).2
theorem G0 {n:aQ}(hm:aV n)(hf:ch n){j:Nat}(hj:j<n.ms.length):wN n (n.ms.getD j default).addr=2/\wN n (n.ms.getD j default).write=1/\wN n (n.ms.getD j default).data=wN n (n.ms.getD j default).out/\1<=wN n (n.ms.getD j default).out/\wN n (n.ms.getD j default).out<=4:=by
 obtain⟨h1,h2,h3⟩:=hf.ms j hj
 have h4:=nY hm hf (hm.ms j hj).2.2.2.1
 refine⟨?_,?_,?_,h4⟩
 ·unfold wN;rw[h1];rfl
 ·unfold wN;rw[h2];rfl
 ·unfold wN;rw[h3]
theorem BZ {n:aQ}(hm:aV n)(hf:ch n){sig:List (List Int)}(hF:yu n sig){N:ao}{q j:Nat}(h:oM n sig N q)(hj:j<n.ms.length)(hq:q=dU n 3 n.sg.length+jc n j):∀k,k<=wN n (n.ms.getD j default).out->oM n sig (l8 sig (n.ms.getD j default) N q k) (q+k)
 |0,_=>h
 |k+1,hk=>by
  have ih:=BZ hm hf hF h hj hq k (by omega)
  obtain⟨i1,i2,i3,i4⟩:=hm.ms j hj
  obtain⟨w1,w2,w3,w4,w5⟩:=G0 hm hf hj
  have h6:=lC n (i:=j+1) (j:=n.ms.length) (by omega)
  rw[jc] at h6
  refine ih.set (by rw[ih.len];omega) (by rw[if_neg (by omega)];rfl) (fun z hz=> ?_)
  simp only[p7,List.mem_cons,List.not_mem_nil,or_false] at hz
  have f1:=l9 hF i1
  have f2:=l9 hF i2
  have f3:=l9 hF i3
  rcases hz with rfl|rfl|rfl|rfl
  ·exact BY ih.sig i1 _ (aK (by omega))
  ·exact BY ih.sig i1 _ (aK (by omega))
  ·exact BY ih.sig i2 _ (aK (by omega))
  ·exact BY ih.sig i3 _ (aK (by omega))
theorem wR {n:aQ}(hm:aV n)(hf:ch n){sig:List (List Int)}(hF:yu n sig){N:ao}(h:oM n sig N (dU n 3 n.sg.length)):∀j,j<=n.ms.length->oM n sig (dj n sig N (dU n 3 n.sg.length) j).1 (dj n sig N (dU n 3 n.sg.length) j).2/\(dj n sig N (dU n 3 n.sg.length) j).2=dU n 3 n.sg.length+jc n j
 |0,_=>⟨h,rfl⟩
 |j+1,hj=>by
  obtain⟨h1,h2⟩:=wR hm hf hF h j (by omega)
  exact⟨BZ hm hf hF h1 (by omega) h2 _ (Nat.le_refl _),by rw[dj,jc,h2,Nat.add_assoc]⟩
def iY (n:aQ)(sig:List (List Int)):Nat->List Int
 |0=>[]
 |i+1=>if aY n (i:Nat)=1 then iY n sig i++sig.getD i default else iY n sig i
theorem oO {n:aQ}{sig:List (List Int)}(hF:yu n sig):∀i,i<=n.sg.length->(iY n sig i).length=dU n 1 i
 |0,_=>rfl
 |i+1,hi=>by
  rw[iY,dU]
  split
  ·rw[List.length_append,oO hF i (by omega),hF i (by omega)]
  ·exact oO hF i (by omega)
theorem yv {n:aQ}{N:ao}{sig:List (List Int)}(h:BU n N sig):∀i,i<=n.sg.length->∀z,z∈iY n sig i->aD z (ag N)
 |0,_,z,hz=>by cases hz
 |i+1,hi,z,hz=>by
  rw[iY] at hz
  split at hz
  ·rcases List.mem_append.1 hz with hz|hz
   ·exact yv h i (by omega) z hz
   ·exact(h.row _ (aK (by rw[h.len];omega))).2 z hz
  ·exact yv h i (by omega) z hz
theorem MN {n:aQ}(hm:aV n)(hf:ch n){sig:List (List Int)}(hF:yu n sig){N:ao}{q:Nat}(h:oM n sig N q):aj {N with outs:=iY n sig n.sg.length}:=by
 refine .mk' ⟨h.dR.size.1,h.dR.size.2.1,h.dR.size.2.2.1,?_⟩ h.dR.sq (fun o ho=>yv h.sig _ (Nat.le_refl _) o ho) (fun s hs=>h.dR.ck hs) h.dR.af
 show(iY n sig n.sg.length).length<=16
 rw[oO hF _ (Nat.le_refl _)]
 have h1:=rG hm 1
 have h2:=hf.s1
 omega
noncomputable def bO (n:aQ)(l:List Nat):(ao×Bool)×List (List Int):=fu n l l.length
noncomputable def dP (n:aQ)(l:List Nat):(ao×Bool)×Nat:=fX n (bO n l).2 (bO n l).1 n.sg.length
noncomputable def G1 (n:aQ)(l:List Nat):ao×Nat:=dj n (bO n l).2 (dP n l).1.1 (dP n l).2 n.ms.length
noncomputable def zx (n:aQ)(l:List Nat):ao:={(G1 n l).1 with outs:=iY n (bO n l).2 n.sg.length}
open Classical in
noncomputable def B0 (n:aQ):ao×Bool:=match gQ n with
 |some l=>if ch n/\(dP n l).1.2=false then(tU (zx n l),true) else(default,false)
 |none=>(default,false)
theorem yw {n:aQ}(h:¬ch n):B0 n=(default,false):=by
 unfold B0
 cases gQ n with
 |none=>rfl
 |some l=>exact if_neg (fun hh=>h hh.1)
theorem wS {n:aQ}{l:List Nat}(h:gQ n=some l)(hb:(dP n l).1.2=true):B0 n=(default,false):=by
 unfold B0
 rw[h]
 exact if_neg (fun hh=>by rw[hb] at hh;exact Bool.noConfusion hh.2)
theorem rH {n:aQ}{l:List Nat}(h:gQ n=some l)(hf:ch n)(hb:(dP n l).1.2=false):B0 n=(tU (zx n l),true):=by
 unfold B0
 rw[h]
 exact if_pos ⟨hf,hb⟩
theorem dI {n:aQ}(hf:ch n):n.ins=[]/\aV n:=by
 have h:=hf.ev
 cases he:gQ n with
 |none=>rw[he] at h;exact Bool.noConfusion h
 |some l=>exact(iW he).1
section
variable {n:aQ} {l:List Nat} (hf:ch n) (he:gQ n=some l)
include hf he
theorem py:Lh n (bO n l)/\yu n (bO n l).2:=by
 have hm:=(dI hf).2
 obtain⟨_,jg,_⟩:=iW he
 exact⟨px hm hf (fun i hi=>(jg i hi).1) _ (Nat.le_refl _),J7 hm hf he⟩
theorem Fq:oM n (bO n l).2 (dP n l).1.1 (dP n l).2/\(dP n l).2=dU n 3 n.sg.length/\((bO n l).1.2=true->(dP n l).1.2=true):=
 qO (dI hf).2 (oM.start (py hf he).1) n.sg.length (Nat.le_refl _)
theorem Fs:oM n (bO n l).2 (G1 n l).1 (G1 n l).2/\(G1 n l).2=(G1 n l).1.au.length:=by
 obtain⟨h1,h2,_⟩:=Fq hf he
 have hm:=(dI hf).2
 have h3:=wR hm hf (py hf he).2 (N:=(dP n l).1.1) (by rw[<-h2];exact h1) n.ms.length (Nat.le_refl _)
 rw[<-h2] at h3
 have h4:=h3.1.len
 refine⟨h3.1,?_⟩
 show(dj n (bO n l).2 (dP n l).1.1 (dP n l).2 n.ms.length).2=(dj n (bO n l).2 (dP n l).1.1 (dP n l).2 n.ms.length).1.au.length
 rw[h4,h3.2,h2]
theorem vf:aj (zx n l):=MN (dI hf).2 hf (py hf he).2 (Fs hf he).1
end
end Go.Xw
