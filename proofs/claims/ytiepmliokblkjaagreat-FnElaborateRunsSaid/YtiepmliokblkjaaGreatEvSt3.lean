/- Texts that belong together; each under its stated conditions. -/
import Derived.Test.YtiepmliokblkjaaGreatEvSt
import Derived.Test.YtiepmliokblkjaaGreatSimLaw
set_option linter.all false
section
namespace Go.Xw
open Go.Proofs
set_option maxHeartbeats 1000000
theorem V6 (b:Bool):decide (bits .and .i64 (if b=true then(1:Int) else 0) 1=1)=b:=by
 cases b<;>decide
theorem ud (k:Nat):tb 0 k=false:=by unfold tb;rw[Int.zero_ediv];rfl
theorem Kh (k:Nat):g7 [] k=0:=rfl
theorem DP {l:List Int}{k:Nat}(h:l.length<=k):g7 l k=0:=by
 unfold g7
 rw[List.getD_eq_getElem?_getD,List.getElem?_eq_none h];rfl
theorem yy {p w k:Nat}(h:k<w):g7 (jt p w) k=2*((p+k:Nat):Int):=Kg h
theorem H' {n:aQ}(hm:aV n)(hf:ch n){N:ao}(hN:aj N)(hi:N.aT=cT (ee n 0))(hq:N.au.length=dU n 3 n.sg.length+jc n n.ms.length){v w st:List Int}(h:V4 n v w st){ins:List Int}{ck:Int}
  (R7:∀s:Nat,s<n.sg.length->aY n (s:Nat)=0->∀k,k<wN n (s:Nat)->tb ck (dU n 0 s+k)=tb (ins.getD (nK n 0 s) default%2^wN n (s:Nat)) k):
  fg (ko N st ck) (kq n)/\rV (ko N st ck) (kq n) (pS n n.ms.length).1 (AG n v ins n.sg.length).1:=by
 have hn0:=GZ hm hf
 have hlen:(ko N st ck).length=bE N:=rv hN (by rw[h.fE,hq]) ck
 obtain⟨f1,f2,f3⟩:=hN.oE
 have sj:(kq n).au.length=dU n 3 n.sg.length+jc n n.ms.length:=jA _ _ _ _
 have hU:fg (ko N st ck) (kq n):=by
  refine⟨?_,ye N st ck,GI N st ck⟩
  rw[hlen]
  unfold bE aB
  rw[hi,hq,sj];rfl
 have wL:=(Dy hn0 hU).1
 have hand:(kq n).af=[]:=rfl
 have Ld:=hU.My
 have ws0:=rG hm 0
 obtain⟨_,_,hW⟩:=B4 (ins:=ins) h.val.len n.sg.length (Nat.le_refl _)
 have Ki:=wU h.val ins
 have hmL:=(pv hm n.ms.length (Nat.le_refl _)).1.len
 refine⟨hU,fun s hs=> ?_,fun s hs k hk=> ?_⟩
 ·rw[hmL] at hs
  have h1:=Ki.Az s hs
  have h2:=(nY hm hf (s:=(s:Nat)) (by unfold dr;omega)).2
  have h3:=wq h2
  have:=h1.2
  exact⟨h1.1,by omega⟩
 ·rw[hmL] at hs
  obtain⟨r0,r3,rr⟩:=G6 hm n.ms.length (Nat.le_refl _) s hs
  by_cases CF:wN n (s:Nat)<=k
  ·rw[G8 (Ki.Az s hs) CF,DP (by
    rw[((pv hm n.ms.length (Nat.le_refl _)).1.row s hs).1]
    unfold wB
    split
    ·exact CF
    ·have h5:=nX n.ms (s:Nat) n.ms.length
     have h6:(hJ n.ms (s:Nat) n.ms.length).toNat<=1:=by
      rename_i II
      have h7:=yt hm hs II
      have h8:=(mT n.aP (s:Nat) n.aP.length).1
      omega
     have h9:=Nat.mul_le_mul_right (wN n (s:Nat)) h6
     omega)]
   exact wL
  ·have Ia:k<wN n (s:Nat):=by omega
   rw[hW s]
   by_cases k0:aY n (s:Nat)=0
   ·rw[if_pos ⟨hs,k0⟩,r0 k0,yy Ia,B8 hand Ld]
    have h5:=oP n 0 k0
    have h6:=lB n 0 (i:=s+1) (j:=n.sg.length) (by omega)
    rw[show 1+dU n 0 s+k=1+(dU n 0 s+k) by omega,JJ (by rw[hi];omega),<-R7 s hs k0 k Ia]
    unfold tb BE
    exact Kf _
   ·rw[if_neg (fun hh=>k0 hh.2)]
    by_cases k3:aY n (s:Nat)=3
    ·rw[r3 k3,yy Ia,B8 hand Ld]
     have h5:=oP n 3 k3
     have h6:=lB n 3 (i:=s+1) (j:=n.sg.length) (by omega)
     rw[show 1+dU n 0 n.sg.length+dU n 3 s+k=oE N+(dU n 3 s+k) by omega,Ax hN (by rw[h.fE];omega),h.V5 s hs k3 k Ia]
     exact V6 _
    ·obtain⟨q1,q2⟩:=rr k0 k3
     by_cases vj:∃j,j<n.ms.length/\fa n j=s
     ·obtain⟨j,hj,rfl⟩:=vj
      rw[q1 j hj rfl,yy Ia,B8 hand Ld]
      obtain⟨g1,g2,g3⟩:=h.ram j hj k Ia
      have h6:=lC n (i:=j+1) (j:=n.ms.length) (by omega)
      have h7:jc n (j+1)=jc n j+wN n (fa n j:Nat):=by rw[jc,(jB hm hj).2.1]
      rw[show 1+dU n 0 n.sg.length+dU n 3 n.sg.length+jc n j+k=oE N+(dU n 3 n.sg.length+jc n j+k) by omega,Ax hN (by rw[h.fE];omega),Kf,<-g2]
      unfold tb
      simp
     ·have gM:∀j,j<n.ms.length->fa n j≠s:=fun j hj he=>vj ⟨j,hj,he⟩
      rw[q2 gM,Kh,h.v0 s hs k3 gM,ud]
      exact wL
theorem G9 {n:aQ}(hm:aV n)(hf:ch n){l:List Nat}(hl:∀i,i∈l->i<n.aP.length){U:List Int}(hU:fg U (kq n)){v:List Int}(hv:qP n v)(h0:rV U (kq n) (pS n n.ms.length).1 v):∀i,i<=l.length->(fu n l i).1.2=false->fg U (fu n l i).1.1/\rV U (fu n l i).1.1 (fu n l i).2 (rX n l v i)
 |0,_,_=>⟨hU,h0⟩
 |i+1,hi,hb=>by
  have hP:=px hm hf hl i (by omega)
  have hV:=qQ hm hf hl hv i (by omega)
  have hV2:=qQ hm hf hl hv (i+1) hi
  obtain⟨q,hq⟩:∃q,q=l.getD i 0:=⟨_,rfl⟩
  have Kj:q<n.aP.length:=hl _ (by rw[hq,List.getD_eq_getElem?_getD,List.getElem?_eq_getElem (by omega)];exact List.getElem_mem _)
  obtain⟨h1,h2,h3,_⟩:=gg hm hf Kj
  have hw:=nY hm hf h3
  have h3':=h3
  unfold dr at h3'
  obtain⟨st,jr⟩:∃st,st=fu n l i:=⟨_,rfl⟩
  have e:fu n l (i+1)=IL n st q:=by rw[fu,<-jr,<-hq]
  have eW:rX n l v (i+1)=(rX n l v i).set (dT n q).toNat (lr (rX n l v i) (wN n (dT n q)) (cU n q)):=by rw[rX,<-hq]
  rw[e] at hb⊢
  rw[eW] at hV2⊢
  rw[<-jr] at hP
  have hs:∀r,r∈st.2->∀z,z∈r->VS st.1 z:=fun r hr=>(hP.sig.row r hr).2
  have g:=db aX (sig:=st.2) (wN n (dT n q)) (cU n q) (s:=st.1) hP.dR hs
  have rN:(dD a6 st.2 (wN n (dT n q)) (cU n q) st.1).1.2=false:=hb
  have ih:=G9 hm hf hl hU hv h0 i (by omega) (by rw[<-jr];exact g.dX.jf rN)
  rw[<-jr] at ih
  obtain⟨u1,R1⟩:=ih
  have sY:st.2.length=n.sg.length:=hP.sig.len
  have ht:(cU n q).ok st.2.length:=by
   rw[sY];exact(kL h1 h2).2
  have B:=DA hw (cU n q) st.1 hP.dR u1 R1 hs ht rN
  have u2:=u1.le g.dX
  have R2:=R1.le g.dX hP.dR u1 hs
  have IM:(dD a6 st.2 (wN n (dT n q)) (cU n q) st.1).2.length=wN n (dT n q):=cv _ _ _ _ _
  refine⟨u2,fun s u5=> ?_,fun s u5 k hk=> ?_⟩
  ·have Lj:s<n.sg.length:=by unfold IL at u5;rw[List.length_set] at u5;omega
   have h4:=hV2.Az s Lj
   have h5:=wq (nY hm hf (s:=(s:Nat)) (by unfold dr;omega)).2
   have:=h4.2
   exact⟨h4.1,by omega⟩
  ·have Lj:s<n.sg.length:=by unfold IL at u5;rw[List.length_set] at u5;omega
   show vB U (dD a6 st.2 (wN n (dT n q)) (cU n q) st.1).1.1 (g7 ((st.2.set (dT n q).toNat (dD a6 st.2 (wN n (dT n q)) (cU n q) st.1).2).getD s default) k)=_
   rw[cH (by omega),cH (by rw[hV.len];omega)]
   by_cases MV:s=(dT n q).toNat
   ·rw[if_pos MV,if_pos MV]
    by_cases CF:k<wN n (dT n q)
    ·have:=B k (by omega)
     rw[<-this]
     unfold g7
     have e9:(dD a6 st.2 (wN n (dT n q)) (cU n q) st.1).2.getD k 0=(dD a6 st.2 (wN n (dT n q)) (cU n q) st.1).2.getD k default:=rfl
     rw[e9]
    ·rw[DP (by omega),(Dy g.i u2).1,G8 (jJ hw _ _) (by omega)]
   ·rw[if_neg MV,if_neg MV]
    exact R2.bit s (by omega) k hk
def sZ (N:ao)(q:Nat):List Int:=(N.au.getD q default).ins
theorem DQ {N:ao}{q p:Nat}{l:List Int}(hq:q<N.au.length):sZ (lD N q l) p=if p=q then l else sZ N p:=by
 unfold sZ
 have:(lD N q l).au.getD p default=if p=q then⟨(N.au.getD q default).kind,(N.au.getD q default).init,l⟩ else N.au.getD p default:=wP hq
 rw[this]
 split<;>rfl
theorem DR (N:ao)(q:Nat)(bits:List Int):∀k,(ji N q bits k).au.length=N.au.length
 |0=>rfl
 |k+1=>by rw[ji,(jX _ _ _).1,DR N q bits k]
theorem yz {N:ao}{q w:Nat}{bits:List Int}(hq:q+w<=N.au.length):∀k,k<=w->∀p,sZ (ji N q bits k) p=if q<=p/\p<q+k then[bits.getD (p-q) default] else sZ N p
 |0,_,p=>by rw[if_neg (by omega)];rfl
 |k+1,hk,p=>by
  rw[ji,DQ (by rw[DR];omega),yz hq k (by omega) p]
  by_cases hp:p=q+k
  ·rw[if_pos hp,if_pos (by omega),show p-q=k by omega]
  ·rw[if_neg hp]
   by_cases h2:q<=p/\p<q+k
   ·rw[if_pos h2,if_pos (by omega)]
   ·rw[if_neg h2,if_neg (by omega)]
theorem wV {U:List Int}(N:ao)(q:Nat)(bits:List Int)(z:Int):∀k,vB U (ji N q bits k) z=vB U N z
 |0=>rfl
 |k+1=>wV N q bits z k
theorem s5 (N:ao)(q:Nat)(bits:List Int):∀k,ag (ji N q bits k)=ag N
 |0=>rfl
 |k+1=>by rw[ji,(mW _ _ _).1,s5 N q bits k]
theorem AH {U:List Int}{N:ao}(h:fg U N)(q:Nat)(bits:List Int):∀k,fg U (ji N q bits k)
 |0=>h
 |k+1=>by
  have ih:=AH h q bits k
  exact⟨by rw[ih.len,ji];unfold bE;rw[(mW _ _ _).2],ih.My,ih.zero⟩
def vk (n:aQ)(U v:List Int)(N:ao)(s i:Nat):Prop:=∀k,k<wN n (s:Nat)->∃z,sZ N (dU n 3 s+k)=[z]/\aD z (ag N)/\vB U N z=tb (lr v (wN n (s:Nat)) (cU n i)) k
def B9 (n:aQ)(U v:List Int)(N:ao)(s:Nat):Prop:=∀s',s'<s->aY n (s':Nat)=3->∀i,i<n.aP.length->dT n i=(s':Nat)->vk n U v N s' i
section
variable {n:aQ} (hm:aV n) (hf:ch n) {sig:List (List Int)} {U v:List Int}
include hm hf
theorem vk.step {st:(ao×Bool)×Nat}{s:Nat}(h:oM n sig st.1.1 st.2)(hU:fg U st.1.1)(ij:st.2+wN n (s:Nat)<=dU n 3 n.sg.length){s' i':Nat}(Lv:dU n 3 s'+wN n (s':Nat)<=st.2)(t:cI)(hF:vk n U v st.1.1 s' i'):
  vk n U v (ji (dD a6 sig (wN n (s:Nat)) t st.1).1.1 st.2 (dD a6 sig (wN n (s:Nat)) t st.1).2 (wN n (s:Nat))) s' i':=fun k hk=>by
 obtain⟨z,h1,h2,h3⟩:=hF k hk
 have hs:∀r,r∈sig->∀z,z∈r->VS st.1 z:=fun r hr=>(h.sig.row r hr).2
 have g:=db aX (sig:=sig) (wN n (s:Nat)) t (s:=st.1) h.dR hs
 obtain⟨e1,e2,e3,e4⟩:=h.ev (wN n (s:Nat)) t
 refine⟨z,?_,?_,?_⟩
 ·rw[yz (w:=wN n (s:Nat)) (by rw[e1.len];omega) _ (Nat.le_refl _),if_neg (by omega)]
  unfold sZ
  rw[e3]
  exact h1
 ·rw[s5]
  exact h2.mono g.dX.1.1.1
 ·rw[wV,g.dX.v h.dR hU h2]
  exact h3
theorem yA {s0:ao×Bool}(h0:oM n sig s0.1 0)(hU0:fg U s0.1)(hR0:rV U s0.1 sig v):∀s:Nat,s<=n.sg.length->(fX n sig s0 s).1.2=false->fg U (fX n sig s0 s).1.1/\rV U (fX n sig s0 s).1.1 sig v/\B9 n U v (fX n sig s0 s).1.1 s
 |0,_,_=>⟨hU0,hR0,fun s' Lv=>absurd Lv (Nat.not_lt_zero _)⟩
 |s+1,hs,hb=>by
  obtain⟨AI,zy,_⟩:=qO hm h0 s (by omega)
  by_cases hk:aY n (s:Nat)=3
  ·have e:fX n sig s0 (s+1)=jm n sig (s:Nat) (fX n sig s0 s) n.aP.length:=by rw[fX,if_pos hk]
   rw[e] at hb⊢
   have W3:(fX n sig s0 s).1.2=false:=by
    cases hc:(fX n sig s0 s).1.2 with
    |false=>rfl
    |true=>rw[(nZ hm (by omega) hk AI zy n.aP.length (Nat.le_refl _)).2.2 hc] at hb;exact hb
   obtain⟨u1,r1,f1⟩:=yA h0 hU0 hR0 s (by omega) W3
   obtain⟨st,jr⟩:∃st,st=fX n sig s0 s:=⟨_,rfl⟩
   rw[<-jr] at AI zy hb u1 r1 f1⊢
   have key:∀i,i<=n.aP.length->(jm n sig (s:Nat) st i).1.2=false->fg U (jm n sig (s:Nat) st i).1.1/\rV U (jm n sig (s:Nat) st i).1.1 sig v/\B9 n U v (jm n sig (s:Nat) st i).1.1 s/\∀i',i'<i->dT n i'=(s:Nat)->vk n U v (jm n sig (s:Nat) st i).1.1 s i':=fun i=>by
    induction i with
    |zero=>exact fun _ _=>⟨u1,r1,f1,fun i' HD=>absurd HD (Nat.not_lt_zero _)⟩
    |succ i ih=>
     intro hi OJ
     obtain⟨vU,Xh,_⟩:=nZ hm (show s<n.sg.length by omega) hk AI zy i (by omega)
     rw[jm] at OJ⊢
     by_cases ht:dT n i=((s:Nat):Int)
     ·have ij:=BX hm (show s<n.sg.length by omega) hk AI zy (i:=i) (by omega) ht
      obtain⟨qR,yB,rY,_⟩:=gg hm hf (show i<n.aP.length by omega)
      have hw:=nY hm hf rY
      rw[ht] at hw
      have hc:=oN hm (show s<n.sg.length by omega) hk
      have OF:=mr n.aP (s:Nat) (i:=i+1) n.aP.length hi
      have S2:(n.aP.getD i default).tg=(s:Nat):=ht
      rw[gH,if_pos S2] at OF
      have Xi:=(mT n.aP (s:Nat) i).1
      have hz:gH n.aP (s:Nat) i=0:=by omega
      obtain⟨q,hq⟩:∃q,q=jm n sig (s:Nat) st i:=⟨_,rfl⟩
      rw[<-hq] at vU Xh ij ih OJ⊢
      have eS:zJ n sig (s:Nat) q i=((ji (dD a6 sig (wN n (s:Nat)) (cU n i) q.1).1.1 q.2 (dD a6 sig (wN n (s:Nat)) (cU n i) q.1).2 (wN n (s:Nat)),(dD a6 sig (wN n (s:Nat)) (cU n i) q.1).1.2),q.2+wN n (s:Nat)):=by unfold zJ;rw[if_pos ht]
      rw[eS] at OJ⊢
      have W9:(dD a6 sig (wN n (s:Nat)) (cU n i) q.1).1.2=false:=OJ
      have u5:∀r,r∈sig->∀z,z∈r->VS q.1 z:=fun r hr=>(vU.sig.row r hr).2
      have g:=db aX (sig:=sig) (wN n (s:Nat)) (cU n i) (s:=q.1) vU.dR u5
      obtain⟨v1,v2,v3,v4⟩:=vU.ev (wN n (s:Nat)) (cU n i)
      obtain⟨a1,a2,a3,a4⟩:=ih (by omega) (g.dX.jf W9)
      have B:=DA hw (cU n i) q.1 vU.dR a1 a2 u5 (by rw[vU.sig.len];exact(kL qR yB).2) W9
      have IM:(dD a6 sig (wN n (s:Nat)) (cU n i) q.1).2.length=wN n (s:Nat):=cv _ _ _ _ _
      have u2:=a1.le g.dX
      have r2:=a2.le g.dX vU.dR a1 u5
      have R8:q.2=dU n 3 s:=by rw[hz] at Xh;omega
      refine⟨AH u2 _ _ _,⟨r2.Az,fun x hx k hk=>by rw[wV];exact r2.bit x hx k hk⟩,fun s' Lv vV i' HD OK=> ?_,fun i' HD OK k p6=> ?_⟩
      ·have h6:=lB n 3 (i:=s'+1) (j:=s) (by omega)
       rw[oP n 3 vV] at h6
       exact vk.step hm hf vU a1 ij (by omega) _ (a3 s' Lv vV i' HD OK)
      ·by_cases MF:i'=i
       ·subst MF
        refine⟨(dD a6 sig (wN n (s:Nat)) (cU n i') q.1).2.getD k default,?_,?_,?_⟩
        ·rw[yz (w:=wN n (s:Nat)) (by rw[v1.len];omega) _ (Nat.le_refl _),if_pos (by omega),show dU n 3 s+k-q.2=k by omega]
        ·rw[s5]
         exact v2 _ (aK (by omega))
        ·rw[wV]
         exact B k (by omega)
       ·exact(rz (R:=n.aP) (s:=(s:Nat)) (by rw[hc];omega) (show i'<i by omega) (by omega) OK ht).elim
     ·have eS:zJ n sig (s:Nat) (jm n sig (s:Nat) st i) i=jm n sig (s:Nat) st i:=by unfold zJ;rw[if_neg ht]
      rw[eS] at OJ⊢
      obtain⟨a1,a2,a3,a4⟩:=ih (by omega) OJ
      refine⟨a1,a2,a3,fun i' HD OK=>a4 i' ?_ OK⟩
      by_cases MF:i'=i
      ·subst MF;exact absurd OK ht
      ·omega
   obtain⟨a1,a2,a3,a4⟩:=key n.aP.length (Nat.le_refl _) hb
   refine⟨a1,a2,fun s' Lv vV i hi ht=> ?_⟩
   by_cases hss:s'=s
   ·subst hss;exact a4 i hi ht
   ·exact a3 s' (by omega) vV i hi ht
  ·have e:fX n sig s0 (s+1)=fX n sig s0 s:=by rw[fX,if_neg hk]
   rw[e] at hb⊢
   obtain⟨a1,a2,a3⟩:=yA h0 hU0 hR0 s (by omega) hb
   refine⟨a1,a2,fun s' Lv vV i hi ht=>a3 s' ?_ vV i hi ht⟩
   by_cases hss:s'=s
   ·subst hss;exact absurd vV hk
   ·omega
end
end Go.Xw
end
section
namespace Go.Xw
open Go.Proofs
set_option maxHeartbeats 1000000
theorem kR {n:ao}(h:aj n){i:Nat}(hi:i<n.af.length)(hK:(aC n).getD (bE n+i) default=true):(aC n).getD (kA n i) default=true/\(aC n).getD (kB n i) default=true:=by
 have hn:=h.ei
 have O9:=hn.n1
 have ka:=hn.ka i hi
 have kb:=hn.kb i hi
 have hr:ow n (bE n+i):=(jT (by omega)).1 hK
 refine⟨(jT (by omega)).2 ?_,(jT (by omega)).2 ?_⟩
 ·obtain⟨x,hx,hc⟩:=hr
  exact⟨x,hx,hc.trans (.left hi (.refl _))⟩
 ·obtain⟨x,hx,hc⟩:=hr
  exact⟨x,hx,hc.trans (.right hi (.refl _))⟩
theorem yC {n:ao}(h:aj n){x:Int}(hx:x∈bc n):(aC n).getD (x/2).toNat default=true:=by
 have bD:=(h.root x hx).nat h.ei
 refine(jT bD).2 ?_
 obtain⟨i,hi,rfl⟩:=List.getElem_of_mem hx
 exact⟨i,hi,by rw[List.getD_eq_getElem?_getD,List.getElem?_eq_getElem hi];exact .refl _⟩
theorem Ib {n:ao}(h:aj n)(ins:List Int):pZ (gE n) ins=pZ n ins:=by
 refine GL h fun st ck hs x hx=> ?_
 have hB:=nF h (aC n) _ (Nat.le_refl _)
 have hl:=km n (aC n) n.af.length
 have hn:=h.ei
 have O9:=hn.n1
 have f1:=hB.f1
 have f2:=hB.cC
 have bD:=(h.root x hx).nat hn
 have hsw:aj (jI n (a9 n (aC n) n.af.length).1 (a9 n (aC n) n.af.length).2):=At h
 refine mo (oC _ _ _) (oC _ _ _) (k:=aB n+(a9 n (aC n) n.af.length).1.length) (by omega) (hB.tok _ (by omega)) ?_
 rw[Du hsw hs,tW h hs]
 exact JM h (fun i hi hK=>⟨.inr (kR h hi hK).1,.inr (kR h hi hK).2⟩) (rv h hs ck) (ye _ _ _) n.af.length (Nat.le_refl _) _ (by omega) (.inr (yC h hx))
theorem Kk {n:ao}(h:aj n)(ins:List Int):pZ (tU n) ins=pZ n ins:=by
 unfold tU
 rw[Ib (rn h),JL h]
def nl (V:List Int)(l:Int):Int:=V.getD (l/2).toNat default
def R9 (V:List Int):Prop:=∀j,0<=V.getD j default
theorem R9.snoc {V:List Int}(h:R9 V){z:Int}(hz:0<=z):R9 (V++[z]):=fun j=>by
 by_cases h1:j<V.length
 ·rw[dd h1];exact h j
 ·by_cases h2:j=V.length
  ·subst h2;rw[eh];exact hz
  ·rw[List.getD_eq_getElem?_getD,List.getElem?_eq_none (by simp;omega)];exact Int.le_refl _
theorem AJ (n:ao)(A:List (Int×Int))(to:List Int):bc (jI n A to)=(bc n).map (a8 to):=by
 rw[jU,jU]
 unfold jI dZ
 simp only[List.map_append,List.flatMap_map,List.map_flatMap]
end Go.Xw
end
section
namespace Go.Xw
open Go.Proofs
set_option maxHeartbeats 1000000
theorem yD (sig:List (List Int))(x:yh)(N:ao)(q:Nat):∀k,(l8 sig x N q k).au.length=N.au.length
 |0=>rfl
 |k+1=>by rw[l8,(jX _ _ _).1,yD sig x N q k]
theorem yE {sig:List (List Int)}{x:yh}{N:ao}{q w:Nat}(hq:q+w<=N.au.length):∀k,k<=w->∀p,sZ (l8 sig x N q k) p=if q<=p/\p<q+k then p7 sig x (p-q) else sZ N p
 |0,_,p=>by rw[if_neg (by omega)];rfl
 |k+1,hk,p=>by
  rw[l8,DQ (by rw[yD];omega),yE hq k (by omega) p]
  by_cases hp:p=q+k
  ·rw[if_pos hp,if_pos (by omega),show p-q=k by omega]
  ·rw[if_neg hp]
   by_cases h2:q<=p/\p<q+k
   ·rw[if_pos h2,if_pos (by omega)]
   ·rw[if_neg h2,if_neg (by omega)]
theorem yF (sig:List (List Int))(x:yh)(N:ao)(q:Nat):∀k,(l8 sig x N q k).af=N.af
 |0=>rfl
 |k+1=>yF sig x N q k
theorem yH (n:aQ)(sig:List (List Int))(N:ao)(q:Nat):∀j,(dj n sig N q j).1.af=N.af
 |0=>rfl
 |j+1=>by rw[dj];exact(yF _ _ _ _ _).trans (yH n sig N q j)
theorem DS (n:aQ)(sig:List (List Int))(N:ao)(q:Nat):∀j,(dj n sig N q j).1.au.length=N.au.length
 |0=>rfl
 |j+1=>by rw[dj];exact(yD _ _ _ _ _).trans (DS n sig N q j)
theorem wW {n:aQ}(hm:aV n){j:Nat}(hj:j<n.ms.length):jc n (j+1)=jc n j+wN n (fa n j:Nat):=by rw[jc,(jB hm hj).2.1]
theorem DT {n:aQ}(hm:aV n){sig:List (List Int)}{N:ao}{q:Nat}(hq:q+jc n n.ms.length<=N.au.length):∀j,j<=n.ms.length->(dj n sig N q j).2=q+jc n j/\(∀p,p<q->sZ (dj n sig N q j).1 p=sZ N p)/\∀j',j'<j->∀k,k<wN n (fa n j':Nat)->sZ (dj n sig N q j).1 (q+jc n j'+k)=p7 sig (n.ms.getD j' default) k
 |0,_=>⟨rfl,fun p hp=>rfl,fun j' MW=>absurd MW (Nat.not_lt_zero _)⟩
 |j+1,hj=>by
  obtain⟨h1,h2,h3⟩:=DT (sig:=sig) hm hq j (by omega)
  have ho:=(jB hm (j:=j) (by omega)).2.1
  have hw:=wW hm (j:=j) (by omega)
  have OF:=lC n (i:=j+1) (j:=n.ms.length) (by omega)
  rw[dj]
  dsimp only
  rw[<-ho]
  have hl:(dj n sig N q j).2+wN n (fa n j:Nat)<=(dj n sig N q j).1.au.length:=by rw[DS];omega
  refine⟨by rw[h1,hw,Nat.add_assoc],fun p hp=> ?_,fun j' MW k hk=> ?_⟩
  ·rw[yE hl _ (Nat.le_refl _),if_neg (by omega)]
   exact h2 p hp
  ·rw[yE hl _ (Nat.le_refl _)]
   by_cases MX:j'=j
   ·subst MX
    rw[if_pos (by omega),show q+jc n j'+k-(dj n sig N q j').2=k by omega]
   ·have vw:=wW hm (j:=j') (by omega)
    have hmo':=lC n (i:=j'+1) (j:=j) (by omega)
    rw[if_neg (by omega)]
    exact h3 j' (by omega) k hk
def iL (N:ao):List fS:=N.au.map nG
theorem yI (N:ao)(q:Nat)(l:List Int):iL (lD N q l)=iL N:=by
 unfold iL
 refine lZ (by rw[List.length_map,List.length_map,(jX N q l).1]) fun p hp=> ?_
 rw[List.length_map,(jX N q l).1] at hp
 rw[tX nG (by rw[(jX N q l).1];exact hp),tX nG hp]
 obtain⟨h1,h2⟩:=(jX N q l).2 p
 unfold nG
 rw[h1,h2]
theorem yJ (N:ao)(q:Nat)(bits:List Int):∀k,iL (ji N q bits k)=iL N
 |0=>rfl
 |k+1=>by rw[ji,yI,yJ N q bits k]
theorem yK (sig:List (List Int))(x:yh)(N:ao)(q:Nat):∀k,iL (l8 sig x N q k)=iL N
 |0=>rfl
 |k+1=>by rw[l8,yI,yK sig x N q k]
theorem yL (n:aQ)(sig:List (List Int))(N:ao)(q:Nat):∀j,iL (dj n sig N q j).1=iL N
 |0=>rfl
 |j+1=>by rw[dj];exact(yK _ _ _ _ _).trans (yL n sig N q j)
theorem AK {n:aQ}(hm:aV n){sig:List (List Int)}{s0:ao×Bool}(h0:oM n sig s0.1 0):∀s:Nat,s<=n.sg.length->iL (fX n sig s0 s).1.1=iL s0.1
 |0,_=>rfl
 |s+1,hs=>by
  have ih:=AK hm h0 s (by omega)
  obtain⟨AI,zy,_⟩:=qO hm h0 s (by omega)
  rw[fX]
  by_cases hk:aY n (s:Nat)=3
  ·rw[if_pos hk]
   have key:∀i,i<=n.aP.length->iL (jm n sig (s:Nat) (fX n sig s0 s) i).1.1=iL (fX n sig s0 s).1.1:=fun i=>by
    induction i with
    |zero=>exact fun _=>rfl
    |succ i ihi=>
     intro hi
     have vU:=(nZ hm (show s<n.sg.length by omega) hk AI zy i (by omega)).1
     rw[jm]
     unfold zJ
     split
     ·show iL (ji _ _ _ _)=_
      rw[yJ]
      have e3:=(vU.ev (wN n (s:Nat)) (cU n i)).2.2.1
      unfold iL at ihi⊢
      rw[e3];exact ihi (by omega)
     ·exact ihi (by omega)
   rw[key _ (Nat.le_refl _),ih]
  ·rw[if_neg hk];exact ih
theorem DU {N M:ao}(h:iL N=iL M):fW N=fW M:=by
 have e:∀X:ao,fW X=(iL X).map fS.init:=fun X=>by
  unfold fW iL
  rw[List.map_map];rfl
 rw[e,e,h]
theorem yM {f:List Int}(n:aQ):∀i:Nat,∀s:Nat,s<i->aY n (s:Nat)=3->∀k,k<wN n (s:Nat)->((pw f n i).getD (dU n 3 s+k) default).init=iy n (s:Nat)/2^k%2
 |0,s,hs,_,_,_=>absurd hs (Nat.not_lt_zero _)
 |i+1,s,hs,vV,k,hk=>by
  have hl:=l7 f n i
  rw[pw]
  by_cases V7:aY n (i:Nat)=3
  ·rw[if_pos V7]
   by_cases CE:s=i
   ·subst CE
    rw[List.getD_eq_getElem?_getD,List.getElem?_append_right (by omega),hl,show dU n 3 s+k-dU n 3 s=k by omega]
    simp[gR,hk]
   ·have h6:=lB n 3 (i:=s+1) (j:=i) (by omega)
    rw[oP n 3 vV] at h6
    rw[List.getD_eq_getElem?_getD,List.getElem?_append_left (by omega),<-List.getD_eq_getElem?_getD]
    exact yM n i s (by omega) vV k hk
  ·rw[if_neg V7]
   refine yM n i s ?_ vV k hk
   by_cases CE:s=i
   ·subst CE;exact absurd vV V7
   ·omega
theorem G' {f r:List Int}(n:aQ):∀j p,p<dU n 3 n.sg.length->(ni f r n j).getD p default=(pw f n n.sg.length).getD p default
 |0,p,hp=>rfl
 |j+1,p,hp=>by
  have hl:=jA f r n j
  rw[ni,List.getD_eq_getElem?_getD,List.getElem?_append_left (by omega),<-List.getD_eq_getElem?_getD]
  exact G' n j p hp
def ue (n:aQ)(k:Int)(v:List Int):Nat->List Int
 |0=>[]
 |i+1=>if aY n (i:Nat)=k then ue n k v i++[v.getD i default] else ue n k v i
noncomputable def zz (n:aQ)(v:List Int):Nat->List Int
 |0=>List.replicate n.sg.length 0
 |i+1=>if aY n (dT n i)=3 then(zz n v i).set (dT n i).toNat (lr v (wN n (dT n i)) (cU n i)) else zz n v i
def CG (n:aQ)(v:List Int)(j:Nat):Nat:=(v.getD (n.ms.getD j default).addr.toNat default).toNat
noncomputable def pz (n:aQ)(v w:List Int):Nat->List Int×List Int
 |0=>(zz n v n.aP.length,w)
 |j+1=>((pz n v w j).1.set (fa n j) (w.getD (4*j+CG n v j) default),if v.getD (n.ms.getD j default).write.toNat default=1 then(pz n v w j).2.set (4*j+CG n v j) (v.getD (n.ms.getD j default).data.toNat default) else(pz n v w j).2)
theorem rJ (n:aQ)(k:Int)(v:List Int):∀i,i<=n.sg.length->(ue n k v i).length=nK n k i
 |0,_=>by simp[ue,nK,pR]
 |i+1,hi=>by
  rw[ue,G7 (by omega)]
  split
  ·rw[List.length_append,rJ n k v i (by omega)];rfl
  ·exact rJ n k v i (by omega)
theorem vl {xs A:List Int}:∀m,m<=xs.length->dV (xs++A) m=dV xs m
 |0,_=>rfl
 |m+1,h=>by rw[dV,dV,vl m (by omega),du (by omega)]
theorem Ha {xs ys A B:List Int}:∀m,m<=xs.length->m<=ys.length->pk (xs++A) (ys++B) m=pk xs ys m
 |0,_,_=>rfl
 |m+1,h,g=>by rw[pk,pk,Ha m (by omega) (by omega),du (by omega),du (by omega),vl m (by omega)]
theorem yN (V A B:List Int):∀k,k<=B.length->e7 V (A++B) (A.length+k)=e7 V A A.length+e7 V B k*2^A.length
 |0,_=>by
  rw[Nat.add_zero]
  have:∀m,m<=A.length->e7 V (A++B) m=e7 V A m:=fun m=>by
   induction m with
   |zero=>exact fun _=>rfl
   |succ m ih=>exact fun h=>by rw[e7,e7,ih (by omega),du (by omega)]
  rw[this _ (Nat.le_refl _)]
  simp[e7]
 |k+1,h=>by
  rw[show A.length+(k+1)=A.length+k+1 by omega,e7,yN V A B k (by omega),e7,kM,Int.add_mul,Int.pow_add,Int.add_assoc,Int.mul_assoc,Int.mul_comm (2^A.length) (2^k)]
theorem MY (a:Int)(k:Nat):a%2^(k+1)=a%2^k+(if tb a k then 1 else 0)*2^k:=by
 have p2:=wD k
 have e:(2:Int)^(k+1)=2^k*2:=Int.pow_succ _ _
 unfold tb
 rw[e]
 obtain⟨K,hK⟩:∃K:Int,K=2^k:=⟨_,rfl⟩
 rw[<-hK] at p2⊢
 have h1:=Int.emod_def a (K*2)
 have h2:=Int.emod_def a K
 have h4:a/(K*2)=a/K/2:=by rw[Int.ediv_ediv_of_nonneg (by omega)]
 rw[h1,h2,h4]
 have h5:a/K=2*(a/K/2)+a/K%2:=(Int.mul_ediv_add_emod _ _).symm
 have h6:a/K%2=0\/a/K%2=1:=by omega
 obtain⟨D,hD⟩:∃D,D=a/K/2:=⟨_,rfl⟩
 rw[<-hD] at h5⊢
 have e3:K*2*D=K*(2*D):=Int.mul_assoc _ _ _
 rcases h6 with h6|h6
 ·rw[h6] at h5⊢
  rw[h5,e3,Int.add_zero];simp
 ·rw[h6] at h5⊢
  rw[h5,e3,Int.mul_add,Int.mul_one];simp
  omega
theorem Ca {U:List Int}{n:ao}(h1:dp U)(z:Int):a8 (cu U n.af) z=if vB U n z then 1 else 0:=by
 have:=iV (gn n.af h1) z
 unfold vB
 unfold nr at this
 rcases this with h|h<;>rw[h]<;>simp
theorem DV {U:List Int}{n:ao}(h1:dp U){ls:List Int}{a:Int}(h:iI U n ls (tb a)):∀k,k<=ls.length->e7 (cu U n.af) ls k=a%2^k
 |0,_=>by simp[e7,Int.emod_one]
 |k+1,hk=>by rw[e7,DV h1 h k (by omega),MY,Ca h1,h k (by omega)]
theorem Ic {U:List Int}{n:ao}(h1:dp U){ls:List Int}{a:Int}(h:iI U n ls (tb a))(ha:CA ls.length a):ln (cu U n.af) ls=a:=by
 unfold ln
 rw[DV h1 h _ (Nat.le_refl _),Int.emod_eq_of_lt ha.1 ha.2]
def bI (b:Bool):Int:=if b then 1 else 0
theorem MZ:∀v:Fin 32,∀a0 a1 d e:Bool,(0<=iw v.val (bI a0+bI a1*2+bI d*4+bI e*8)/\iw v.val (bI a0+bI a1*2+bI d*4+bI e*8)<=31)/\tb (iw v.val (bI a0+bI a1*2+bI d*4+bI e*8)) 0=tb v.val (1+(bI a0+bI a1*2).toNat)/\∀c:Fin 4,tb (iw v.val (bI a0+bI a1*2+bI d*4+bI e*8)) (1+c.val)=if(e&&decide (c.val=(bI a0+bI a1*2).toNat)) then d else tb v.val (1+c.val):=by
 decide+kernel
theorem Kl:∀a:Fin 4,bI (tb a.val 0)+bI (tb a.val 1)*2=a.val:=by decide+kernel
theorem M0:∀a:Fin 2,tb a.val 0=decide (a.val=1):=by decide+kernel
end Go.Xw
end
