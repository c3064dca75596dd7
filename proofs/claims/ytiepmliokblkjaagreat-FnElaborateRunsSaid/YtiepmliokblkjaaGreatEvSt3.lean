/- Texts that belong together; each under its stated conditions. -/
import Derived.Test.YtiepmliokblkjaaGreatEvSt
import Derived.Test.YtiepmliokblkjaaGreatSimLaw
set_option linter.all false
section
namespace Go.Xw
open Go.Proofs
set_option maxHeartbeats 1000000
theorem V2 (b:Bool):decide (bits .and .i64 (if b=true then(1:Int) else 0) 1=1)=b:=by
 cases b<;>decide
theorem ue (k:Nat):tb 0 k=false:=by unfold tb;rw[Int.zero_ediv];rfl
theorem Kg (k:Nat):g7 [] k=0:=rfl
theorem DN {l:List Int}{k:Nat}(h:l.length<=k):g7 l k=0:=by
 unfold g7
 rw[List.getD_eq_getElem?_getD,List.getElem?_eq_none h];rfl
theorem yw {p w k:Nat}(h:k<w):g7 (jt p w) k=2*((p+k:Nat):Int):=Kf h
theorem H9 {n:aQ}(hm:aV n)(hf:ch n){N:ao}(hN:aj N)(hi:N.aT=cT (ee n 0))(hq:N.au.length=dU n 3 n.sg.length+ja n n.ms.length){v w st:List Int}(h:V0 n v w st){ins:List Int}{ck:Int}
  (R4:∀s:Nat,s<n.sg.length->aY n (s:Nat)=0->∀k,k<wN n (s:Nat)->tb ck (dU n 0 s+k)=tb (ins.getD (nK n 0 s) default%2^wN n (s:Nat)) k):
  fe (kp N st ck) (kr n)/\rS (kp N st ck) (kr n) (pS n n.ms.length).1 (AB n v ins n.sg.length).1:=by
 have hn0:=GY hm hf
 have hlen:(kp N st ck).length=bE N:=rq hN (by rw[h.fE,hq]) ck
 obtain⟨f1,f2,f3⟩:=hN.oE
 have sh:(kr n).au.length=dU n 3 n.sg.length+ja n n.ms.length:=jA _ _ _ _
 have hU:fe (kp N st ck) (kr n):=by
  refine⟨?_,yc N st ck,GH N st ck⟩
  rw[hlen]
  unfold bE aB
  rw[hi,hq,sh];rfl
 have wJ:=(Dw hn0 hU).1
 have hand:(kr n).af=[]:=rfl
 have Lc:=hU.Mx
 have ws0:=rE hm 0
 obtain⟨_,_,hW⟩:=BX (ins:=ins) h.val.len n.sg.length (Nat.le_refl _)
 have Kh:=wS h.val ins
 have hmL:=(pw hm n.ms.length (Nat.le_refl _)).1.len
 refine⟨hU,fun s hs=> ?_,fun s hs k hk=> ?_⟩
 ·rw[hmL] at hs
  have h1:=Kh.Av s hs
  have h2:=(nY hm hf (s:=(s:Nat)) (by unfold dr;omega)).2
  have h3:=wk h2
  have:=h1.2
  exact⟨h1.1,by omega⟩
 ·rw[hmL] at hs
  obtain⟨r0,r3,rr⟩:=G5 hm n.ms.length (Nat.le_refl _) s hs
  by_cases Cz:wN n (s:Nat)<=k
  ·rw[G7 (Kh.Av s hs) Cz,DN (by
    rw[((pw hm n.ms.length (Nat.le_refl _)).1.row s hs).1]
    unfold wy
    split
    ·exact Cz
    ·have h5:=nX n.ms (s:Nat) n.ms.length
     have h6:(hJ n.ms (s:Nat) n.ms.length).toNat<=1:=by
      rename_i IG
      have h7:=yq hm hs IG
      have h8:=(mT n.aP (s:Nat) n.aP.length).1
      omega
     have h9:=Nat.mul_le_mul_right (wN n (s:Nat)) h6
     omega)]
   exact wJ
  ·have H':k<wN n (s:Nat):=by omega
   rw[hW s]
   by_cases k0:aY n (s:Nat)=0
   ·rw[if_pos ⟨hs,k0⟩,r0 k0,yw H',B3 hand Lc]
    have h5:=oP n 0 k0
    have h6:=lC n 0 (i:=s+1) (j:=n.sg.length) (by omega)
    rw[show 1+dU n 0 s+k=1+(dU n 0 s+k) by omega,JI (by rw[hi];omega),<-R4 s hs k0 k H']
    unfold tb Bz
    exact Ke _
   ·rw[if_neg (fun hh=>k0 hh.2)]
    by_cases k3:aY n (s:Nat)=3
    ·rw[r3 k3,yw H',B3 hand Lc]
     have h5:=oP n 3 k3
     have h6:=lC n 3 (i:=s+1) (j:=n.sg.length) (by omega)
     rw[show 1+dU n 0 n.sg.length+dU n 3 s+k=oE N+(dU n 3 s+k) by omega,At hN (by rw[h.fE];omega),h.V1 s hs k3 k H']
     exact V2 _
    ·obtain⟨q1,q2⟩:=rr k0 k3
     by_cases vh:∃j,j<n.ms.length/\fa n j=s
     ·obtain⟨j,hj,rfl⟩:=vh
      rw[q1 j hj rfl,yw H',B3 hand Lc]
      obtain⟨g1,g2,g3⟩:=h.ram j hj k H'
      have h6:=lD n (i:=j+1) (j:=n.ms.length) (by omega)
      have h7:ja n (j+1)=ja n j+wN n (fa n j:Nat):=by rw[ja,(jB hm hj).2.1]
      rw[show 1+dU n 0 n.sg.length+dU n 3 n.sg.length+ja n j+k=oE N+(dU n 3 n.sg.length+ja n j+k) by omega,At hN (by rw[h.fE];omega),Ke,<-g2]
      unfold tb
      simp
     ·have gM:∀j,j<n.ms.length->fa n j≠s:=fun j hj he=>vh ⟨j,hj,he⟩
      rw[q2 gM,Kg,h.v0 s hs k3 gM,ue]
      exact wJ
theorem G8 {n:aQ}(hm:aV n)(hf:ch n){l:List Nat}(hl:∀i,i∈l->i<n.aP.length){U:List Int}(hU:fe U (kr n)){v:List Int}(hv:qO n v)(h0:rS U (kr n) (pS n n.ms.length).1 v):∀i,i<=l.length->(fu n l i).1.2=false->fe U (fu n l i).1.1/\rS U (fu n l i).1.1 (fu n l i).2 (rU n l v i)
 |0,_,_=>⟨hU,h0⟩
 |i+1,hi,hb=>by
  have hP:=py hm hf hl i (by omega)
  have hV:=qP hm hf hl hv i (by omega)
  have hV2:=qP hm hf hl hv (i+1) hi
  obtain⟨q,hq⟩:∃q,q=l.getD i 0:=⟨_,rfl⟩
  have Ki:q<n.aP.length:=hl _ (by rw[hq,List.getD_eq_getElem?_getD,List.getElem?_eq_getElem (by omega)];exact List.getElem_mem _)
  obtain⟨h1,h2,h3,_⟩:=gg hm hf Ki
  have hw:=nY hm hf h3
  have h3':=h3
  unfold dr at h3'
  obtain⟨st,jq⟩:∃st,st=fu n l i:=⟨_,rfl⟩
  have e:fu n l (i+1)=IK n st q:=by rw[fu,<-jq,<-hq]
  have eW:rU n l v (i+1)=(rU n l v i).set (dT n q).toNat (lu (rU n l v i) (wN n (dT n q)) (cU n q)):=by rw[rU,<-hq]
  rw[e] at hb⊢
  rw[eW] at hV2⊢
  rw[<-jq] at hP
  have hs:∀r,r∈st.2->∀z,z∈r->VS st.1 z:=fun r hr=>(hP.sig.row r hr).2
  have g:=db aX (sig:=st.2) (wN n (dT n q)) (cU n q) (s:=st.1) hP.dR hs
  have sy:(dB a6 st.2 (wN n (dT n q)) (cU n q) st.1).1.2=false:=hb
  have ih:=G8 hm hf hl hU hv h0 i (by omega) (by rw[<-jq];exact g.dX.jd sy)
  rw[<-jq] at ih
  obtain⟨u1,R1⟩:=ih
  have sY:st.2.length=n.sg.length:=hP.sig.len
  have ht:(cU n q).ok st.2.length:=by
   rw[sY];exact(kM h1 h2).2
  have B:=Dy hw (cU n q) st.1 hP.dR u1 R1 hs ht sy
  have u2:=u1.le g.dX
  have R2:=R1.le g.dX hP.dR u1 hs
  have IL:(dB a6 st.2 (wN n (dT n q)) (cU n q) st.1).2.length=wN n (dT n q):=cv _ _ _ _ _
  refine⟨u2,fun s uZ=> ?_,fun s uZ k hk=> ?_⟩
  ·have Li:s<n.sg.length:=by unfold IK at uZ;rw[List.length_set] at uZ;omega
   have h4:=hV2.Av s Li
   have h5:=wk (nY hm hf (s:=(s:Nat)) (by unfold dr;omega)).2
   have:=h4.2
   exact⟨h4.1,by omega⟩
  ·have Li:s<n.sg.length:=by unfold IK at uZ;rw[List.length_set] at uZ;omega
   show vB U (dB a6 st.2 (wN n (dT n q)) (cU n q) st.1).1.1 (g7 ((st.2.set (dT n q).toNat (dB a6 st.2 (wN n (dT n q)) (cU n q) st.1).2).getD s default) k)=_
   rw[cG (by omega),cG (by rw[hV.len];omega)]
   by_cases MU:s=(dT n q).toNat
   ·rw[if_pos MU,if_pos MU]
    by_cases Cz:k<wN n (dT n q)
    ·have:=B k (by omega)
     rw[<-this]
     unfold g7
     have e9:(dB a6 st.2 (wN n (dT n q)) (cU n q) st.1).2.getD k 0=(dB a6 st.2 (wN n (dT n q)) (cU n q) st.1).2.getD k default:=rfl
     rw[e9]
    ·rw[DN (by omega),(Dw g.i u2).1,G7 (jJ hw _ _) (by omega)]
   ·rw[if_neg MU,if_neg MU]
    exact R2.bit s (by omega) k hk
def sZ (N:ao)(q:Nat):List Int:=(N.au.getD q default).ins
theorem DO {N:ao}{q p:Nat}{l:List Int}(hq:q<N.au.length):sZ (lE N q l) p=if p=q then l else sZ N p:=by
 unfold sZ
 have:(lE N q l).au.getD p default=if p=q then⟨(N.au.getD q default).kind,(N.au.getD q default).init,l⟩ else N.au.getD p default:=wM hq
 rw[this]
 split<;>rfl
theorem DP (N:ao)(q:Nat)(bits:List Int):∀k,(jh N q bits k).au.length=N.au.length
 |0=>rfl
 |k+1=>by rw[jh,(jY _ _ _).1,DP N q bits k]
theorem yx {N:ao}{q w:Nat}{bits:List Int}(hq:q+w<=N.au.length):∀k,k<=w->∀p,sZ (jh N q bits k) p=if q<=p/\p<q+k then[bits.getD (p-q) default] else sZ N p
 |0,_,p=>by rw[if_neg (by omega)];rfl
 |k+1,hk,p=>by
  rw[jh,DO (by rw[DP];omega),yx hq k (by omega) p]
  by_cases hp:p=q+k
  ·rw[if_pos hp,if_pos (by omega),show p-q=k by omega]
  ·rw[if_neg hp]
   by_cases h2:q<=p/\p<q+k
   ·rw[if_pos h2,if_pos (by omega)]
   ·rw[if_neg h2,if_neg (by omega)]
theorem wT {U:List Int}(N:ao)(q:Nat)(bits:List Int)(z:Int):∀k,vB U (jh N q bits k) z=vB U N z
 |0=>rfl
 |k+1=>wT N q bits z k
theorem s5 (N:ao)(q:Nat)(bits:List Int):∀k,ag (jh N q bits k)=ag N
 |0=>rfl
 |k+1=>by rw[jh,(mW _ _ _).1,s5 N q bits k]
theorem AD {U:List Int}{N:ao}(h:fe U N)(q:Nat)(bits:List Int):∀k,fe U (jh N q bits k)
 |0=>h
 |k+1=>by
  have ih:=AD h q bits k
  exact⟨by rw[ih.len,jh];unfold bE;rw[(mW _ _ _).2],ih.Mx,ih.zero⟩
def vj (n:aQ)(U v:List Int)(N:ao)(s i:Nat):Prop:=∀k,k<wN n (s:Nat)->∃z,sZ N (dU n 3 s+k)=[z]/\aD z (ag N)/\vB U N z=tb (lu v (wN n (s:Nat)) (cU n i)) k
def B4 (n:aQ)(U v:List Int)(N:ao)(s:Nat):Prop:=∀s',s'<s->aY n (s':Nat)=3->∀i,i<n.aP.length->dT n i=(s':Nat)->vj n U v N s' i
section
variable {n:aQ} (hm:aV n) (hf:ch n) {sig:List (List Int)} {U v:List Int}
include hm hf
theorem vj.step {st:(ao×Bool)×Nat}{s:Nat}(h:oM n sig st.1.1 st.2)(hU:fe U st.1.1)(ij:st.2+wN n (s:Nat)<=dU n 3 n.sg.length){s' i':Nat}(Lu:dU n 3 s'+wN n (s':Nat)<=st.2)(t:cI)(hF:vj n U v st.1.1 s' i'):
  vj n U v (jh (dB a6 sig (wN n (s:Nat)) t st.1).1.1 st.2 (dB a6 sig (wN n (s:Nat)) t st.1).2 (wN n (s:Nat))) s' i':=fun k hk=>by
 obtain⟨z,h1,h2,h3⟩:=hF k hk
 have hs:∀r,r∈sig->∀z,z∈r->VS st.1 z:=fun r hr=>(h.sig.row r hr).2
 have g:=db aX (sig:=sig) (wN n (s:Nat)) t (s:=st.1) h.dR hs
 obtain⟨e1,e2,e3,e4⟩:=h.ev (wN n (s:Nat)) t
 refine⟨z,?_,?_,?_⟩
 ·rw[yx (w:=wN n (s:Nat)) (by rw[e1.len];omega) _ (Nat.le_refl _),if_neg (by omega)]
  unfold sZ
  rw[e3]
  exact h1
 ·rw[s5]
  exact h2.mono g.dX.1.1.1
 ·rw[wT,g.dX.v h.dR hU h2]
  exact h3
theorem yy {s0:ao×Bool}(h0:oM n sig s0.1 0)(hU0:fe U s0.1)(hR0:rS U s0.1 sig v):∀s:Nat,s<=n.sg.length->(fX n sig s0 s).1.2=false->fe U (fX n sig s0 s).1.1/\rS U (fX n sig s0 s).1.1 sig v/\B4 n U v (fX n sig s0 s).1.1 s
 |0,_,_=>⟨hU0,hR0,fun s' Lu=>absurd Lu (Nat.not_lt_zero _)⟩
 |s+1,hs,hb=>by
  obtain⟨AE,zw,_⟩:=qN hm h0 s (by omega)
  by_cases hk:aY n (s:Nat)=3
  ·have e:fX n sig s0 (s+1)=jl n sig (s:Nat) (fX n sig s0 s) n.aP.length:=by rw[fX,if_pos hk]
   rw[e] at hb⊢
   have W0:(fX n sig s0 s).1.2=false:=by
    cases hc:(fX n sig s0 s).1.2 with
    |false=>rfl
    |true=>rw[(nZ hm (by omega) hk AE zw n.aP.length (Nat.le_refl _)).2.2 hc] at hb;exact hb
   obtain⟨u1,r1,f1⟩:=yy h0 hU0 hR0 s (by omega) W0
   obtain⟨st,jq⟩:∃st,st=fX n sig s0 s:=⟨_,rfl⟩
   rw[<-jq] at AE zw hb u1 r1 f1⊢
   have key:∀i,i<=n.aP.length->(jl n sig (s:Nat) st i).1.2=false->fe U (jl n sig (s:Nat) st i).1.1/\rS U (jl n sig (s:Nat) st i).1.1 sig v/\B4 n U v (jl n sig (s:Nat) st i).1.1 s/\∀i',i'<i->dT n i'=(s:Nat)->vj n U v (jl n sig (s:Nat) st i).1.1 s i':=fun i=>by
    induction i with
    |zero=>exact fun _ _=>⟨u1,r1,f1,fun i' HC=>absurd HC (Nat.not_lt_zero _)⟩
    |succ i ih=>
     intro hi OI
     obtain⟨vT,Xe,_⟩:=nZ hm (show s<n.sg.length by omega) hk AE zw i (by omega)
     rw[jl] at OI⊢
     by_cases ht:dT n i=((s:Nat):Int)
     ·have ij:=BS hm (show s<n.sg.length by omega) hk AE zw (i:=i) (by omega) ht
      obtain⟨qQ,yz,rV,_⟩:=gg hm hf (show i<n.aP.length by omega)
      have hw:=nY hm hf rV
      rw[ht] at hw
      have hc:=oN hm (show s<n.sg.length by omega) hk
      have OE:=mo n.aP (s:Nat) (i:=i+1) n.aP.length hi
      have SZ:(n.aP.getD i default).tg=(s:Nat):=ht
      rw[gH,if_pos SZ] at OE
      have Xf:=(mT n.aP (s:Nat) i).1
      have hz:gH n.aP (s:Nat) i=0:=by omega
      obtain⟨q,hq⟩:∃q,q=jl n sig (s:Nat) st i:=⟨_,rfl⟩
      rw[<-hq] at vT Xe ij ih OI⊢
      have eS:zG n sig (s:Nat) q i=((jh (dB a6 sig (wN n (s:Nat)) (cU n i) q.1).1.1 q.2 (dB a6 sig (wN n (s:Nat)) (cU n i) q.1).2 (wN n (s:Nat)),(dB a6 sig (wN n (s:Nat)) (cU n i) q.1).1.2),q.2+wN n (s:Nat)):=by unfold zG;rw[if_pos ht]
      rw[eS] at OI⊢
      have W6:(dB a6 sig (wN n (s:Nat)) (cU n i) q.1).1.2=false:=OI
      have uZ:∀r,r∈sig->∀z,z∈r->VS q.1 z:=fun r hr=>(vT.sig.row r hr).2
      have g:=db aX (sig:=sig) (wN n (s:Nat)) (cU n i) (s:=q.1) vT.dR uZ
      obtain⟨v1,v2,v3,v4⟩:=vT.ev (wN n (s:Nat)) (cU n i)
      obtain⟨a1,a2,a3,a4⟩:=ih (by omega) (g.dX.jd W6)
      have B:=Dy hw (cU n i) q.1 vT.dR a1 a2 uZ (by rw[vT.sig.len];exact(kM qQ yz).2) W6
      have IL:(dB a6 sig (wN n (s:Nat)) (cU n i) q.1).2.length=wN n (s:Nat):=cv _ _ _ _ _
      have u2:=a1.le g.dX
      have r2:=a2.le g.dX vT.dR a1 uZ
      have R5:q.2=dU n 3 s:=by rw[hz] at Xe;omega
      refine⟨AD u2 _ _ _,⟨r2.Av,fun x hx k hk=>by rw[wT];exact r2.bit x hx k hk⟩,fun s' Lu vU i' HC OJ=> ?_,fun i' HC OJ k p6=> ?_⟩
      ·have h6:=lC n 3 (i:=s'+1) (j:=s) (by omega)
       rw[oP n 3 vU] at h6
       exact vj.step hm hf vT a1 ij (by omega) _ (a3 s' Lu vU i' HC OJ)
      ·by_cases ME:i'=i
       ·subst ME
        refine⟨(dB a6 sig (wN n (s:Nat)) (cU n i') q.1).2.getD k default,?_,?_,?_⟩
        ·rw[yx (w:=wN n (s:Nat)) (by rw[v1.len];omega) _ (Nat.le_refl _),if_pos (by omega),show dU n 3 s+k-q.2=k by omega]
        ·rw[s5]
         exact v2 _ (aK (by omega))
        ·rw[wT]
         exact B k (by omega)
       ·exact(rv (R:=n.aP) (s:=(s:Nat)) (by rw[hc];omega) (show i'<i by omega) (by omega) OJ ht).elim
     ·have eS:zG n sig (s:Nat) (jl n sig (s:Nat) st i) i=jl n sig (s:Nat) st i:=by unfold zG;rw[if_neg ht]
      rw[eS] at OI⊢
      obtain⟨a1,a2,a3,a4⟩:=ih (by omega) OI
      refine⟨a1,a2,a3,fun i' HC OJ=>a4 i' ?_ OJ⟩
      by_cases ME:i'=i
      ·subst ME;exact absurd OJ ht
      ·omega
   obtain⟨a1,a2,a3,a4⟩:=key n.aP.length (Nat.le_refl _) hb
   refine⟨a1,a2,fun s' Lu vU i hi ht=> ?_⟩
   by_cases hss:s'=s
   ·subst hss;exact a4 i hi ht
   ·exact a3 s' (by omega) vU i hi ht
  ·have e:fX n sig s0 (s+1)=fX n sig s0 s:=by rw[fX,if_neg hk]
   rw[e] at hb⊢
   obtain⟨a1,a2,a3⟩:=yy h0 hU0 hR0 s (by omega) hb
   refine⟨a1,a2,fun s' Lu vU i hi ht=>a3 s' ?_ vU i hi ht⟩
   by_cases hss:s'=s
   ·subst hss;exact absurd vU hk
   ·omega
end
end Go.Xw
end
section
namespace Go.Xw
open Go.Proofs
set_option maxHeartbeats 1000000
theorem kS {n:ao}(h:aj n){i:Nat}(hi:i<n.af.length)(hK:(aC n).getD (bE n+i) default=true):(aC n).getD (kA n i) default=true/\(aC n).getD (kB n i) default=true:=by
 have hn:=h.ei
 have O8:=hn.n1
 have ka:=hn.ka i hi
 have kb:=hn.kb i hi
 have hr:ow n (bE n+i):=(jU (by omega)).1 hK
 refine⟨(jU (by omega)).2 ?_,(jU (by omega)).2 ?_⟩
 ·obtain⟨x,hx,hc⟩:=hr
  exact⟨x,hx,hc.trans (.left hi (.refl _))⟩
 ·obtain⟨x,hx,hc⟩:=hr
  exact⟨x,hx,hc.trans (.right hi (.refl _))⟩
theorem yA {n:ao}(h:aj n){x:Int}(hx:x∈bc n):(aC n).getD (x/2).toNat default=true:=by
 have bD:=(h.root x hx).nat h.ei
 refine(jU bD).2 ?_
 obtain⟨i,hi,rfl⟩:=List.getElem_of_mem hx
 exact⟨i,hi,by rw[List.getD_eq_getElem?_getD,List.getElem?_eq_getElem hi];exact .refl _⟩
theorem Ia {n:ao}(h:aj n)(ins:List Int):pZ (gE n) ins=pZ n ins:=by
 refine GK h fun st ck hs x hx=> ?_
 have hB:=nF h (aC n) _ (Nat.le_refl _)
 have hl:=ko n (aC n) n.af.length
 have hn:=h.ei
 have O8:=hn.n1
 have f1:=hB.f1
 have f2:=hB.cy
 have bD:=(h.root x hx).nat hn
 have hsw:aj (jI n (a9 n (aC n) n.af.length).1 (a9 n (aC n) n.af.length).2):=Ap h
 refine mn (oC _ _ _) (oC _ _ _) (k:=aB n+(a9 n (aC n) n.af.length).1.length) (by omega) (hB.tok _ (by omega)) ?_
 rw[Ds hsw hs,tX h hs]
 exact JL h (fun i hi hK=>⟨.inr (kS h hi hK).1,.inr (kS h hi hK).2⟩) (rq h hs ck) (yc _ _ _) n.af.length (Nat.le_refl _) _ (by omega) (.inr (yA h hx))
theorem Kj {n:ao}(h:aj n)(ins:List Int):pZ (tV n) ins=pZ n ins:=by
 unfold tV
 rw[Ia (rk h),JK h]
def nl (V:List Int)(l:Int):Int:=V.getD (l/2).toNat default
def R6 (V:List Int):Prop:=∀j,0<=V.getD j default
theorem R6.snoc {V:List Int}(h:R6 V){z:Int}(hz:0<=z):R6 (V++[z]):=fun j=>by
 by_cases h1:j<V.length
 ·rw[dd h1];exact h j
 ·by_cases h2:j=V.length
  ·subst h2;rw[eh];exact hz
  ·rw[List.getD_eq_getElem?_getD,List.getElem?_eq_none (by simp;omega)];exact Int.le_refl _
theorem AF (n:ao)(A:List (Int×Int))(to:List Int):bc (jI n A to)=(bc n).map (a8 to):=by
 rw[jV,jV]
 unfold jI dZ
 simp only[List.map_append,List.flatMap_map,List.map_flatMap]
end Go.Xw
end
section
namespace Go.Xw
open Go.Proofs
set_option maxHeartbeats 1000000
theorem yB (sig:List (List Int))(x:yf)(N:ao)(q:Nat):∀k,(l7 sig x N q k).au.length=N.au.length
 |0=>rfl
 |k+1=>by rw[l7,(jY _ _ _).1,yB sig x N q k]
theorem yC {sig:List (List Int)}{x:yf}{N:ao}{q w:Nat}(hq:q+w<=N.au.length):∀k,k<=w->∀p,sZ (l7 sig x N q k) p=if q<=p/\p<q+k then p7 sig x (p-q) else sZ N p
 |0,_,p=>by rw[if_neg (by omega)];rfl
 |k+1,hk,p=>by
  rw[l7,DO (by rw[yB];omega),yC hq k (by omega) p]
  by_cases hp:p=q+k
  ·rw[if_pos hp,if_pos (by omega),show p-q=k by omega]
  ·rw[if_neg hp]
   by_cases h2:q<=p/\p<q+k
   ·rw[if_pos h2,if_pos (by omega)]
   ·rw[if_neg h2,if_neg (by omega)]
theorem yD (sig:List (List Int))(x:yf)(N:ao)(q:Nat):∀k,(l7 sig x N q k).af=N.af
 |0=>rfl
 |k+1=>yD sig x N q k
theorem yE (n:aQ)(sig:List (List Int))(N:ao)(q:Nat):∀j,(dj n sig N q j).1.af=N.af
 |0=>rfl
 |j+1=>by rw[dj];exact(yD _ _ _ _ _).trans (yE n sig N q j)
theorem DQ (n:aQ)(sig:List (List Int))(N:ao)(q:Nat):∀j,(dj n sig N q j).1.au.length=N.au.length
 |0=>rfl
 |j+1=>by rw[dj];exact(yB _ _ _ _ _).trans (DQ n sig N q j)
theorem wU {n:aQ}(hm:aV n){j:Nat}(hj:j<n.ms.length):ja n (j+1)=ja n j+wN n (fa n j:Nat):=by rw[ja,(jB hm hj).2.1]
theorem DR {n:aQ}(hm:aV n){sig:List (List Int)}{N:ao}{q:Nat}(hq:q+ja n n.ms.length<=N.au.length):∀j,j<=n.ms.length->(dj n sig N q j).2=q+ja n j/\(∀p,p<q->sZ (dj n sig N q j).1 p=sZ N p)/\∀j',j'<j->∀k,k<wN n (fa n j':Nat)->sZ (dj n sig N q j).1 (q+ja n j'+k)=p7 sig (n.ms.getD j' default) k
 |0,_=>⟨rfl,fun p hp=>rfl,fun j' MV=>absurd MV (Nat.not_lt_zero _)⟩
 |j+1,hj=>by
  obtain⟨h1,h2,h3⟩:=DR (sig:=sig) hm hq j (by omega)
  have ho:=(jB hm (j:=j) (by omega)).2.1
  have hw:=wU hm (j:=j) (by omega)
  have OE:=lD n (i:=j+1) (j:=n.ms.length) (by omega)
  rw[dj]
  dsimp only
  rw[<-ho]
  have hl:(dj n sig N q j).2+wN n (fa n j:Nat)<=(dj n sig N q j).1.au.length:=by rw[DQ];omega
  refine⟨by rw[h1,hw,Nat.add_assoc],fun p hp=> ?_,fun j' MV k hk=> ?_⟩
  ·rw[yC hl _ (Nat.le_refl _),if_neg (by omega)]
   exact h2 p hp
  ·rw[yC hl _ (Nat.le_refl _)]
   by_cases MW:j'=j
   ·subst MW
    rw[if_pos (by omega),show q+ja n j'+k-(dj n sig N q j').2=k by omega]
   ·have vv:=wU hm (j:=j') (by omega)
    have hmo':=lD n (i:=j'+1) (j:=j) (by omega)
    rw[if_neg (by omega)]
    exact h3 j' (by omega) k hk
def iJ (N:ao):List fR:=N.au.map nG
theorem yF (N:ao)(q:Nat)(l:List Int):iJ (lE N q l)=iJ N:=by
 unfold iJ
 refine lY (by rw[List.length_map,List.length_map,(jY N q l).1]) fun p hp=> ?_
 rw[List.length_map,(jY N q l).1] at hp
 rw[tY nG (by rw[(jY N q l).1];exact hp),tY nG hp]
 obtain⟨h1,h2⟩:=(jY N q l).2 p
 unfold nG
 rw[h1,h2]
theorem yH (N:ao)(q:Nat)(bits:List Int):∀k,iJ (jh N q bits k)=iJ N
 |0=>rfl
 |k+1=>by rw[jh,yF,yH N q bits k]
theorem yI (sig:List (List Int))(x:yf)(N:ao)(q:Nat):∀k,iJ (l7 sig x N q k)=iJ N
 |0=>rfl
 |k+1=>by rw[l7,yF,yI sig x N q k]
theorem yJ (n:aQ)(sig:List (List Int))(N:ao)(q:Nat):∀j,iJ (dj n sig N q j).1=iJ N
 |0=>rfl
 |j+1=>by rw[dj];exact(yI _ _ _ _ _).trans (yJ n sig N q j)
theorem AG {n:aQ}(hm:aV n){sig:List (List Int)}{s0:ao×Bool}(h0:oM n sig s0.1 0):∀s:Nat,s<=n.sg.length->iJ (fX n sig s0 s).1.1=iJ s0.1
 |0,_=>rfl
 |s+1,hs=>by
  have ih:=AG hm h0 s (by omega)
  obtain⟨AE,zw,_⟩:=qN hm h0 s (by omega)
  rw[fX]
  by_cases hk:aY n (s:Nat)=3
  ·rw[if_pos hk]
   have key:∀i,i<=n.aP.length->iJ (jl n sig (s:Nat) (fX n sig s0 s) i).1.1=iJ (fX n sig s0 s).1.1:=fun i=>by
    induction i with
    |zero=>exact fun _=>rfl
    |succ i ihi=>
     intro hi
     have vT:=(nZ hm (show s<n.sg.length by omega) hk AE zw i (by omega)).1
     rw[jl]
     unfold zG
     split
     ·show iJ (jh _ _ _ _)=_
      rw[yH]
      have e3:=(vT.ev (wN n (s:Nat)) (cU n i)).2.2.1
      unfold iJ at ihi⊢
      rw[e3];exact ihi (by omega)
     ·exact ihi (by omega)
   rw[key _ (Nat.le_refl _),ih]
  ·rw[if_neg hk];exact ih
theorem DS {N M:ao}(h:iJ N=iJ M):fU N=fU M:=by
 have e:∀X:ao,fU X=(iJ X).map fR.init:=fun X=>by
  unfold fU iJ
  rw[List.map_map];rfl
 rw[e,e,h]
theorem yK {f:List Int}(n:aQ):∀i:Nat,∀s:Nat,s<i->aY n (s:Nat)=3->∀k,k<wN n (s:Nat)->((px f n i).getD (dU n 3 s+k) default).init=iy n (s:Nat)/2^k%2
 |0,s,hs,_,_,_=>absurd hs (Nat.not_lt_zero _)
 |i+1,s,hs,vU,k,hk=>by
  have hl:=l6 f n i
  rw[px]
  by_cases V3:aY n (i:Nat)=3
  ·rw[if_pos V3]
   by_cases Cy:s=i
   ·subst Cy
    rw[List.getD_eq_getElem?_getD,List.getElem?_append_right (by omega),hl,show dU n 3 s+k-dU n 3 s=k by omega]
    simp[gR,hk]
   ·have h6:=lC n 3 (i:=s+1) (j:=i) (by omega)
    rw[oP n 3 vU] at h6
    rw[List.getD_eq_getElem?_getD,List.getElem?_append_left (by omega),<-List.getD_eq_getElem?_getD]
    exact yK n i s (by omega) vU k hk
  ·rw[if_neg V3]
   refine yK n i s ?_ vU k hk
   by_cases Cy:s=i
   ·subst Cy;exact absurd vU V3
   ·omega
theorem G9 {f r:List Int}(n:aQ):∀j p,p<dU n 3 n.sg.length->(ni f r n j).getD p default=(px f n n.sg.length).getD p default
 |0,p,hp=>rfl
 |j+1,p,hp=>by
  have hl:=jA f r n j
  rw[ni,List.getD_eq_getElem?_getD,List.getElem?_append_left (by omega),<-List.getD_eq_getElem?_getD]
  exact G9 n j p hp
def uf (n:aQ)(k:Int)(v:List Int):Nat->List Int
 |0=>[]
 |i+1=>if aY n (i:Nat)=k then uf n k v i++[v.getD i default] else uf n k v i
noncomputable def zx (n:aQ)(v:List Int):Nat->List Int
 |0=>List.replicate n.sg.length 0
 |i+1=>if aY n (dT n i)=3 then(zx n v i).set (dT n i).toNat (lu v (wN n (dT n i)) (cU n i)) else zx n v i
def CA (n:aQ)(v:List Int)(j:Nat):Nat:=(v.getD (n.ms.getD j default).addr.toNat default).toNat
noncomputable def pA (n:aQ)(v w:List Int):Nat->List Int×List Int
 |0=>(zx n v n.aP.length,w)
 |j+1=>((pA n v w j).1.set (fa n j) (w.getD (4*j+CA n v j) default),if v.getD (n.ms.getD j default).write.toNat default=1 then(pA n v w j).2.set (4*j+CA n v j) (v.getD (n.ms.getD j default).data.toNat default) else(pA n v w j).2)
theorem rH (n:aQ)(k:Int)(v:List Int):∀i,i<=n.sg.length->(uf n k v i).length=nK n k i
 |0,_=>by simp[uf,nK,pR]
 |i+1,hi=>by
  rw[uf,G6 (by omega)]
  split
  ·rw[List.length_append,rH n k v i (by omega)];rfl
  ·exact rH n k v i (by omega)
theorem vk {xs A:List Int}:∀m,m<=xs.length->dV (xs++A) m=dV xs m
 |0,_=>rfl
 |m+1,h=>by rw[dV,dV,vk m (by omega),du (by omega)]
theorem G' {xs ys A B:List Int}:∀m,m<=xs.length->m<=ys.length->pk (xs++A) (ys++B) m=pk xs ys m
 |0,_,_=>rfl
 |m+1,h,g=>by rw[pk,pk,G' m (by omega) (by omega),du (by omega),du (by omega),vk m (by omega)]
theorem yL (V A B:List Int):∀k,k<=B.length->e7 V (A++B) (A.length+k)=e7 V A A.length+e7 V B k*2^A.length
 |0,_=>by
  rw[Nat.add_zero]
  have:∀m,m<=A.length->e7 V (A++B) m=e7 V A m:=fun m=>by
   induction m with
   |zero=>exact fun _=>rfl
   |succ m ih=>exact fun h=>by rw[e7,e7,ih (by omega),du (by omega)]
  rw[this _ (Nat.le_refl _)]
  simp[e7]
 |k+1,h=>by
  rw[show A.length+(k+1)=A.length+k+1 by omega,e7,yL V A B k (by omega),e7,kN,Int.add_mul,Int.pow_add,Int.add_assoc,Int.mul_assoc,Int.mul_comm (2^A.length) (2^k)]
theorem MX (a:Int)(k:Nat):a%2^(k+1)=a%2^k+(if tb a k then 1 else 0)*2^k:=by
 have p2:=wB k
 have e:(2:Int)^(k+1)=2^k*2:=Int.pow_succ _ _
 unfold tb
 rw[e]
 obtain⟨K,hK⟩:∃K:Int,K=2^k:=⟨_,rfl⟩
 rw[<-hK] at p2⊢
 have h1:=Int.emod_def a (K*2)
 have h2:=Int.emod_def a K
 have h4:a/(K*2)=a/K/2:=by rw[Int.ediv_ediv_of_nonneg (by omega)]
 rw[h1,h2,h4]
 have h5:a/K=2*(a/K/2)+a/K%2:=(Int.mul_ediv_add_emod _ _).symm
 have h6:a/K%2=0\/a/K%2=1:=by omega
 obtain⟨D,hD⟩:∃D,D=a/K/2:=⟨_,rfl⟩
 rw[<-hD] at h5⊢
 have e3:K*2*D=K*(2*D):=Int.mul_assoc _ _ _
 rcases h6 with h6|h6
 ·rw[h6] at h5⊢
  rw[h5,e3,Int.add_zero];simp
 ·rw[h6] at h5⊢
  rw[h5,e3,Int.mul_add,Int.mul_one];simp
  omega
theorem B5 {U:List Int}{n:ao}(h1:dp U)(z:Int):a8 (cu U n.af) z=if vB U n z then 1 else 0:=by
 have:=iT (gn n.af h1) z
 unfold vB
 unfold nr at this
 rcases this with h|h<;>rw[h]<;>simp
theorem DT {U:List Int}{n:ao}(h1:dp U){ls:List Int}{a:Int}(h:iG U n ls (tb a)):∀k,k<=ls.length->e7 (cu U n.af) ls k=a%2^k
 |0,_=>by simp[e7,Int.emod_one]
 |k+1,hk=>by rw[e7,DT h1 h k (by omega),MX,B5 h1,h k (by omega)]
theorem Ib {U:List Int}{n:ao}(h1:dp U){ls:List Int}{a:Int}(h:iG U n ls (tb a))(ha:Cv ls.length a):lp (cu U n.af) ls=a:=by
 unfold lp
 rw[DT h1 h _ (Nat.le_refl _),Int.emod_eq_of_lt ha.1 ha.2]
def bI (b:Bool):Int:=if b then 1 else 0
theorem MY:∀v:Fin 32,∀a0 a1 d e:Bool,(0<=iw v.val (bI a0+bI a1*2+bI d*4+bI e*8)/\iw v.val (bI a0+bI a1*2+bI d*4+bI e*8)<=31)/\tb (iw v.val (bI a0+bI a1*2+bI d*4+bI e*8)) 0=tb v.val (1+(bI a0+bI a1*2).toNat)/\∀c:Fin 4,tb (iw v.val (bI a0+bI a1*2+bI d*4+bI e*8)) (1+c.val)=if(e&&decide (c.val=(bI a0+bI a1*2).toNat)) then d else tb v.val (1+c.val):=by
 decide+kernel
theorem Kk:∀a:Fin 4,bI (tb a.val 0)+bI (tb a.val 1)*2=a.val:=by decide+kernel
theorem MZ:∀a:Fin 2,tb a.val 0=decide (a.val=1):=by decide+kernel
end Go.Xw
end
