/- Texts that belong together; each under its stated conditions. -/
import Derived.Test.YtiepmliokblkjaaGreatEvSt3
set_option linter.all false
section
namespace Go.Xw
open Go.Proofs
set_option maxHeartbeats 1000000
theorem rS.bits {U:List Int}{n:ao}{sig:List (List Int)}{x:List Int}(h:rS U n sig x){s:Nat}(hs:s<sig.length)(hl:(sig.getD s default).length<=4):iG U n (sig.getD s default) (tb (x.getD s default)):=fun k hk=>h.bit s hs k (by omega)
theorem Hg {n:aQ}(hm:aV n)(hf:cg n){sig:List (List Int)}{U x:List Int}{M:ao}(hF:yr n sig)(sY:sig.length=n.sg.length)(h1:dp U)(hR:rS U M sig x)(hx:qO n x):∀i:Nat,i<=n.sg.length->e7 (cq U M.af) (iW n sig i) (iW n sig i).length=pk (pR (n.sg.take i) 1) (uf n 1 x i) (uf n 1 x i).length
 |0,_=>rfl
 |i+1,hi=>by
  have ih:=Hg hm hf hF sY h1 hR hx i (by omega)
  have hwb:=nY hm hf (s:=(i:Nat)) (by unfold dr;omega)
  have IV:=oL hm (s:=(i:Nat)) (by unfold dr;omega)
  by_cases hk:aY n (i:Nat)=1
  ·have e1:iW n sig (i+1)=iW n sig i++sig.getD i default:=by rw[iW,if_pos hk]
   have e2:uf n 1 x (i+1)=uf n 1 x i++[x.getD i default]:=by rw[uf,if_pos hk]
   have e3:pR (n.sg.take (i+1)) 1=pR (n.sg.take i) 1++[(n.sg.getD i default).width]:=by rw[dm (by omega),ry (by rw[<-bG];exact hk)]
   have sD:=rH n 1 x i (by omega)
   have sD:(uf n 1 x i).length=(pR (n.sg.take i) 1).length:=sD
   have CI:=hF i (by omega)
   have hB:=hR.bits (s:=i) (by omega) (by omega)
   have OQ:=Ij h1 hB (by rw[CI];exact hx.AB i (by omega))
   unfold lp at OQ
   have TO:dV (pR (n.sg.take i) 1) (pR (n.sg.take i) 1).length=((dU n 1 i:Nat):Int):=by
    rw[rG _ _ (Nat.le_refl _),List.take_length,BS hm 1 i (by omega)]
   rw[e1,e2,e3,List.length_append,yL _ _ _ _ (Nat.le_refl _),ih,OQ,List.length_append,List.length_singleton,pk,Hf _ (by omega) (Nat.le_refl _),eh,sD,eh,vk _ (Nat.le_refl _),TO,oO hF i (by omega),Int.toNat_natCast]
   congr 2
   have hr:=hx.AB i (by omega)
   rw[<-pv,<-IV,Int.toNat_natCast,Int.emod_eq_of_lt hr.1 hr.2]
  ·have e1:iW n sig (i+1)=iW n sig i:=by rw[iW,if_neg hk]
   have e2:uf n 1 x (i+1)=uf n 1 x i:=by rw[uf,if_neg hk]
   have e3:pR (n.sg.take (i+1)) 1=pR (n.sg.take i) 1:=by rw[dm (by omega),yl (by rw[<-bG];exact hk)]
   rw[e1,e2,e3];exact ih
section
variable {n:aQ} (hm:aV n) (hf:cg n)
include hm hf
theorem Fy {i:Nat}(hi:i<n.aP.length):(dT n i).toNat<n.sg.length/\(((dT n i).toNat:Nat):Int)=dT n i:=by
 have h:=(gg hm hf hi).2.2.1
 unfold dr at h
 omega
theorem ug (v:List Int):∀i,i<=n.aP.length->qO n (zD n v i)
 |0,_=>⟨by simp[zD],fun s hs=>by
  have:=wB (wN n (s:Nat))
  have e:(zD n v 0).getD s default=0:=by simp[zD,List.getD_eq_getElem?_getD,hs]
  rw[e];exact⟨Int.le_refl _,this⟩⟩
 |i+1,hi=>by
  have ih:=ug v i (by omega)
  obtain⟨t1,t2⟩:=Fy hm hf (i:=i) (by omega)
  have hw:=nY hm hf (gg hm hf (i:=i) (by omega)).2.2.1
  rw[zD]
  split
  ·refine⟨by rw[List.length_set];exact ih.len,fun s hs=> ?_⟩
   rw[cF (by rw[ih.len];omega)]
   by_cases jq:s=(dT n i).toNat
   ·rw[if_pos jq,jq,t2];exact jJ hw _ _
   ·rw[if_neg jq];exact ih.AB s hs
  ·exact ih
theorem Kr {v:List Int}{s:Nat}(hs:s<n.sg.length)(hk:aY n (s:Nat)=3):∀m,m<=n.aP.length->∀i,i<m->dT n i=(s:Nat)->(zD n v m).getD s default=lu v (wN n (s:Nat)) (cU n i)
 |0,_,i,hi,_=>absurd hi (Nat.not_lt_zero _)
 |m+1,wj,i,hi,ht=>by
  obtain⟨t1,t2⟩:=Fy hm hf (i:=m) (by omega)
  have hl:=(ug hm hf v m (by omega)).len
  rw[zD]
  by_cases H0:i=m
  ·subst H0
   rw[if_pos (by rw[ht];exact hk),cF (by rw[hl];exact t1),if_pos (by omega),ht]
  ·have hc:=oN hm hs hk
   have fD:dT n m≠(s:Nat):=fun h=>rv (R:=n.aP) (s:=(s:Nat)) (by rw[hc];omega) (show i<m by omega) (by omega) ht h
   have ih:=Kr (v:=v) hs hk m (by omega) i (by omega) ht
   split
   ·rw[cF (by rw[hl];exact t1),if_neg (by omega)];exact ih
   ·exact ih
theorem Cc {v:List Int}{s:Nat}(hs:s<n.sg.length)(hk:aY n (s:Nat)≠3):∀m,m<=n.aP.length->(zD n v m).getD s default=0
 |0,_=>by simp[zD,List.getD_eq_getElem?_getD,hs]
 |m+1,wj=>by
  obtain⟨t1,t2⟩:=Fy hm hf (i:=m) (by omega)
  have hl:=(ug hm hf v m (by omega)).len
  rw[zD]
  split
  ·rename_i h3
   rw[cF (by rw[hl];exact t1),if_neg (fun he=>hk (by rw[he,t2];exact h3))]
   exact Cc hs hk m (by omega)
  ·exact Cc hs hk m (by omega)
omit hm hf in
theorem yM {j:Nat}(hm:aV n)(hf:cg n)(hj:j<n.ms.length):
  ((n.ms.getD j default).addr.toNat<n.sg.length/\wN n ((n.ms.getD j default).addr.toNat:Nat)=2)/\((n.ms.getD j default).write.toNat<n.sg.length/\wN n ((n.ms.getD j default).write.toNat:Nat)=1)/\((n.ms.getD j default).data.toNat<n.sg.length/\wN n ((n.ms.getD j default).data.toNat:Nat)=wN n (fa n j:Nat)):=by
 obtain⟨h1,h2,h3,h4⟩:=hm.ms j hj
 obtain⟨w1,w2,w3,_⟩:=G5 hm hf hj
 have ho:=(jB hm hj).2.1
 unfold dr at h1 h2 h3
 refine⟨⟨by omega,?_⟩,⟨by omega,?_⟩,by omega,?_⟩
 ·rw[show(((n.ms.getD j default).addr.toNat:Nat):Int)=(n.ms.getD j default).addr by omega];exact w1
 ·rw[show(((n.ms.getD j default).write.toNat:Nat):Int)=(n.ms.getD j default).write by omega];exact w2
 ·rw[show(((n.ms.getD j default).data.toNat:Nat):Int)=(n.ms.getD j default).data by omega,ho];exact w3
theorem Fz {v:List Int}(hv:qO n v){j:Nat}(hj:j<n.ms.length):CH n v j<4/\((CH n v j:Nat):Int)=v.getD (n.ms.getD j default).addr.toNat default:=by
 obtain⟨⟨h1,h2⟩,_⟩:=yM hm hf hj
 have h:=hv.AB _ h1
 rw[h2] at h
 obtain⟨g1,g2⟩:=h
 have g2:v.getD (n.ms.getD j default).addr.toNat default<4:=g2
 unfold CH
 omega
structure NvP (n:aQ)(v w:List Int)(j:Nat):Prop where
 val:qO n (pA n v w j).1
 len:(pA n v w j).2.length=w.length
 out:∀s,s<n.sg.length->(∀j',j'<j->fa n j'=s->(pA n v w j).1.getD s default=w.getD (4*j'+CH n v j') default)/\((∀j',j'<j->fa n j'≠s)->(pA n v w j).1.getD s default=(zD n v n.aP.length).getD s default)
 mem:∀j',j'<n.ms.length->∀a,a<4->(pA n v w j).2.getD (4*j'+a) default=if j'<j/\v.getD (n.ms.getD j' default).write.toNat default=1/\a=CH n v j' then v.getD (n.ms.getD j' default).data.toNat default else w.getD (4*j'+a) default
theorem Cd {v w:List Int}(hv:qO n v)(Sd:w.length=4*n.ms.length)(hw:∀j,j<n.ms.length->∀a,a<4->CB (wN n (fa n j:Nat)) (w.getD (4*j+a) default)):∀j,j<=n.ms.length->NvP n v w j
 |0,_=>⟨ug hm hf v _ (Nat.le_refl _),rfl,fun s hs=>⟨fun j' M1=>absurd M1 (Nat.not_lt_zero _),fun _=>rfl⟩,fun j' M1 a ha=>by rw[if_neg (by omega)];rfl⟩
 |j+1,hj=>by
  have ih:=Cd hv Sd hw j (by omega)
  obtain⟨o1,o2,_⟩:=jB hm (j:=j) (by omega)
  obtain⟨a1,a2⟩:=Fz hm hf hv (j:=j) (by omega)
  have e1:(pA n v w (j+1)).1=(pA n v w j).1.set (fa n j) (w.getD (4*j+CH n v j) default):=rfl
  have e2:(pA n v w (j+1)).2=if v.getD (n.ms.getD j default).write.toNat default=1 then(pA n v w j).2.set (4*j+CH n v j) (v.getD (n.ms.getD j default).data.toNat default) else(pA n v w j).2:=rfl
  refine⟨⟨by rw[e1,List.length_set];exact ih.val.len,fun s hs=> ?_⟩,?_,fun s hs=>⟨fun j' M1 ho=> ?_,fun gM=> ?_⟩,fun j' M1 a ha=> ?_⟩
  ·rw[e1,cF (by rw[ih.val.len];exact o1)]
   by_cases nj:s=fa n j
   ·rw[if_pos nj,nj];exact hw j (by omega) _ a1
   ·rw[if_neg nj];exact ih.val.AB s hs
  ·rw[e2]
   split
   ·rw[List.length_set];exact ih.len
   ·exact ih.len
  ·rw[e1,cF (by rw[ih.val.len];exact o1)]
   by_cases M3:j'=j
   ·subst M3
    rw[if_pos ho.symm]
   ·rw[if_neg (fun he=>vg hm (show j'<j by omega) (by omega) (by rw[ho,he]))]
    exact(ih.out s hs).1 j' (by omega) ho
  ·rw[e1,cF (by rw[ih.val.len];exact o1),if_neg (fun he=>gM j (by omega) he.symm)]
   exact(ih.out s hs).2 fun j' M1=>gM j' (by omega)
  ·rw[e2]
   have hm4:=ih.mem j' M1 a ha
   by_cases D0:v.getD (n.ms.getD j default).write.toNat default=1
   ·rw[if_pos D0,cF (by rw[ih.len,Sd];omega)]
    by_cases hp:4*j'+a=4*j+CH n v j
    ·have M3:j'=j:=by omega
     subst M3
     rw[if_pos hp,if_pos ⟨by omega,D0,by omega⟩]
    ·rw[if_neg hp,hm4]
     by_cases hc:j'<j/\v.getD (n.ms.getD j' default).write.toNat default=1/\a=CH n v j'
     ·rw[if_pos hc,if_pos ⟨by omega,hc.2⟩]
     ·rw[if_neg hc,if_neg (fun h=>hc ⟨by
       by_cases M3:j'=j
       ·subst M3;exact absurd (by rw[h.2.2]) hp
       ·omega,h.2⟩)]
   ·rw[if_neg D0,hm4]
    by_cases hc:j'<j/\v.getD (n.ms.getD j' default).write.toNat default=1/\a=CH n v j'
    ·rw[if_pos hc,if_pos ⟨by omega,hc.2⟩]
    ·rw[if_neg hc,if_neg (fun h=>hc ⟨by
      by_cases M3:j'=j
      ·subst M3;exact absurd h.2.1 D0
      ·omega,h.2⟩)]
end
theorem Ks {v:Int}(h0:0<=v/\v<=31)(a0 a1 d e:Bool):(0<=iw v (bI a0+bI a1*2+bI d*4+bI e*8)/\iw v (bI a0+bI a1*2+bI d*4+bI e*8)<=31)/\tb (iw v (bI a0+bI a1*2+bI d*4+bI e*8)) 0=tb v (1+(bI a0+bI a1*2).toNat)/\∀c,c<4->tb (iw v (bI a0+bI a1*2+bI d*4+bI e*8)) (1+c)=if(e&&decide (c=(bI a0+bI a1*2).toNat)) then d else tb v (1+c):=by
 have h:=M5 ⟨v.toNat,by omega⟩ a0 a1 d e
 obtain⟨v',rfl⟩:=Int.eq_ofNat_of_zero_le h0.1
 simp only[Int.toNat_natCast] at h
 exact⟨h.1,h.2.1,fun c hc=>h.2.2 ⟨c,hc⟩⟩
theorem M7 {a:Int}(h:CB 2 a):(bI (tb a 0)+bI (tb a 1)*2).toNat=a.toNat:=by
 obtain⟨h1,h2⟩:=h
 have h2:a<4:=h2
 have g:=Kq ⟨a.toNat,by omega⟩
 obtain⟨a',rfl⟩:=Int.eq_ofNat_of_zero_le h1
 simp only[Int.toNat_natCast] at g
 rw[g]
theorem Wa {a:Int}(h:CB 1 a):tb a 0=decide (a=1):=by
 obtain⟨h1,h2⟩:=h
 have h2:a<2:=h2
 have g:=M6 ⟨a.toNat,by omega⟩
 obtain⟨a',rfl⟩:=Int.eq_ofNat_of_zero_le h1
 simp only[Int.toNat_natCast] at g
 rw[g]
 exact decide_eq_decide.2 (by omega)
theorem Wb {l:List Int}{k:Nat}:l.getD k default=g8 l k:=rfl
theorem OR {n:aQ}(hf:cg n){l:List Nat}(he:gQ n=some l)(hb:(dN n l).1.2=false){v w st:List Int}(h:V6 n v w st){ins:List Int}{cj:Int}
  (Sa:∀s:Nat,s<n.sg.length->aY n (s:Nat)=0->∀k,k<wN n (s:Nat)->tb cj (dU n 0 s+k)=tb (ins.getD (nK n 0 s) default%2^wN n (s:Nat)) k):
  Fl (zB n l) st cj=pk (ee n 1) (uf n 1 (B6 n l v ins) n.sg.length) (ee n 1).length/\V6 n (pA n (B6 n l v ins) w n.ms.length).1 (pA n (B6 n l v ins) w n.ms.length).2 (mP (zB n l) st cj):=by
 have hm:=(dH hf).2
 obtain⟨_,je,_⟩:=iU he
 have hl:∀i,i∈l->i<n.aP.length:=fun i hi=>(je i hi).1
 have hN:=vd hf he
 obtain⟨FA,yN⟩:=pz hf he
 obtain⟨Xe,JE,hR3⟩:=Fw hf he
 obtain⟨Td,hM2⟩:=Fx hf he
 have hx:=B7 hm hf hl h.val ins
 obtain⟨x,IW⟩:∃x,x=B6 n l v ins:=⟨_,rfl⟩
 rw[<-IW] at hx⊢
 obtain⟨hU,Q0⟩:=Ig hm hf hN Td.cj Td.len h Sa
 obtain⟨U,hUe⟩:∃U,U=kp (zB n l) st cj:=⟨_,rfl⟩
 rw[<-hUe] at hU Q0
 have hbO:(bO n l).1.2=false:=by
  cases hc:(bO n l).1.2 with
  |false=>rfl
  |true=>rw[hR3 hc] at hb;exact hb
 obtain⟨u1,Q1⟩:=Hd hm hf hl hU (wS h.val ins) Q0 l.length (Nat.le_refl _) hbO
 have Q1:rS U (bO n l).1.1 (bO n l).2 x:=by rw[IW];exact Q1
 have jq:=oM.start FA
 obtain⟨u2,Q2,F2⟩:=yy hm hf jq u1 Q1 n.sg.length (Nat.le_refl _) hb
 have sY:(bO n l).2.length=n.sg.length:=FA.sig.len
 have Li:=u2.MD
 have hand:(zB n l).af=(dN n l).1.1.af:=yE _ _ _ _ _
 have hV:gC (zB n l) st cj=cq U (dN n l).1.1.af:=by
  rw[tX hN (by rw[h.fE];exact Td.len.symm),<-hUe,hand]
 obtain⟨R,Te⟩:∃R,R=(dN n l).1.1:=⟨_,rfl⟩
 obtain⟨sig,Wc⟩:∃sig,sig=(bO n l).2:=⟨_,rfl⟩
 have Q2:rS U R sig x:=by rw[Te,Wc];exact Q2
 have F2:Ca n U x R n.sg.length:=by rw[Te];exact F2
 have u2:fe U R:=by rw[Te];exact u2
 rw[<-Te] at hV
 rw[<-Wc] at yN sY
 have Wd:(zB n l).au.length=dU n 3 n.sg.length+ja n n.ms.length:=Td.len
 have We:∀s,s<n.sg.length->∀k,k<4->a8 (cq U R.af) ((sig.getD s default).getD k default)=bI (tb (x.getD s default) k):=fun s hs k hk=>by
  rw[Cb Li,Wb,Q2.bit s (by omega) k hk];rfl
 have FB:(mP (zB n l) st cj).length=dU n 3 n.sg.length+ja n n.ms.length:=by
  show(jH _ _ _ _).length=_
  rw[fJ,Wd]
 have RF:∀p,p<dU n 3 n.sg.length+ja n n.ms.length->(mP (zB n l) st cj).getD p default=gf (if p<dU n 3 n.sg.length then 0 else 1) (st.getD p default) (lp (cq U R.af) (sZ (G6 n l).1 p)):=fun p hp=>by
  show(jH _ _ _ _).getD p default=_
  rw[mQ _ _ _ (by rw[Wd];exact hp)]
  unfold uW
  rw[hV,show((zB n l).au.getD p default).kind=_ from Td.kind p (by rw[Td.len];exact hp)]
  rfl
 have hq:(dN n l).2+ja n n.ms.length<=(dN n l).1.1.au.length:=by rw[Xe.len,JE];omega
 obtain⟨m1,m2,m3⟩:=DX (sig:=(bO n l).2) hm hq n.ms.length (Nat.le_refl _)
 have s7:=Cd hm hf hx h.B8 h.ON n.ms.length (Nat.le_refl _)
 refine⟨?_,s7.val,by rw[s7.len];exact h.B8,fun j hj a ha=> ?_,fun s hs vU gM=> ?_,FB,fun s hs vU k hk=> ?_,fun j hj k hk=> ?_⟩
 ·have e:=Hg hm hf yN sY Li Q2 hx n.sg.length (Nat.le_refl _)
  rw[List.take_length,rH n 1 x _ (Nat.le_refl _)] at e
  unfold nK at e
  rw[List.take_length] at e
  show lp (gC (zB n l) st cj) (iW n (bO n l).2 n.sg.length)=_
  rw[hV,<-Wc]
  exact e
 ·rw[s7.mem j hj a ha]
  split
  ·have hd:=(yM hm hf hj).2.2
   rw[<-hd.2];exact hx.AB _ hd.1
  ·exact h.ON j hj a ha
 ·rw[(s7.out s hs).2 gM]
  exact Cc hm hf hs vU _ (Nat.le_refl _)
 ·have h5:=oP n 3 vU
  have h6:=lC n 3 (i:=s+1) (j:=n.sg.length) (by omega)
  have hc:=oN hm hs vU
  obtain⟨i,hi,Xm⟩:=BW (R:=n.aP) (s:=(s:Nat)) (i:=n.aP.length) (by omega)
  have Xm:dT n i=(s:Nat):=Xm
  obtain⟨z,z1,z2,z3⟩:=F2 s hs vU i hi Xm k hk
  have yO:sZ (G6 n l).1 (dU n 3 s+k)=[z]:=by
   have:=m2 (dU n 3 s+k) (by rw[JE];omega)
   rw[<-Te] at this
   rw[<-z1,<-this]
   unfold G6
   rw[<-Te]
  rw[RF _ (by omega),if_pos (by omega),yO,h.V7 s hs vU k hk,(s7.out s hs).2 (fun j hj ho=>by
   have:=(jB hm hj).2.2
   rw[ho] at this;omega),Kr hm hf hs vU _ (Nat.le_refl _) i hi Xm,<-z3]
  have e1:lp (cq U R.af) [z]=if vB U R z then 1 else 0:=by
   show 0+a8 (cq U R.af) z*2^0=_
   rw[Cb Li]
   cases vB U R z<;>rfl
  rw[e1]
  cases vB U R z<;>cases tb (v.getD s default) k<;>decide
 ·have ho:=jB hm hj
  have hmw:=wU hm hj
  have OK:=lD n (i:=j+1) (j:=n.ms.length) (by omega)
  obtain⟨⟨a1,a2⟩,⟨b1,b2⟩,d1,d2⟩:=yM hm hf hj
  have CG:=(nY hm hf (s:=(fa n j:Nat)) (by unfold dr;omega)).2
  obtain⟨g1,g2,g3⟩:=h.ram j hj k hk
  have yO:sZ (G6 n l).1 (dU n 3 n.sg.length+ja n j+k)=p7 sig (n.ms.getD j default) k:=by
   have:=m3 j hj k hk
   rw[JE,<-Wc] at this
   rw[<-this]
   unfold G6
   rw[JE,<-Wc]
  obtain⟨ma1,ma2⟩:=Fz hm hf hx hj
  have hA:=hx.AB _ a1
  rw[a2] at hA
  have hWr:=hx.AB _ b1
  rw[b2] at hWr
  have e1:lp (cq U R.af) (p7 sig (n.ms.getD j default) k)=bI (tb (x.getD (n.ms.getD j default).addr.toNat default) 0)+bI (tb (x.getD (n.ms.getD j default).addr.toNat default) 1)*2+bI (tb (x.getD (n.ms.getD j default).data.toNat default) k)*4+bI (tb (x.getD (n.ms.getD j default).write.toNat default) 0)*8:=by
   rw[<-We _ a1 0 (by omega),<-We _ a1 1 (by omega),<-We _ d1 k (by omega),<-We _ b1 0 (by omega)]
   show 0+_*2^0+_*2^1+_*2^2+_*2^3=_
   rw[Int.zero_add]
   show _*1+_*2+_*4+_*8=_
   rw[Int.mul_one]
   rfl
  have e2:(bI (tb (x.getD (n.ms.getD j default).addr.toNat default) 0)+bI (tb (x.getD (n.ms.getD j default).addr.toNat default) 1)*2).toNat=CH n x j:=M7 hA
  obtain⟨r1,r2,r3⟩:=Ks g1 (tb (x.getD (n.ms.getD j default).addr.toNat default) 0) (tb (x.getD (n.ms.getD j default).addr.toNat default) 1) (tb (x.getD (n.ms.getD j default).data.toNat default) k) (tb (x.getD (n.ms.getD j default).write.toNat default) 0)
  rw[RF _ (by omega),if_neg (by omega),yO,e1]
  have e3:∀i,gf 1 (st.getD (dU n 3 n.sg.length+ja n j+k) default) i=iw (st.getD (dU n 3 n.sg.length+ja n j+k) default) i:=fun i=>by
   unfold gf
   rw[if_neg (by omega),if_pos ⟨rfl,g1⟩]
  rw[e3]
  refine⟨r1,?_,fun a ha=> ?_⟩
  ·rw[r2,e2,g3 _ ma1,(s7.out _ ho.1).1 j hj rfl]
  ·rw[r3 a ha,e2,s7.mem j hj a ha,g3 a ha,Wa hWr]
   by_cases D0:x.getD (n.ms.getD j default).write.toNat default=1
   ·by_cases Xn:a=CH n x j
    ·rw[if_pos (by rw[decide_eq_true D0,decide_eq_true Xn];rfl),if_pos ⟨hj,D0,Xn⟩]
    ·rw[if_neg (by rw[decide_eq_false Xn,Bool.and_false];decide),if_neg (fun hh=>Xn hh.2.2)]
   ·rw[if_neg (by rw[decide_eq_false D0,Bool.false_and];decide),if_neg (fun hh=>D0 hh.2.1)]
end Go.Xw
end
section
namespace Go.Xw
open Go.Proofs
set_option maxHeartbeats 1000000
def ji (n:aQ):List Int:=(List.range n.sg.length).map fun(s:Nat)=>iy n (s:Nat)%2^wN n (s:Nat)
theorem mY {n:aQ}{s:Nat}(hs:s<n.sg.length):(ji n).getD s default=iy n (s:Nat)%2^wN n (s:Nat):=by
 unfold ji
 simp[List.getD_eq_getElem?_getD,hs]
theorem FC (n:aQ):qO n (ji n):=⟨by simp[ji],fun s hs=>by
 rw[mY hs]
 have:=wB (wN n (s:Nat))
 exact⟨Int.emod_nonneg _ (by omega),Int.emod_lt_of_pos _ (by omega)⟩⟩
theorem OS {n:aQ}(hm:aV n){s:Nat}(hs:s<n.sg.length)(hk:aY n (s:Nat)≠3):iy n (s:Nat)=0:=by
 have h:=(hm.sg s hs).2.2
 rw[bG] at hk
 unfold iy
 rw[Int.toNat_natCast]
 omega
def mZ (n:aQ):List Int:=List.replicate (4*n.ms.length) 0
theorem yP (n:aQ)(i:Nat):(mZ n).getD i default=0:=by
 unfold mZ
 by_cases h:i<4*n.ms.length
 ·simp[List.getD_eq_getElem?_getD,h]
 ·rw[List.getD_eq_getElem?_getD,List.getElem?_eq_none (by simp;omega)];rfl
theorem Se {x:Int}{k w:Nat}(hk:k<w):tb (x%2^w) k=tb x k:=by
 have h:=DS (x:=x) (a:=0) hk
 simp only[Nat.zero_add,Int.pow_zero,Int.ediv_one] at h
 exact h.symm
section
variable {n:aQ} (hf:cg n) {l:List Nat} (he:gQ n=some l)
include hf he
theorem Ik:fU (zB n l)=fU (kr n):=by
 have hm:=(dH hf).2
 obtain⟨FA,_⟩:=pz hf he
 refine DY ?_
 have h1:iJ (zB n l)=iJ (dN n l).1.1:=yJ _ _ _ _ _
 have h2:iJ (dN n l).1.1=iJ (bO n l).1.1:=AM hm (oM.start FA) n.sg.length (Nat.le_refl _)
 rw[h1,h2,FA.eq];rfl
theorem D1:V6 n (ji n) (mZ n) (fU (zB n l)):=by
 have hm:=(dH hf).2
 have sh:(kr n).au.length=dU n 3 n.sg.length+ja n n.ms.length:=jA _ _ _ _
 rw[Ik hf he]
 have Kt:∀p,p<dU n 3 n.sg.length+ja n n.ms.length->(fU (kr n)).getD p default=((ni [0] [0,0,0,0] n n.ms.length).getD p default).init:=fun p hp=>tY fR.init (by rw[sh];exact hp)
 refine⟨FC n,by simp[mZ],fun j hj a ha=> ?_,fun s hs hk _=> ?_,?_,fun s hs hk k p6=> ?_,fun j hj k hk=> ?_⟩
 ·rw[yP]
  exact⟨Int.le_refl _,wB _⟩
 ·rw[mY hs,OS hm hs hk,Int.zero_emod]
 ·unfold fU
  rw[List.length_map,sh]
 ·have h5:=oP n 3 hk
  have h6:=lC n 3 (i:=s+1) (j:=n.sg.length) (by omega)
  rw[Kt _ (by omega),He n _ _ (by omega),yK n _ s hs hk k p6,mY hs,Se p6]
  unfold tb
  have:iy n (s:Nat)/2^k%2=0\/iy n (s:Nat)/2^k%2=1:=by omega
  rcases this with h|h<;>rw[h]<;>decide
 ·have ho:=jB hm hj
  have hmw:=wU hm hj
  have OK:=lD n (i:=j+1) (j:=n.ms.length) (by omega)
  have hp:dU n 3 n.sg.length+ja n j+k<(ni [0] [0,0,0,0] n n.ms.length).length:=by
   have:=jA [0] [0,0,0,0] n n.ms.length
   omega
  have hz:((ni [0] [0,0,0,0] n n.ms.length).getD (dU n 3 n.sg.length+ja n j+k) default).init=0:=by
   have BB:=yo [0] [0,0,0,0] n n.ms.length _ hp
   rw[if_neg (by omega)] at BB
   rcases wL (aK hp) with⟨g1,_⟩|⟨_,g2,_⟩
   ·rw[BB] at g1;exact absurd g1 (by decide)
   ·exact g2
  rw[Kt _ (by omega),hz,mY ho.1,OS hm ho.1 (by omega),Int.zero_emod]
  refine⟨by decide,by rw[ue,ue],fun a _=>by rw[yP,ue,ue]⟩
end
noncomputable def CJ (n:aQ)(l:List Nat)(kc:List (List Int)):Nat->List Int×List Int
 |0=>(ji n,mZ n)
 |t+1=>pA n (B6 n l (CJ n l kc t).1 (kc.getD t default)) (CJ n l kc t).2 n.ms.length
noncomputable def vl (n:aQ)(l:List Nat)(kc:List (List Int))(t:Nat):List Int:=uf n 1 (B6 n l (CJ n l kc t).1 (kc.getD t default)) n.sg.length
theorem FE {n:aQ}(hf:cg n){k:Int}(hs:cT (ee n k)<=8):yv (ee n k):=by
 have hm:=(dH hf).2
 refine⟨MY hm hf k,?_⟩
 rw[rG _ _ (Nat.le_refl _),List.take_length]
 omega
theorem yQ {xs ys:List Int}(hl:xs.length=ys.length)(hw:yv xs):Go.Proofs.iu xs ys=pk xs ys xs.length:=by
 unfold Go.Proofs.iu
 rw[if_pos ⟨hl,Kh hw⟩]
theorem Ku (n:aQ)(l:List Nat)(kc:List (List Int))(t:Nat):(vl n l kc t).length=(ee n 1).length:=by
 unfold vl
 rw[rH n 1 _ _ (Nat.le_refl _)]
 unfold nK
 rw[List.take_length];rfl
section
variable {n:aQ} (hf:cg n) {l:List Nat} (he:gQ n=some l) (hb:(dN n l).1.2=false) {kc:List (List Int)} (je:∀t,t<kc.length->(kc.getD t default).length=(ee n 0).length) {P:List Int} (hP:∀t,t<kc.length->P.getD t default=Go.Proofs.iu (ee n 0) (kc.getD t default))
include hf he hb je hP
theorem Kv {t:Nat}(ht:t<kc.length):∀s:Nat,s<n.sg.length->aY n (s:Nat)=0->∀k,k<wN n (s:Nat)->tb (P.getD t default) (dU n 0 s+k)=tb ((kc.getD t default).getD (nK n 0 s) default%2^wN n (s:Nat)) k:=fun s hs CD k hk=>by
 have hm:=(dH hf).2
 have hw:=FE hf (k:=0) hf.s0
 rw[hP t ht,yQ (je t ht).symm hw,DS hk]
 obtain⟨g1,g2⟩:=OM 0 hs CD
 have hd:=DR (xs:=ee n 0) (ys:=kc.getD t default) hw.1 g1
 have IV:=oL hm (s:=(s:Nat)) (by unfold dr;omega)
 rw[MX hm 0 (by omega),g2,<-IV,Int.toNat_natCast,Int.toNat_natCast] at hd
 rw[hd]
theorem Kw:∀t,t<=kc.length->V6 n (CJ n l kc t).1 (CJ n l kc t).2 (BI (zB n l) P t)
 |0,_=>D1 hf he
 |t+1,ht=>(OR hf he hb (Kw t (by omega)) (Kv hf he hb je hP (by omega))).2
theorem M8 {W:List Int}(hW:∀t,t<kc.length->W.getD t default=Go.Proofs.iu (ee n 1) (vl n l kc t))(OT:W.length=kc.length)(AN:P.length=kc.length):pZ (zB n l) P=W:=by
 have hw:=FE hf (k:=1) hf.s1
 unfold pZ
 rw[AN]
 have key:∀t,t<=kc.length->pP (zB n l) P t=W.take t:=fun t=>by
  induction t with
  |zero=>exact fun _=>rfl
  |succ t ih=>
   intro ht
   rw[pP,ih (by omega),dm (by omega),hW t (by omega),yQ (Ku n l kc t).symm hw]
   rw[(OR hf he hb (Kw hf he hb je hP t (by omega)) (Kv hf he hb je hP (by omega))).1]
   rfl
 rw[key _ (Nat.le_refl _),<-OT,List.take_length]
theorem M9 {W:List Int}(hW:∀t,t<kc.length->W.getD t default=Go.Proofs.iu (ee n 1) (vl n l kc t))(OT:W.length=kc.length)(AN:P.length=kc.length):pZ (B3 n).1 P=W:=by
 rw[rF he hf hb]
 show pZ (tV (zB n l)) P=W
 rw[Kp (vd hf he)]
 exact M8 hf he hb je hP hW OT AN
end
end Go.Xw
end
