/- Texts that belong together; each under its stated conditions. -/
import Derived.Test.YtiepmliokblkjaaGreatEvSt3
set_option linter.all false
section
namespace Go.Xw
open Go.Proofs
set_option maxHeartbeats 1000000
theorem rS.bits {U:List Int}{n:ao}{sig:List (List Int)}{x:List Int}(h:rS U n sig x){s:Nat}(hs:s<sig.length)(hl:(sig.getD s default).length<=4):iG U n (sig.getD s default) (tb (x.getD s default)):=fun k hk=>h.bit s hs k (by omega)
theorem Ha {n:aQ}(hm:aV n)(hf:ch n){sig:List (List Int)}{U x:List Int}{M:ao}(hF:yr n sig)(sY:sig.length=n.sg.length)(h1:dp U)(hR:rS U M sig x)(hx:qO n x):∀i:Nat,i<=n.sg.length->e7 (cu U M.af) (iW n sig i) (iW n sig i).length=pk (pR (n.sg.take i) 1) (uf n 1 x i) (uf n 1 x i).length
 |0,_=>rfl
 |i+1,hi=>by
  have ih:=Ha hm hf hF sY h1 hR hx i (by omega)
  have hwb:=nY hm hf (s:=(i:Nat)) (by unfold dr;omega)
  have IM:=oL hm (s:=(i:Nat)) (by unfold dr;omega)
  by_cases hk:aY n (i:Nat)=1
  ·have e1:iW n sig (i+1)=iW n sig i++sig.getD i default:=by rw[iW,if_pos hk]
   have e2:uf n 1 x (i+1)=uf n 1 x i++[x.getD i default]:=by rw[uf,if_pos hk]
   have e3:pR (n.sg.take (i+1)) 1=pR (n.sg.take i) 1++[(n.sg.getD i default).width]:=by rw[dm (by omega),ry (by rw[<-bG];exact hk)]
   have sD:=rH n 1 x i (by omega)
   have sD:(uf n 1 x i).length=(pR (n.sg.take i) 1).length:=sD
   have CB:=hF i (by omega)
   have hB:=hR.bits (s:=i) (by omega) (by omega)
   have OK:=Ib h1 hB (by rw[CB];exact hx.Av i (by omega))
   unfold lp at OK
   have TH:dV (pR (n.sg.take i) 1) (pR (n.sg.take i) 1).length=((dU n 1 i:Nat):Int):=by
    rw[rG _ _ (Nat.le_refl _),List.take_length,BM hm 1 i (by omega)]
   rw[e1,e2,e3,List.length_append,yL _ _ _ _ (Nat.le_refl _),ih,OK,List.length_append,List.length_singleton,pk,G' _ (by omega) (Nat.le_refl _),eh,sD,eh,vk _ (Nat.le_refl _),TH,oO hF i (by omega),Int.toNat_natCast]
   congr 2
   have hr:=hx.Av i (by omega)
   rw[<-pv,<-IM,Int.toNat_natCast,Int.emod_eq_of_lt hr.1 hr.2]
  ·have e1:iW n sig (i+1)=iW n sig i:=by rw[iW,if_neg hk]
   have e2:uf n 1 x (i+1)=uf n 1 x i:=by rw[uf,if_neg hk]
   have e3:pR (n.sg.take (i+1)) 1=pR (n.sg.take i) 1:=by rw[dm (by omega),yl (by rw[<-bG];exact hk)]
   rw[e1,e2,e3];exact ih
section
variable {n:aQ} (hm:aV n) (hf:ch n)
include hm hf
theorem Fs {i:Nat}(hi:i<n.aP.length):(dT n i).toNat<n.sg.length/\(((dT n i).toNat:Nat):Int)=dT n i:=by
 have h:=(gg hm hf hi).2.2.1
 unfold dr at h
 omega
theorem ug (v:List Int):∀i,i<=n.aP.length->qO n (zx n v i)
 |0,_=>⟨by simp[zx],fun s hs=>by
  have:=wB (wN n (s:Nat))
  have e:(zx n v 0).getD s default=0:=by simp[zx,List.getD_eq_getElem?_getD,hs]
  rw[e];exact⟨Int.le_refl _,this⟩⟩
 |i+1,hi=>by
  have ih:=ug v i (by omega)
  obtain⟨t1,t2⟩:=Fs hm hf (i:=i) (by omega)
  have hw:=nY hm hf (gg hm hf (i:=i) (by omega)).2.2.1
  rw[zx]
  split
  ·refine⟨by rw[List.length_set];exact ih.len,fun s hs=> ?_⟩
   rw[cG (by rw[ih.len];omega)]
   by_cases jq:s=(dT n i).toNat
   ·rw[if_pos jq,jq,t2];exact jJ hw _ _
   ·rw[if_neg jq];exact ih.Av s hs
  ·exact ih
theorem Kl {v:List Int}{s:Nat}(hs:s<n.sg.length)(hk:aY n (s:Nat)=3):∀m,m<=n.aP.length->∀i,i<m->dT n i=(s:Nat)->(zx n v m).getD s default=lu v (wN n (s:Nat)) (cU n i)
 |0,_,i,hi,_=>absurd hi (Nat.not_lt_zero _)
 |m+1,wj,i,hi,ht=>by
  obtain⟨t1,t2⟩:=Fs hm hf (i:=m) (by omega)
  have hl:=(ug hm hf v m (by omega)).len
  rw[zx]
  by_cases HU:i=m
  ·subst HU
   rw[if_pos (by rw[ht];exact hk),cG (by rw[hl];exact t1),if_pos (by omega),ht]
  ·have hc:=oN hm hs hk
   have fD:dT n m≠(s:Nat):=fun h=>rv (R:=n.aP) (s:=(s:Nat)) (by rw[hc];omega) (show i<m by omega) (by omega) ht h
   have ih:=Kl (v:=v) hs hk m (by omega) i (by omega) ht
   split
   ·rw[cG (by rw[hl];exact t1),if_neg (by omega)];exact ih
   ·exact ih
theorem B6 {v:List Int}{s:Nat}(hs:s<n.sg.length)(hk:aY n (s:Nat)≠3):∀m,m<=n.aP.length->(zx n v m).getD s default=0
 |0,_=>by simp[zx,List.getD_eq_getElem?_getD,hs]
 |m+1,wj=>by
  obtain⟨t1,t2⟩:=Fs hm hf (i:=m) (by omega)
  have hl:=(ug hm hf v m (by omega)).len
  rw[zx]
  split
  ·rename_i h3
   rw[cG (by rw[hl];exact t1),if_neg (fun he=>hk (by rw[he,t2];exact h3))]
   exact B6 hs hk m (by omega)
  ·exact B6 hs hk m (by omega)
omit hm hf in
theorem yM {j:Nat}(hm:aV n)(hf:ch n)(hj:j<n.ms.length):
  ((n.ms.getD j default).addr.toNat<n.sg.length/\wN n ((n.ms.getD j default).addr.toNat:Nat)=2)/\((n.ms.getD j default).write.toNat<n.sg.length/\wN n ((n.ms.getD j default).write.toNat:Nat)=1)/\((n.ms.getD j default).data.toNat<n.sg.length/\wN n ((n.ms.getD j default).data.toNat:Nat)=wN n (fa n j:Nat)):=by
 obtain⟨h1,h2,h3,h4⟩:=hm.ms j hj
 obtain⟨w1,w2,w3,_⟩:=GZ hm hf hj
 have ho:=(jB hm hj).2.1
 unfold dr at h1 h2 h3
 refine⟨⟨by omega,?_⟩,⟨by omega,?_⟩,by omega,?_⟩
 ·rw[show(((n.ms.getD j default).addr.toNat:Nat):Int)=(n.ms.getD j default).addr by omega];exact w1
 ·rw[show(((n.ms.getD j default).write.toNat:Nat):Int)=(n.ms.getD j default).write by omega];exact w2
 ·rw[show(((n.ms.getD j default).data.toNat:Nat):Int)=(n.ms.getD j default).data by omega,ho];exact w3
theorem Ft {v:List Int}(hv:qO n v){j:Nat}(hj:j<n.ms.length):CA n v j<4/\((CA n v j:Nat):Int)=v.getD (n.ms.getD j default).addr.toNat default:=by
 obtain⟨⟨h1,h2⟩,_⟩:=yM hm hf hj
 have h:=hv.Av _ h1
 rw[h2] at h
 obtain⟨g1,g2⟩:=h
 have g2:v.getD (n.ms.getD j default).addr.toNat default<4:=g2
 unfold CA
 omega
structure NvP (n:aQ)(v w:List Int)(j:Nat):Prop where
 val:qO n (pA n v w j).1
 len:(pA n v w j).2.length=w.length
 out:∀s,s<n.sg.length->(∀j',j'<j->fa n j'=s->(pA n v w j).1.getD s default=w.getD (4*j'+CA n v j') default)/\((∀j',j'<j->fa n j'≠s)->(pA n v w j).1.getD s default=(zx n v n.aP.length).getD s default)
 mem:∀j',j'<n.ms.length->∀a,a<4->(pA n v w j).2.getD (4*j'+a) default=if j'<j/\v.getD (n.ms.getD j' default).write.toNat default=1/\a=CA n v j' then v.getD (n.ms.getD j' default).data.toNat default else w.getD (4*j'+a) default
theorem B7 {v w:List Int}(hv:qO n v)(R7:w.length=4*n.ms.length)(hw:∀j,j<n.ms.length->∀a,a<4->Cv (wN n (fa n j:Nat)) (w.getD (4*j+a) default)):∀j,j<=n.ms.length->NvP n v w j
 |0,_=>⟨ug hm hf v _ (Nat.le_refl _),rfl,fun s hs=>⟨fun j' MV=>absurd MV (Nat.not_lt_zero _),fun _=>rfl⟩,fun j' MV a ha=>by rw[if_neg (by omega)];rfl⟩
 |j+1,hj=>by
  have ih:=B7 hv R7 hw j (by omega)
  obtain⟨o1,o2,_⟩:=jB hm (j:=j) (by omega)
  obtain⟨a1,a2⟩:=Ft hm hf hv (j:=j) (by omega)
  have e1:(pA n v w (j+1)).1=(pA n v w j).1.set (fa n j) (w.getD (4*j+CA n v j) default):=rfl
  have e2:(pA n v w (j+1)).2=if v.getD (n.ms.getD j default).write.toNat default=1 then(pA n v w j).2.set (4*j+CA n v j) (v.getD (n.ms.getD j default).data.toNat default) else(pA n v w j).2:=rfl
  refine⟨⟨by rw[e1,List.length_set];exact ih.val.len,fun s hs=> ?_⟩,?_,fun s hs=>⟨fun j' MV ho=> ?_,fun gM=> ?_⟩,fun j' MV a ha=> ?_⟩
  ·rw[e1,cG (by rw[ih.val.len];exact o1)]
   by_cases nj:s=fa n j
   ·rw[if_pos nj,nj];exact hw j (by omega) _ a1
   ·rw[if_neg nj];exact ih.val.Av s hs
  ·rw[e2]
   split
   ·rw[List.length_set];exact ih.len
   ·exact ih.len
  ·rw[e1,cG (by rw[ih.val.len];exact o1)]
   by_cases MW:j'=j
   ·subst MW
    rw[if_pos ho.symm]
   ·rw[if_neg (fun he=>vg hm (show j'<j by omega) (by omega) (by rw[ho,he]))]
    exact(ih.out s hs).1 j' (by omega) ho
  ·rw[e1,cG (by rw[ih.val.len];exact o1),if_neg (fun he=>gM j (by omega) he.symm)]
   exact(ih.out s hs).2 fun j' MV=>gM j' (by omega)
  ·rw[e2]
   have hm4:=ih.mem j' MV a ha
   by_cases DU:v.getD (n.ms.getD j default).write.toNat default=1
   ·rw[if_pos DU,cG (by rw[ih.len,R7];omega)]
    by_cases hp:4*j'+a=4*j+CA n v j
    ·have MW:j'=j:=by omega
     subst MW
     rw[if_pos hp,if_pos ⟨by omega,DU,by omega⟩]
    ·rw[if_neg hp,hm4]
     by_cases hc:j'<j/\v.getD (n.ms.getD j' default).write.toNat default=1/\a=CA n v j'
     ·rw[if_pos hc,if_pos ⟨by omega,hc.2⟩]
     ·rw[if_neg hc,if_neg (fun h=>hc ⟨by
       by_cases MW:j'=j
       ·subst MW;exact absurd (by rw[h.2.2]) hp
       ·omega,h.2⟩)]
   ·rw[if_neg DU,hm4]
    by_cases hc:j'<j/\v.getD (n.ms.getD j' default).write.toNat default=1/\a=CA n v j'
    ·rw[if_pos hc,if_pos ⟨by omega,hc.2⟩]
    ·rw[if_neg hc,if_neg (fun h=>hc ⟨by
      by_cases MW:j'=j
      ·subst MW;exact absurd h.2.1 DU
      ·omega,h.2⟩)]
end
theorem Km {v:Int}(h0:0<=v/\v<=31)(a0 a1 d e:Bool):(0<=iw v (bI a0+bI a1*2+bI d*4+bI e*8)/\iw v (bI a0+bI a1*2+bI d*4+bI e*8)<=31)/\tb (iw v (bI a0+bI a1*2+bI d*4+bI e*8)) 0=tb v (1+(bI a0+bI a1*2).toNat)/\∀c,c<4->tb (iw v (bI a0+bI a1*2+bI d*4+bI e*8)) (1+c)=if(e&&decide (c=(bI a0+bI a1*2).toNat)) then d else tb v (1+c):=by
 have h:=MY ⟨v.toNat,by omega⟩ a0 a1 d e
 obtain⟨v',rfl⟩:=Int.eq_ofNat_of_zero_le h0.1
 simp only[Int.toNat_natCast] at h
 exact⟨h.1,h.2.1,fun c hc=>h.2.2 ⟨c,hc⟩⟩
theorem M0 {a:Int}(h:Cv 2 a):(bI (tb a 0)+bI (tb a 1)*2).toNat=a.toNat:=by
 obtain⟨h1,h2⟩:=h
 have h2:a<4:=h2
 have g:=Kk ⟨a.toNat,by omega⟩
 obtain⟨a',rfl⟩:=Int.eq_ofNat_of_zero_le h1
 simp only[Int.toNat_natCast] at g
 rw[g]
theorem V4 {a:Int}(h:Cv 1 a):tb a 0=decide (a=1):=by
 obtain⟨h1,h2⟩:=h
 have h2:a<2:=h2
 have g:=MZ ⟨a.toNat,by omega⟩
 obtain⟨a',rfl⟩:=Int.eq_ofNat_of_zero_le h1
 simp only[Int.toNat_natCast] at g
 rw[g]
 exact decide_eq_decide.2 (by omega)
theorem V5 {l:List Int}{k:Nat}:l.getD k default=g7 l k:=rfl
theorem OL {n:aQ}(hf:ch n){l:List Nat}(he:gQ n=some l)(hb:(dN n l).1.2=false){v w st:List Int}(h:V0 n v w st){ins:List Int}{ck:Int}
  (R4:∀s:Nat,s<n.sg.length->aY n (s:Nat)=0->∀k,k<wN n (s:Nat)->tb ck (dU n 0 s+k)=tb (ins.getD (nK n 0 s) default%2^wN n (s:Nat)) k):
  Ff (zv n l) st ck=pk (ee n 1) (uf n 1 (BY n l v ins) n.sg.length) (ee n 1).length/\V0 n (pA n (BY n l v ins) w n.ms.length).1 (pA n (BY n l v ins) w n.ms.length).2 (mP (zv n l) st ck):=by
 have hm:=(dH hf).2
 obtain⟨_,je,_⟩:=iU he
 have hl:∀i,i∈l->i<n.aP.length:=fun i hi=>(je i hi).1
 have hN:=vd hf he
 obtain⟨Fu,yN⟩:=pz hf he
 obtain⟨W8,Jy,hR3⟩:=Fp hf he
 obtain⟨S0,hM2⟩:=Fq hf he
 have hx:=BZ hm hf hl h.val ins
 obtain⟨x,IN⟩:∃x,x=BY n l v ins:=⟨_,rfl⟩
 rw[<-IN] at hx⊢
 obtain⟨hU,Q0⟩:=H9 hm hf hN S0.ck S0.len h R4
 obtain⟨U,hUe⟩:∃U,U=kp (zv n l) st ck:=⟨_,rfl⟩
 rw[<-hUe] at hU Q0
 have hbO:(bO n l).1.2=false:=by
  cases hc:(bO n l).1.2 with
  |false=>rfl
  |true=>rw[hR3 hc] at hb;exact hb
 obtain⟨u1,Q1⟩:=G8 hm hf hl hU (wS h.val ins) Q0 l.length (Nat.le_refl _) hbO
 have Q1:rS U (bO n l).1.1 (bO n l).2 x:=by rw[IN];exact Q1
 have jq:=oM.start Fu
 obtain⟨u2,Q2,F2⟩:=yy hm hf jq u1 Q1 n.sg.length (Nat.le_refl _) hb
 have sY:(bO n l).2.length=n.sg.length:=Fu.sig.len
 have Lc:=u2.Mx
 have hand:(zv n l).af=(dN n l).1.1.af:=yE _ _ _ _ _
 have hV:gC (zv n l) st ck=cu U (dN n l).1.1.af:=by
  rw[tX hN (by rw[h.fE];exact S0.len.symm),<-hUe,hand]
 obtain⟨R,S1⟩:∃R,R=(dN n l).1.1:=⟨_,rfl⟩
 obtain⟨sig,V6⟩:∃sig,sig=(bO n l).2:=⟨_,rfl⟩
 have Q2:rS U R sig x:=by rw[S1,V6];exact Q2
 have F2:B4 n U x R n.sg.length:=by rw[S1];exact F2
 have u2:fe U R:=by rw[S1];exact u2
 rw[<-S1] at hV
 rw[<-V6] at yN sY
 have V7:(zv n l).au.length=dU n 3 n.sg.length+ja n n.ms.length:=S0.len
 have V8:∀s,s<n.sg.length->∀k,k<4->a8 (cu U R.af) ((sig.getD s default).getD k default)=bI (tb (x.getD s default) k):=fun s hs k hk=>by
  rw[B5 Lc,V5,Q2.bit s (by omega) k hk];rfl
 have Fv:(mP (zv n l) st ck).length=dU n 3 n.sg.length+ja n n.ms.length:=by
  show(jH _ _ _ _).length=_
  rw[fJ,V7]
 have Ry:∀p,p<dU n 3 n.sg.length+ja n n.ms.length->(mP (zv n l) st ck).getD p default=gf (if p<dU n 3 n.sg.length then 0 else 1) (st.getD p default) (lp (cu U R.af) (sZ (G0 n l).1 p)):=fun p hp=>by
  show(jH _ _ _ _).getD p default=_
  rw[mQ _ _ _ (by rw[V7];exact hp)]
  unfold uW
  rw[hV,show((zv n l).au.getD p default).kind=_ from S0.kind p (by rw[S0.len];exact hp)]
  rfl
 have hq:(dN n l).2+ja n n.ms.length<=(dN n l).1.1.au.length:=by rw[W8.len,Jy];omega
 obtain⟨m1,m2,m3⟩:=DR (sig:=(bO n l).2) hm hq n.ms.length (Nat.le_refl _)
 have s7:=B7 hm hf hx h.B0 h.OH n.ms.length (Nat.le_refl _)
 refine⟨?_,s7.val,by rw[s7.len];exact h.B0,fun j hj a ha=> ?_,fun s hs vU gM=> ?_,Fv,fun s hs vU k hk=> ?_,fun j hj k hk=> ?_⟩
 ·have e:=Ha hm hf yN sY Lc Q2 hx n.sg.length (Nat.le_refl _)
  rw[List.take_length,rH n 1 x _ (Nat.le_refl _)] at e
  unfold nK at e
  rw[List.take_length] at e
  show lp (gC (zv n l) st ck) (iW n (bO n l).2 n.sg.length)=_
  rw[hV,<-V6]
  exact e
 ·rw[s7.mem j hj a ha]
  split
  ·have hd:=(yM hm hf hj).2.2
   rw[<-hd.2];exact hx.Av _ hd.1
  ·exact h.OH j hj a ha
 ·rw[(s7.out s hs).2 gM]
  exact B6 hm hf hs vU _ (Nat.le_refl _)
 ·have h5:=oP n 3 vU
  have h6:=lC n 3 (i:=s+1) (j:=n.sg.length) (by omega)
  have hc:=oN hm hs vU
  obtain⟨i,hi,Xg⟩:=BQ (R:=n.aP) (s:=(s:Nat)) (i:=n.aP.length) (by omega)
  have Xg:dT n i=(s:Nat):=Xg
  obtain⟨z,z1,z2,z3⟩:=F2 s hs vU i hi Xg k hk
  have yO:sZ (G0 n l).1 (dU n 3 s+k)=[z]:=by
   have:=m2 (dU n 3 s+k) (by rw[Jy];omega)
   rw[<-S1] at this
   rw[<-z1,<-this]
   unfold G0
   rw[<-S1]
  rw[Ry _ (by omega),if_pos (by omega),yO,h.V1 s hs vU k hk,(s7.out s hs).2 (fun j hj ho=>by
   have:=(jB hm hj).2.2
   rw[ho] at this;omega),Kl hm hf hs vU _ (Nat.le_refl _) i hi Xg,<-z3]
  have e1:lp (cu U R.af) [z]=if vB U R z then 1 else 0:=by
   show 0+a8 (cu U R.af) z*2^0=_
   rw[B5 Lc]
   cases vB U R z<;>rfl
  rw[e1]
  cases vB U R z<;>cases tb (v.getD s default) k<;>decide
 ·have ho:=jB hm hj
  have hmw:=wU hm hj
  have OE:=lD n (i:=j+1) (j:=n.ms.length) (by omega)
  obtain⟨⟨a1,a2⟩,⟨b1,b2⟩,d1,d2⟩:=yM hm hf hj
  have Cz:=(nY hm hf (s:=(fa n j:Nat)) (by unfold dr;omega)).2
  obtain⟨g1,g2,g3⟩:=h.ram j hj k hk
  have yO:sZ (G0 n l).1 (dU n 3 n.sg.length+ja n j+k)=p7 sig (n.ms.getD j default) k:=by
   have:=m3 j hj k hk
   rw[Jy,<-V6] at this
   rw[<-this]
   unfold G0
   rw[Jy,<-V6]
  obtain⟨ma1,ma2⟩:=Ft hm hf hx hj
  have hA:=hx.Av _ a1
  rw[a2] at hA
  have hWr:=hx.Av _ b1
  rw[b2] at hWr
  have e1:lp (cu U R.af) (p7 sig (n.ms.getD j default) k)=bI (tb (x.getD (n.ms.getD j default).addr.toNat default) 0)+bI (tb (x.getD (n.ms.getD j default).addr.toNat default) 1)*2+bI (tb (x.getD (n.ms.getD j default).data.toNat default) k)*4+bI (tb (x.getD (n.ms.getD j default).write.toNat default) 0)*8:=by
   rw[<-V8 _ a1 0 (by omega),<-V8 _ a1 1 (by omega),<-V8 _ d1 k (by omega),<-V8 _ b1 0 (by omega)]
   show 0+_*2^0+_*2^1+_*2^2+_*2^3=_
   rw[Int.zero_add]
   show _*1+_*2+_*4+_*8=_
   rw[Int.mul_one]
   rfl
  have e2:(bI (tb (x.getD (n.ms.getD j default).addr.toNat default) 0)+bI (tb (x.getD (n.ms.getD j default).addr.toNat default) 1)*2).toNat=CA n x j:=M0 hA
  obtain⟨r1,r2,r3⟩:=Km g1 (tb (x.getD (n.ms.getD j default).addr.toNat default) 0) (tb (x.getD (n.ms.getD j default).addr.toNat default) 1) (tb (x.getD (n.ms.getD j default).data.toNat default) k) (tb (x.getD (n.ms.getD j default).write.toNat default) 0)
  rw[Ry _ (by omega),if_neg (by omega),yO,e1]
  have e3:∀i,gf 1 (st.getD (dU n 3 n.sg.length+ja n j+k) default) i=iw (st.getD (dU n 3 n.sg.length+ja n j+k) default) i:=fun i=>by
   unfold gf
   rw[if_neg (by omega),if_pos ⟨rfl,g1⟩]
  rw[e3]
  refine⟨r1,?_,fun a ha=> ?_⟩
  ·rw[r2,e2,g3 _ ma1,(s7.out _ ho.1).1 j hj rfl]
  ·rw[r3 a ha,e2,s7.mem j hj a ha,g3 a ha,V4 hWr]
   by_cases DU:x.getD (n.ms.getD j default).write.toNat default=1
   ·by_cases Xh:a=CA n x j
    ·rw[if_pos (by rw[decide_eq_true DU,decide_eq_true Xh];rfl),if_pos ⟨hj,DU,Xh⟩]
    ·rw[if_neg (by rw[decide_eq_false Xh,Bool.and_false];decide),if_neg (fun hh=>Xh hh.2.2)]
   ·rw[if_neg (by rw[decide_eq_false DU,Bool.false_and];decide),if_neg (fun hh=>DU hh.2.1)]
end Go.Xw
end
section
namespace Go.Xw
open Go.Proofs
set_option maxHeartbeats 1000000
def ji (n:aQ):List Int:=(List.range n.sg.length).map fun(s:Nat)=>iy n (s:Nat)%2^wN n (s:Nat)
theorem mY {n:aQ}{s:Nat}(hs:s<n.sg.length):(ji n).getD s default=iy n (s:Nat)%2^wN n (s:Nat):=by
 unfold ji
 simp[List.getD_eq_getElem?_getD,hs]
theorem Fw (n:aQ):qO n (ji n):=⟨by simp[ji],fun s hs=>by
 rw[mY hs]
 have:=wB (wN n (s:Nat))
 exact⟨Int.emod_nonneg _ (by omega),Int.emod_lt_of_pos _ (by omega)⟩⟩
theorem OM {n:aQ}(hm:aV n){s:Nat}(hs:s<n.sg.length)(hk:aY n (s:Nat)≠3):iy n (s:Nat)=0:=by
 have h:=(hm.sg s hs).2.2
 rw[bG] at hk
 unfold iy
 rw[Int.toNat_natCast]
 omega
def mZ (n:aQ):List Int:=List.replicate (4*n.ms.length) 0
theorem yP (n:aQ)(i:Nat):(mZ n).getD i default=0:=by
 unfold mZ
 by_cases h:i<4*n.ms.length
 ·simp[List.getD_eq_getElem?_getD,h]
 ·rw[List.getD_eq_getElem?_getD,List.getElem?_eq_none (by simp;omega)];rfl
theorem R8 {x:Int}{k w:Nat}(hk:k<w):tb (x%2^w) k=tb x k:=by
 have h:=DM (x:=x) (a:=0) hk
 simp only[Nat.zero_add,Int.pow_zero,Int.ediv_one] at h
 exact h.symm
section
variable {n:aQ} (hf:ch n) {l:List Nat} (he:gQ n=some l)
include hf he
theorem Ic:fU (zv n l)=fU (kr n):=by
 have hm:=(dH hf).2
 obtain⟨Fu,_⟩:=pz hf he
 refine DS ?_
 have h1:iJ (zv n l)=iJ (dN n l).1.1:=yJ _ _ _ _ _
 have h2:iJ (dN n l).1.1=iJ (bO n l).1.1:=AG hm (oM.start Fu) n.sg.length (Nat.le_refl _)
 rw[h1,h2,Fu.eq];rfl
theorem DV:V0 n (ji n) (mZ n) (fU (zv n l)):=by
 have hm:=(dH hf).2
 have sh:(kr n).au.length=dU n 3 n.sg.length+ja n n.ms.length:=jA _ _ _ _
 rw[Ic hf he]
 have Kn:∀p,p<dU n 3 n.sg.length+ja n n.ms.length->(fU (kr n)).getD p default=((ni [0] [0,0,0,0] n n.ms.length).getD p default).init:=fun p hp=>tY fR.init (by rw[sh];exact hp)
 refine⟨Fw n,by simp[mZ],fun j hj a ha=> ?_,fun s hs hk _=> ?_,?_,fun s hs hk k p6=> ?_,fun j hj k hk=> ?_⟩
 ·rw[yP]
  exact⟨Int.le_refl _,wB _⟩
 ·rw[mY hs,OM hm hs hk,Int.zero_emod]
 ·unfold fU
  rw[List.length_map,sh]
 ·have h5:=oP n 3 hk
  have h6:=lC n 3 (i:=s+1) (j:=n.sg.length) (by omega)
  rw[Kn _ (by omega),G9 n _ _ (by omega),yK n _ s hs hk k p6,mY hs,R8 p6]
  unfold tb
  have:iy n (s:Nat)/2^k%2=0\/iy n (s:Nat)/2^k%2=1:=by omega
  rcases this with h|h<;>rw[h]<;>decide
 ·have ho:=jB hm hj
  have hmw:=wU hm hj
  have OE:=lD n (i:=j+1) (j:=n.ms.length) (by omega)
  have hp:dU n 3 n.sg.length+ja n j+k<(ni [0] [0,0,0,0] n n.ms.length).length:=by
   have:=jA [0] [0,0,0,0] n n.ms.length
   omega
  have hz:((ni [0] [0,0,0,0] n n.ms.length).getD (dU n 3 n.sg.length+ja n j+k) default).init=0:=by
   have Bv:=yo [0] [0,0,0,0] n n.ms.length _ hp
   rw[if_neg (by omega)] at Bv
   rcases wL (aK hp) with⟨g1,_⟩|⟨_,g2,_⟩
   ·rw[Bv] at g1;exact absurd g1 (by decide)
   ·exact g2
  rw[Kn _ (by omega),hz,mY ho.1,OM hm ho.1 (by omega),Int.zero_emod]
  refine⟨by decide,by rw[ue,ue],fun a _=>by rw[yP,ue,ue]⟩
end
noncomputable def CD (n:aQ)(l:List Nat)(kc:List (List Int)):Nat->List Int×List Int
 |0=>(ji n,mZ n)
 |t+1=>pA n (BY n l (CD n l kc t).1 (kc.getD t default)) (CD n l kc t).2 n.ms.length
noncomputable def vl (n:aQ)(l:List Nat)(kc:List (List Int))(t:Nat):List Int:=uf n 1 (BY n l (CD n l kc t).1 (kc.getD t default)) n.sg.length
theorem Fx {n:aQ}(hf:ch n){k:Int}(hs:cT (ee n k)<=8):yv (ee n k):=by
 have hm:=(dH hf).2
 refine⟨MS hm hf k,?_⟩
 rw[rG _ _ (Nat.le_refl _),List.take_length]
 omega
theorem yQ {xs ys:List Int}(hl:xs.length=ys.length)(hw:yv xs):Go.Proofs.iu xs ys=pk xs ys xs.length:=by
 unfold Go.Proofs.iu
 rw[if_pos ⟨hl,Kb hw⟩]
theorem Ko (n:aQ)(l:List Nat)(kc:List (List Int))(t:Nat):(vl n l kc t).length=(ee n 1).length:=by
 unfold vl
 rw[rH n 1 _ _ (Nat.le_refl _)]
 unfold nK
 rw[List.take_length];rfl
section
variable {n:aQ} (hf:ch n) {l:List Nat} (he:gQ n=some l) (hb:(dN n l).1.2=false) {kc:List (List Int)} (je:∀t,t<kc.length->(kc.getD t default).length=(ee n 0).length) {P:List Int} (hP:∀t,t<kc.length->P.getD t default=Go.Proofs.iu (ee n 0) (kc.getD t default))
include hf he hb je hP
theorem Kp {t:Nat}(ht:t<kc.length):∀s:Nat,s<n.sg.length->aY n (s:Nat)=0->∀k,k<wN n (s:Nat)->tb (P.getD t default) (dU n 0 s+k)=tb ((kc.getD t default).getD (nK n 0 s) default%2^wN n (s:Nat)) k:=fun s hs Cw k hk=>by
 have hm:=(dH hf).2
 have hw:=Fx hf (k:=0) hf.s0
 rw[hP t ht,yQ (je t ht).symm hw,DM hk]
 obtain⟨g1,g2⟩:=OG 0 hs Cw
 have hd:=DL (xs:=ee n 0) (ys:=kc.getD t default) hw.1 g1
 have IM:=oL hm (s:=(s:Nat)) (by unfold dr;omega)
 rw[MR hm 0 (by omega),g2,<-IM,Int.toNat_natCast,Int.toNat_natCast] at hd
 rw[hd]
theorem Kq:∀t,t<=kc.length->V0 n (CD n l kc t).1 (CD n l kc t).2 (BC (zv n l) P t)
 |0,_=>DV hf he
 |t+1,ht=>(OL hf he hb (Kq t (by omega)) (Kp hf he hb je hP (by omega))).2
theorem M1 {W:List Int}(hW:∀t,t<kc.length->W.getD t default=Go.Proofs.iu (ee n 1) (vl n l kc t))(ON:W.length=kc.length)(AH:P.length=kc.length):pZ (zv n l) P=W:=by
 have hw:=Fx hf (k:=1) hf.s1
 unfold pZ
 rw[AH]
 have key:∀t,t<=kc.length->pP (zv n l) P t=W.take t:=fun t=>by
  induction t with
  |zero=>exact fun _=>rfl
  |succ t ih=>
   intro ht
   rw[pP,ih (by omega),dm (by omega),hW t (by omega),yQ (Ko n l kc t).symm hw]
   rw[(OL hf he hb (Kq hf he hb je hP t (by omega)) (Kp hf he hb je hP (by omega))).1]
   rfl
 rw[key _ (Nat.le_refl _),<-ON,List.take_length]
theorem M3 {W:List Int}(hW:∀t,t<kc.length->W.getD t default=Go.Proofs.iu (ee n 1) (vl n l kc t))(ON:W.length=kc.length)(AH:P.length=kc.length):pZ (BV n).1 P=W:=by
 rw[rF he hf hb]
 show pZ (tV (zv n l)) P=W
 rw[Kj (vd hf he)]
 exact M1 hf he hb je hP hW ON AH
end
end Go.Xw
end
