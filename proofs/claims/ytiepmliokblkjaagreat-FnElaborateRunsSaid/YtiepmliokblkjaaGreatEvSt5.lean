/- Texts that belong together; each under its stated conditions. -/
import Derived.Test.YtiepmliokblkjaaGreatEvSt3
set_option linter.all false
section
namespace Go.Xw
open Go.Proofs
set_option maxHeartbeats 1000000
theorem rV.bits {U:List Int}{n:ao}{sig:List (List Int)}{x:List Int}(h:rV U n sig x){s:Nat}(hs:s<sig.length)(hl:(sig.getD s default).length<=4):iI U n (sig.getD s default) (tb (x.getD s default)):=fun k hk=>h.bit s hs k (by omega)
theorem Hb {n:aQ}(hm:aV n)(hf:ch n){sig:List (List Int)}{U x:List Int}{M:ao}(hF:yu n sig)(sY:sig.length=n.sg.length)(h1:dp U)(hR:rV U M sig x)(hx:qP n x):∀i:Nat,i<=n.sg.length->e7 (cu U M.af) (iY n sig i) (iY n sig i).length=pk (pR (n.sg.take i) 1) (ue n 1 x i) (ue n 1 x i).length
 |0,_=>rfl
 |i+1,hi=>by
  have ih:=Hb hm hf hF sY h1 hR hx i (by omega)
  have hwb:=nY hm hf (s:=(i:Nat)) (by unfold dr;omega)
  have IN:=oL hm (s:=(i:Nat)) (by unfold dr;omega)
  by_cases hk:aY n (i:Nat)=1
  ·have e1:iY n sig (i+1)=iY n sig i++sig.getD i default:=by rw[iY,if_pos hk]
   have e2:ue n 1 x (i+1)=ue n 1 x i++[x.getD i default]:=by rw[ue,if_pos hk]
   have e3:pR (n.sg.take (i+1)) 1=pR (n.sg.take i) 1++[(n.sg.getD i default).width]:=by rw[dm (by omega),rA (by rw[<-bG];exact hk)]
   have sE:=rJ n 1 x i (by omega)
   have sE:(ue n 1 x i).length=(pR (n.sg.take i) 1).length:=sE
   have CH:=hF i (by omega)
   have hB:=hR.bits (s:=i) (by omega) (by omega)
   have OL:=Ic h1 hB (by rw[CH];exact hx.Az i (by omega))
   unfold ln at OL
   have TL:dV (pR (n.sg.take i) 1) (pR (n.sg.take i) 1).length=((dU n 1 i:Nat):Int):=by
    rw[rI _ _ (Nat.le_refl _),List.take_length,BR hm 1 i (by omega)]
   rw[e1,e2,e3,List.length_append,yN _ _ _ _ (Nat.le_refl _),ih,OL,List.length_append,List.length_singleton,pk,Ha _ (by omega) (Nat.le_refl _),eh,sE,eh,vl _ (Nat.le_refl _),TL,oO hF i (by omega),Int.toNat_natCast]
   congr 2
   have hr:=hx.Az i (by omega)
   rw[<-pt,<-IN,Int.toNat_natCast,Int.emod_eq_of_lt hr.1 hr.2]
  ·have e1:iY n sig (i+1)=iY n sig i:=by rw[iY,if_neg hk]
   have e2:ue n 1 x (i+1)=ue n 1 x i:=by rw[ue,if_neg hk]
   have e3:pR (n.sg.take (i+1)) 1=pR (n.sg.take i) 1:=by rw[dm (by omega),yn (by rw[<-bG];exact hk)]
   rw[e1,e2,e3];exact ih
section
variable {n:aQ} (hm:aV n) (hf:ch n)
include hm hf
theorem Ft {i:Nat}(hi:i<n.aP.length):(dT n i).toNat<n.sg.length/\(((dT n i).toNat:Nat):Int)=dT n i:=by
 have h:=(gg hm hf hi).2.2.1
 unfold dr at h
 omega
theorem uf (v:List Int):∀i,i<=n.aP.length->qP n (zz n v i)
 |0,_=>⟨by simp[zz],fun s hs=>by
  have:=wD (wN n (s:Nat))
  have e:(zz n v 0).getD s default=0:=by simp[zz,List.getD_eq_getElem?_getD,hs]
  rw[e];exact⟨Int.le_refl _,this⟩⟩
 |i+1,hi=>by
  have ih:=uf v i (by omega)
  obtain⟨t1,t2⟩:=Ft hm hf (i:=i) (by omega)
  have hw:=nY hm hf (gg hm hf (i:=i) (by omega)).2.2.1
  rw[zz]
  split
  ·refine⟨by rw[List.length_set];exact ih.len,fun s hs=> ?_⟩
   rw[cH (by rw[ih.len];omega)]
   by_cases jr:s=(dT n i).toNat
   ·rw[if_pos jr,jr,t2];exact jJ hw _ _
   ·rw[if_neg jr];exact ih.Az s hs
  ·exact ih
theorem Km {v:List Int}{s:Nat}(hs:s<n.sg.length)(hk:aY n (s:Nat)=3):∀m,m<=n.aP.length->∀i,i<m->dT n i=(s:Nat)->(zz n v m).getD s default=lr v (wN n (s:Nat)) (cU n i)
 |0,_,i,hi,_=>absurd hi (Nat.not_lt_zero _)
 |m+1,wm,i,hi,ht=>by
  obtain⟨t1,t2⟩:=Ft hm hf (i:=m) (by omega)
  have hl:=(uf hm hf v m (by omega)).len
  rw[zz]
  by_cases HV:i=m
  ·subst HV
   rw[if_pos (by rw[ht];exact hk),cH (by rw[hl];exact t1),if_pos (by omega),ht]
  ·have hc:=oN hm hs hk
   have fD:dT n m≠(s:Nat):=fun h=>rz (R:=n.aP) (s:=(s:Nat)) (by rw[hc];omega) (show i<m by omega) (by omega) ht h
   have ih:=Km (v:=v) hs hk m (by omega) i (by omega) ht
   split
   ·rw[cH (by rw[hl];exact t1),if_neg (by omega)];exact ih
   ·exact ih
theorem Cb {v:List Int}{s:Nat}(hs:s<n.sg.length)(hk:aY n (s:Nat)≠3):∀m,m<=n.aP.length->(zz n v m).getD s default=0
 |0,_=>by simp[zz,List.getD_eq_getElem?_getD,hs]
 |m+1,wm=>by
  obtain⟨t1,t2⟩:=Ft hm hf (i:=m) (by omega)
  have hl:=(uf hm hf v m (by omega)).len
  rw[zz]
  split
  ·rename_i h3
   rw[cH (by rw[hl];exact t1),if_neg (fun he=>hk (by rw[he,t2];exact h3))]
   exact Cb hs hk m (by omega)
  ·exact Cb hs hk m (by omega)
omit hm hf in
theorem yO {j:Nat}(hm:aV n)(hf:ch n)(hj:j<n.ms.length):
  ((n.ms.getD j default).addr.toNat<n.sg.length/\wN n ((n.ms.getD j default).addr.toNat:Nat)=2)/\((n.ms.getD j default).write.toNat<n.sg.length/\wN n ((n.ms.getD j default).write.toNat:Nat)=1)/\((n.ms.getD j default).data.toNat<n.sg.length/\wN n ((n.ms.getD j default).data.toNat:Nat)=wN n (fa n j:Nat)):=by
 obtain⟨h1,h2,h3,h4⟩:=hm.ms j hj
 obtain⟨w1,w2,w3,_⟩:=G0 hm hf hj
 have ho:=(jB hm hj).2.1
 unfold dr at h1 h2 h3
 refine⟨⟨by omega,?_⟩,⟨by omega,?_⟩,by omega,?_⟩
 ·rw[show(((n.ms.getD j default).addr.toNat:Nat):Int)=(n.ms.getD j default).addr by omega];exact w1
 ·rw[show(((n.ms.getD j default).write.toNat:Nat):Int)=(n.ms.getD j default).write by omega];exact w2
 ·rw[show(((n.ms.getD j default).data.toNat:Nat):Int)=(n.ms.getD j default).data by omega,ho];exact w3
theorem Fu {v:List Int}(hv:qP n v){j:Nat}(hj:j<n.ms.length):CG n v j<4/\((CG n v j:Nat):Int)=v.getD (n.ms.getD j default).addr.toNat default:=by
 obtain⟨⟨h1,h2⟩,_⟩:=yO hm hf hj
 have h:=hv.Az _ h1
 rw[h2] at h
 obtain⟨g1,g2⟩:=h
 have g2:v.getD (n.ms.getD j default).addr.toNat default<4:=g2
 unfold CG
 omega
structure NvP (n:aQ)(v w:List Int)(j:Nat):Prop where
 val:qP n (pz n v w j).1
 len:(pz n v w j).2.length=w.length
 out:∀s,s<n.sg.length->(∀j',j'<j->fa n j'=s->(pz n v w j).1.getD s default=w.getD (4*j'+CG n v j') default)/\((∀j',j'<j->fa n j'≠s)->(pz n v w j).1.getD s default=(zz n v n.aP.length).getD s default)
 mem:∀j',j'<n.ms.length->∀a,a<4->(pz n v w j).2.getD (4*j'+a) default=if j'<j/\v.getD (n.ms.getD j' default).write.toNat default=1/\a=CG n v j' then v.getD (n.ms.getD j' default).data.toNat default else w.getD (4*j'+a) default
theorem Cc {v w:List Int}(hv:qP n v)(Sa:w.length=4*n.ms.length)(hw:∀j,j<n.ms.length->∀a,a<4->CA (wN n (fa n j:Nat)) (w.getD (4*j+a) default)):∀j,j<=n.ms.length->NvP n v w j
 |0,_=>⟨uf hm hf v _ (Nat.le_refl _),rfl,fun s hs=>⟨fun j' MW=>absurd MW (Nat.not_lt_zero _),fun _=>rfl⟩,fun j' MW a ha=>by rw[if_neg (by omega)];rfl⟩
 |j+1,hj=>by
  have ih:=Cc hv Sa hw j (by omega)
  obtain⟨o1,o2,_⟩:=jB hm (j:=j) (by omega)
  obtain⟨a1,a2⟩:=Fu hm hf hv (j:=j) (by omega)
  have e1:(pz n v w (j+1)).1=(pz n v w j).1.set (fa n j) (w.getD (4*j+CG n v j) default):=rfl
  have e2:(pz n v w (j+1)).2=if v.getD (n.ms.getD j default).write.toNat default=1 then(pz n v w j).2.set (4*j+CG n v j) (v.getD (n.ms.getD j default).data.toNat default) else(pz n v w j).2:=rfl
  refine⟨⟨by rw[e1,List.length_set];exact ih.val.len,fun s hs=> ?_⟩,?_,fun s hs=>⟨fun j' MW ho=> ?_,fun gM=> ?_⟩,fun j' MW a ha=> ?_⟩
  ·rw[e1,cH (by rw[ih.val.len];exact o1)]
   by_cases nj:s=fa n j
   ·rw[if_pos nj,nj];exact hw j (by omega) _ a1
   ·rw[if_neg nj];exact ih.val.Az s hs
  ·rw[e2]
   split
   ·rw[List.length_set];exact ih.len
   ·exact ih.len
  ·rw[e1,cH (by rw[ih.val.len];exact o1)]
   by_cases MX:j'=j
   ·subst MX
    rw[if_pos ho.symm]
   ·rw[if_neg (fun he=>vh hm (show j'<j by omega) (by omega) (by rw[ho,he]))]
    exact(ih.out s hs).1 j' (by omega) ho
  ·rw[e1,cH (by rw[ih.val.len];exact o1),if_neg (fun he=>gM j (by omega) he.symm)]
   exact(ih.out s hs).2 fun j' MW=>gM j' (by omega)
  ·rw[e2]
   have hm4:=ih.mem j' MW a ha
   by_cases DW:v.getD (n.ms.getD j default).write.toNat default=1
   ·rw[if_pos DW,cH (by rw[ih.len,Sa];omega)]
    by_cases hp:4*j'+a=4*j+CG n v j
    ·have MX:j'=j:=by omega
     subst MX
     rw[if_pos hp,if_pos ⟨by omega,DW,by omega⟩]
    ·rw[if_neg hp,hm4]
     by_cases hc:j'<j/\v.getD (n.ms.getD j' default).write.toNat default=1/\a=CG n v j'
     ·rw[if_pos hc,if_pos ⟨by omega,hc.2⟩]
     ·rw[if_neg hc,if_neg (fun h=>hc ⟨by
       by_cases MX:j'=j
       ·subst MX;exact absurd (by rw[h.2.2]) hp
       ·omega,h.2⟩)]
   ·rw[if_neg DW,hm4]
    by_cases hc:j'<j/\v.getD (n.ms.getD j' default).write.toNat default=1/\a=CG n v j'
    ·rw[if_pos hc,if_pos ⟨by omega,hc.2⟩]
    ·rw[if_neg hc,if_neg (fun h=>hc ⟨by
      by_cases MX:j'=j
      ·subst MX;exact absurd h.2.1 DW
      ·omega,h.2⟩)]
end
theorem Kn {v:Int}(h0:0<=v/\v<=31)(a0 a1 d e:Bool):(0<=iw v (bI a0+bI a1*2+bI d*4+bI e*8)/\iw v (bI a0+bI a1*2+bI d*4+bI e*8)<=31)/\tb (iw v (bI a0+bI a1*2+bI d*4+bI e*8)) 0=tb v (1+(bI a0+bI a1*2).toNat)/\∀c,c<4->tb (iw v (bI a0+bI a1*2+bI d*4+bI e*8)) (1+c)=if(e&&decide (c=(bI a0+bI a1*2).toNat)) then d else tb v (1+c):=by
 have h:=MZ ⟨v.toNat,by omega⟩ a0 a1 d e
 obtain⟨v',rfl⟩:=Int.eq_ofNat_of_zero_le h0.1
 simp only[Int.toNat_natCast] at h
 exact⟨h.1,h.2.1,fun c hc=>h.2.2 ⟨c,hc⟩⟩
theorem M1 {a:Int}(h:CA 2 a):(bI (tb a 0)+bI (tb a 1)*2).toNat=a.toNat:=by
 obtain⟨h1,h2⟩:=h
 have h2:a<4:=h2
 have g:=Kl ⟨a.toNat,by omega⟩
 obtain⟨a',rfl⟩:=Int.eq_ofNat_of_zero_le h1
 simp only[Int.toNat_natCast] at g
 rw[g]
theorem V8 {a:Int}(h:CA 1 a):tb a 0=decide (a=1):=by
 obtain⟨h1,h2⟩:=h
 have h2:a<2:=h2
 have g:=M0 ⟨a.toNat,by omega⟩
 obtain⟨a',rfl⟩:=Int.eq_ofNat_of_zero_le h1
 simp only[Int.toNat_natCast] at g
 rw[g]
 exact decide_eq_decide.2 (by omega)
theorem V9 {l:List Int}{k:Nat}:l.getD k default=g7 l k:=rfl
theorem OM {n:aQ}(hf:ch n){l:List Nat}(he:gQ n=some l)(hb:(dP n l).1.2=false){v w st:List Int}(h:V4 n v w st){ins:List Int}{ck:Int}
  (R7:∀s:Nat,s<n.sg.length->aY n (s:Nat)=0->∀k,k<wN n (s:Nat)->tb ck (dU n 0 s+k)=tb (ins.getD (nK n 0 s) default%2^wN n (s:Nat)) k):
  Fg (zx n l) st ck=pk (ee n 1) (ue n 1 (B5 n l v ins) n.sg.length) (ee n 1).length/\V4 n (pz n (B5 n l v ins) w n.ms.length).1 (pz n (B5 n l v ins) w n.ms.length).2 (mP (zx n l) st ck):=by
 have hm:=(dI hf).2
 obtain⟨_,jg,_⟩:=iW he
 have hl:∀i,i∈l->i<n.aP.length:=fun i hi=>(jg i hi).1
 have hN:=vf hf he
 obtain⟨Fv,yP⟩:=py hf he
 obtain⟨Xb,Jz,hR3⟩:=Fq hf he
 obtain⟨Ta,hM2⟩:=Fs hf he
 have hx:=B6 hm hf hl h.val ins
 obtain⟨x,IP⟩:∃x,x=B5 n l v ins:=⟨_,rfl⟩
 rw[<-IP] at hx⊢
 obtain⟨hU,Q0⟩:=H' hm hf hN Ta.ck Ta.len h R7
 obtain⟨U,hUe⟩:∃U,U=ko (zx n l) st ck:=⟨_,rfl⟩
 rw[<-hUe] at hU Q0
 have hbO:(bO n l).1.2=false:=by
  cases hc:(bO n l).1.2 with
  |false=>rfl
  |true=>rw[hR3 hc] at hb;exact hb
 obtain⟨u1,Q1⟩:=G9 hm hf hl hU (wU h.val ins) Q0 l.length (Nat.le_refl _) hbO
 have Q1:rV U (bO n l).1.1 (bO n l).2 x:=by rw[IP];exact Q1
 have jr:=oM.start Fv
 obtain⟨u2,Q2,F2⟩:=yA hm hf jr u1 Q1 n.sg.length (Nat.le_refl _) hb
 have sY:(bO n l).2.length=n.sg.length:=Fv.sig.len
 have Ld:=u2.My
 have hand:(zx n l).af=(dP n l).1.1.af:=yH _ _ _ _ _
 have hV:gC (zx n l) st ck=cu U (dP n l).1.1.af:=by
  rw[tW hN (by rw[h.fE];exact Ta.len.symm),<-hUe,hand]
 obtain⟨R,Tb⟩:∃R,R=(dP n l).1.1:=⟨_,rfl⟩
 obtain⟨sig,Wa⟩:∃sig,sig=(bO n l).2:=⟨_,rfl⟩
 have Q2:rV U R sig x:=by rw[Tb,Wa];exact Q2
 have F2:B9 n U x R n.sg.length:=by rw[Tb];exact F2
 have u2:fg U R:=by rw[Tb];exact u2
 rw[<-Tb] at hV
 rw[<-Wa] at yP sY
 have Wb:(zx n l).au.length=dU n 3 n.sg.length+jc n n.ms.length:=Ta.len
 have Wc:∀s,s<n.sg.length->∀k,k<4->a8 (cu U R.af) ((sig.getD s default).getD k default)=bI (tb (x.getD s default) k):=fun s hs k hk=>by
  rw[Ca Ld,V9,Q2.bit s (by omega) k hk];rfl
 have Fw:(mP (zx n l) st ck).length=dU n 3 n.sg.length+jc n n.ms.length:=by
  show(jH _ _ _ _).length=_
  rw[fJ,Wb]
 have RC:∀p,p<dU n 3 n.sg.length+jc n n.ms.length->(mP (zx n l) st ck).getD p default=gf (if p<dU n 3 n.sg.length then 0 else 1) (st.getD p default) (ln (cu U R.af) (sZ (G1 n l).1 p)):=fun p hp=>by
  show(jH _ _ _ _).getD p default=_
  rw[mQ _ _ _ (by rw[Wb];exact hp)]
  unfold uZ
  rw[hV,show((zx n l).au.getD p default).kind=_ from Ta.kind p (by rw[Ta.len];exact hp)]
  rfl
 have hq:(dP n l).2+jc n n.ms.length<=(dP n l).1.1.au.length:=by rw[Xb.len,Jz];omega
 obtain⟨m1,m2,m3⟩:=DT (sig:=(bO n l).2) hm hq n.ms.length (Nat.le_refl _)
 have s7:=Cc hm hf hx h.B7 h.OI n.ms.length (Nat.le_refl _)
 refine⟨?_,s7.val,by rw[s7.len];exact h.B7,fun j hj a ha=> ?_,fun s hs vV gM=> ?_,Fw,fun s hs vV k hk=> ?_,fun j hj k hk=> ?_⟩
 ·have e:=Hb hm hf yP sY Ld Q2 hx n.sg.length (Nat.le_refl _)
  rw[List.take_length,rJ n 1 x _ (Nat.le_refl _)] at e
  unfold nK at e
  rw[List.take_length] at e
  show ln (gC (zx n l) st ck) (iY n (bO n l).2 n.sg.length)=_
  rw[hV,<-Wa]
  exact e
 ·rw[s7.mem j hj a ha]
  split
  ·have hd:=(yO hm hf hj).2.2
   rw[<-hd.2];exact hx.Az _ hd.1
  ·exact h.OI j hj a ha
 ·rw[(s7.out s hs).2 gM]
  exact Cb hm hf hs vV _ (Nat.le_refl _)
 ·have h5:=oP n 3 vV
  have h6:=lB n 3 (i:=s+1) (j:=n.sg.length) (by omega)
  have hc:=oN hm hs vV
  obtain⟨i,hi,Xj⟩:=BV (R:=n.aP) (s:=(s:Nat)) (i:=n.aP.length) (by omega)
  have Xj:dT n i=(s:Nat):=Xj
  obtain⟨z,z1,z2,z3⟩:=F2 s hs vV i hi Xj k hk
  have yQ:sZ (G1 n l).1 (dU n 3 s+k)=[z]:=by
   have:=m2 (dU n 3 s+k) (by rw[Jz];omega)
   rw[<-Tb] at this
   rw[<-z1,<-this]
   unfold G1
   rw[<-Tb]
  rw[RC _ (by omega),if_pos (by omega),yQ,h.V5 s hs vV k hk,(s7.out s hs).2 (fun j hj ho=>by
   have:=(jB hm hj).2.2
   rw[ho] at this;omega),Km hm hf hs vV _ (Nat.le_refl _) i hi Xj,<-z3]
  have e1:ln (cu U R.af) [z]=if vB U R z then 1 else 0:=by
   show 0+a8 (cu U R.af) z*2^0=_
   rw[Ca Ld]
   cases vB U R z<;>rfl
  rw[e1]
  cases vB U R z<;>cases tb (v.getD s default) k<;>decide
 ·have ho:=jB hm hj
  have hmw:=wW hm hj
  have OF:=lC n (i:=j+1) (j:=n.ms.length) (by omega)
  obtain⟨⟨a1,a2⟩,⟨b1,b2⟩,d1,d2⟩:=yO hm hf hj
  have CF:=(nY hm hf (s:=(fa n j:Nat)) (by unfold dr;omega)).2
  obtain⟨g1,g2,g3⟩:=h.ram j hj k hk
  have yQ:sZ (G1 n l).1 (dU n 3 n.sg.length+jc n j+k)=p7 sig (n.ms.getD j default) k:=by
   have:=m3 j hj k hk
   rw[Jz,<-Wa] at this
   rw[<-this]
   unfold G1
   rw[Jz,<-Wa]
  obtain⟨ma1,ma2⟩:=Fu hm hf hx hj
  have hA:=hx.Az _ a1
  rw[a2] at hA
  have hWr:=hx.Az _ b1
  rw[b2] at hWr
  have e1:ln (cu U R.af) (p7 sig (n.ms.getD j default) k)=bI (tb (x.getD (n.ms.getD j default).addr.toNat default) 0)+bI (tb (x.getD (n.ms.getD j default).addr.toNat default) 1)*2+bI (tb (x.getD (n.ms.getD j default).data.toNat default) k)*4+bI (tb (x.getD (n.ms.getD j default).write.toNat default) 0)*8:=by
   rw[<-Wc _ a1 0 (by omega),<-Wc _ a1 1 (by omega),<-Wc _ d1 k (by omega),<-Wc _ b1 0 (by omega)]
   show 0+_*2^0+_*2^1+_*2^2+_*2^3=_
   rw[Int.zero_add]
   show _*1+_*2+_*4+_*8=_
   rw[Int.mul_one]
   rfl
  have e2:(bI (tb (x.getD (n.ms.getD j default).addr.toNat default) 0)+bI (tb (x.getD (n.ms.getD j default).addr.toNat default) 1)*2).toNat=CG n x j:=M1 hA
  obtain⟨r1,r2,r3⟩:=Kn g1 (tb (x.getD (n.ms.getD j default).addr.toNat default) 0) (tb (x.getD (n.ms.getD j default).addr.toNat default) 1) (tb (x.getD (n.ms.getD j default).data.toNat default) k) (tb (x.getD (n.ms.getD j default).write.toNat default) 0)
  rw[RC _ (by omega),if_neg (by omega),yQ,e1]
  have e3:∀i,gf 1 (st.getD (dU n 3 n.sg.length+jc n j+k) default) i=iw (st.getD (dU n 3 n.sg.length+jc n j+k) default) i:=fun i=>by
   unfold gf
   rw[if_neg (by omega),if_pos ⟨rfl,g1⟩]
  rw[e3]
  refine⟨r1,?_,fun a ha=> ?_⟩
  ·rw[r2,e2,g3 _ ma1,(s7.out _ ho.1).1 j hj rfl]
  ·rw[r3 a ha,e2,s7.mem j hj a ha,g3 a ha,V8 hWr]
   by_cases DW:x.getD (n.ms.getD j default).write.toNat default=1
   ·by_cases Xk:a=CG n x j
    ·rw[if_pos (by rw[decide_eq_true DW,decide_eq_true Xk];rfl),if_pos ⟨hj,DW,Xk⟩]
    ·rw[if_neg (by rw[decide_eq_false Xk,Bool.and_false];decide),if_neg (fun hh=>Xk hh.2.2)]
   ·rw[if_neg (by rw[decide_eq_false DW,Bool.false_and];decide),if_neg (fun hh=>DW hh.2.1)]
end Go.Xw
end
section
namespace Go.Xw
open Go.Proofs
set_option maxHeartbeats 1000000
def jj (n:aQ):List Int:=(List.range n.sg.length).map fun(s:Nat)=>iy n (s:Nat)%2^wN n (s:Nat)
theorem mY {n:aQ}{s:Nat}(hs:s<n.sg.length):(jj n).getD s default=iy n (s:Nat)%2^wN n (s:Nat):=by
 unfold jj
 simp[List.getD_eq_getElem?_getD,hs]
theorem Fx (n:aQ):qP n (jj n):=⟨by simp[jj],fun s hs=>by
 rw[mY hs]
 have:=wD (wN n (s:Nat))
 exact⟨Int.emod_nonneg _ (by omega),Int.emod_lt_of_pos _ (by omega)⟩⟩
theorem ON {n:aQ}(hm:aV n){s:Nat}(hs:s<n.sg.length)(hk:aY n (s:Nat)≠3):iy n (s:Nat)=0:=by
 have h:=(hm.sg s hs).2.2
 rw[bG] at hk
 unfold iy
 rw[Int.toNat_natCast]
 omega
def mZ (n:aQ):List Int:=List.replicate (4*n.ms.length) 0
theorem yR (n:aQ)(i:Nat):(mZ n).getD i default=0:=by
 unfold mZ
 by_cases h:i<4*n.ms.length
 ·simp[List.getD_eq_getElem?_getD,h]
 ·rw[List.getD_eq_getElem?_getD,List.getElem?_eq_none (by simp;omega)];rfl
theorem Sb {x:Int}{k w:Nat}(hk:k<w):tb (x%2^w) k=tb x k:=by
 have h:=DO (x:=x) (a:=0) hk
 simp only[Nat.zero_add,Int.pow_zero,Int.ediv_one] at h
 exact h.symm
section
variable {n:aQ} (hf:ch n) {l:List Nat} (he:gQ n=some l)
include hf he
theorem Ie:fW (zx n l)=fW (kq n):=by
 have hm:=(dI hf).2
 obtain⟨Fv,_⟩:=py hf he
 refine DU ?_
 have h1:iL (zx n l)=iL (dP n l).1.1:=yL _ _ _ _ _
 have h2:iL (dP n l).1.1=iL (bO n l).1.1:=AK hm (oM.start Fv) n.sg.length (Nat.le_refl _)
 rw[h1,h2,Fv.eq];rfl
theorem DX:V4 n (jj n) (mZ n) (fW (zx n l)):=by
 have hm:=(dI hf).2
 have sj:(kq n).au.length=dU n 3 n.sg.length+jc n n.ms.length:=jA _ _ _ _
 rw[Ie hf he]
 have Ko:∀p,p<dU n 3 n.sg.length+jc n n.ms.length->(fW (kq n)).getD p default=((ni [0] [0,0,0,0] n n.ms.length).getD p default).init:=fun p hp=>tX fS.init (by rw[sj];exact hp)
 refine⟨Fx n,by simp[mZ],fun j hj a ha=> ?_,fun s hs hk _=> ?_,?_,fun s hs hk k p6=> ?_,fun j hj k hk=> ?_⟩
 ·rw[yR]
  exact⟨Int.le_refl _,wD _⟩
 ·rw[mY hs,ON hm hs hk,Int.zero_emod]
 ·unfold fW
  rw[List.length_map,sj]
 ·have h5:=oP n 3 hk
  have h6:=lB n 3 (i:=s+1) (j:=n.sg.length) (by omega)
  rw[Ko _ (by omega),G' n _ _ (by omega),yM n _ s hs hk k p6,mY hs,Sb p6]
  unfold tb
  have:iy n (s:Nat)/2^k%2=0\/iy n (s:Nat)/2^k%2=1:=by omega
  rcases this with h|h<;>rw[h]<;>decide
 ·have ho:=jB hm hj
  have hmw:=wW hm hj
  have OF:=lC n (i:=j+1) (j:=n.ms.length) (by omega)
  have hp:dU n 3 n.sg.length+jc n j+k<(ni [0] [0,0,0,0] n n.ms.length).length:=by
   have:=jA [0] [0,0,0,0] n n.ms.length
   omega
  have hz:((ni [0] [0,0,0,0] n n.ms.length).getD (dU n 3 n.sg.length+jc n j+k) default).init=0:=by
   have BA:=yq [0] [0,0,0,0] n n.ms.length _ hp
   rw[if_neg (by omega)] at BA
   rcases wO (aK hp) with⟨g1,_⟩|⟨_,g2,_⟩
   ·rw[BA] at g1;exact absurd g1 (by decide)
   ·exact g2
  rw[Ko _ (by omega),hz,mY ho.1,ON hm ho.1 (by omega),Int.zero_emod]
  refine⟨by decide,by rw[ud,ud],fun a _=>by rw[yR,ud,ud]⟩
end
noncomputable def CI (n:aQ)(l:List Nat)(j9:List (List Int)):Nat->List Int×List Int
 |0=>(jj n,mZ n)
 |t+1=>pz n (B5 n l (CI n l j9 t).1 (j9.getD t default)) (CI n l j9 t).2 n.ms.length
noncomputable def vm (n:aQ)(l:List Nat)(j9:List (List Int))(t:Nat):List Int:=ue n 1 (B5 n l (CI n l j9 t).1 (j9.getD t default)) n.sg.length
theorem Fy {n:aQ}(hf:ch n){k:Int}(hs:cT (ee n k)<=8):yx (ee n k):=by
 have hm:=(dI hf).2
 refine⟨MT hm hf k,?_⟩
 rw[rI _ _ (Nat.le_refl _),List.take_length]
 omega
theorem yT {xs ys:List Int}(hl:xs.length=ys.length)(hw:yx xs):Go.Proofs.iu xs ys=pk xs ys xs.length:=by
 unfold Go.Proofs.iu
 rw[if_pos ⟨hl,Kc hw⟩]
theorem Kp (n:aQ)(l:List Nat)(j9:List (List Int))(t:Nat):(vm n l j9 t).length=(ee n 1).length:=by
 unfold vm
 rw[rJ n 1 _ _ (Nat.le_refl _)]
 unfold nK
 rw[List.take_length];rfl
section
variable {n:aQ} (hf:ch n) {l:List Nat} (he:gQ n=some l) (hb:(dP n l).1.2=false) {j9:List (List Int)} (jg:∀t,t<j9.length->(j9.getD t default).length=(ee n 0).length) {P:List Int} (hP:∀t,t<j9.length->P.getD t default=Go.Proofs.iu (ee n 0) (j9.getD t default))
include hf he hb jg hP
theorem Kq {t:Nat}(ht:t<j9.length):∀s:Nat,s<n.sg.length->aY n (s:Nat)=0->∀k,k<wN n (s:Nat)->tb (P.getD t default) (dU n 0 s+k)=tb ((j9.getD t default).getD (nK n 0 s) default%2^wN n (s:Nat)) k:=fun s hs CB k hk=>by
 have hm:=(dI hf).2
 have hw:=Fy hf (k:=0) hf.s0
 rw[hP t ht,yT (jg t ht).symm hw,DO hk]
 obtain⟨g1,g2⟩:=OH 0 hs CB
 have hd:=DN (xs:=ee n 0) (ys:=j9.getD t default) hw.1 g1
 have IN:=oL hm (s:=(s:Nat)) (by unfold dr;omega)
 rw[MS hm 0 (by omega),g2,<-IN,Int.toNat_natCast,Int.toNat_natCast] at hd
 rw[hd]
theorem Kr:∀t,t<=j9.length->V4 n (CI n l j9 t).1 (CI n l j9 t).2 (BH (zx n l) P t)
 |0,_=>DX hf he
 |t+1,ht=>(OM hf he hb (Kr t (by omega)) (Kq hf he hb jg hP (by omega))).2
theorem M3 {W:List Int}(hW:∀t,t<j9.length->W.getD t default=Go.Proofs.iu (ee n 1) (vm n l j9 t))(OO:W.length=j9.length)(AL:P.length=j9.length):pZ (zx n l) P=W:=by
 have hw:=Fy hf (k:=1) hf.s1
 unfold pZ
 rw[AL]
 have key:∀t,t<=j9.length->pP (zx n l) P t=W.take t:=fun t=>by
  induction t with
  |zero=>exact fun _=>rfl
  |succ t ih=>
   intro ht
   rw[pP,ih (by omega),dm (by omega),hW t (by omega),yT (Kp n l j9 t).symm hw]
   rw[(OM hf he hb (Kr hf he hb jg hP t (by omega)) (Kq hf he hb jg hP (by omega))).1]
   rfl
 rw[key _ (Nat.le_refl _),<-OO,List.take_length]
theorem M4 {W:List Int}(hW:∀t,t<j9.length->W.getD t default=Go.Proofs.iu (ee n 1) (vm n l j9 t))(OO:W.length=j9.length)(AL:P.length=j9.length):pZ (B0 n).1 P=W:=by
 rw[rH he hf hb]
 show pZ (tU (zx n l)) P=W
 rw[Kk (vf hf he)]
 exact M3 hf he hb jg hP hW OO AL
end
end Go.Xw
end
