/- Texts that belong together; each under its stated conditions. -/
import Derived.Test.YtiepmliokblkjaaGreatBrf
import Derived.Test.YtiepmliokblkjaaGreatMapLaw
import Derived.Test.YtiepmliokblkjaaGreatDes9
import Derived.Test.YtiepmliokblkjaaGreatElabI
import Derived.Test.YtiepmliokblkjaaGreatElabS
import Derived.Test.YtiepmliokblkjaaGreatSimHash2
import Derived.Test.YtiepmliokblkjaaGreatStep
import Derived.ProofKit
set_option linter.all false
section
namespace Go.Proofs
open Go.Xw
set_option maxRecDepth 100000
set_option maxHeartbeats 1000000
attribute [local irreducible] ax aE
theorem zT (k v i:Int)(w:World):bN Tryz.prog 131 [.int .i64 k,.int .i64 v,.int .i64 i] w (fun r w'=>r= .int .i64 (gf k v i)/\Ext w w'):=
 (xY k v i w).mono fun _ _ ⟨h1,h2⟩=>⟨h1,by rw[h2];exact Ext.refl _⟩
theorem ID (x:bf)(a:Option Addr)(c:Nat)(st:List Int)(m:Nat)(hm:st.length=m)(ck:Int)(w0:World)(hX:fG w0 x)(aS:aj x.n)(jr:VQ x.n st)(hR:Rd w0 a 1 eI st):
  bN Tryz.prog 72 [x.v,.slice a m c,.int .i64 ck] w0 (fun v w=>∃b c',v= .tuple ⟨[.slice b (mP x.n st ck).length c',.int .i64 (Fg x.n st ck)]⟩/\Hp w0 w [rO 3 1 eI b c' (mP x.n st ck)]):=by
 subst hm
 have hlen:st.length=x.au.length:=by rw[jr.1,x.fE]
 have vv:=aS.nodes
 have Om:=aS.ei.n2
 have iA:=aS.jR
 refine eu Tryz.Vo ?_;intro C hp;skip;refine bP hp ?_;intro w b3 hx hp;refine az ?_;refine aI hp ?_
 refine cy Tryz.func130 (BG x a c st ck _ hp.dR aS hp.rd hlen) ?_;rintro _ w ⟨b8,c8,rfl,hq⟩;have hx:=hq.x;have hp:=hp.bJ hq;refine az ?_;refine aI hp ?_
 refine eg [1,3,8,9,17,18,19] (fun(i:Nat) (b:Option Addr) (c9:Nat)=>[(1,.slice a st.length c),(3,.pointer (some ⟨b3,0,none⟩)),(8,.slice b8 (dF x.n) c8),(9,.slice b (jH x.n st (gC x.n st ck) i).length c9),(17,.slice x.sa x.au.length x.sc),(18,.int .i64 x.au.length),(19,.int .i64 (i:Int))])
  (fun i b c9 w'=>i<=x.au.length/\Hp w0 w' [rO 3 1 eI b c9 (jH x.n st (gC x.n st ck) i),rO 3 1 eI b8 c8 (gC x.n st ck),rB b3 33 x.cs]) (fun i _ _=>x.au.length-i) 0 none 0 rfl ⟨by omega,hp.eH (Ext.refl _) (dk.nil _ _ _ _ _)⟩ ?_
 rintro i b c9 w1 ⟨hi,hp⟩ IH C
 have Fw:=fJ x.n st (gC x.n st ck) i
 refine bL ?_
 apply ae<;>intro bD
 ·have aF:i<x.au.length:=by omega
  have jg:=hX.au.at_ aF
  have Sk:=aS.ins aF
  refine aN ?_;refine bb hp ?_
  refine bP hp ?_;intro w wX hx hp;refine az ?_;refine aW hp ?_;intro w hp;refine az ?_
  refine j7 hp ?_;intro w hx hp;have hs:=hp;(repeat(refine ah ?_;first|refine dN ?_|refine fc ?_))
  refine oW Tryz.func132 (xZ _ _ _ _ (gC x.n st ck) (x.au.getD i default).ins _ _ (Aq _ _ _) rfl _ hp.rd hp.rd (oC _ _ _) (Z' aS aF) (by omega) (by omega)) ?_;rintro _ w ⟨rfl,hx⟩;have hp:=hp.ext hx;have hs:=hs.ext hx;refine⟨fun _=>hs,?_⟩;refine fO ?_;(repeat(first|(refine aG ?_;first|refine cx rfl rfl rfl ?_|refine dB rfl rfl rfl ?_)|(refine ah ?_;first|refine dN ?_|refine fc ?_|refine lH rfl (by omega) rfl rfl rfl ?_|refine jb rfl (by omega) (by omega) rfl rfl rfl ?_|refine iC rfl (by omega) (by omega) rfl rfl rfl ?_)|(refine aH ?_;(first|refine Ah hp rfl rfl rfl rfl (by kernel_rfl) ?_|refine uT hp rfl rfl rfl rfl (by kernel_rfl) ?_|refine Bq hp rfl rfl rfl (by omega) (by decide) rfl rfl (by kernel_rfl) ?_|refine Ai hp rfl rfl rfl (by omega) (by decide) rfl rfl (by kernel_rfl) ?_);intro w hp;refine fO ?_)|(refine bK ?_;refine qv (fun _ hx=>hs.ext hx) hp rfl rfl rfl rfl rfl rfl rfl rfl rfl rfl ?_;intro w _ hx hp;have hs:=hs.ext hx;refine fO ?_)|refine aq ?_|(refine dA ?_;first|refine iD hp rfl ?_|refine Pu hp rfl rfl ?_|refine bg hp rfl ?_)))
  refine oW Tryz.func131 (zT (x.au.getD i default).kind (st.getD i default) (ln (gC x.n st ck) (x.au.getD i default).ins) _) ?_;rintro _ w ⟨rfl,hx⟩;have hp:=hp.ext hx;have hs:=hs.ext hx;refine⟨fun _=>hs,?_⟩;refine fO ?_;refine qv (fun _ hx=>hs.ext hx) hp rfl rfl rfl rfl rfl rfl rfl rfl rfl rfl ?_;intro w _ hx hp;have hs:=hs.ext hx;refine fO ?_
  refine gW hp rfl rfl rfl rfl rfl rfl rfl (by decide) rfl (zl) rfl rfl (by kernel_rfl) ?_;intro b' c' w hp bZ;refine fO ?_
  have e:jH x.n st (gC x.n st ck) (i+1)=jH x.n st (gC x.n st ck) i++[gf (x.au.getD i default).kind (st.getD i default) (ln (gC x.n st ck) (x.au.getD i default).ins)]:=by
   rw[jH,uZ,x.VJ,x.rT]
  refine IH (i+1) b' c' _ _ _ (by omega) (by rw[e];rfl) ⟨by omega,?_⟩
  rw[e]
  exact hp.sub (by simp)
 ·refine aM ?_;refine aI hp ?_
  obtain rfl:i=x.au.length:=by omega
  refine bQ hp Tryz.func132 (xZ _ _ _ _ (gC x.n st ck) x.outs _ _ (Aq _ _ _) rfl _ hp.rd hp.rd (oC _ _ _) (Z9 aS) (by omega) (by omega)) ?_;intro w hx hp;refine aq ?_
  have e:mP x.n st ck=jH x.n st (gC x.n st ck) x.au.length:=by rw[mP,x.fE]
  rw[e]
  exact⟨b,c9,rfl,hp.sub (by simp)⟩
theorem Cy (x:bf)(a:Option Addr)(c:Nat)(ins:List Int)(w0:World)(hX:fG w0 x)(aS:aj x.n)(hS:kK x.n)(hR:Rd w0 a 1 eI ins)(hL:ins.length<=16):
  bN Tryz.prog 21 [x.v,.slice a ins.length c] w0 (fun v w=>∃b c',v= .slice b (pZ x.n ins).length c'/\Hp w0 w [rO 3 1 eI b c' (pZ x.n ins)]):=by
 refine eu Tryz.Js ?_;intro C hp;skip;refine bP hp ?_;intro w b2 hx hp;refine az ?_;refine aI hp ?_
 refine bQ hp Tryz.func68 ((lj x _ hp.dR hS).tt (fj aS)) ?_;intro w hx hp;(repeat(refine aO ?_))
 refine mE (decide_eq_false (by omega)) rfl ?_;refine aI hp ?_
 refine cy Tryz.func71 (Ff x _ hp.dR aS) ?_;rintro _ w ⟨b5,c5,rfl,hq⟩;have hx:=hq.x;have hp:=hp.bJ hq;refine az ?_
 refine lU [2,5,6,21,22,23] (fun(k:Nat) (b5:Option Addr) (c5:Nat) (b6:Option Addr) (c6:Nat)=>[(2,.pointer (some ⟨b2,0,none⟩)),(5,.slice b5 (BH x.n ins k).length c5),(6,.slice b6 (pP x.n ins k).length c6),(21,.slice a ins.length c),(22,.int .i64 ins.length),(23,.int .i64 (k:Int))])
  (fun k b5 c5 b6 c6 w'=>k<=ins.length/\Hp w0 w' [rO 3 1 eI b6 c6 (pP x.n ins k),rO 3 1 eI b5 c5 (BH x.n ins k),rB b2 33 x.cs]) (fun k _ _ _ _=>ins.length-k) 0 b5 c5 none 0 rfl ⟨by omega,hp.eH (Ext.refl _) (dk.nil _ _ _ _ _)⟩ ?_
 rintro k b5 c5 b6 c6 w1 ⟨hk,hp⟩ IH C
 have CH:=As x.n ins k
 refine bL ?_
 apply ae<;>intro bD
 ·have aF:k<ins.length:=by omega
  refine aN ?_;(repeat(refine ah ?_;first|refine aI hp ?_|refine bb hp ?_))
  refine cy Tryz.func72 (ID x _ _ (BH x.n ins k) _ rfl (ins.getD k default) _ hp.dR aS (Dj aS ins k) hp.rd) ?_;rintro _ w ⟨b9,c9,rfl,hq⟩;have hx:=hq.x;have hp:=hp.bJ hq;refine az ?_;refine gG hp ?_;intro w _ hx hp;refine az ?_
  refine gT hp ?_;intro b' c' w hp bZ;refine az ?_
  refine IH (k+1) b9 c9 b' c' _ _ _ (by omega) rfl ⟨by omega,?_⟩
  exact hp.drop.f1.sub (.cons_cons _ (.cons_cons _ (.cons _ (.refl _))))
 ·refine aM ?_;refine aq ?_
  obtain rfl:k=ins.length:=by omega
  exact⟨b6,c6,rfl,hp.sub (by simp;exact .inl rfl)⟩
noncomputable def mH (n:ao)(ins:List Int):List Int:=if nP n=true/\ins.length<=16 then pZ n ins else[]
theorem Ew {n:ao}{ins:List Int}(h:aj n)(hl:ins.length<=16):mH n ins=pZ n ins:=by rw[mH,if_pos ⟨fj h,hl⟩]
theorem Hv {n:ao}{ins:List Int}(h:¬(aj n/\ins.length<=16)):mH n ins=[]:=by rw[mH,if_neg (fun hh=>h ⟨sM.1 hh.1,hh.2⟩)]
theorem Cz (x:bf)(a:Option Addr)(c:Nat)(ins:List Int)(w0:World)(hX:fG w0 x)(hS:kK x.n)(hW:nq x.n)(hR:Rd w0 a 1 eI ins)(hL:ins.length<=1048576)(hV:∀i,i<ins.length->da (ins.getD i default)):
  bN Tryz.prog 21 [x.v,.slice a ins.length c] w0 (fun v w=>∃b c',v= .slice b (mH x.n ins).length c'/\Hp w0 w [rO 3 1 eI b c' (mH x.n ins)]):=by
 by_cases aS:aj x.n
 ·by_cases hl:ins.length<=16
  ·rw[Ew aS hl]
   exact Cy x a c ins w0 hX aS hS hR hl
  ·rw[Hv (fun h=>hl h.2)]
   refine eu Tryz.Js ?_;intro C hp;skip;refine bP hp ?_;intro w b2 hx hp;refine az ?_;refine aI hp ?_
   refine bQ hp Tryz.func68 ((lj x _ hp.dR hS).tt (fj aS)) ?_;intro w hx hp;(repeat(refine aO ?_))
   refine CV (decide_eq_true (by omega)) rfl ?_;refine aq ?_
   exact⟨none,0,rfl,(Hp.sy hp.x).eH (Ext.refl _) (dk.nil _ _ _ _ _)⟩
 ·rw[Hv (fun h=>aS h.1)]
  refine eu Tryz.Js ?_;intro C hp;skip;refine bP hp ?_;intro w b2 hx hp;refine az ?_;refine aI hp ?_
  refine bQ hp Tryz.func68 ((lj x _ hp.dR hS).ff (cY aS)) ?_;intro w hx hp;(repeat(refine ba ?_))
  refine aN ?_;refine aq ?_
  exact⟨none,0,rfl,(Hp.sy hp.x).eH (Ext.refl _) (dk.nil _ _ _ _ _)⟩
end Go.Proofs
end
section
namespace Go.Xw
open Go.Proofs
theorem Hw (n:aQ):B0 n=(default,false)\/∃l,gQ n=some l/\ch n/\(dP n l).1.2=false:=by
 by_cases hf:ch n
 ·obtain⟨l,hl⟩:=Option.isSome_iff_exists.1 hf.ev
  cases hb:(dP n l).1.2 with
  |true=>exact .inl (wS hl hb)
  |false=>exact .inr ⟨l,hl,hf,hb⟩
 ·exact .inl (yw hf)
theorem NI {n:aQ}(h:(B0 n).2=true):∃l,gQ n=some l/\ch n/\(dP n l).1.2=false:=by
 rcases Hw n with h2|h2
 ·rw[h2] at h;exact Bool.noConfusion h
 ·exact h2
theorem K7 {n:aQ}(h:(B0 n).2=false):(B0 n).1=default:=by
 rcases Hw n with h2|⟨l,hl,hf,hb⟩
 ·rw[h2]
 ·rw[rH hl hf hb] at h;exact Bool.noConfusion h
noncomputable def SQ (P:List Int)(G:Nat->List Int):Nat->List Int
 |0=>[]
 |t+1=>SQ P G t++[Go.Proofs.iu P (G t)]
theorem uy (P:List Int)(G:Nat->List Int):∀t,(SQ P G t).length=t
 |0=>rfl
 |t+1=>by rw[SQ,List.length_append,uy P G t];rfl
theorem w8 (P:List Int)(G:Nat->List Int){i:Nat}:∀t,i<t->(SQ P G t).getD i default=Go.Proofs.iu P (G i)
 |0,h=>absurd h (Nat.not_lt_zero _)
 |t+1,h=>by
  rw[SQ]
  by_cases hi:i<t
  ·rw[du (by rw[uy];exact hi)]
   exact w8 P G t hi
  ·obtain rfl:i=t:=by omega
   have h2:=uy P G i
   rw[List.getD_eq_getElem?_getD,List.getElem?_append_right (by omega),h2,Nat.sub_self];rfl
theorem K8 {n:aQ}(hf:ch n)(k:Int)(hs:cT (ee n k)<=8){ys:List Int}(hl:(ee n k).length=ys.length):da (Go.Proofs.iu (ee n k) ys):=by
 have hw:=Fy hf hs
 rw[yT hl hw]
 have h1:=G3 (ys:=ys) hw.1
 have h2:=hw.2
 have h3:(dV (ee n k) (ee n k).length).toNat<21:=by omega
 have key:∀m:Fin 21,(2:Int)^m.val<=1048576:=by decide
 have h4:=key ⟨_,h3⟩
 unfold da
 dsimp only at h4
 omega
end Go.Xw
namespace Go.Proofs
open Go.Xw
set_option maxRecDepth 100000
set_option maxHeartbeats 4000000
attribute [local irreducible] ax aE
theorem F6 (a b:Option Addr)(c d:Nat)(X:List Int)(w0:World)(hA:Rd w0 a 1 eI X)(hB:Rd w0 b 1 eI X)(hl:X.length<=1000000):
  bN Tryz.prog 20 [.slice a X.length c,.slice b X.length d] w0 (fun v w=>v= .bool true/\Ext w0 w):=by
 refine eu Tryz.UY ?_;intro C hp
 refine mE (by simp) rfl ?_
 refine aR [0,1,5] (fun(i:Nat)=>[(0,.slice a X.length c),(1,.slice b X.length d),(5,.int .i64 (i:Int))])
  (fun i w'=>i<=X.length/\Hp w0 w' []) (fun i=>X.length-i) 0 rfl ⟨by omega,hp⟩ ?_
 rintro i w1 ⟨hi,hp⟩ IH C
 refine bL ?_
 apply ae<;>intro bD
 ·have aF:i<X.length:=by omega
  refine aN ?_
  refine fR hp ?_;(repeat(refine jE rfl (by omega) rfl rfl rfl ?_))
  refine dc ?_;intro w hp C;refine bL ?_
  refine mE (by simp) rfl ?_
  exact IH (i+1) _ _ _ (by omega) rfl ⟨by omega,hp⟩
 ·refine aM ?_;refine aq ?_
  exact⟨rfl,hp.x⟩
theorem q8 (a b:Option Addr)(ca cb:Nat)(xs ys:List Int)(m n:Nat)(hm:xs.length=m)(hn:ys.length=n)(w:World)(ha:Rd w a 1 eI xs)(hb:Rd w b 1 eI ys)(hl:m<1000000000):
  bN Tryz.prog 17 [.slice a m ca,.slice b n cb] w (fun v w'=>v= .int .i64 (iu xs ys)/\Ext w w'):=by
 subst hm;subst hn;exact wC a b ca cb xs ys w ha.h hb.h hl
theorem uz (w0:World)(a:Option Addr)(c:Nat)(code:List Int)(hR:Rd w0 a 1 xt code)(hM:code.length<=maxLen)(hB:SE code):
  bN Tryz.prog 4 [.slice a code.length c] w0 (fun v w=>v= .bool true/\Ext w0 w):=by
 have hM':(code.length:Int)<=9223372036854775807:=by unfold maxLen at hM;omega
 refine eu Tryz.X9 ?_;intro C hp
 refine bQ hp Tryz.func14 (WG a code.length c _) ?_;intro w hx hp
 apply ae<;>intro hbig
 ·refine aN ?_;refine aq ?_
  exact⟨rfl,hp.x⟩
 ·refine aM ?_
  refine cy Tryz.func15 (FY a c code _ hp.rd hB (by omega)) ?_
  rintro _ w ⟨x,R,ra,rc,⟨rfl,To,fF,fP⟩,hq⟩
  have hp:Hp w0 w [_,_,_]:=hp.call hq
  clear hq
  refine az ?_
  refine bP hp ?_;intro w b3 hx hp;refine az ?_;(repeat(first|(refine ah ?_;refine aI hp ?_)|(refine aH ?_;refine aW hp ?_;intro w hp;refine az ?_)))
  have WW:=To.s
  have hfw:=To.mw
  refine cy Tryz.func6 (F0 x _ hp.mod WW hfw) ?_;rintro _ w ⟨yS,⟨eS,rfl⟩,hq⟩;have hx:=hq.x;have hp:=hp.bJ hq;refine az ?_
  refine bP hp ?_;intro w b5 hx hp;refine az ?_;(repeat(first|(refine ah ?_;refine aI hp ?_)|(refine aH ?_;refine aW hp ?_;intro w hp;refine az ?_)))
  refine cy Tryz.func8 (FZ x _ hp.mod WW hfw) ?_;rintro _ w ⟨yG,⟨eG,rfl⟩,hq⟩;have hx:=hq.x;have hp:=hp.bJ hq;refine az ?_
  refine bP hp ?_;intro w b7 hx hp;refine az ?_;refine aW hp ?_;intro w hp;refine az ?_
  refine mE (by simp) rfl ?_
  cases IM:(B0 x.n).2 with
  |false=>
   refine aN ?_;refine aI hp ?_;refine aq ?_
   have h0:yG.af=[]:=by
    have:=congrArg ao.af (eG.trans (K7 IM))
    exact this
   exact⟨by rw[h0];rfl,hp.x⟩
  |true=>
   refine aM ?_;(repeat(first|(refine ah ?_;refine aI hp ?_)|(refine bK ?_;refine gG hp ?_;intro w _ hx hp;refine az ?_)))
   obtain⟨l,he,hf,hb⟩:=NI IM
   have WX:x.sg.length<=30:=To.l1
   have I2:∀k,(ee x.n k).length<=30:=fun k=>by have:(ee x.n k).length<=x.sg.length:=po x.n.sg k;omega
   have aS:aj yG.n:=by rw[eG,rH he hf hb];exact Dk (vf hf he)
   have hmp:K3 yG.n:=by rw[eG,rH he hf hb];exact SP (vf hf he)
   rename_i b9 ng
   have rr:Ec w ra R:=⟨hp.rd,fun r hr=>⟨kp.h w hp r hr⟩⟩
   refine cy Tryz.func16 (It x hf he WW hfw R ra rc (by omega) fP _ hp.mod rr) ?_
   rintro _ w ⟨Q,qa,qc,rfl,uF,hQ,hq⟩
   have hp:=hp.call2 hq
   clear hq
   have XB:R.length≠0->ra≠none:=fun h=>rr.row.h.1 (by omega)
   have XB:=XB (by omega)
   have Kj:qa≠none:=(show Rd w qa 1 (jl (α:=Int)) Q from hp.rd).h.1 (by omega)
   refine az ?_
   obtain⟨PF,Tt⟩:∃f,f=SQ (ee x.n 0) (fun i=>(R.getD i default).ins):=⟨_,rfl⟩
   obtain⟨WF,WY⟩:∃f,f=SQ (ee x.n 1) (vm x.n l (aJ R)):=⟨_,rfl⟩
   have hP1:∀t,PF (t+1)=PF t++[iu (ee x.n 0) (R.getD t default).ins]:=fun t=>by rw[Tt];rfl
   have hW1:∀t,WF (t+1)=WF t++[iu (ee x.n 1) (vm x.n l (aJ R) t)]:=fun t=>by rw[WY];rfl
   have AL:∀t,(PF t).length=t:=fun t=>by rw[Tt];exact uy _ _ t
   have OO:∀t,(WF t).length=t:=fun t=>by rw[WY];exact uy _ _ t
   refine lU [3,4,7,9,10,11,12] (fun(t:Nat) (pa:Option Addr) (pc:Nat) (wa:Option Addr) (wc:Nat)=>[(3,.pointer (some ⟨b3,0,none⟩)),(4,.slice ra R.length rc),(7,.pointer (some ⟨b7,0,none⟩)),(9,.slice pa (PF t).length pc),(10,.slice wa (WF t).length wc),(11,.slice qa R.length qc),(12,.int .i64 (t:Int))])
    (fun t pa pc wa wc w'=>t<=R.length/\Hp w0 w' [rO 31 1 jl qa qc Q,cD 3 1 eI Q,rO 3 1 eI wa wc (WF t),rO 3 1 eI pa pc (PF t),rB b7 33 yG.cs,dv yG,rB b3 41 x.cs,rO 31 1 jl ra rc R,cD 3 1 eI R,mS x]) (fun t _ _ _ _=>R.length-t) 0 _ _ _ _ (by rw[show PF 0=[] by rw[Tt];rfl,show WF 0=[] by rw[WY];rfl];rfl) ⟨by omega,?_⟩ ?_
   ·rw[show PF 0=[] by rw[Tt];rfl,show WF 0=[] by rw[WY];rfl]
    exact((hp.f6.drop).f6.drop)
   clear hp
   rintro t pa pc wa wc w1 ⟨ht,hp⟩ IH C
   have hPt:=AL t
   have hWt:=OO t
   refine bL ?_
   apply ae<;>intro bD
   ·have aF:t<R.length:=by omega
    have rt:∀L',gm w0 (cD 3 1 eI R::L') (R.getD t default).ia 1 eI (R.getD t default).ins:=fun L'=>kp.at_ (inferInstance) aF
    have qt:∀L',gm w0 (cD 3 1 eI Q::L') (Q.getD t default).ia 1 eI (Q.getD t default).ins:=fun L'=>kp.at_ (inferInstance) (by omega)
    refine aN ?_
    refine fR hp ?_;refine fy ?_
    refine j8 Tryz.func18 (fun F w hp=> ?_);refine bN.mono (iZ x 0 _ hp.pre.mod WX) ?_;rintro _ w ⟨bw,cw,rfl,hq⟩;have hp:=hp.eU hq;refine⟨fun _=>hp.sub (by(repeat(first|exact List.sublist_append_left _ _|apply List.Sublist.cons))),_,hp,?_⟩;clear hp;refine cX ?_;refine jE rfl (by omega) rfl rfl rfl ?_
    refine j8 Tryz.func17 (fun F w hp=> ?_);refine bN.mono (q8 bw _ cw _ (ee x.n 0) (R.getD t default).ins _ _ rfl rfl _ hp.pre.rd hp.pre.rd (by have:=I2 0;omega)) ?_;rintro _ w ⟨rfl,hx⟩;have hp:=hp.ext hx;refine⟨fun _=>hp.sub (by(repeat(first|exact List.sublist_append_left _ _|apply List.Sublist.cons))),_,hp,?_⟩;clear hp;refine cX ?_;refine lI rfl rfl rfl rfl rfl rfl rfl rfl rfl rfl ?_;intro _;refine cX ?_
    refine fZ rfl rfl rfl rfl rfl rfl rfl (by decide) rfl (zl) rfl rfl (fun hq=>Bool.noConfusion (hq.symm.trans (by kernel_rfl:bH _ _=false))) ?_;intro p2 c2 bZ;refine cX ?_
    refine dc ?_;intro w hp C;refine bL ?_
    rw[<-hP1 t] at hp⊢
    have hp:=hp.drop.drop
    have hPt1:=AL (t+1)
    refine fR hp ?_;refine fy ?_
    refine j8 Tryz.func18 (fun F w hp=> ?_);refine bN.mono (iZ x 1 _ hp.pre.mod WX) ?_;rintro _ w ⟨Wk,Wl,rfl,hq⟩;have hp:=hp.eU hq;refine⟨fun _=>hp.sub (by(repeat(first|exact List.sublist_append_left _ _|apply List.Sublist.cons))),_,hp,?_⟩;clear hp;refine cX ?_;refine jE rfl (by omega) rfl rfl rfl ?_
    refine j8 Tryz.func17 (fun F w hp=> ?_);refine bN.mono (q8 Wk _ Wl _ (ee x.n 1) (Q.getD t default).ins _ _ rfl rfl _ hp.pre.rd hp.pre.rd (by have:=I2 1;omega)) ?_;rintro _ w ⟨rfl,hx⟩;have hp:=hp.ext hx;refine⟨fun _=>hp.sub (by(repeat(first|exact List.sublist_append_left _ _|apply List.Sublist.cons))),_,hp,?_⟩;clear hp;refine cX ?_;refine lI rfl rfl rfl rfl rfl rfl rfl rfl rfl rfl ?_;intro _;refine cX ?_
    rw[hQ t aF]
    refine fZ rfl rfl rfl rfl rfl rfl rfl (by decide) rfl (zl) rfl rfl (fun hq=>Bool.noConfusion (hq.symm.trans (by kernel_rfl:bH _ _=false))) ?_;intro w2 d2 bZ;refine cX ?_
    refine dc ?_;intro w hp C;refine bL ?_
    rw[<-hW1 t] at hp⊢
    exact IH (t+1) p2 c2 w2 d2 _ _ _ (by omega) rfl ⟨by omega,hp.drop.drop⟩
   ·refine aM ?_;refine aI hp ?_
    obtain rfl:t=R.length:=by omega
    clear IH
    have hV:∀i,i<(PF R.length).length->da ((PF R.length).getD i default):=fun i hi=>by
     rw[AL] at hi
     rw[Tt,w8 _ _ _ hi]
     exact K8 hf 0 hf.s0 (fP i hi).symm
    have I9:mH yG.n (PF R.length)=WF R.length:=by
     rw[Ew aS (by omega),eG]
     refine M4 hf he hb (j9:=aJ R) (fun t ht=> ?_) (fun t ht=> ?_) (fun t ht=> ?_) (by rw[OO,fh]) (by rw[AL,fh])
     ·rw[fh] at ht
      rw[bk]
      exact fP t ht
     ·rw[fh] at ht
      rw[bk,Tt]
      exact w8 _ _ _ ht
     ·rw[fh] at ht
      rw[WY]
      exact w8 _ _ _ ht
    refine bQ hp Tryz.func19 (zt yG _ hp.dR aS.S' aS.W) ?_;intro w hx hp
    rw[K4 hmp]
    (repeat(first|(refine aG ?_;refine aO ?_)|(refine ah ?_;refine aI hp ?_)))
    refine cy Tryz.func21 (Cz yG pa pc (PF R.length) _ hp.dR aS.S' aS.W hp.rd (by omega) hV) ?_;rintro _ w ⟨br,cr,rfl,hq⟩;have hx:=hq.x;have hp:=hp.bJ hq;refine az ?_;(repeat(refine aO ?_))
    rw[I9] at hp⊢
    refine bQ hp Tryz.func20 (F6 br wa cr wc (WF R.length) _ hp.rd hp.rd (by omega)) ?_;intro w hx hp;(repeat(first|(refine aG ?_;refine aO ?_)|refine aq ?_))
    skip
    exact⟨by rw[decide_eq_true (show((WF R.length).length:Int)=R.length by omega)],hp.x⟩
end Go.Proofs
end
section
namespace Go.Xw
open Go.RowKit
theorem row_sl {k:IntKind}{enc:Int->List Value}(henc:∀x,enc x=[.int k x]){w:World}{a:Option Addr}{len cap:Nat}{zs:List Int}
  (h:(a=none/\len=0/\cap=0/\zs=[])\/∃x,a=some x/\len<=cap/\cap<=maxLen/\zs.length=cap/\(∀i,i<zs.length->w.cell? (x.add i)=some (.int k (zs.getD i 0)))/\∀n∈zs,(Lit.int k n).wf=true):
  ∃xs:List Int,xs.length=len/\Sl w a xs.length 1 (fL enc xs)/\∀x∈xs,(Lit.int k x).wf=true:=by
 rcases h with⟨rfl,rfl,_,_⟩|⟨x,rfl,hl,_,hz,hc,hw⟩
 ·exact⟨[],rfl,Sl.nil _ _ _ _,fun x hx=>by simp at hx⟩
 ·refine⟨zs.take len,by simp;omega,⟨fun _=>by simp,fun i j hi hj=> ?_⟩,fun x hx=>hw x (List.mem_of_mem_take hx)⟩
  obtain rfl:j=0:=by omega
  simp only[List.length_take] at hi
  have h1:=hc i (by omega)
  have ha:(aE (some x) 1 (i:Int)).add 0=x.add i:=by
   simp[aE,Addr.add]
  rw[ha,h1]
  simp only[fL,henc,sB]
  congr 2
  rw[List.getD_eq_getElem?_getD,List.getD_eq_getElem?_getD,List.getElem?_take,if_pos (by omega)]
  rfl
theorem wf_i64 {x:Int}(h:(Lit.int .i64 x).wf=true): -9223372036854775808<=x/\x<=9223372036854775807:=by
 have h1:IntKind.i64.min= -9223372036854775808:=rfl
 have h2:IntKind.i64.max=9223372036854775807:=rfl
 simp only[Lit.wf,Bool.and_eq_true,decide_eq_true_eq] at h
 omega
theorem wf_u8 {x:Int}(h:(Lit.int .u8 x).wf=true):0<=x/\x<=255:=by
 have h1:IntKind.u8.min=0:=rfl
 have h2:IntKind.u8.max=255:=rfl
 simp only[Lit.wf,Bool.and_eq_true,decide_eq_true_eq] at h
 omega
theorem IE {P:Program}{f:FuncId}{args:List Value}{w:World}(h:bN P f args w fun v w'=>v= .bool true/\Ext w w'):
  Calls P f ⟨args⟩ w fun e w'=>e= .returned (.bool true)/\Below w.heap.size w w':=
 Calls.mono h fun _ _ ⟨_,he,hv,hx⟩=>⟨by rw[he,hv],hx⟩
end Go.Xw
end
