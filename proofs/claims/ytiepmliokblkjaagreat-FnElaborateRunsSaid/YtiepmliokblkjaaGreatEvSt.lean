/- Texts that belong together; each under its stated conditions. -/
import Derived.Test.YtiepmliokblkjaaGreatElabLaw2
import Derived.Test.YtiepmliokblkjaaGreatBrf
import Derived.Test.YtiepmliokblkjaaGreatNet
import Derived.Test.YtiepmliokblkjaaGreatModR
set_option linter.all false
section
namespace Go.Xw
open Go.Proofs
set_option maxHeartbeats 1000000
theorem MO {n:aQ}(hm:aV n){sig:List (List Int)}{st:(ao×Bool)×Nat}{s:Nat}(hs:s<n.sg.length)(hk:aY n (s:Nat)=3)(h:oM n sig st.1.1 st.2)(hq:st.2=dU n 3 s){i:Nat}(hb:(jm n sig (s:Nat) st i).1.2=true):∀j,i<=j->j<=n.aP.length->(jm n sig (s:Nat) st j).1.2=true:=fun j kc hj=>by
 obtain⟨d,rfl⟩:=Nat.le.dest kc
 clear kc
 induction d with
 |zero=>exact hb
 |succ d ih=>
  have ih:=ih (by omega)
  show(jm n sig (s:Nat) st (i+d+1)).1.2=true
  rw[jm]
  by_cases he:dT n (i+d)=(s:Nat)
  ·exact((nZ hm hs hk h hq (i+d) (by omega)).1.zJ he (BX hm hs hk h hq (by omega) he)).2.2 ih
  ·unfold Go.Xw.zJ
   rw[if_neg he]
   exact ih
theorem MP {n:aQ}(hm:aV n){sig:List (List Int)}{st:ao×Bool}(h:oM n sig st.1 0){s:Nat}(hb:(fX n sig st s).1.2=true):∀j,s<=j->j<=n.sg.length->(fX n sig st j).1.2=true:=fun j kc hj=>by
 obtain⟨d,rfl⟩:=Nat.le.dest kc
 clear kc
 induction d with
 |zero=>exact hb
 |succ d ih=>
  have ih:=ih (by omega)
  show(fX n sig st (s+d+1)).1.2=true
  rw[fX]
  by_cases hk:aY n ((s+d:Nat):Int)=3
  ·rw[if_pos hk]
   obtain⟨h1,h2,_⟩:=qO hm h (s+d) (by omega)
   exact(nZ hm (by omega) hk h1 h2 n.aP.length (Nat.le_refl _)).2.2 ih
  ·rw[if_neg hk];exact ih
section
variable {n:aQ} {l:List Nat} (hf:ch n) (he:gQ n=some l)
include hf he
theorem J9 {i:Nat}(hi:i<=l.length)(hb:(fu n l i).1.2=true):B0 n=(default,false):=by
 obtain⟨_,jg,_⟩:=iW he
 exact wS he ((Fq hf he).2.2 (J6 (dI hf).2 hf (fun i hi=>(jg i hi).1) hb l.length hi (Nat.le_refl _)))
theorem J' {s:Nat}(hs:s<=n.sg.length)(hb:(fX n (bO n l).2 (bO n l).1 s).1.2=true):B0 n=(default,false):=
 wS he (MP (dI hf).2 (oM.start (py hf he).1) hb n.sg.length hs (Nat.le_refl _))
theorem Ka {s i:Nat}(hs:s<n.sg.length)(hk:aY n (s:Nat)=3)(hi:i<=n.aP.length)(hb:(jm n (bO n l).2 (s:Nat) (fX n (bO n l).2 (bO n l).1 s) i).1.2=true):B0 n=(default,false):=by
 have hm:=(dI hf).2
 obtain⟨h1,h2,_⟩:=qO hm (oM.start (py hf he).1) s (by omega)
 refine J' hf he (s:=s+1) (by omega) ?_
 rw[fX,if_pos hk]
 exact MO hm hs hk h1 h2 hb n.aP.length hi (Nat.le_refl _)
end
theorem Kb {N:ao}{sig:List (List Int)}{ops:List dK}{w:Nat}(h:Mn N sig ops (w:Nat))(hb:(dD a6 sig w (fI ops sig.length) (N,false)).1.2=false):EA N sig ops (w:Nat)=((dD a6 sig w (fI ops sig.length) (N,false)).1.1,(dD a6 sig w (fI ops sig.length) (N,false)).2):=by
 have e:BD sig (w:Int) (fI ops sig.length) N=dD a6 sig w (fI ops sig.length) (N,false):=by unfold BD;rw[Int.toNat_natCast]
 rw[Gy h (by rw[e];exact hb),e]
theorem G2 {N:ao}{sig:List (List Int)}{ops:List dK}{w:Nat}(hb:(dD a6 sig w (fI ops sig.length) (N,false)).1.2=true):EA N sig ops (w:Nat)=(N,[]):=by
 have e:BD sig (w:Int) (fI ops sig.length) N=dD a6 sig w (fI ops sig.length) (N,false):=by unfold BD;rw[Int.toNat_natCast]
 exact Gz (by rw[e];exact hb)
end Go.Xw
end
section
namespace Go.Proofs
open Go.Xw
set_option maxRecDepth 100000
def dV (xs:List Int):Nat->Int
 |0=>0
 |i+1=>dV xs i+xs.getD i default
def lL (xs:List Int)(i:Nat):Prop:=∀j,j<i->1<=xs.getD j default/\xs.getD j default<=4
def yx (xs:List Int):Prop:=lL xs xs.length/\dV xs xs.length<=20
noncomputable def zK (xs:List Int):Bool:= @decide (yx xs) (Classical.propDecidable _)
theorem Kc {xs:List Int}(h:yx xs):zK xs=true:=by unfold zK;simp[h]
theorem Kd {xs:List Int}(h:¬yx xs):zK xs=false:=by unfold zK;simp[h]
theorem Ke {xs:List Int}:zK xs=true↔yx xs:=by unfold zK;simp
theorem wT {xs:List Int}{i:Nat}(h:lL xs i):(i:Int)<=dV xs i/\dV xs i<=4*i:=by
 induction i with
 |zero=>simp[dV]
 |succ i ih=>
  have h1:=ih fun j hj=>h j (by omega)
  have h2:=h i (by omega)
  simp only[dV]
  omega
theorem AE {xs:List Int}{n:Nat}(h:lL xs n):∀{i:Nat},i<=n->dV xs i<=dV xs n:=by
 intro i hi
 induction n with
 |zero=>obtain rfl:i=0:=by omega
        exact Int.le_refl _
 |succ n ih=>
  rcases Nat.lt_or_ge n i with h1|h1
  ·obtain rfl:i=n+1:=by omega
   exact Int.le_refl _
  ·have h2:=ih (fun j hj=>h j (by omega)) h1
   have h3:=h n (by omega)
   simp only[dV]
   omega
theorem DK (a:Option Addr)(c:Nat)(xs:List Int)(w:World)(ha:Sl w a xs.length 1 (fL eI xs))(hl:xs.length<1000000000):
  bN Tryz.prog 66 [.slice a xs.length c] w (fun v w'=>v= .bool (zK xs)/\w'=w):=by
 refine vJ Tryz.Vi ?_;intro C;(repeat(first|refine aO ?_|refine ba ?_))
 refine aR [0,3,6,7,8] (fun i:Nat=>[(0,.slice a xs.length c),(3,.int .i64 (dV xs i)),(6,.slice a xs.length c),(7,.int .i64 (xs.length:Int)),(8,.int .i64 (i:Int))])
  (fun i w'=>i<=xs.length/\lL xs i/\w'=w) (fun i=>xs.length-i) 0 rfl ⟨by omega,fun j hj=>by omega,rfl⟩ ?_
 rintro i w1 ⟨hi,dL,rfl⟩ IH C
 have hb:=wT dL
 refine bL ?_;(repeat(first|refine aO ?_|refine ba ?_))
 apply ae<;>intro bD
 ·refine aN ?_;(repeat(first|refine aO ?_|refine ba ?_))
  have aF:i<xs.length:=by omega
  refine xE (ET Tryz.aZ rfl ha aF (by decide)) rfl ?_;(repeat(first|refine aO ?_|refine ba ?_))
  refine cy Tryz.func124 (sL _ _ _ _) ?_
  rintro _ w' ⟨rfl,rfl⟩
  refine az ?_;(repeat(first|refine aO ?_|refine ba ?_))
  refine qo (fun h3=> ?_) (fun h3=> ?_)
  ·refine aN ?_;(repeat(first|refine aO ?_|refine ba ?_))
   refine⟨?_,rfl⟩
   rw[Kd fun h=>h3 (h.1 i aF)]
  ·have h4:1<=xs.getD i default/\xs.getD i default<=4:=h3
   have h5:fL eI xs i 0= .int .i64 (xs.getD i default):=rfl
   refine aM ?_;(repeat(first|refine aO ?_|refine ba ?_))
   exact IH (i+1) _ _ _ (by omega) rfl ⟨by omega,fun j hj=>by
    rcases Nat.lt_or_ge j i with h|h
    ·exact dL j h
    ·obtain rfl:j=i:=by omega
     exact h3,rfl⟩
 ·refine aM ?_;(repeat(first|refine aO ?_|refine ba ?_))
  obtain rfl:i=xs.length:=by omega
  refine⟨?_,rfl⟩
  unfold zK
  congr 1
  simp[yx,dL]
theorem B3 (x:Int)(w:World)(h:1<=x/\x<=4):bN Tryz.prog 67 [.int .i64 x] w (fun v w'=>v= .int .i64 (2^x.toNat-1)/\w'=w):=by
 have hp:(2:Int)<=2^x.toNat/\(2:Int)^x.toNat<=16:=by
  have:x=1\/x=2\/x=3\/x=4:=by omega
  rcases this with rfl|rfl|rfl|rfl<;>decide
 have W7:(IntKind.i64.bits:Int)=64:=rfl
 refine vJ Tryz.Vj ?_;intro C;(repeat(first|refine aO ?_|refine ba ?_))
 exact⟨by rw[Int.one_mul],rfl⟩
def pk (xs ys:List Int):Nat->Int
 |0=>0
 |i+1=>pk xs ys i+ys.getD i default%2^(xs.getD i default).toNat*2^(dV xs i).toNat
theorem DL {xs:List Int}{i:Nat}(h:lL xs (i+1)):(2:Int)^(dV xs (i+1)).toNat=2^(xs.getD i default).toNat*2^(dV xs i).toNat:=by
 have h1:=wT (xs:=xs) (i:=i) fun j hj=>h j (by omega)
 have h2:=h i (by omega)
 rw[<-Int.pow_add]
 congr 1
 simp only[dV]
 omega
theorem mX (n:Nat):(0:Int)<2^n:=Int.pow_pos (by decide)
theorem G3 {xs ys:List Int}{i:Nat}(h:lL xs i):0<=pk xs ys i/\pk xs ys i<2^(dV xs i).toNat:=by
 induction i with
 |zero=>simp[pk,dV]
 |succ i ih=>
  have h1:=ih fun j hj=>h j (by omega)
  rw[DL h]
  simp only[pk]
  have hp:=mX (dV xs i).toNat
  have hq:=mX (xs.getD i default).toNat
  have EC:0<=ys.getD i default%2^(xs.getD i default).toNat:=Int.emod_nonneg _ (by omega)
  have OG:ys.getD i default%2^(xs.getD i default).toNat<2^(xs.getD i default).toNat:=Int.emod_lt_of_pos _ hq
  generalize (2:Int)^(dV xs i).toNat=P at*
  generalize (2:Int)^(xs.getD i default).toNat=Q at*
  generalize ys.getD i default%Q=m at*
  have h2:m*P<=(Q-1)*P:=Int.mul_le_mul_of_nonneg_right (by omega) (by omega)
  have h3:0<=m*P:=Int.mul_nonneg EC (by omega)
  rw[Int.sub_mul,Int.one_mul] at h2
  omega
theorem DM {z:Int}(h0:0<=z)(h:z<=20):(2:Int)^z.toNat<=1048576:=by
 have:(2:Nat)^z.toNat<=2^20:=Nat.pow_le_pow_right (by decide) (by omega)
 have h2:((2^z.toNat:Nat):Int)<=((2^20:Nat):Int):=Int.ofNat_le.2 this
 simpa using h2
theorem R6 {p m:Int}{s:Nat}(h0:0<=p)(h1:p<2^s)(hm:0<=m)(hb:m*2^s<=1048576)(hs:(2:Int)^s<=1048576):bits .or .i64 p (m*2^s)=p+m*2^s:=by
 obtain⟨p',rfl⟩:=Int.eq_ofNat_of_zero_le h0
 obtain⟨m',rfl⟩:=Int.eq_ofNat_of_zero_le hm
 have e:(m':Int)*2^s=((2^s*m':Nat):Int):=by rw[Nat.mul_comm];simp
 have e2:(2:Int)^s=((2^s:Nat):Int):=by simp
 rw[e] at hb⊢
 rw[e2] at h1 hs
 rw[qn _ _ (by omega) (by omega),Nat.or_comm,<-Nat.two_pow_add_eq_or_of_lt (by omega)]
 omega
theorem MQ {xs ys:List Int}{i:Nat}(h:lL xs (i+1))(hs:dV xs (i+1)<=20):
  bits .and .i64 (ys.getD i default) (2^(xs.getD i default).toNat-1)=ys.getD i default%2^(xs.getD i default).toNat/\0<=dV xs i/\dV xs i<=20/\
  0<=ys.getD i default%2^(xs.getD i default).toNat*2^(dV xs i).toNat/\0<=pk xs ys i/\pk xs ys (i+1)<=1048576/\
  bits .or .i64 (pk xs ys i) (ys.getD i default%2^(xs.getD i default).toNat*2^(dV xs i).toNat)=pk xs ys (i+1):=by
 have hi:lL xs i:=fun j hj=>h j (by omega)
 have h1:=wT hi
 have h2:=h i (by omega)
 have h3:dV xs (i+1)=dV xs i+xs.getD i default:=rfl
 have h4:=G3 (ys:=ys) hi
 have h5:=G3 (ys:=ys) h
 have h6:=DM (z:=dV xs (i+1)) (by omega) hs
 have h7:=DM (z:=dV xs i) (by omega) (by omega)
 have EC:0<=ys.getD i default%2^(xs.getD i default).toNat:=Int.emod_nonneg _ (by have:=mX (xs.getD i default).toNat;omega)
 have hp:0<=ys.getD i default%2^(xs.getD i default).toNat*2^(dV xs i).toNat:=Int.mul_nonneg EC (by have:=mX (dV xs i).toNat;omega)
 have h8:pk xs ys (i+1)=pk xs ys i+ys.getD i default%2^(xs.getD i default).toNat*2^(dV xs i).toNat:=rfl
 refine⟨ew _ _ (by omega),by omega,by omega,hp,h4.1,by omega,?_⟩
 rw[R6 h4.1 h4.2 EC (by omega) h7,h8]
noncomputable def iu (xs ys:List Int):Int:=if xs.length=ys.length/\zK xs=true then pk xs ys xs.length else-1
theorem wC (a b:Option Addr)(ca cb:Nat)(xs ys:List Int)(w:World)(ha:Sl w a xs.length 1 (fL eI xs))(hb:Sl w b ys.length 1 (fL eI ys))(hl:xs.length<1000000000):
  bN Tryz.prog 17 [.slice a xs.length ca,.slice b ys.length cb] w (fun v w'=>v= .int .i64 (iu xs ys)/\Ext w w'):=by
 refine vJ Tryz.UU ?_;intro C;(repeat(first|refine aO ?_|refine ba ?_))
 (first|apply fx|apply cf)<;>intro h1 e<;>rw[e]<;>clear e;all_goals(repeat(first|refine aO ?_|refine ba ?_))
 ·refine aN ?_;(repeat(first|refine aO ?_|refine ba ?_))
  exact⟨by unfold iu;rw[if_neg (by omega)],Ext.refl _⟩
 ·have hlen:xs.length=ys.length:=by omega
  refine cy Tryz.func66 (DK _ _ _ _ ha hl) ?_
  rintro _ w ⟨rfl,rfl⟩
  refine az ?_;(repeat(first|refine aO ?_|refine ba ?_))
  cases hw:zK xs
  ·refine aN ?_;(repeat(first|refine aO ?_|refine ba ?_))
   exact⟨by unfold iu;rw[if_neg (by simp[hw])],Ext.refl _⟩
  ·have aS:=Ke.1 hw
   refine aM ?_;(repeat(first|refine aO ?_|refine ba ?_))
   refine aR [0,1,5,6,19,20,21] (fun i:Nat=>[(0,.slice a xs.length ca),(1,.slice b ys.length cb),(5,.int .i64 (pk xs ys i)),(6,.int .i64 (dV xs i)),(19,.slice a xs.length ca),(20,.int .i64 (xs.length:Int)),(21,.int .i64 (i:Int))])
    (fun i w'=>i<=xs.length/\Ext w w') (fun i=>xs.length-i) 0 rfl ⟨by omega,Ext.refl _⟩ ?_
   rintro i w1 ⟨hi,hx⟩ IH C
   have ha1:=ha.ext hx
   have SU:=hb.ext hx
   refine bL ?_;(repeat(first|refine aO ?_|refine ba ?_))
   apply ae<;>intro bD
   ·have aF:i<xs.length:=by omega
    have jr:=MQ (ys:=ys) (i:=i) (fun j hj=>aS.1 j (by omega)) (Int.le_trans (AE aS.1 (by omega)) aS.2)
    have hw4:=aS.1 i aF
    have h3:dV xs (i+1)=dV xs i+xs.getD i default:=rfl
    refine aN ?_;(repeat(first|refine aO ?_|refine ba ?_))
    refine xE (ET Tryz.aZ rfl ha1 aF (by decide)) rfl ?_;(repeat(first|refine aO ?_|refine ba ?_))
    refine LK (by kernel_rfl) (by kernel_rfl) rfl rfl (fun w2 hd=> ?_);(repeat(first|refine cx rfl rfl rfl ?_|refine dB rfl rfl rfl ?_))
    refine LJ (fun wx hwx=>ET Tryz.aZ rfl (SU.ext hwx) (by omega) (by decide)) rfl rfl ?_;(repeat(first|refine cx rfl rfl rfl ?_|refine dB rfl rfl rfl ?_))
    refine oW Tryz.func67 (B3 _ _ hw4) ?_
    rintro _ w2 ⟨rfl,rfl⟩
    refine⟨fun _=>hd,?_⟩
    have key:bits .or .i64 (pk xs ys i) (bits .and .i64 (ys.getD i default) (2^(xs.getD i default).toNat-1)*2^(dV xs i).toNat)=pk xs ys (i+1):=by rw[jr.1,jr.2.2.2.2.2.2]
    have h8:pk xs ys (i+1)=pk xs ys i+ys.getD i default%2^(xs.getD i default).toNat*2^(dV xs i).toNat:=rfl
    have W7:(IntKind.i64.bits:Int)=64:=rfl
    have e1:=jr.1
    rw[<-e1] at jr h8
    refine Jg rfl rfl ?_;(repeat(first|refine cx rfl rfl rfl ?_|refine dB rfl rfl rfl ?_))
    exact IH (i+1) _ _ _ (by omega) (by rw[<-key];rfl) ⟨by omega,hx.trans hd⟩
   ·obtain rfl:i=xs.length:=by omega
    refine aM ?_;(repeat(first|refine aO ?_|refine ba ?_))
    exact⟨by unfold iu;rw[if_pos ⟨hlen,hw⟩],hx⟩
end Go.Proofs
end
section
namespace Go.Proofs
open Go.Xw
set_option maxRecDepth 100000
end Go.Proofs
end
section
namespace Go.Proofs
open Go.Xw
theorem DN {xs ys:List Int}:∀{n:Nat},lL xs n->∀{i:Nat},i<n->pk xs ys n/2^(dV xs i).toNat%2^(xs.getD i default).toNat=ys.getD i default%2^(xs.getD i default).toNat
 |0,_,i,hi=>absurd hi (by omega)
 |n+1,h,i,hi=>by
  have hr:lL xs n:=fun j hj=>h j (by omega)
  have MR:=mX (dV xs i).toNat
  have hwi:=mX (xs.getD i default).toNat
  by_cases bD:i<n
  ·have ih:=DN (ys:=ys) hr bD
   have Li:lL xs (i+1):=fun j hj=>h j (by omega)
   have h1:=DL Li
   have h2:=AE hr (i:=i+1) (by omega)
   have h3:=wT Li
   have h4:(2:Int)^(dV xs n).toNat=2^(dV xs (i+1)).toNat*2^((dV xs n).toNat-(dV xs (i+1)).toNat):=by
    rw[<-Int.pow_add];congr 1;omega
   rw[<-ih]
   show(pk xs ys n+ys.getD n default%2^(xs.getD n default).toNat*2^(dV xs n).toNat)/_%_=_
   rw[h4,h1]
   generalize (2:Int)^((dV xs n).toNat-(dV xs (i+1)).toNat)=D
   generalize ys.getD n default%2^(xs.getD n default).toNat=m
   rw[show m*(2^(xs.getD i default).toNat*2^(dV xs i).toNat*D)=(m*D*2^(xs.getD i default).toNat)*2^(dV xs i).toNat by
    rw[Int.mul_comm (2^(xs.getD i default).toNat*2^(dV xs i).toNat) D,<-Int.mul_assoc,<-Int.mul_assoc],Int.add_mul_ediv_right _ _ (by omega),Int.add_mul_emod_self_right]
  ·obtain rfl:i=n:=by omega
   have h5:=G3 (ys:=ys) hr
   show(pk xs ys i+ys.getD i default%2^(xs.getD i default).toNat*2^(dV xs i).toNat)/_%_=_
   rw[Int.add_mul_ediv_right _ _ (by omega),Int.ediv_eq_zero_of_lt h5.1 h5.2,Int.zero_add,Int.emod_emod_of_dvd _ (Int.dvd_refl _)]
end Go.Proofs
end
section
namespace Go.Xw
open Go.Proofs
set_option maxHeartbeats 1000000
theorem G4 (n:aQ):∀i:Nat,i<=n.sg.length->∀s:Nat,s<n.sg.length->(uB n i).1.getD s default=if s<i/\aY n (s:Nat)=0 then jt (1+dU n 0 s) (wN n (s:Nat)) else[]
 |0,_,s,hs=>by
  rw[if_neg (by omega)]
  simp[uB,List.getD_eq_getElem?_getD,hs]
 |i+1,hi,s,hs=>by
  have ih:=G4 n i (by omega)
  obtain⟨h1,h2⟩:=BS n i (by omega)
  rw[uB]
  by_cases hk:aY n (i:Nat)=0
  ·rw[if_pos hk]
   unfold iX
   rw[cH (by rw[h1.len];omega)]
   by_cases CE:s=i
   ·subst CE
    rw[if_pos rfl,ih s hs,if_neg (by omega),if_pos ⟨by omega,hk⟩,h2];rfl
   ·rw[if_neg CE,ih s hs]
    by_cases bD:s<i/\aY n (s:Nat)=0
    ·rw[if_pos bD,if_pos ⟨by omega,bD.2⟩]
    ·rw[if_neg bD,if_neg (fun h=>bD ⟨by omega,h.2⟩)]
  ·rw[if_neg hk,ih s hs]
   by_cases bD:s<i/\aY n (s:Nat)=0
   ·rw[if_pos bD,if_pos ⟨by omega,bD.2⟩]
   ·rw[if_neg bD,if_neg (fun h=>bD ⟨by
     by_cases CE:s=i
     ·subst CE;exact absurd h.2 hk
     ·omega,h.2⟩)]
theorem G5 (n:aQ):∀i:Nat,i<=n.sg.length->∀s:Nat,s<n.sg.length->(vd n i).1.getD s default=if aY n (s:Nat)=0 then jt (1+dU n 0 s) (wN n (s:Nat)) else if s<i/\aY n (s:Nat)=3 then jt (1+dU n 0 n.sg.length+dU n 3 s) (wN n (s:Nat)) else[]
 |0,_,s,hs=>by
  rw[vd,G4 n _ (Nat.le_refl _) s hs]
  by_cases hk:aY n (s:Nat)=0
  ·rw[if_pos ⟨hs,hk⟩,if_pos hk]
  ·rw[if_neg (fun h=>hk h.2),if_neg hk,if_neg (by omega)]
 |i+1,hi,s,hs=>by
  have ih:=G5 n i (by omega)
  obtain⟨h1,h2⟩:=BT n i (by omega)
  rw[vd]
  by_cases hk:aY n (i:Nat)=3
  ·rw[if_pos hk]
   unfold iX
   rw[cH (by rw[h1.len];omega)]
   by_cases CE:s=i
   ·subst CE
    rw[if_pos rfl,ih s hs,if_neg (by omega),if_neg (by omega),if_neg (by omega),if_pos ⟨by omega,hk⟩,h2];rfl
   ·rw[if_neg CE,ih s hs]
    by_cases h0:aY n (s:Nat)=0
    ·rw[if_pos h0,if_pos h0]
    rw[if_neg h0,if_neg h0]
    by_cases bD:s<i/\aY n (s:Nat)=3
    ·rw[if_pos bD,if_pos ⟨by omega,bD.2⟩]
    ·rw[if_neg bD,if_neg (fun h=>bD ⟨by omega,h.2⟩)]
  ·rw[if_neg hk,ih s hs]
   by_cases h0:aY n (s:Nat)=0
   ·rw[if_pos h0,if_pos h0]
   rw[if_neg h0,if_neg h0]
   by_cases bD:s<i/\aY n (s:Nat)=3
   ·rw[if_pos bD,if_pos ⟨by omega,bD.2⟩]
   ·rw[if_neg bD,if_neg (fun h=>bD ⟨by
     by_cases CE:s=i
     ·subst CE;exact absurd h.2 hk
     ·omega,h.2⟩)]
theorem vg (R:List yh)(s:Int){i:Nat}:∀j:Nat,i<=j->hJ R s i<=hJ R s j
 |0,h=>by obtain rfl:i=0:=(by omega);exact Int.le_refl _
 |j+1,h=>by
  by_cases kc:i=j+1
  ·subst kc;exact Int.le_refl _
  ·have:=vg R s (i:=i) j (by omega)
   rw[hJ]
   split<;>omega
def fa (n:aQ)(j:Nat):Nat:=(n.ms.getD j default).out.toNat
theorem jB {n:aQ}(hm:aV n){j:Nat}(hj:j<n.ms.length):fa n j<n.sg.length/\((fa n j:Nat):Int)=(n.ms.getD j default).out/\(aY n (fa n j:Nat)=1\/aY n (fa n j:Nat)=2):=by
 have h:=(hm.ms j hj).2.2.2
 have h1:=h.1
 unfold dr at h1
 have e:((fa n j:Nat):Int)=(n.ms.getD j default).out:=by unfold fa;omega
 refine⟨by unfold fa;omega,e,?_⟩
 rw[e];exact h.2
theorem vh {n:aQ}(hm:aV n){i j:Nat}(kc:i<j)(hj:j<n.ms.length)(he:fa n i=fa n j):False:=by
 obtain⟨h1,h2,h3⟩:=jB hm (j:=i) (by omega)
 obtain⟨g1,g2,g3⟩:=jB hm hj
 have hd:=hm.R4 (fa n i) h1 (by rw[bG] at h3;omega)
 have ha:=(mT n.aP (fa n i:Nat) n.aP.length).1
 unfold wz at hd
 have m1:=vg n.ms (fa n i:Nat) (i:=i+1) j (by omega)
 have m2:=vg n.ms (fa n i:Nat) (i:=j+1) n.ms.length (by omega)
 have e1:hJ n.ms (fa n i:Nat) (i+1)=hJ n.ms (fa n i:Nat) i+1:=by rw[hJ,if_pos h2.symm]
 have e2:hJ n.ms (fa n i:Nat) (j+1)=hJ n.ms (fa n i:Nat) j+1:=by rw[hJ,if_pos (by rw[he];exact g2.symm)]
 have:=(nX n.ms (fa n i:Nat) i).1
 omega
theorem G6 {n:aQ}(hm:aV n):∀j:Nat,j<=n.ms.length->∀s:Nat,s<n.sg.length->
  (aY n (s:Nat)=0->(pS n j).1.getD s default=jt (1+dU n 0 s) (wN n (s:Nat)))/\
  (aY n (s:Nat)=3->(pS n j).1.getD s default=jt (1+dU n 0 n.sg.length+dU n 3 s) (wN n (s:Nat)))/\
  (aY n (s:Nat)≠0->aY n (s:Nat)≠3->((∀i,i<j->fa n i=s->(pS n j).1.getD s default=jt (1+dU n 0 n.sg.length+dU n 3 n.sg.length+jc n i) (wN n (s:Nat)))/\((∀i,i<j->fa n i≠s)->(pS n j).1.getD s default=[])))
 |0,_,s,hs=>by
  rw[pS,G5 n _ (Nat.le_refl _) s hs]
  refine⟨fun h=>by rw[if_pos h],fun h=>by rw[if_neg (by omega),if_pos ⟨hs,h⟩],fun h0 h3=>⟨fun i hi=>absurd hi (Nat.not_lt_zero _),fun _=>by rw[if_neg h0,if_neg (fun h=>h3 h.2)]⟩⟩
 |j+1,hj,s,hs=>by
  obtain⟨i0,i3,ii⟩:=G6 hm j (by omega) s hs
  obtain⟨h1,h2⟩:=pv hm j (by omega)
  obtain⟨o1,o2,o3⟩:=jB hm (j:=j) (by omega)
  rw[pS]
  show(aY n (s:Nat)=0->(iX (pS n j) (fa n j) (wN n (n.ms.getD j default).out)).1.getD s default=_)/\(aY n (s:Nat)=3->(iX (pS n j) (fa n j) (wN n (n.ms.getD j default).out)).1.getD s default=_)/\(_->_->((∀i,i<j+1->fa n i=s->(iX (pS n j) (fa n j) (wN n (n.ms.getD j default).out)).1.getD s default=_)/\((∀i,i<j+1->fa n i≠s)->(iX (pS n j) (fa n j) (wN n (n.ms.getD j default).out)).1.getD s default=[])))
  unfold iX
  rw[cH (by rw[h1.len];exact o1)]
  by_cases nj:s=fa n j
  ·subst nj
   rw[if_pos rfl]
   refine⟨fun h=>by omega,fun h=>by omega,fun h0 h3=>⟨fun i hi he=> ?_,fun h=>absurd rfl (h j (by omega))⟩⟩
   by_cases kc:i=j
   ·subst kc
    rw[(ii h0 h3).2 (fun i' HD zC=>vh hm HD (by omega) zC),<-o2,h2];rfl
   ·exact(vh hm (show i<j by omega) (by omega) he).elim
  ·rw[if_neg nj]
   refine⟨i0,i3,fun h0 h3=>⟨fun i hi he=> ?_,fun h=>(ii h0 h3).2 fun i hi=>h i (by omega)⟩⟩
   by_cases kc:i=j
   ·subst kc;exact absurd he.symm nj
   ·exact(ii h0 h3).1 i (by omega) he
def nK (n:aQ)(k:Int)(i:Nat):Nat:=(pR (n.sg.take i) k).length
theorem rI (X:List Int):∀i:Nat,i<=X.length->dV X i=cT (X.take i)
 |0,_=>by simp[dV,cT]
 |i+1,h=>by rw[dV,rI X i (by omega),dm (by omega),oI]
theorem AF (n:aQ)(k:Int)(i:Nat):ee n k=pR (n.sg.take i) k++pR (n.sg.drop i) k:=by
 unfold ee pR
 rw[<-List.map_append,<-List.filter_append,List.take_append_drop]
theorem MS {n:aQ}(hm:aV n)(k:Int){i:Nat}(hi:i<=n.sg.length):dV (ee n k) (nK n k i)=((dU n k i:Nat):Int):=by
 have h:=AF n k i
 rw[rI _ _ (by rw[h,List.length_append];unfold nK;omega),BR hm k i hi,h]
 unfold nK
 rw[List.take_left']
 rfl
theorem OH {n:aQ}(k:Int){s:Nat}(hs:s<n.sg.length)(hk:aY n (s:Nat)=k):nK n k s<(ee n k).length/\(ee n k).getD (nK n k s) default=l6 n (s:Nat):=by
 have h:=AF n k (s+1)
 rw[dm hs,rA (by rw[<-bG];exact hk),List.append_assoc] at h
 unfold nK
 rw[h]
 refine⟨by simp,?_⟩
 rw[List.getD_eq_getElem?_getD,List.getElem?_append_right (Nat.le_refl _),Nat.sub_self,pt]
 rfl
theorem G7 {n:aQ}{k:Int}{i:Nat}(hi:i<n.sg.length):nK n k (i+1)=if aY n (i:Nat)=k then nK n k i+1 else nK n k i:=by
 unfold nK
 rw[dm hi]
 by_cases h:aY n (i:Nat)=k
 ·rw[if_pos h,rA (by rw[<-bG];exact h)];simp
 ·rw[if_neg h,yn (by rw[<-bG];exact h)]
theorem MT {n:aQ}(hm:aV n)(hf:ch n)(k:Int):lL (ee n k) (ee n k).length:=fun j hj=>by
 obtain⟨s,h1,h2,h3⟩:=GY (l:=n.sg) (k:=k) (aK (X:=ee n k) hj)
 obtain⟨i,hi,he⟩:=List.getElem_of_mem h1
 have hw:=nY hm hf (s:=(i:Nat)) (by unfold dr;omega)
 have MU:=oL hm (s:=(i:Nat)) (by unfold dr;omega)
 rw[pt,List.getD_eq_getElem?_getD,List.getElem?_eq_getElem hi] at MU
 have MU:((wN n (i:Nat):Nat):Int)=n.sg[i].width:=MU
 rw[he,h3] at MU
 omega
def AG (n:aQ)(v ins:List Int):Nat->List Int×Nat
 |0=>(v,0)
 |s+1=>if aY n (s:Nat)=0 then((AG n v ins s).1.set s (ins.getD (AG n v ins s).2 default%2^wN n (s:Nat)),(AG n v ins s).2+1) else AG n v ins s
theorem B4 {n:aQ}{v ins:List Int}(hv:v.length=n.sg.length):∀i:Nat,i<=n.sg.length->(AG n v ins i).1.length=n.sg.length/\(AG n v ins i).2=nK n 0 i/\∀s:Nat,(AG n v ins i).1.getD s default=if s<i/\aY n (s:Nat)=0 then ins.getD (nK n 0 s) default%2^wN n (s:Nat) else v.getD s default
 |0,_=>⟨hv,rfl,fun s=>by rw[if_neg (by omega)];rfl⟩
 |i+1,hi=>by
  obtain⟨h1,h2,h3⟩:=B4 hv i (by omega)
  rw[AG,G7 (by omega)]
  by_cases hk:aY n (i:Nat)=0
  ·rw[if_pos hk,if_pos hk]
   refine⟨by rw[List.length_set];exact h1,by rw[h2],fun s=> ?_⟩
   dsimp only
   rw[cH (by rw[h1];omega)]
   by_cases CE:s=i
   ·subst CE
    rw[if_pos rfl,if_pos ⟨by omega,hk⟩,h2]
   ·rw[if_neg CE,h3 s]
    by_cases bD:s<i/\aY n (s:Nat)=0
    ·rw[if_pos bD,if_pos ⟨by omega,bD.2⟩]
    ·rw[if_neg bD,if_neg (fun h=>bD ⟨by omega,h.2⟩)]
  ·rw[if_neg hk,if_neg hk]
   refine⟨h1,h2,fun s=> ?_⟩
   rw[h3 s]
   by_cases bD:s<i/\aY n (s:Nat)=0
   ·rw[if_pos bD,if_pos ⟨by omega,bD.2⟩]
   ·rw[if_neg bD,if_neg (fun h=>bD ⟨by
     by_cases CE:s=i
     ·subst CE;exact absurd h.2 hk
     ·omega,h.2⟩)]
noncomputable def rX (n:aQ)(l:List Nat)(v:List Int):Nat->List Int
 |0=>v
 |i+1=>(rX n l v i).set (dT n (l.getD i 0)).toNat (lr (rX n l v i) (wN n (dT n (l.getD i 0))) (cU n (l.getD i 0)))
noncomputable def B5 (n:aQ)(l:List Nat)(v ins:List Int):List Int:=rX n l (AG n v ins n.sg.length).1 l.length
structure qP (n:aQ)(v:List Int):Prop where
 len:v.length=n.sg.length
 Az:∀s:Nat,s<n.sg.length->CA (wN n (s:Nat)) (v.getD s default)
theorem wD (w:Nat):(0:Int)<2^w:=mX w
theorem wU {n:aQ}{v:List Int}(h:qP n v)(ins:List Int):qP n (AG n v ins n.sg.length).1:=by
 obtain⟨h1,h2,h3⟩:=B4 (ins:=ins) h.len n.sg.length (Nat.le_refl _)
 refine⟨h1,fun s hs=> ?_⟩
 rw[h3 s]
 have:=wD (wN n (s:Nat))
 split
 ·exact⟨Int.emod_nonneg _ (by omega),Int.emod_lt_of_pos _ (by omega)⟩
 ·exact h.Az s hs
theorem qQ {n:aQ}(hm:aV n)(hf:ch n){l:List Nat}(hl:∀i,i∈l->i<n.aP.length){v:List Int}(h:qP n v):∀i,i<=l.length->qP n (rX n l v i)
 |0,_=>h
 |i+1,hi=>by
  have ih:=qQ hm hf hl h i (by omega)
  have hq:l.getD i 0<n.aP.length:=hl _ (by rw[List.getD_eq_getElem?_getD,List.getElem?_eq_getElem (by omega)];exact List.getElem_mem _)
  obtain⟨_,_,h3,_⟩:=gg hm hf hq
  have hw:=nY hm hf h3
  unfold dr at h3
  refine⟨by rw[rX,List.length_set];exact ih.len,fun s hs=> ?_⟩
  rw[rX,cH (by rw[ih.len];omega)]
  by_cases jr:s=(dT n (l.getD i 0)).toNat
  ·rw[if_pos jr,show((s:Nat):Int)=dT n (l.getD i 0) by omega]
   exact jJ hw _ _
  ·rw[if_neg jr];exact ih.Az s hs
theorem B6 {n:aQ}(hm:aV n)(hf:ch n){l:List Nat}(hl:∀i,i∈l->i<n.aP.length){v:List Int}(h:qP n v)(ins:List Int):qP n (B5 n l v ins):=qQ hm hf hl (wU h ins) _ (Nat.le_refl _)
structure V4 (n:aQ)(v w st:List Int):Prop where
 val:qP n v
 B7:w.length=4*n.ms.length
 OI:∀j,j<n.ms.length->∀a,a<4->CA (wN n (fa n j:Nat)) (w.getD (4*j+a) default)
 v0:∀s:Nat,s<n.sg.length->aY n (s:Nat)≠3->(∀j,j<n.ms.length->fa n j≠s)->v.getD s default=0
 fE:st.length=dU n 3 n.sg.length+jc n n.ms.length
 V5:∀s:Nat,s<n.sg.length->aY n (s:Nat)=3->∀k,k<wN n (s:Nat)->st.getD (dU n 3 s+k) default=if tb (v.getD s default) k then 1 else 0
 ram:∀j,j<n.ms.length->∀k,k<wN n (fa n j:Nat)->(0<=st.getD (dU n 3 n.sg.length+jc n j+k) default/\st.getD (dU n 3 n.sg.length+jc n j+k) default<=31)/\tb (st.getD (dU n 3 n.sg.length+jc n j+k) default) 0=tb (v.getD (fa n j) default) k/\∀a,a<4->tb (st.getD (dU n 3 n.sg.length+jc n j+k) default) (1+a)=tb (w.getD (4*j+a) default) k
theorem G8 {a:Int}{w k:Nat}(h:CA w a)(hk:w<=k):tb a k=false:=by
 have h2:=lT hk
 unfold tb
 rw[Int.ediv_eq_zero_of_lt h.1 (by have:=h.2;omega)];rfl
theorem Kf (x:Int):decide (bits .and .i64 x 1=1)=decide (x%2=1):=by rw[dx]
theorem B8 {U:List Int}{n:ao}(hn:n.af=[])(h1:dp U){p:Nat}:vB U n (2*((p:Nat):Int))=decide (U.getD p default=1):=by
 unfold vB
 rw[hn]
 show decide (a8 U _=1)=_
 rw[jz h1,if_pos (by omega),show(2*(p:Int)/2).toNat=p by omega]
theorem Kg {p w k:Nat}(h:k<w):(jt p w).getD k 0=2*((p+k:Nat):Int):=by
 unfold jt
 simp[List.getD_eq_getElem?_getD,h]
theorem oP (n:aQ)(k:Int){s:Nat}(hk:aY n (s:Nat)=k):dU n k (s+1)=dU n k s+wN n (s:Nat):=by rw[dU,if_pos hk]
theorem DO {x:Int}{a k w:Nat}(hk:k<w):tb x (a+k)=tb (x/2^a%2^w) k:=by
 unfold tb
 have e1:(2:Int)^(a+k)=2^a*2^k:=Int.pow_add _ _ _
 have e2:(2:Int)^w=2^k*(2*2^(w-k-1)):=by
  rw[<-Int.mul_assoc,<-Int.pow_succ,<-Int.pow_add];congr 1;omega
 have p1:=wD a
 have p2:=wD k
 rw[e1,<-Int.ediv_ediv_of_nonneg (by omega)]
 obtain⟨y,hy⟩:∃y,y=x/2^a:=⟨_,rfl⟩
 rw[<-hy,e2]
 obtain⟨D,hD⟩:∃D:Int,D=2^(w-k-1):=⟨_,rfl⟩
 obtain⟨K,hK⟩:∃K:Int,K=2^k:=⟨_,rfl⟩
 rw[<-hD,<-hK]
 have h1:y% (K*(2*D))/K=y/K% (2*D):=by
  have h2:=Int.emod_def y (K*(2*D))
  have h3:=Int.emod_def (y/K) (2*D)
  rw[h2,h3]
  have h4:y/(K*(2*D))=y/K/(2*D):=by rw[Int.ediv_ediv_of_nonneg (by omega)]
  rw[h4,Int.mul_assoc,show y-K*(2*D*(y/K/(2*D)))=y+(-(2*D*(y/K/(2*D))))*K by rw[Int.neg_mul,Int.mul_comm K];rfl,Int.add_mul_ediv_right _ _ (by omega)]
  rfl
 rw[h1,Int.emod_emod_of_dvd _ (Int.dvd_mul_right 2 D)]
end Go.Xw
end
