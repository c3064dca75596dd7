/- Texts that belong together; each under its stated conditions. -/
import Derived.Test.YtiepmliokblkjaaGreatGraph1
import Derived.Test.YtiepmliokblkjaaGreatBrf
import Derived.Test.YtiepmliokblkjaaGreatFam
import Derived.Test.YtiepmliokblkjaaGreatNet
import Derived.Test.YtiepmliokblkjaaGreatBits
set_option linter.all false
section
namespace Go.Proofs
open Go.Xw
set_option maxRecDepth 100000
set_option maxHeartbeats 1000000
attribute [local irreducible] ax aE
end Go.Proofs
end
section
namespace Go.Xw
theorem aj.nodes {x:bf}(h:aj x.n):1<=aB x.n/\aB x.n+x.af.length=ag x.n/\ag x.n<=333:=by
 have h1:=h.jR
 have h2:=iU x
 have h3:=eD x
 omega
theorem aj.tH {x:bf}(h:aj x.n){i:Nat}(hi:i<x.af.length):0<=(x.af.getD i default).1/\(x.af.getD i default).1/2<aB x.n+i/\0<=(x.af.getD i default).2/\(x.af.getD i default).2/2<aB x.n+i:=by
 have h1:=h.af i hi
 unfold aD at h1
 exact⟨h1.1.1,h1.1.2,h1.2.1,h1.2.2⟩
end Go.Xw
namespace Go.Proofs
open Go.Xw
set_option maxRecDepth 100000
set_option maxHeartbeats 1000000
attribute [local irreducible] ax aE
theorem E5 {x:bf}(aS:aj x.n){i:Nat}(hi:i<(bc x.n).length):0<=(bc x.n).getD i default/\(bc x.n).getD i default/2<ag x.n:=by
 have:=aS.roots i hi
 exact this
theorem JA {x:bf}(aS:aj x.n):(bc x.n).length<=100:=by
 rw[bc,x.fE];exact aS.bound _ (Nat.le_refl _)
end Go.Proofs
end
section
namespace Go.Proofs
open Go.Xw
set_option maxRecDepth 100000
end Go.Proofs
end
section
namespace Go.Xw
theorem qy {w0 w:World}{L:List bh}{R:List dO}{y:dO}(h:Hp w0 w (rO 3 1 eI y.ia y.ic y.ins::fz R::L)):Hp w0 w (fz (R++[y])::L):=by
 have h1:=h.f1.unpack
 refine Hp.pack (Hp.perm h1 ?_)
 simp only[List.map_append,List.map_cons,List.map_nil,List.append_assoc]
 exact .refl _
end Go.Xw
namespace Go.Proofs
open Go.Xw
set_option maxRecDepth 100000
set_option maxHeartbeats 1000000
attribute [local irreducible] ax aE
theorem vN (R:List dO)(y:dO):aU (R++[y])=aU R++[y.s]:=by simp[aU]
theorem qz (a:Option Addr)(c:Nat)(X:List dO)(w0:World)(hX:r9 w0 a X)(hl:X.length<=1048576)(sb:∀i,i<X.length->(X.getD i default).ins.length<=1048576):
  bN Tryz.prog 140 [.slice a X.length c] w0 (fun v w=>∃b c' R,(aU R=aU X/\v= .slice b R.length c')/\Hp w0 w [E0 b c' R]):=by
 have hr:=hX.row
 refine eu Tryz.QF ?_;intro C hp
 refine lX hp ke ([]:List dO) ?_;intro w b3 hx hp;refine az ?_
 refine jv [0,3,4] (fun(i:Nat) (R:List dO) (b:Option Addr) (c':Nat)=>[(0,.slice a X.length c),(3,.slice b R.length c'),(4,.int .i64 (i:Int))])
  (fun i R b c' w'=>(i<=X.length/\R.length=i/\aU R=(aU X).take i)/\Hp w0 w' [rO 68 3 ke b c' R,fz R]) (fun i _ _ _=>X.length-i) 0 [] _ _ rfl ⟨⟨by omega,rfl,rfl⟩,(ot hp).f1⟩ ?_
 rintro i R b c' w1 ⟨⟨hi,hR,wJ⟩,hp⟩ IH C
 refine bL ?_
 apply ae<;>intro bD
 ·have aF:i<X.length:=by omega
  have jg:=hX.at_ aF
  have hb:=sb i aF
  refine aN ?_
  refine j7 hp ?_;intro w hx hp;have hs:=hp;(repeat(first|(refine ah ?_;refine lH rfl (by omega) rfl rfl rfl ?_)|(refine bK ?_;refine qv (fun _ hx=>hs.ext hx) hp rfl rfl rfl rfl rfl rfl rfl rfl rfl rfl ?_;intro w _ hx hp;have hs:=hs.ext hx;refine fO ?_)))
  refine HO hp rfl rfl rfl rfl rfl rfl rfl (by decide) rfl (zl) rfl rfl (fun _ _ _ hp=>hp.drop) ?_;intro b6 c6 w hp bZ;have hs:=hp.drop;refine fO ?_
  refine CZ (fun _ hx=>hs.ext hx) hp ke [⟨(X.getD i default).kind,(X.getD i default).init,(X.getD i default).ins,b6,c6⟩] rfl rfl rfl rfl (s:=3) rfl (by decide) (by infer_instance) (by rfl) (by rfl) (by rfl) (by decide) ?_;intro w b7 hx hp;have hs:=hs.ext hx;refine fO ?_
  refine gW hp rfl rfl rfl rfl rfl rfl rfl (by decide) rfl (zl) rfl rfl (by kernel_rfl) ?_;intro b' VK w hp bZ;refine fO ?_
  have hp:=qy (y:=⟨(X.getD i default).kind,(X.getD i default).init,(X.getD i default).ins,b6,c6⟩) hp.drop.f2.f1
  refine IH (i+1) _ b' VK _ _ _ (by omega) rfl ⟨⟨by omega,by simp;omega,?_⟩,hp.f1⟩
  rw[iT (by rw[cm];exact aF),<-wJ,gL,vN]
  rfl
 ·refine aM ?_;refine aq ?_
  obtain rfl:i=X.length:=by omega
  rw[<-cm X,List.take_length] at wJ
  exact⟨b,c',R,⟨wJ,rfl⟩,gX hp⟩
theorem cq (x:bf)(w0:World)(hX:fG w0 x)(hS:kK x.n):
  bN Tryz.prog 80 [x.v] w0 (fun v w=>∃y,(y.n=x.n/\v=y.v)/\Hp w0 w [dv y]):=by
 obtain⟨s1,s2,s3,s4⟩:=hS
 rw[x.fE] at s1 s2
 simp only[x.rT] at s2
 have s3:x.af.length<=1048576:=s3
 have s4:x.outs.length<=1048576:=s4
 refine eu Tryz.Vt ?_;intro C hp;skip;refine bP hp ?_;intro w b1 hx hp;refine az ?_;skip;refine bP hp ?_;intro w b2 hx hp;refine az ?_
 refine fR hp ?_;(repeat(refine fy ?_))
 refine j8 Tryz.func140 (fun F w hp=> ?_);refine bN.mono (qz _ _ _ _ hp.dR.au s1 s2) ?_;rintro _ w ⟨b5,c5,R,⟨hR,rfl⟩,hq⟩;have hp:=hp.eU hq;refine⟨fun _=>hp.sub (by(repeat(first|exact List.sublist_append_left _ _|apply List.Sublist.cons))),_,hp,?_⟩;clear hp;refine cX ?_
 refine pO gh ([]:List (Int×Int)) rfl rfl rfl rfl (s:=2) rfl (by decide) (by infer_instance) (by rfl) (by rfl) (by rfl) (by decide) ?_;intro b7;refine cX ?_;refine fy ?_
 refine fZ rfl rfl rfl rfl rfl rfl rfl (by decide) rfl (zl) rfl rfl (fun _ _ _ _ _ hp=>hp.sub (by(repeat(first|exact List.sublist_append_left _ _|apply List.Sublist.cons)))) ?_;intro b8 c8 bZ;refine cX ?_;(repeat(first|(refine gu ?_;refine fy ?_)|(refine qw ?_;refine lI rfl rfl rfl rfl rfl rfl rfl rfl rfl rfl ?_;intro _;refine cX ?_)))
 refine fZ rfl rfl rfl rfl rfl rfl rfl (by decide) rfl (zl) rfl rfl (fun _ _ _ _ _ hp=>hp.sub (by(repeat(first|exact List.sublist_append_left _ _|apply List.Sublist.cons)))) ?_;intro b9 c9 bZ;refine cX ?_;refine eO rfl rfl rfl rfl (by kernel_rfl) ?_;refine cX ?_
 refine dc ?_;intro w hp C;refine bL ?_;refine iD hp rfl ?_
 refine⟨⟨x.aT,R,b5,c5,x.af,b8,c8,x.outs,b9,c9⟩,⟨by unfold bf.n;rw[hR],rfl⟩,?_⟩
 exact Hp.sub (fe (x:=⟨x.aT,R,b5,c5,x.af,b8,c8,x.outs,b9,c9⟩) hp.f1.f2) (by simp)
end Go.Proofs
end
section
namespace Go.Xw
def bE (n:ao):Nat:=(aB n).toNat
def kA (n:ao)(i:Nat):Nat:=((n.af.getD i default).1/2).toNat
def kB (n:ao)(i:Nat):Nat:=((n.af.getD i default).2/2).toNat
def dF (n:ao):Nat:=(ag n).toNat
inductive dM (n:ao):Nat->Nat->Prop where
 |refl (k:Nat):dM n k k
 |left {i k:Nat} (hi:i<n.af.length) (h:dM n (kA n i) k):dM n (bE n+i) k
 |right {i k:Nat} (hi:i<n.af.length) (h:dM n (kB n i) k):dM n (bE n+i) k
structure HU (n:ao):Prop where
 f1:1<=bE n
 f2:((bE n:Nat):Int)=aB n
 n1:dF n=bE n+n.af.length
 n2:((dF n:Nat):Int)=ag n
 ka:∀i,i<n.af.length->kA n i<bE n+i
 kb:∀i,i<n.af.length->kB n i<bE n+i
theorem aj.ei {n:ao}(h:aj n):HU n:=by
 have h1:=h.size
 unfold fT at h1
 have h2:aB n=1+n.aT+n.au.length:=rfl
 have h3:ag n=1+n.aT+n.au.length+n.af.length:=rfl
 refine⟨by unfold bE;omega,by unfold bE;omega,by unfold dF bE;omega,by unfold dF;omega,fun i hi=> ?_,fun i hi=> ?_⟩
 ·have h4:=(h.af i hi).1
  unfold aD at h4
  unfold kA bE
  omega
 ·have h4:=(h.af i hi).2
  unfold aD at h4
  unfold kB bE
  omega
theorem dM.trans {n:ao}{a b c:Nat}(h:dM n a b)(k:dM n b c):dM n a c:=by
 induction h with
 |refl=>exact k
 |left hi _ ih=>exact .left hi (ih k)
 |right hi _ ih=>exact .right hi (ih k)
theorem dM.le {n:ao}(hn:HU n){a b:Nat}(h:dM n a b):b<=a:=by
 induction h with
 |refl=>exact Nat.le_refl _
 |left hi _ ih=>have:=hn.ka _ hi;omega
 |right hi _ ih=>have:=hn.kb _ hi;omega
theorem dM.leaf {n:ao}{a b:Nat}(h:dM n a b)(ha:a<bE n):b=a:=by
 cases h with
 |refl=>rfl
 |left hi _=>omega
 |right hi _=>omega
theorem dM.tH {n:ao}{i b:Nat}(hi:i<n.af.length):dM n (bE n+i) b↔b=bE n+i\/dM n (kA n i) b\/dM n (kB n i) b:=by
 constructor
 ·intro h
  generalize hg:bE n+i=a at h
  cases h with
  |refl=>exact .inl rfl
  |left mh h2=>obtain rfl:i=_:=Nat.add_left_cancel hg;exact .inr (.inl h2)
  |right mh h2=>obtain rfl:i=_:=Nat.add_left_cancel hg;exact .inr (.inr h2)
 ·rintro(rfl|h|h)
  ·exact .refl _
  ·exact .left hi h
  ·exact .right hi h
def kj (n:ao)(B:List Bool)(m:Nat):Prop:=∀i,i<n.af.length->bE n+i<=m->B.getD (bE n+i) default=true->B.getD (kA n i) default=true/\B.getD (kB n i) default=true
theorem kj.C6 {n:ao}(hn:HU n){B:List Bool}{m:Nat}(h:kj n B m){a b:Nat}(hc:dM n a b)(ha:a<=m)(hB:B.getD a default=true):B.getD b default=true:=by
 induction hc with
 |refl=>exact hB
 |left hi _ ih=>exact ih (by have:=hn.ka _ hi;omega) (h _ hi ha hB).1
 |right hi _ ih=>exact ih (by have:=hn.kb _ hi;omega) (h _ hi ha hB).2
structure E6 (n:ao)(B:List Bool)(a:Nat)(B':List Bool):Prop where
 len:B'.length=B.length
 iff:∀k,k<B.length->(B'.getD k default=true↔B.getD k default=true\/dM n a k)
theorem E6.closed {n:ao}(hn:HU n){B B':List Bool}{a m:Nat}(h:E6 n B a B')(hl:B.length=dF n)(hc:kj n B m):kj n B' m:=by
 intro i hi HV hB
 have SV:=hn.ka i hi
 have hkb:=hn.kb i hi
 have O9:=hn.n1
 rw[h.iff _ (by omega)] at hB
 rw[h.iff _ (by omega),h.iff _ (by omega)]
 rcases hB with hB|hB
 ·have:=hc i hi HV hB
  exact⟨.inl this.1,.inl this.2⟩
 ·exact⟨.inr (hB.trans (.left hi (.refl _))),.inr (hB.trans (.right hi (.refl _)))⟩
theorem qB {B:List Bool}{i k:Nat}(hi:i<B.length):(B.set i true).getD k default=true↔k=i\/B.getD k default=true:=by
 simp only[List.getD_eq_getElem?_getD,List.getElem?_set]
 by_cases h:i=k
 ·subst h;simp[hi]
 ·rw[if_neg h]
  constructor
  ·exact .inr
  ·rintro(rfl|h2)
   ·exact absurd rfl h
   ·exact h2
def ow (n:ao)(k:Nat):Prop:=∃i,i<(bc n).length/\dM n ((bc n).getD i default/2).toNat k
noncomputable def pB (p:Prop):Bool:= @decide p (Classical.propDecidable p)
theorem cR {p:Prop}:pB p=true↔p:=by simp[pB]
theorem bt {p:Prop}(h:¬p):pB p=false:=by simp[pB,h]
noncomputable def vO (m:Nat)(p:Nat->Prop):List Bool:=(List.range m).map fun k=>pB (p k)
theorem ri (m:Nat)(p:Nat->Prop):(vO m p).length=m:=by simp[vO]
theorem jT {m k:Nat}{p:Nat->Prop}(h:k<m):(vO m p).getD k default=true↔p k:=by
 simp[vO,List.getD_eq_getElem?_getD,h,cR]
theorem mJ {m:Nat}{p:Nat->Prop}{B:List Bool}(hl:B.length=m)(h:∀k,k<m->(B.getD k default=true↔p k)):B=vO m p:=by
 refine List.ext_getElem (by rw[hl,ri]) fun k h1 h2=> ?_
 have h3:=h k (by omega)
 have h4:=jT (m:=m) (p:=p) (k:=k) (by omega)
 rw[List.getD_eq_getElem?_getD,List.getElem?_eq_getElem h1] at h3
 rw[List.getD_eq_getElem?_getD,List.getElem?_eq_getElem h2] at h4
 simp only[Option.getD_some] at h3 h4
 rw[Bool.eq_iff_iff,h3,h4]
noncomputable def aC (n:ao):List Bool:=vO (dF n) (ow n)
end Go.Xw
end
section
namespace Go.Xw
open Go.RowKit
def cS (a:Int):Int:=bits .xor .i64 a 1
theorem C7 (n:Nat):n^^^1=if n%2=0 then n+1 else n-1:=by
 have h1:(n^^^1)/2=n/2:=by rw[Nat.xor_div_two];simp
 have h2:(n^^^1)%2=(n+1)%2:=by
  have:=Nat.xor_mod_two_pow (a:=n) (b:=1) (n:=1)
  simp only[Nat.pow_one] at this
  rcases Nat.mod_two_eq_zero_or_one n with h|h
  ·rw[this,h,show 0^^^1%2=1 from rfl];omega
  ·rw[this,h,show 1^^^1%2=0 from rfl];omega
 split<;>omega
theorem Mi {a:Int}(h:0<=a)(h2:a<=9223372036854775807):bits .xor .i64 a 1=if a%2=0 then a+1 else a-1:=by
 obtain⟨n,rfl⟩:=Int.eq_ofNat_of_zero_le h
 have:=iR n 1 (by omega) (by omega)
 rw[show((1:Nat):Int)=1 from rfl] at this
 rw[this,C7]
 split<;>split<;>omega
theorem xor_zero {a:Int}(h:0<=a)(h2:a<=9223372036854775807):bits .xor .i64 a 0=a:=by
 obtain⟨n,rfl⟩:=Int.eq_ofNat_of_zero_le h
 have:=iR n 0 (by omega) (by omega)
 rw[show((0:Nat):Int)=0 from rfl] at this
 rw[this,Nat.xor_zero]
theorem pf {a:Int}(h:0<=a)(h2:a<=9223372036854775807):cS a=if a%2=0 then a+1 else a-1:=Mi h h2
theorem xO {a:Int}(h:0<=a)(h2:a<=9223372036854775807):0<=cS a/\cS a<=9223372036854775807/\cS a/2=a/2/\cS a≠a:=by
 rw[pf h h2];split<;>omega
theorem JB {a b:Int}(h:0<=a)(h2:a<=9223372036854775807)(k:0<=b)(k2:b<=9223372036854775807):cS a=b↔a=cS b:=by
 rw[pf h h2,pf k k2];split<;>split<;>omega
theorem tI {a k:Int}(ha:da a)(h:0<=a):aD (cS a) k↔aD a k:=by
 have:=xO h ha.2
 unfold aD
 omega
theorem xP (n:ao):∀i,i<=n.au.length->bR n i=n.outs++(n.au.take i).flatMap fS.ins
 |0,_=>by simp[bR]
 |i+1,h=>by
  rw[bR,xP n i (by omega),List.take_succ_eq_append_getElem (by omega),List.flatMap_append,List.append_assoc]
  congr 2
  simp[List.getD_eq_getElem?_getD,List.getElem?_eq_getElem (show i<n.au.length by omega)]
theorem jU (n:ao):bc n=n.outs++n.au.flatMap fS.ins:=by
 rw[bc,xP n _ (Nat.le_refl _),List.take_length]
theorem f' {α:Type}[Inhabited α]{l:List α}{p:α->Prop}:(∀x,x∈l->p x)↔∀i,i<l.length->p (l.getD i default):=by
 constructor
 ·intro h i hi;exact h _ (aK hi)
 ·intro h x hx
  obtain⟨i,hi,rfl⟩:=List.mem_iff_getElem.1 hx
  have:=h i hi
  rwa[List.getD_eq_getElem?_getD,List.getElem?_eq_getElem hi,Option.getD_some] at this
theorem aD.nat {l:Int}{n:ao}(hn:HU n)(h:aD l (ag n)):(l/2).toNat<dF n:=by
 have:=hn.n2
 unfold aD at h
 omega
theorem aj.root {n:ao}(h:aj n):∀x,x∈bc n->aD x (ag n):=f'.2 h.roots
theorem aj.out {n:ao}(h:aj n):∀x,x∈n.outs->aD x (ag n):=fun x hx=>h.root x (by rw[jU];exact List.mem_append_left _ hx)
theorem aj.ck {n:ao}(h:aj n){s:fS}(hs:s∈n.au):∀x,x∈s.ins->aD x (ag n):=fun x hx=>h.root x (by
 rw[jU];exact List.mem_append_right _ (List.mem_flatMap.2 ⟨s,hs,hx⟩))
theorem aj.count {n:ao}(h:aj n):1<=aB n/\aB n+n.af.length=ag n/\ag n<=333:=by
 have:=h.size
 unfold fT at this
 unfold aB ag
 omega
theorem aD.i64 {x k:Int}(h:aD x k)(hk:k<=1000000):da x:=by unfold aD at h;unfold da;omega
theorem aj.W {n:ao}(h:aj n):nq n:=by
 have hc:=h.count
 refine⟨fun i hi=>(h.out _ (aK hi)).i64 (by omega),fun i hi j hj=>(h.ck (aK hi) _ (aK hj)).i64 (by omega),fun i hi=> ?_⟩
 have:=h.af i hi
 exact⟨this.1.i64 (by omega),this.2.i64 (by omega)⟩
theorem aj.S' {n:ao}(h:aj n):kK n:=by
 have h1:=h.size
 unfold fT at h1
 refine⟨by omega,fun i hi=> ?_,by omega,by omega⟩
 rcases h.au i hi with⟨_,_,h2⟩|⟨_,_,h2⟩<;>omega
def ay (n:ao)(a b:Int):ao×Int:=
 if a=0\/b=0\/cS a=b then(n,0)
 else if a=1\/a=b then(n,b)
 else if b=1 then(n,a)
 else if n.af.idxOf (min a b,max a b)<n.af.length then(n,2*(aB n+(n.af.idxOf (min a b,max a b):Nat)))
 else if 300<=n.af.length then(n,-1)
 else({n with af:=n.af++[(min a b,max a b)]},2*ag n)
theorem Am (n:ao)(a b:Int):(ay n a b).1={n with af:=(ay n a b).1.af}:=by
 unfold ay;(repeat' split)<;>rfl
theorem xQ (n:ao)(a b:Int):(ay n a b).1.aT=n.aT:=by unfold ay;(repeat' split)<;>rfl
theorem Bx (n:ao)(a b:Int):(ay n a b).1.au=n.au:=by unfold ay;(repeat' split)<;>rfl
theorem tJ (n:ao)(a b:Int):(ay n a b).1=n\/((ay n a b).1.af=n.af++[(min a b,max a b)]/\(ay n a b).2=2*ag n/\n.af.length<300):=by
 unfold ay
 (repeat' split)<;>first|exact .inl rfl|(exact .inr ⟨rfl,rfl,by omega⟩)
theorem aD.mono {x k k':Int}(h:aD x k)(hk:k<=k'):aD x k':=by unfold aD at h⊢;omega
theorem aj.snoc {n:ao}(h:aj n){x:Int×Int}(h1:aD x.1 (ag n))(h2:aD x.2 (ag n))(hl:n.af.length<300):aj {n with af:=n.af++[x]}:=by
 obtain⟨s1,s2,s3,s4⟩:=h.size
 have hc:=h.count
 have e:ag {n with af:=n.af++[x]}=ag n+1:=by unfold ag;simp;omega
 have e2:aB {n with af:=n.af++[x]}=aB n:=rfl
 refine⟨⟨s1,s2,by simp;omega,s4⟩,h.au,fun i hi=> ?_,fun i hi=> ?_⟩
 ·rw[e]
  have e3:bc {n with af:=n.af++[x]}=bc n:=by rw[jU,jU]
  rw[e3] at hi⊢
  exact(h.roots i hi).mono (by omega)
 ·rw[e2]
  simp only[List.length_append,List.length_cons,List.length_nil] at hi
  show aD ((n.af++[x]).getD i default).1 _/\aD ((n.af++[x]).getD i default).2 _
  by_cases mh:i<n.af.length
  ·rw[dd mh];exact h.af i mh
  ·obtain rfl:i=n.af.length:=by omega
   rw[eh,hc.2.1];exact⟨h1,h2⟩
theorem E7 {n:ao}(h:aj n){a b:Int}(ha:aD a (ag n))(hb:aD b (ag n)):aj (ay n a b).1:=by
 rcases tJ n a b with e|⟨e,_,hl⟩
 ·rw[e];exact h
 ·rw[Am,e]
  refine h.snoc ?_ ?_ hl<;>unfold aD at* <;>dsimp only<;>omega
theorem zF (n:ao)(a b:Int):ag n<=ag (ay n a b).1:=by
 rcases tJ n a b with e|⟨e,_,hl⟩
 ·rw[e];exact Int.le_refl _
 ·unfold ag;rw[xQ,Bx,e];simp;omega
theorem vP {n:ao}(h:aj n){a b:Int}(ha:aD a (ag n))(hb:aD b (ag n)):aD (ay n a b).2 (ag (ay n a b).1)\/(ay n a b)=(n,-1):=by
 have hc:=h.count
 unfold ay
 unfold aD at*
 repeat' split
 all_goals first|(right;rfl)|(left;dsimp only;first|omega|skip)
 have:ag {n with af:=n.af++[(min a b,max a b)]}=ag n+1:=by unfold ag;simp;omega
 rw[this];omega
theorem C8 {n:ao}(h:aj n){a b:Int}(ha:aD a (ag n))(hb:aD b (ag n))(hn:(ay n a b).2<0):ay n a b=(n,-1):=by
 rcases vP h ha hb with h2|h2
 ·unfold aD at h2;omega
 ·exact h2
theorem C9 {l:List (Int×Int)}{x:Int×Int}{i:Nat}(h:∀j,j<i->l.getD j default≠x)(hi:i<l.length)(he:l.getD i default=x):l.idxOf x=i:=by
 have h1:l.idxOf x<=i:=by
  have:=List.getElem?_eq_getElem hi
  rcases Nat.lt_or_ge i (l.idxOf x) with h2|h2
  ·exfalso
   have h3:=List.not_of_lt_findIdx (p:=(· ==x)) (xs:=l) (i:=i) h2
   rw[List.getD_eq_getElem?_getD,this,Option.getD_some] at he
   simp[he] at h3
  ·exact h2
 rcases Nat.lt_or_ge (l.idxOf x) i with h2|h2
 ·exfalso
  have h3:l.idxOf x<l.length:=by omega
  refine h _ h2 ?_
  rw[List.getD_eq_getElem?_getD,List.getElem?_eq_getElem h3,Option.getD_some]
  exact List.getElem_idxOf h3
 ·omega
theorem xR {l:List (Int×Int)}{x:Int×Int}(h:∀j,j<l.length->l.getD j default≠x):¬l.idxOf x<l.length:=fun h3=>by
 refine h _ h3 ?_
 rw[List.getD_eq_getElem?_getD,List.getElem?_eq_getElem h3,Option.getD_some]
 exact List.getElem_idxOf h3
def Lb (r:ao×Int):ao×Int:=if r.2<0 then(r.1,-1) else(r.1,cS r.2)
def cF (n:ao)(a b:Int):ao×Int:=Lb (ay n (cS a) (cS b))
def eE (n:ao)(a b c d:Int):ao×Int:=
 if(ay n a b).2<0 then((ay n a b).1,-1)
 else if(ay (ay n a b).1 c d).2<0 then((ay (ay n a b).1 c d).1,-1)
 else cF (ay (ay n a b).1 c d).1 (ay n a b).2 (ay (ay n a b).1 c d).2
def de (n:ao)(a b:Int):ao×Int:=eE n a (cS b) (cS a) b
def dy (n:ao)(s a b:Int):ao×Int:=eE n s a (cS s) b
def E8 (n:ao)(r:ao×Int):ao×Int:=if r.2<0 then(n,-1) else r
structure iv (n:ao)(r:ao×Int):Prop where
 ok:aj r.1
 eq:r.1={n with af:=r.1.af}
 nodes:ag n<=ag r.1
 lit:aD r.2 (ag r.1)\/r.2= -1
 neg:r.2<0->r.2= -1
theorem iv.b {n:ao}{r:ao×Int}(h:iv n r): -1<=r.2/\r.2<=1000:=by
 have:=h.ok.count
 rcases h.lit with h1|h1
 ·unfold aD at h1;omega
 ·omega
theorem iv.aD {n:ao}{r:ao×Int}(h:iv n r)(h0:¬r.2<0):aD r.2 (ag r.1):=by
 rcases h.lit with h1|h1
 ·exact h1
 ·omega
theorem iv.trans {n:ao}{r r':ao×Int}(h:iv n r)(k:iv r.1 r'):iv n r':=by
 refine⟨k.ok,?_,Int.le_trans h.nodes k.nodes,k.lit,k.neg⟩
 rw[k.eq,h.eq]
theorem dw {n:ao}(h:aj n){a b:Int}(ha:aD a (ag n))(hb:aD b (ag n)):iv n (ay n a b):=
 ⟨E7 h ha hb,Am n a b,zF n a b,(vP h ha hb).imp id (fun e=>by rw[e]),fun hn=>by rw[C8 h ha hb hn]⟩
theorem cN {a k:Int}(h:aD a k)(hk:k<=1000000):aD (cS a) k:=(tI (h.i64 hk) h.1).2 h
theorem iv.fail {n:ao}{r:ao×Int}(h:iv n r):iv n (r.1,-1):=⟨h.ok,h.eq,h.nodes,.inr rfl,fun _=>rfl⟩
theorem tK {n:ao}(h:aj n){a b:Int}(ha:aD a (ag n))(hb:aD b (ag n)):iv n (cF n a b):=by
 have hc:=h.count
 have g:=dw h (cN ha (by omega)) (cN hb (by omega))
 unfold cF Lb
 split
 ·exact g.fail
 ·rename_i h0
  have hc2:=g.ok.count
  have hl:=cN (g.aD h0) (by omega)
  refine⟨g.ok,g.eq,g.nodes,.inl hl,fun hn=> ?_⟩
  unfold Go.Xw.aD at hl
  dsimp only at hn
  omega
theorem Da {n:ao}(h:aj n){a b c d:Int}(ha:aD a (ag n))(hb:aD b (ag n))(hc:aD c (ag n))(hd:aD d (ag n)):iv n (eE n a b c d):=by
 have g1:=dw h ha hb
 have g2:=dw g1.ok (hc.mono g1.nodes) (hd.mono g1.nodes)
 unfold eE
 split
 ·exact g1.fail
 ·rename_i h1
  split
  ·exact(g1.trans g2).fail
  ·rename_i h2
   exact(g1.trans g2).trans (tK g2.ok ((g1.aD h1).mono g2.nodes) (g2.aD h2))
theorem tL {n:ao}(h:aj n){a b:Int}(ha:aD a (ag n))(hb:aD b (ag n)):iv n (de n a b):=by
 have hc:=h.count
 exact Da h ha (cN hb (by omega)) (cN ha (by omega)) hb
theorem tM {n:ao}(h:aj n){s a b:Int}(hs:aD s (ag n))(ha:aD a (ag n))(hb:aD b (ag n)):iv n (dy n s a b):=by
 have hc:=h.count
 exact Da h hs ha (cN hs (by omega)) hb
end Go.Xw
end
