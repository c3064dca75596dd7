/- Texts that belong together; each under its stated conditions. -/
import Derived.Test.YtiepmliokblkjaaGreatExprSim
import Derived.Test.YtiepmliokblkjaaGreatBrf
import Derived.Test.YtiepmliokblkjaaGreatNet
import Derived.Test.YtiepmliokblkjaaGreatBits
import Derived.Test.YtiepmliokblkjaaGreatAddLaw
set_option linter.all false
section
namespace Go.Xw
open Go.Proofs
set_option maxHeartbeats 1000000
noncomputable def fI (ops:List dK)(m:Int):cI:= @dite _ (∃t:cI,ops=t.dh/\t.ok m) (Classical.propDecidable _) (fun h=>Classical.choose h) (fun _=> .leaf default)
theorem kL {ops:List dK}{m:Int}(h:fU ops m)(hp:∀o,o∈ops->o.kind≠1):ops=(fI ops m).dh/\(fI ops m).ok m:=by
 have h2:=h.tree hp
 unfold fI
 rw[dif_pos h2]
 exact Classical.choose_spec h2
structure Mn (n:ao)(sig:List (List Int))(ops:List dK)(w:Int):Prop where
 dR:aj n
 Z5:sig.length<=30
 Z6:fU ops sig.length
 par:∀o,o∈ops->o.kind≠1
 wid:1<=w/\w<=4
 sg:∀l,l∈sig->l.length<=4/\∀z,z∈l->aD z (ag n)
def BD (sig:List (List Int))(w:Int)(t:cI)(n:ao):(ao×Bool)×List Int:=dD a6 sig w.toNat t (n,false)
noncomputable def EA (n:ao)(sig:List (List Int))(ops:List dK)(w:Int):ao×List Int:=
 @ite _ (Mn n sig ops w/\(BD sig w (fI ops sig.length) n).1.2=false) (Classical.propDecidable _) ((BD sig w (fI ops sig.length) n).1.1,(BD sig w (fI ops sig.length) n).2) (n,[])
theorem Gy {n:ao}{sig:List (List Int)}{ops:List dK}{w:Int}(h:Mn n sig ops w)(h2:(BD sig w (fI ops sig.length) n).1.2=false):EA n sig ops w=((BD sig w (fI ops sig.length) n).1.1,(BD sig w (fI ops sig.length) n).2):=by unfold EA;rw[if_pos ⟨h,h2⟩]
theorem Gz {n:ao}{sig:List (List Int)}{ops:List dK}{w:Int}(h2:(BD sig w (fI ops sig.length) n).1.2=true):EA n sig ops w=(n,[]):=by unfold EA;rw[if_neg (fun hh=>by rw[h2] at hh;exact Bool.noConfusion hh.2)]
theorem sQ {n:ao}{sig:List (List Int)}{ops:List dK}{w:Int}(h:¬Mn n sig ops w):EA n sig ops w=(n,[]):=by unfold EA;rw[if_neg (fun hh=>h hh.1)]
theorem Mo {n:ao}{sig:List (List Int)}{ops:List dK}{w:Int}(h:Mn n sig ops w)(t:cI):
  ((BD sig w t n).1.2=false/\dD bY sig w.toNat t n=((BD sig w t n).1.1,(BD sig w t n).2)/\∀z,z∈(BD sig w t n).2->0<=z)\/((BD sig w t n).1.2=true/\g9 (dD bY sig w.toNat t n).2):=by
 have hw:=h.wid
 rcases kl.ev (sig:=sig) (w:=w.toNat) (by omega) t h.dR (fun l hl z hz=>(h.sg l hl).2 z hz) with⟨m,l,e1,e2,h1,h2⟩|h3
 ·left
  unfold BD
  rw[e1,e2]
  exact⟨rfl,rfl,fun z hz=>(h2 z hz).1⟩
 ·exact .inr h3
end Go.Xw
end
section
namespace Go.Proofs
open Go.Xw
set_option maxRecDepth 100000
def hG (k:Int):Int:=if k=0 then 1 else if k=1 then 31 else-1
theorem Fc (k:Int)(w:World):bN Tryz.prog 166 [.int .i64 k] w (fun v w'=>v= .int .i64 (hG k)/\w'=w):=by
 refine vJ Tryz.Q7 ?_;intro C;(repeat(first|refine aO ?_|refine ba ?_))
 apply ae<;>intro h
 ·refine aN ?_;(repeat(first|refine aO ?_|refine ba ?_))
  exact⟨by unfold hG;rw[if_pos h],rfl⟩
 ·refine aM ?_;(repeat(first|refine aO ?_|refine ba ?_))
  apply ae<;>intro h2
  ·refine aN ?_;(repeat(first|refine aO ?_|refine ba ?_))
   exact⟨by unfold hG;rw[if_neg h,if_pos h2],rfl⟩
  ·refine aM ?_;(repeat(first|refine aO ?_|refine ba ?_))
   exact⟨by unfold hG;rw[if_neg h,if_neg h2],rfl⟩
def zG (v:Int)(a:Nat):Int:=bits .or .i64 (bits .and .i64 (v/2^a) 1) (bits .andNot .i64 v 1)
def Fe (v:Int)(a:Nat)(d:Int):Int:=bits .or .i64 (bits .andNot .i64 (zG v a) (2^a)) (d*2^a)
def iw (v i:Int):Int:=if i/8%2=1 then Fe v (i%4+1).toNat (i/4%2) else zG v (i%4+1).toNat
theorem Mp:∀v:Fin 32,∀a:Fin 4,∀d:Fin 2,zG v.val (a.val+1)=bits .andNot .i64 (v.val:Int) 1+bits .and .i64 ((v.val:Int)/2^(a.val+1)) 1/\0<=zG v.val (a.val+1)/\zG v.val (a.val+1)<=31/\
  Fe v.val (a.val+1) d.val=bits .andNot .i64 (zG v.val (a.val+1)) (2^(a.val+1))+d.val*2^(a.val+1)/\0<=Fe v.val (a.val+1) d.val/\Fe v.val (a.val+1) d.val<=31:=by
 decide+kernel
theorem JF {v i:Int}(h0:0<=v)(h1:v<=31):zG v (i%4+1).toNat=bits .andNot .i64 v 1+bits .and .i64 (v/2^(i%4+1).toNat) 1/\0<=zG v (i%4+1).toNat/\zG v (i%4+1).toNat<=31/\
  Fe v (i%4+1).toNat (i/4%2)=bits .andNot .i64 (zG v (i%4+1).toNat) (2^(i%4+1).toNat)+(i/4%2)*2^(i%4+1).toNat/\0<=Fe v (i%4+1).toNat (i/4%2)/\Fe v (i%4+1).toNat (i/4%2)<=31:=by
 have h:=Mp ⟨v.toNat,by omega⟩ ⟨(i%4).toNat,by omega⟩ ⟨(i/4%2).toNat,by omega⟩
 have e1:((v.toNat:Nat):Int)=v:=by omega
 have e2:(i%4).toNat+1=(i%4+1).toNat:=by omega
 have e3:(((i/4%2).toNat:Nat):Int)=i/4%2:=by omega
 simp only[e1,e2,e3] at h
 exact h
def gf (k v i:Int):Int:=
 if k=0/\0<=v/\v<=1 then i%2 else if k=1/\0<=v/\v<=31 then iw v i else-1
theorem VP (i:Int):2<=(2:Int)^(i%4+1).toNat/\(2:Int)^(i%4+1).toNat<=16:=by
 have h:i%4=0\/i%4=1\/i%4=2\/i%4=3:=by omega
 rcases h with h|h|h|h<;>rw[h]<;>decide
theorem xY (k v i:Int)(w:World):
  bN Tryz.prog 131 [.int .i64 k,.int .i64 v,.int .i64 i] w (fun r w'=>r= .int .i64 (gf k v i)/\w'=w):=by
 refine vJ Tryz.Qz ?_;intro C;(repeat(first|refine aO ?_|refine ba ?_))
 refine cy Tryz.func166 (Fc _ _) ?_
 rintro _ w' ⟨rfl,rfl⟩
 refine az ?_;(repeat(first|refine aO ?_|refine ba ?_))
 refine cy Tryz.func124 (sL _ _ _ _) ?_
 rintro _ w' ⟨rfl,rfl⟩
 refine az ?_;(repeat(first|refine aO ?_|refine ba ?_))
 refine qo (fun h3=> ?_) (fun h3=> ?_)
 ·refine aN ?_;(repeat(first|refine aO ?_|refine ba ?_))
  exact⟨by unfold gf hG at*;rw[if_neg (by split at h3<;>omega),if_neg (by split at h3<;>(try split at h3)<;>omega)],rfl⟩
 ·refine aM ?_;(repeat(first|refine aO ?_|refine ba ?_))
  apply ae<;>intro h4
  ·refine aN ?_;(repeat(first|refine aO ?_|refine ba ?_))
   exact⟨by unfold gf hG at*;rw[if_pos (by simp[h4] at h3⊢;omega),dx],rfl⟩
  ·have hk:k=1/\v<=31:=by unfold hG at h3;split at h3<;>(try split at h3)<;>omega
   have e3:=xx i
   have e4:=dx (i/4)
   have e8:=dx (i/8)
   have hp:=VP i
   have hr:=JF (i:=i) h3.1 hk.2
   have W7:(IntKind.i64.bits:Int)=64:=rfl
   have c8:i/2^Int.toNat 3=i/8:=rfl
   have c4:i/2^Int.toNat 2=i/4:=rfl
   rw[<-e3] at hp hr
   refine aM ?_;(repeat(first|refine aO ?_|refine ba ?_))
   have hns:gf k v i=iw v i:=by unfold gf;rw[if_neg (by omega),if_pos (by omega)]
   apply ae<;>intro h5
   ·rw[c8,e8] at h5
    have hd:0<=i/4%2*2^(bits .and .i64 i 3+1).toNat/\i/4%2*2^(bits .and .i64 i 3+1).toNat<=16:=by
     have:i/4%2=0\/i/4%2=1:=by omega
     rcases this with h|h<;>rw[h]<;>omega
    rw[<-e4,<-c4] at hd
    refine aN ?_;(repeat(first|refine aO ?_|refine ba ?_))
    refine⟨?_,rfl⟩
    rw[hns];unfold iw
    rw[if_pos h5,c4,e4,Int.one_mul,<-e3]
    rfl
   ·rw[c8,e8] at h5
    refine aM ?_;(repeat(first|refine aO ?_|refine ba ?_))
    refine⟨?_,rfl⟩
    rw[hns];unfold iw
    rw[if_neg h5,<-e3]
    rfl
end Go.Proofs
end
section
namespace Go.Xw
end Go.Xw
namespace Go.Proofs
open Go.Xw
set_option maxRecDepth 100000
set_option maxHeartbeats 1000000
attribute [local irreducible] ax aE
def VQ (n:ao)(st:List Int):Prop:=st.length=n.au.length/\∀i,i<st.length->0<=st.getD i default/\st.getD i default<=hG (n.au.getD i default).kind
def fW (n:ao):List Int:=n.au.map fS.init
theorem HW (x:bf):fW x.n=x.au.map dO.init:=by unfold fW bf.n aU;rw[List.map_map];rfl
theorem Df {α β:Type}[Inhabited α](f:α->β){X:List α}{i:Nat}(h:i<X.length):(X.take (i+1)).map f=(X.take i).map f++[f (X.getD i default)]:=by rw[iT h,List.map_append];rfl
theorem Ff (x:bf)(w0:World)(hX:fG w0 x)(aS:aj x.n):
  bN Tryz.prog 71 [x.v] w0 (fun v w=>∃b c,v= .slice b (fW x.n).length c/\Hp w0 w [rO 3 1 eI b c (fW x.n)]):=by
 have iA:=aS.jR
 rw[HW]
 refine eu Tryz.Vn ?_;intro C hp;skip;refine bP hp ?_;intro w b1 hx hp;refine az ?_;refine aI hp ?_
 refine eg [3,7,8,9] (fun(i:Nat) (b:Option Addr) (c:Nat)=>[(3,.slice b ((x.au.take i).map dO.init).length c),(7,.slice x.sa x.au.length x.sc),(8,.int .i64 x.au.length),(9,.int .i64 (i:Int))])
  (fun i b c w'=>i<=x.au.length/\Hp w0 w' [rO 3 1 eI b c ((x.au.take i).map dO.init)]) (fun i _ _=>x.au.length-i) 0 none 0 rfl ⟨by omega,(Hp.sy hp.x).eH (Ext.refl _) (dk.nil _ _ _ _ _)⟩ ?_
 rintro i b c w1 ⟨hi,hp⟩ IH C
 have hlen:((x.au.take i).map dO.init).length=i:=by simp;omega
 refine bL ?_
 apply ae<;>intro bD
 ·have aF:i<x.au.length:=by omega
  refine aN ?_;refine bb hp ?_
  refine bP hp ?_;intro w b5 hx hp;refine az ?_;(repeat(first|(refine ah ?_;refine aI hp ?_)|(refine aH ?_;refine aW hp ?_;intro w hp;refine az ?_)|(refine bK ?_;refine gG hp ?_;intro w _ hx hp;refine az ?_)))
  refine gT hp ?_;intro b' c' w hp bZ;refine az ?_
  refine IH (i+1) b' c' _ _ _ (by omega) (by rw[Df _ aF];rfl) ⟨by omega,?_⟩
  rw[Df _ aF]
  exact hp.sub (by simp)
 ·refine aM ?_;refine aq ?_
  obtain rfl:i=x.au.length:=by omega
  rw[List.take_length] at hp⊢
  exact⟨b,c,rfl,hp⟩
end Go.Proofs
end
section
namespace Go.Xw
def BE (ck:Int)(k:Nat):Int:=bits .and .i64 (ck/2^k) 1
def a8 (V:List Int)(l:Int):Int:=bits .xor .i64 (V.getD (l/2).toNat default) (bits .and .i64 l 1)
def zH (n:ao)(ck:Int):Nat->List Int
 |0=>List.replicate (dF n) 0
 |k+1=>(zH n ck k).set (1+k) (BE ck k)
def zI (n:ao)(st:List Int)(ck:Int):Nat->List Int
 |0=>zH n ck n.aT.toNat
 |k+1=>(zI n st ck k).set (1+n.aT.toNat+k) (bits .and .i64 (st.getD k default) 1)
def GA (n:ao)(st:List Int)(ck:Int):Nat->List Int
 |0=>zI n st ck st.length
 |i+1=>(GA n st ck i).set (bE n+i) (bits .and .i64 (a8 (GA n st ck i) (n.af.getD i default).1) (a8 (GA n st ck i) (n.af.getD i default).2))
def gC (n:ao)(st:List Int)(ck:Int):List Int:=GA n st ck n.af.length
theorem Dg (n:ao)(ck:Int)(k:Nat):(zH n ck k).length=dF n:=by
 induction k with
 |zero=>simp[zH]
 |succ k ih=>simp[zH,ih]
theorem Dh (n:ao)(st:List Int)(ck:Int)(k:Nat):(zI n st ck k).length=dF n:=by
 induction k with
 |zero=>simp[zI,Dg]
 |succ k ih=>simp[zI,ih]
theorem GB (n:ao)(st:List Int)(ck:Int)(k:Nat):(GA n st ck k).length=dF n:=by
 induction k with
 |zero=>simp[GA,Dh]
 |succ k ih=>simp[GA,ih]
theorem Aq (n:ao)(st:List Int)(ck:Int):(gC n st ck).length=dF n:=GB _ _ _ _
def nr (z:Int):Prop:=z=0\/z=1
def dp (V:List Int):Prop:=∀j,nr (V.getD j default)
theorem dp.set {V:List Int}(h:dp V){i:Nat}{z:Int}(hz:nr z):dp (V.set i z):=by
 intro j
 have hj:=h j
 simp only[List.getD_eq_getElem?_getD,List.getElem?_set] at hj⊢
 split
 ·split
  ·exact hz
  ·exact .inl rfl
 ·exact hj
theorem tQ (z:Int):nr (bits .and .i64 z 1):=by rw[dx];unfold nr;omega
theorem iV {V:List Int}(h:dp V)(l:Int):nr (a8 V l):=by
 unfold a8
 rw[Jc (h _) (tQ l)]
 unfold nr
 split<;>simp
theorem Di {a b:Int}(ha:nr a)(hb:nr b):nr (bits .and .i64 a b):=by
 rw[sG ha hb];unfold nr;split<;>simp
theorem GC (n:ao)(ck:Int):∀k,dp (zH n ck k)
 |0=>fun j=>by
  simp only[zH,List.getD_eq_getElem?_getD,List.getElem?_replicate]
  split
  ·exact .inl rfl
  ·exact .inl rfl
 |k+1=>(GC n ck k).set (tQ _)
theorem GD (n:ao)(st:List Int)(ck:Int):∀k,dp (zI n st ck k)
 |0=>GC _ _ _
 |k+1=>(GD n st ck k).set (tQ _)
theorem BF (n:ao)(st:List Int)(ck:Int):∀k,dp (GA n st ck k)
 |0=>GD _ _ _ _
 |k+1=>(BF n st ck k).set (Di (iV (BF n st ck k) _) (iV (BF n st ck k) _))
theorem oC (n:ao)(st:List Int)(ck:Int):dp (gC n st ck):=BF _ _ _ _
def e7 (V:List Int)(ls:List Int):Nat->Int
 |0=>0
 |k+1=>e7 V ls k+a8 V (ls.getD k default)*2^k
def ln (V:List Int)(ls:List Int):Int:=e7 V ls ls.length
theorem uW {V:List Int}(h:dp V)(ls:List Int):∀k,0<=e7 V ls k/\e7 V ls k<2^k
 |0=>by simp[e7]
 |k+1=>by
  have h1:=uW h ls k
  exact xy h1.1 h1.2 (iV h _)
theorem HX {V:List Int}(h:dp V)(ls:List Int){k:Nat}(hk:k<=61):bits .or .i64 (e7 V ls k) (a8 V (ls.getD k default)*2^k)=e7 V ls (k+1):=
 Pd (uW h ls k).1 (uW h ls k).2 (iV h _) hk
end Go.Xw
end
section
namespace Go.Proofs
open Go.Xw
set_option maxRecDepth 100000
set_option maxHeartbeats 1000000
attribute [local irreducible] ax aE
theorem sR (a:Option Addr)(c:Nat)(V:List Int)(m:Nat)(hm:V.length=m)(l:Int)(w0:World)(hR:Rd w0 a 1 eI V)(h0:0<=l)(h1:l/2<m)(hb:m<=1000000000):
  bN Tryz.prog 165 [.slice a m c,.int .i64 l] w0 (fun v w=>v= .int .i64 (a8 V l)/\Ext w0 w):=by
 subst hm
 refine eu Tryz.Q6 ?_;intro C hp;refine ik hp ?_;refine aq ?_
 exact⟨rfl,hp.x⟩
theorem aj.Z7 {x:bf}(h:aj x.n):bE x.n=1+x.aT.toNat+x.au.length/\dF x.n=bE x.n+x.af.length:=by
 have h1:=h.jR
 have h2:=h.ei
 have h3:=eD x
 have h4:=h2.f2
 have h5:=h2.n1
 have h6:x.n.af.length=x.af.length:=rfl
 omega
theorem BG (x:bf)(a:Option Addr)(c:Nat)(st:List Int)(ck:Int)(w0:World)(hX:fG w0 x)(aS:aj x.n)(hR:Rd w0 a 1 eI st)(hl:st.length=x.au.length):
  bN Tryz.prog 130 [x.v,.slice a st.length c,.int .i64 ck] w0 (fun v w=>∃b c',v= .slice b (dF x.n) c'/\Hp w0 w [rO 3 1 eI b c' (gC x.n st ck)]):=by
 have hn:=aS.ei
 obtain⟨n1,n2,n3,n4,n5,n6⟩:=hn
 have vv:=aS.nodes
 have iA:=aS.jR
 have hf:=aj.Z7 aS
 have Oo:x.n.af.length=x.af.length:=rfl
 refine eu Tryz.Qy ?_;intro C hp;skip;refine bP hp ?_;intro w b3 hx hp;refine az ?_;refine aI hp ?_
 refine bQ hp Tryz.func128 (jS x _ aS.b) ?_;intro w hx hp
 rw[<-n4]
 refine mG hp eI 0 rfl rfl rfl rfl (s:=1) rfl (by decide) rfl (by unfold maxLen;omega) (by show 8*_<=_;omega) ?_;intro w b7 hx hp;refine az ?_
 refine aR [1,2,3,7,8] (fun(k:Nat)=>[(1,.slice a st.length c),(2,.int .i64 ck),(3,.pointer (some ⟨b3,0,none⟩)),(7,.slice (some ⟨b7,0,none⟩) (dF x.n) (dF x.n)),(8,.int .i64 (k:Int))])
  (fun k w'=>k<=x.aT.toNat/\Hp w0 w' [rO 3 1 eI (some ⟨b7,0,none⟩) (dF x.n) (zH x.n ck k),rB b3 33 x.cs]) (fun k=>x.aT.toNat-k) 0 rfl ⟨by omega,hp⟩ ?_
 rintro k w1 ⟨hk,hp⟩ IH C
 have hlen:=Dg x.n ck k
 have W7:(IntKind.i64.bits:Int)=64:=rfl
 refine bL ?_;refine aI hp ?_
 apply ae<;>intro bD
 ·refine aN ?_;refine ki hp rfl rfl rfl (by omega) (by decide) rfl rfl ?_;intro w hp;refine az ?_
  refine IH (k+1) _ _ _ (by omega) rfl ⟨by omega,?_⟩
  rw[show(1+(k:Int)).toNat=1+k by omega] at hp
  exact hp
 ·obtain rfl:k=x.aT.toNat:=by omega
  refine aM ?_
  refine aR [3,7,31,32,33] (fun(k:Nat)=>[(3,.pointer (some ⟨b3,0,none⟩)),(7,.slice (some ⟨b7,0,none⟩) (dF x.n) (dF x.n)),(31,.slice a st.length c),(32,.int .i64 st.length),(33,.int .i64 (k:Int))])
   (fun k w'=>k<=st.length/\Hp w0 w' [rO 3 1 eI (some ⟨b7,0,none⟩) (dF x.n) (zI x.n st ck k),rB b3 33 x.cs]) (fun k=>st.length-k) 0 rfl ⟨by omega,hp⟩ ?_
  rintro k w1 ⟨hk,hp⟩ IH C
  have hlen:=Dh x.n st ck k
  refine bL ?_
  apply ae<;>intro bD
  ·refine aN ?_;(repeat(refine ah ?_;first|refine aI hp ?_|refine bb hp ?_))
   refine bQ hp Tryz.func164 (E1 x _ aS.b) ?_;intro w hx hp;refine ki hp rfl rfl rfl (by omega) (by decide) rfl rfl ?_;intro w hp;refine az ?_
   refine IH (k+1) _ _ _ (by omega) rfl ⟨by omega,?_⟩
   rw[show(1+x.aT+(k:Int)).toNat=1+x.aT.toNat+k by omega] at hp
   exact hp
  ·obtain rfl:k=st.length:=by omega
   refine aM ?_;refine aI hp ?_
   refine aR [3,7,48,49,50] (fun(i:Nat)=>[(3,.pointer (some ⟨b3,0,none⟩)),(7,.slice (some ⟨b7,0,none⟩) (dF x.n) (dF x.n)),(48,.slice x.aa x.af.length x.ac),(49,.int .i64 x.af.length),(50,.int .i64 (i:Int))])
    (fun i w'=>i<=x.af.length/\Hp w0 w' [rO 3 1 eI (some ⟨b7,0,none⟩) (dF x.n) (GA x.n st ck i),rB b3 33 x.cs]) (fun i=>x.af.length-i) 0 rfl ⟨by omega,hp⟩ ?_
   rintro i w1 ⟨hi,hp⟩ IH C
   have hlen:=GB x.n st ck i
   refine bL ?_
   apply ae<;>intro bD
   ·have aF:i<x.af.length:=by omega
    obtain⟨q1,q2,q3,q4⟩:=aS.tH aF
    refine aN ?_;refine bb hp ?_
    refine bP hp ?_;intro w ti hx hp;refine az ?_;refine aW hp ?_;intro w hp;refine az ?_
    refine j7 hp ?_;intro w hx hp;have hs:=hp;refine dN ?_
    refine oW Tryz.func70 (iG x _ aS.b) ?_;rintro _ w ⟨rfl,hx⟩;have hp:=hp.ext hx;have hs:=hs.ext hx;refine⟨fun _=>hs,?_⟩;refine fO ?_;refine dN ?_
    refine oW Tryz.func165 (sR _ _ (GA x.n st ck i) (dF x.n) hlen _ _ hp.rd q1 (by omega) (by omega)) ?_;rintro _ w ⟨rfl,hx⟩;have hp:=hp.ext hx;have hs:=hs.ext hx;refine⟨fun _=>hs,?_⟩;refine fO ?_;refine dN ?_
    refine oW Tryz.func165 (sR _ _ (GA x.n st ck i) (dF x.n) hlen _ _ hp.rd q3 (by omega) (by omega)) ?_;rintro _ w ⟨rfl,hx⟩;have hp:=hp.ext hx;have hs:=hs.ext hx;refine⟨fun _=>hs,?_⟩;refine fO ?_;refine Ai hp rfl rfl rfl (by omega) (by decide) rfl rfl (by kernel_rfl) ?_;intro w hp;refine fO ?_
    refine IH (i+1) _ _ _ (by omega) rfl ⟨by omega,?_⟩
    rw[show(aB x.n+(i:Int)).toNat=bE x.n+i by omega] at hp
    exact hp.drop
   ·refine aM ?_;refine aq ?_
    obtain rfl:i=x.af.length:=by omega
    exact⟨some ⟨b7,0,none⟩,dF x.n,rfl,hp.sub (by simp;exact .inl rfl)⟩
theorem xZ (a b:Option Addr)(ca cb:Nat)(V ls:List Int)(m n:Nat)(hm:V.length=m)(hn:ls.length=n)(w0:World)(hR:Rd w0 a 1 eI V)(hQ:Rd w0 b 1 eI ls)(Ld:dp V)(hls:∀i,i<n->0<=ls.getD i default/\ls.getD i default/2<m)(hb:m<=1000000000)(Ly:n<=60):
  bN Tryz.prog 132 [.slice a m ca,.slice b n cb] w0 (fun v w=>v= .int .i64 (ln V ls)/\Ext w0 w):=by
 subst hn
 refine eu Tryz.QA ?_;intro C hp
 refine aR [0,5,8,9,10] (fun(k:Nat)=>[(0,.slice a m ca),(5,.int .i64 (e7 V ls k)),(8,.slice b ls.length cb),(9,.int .i64 ls.length),(10,.int .i64 (k:Int))])
  (fun k w'=>k<=ls.length/\Hp w0 w' []) (fun k=>ls.length-k) 0 rfl ⟨by omega,hp⟩ ?_
 rintro k w1 ⟨hk,hp⟩ IH C
 refine bL ?_
 apply ae<;>intro bD
 ·have aF:k<ls.length:=by omega
  have hl:=hls k aF
  have W7:(IntKind.i64.bits:Int)=64:=rfl
  have X7:=HX Ld ls (k:=k) (by omega)
  have hlv:=iV Ld (ls.getD k default)
  have A7:0<=a8 V (ls.getD k default)*2^((k:Int)).toNat/\a8 V (ls.getD k default)*2^((k:Int)).toNat<2^(k+1):=by
   have h:=xy (p:=0) (s:=k) (by decide) (by have:=lT (Nat.zero_le k);omega) hlv
   rw[Int.zero_add] at h
   exact h
  have SW:=lT (s:=k+1) (t:=61) (by omega)
  have hb4:(2:Int)^61=2305843009213693952:=by decide
  refine aN ?_;refine bb hp ?_
  refine bQ hp Tryz.func165 (sR _ _ V m hm _ _ hp.rd hl.1 hl.2 hb) ?_;intro w hx hp
  exact IH (k+1) _ _ _ (by omega) (by rw[<-X7];rfl) ⟨by omega,hp⟩
 ·refine aM ?_;refine aq ?_
  obtain rfl:k=ls.length:=by omega
  exact⟨rfl,hp.x⟩
end Go.Proofs
end
section
namespace Go.Xw
theorem qF (n:ao)(m:Nat):∀d,∃T,bR n (m+d)=bR n m++T
 |0=>⟨[],by simp⟩
 |d+1=>by
  obtain⟨T,h⟩:=qF n m d
  exact⟨T++(n.au.getD (m+d) default).ins,by rw[show m+(d+1)=m+d+1 by omega,bR,h,List.append_assoc]⟩
theorem du {α:Type}[Inhabited α]{A B:List α}{i:Nat}(h:i<A.length):(A++B).getD i default=A.getD i default:=by
 simp[List.getD_eq_getElem?_getD,List.getElem?_append_left h]
theorem kM {α:Type}[Inhabited α]{A B:List α}{i:Nat}:(A++B).getD (A.length+i) default=B.getD i default:=by
 simp[List.getD_eq_getElem?_getD,List.getElem?_append_right]
theorem aj.Z8 {n:ao}(h:aj n){i:Nat}(hi:i<n.outs.length):aD (n.outs.getD i default) (ag n):=by
 obtain⟨T,e⟩:=qF n 0 n.au.length
 rw[Nat.zero_add] at e
 have e:bc n=n.outs++T:=e
 have h1:=h.roots i (by rw[e,List.length_append];omega)
 rwa[e,du hi] at h1
theorem aj.inP {n:ao}(h:aj n){i j:Nat}(hi:i<n.au.length)(hj:j<(n.au.getD i default).ins.length):aD ((n.au.getD i default).ins.getD j default) (ag n):=by
 obtain⟨T,e⟩:=qF n (i+1) (n.au.length-(i+1))
 rw[show i+1+(n.au.length-(i+1))=n.au.length by omega] at e
 have e:bc n=bR n (i+1)++T:=e
 rw[bR] at e
 have hl:(bR n i).length+j<(bR n i++(n.au.getD i default).ins).length:=by rw[List.length_append];omega
 have h1:=h.roots ((bR n i).length+j) (by rw[e,List.length_append];omega)
 rwa[e,du hl,kM] at h1
end Go.Xw
namespace Go.Proofs
open Go.Xw
theorem Z9 {x:bf}(h:aj x.n):∀i,i<x.outs.length->0<=x.outs.getD i default/\x.outs.getD i default/2<(dF x.n:Int):=fun i hi=>by
 have h1:=h.Z8 (i:=i) hi
 have h2:=h.ei.n2
 unfold aD at h1
 rw[h2]
 exact h1
theorem Z' {x:bf}(h:aj x.n){i:Nat}(hi:i<x.au.length):∀j,j<(x.au.getD i default).ins.length->0<=(x.au.getD i default).ins.getD j default/\(x.au.getD i default).ins.getD j default/2<(dF x.n:Int):=fun j hj=>by
 have h1:=h.inP (i:=i) (j:=j) (by rw[x.fE];exact hi) (by rw[x.rT];exact hj)
 have h2:=h.ei.n2
 unfold aD at h1
 rw[x.rT] at h1
 rw[h2]
 exact h1
def uZ (n:ao)(st V:List Int)(i:Nat):Int:=gf (n.au.getD i default).kind (st.getD i default) (ln V (n.au.getD i default).ins)
def jH (n:ao)(st V:List Int):Nat->List Int
 |0=>[]
 |i+1=>jH n st V i++[uZ n st V i]
def mP (n:ao)(st:List Int)(ck:Int):List Int:=jH n st (gC n st ck) n.au.length
theorem fJ (n:ao)(st V:List Int):∀i,(jH n st V i).length=i
 |0=>rfl
 |i+1=>by rw[jH,List.length_append,fJ];rfl
theorem mQ (n:ao)(st V:List Int):∀{m i:Nat},i<m->(jH n st V m).getD i default=uZ n st V i
 |0,_,h=>by omega
 |m+1,i,h=>by
  rw[jH]
  by_cases h2:i<m
  ·rw[du (by rw[fJ];exact h2),mQ n st V h2]
  ·obtain rfl:i=m:=by omega
   have:=kM (A:=jH n st V i) (B:=[uZ n st V i]) (i:=0)
   rw[fJ] at this
   exact this
def Fg (n:ao)(st:List Int)(ck:Int):Int:=ln (gC n st ck) n.outs
theorem Fh {k v i:Int}(h:0<=v/\v<=hG k):0<=gf k v i/\gf k v i<=hG k:=by
 unfold gf
 unfold hG at h⊢
 by_cases h0:k=0
 ·rw[if_pos h0] at h⊢
  rw[if_pos ⟨h0,h⟩];omega
 ·rw[if_neg h0] at h⊢
  by_cases h1:k=1
  ·rw[if_pos h1] at h⊢
   rw[if_neg (by omega),if_pos ⟨h1,h⟩]
   have:=JF (i:=i) h.1 h.2
   unfold iw
   split<;>omega
  ·rw[if_neg h1] at h;omega
theorem JG {n:ao}{st:List Int}(h:VQ n st)(ck:Int):VQ n (mP n st ck):=by
 refine⟨fJ _ _ _ _,fun i hi=> ?_⟩
 unfold mP at hi⊢
 rw[fJ] at hi
 rw[mQ _ _ _ hi]
 exact Fh (h.2 i (by rw[h.1];exact hi))
theorem Ar {n:ao}(h:aj n):VQ n (fW n):=by
 refine⟨by unfold fW;simp,fun i hi=> ?_⟩
 unfold fW at hi⊢
 rw[List.length_map] at hi
 have h1:=h.au i hi
 have e:(n.au.map fS.init).getD i default=(n.au.getD i default).init:=by
  simp[List.getD_eq_getElem?_getD,hi]
 rw[e]
 unfold iF at h1
 unfold hG
 rcases h1 with⟨h1,h2,_⟩|⟨h1,h2,_⟩
 ·rw[if_pos h1];exact h2
 ·rw[if_neg (by omega),if_pos h1];exact h2
def BH (n:ao)(ins:List Int):Nat->List Int
 |0=>fW n
 |k+1=>mP n (BH n ins k) (ins.getD k default)
def pP (n:ao)(ins:List Int):Nat->List Int
 |0=>[]
 |k+1=>pP n ins k++[Fg n (BH n ins k) (ins.getD k default)]
def pZ (n:ao)(ins:List Int):List Int:=pP n ins ins.length
theorem As (n:ao)(ins:List Int):∀k,(pP n ins k).length=k
 |0=>rfl
 |k+1=>by rw[pP,List.length_append,As];rfl
theorem Dj {n:ao}(h:aj n)(ins:List Int):∀k,VQ n (BH n ins k)
 |0=>Ar h
 |k+1=>JG (Dj h ins k) _
end Go.Proofs
end
section
namespace Go.Xw
open Go.RowKit
def dZ (to:List Int)(lits:List Int):List Int:=lits.map (a8 to)
theorem x6 (to lits:List Int):(dZ to lits).length=lits.length:=by simp[dZ]
theorem BI (to:List Int){l:Int}(h0:0<=to.getD (l/2).toNat default)(h1:to.getD (l/2).toNat default<=9223372036854775807):a8 to l=if l%2=0 then to.getD (l/2).toNat default else cS (to.getD (l/2).toNat default):=by
 unfold a8
 rw[dx]
 have:l%2=0\/l%2=1:=by omega
 rcases this with h|h
 ·rw[h,if_pos rfl];exact xor_zero h0 h1
 ·rw[h,if_neg (by decide)];rfl
theorem HY {to:List Int}{l k:Int}(h:aD (to.getD (l/2).toNat default) k)(hk:k<=1000000):aD (a8 to l) k:=by
 have h':=h
 unfold aD at h'
 rw[BI to h'.1 (by omega)]
 split
 ·exact h
 ·exact cN h hk
theorem x7 {to to':List Int}{l:Int}(h:to.getD (l/2).toNat default=to'.getD (l/2).toNat default):a8 to l=a8 to' l:=by
 unfold a8;rw[h]
theorem Mq {to:List Int}{m k:Nat}:(to++List.replicate m (0:Int)).getD k default=to.getD k default:=by
 simp only[List.getD_eq_getElem?_getD]
 by_cases h:k<to.length
 ·rw[List.getElem?_append_left h]
 ·rw[List.getElem?_append_right (by omega),List.getElem?_eq_none (by omega:to.length<=k),List.getElem?_replicate]
  split<;>rfl
theorem oD {to:List Int}{m:Nat}{l:Int}:a8 (to++List.replicate m 0) l=a8 to l:=x7 Mq
theorem tR {to:List Int}{m:Nat}{y:Int}:(to++List.replicate (m+1) (0:Int)).set to.length y=(to++[y])++List.replicate m 0:=Mh to m 0 y
def iH (n:ao):List Int:=(List.range (bE n)).map fun k=>2*((k:Nat):Int)
theorem kN (n:ao):(iH n).length=bE n:=by simp[iH]
theorem mn {n:ao}{k:Nat}(h:k<bE n):(iH n).getD k default=2*(k:Int):=ov (f:=fun k=>2*((k:Nat):Int)) h
def gD (f:Int)(A:List (Int×Int))(a b:Int):List (Int×Int)×Int:=
 if a=0\/b=0\/cS a=b then(A,0)
 else if a=1\/a=b then(A,b)
 else if b=1 then(A,a)
 else if A.idxOf (min a b,max a b)<A.length then(A,2*(f+(A.idxOf (min a b,max a b):Nat)))
 else if 300<=A.length then(A,-1)
 else(A++[(min a b,max a b)],2*(f+A.length))
theorem rm (n:ao)(a b:Int):ay n a b=({n with af:=(gD (aB n) n.af a b).1},(gD (aB n) n.af a b).2):=by
 have e:ag n=aB n+n.af.length:=rfl
 unfold ay gD
 rw[e]
 repeat' split
 all_goals rfl
structure tS (f:Int)(A:List (Int×Int))(to:List Int):Prop where
 f1:1<=f/\f<=33
 cC:A.length<=300
 VR:∀i,i<A.length->aD (A.getD i default).1 (f+i)/\aD (A.getD i default).2 (f+i)
 tok:∀i,i<to.length->aD (to.getD i default) (f+A.length)
theorem tS.lit {f:Int}{A:List (Int×Int)}{to:List Int}(h:tS f A to){l:Int}(hl:(l/2).toNat<to.length):aD (a8 to l) (f+A.length):=
 HY (h.tok _ hl) (by have:=h.f1;have:=h.cC;omega)
theorem tS.snoc {f:Int}{A:List (Int×Int)}{to:List Int}(h:tS f A to){y:Int}(hy:aD y (f+A.length)):tS f A (to++[y]):=
 ⟨h.f1,h.cC,h.VR,fun i hi=>by
  simp at hi
  by_cases mh:i<to.length
  ·rw[dd mh];exact h.tok i mh
  ·obtain rfl:i=to.length:=by omega
   rw[eh];exact hy⟩
theorem tS.tH {f:Int}{A:List (Int×Int)}{to:List Int}(h:tS f A to){x:Int×Int}(h1:aD x.1 (f+A.length))(h2:aD x.2 (f+A.length))(hl:A.length<300):tS f (A++[x]) to:=by
 refine⟨h.f1,by simp;omega,fun i hi=> ?_,fun i hi=>(h.tok i hi).mono (by simp;omega)⟩
 simp at hi
 by_cases mh:i<A.length
 ·rw[dd mh];exact h.VR i mh
 ·obtain rfl:i=A.length:=by omega
  rw[eh];exact⟨h1,h2⟩
theorem sS (f:Int)(A:List (Int×Int))(a b:Int):(gD f A a b).1=A\/((gD f A a b).1=A++[(min a b,max a b)]/\A.length<300):=by
 unfold gD
 (repeat' split)<;>first|exact .inl rfl|(exact .inr ⟨rfl,by omega⟩)
theorem JH (f:Int)(A:List (Int×Int))(a b:Int):A.length<=(gD f A a b).1.length/\(gD f A a b).1.length<=A.length+1:=by
 rcases sS f A a b with h|⟨h,_⟩<;>rw[h]<;>simp
theorem tS.add {f:Int}{A:List (Int×Int)}{to:List Int}(h:tS f A to){a b:Int}(ha:aD a (f+A.length))(hb:aD b (f+A.length)):tS f (gD f A a b).1 to:=by
 rcases sS f A a b with e|⟨e,hl⟩
 ·rw[e];exact h
 ·rw[e]
  refine h.tH ?_ ?_ hl<;>unfold aD at* <;>dsimp only<;>omega
theorem tS.addLit {f:Int}{A:List (Int×Int)}{to:List Int}(h:tS f A to){a b:Int}(ha:aD a (f+A.length))(hb:aD b (f+A.length)):aD (gD f A a b).2 (f+(gD f A a b).1.length)\/(gD f A a b=(A,-1)/\300<=A.length):=by
 have hc:=h.f1
 unfold gD
 unfold aD at*
 repeat' split
 all_goals first|(right;exact⟨rfl,by assumption⟩)|(left;dsimp only;first|omega|(simp only[List.length_append,List.length_cons,List.length_nil];omega))
theorem tS.step {f:Int}{A:List (Int×Int)}{to:List Int}(h:tS f A to){a b:Int}(ha:aD a (f+A.length))(hb:aD b (f+A.length))(h0:0<=(gD f A a b).2):tS f (gD f A a b).1 (to++[(gD f A a b).2]):=by
 refine(h.add ha hb).snoc ?_
 rcases h.addLit ha hb with h1|⟨h1,_⟩
 ·exact h1
 ·rw[h1] at h0;exact absurd h0 (by dsimp only;omega)
def tT (n:ao)(A:List (Int×Int)):ao:=⟨n.aT,n.au.map fun s=>⟨s.kind,s.init,[]⟩,A,[]⟩
def ky (n:ao)(A:List (Int×Int)):ao:=⟨n.aT,n.au.map fun s=>⟨s.kind,s.init,List.replicate s.ins.length 0⟩,A,[]⟩
def jI (n:ao)(A:List (Int×Int))(to:List Int):ao:=⟨n.aT,n.au.map fun s=>⟨s.kind,s.init,dZ to s.ins⟩,A,dZ to n.outs⟩
theorem kY (n:ao)(A:List (Int×Int)):aB (ky n A)=aB n:=by unfold aB ky;simp
theorem nU (n:ao)(A:List (Int×Int))(to:List Int):aB (jI n A to)=aB n:=by unfold aB jI;simp
theorem hH {α β:Type}[Inhabited α][Inhabited β]{f:α->β}{X:List α}{i:Nat}(h:i<X.length):(X.map f).getD i default=f (X.getD i default):=by
 simp[List.getD_eq_getElem?_getD,h]
theorem aj.mk' {n:ao}(h1:fT n)(h2:∀s,s∈n.au->iF s)(h3:∀o,o∈n.outs->aD o (ag n))(h4:∀s,s∈n.au->∀l,l∈s.ins->aD l (ag n))
  (h5:∀i,i<n.af.length->aD (n.af.getD i default).1 (aB n+i)/\aD (n.af.getD i default).2 (aB n+i)):aj n:=
 ⟨h1,f'.1 h2,(f' (p:=fun x=>aD x (ag n))).1 (by
  intro x hx
  rw[jU,List.mem_append,List.mem_flatMap] at hx
  rcases hx with hx|⟨s,hs,hx⟩
  ·exact h3 x hx
  ·exact h4 s hs x hx),h5⟩
theorem aj.sq {n:ao}(h:aj n):∀s,s∈n.au->iF s:=f'.2 h.au
theorem GF {n:ao}(h:aj n){A:List (Int×Int)}{to:List Int}(hb:tS (aB n) A to):aj (ky n A):=by
 obtain⟨s1,s2,s3,s4⟩:=h.size
 refine .mk' ⟨s1,by simp[ky];omega,hb.cC,by simp[ky]⟩ (fun s hs=> ?_) (fun o ho=>by simp[ky] at ho) (fun s hs l hl=> ?_) (fun i hi=>by rw[kY];exact hb.VR i hi)
 ·obtain⟨t,ht,rfl⟩:=List.mem_map.1 hs
  have:=h.sq t ht
  unfold iF at this⊢
  simpa using this
 ·obtain⟨t,ht,rfl⟩:=List.mem_map.1 hs
  simp at hl
  obtain⟨_,rfl⟩:=hl
  have:ag (ky n A)=aB n+A.length:=by have:=kY n A;unfold aB at this;unfold ag;rw[this];rfl
  rw[this]
  have:=hb.f1
  unfold aD;omega
theorem x8 (n:ao)(A:List (Int×Int))(to:List Int):ag (jI n A to)=aB n+A.length:=by
 have:=nU n A to;unfold aB at this;unfold ag;rw[this];rfl
theorem BJ {n:ao}(h:aj n){A:List (Int×Int)}{to:List Int}(hb:tS (aB n) A to)(ht:dF n<=to.length):aj (jI n A to):=by
 obtain⟨s1,s2,s3,s4⟩:=h.size
 have hn:=h.ei
 have hl:∀l,aD l (ag n)->aD (a8 to l) (aB n+A.length):=fun l hl=>hb.lit (by have:=hl.nat hn;omega)
 refine .mk' ⟨s1,by simp[jI];omega,hb.cC,by simp[jI,dZ];omega⟩ (fun s hs=> ?_) (fun o ho=> ?_) (fun s hs l hm=> ?_) (fun i hi=>by rw[nU];exact hb.VR i hi)
 ·obtain⟨t,ht,rfl⟩:=List.mem_map.1 hs
  have:=h.sq t ht
  unfold iF at this⊢
  simpa [dZ] using this
 ·rw[x8]
  obtain⟨l,vL,rfl⟩:=List.mem_map.1 ho
  exact hl l (h.out l vL)
 ·rw[x8]
  obtain⟨t,ht,rfl⟩:=List.mem_map.1 hs
  obtain⟨l,vL,rfl⟩:=List.mem_map.1 hm
  exact hl l (h.ck ht l vL)
theorem tS.leaf {n:ao}(h:aj n):tS (aB n) [] (iH n):=by
 have hc:=h.count
 have hs:=h.size
 have h2:=h.ei.f2
 unfold fT at hs
 refine⟨⟨hc.1,by unfold aB;omega⟩,by simp,fun i hi=>by simp at hi,fun i hi=> ?_⟩
 rw[kN] at hi
 rw[mn hi]
 unfold aD
 simp
 omega
theorem aj.wk {n:ao}(h:aj n){i:Nat}(hi:i<n.af.length):aD (n.af.getD i default).1 (aB n+i)/\aD (n.af.getD i default).2 (aB n+i):=h.af i hi
def a9 (n:ao)(K:List Bool):Nat->List (Int×Int)×List Int
 |0=>([],iH n)
 |i+1=>if K.getD (bE n+i) default=true then((a9 n K i).1++[(a8 (a9 n K i).2 (n.af.getD i default).1,a8 (a9 n K i).2 (n.af.getD i default).2)],(a9 n K i).2++[2*(aB n+(a9 n K i).1.length)])
  else((a9 n K i).1,(a9 n K i).2++[0])
noncomputable def gE (n:ao):ao:=jI n (a9 n (aC n) n.af.length).1 (a9 n (aC n) n.af.length).2
theorem km (n:ao)(K:List Bool):∀i,(a9 n K i).1.length<=i/\(a9 n K i).2.length=bE n+i
 |0=>by simp[a9,kN]
 |i+1=>by
  have:=km n K i
  unfold a9
  split<;>simp<;>omega
theorem nF {n:ao}(h:aj n)(K:List Bool):∀i,i<=n.af.length->tS (aB n) (a9 n K i).1 (a9 n K i).2
 |0,_=> .leaf h
 |i+1,hi=>by
  have ih:=nF h K i (by omega)
  have hl:=km n K i
  have hs:=h.size
  have hn:=h.ei
  have f2:=hn.f2
  unfold fT at hs
  obtain⟨q1,q2⟩:=h.wk (show i<n.af.length by omega)
  unfold aD at q1 q2
  unfold a9
  split
  ·refine(ih.tH (ih.lit (by omega)) (ih.lit (by omega)) (by omega)).snoc ?_
   have:=ih.f1
   unfold aD;simp;omega
  ·refine ih.snoc ?_
   have:=ih.f1
   unfold aD;omega
theorem At {n:ao}(h:aj n):aj (gE n):=by
 have hl:=km n (aC n) n.af.length
 have:=h.ei.n1
 exact BJ h (nF h _ _ (Nat.le_refl _)) (by omega)
def cP (n:ao):Nat->List (Int×Int)×List Int
 |0=>([],iH n)
 |i+1=>((gD (aB n) (cP n i).1 (a8 (cP n i).2 (n.af.getD i default).1) (a8 (cP n i).2 (n.af.getD i default).2)).1,
   (cP n i).2++[(gD (aB n) (cP n i).1 (a8 (cP n i).2 (n.af.getD i default).1) (a8 (cP n i).2 (n.af.getD i default).2)).2])
theorem lp (n:ao):∀i,(cP n i).1.length<=i/\(cP n i).2.length=bE n+i
 |0=>by simp[cP,kN]
 |i+1=>by
  have:=lp n i
  have h2:=JH (aB n) (cP n i).1 (a8 (cP n i).2 (n.af.getD i default).1) (a8 (cP n i).2 (n.af.getD i default).2)
  unfold cP
  simp only[List.length_append,List.length_cons,List.length_nil]
  omega
theorem kO {n:ao}(h:aj n){i:Nat}(hi:i<n.af.length)(ih:tS (aB n) (cP n i).1 (cP n i).2):
  aD (a8 (cP n i).2 (n.af.getD i default).1) (aB n+(cP n i).1.length)/\aD (a8 (cP n i).2 (n.af.getD i default).2) (aB n+(cP n i).1.length):=by
 have hl:=lp n i
 have f2:=h.ei.f2
 obtain⟨q1,q2⟩:=h.wk hi
 unfold aD at q1 q2
 exact⟨ih.lit (by omega),ih.lit (by omega)⟩
theorem ph {n:ao}(h:aj n):∀i,i<=n.af.length->tS (aB n) (cP n i).1 (cP n i).2
 |0,_=> .leaf h
 |i+1,hi=>by
  have ih:=ph h i (by omega)
  have hl:=lp n i
  have hs:=h.size
  unfold fT at hs
  obtain⟨l1,l2⟩:=kO h (by omega) ih
  refine ih.step l1 l2 ?_
  rcases ih.addLit l1 l2 with h1|⟨_,h1⟩
  ·exact h1.1
  ·omega
def Mr (n:ao):ao:=jI n (cP n n.af.length).1 (cP n n.af.length).2
noncomputable def tU (n:ao):ao:=gE (Mr n)
theorem rn {n:ao}(h:aj n):aj (Mr n):=by
 have hl:=lp n n.af.length
 have:=h.ei.n1
 exact BJ h (ph h _ (Nat.le_refl _)) (by omega)
theorem Dk {n:ao}(h:aj n):aj (tU n):=At (rn h)
def VT:ao:=⟨0,[],[],[]⟩
noncomputable def Au (n:ao)(r:ao):ao:=if nP n=true then r else VT
theorem rp {n r:ao}(h:aj n):Au n r=r:=by rw[Au,if_pos (sM.2 h)]
theorem Dl {n r:ao}(h:¬aj n):Au n r=VT:=by rw[Au,if_neg (fun hh=>h (sM.1 hh))]
end Go.Xw
end
