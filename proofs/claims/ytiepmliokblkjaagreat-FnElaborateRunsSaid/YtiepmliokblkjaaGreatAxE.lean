/- The contract of the reference's expressions; under its stated conditions. -/
import Derived.Test.YtiepmliokblkjaaGreatBrf
import Derived.Test.YtiepmliokblkjaaGreatAdder
import Derived.Test.YtiepmliokblkjaaGreatAdder3
import Derived.Test.YtiepmliokblkjaaGreatExprW
set_option linter.all false
namespace Go.Xw
section
variable {S:ak} {sz:Nat} {R:Value->World->Prop} {C:World->Prop} {w w0:World} {F:List bh}
theorem w7 [hS:S.Ok]{b o:Nat}{t tb:TypeId}{cs:List Value}{v u u':Value}(hp:Hp w0 w F)[hb:Bp w0 F b tb cs](hv:rf S.tt t cs o=some v)(h:R (.tuple ⟨[v,u,u']⟩) w):ax S sz R C w (.zE [.at_ t ⟨b,o,none⟩,.val u,.val u']):=
 ⟨[v,u,u'],⟨lV hS.tt (hb.h w hp) hv,rfl,rfl,trivial⟩,h⟩
end
theorem Hp.zp {w0 w w':World}{K L:List bh}{x y:bf}{r:bh}(h:Hp w0 w (K++L))[hN:lJ w0 L x](hq:(y=x/\Hp w w' [r])\/Hp w w' [r,dv y]):∃L',Hp w0 w' (r::K++L')/\lJ w0 L' y/\((y=x/\L'=L)\/L'=[dv y]):=by
 rcases hq with⟨rfl,hq⟩|hq
 ·exact⟨L,h.bJ hq,hN,.inl ⟨rfl,rfl⟩⟩
 ·refine⟨[dv y],?_,inferInstance,.inr rfl⟩
  have h1:Hp w0 w' (r::dv y::(K++L)):=h.call2 hq
  refine(h1.sub (L':=r::dv y::K) ?_).perm ?_
  ·exact List.Sublist.cons₂ _ (List.Sublist.cons₂ _ (List.sublist_append_left _ _))
  ·exact List.Perm.cons _ (List.perm_append_comm (l₁:=[dv y]))
theorem Hp.jI {w0 w:World}{K L:List bh}{x y:bf}{r:bh}(h:Hp w0 w (r::K++L))(hd:(y=x/\L=[])\/L=[dv y]):(y=x/\Hp w0 w [r])\/Hp w0 w [r,dv y]:=by
 rcases hd with⟨rfl,rfl⟩|rfl
 ·exact .inl ⟨rfl,h.tk 1⟩
 ·exact .inr (h.sub (List.Sublist.cons₂ _ (List.sublist_append_right _ _)))
theorem A2 {x y z:bf}{L L':List bh}(h1:(y=x/\L=[])\/L=[dv y])(h2:(z=y/\L'=L)\/L'=[dv z]):(z=x/\L'=[])\/L'=[dv z]:=by
 rcases h2 with⟨rfl,rfl⟩|h2
 ·exact h1
 ·exact .inr h2
end Go.Xw
namespace Go.Proofs
open Go.Xw
set_option maxRecDepth 100000
set_option maxHeartbeats 800000
attribute [local irreducible] ax aE
def qZ (R:List (cL Int))(sa:Option Addr)(sc wd:Nat)(ops:List dK)(oa:Option Addr)(oc:Nat)(t:cI):Prop:=
 ∀(pre post:List dK),ops=pre++t.dh++post->t.ok R.length->∀(x:bf) (w0:World),fG w0 x->aj x.n->(∀l,l∈aJ R->∀z,z∈l->aD z (ag x.n))->Rd w0 sa 1 jl R->Lk w0 R->Rd w0 oa 3 kf ops->
  bN Tryz.prog 83 [x.v,.slice sa R.length sc,.slice oa ops.length oc,.int .i64 (pre.length:Int),.int .i64 (wd:Int)] w0 (fun v w=>∃y b c,(y.n=(dD bY (aJ R) wd t x.n).1/\v= .tuple ⟨[y.v,.slice b wd c,.int .i64 ((pre.length+t.dh.length:Nat):Int)]⟩)/\
   ((y=x/\Hp w0 w [rO 3 1 eI b c (dD bY (aJ R) wd t x.n).2])\/Hp w0 w [rO 3 1 eI b c (dD bY (aJ R) wd t x.n).2,dv y]))
theorem ND (R:List (cL Int))(sa:Option Addr)(sc wd:Nat)(hw:1<=wd/\wd<=4)(ops:List dK)(oa:Option Addr)(oc:Nat)(jL:ops.length<=15)(fF:R.length<=1000)(pU:∀i,i<R.length->(R.getD i default).ins.length<=1000)(o:dK):qZ R sa sc wd ops oa oc (.leaf o):=by
 have iO:=uU (aJ R) wd o
 intro pre post fQ ht x w0 hX aS ns hS hQ hO
 have hlen:ops.length=pre.length+(cI.leaf o).dh.length+post.length:=by rw[fQ];simp only[List.length_append]
 have oh:=cI.pos (cI.leaf o)
 have ij:ops.getD pre.length default=o:=by
  rw[fQ,List.append_assoc,List.getD_eq_getElem?_getD,List.getElem?_append_right (Nat.le_refl _),Nat.sub_self];rfl
 refine eu Tryz.Gn ?_;intro C hp;skip;refine bP hp ?_;intro w b5 hx hp;refine az ?_;skip;refine bP hp ?_;intro w ng hx hp;refine az ?_;refine bb hp ?_
 refine bP hp ?_;intro w zO hx hp;refine az ?_;(repeat(first|(refine ah ?_;refine aI hp ?_)|(refine aH ?_;refine aW hp ?_;intro w hp;refine az ?_)|(refine bK ?_;refine gG hp ?_;intro w _ hx hp;refine az ?_)))
 rw[ij] at hp⊢
 refine bQ hp Tryz.func139 (gj o.kind _) ?_;intro w hx hp
 rw[ht.1]
 refine aN ?_
 have hko:=ht.2.1
 have qe:o.kind=0\/o.kind=2\/o.kind=3:=by
  have h1:=ht.1
  have h2:=ht.2.2
  have:0<=o.kind/\o.kind<=3:=Classical.byContradiction fun hh=>by
   unfold jx at h1;rw[if_neg hh] at h1
   split at h1
   ·omega
   split at h1
   ·omega
   split at h1<;>omega
  omega
 have hp:Hp w0 _ [rO 3 1 eI _ _ ([]:List Int),rB zO 132 [.int .i64 o.kind,.int .i64 o.a,.int .i64 o.b],rB ng 33 (aL Tryz.dY.zero),rB b5 33 x.cs]:=hp
 refine eg [1,3,4,5,10,13,14,15] (fun(k:Nat) (b:Option Addr) (c:Nat)=>[(1,.slice sa R.length sc),(3,.int .i64 ((pre.length:Int)+1)),(4,.int .i64 (wd:Int)),(5,.pointer (some ⟨b5,0,none⟩)),(10,.pointer (some ⟨ng,0,none⟩)),(13,.pointer (some ⟨zO,0,none⟩)),(14,.slice b ((List.range k).map (fM (aJ R) o)).length c),(15,.int .i64 (k:Int))])
  (fun k b c w'=>k<=wd/\Hp w0 w' [rO 3 1 eI b c ((List.range k).map (fM (aJ R) o)),rB zO 132 [.int .i64 o.kind,.int .i64 o.a,.int .i64 o.b],rB ng 33 (aL Tryz.dY.zero),rB b5 33 x.cs]) (fun k _ _=>wd-k) 0 _ _ rfl ⟨by omega,hp⟩ ?_
 clear hp
 rintro k b c w1 ⟨hk,hp⟩ IH C
 have CH:((List.range k).map (fM (aJ R) o)).length=k:=by simp
 have hrr:(List.range k).length=k:=by simp
 have eK:(List.range (k+1)).map (fM (aJ R) o)=(List.range k).map (fM (aJ R) o)++[fM (aJ R) o k]:=by rw[List.range_succ,List.map_append];rfl
 refine bL ?_
 apply ae<;>intro bD
 ·have CF:k<wd:=by omega
  have Xp:((k:Nat):Int)<=((IntKind.i64.bits:Nat):Int):=by show((k:Nat):Int)<=64;omega
  refine aN ?_;refine aI hp ?_
  rcases qe with h0|h2|h3
  ·have Nh:=(BO h0).1 hko
   have ef:fM (aJ R) o k=bits .and .i64 (o.a/2^k) 1:=by rw[dx];unfold fM;rw[if_pos h0]
   refine ae (fun _=> ?_) (fun hg=>False.elim (by omega));refine aN ?_;(repeat(first|(refine ah ?_;refine aI hp ?_)|(refine bK ?_;refine gG hp ?_;intro w _ hx hp;refine az ?_)))
   refine gT hp ?_;intro b' c' w hp bZ;refine az ?_
   refine IH (k+1) b' c' _ _ _ (by omega) (by rw[eK,ef];rfl) ⟨by omega,?_⟩
   rw[eK,ef]
   exact hp.drop
  ·obtain⟨Nh,IJ⟩:=(yj h2).1 hko
   have Li:=hQ.at_ (show o.a.toNat<R.length by omega)
   have hgi:=pU o.a.toNat (by omega)
   have ef:fM (aJ R) o k=g7 (R.getD o.a.toNat default).ins k:=by
    unfold fM;rw[if_neg (by omega),if_pos h2,bk]
   refine ae (fun hg=>False.elim (by omega)) (fun _=> ?_);refine aM ?_;refine aI hp ?_
   refine ae (fun _=> ?_) (fun hg=>False.elim (by omega));refine aN ?_;(repeat(refine ah ?_;first|refine aI hp ?_|refine ik hp ?_))
   refine bQ hp Tryz.func141 (AP _ _ _ (R.getD o.a.toNat default).ins rfl k (by omega) _ hp.rd (by omega)) ?_;intro w hx hp;refine gG hp ?_;intro w _ hx hp;refine az ?_
   refine gT hp ?_;intro b' c' w hp bZ;refine az ?_
   refine IH (k+1) b' c' _ _ _ (by omega) (by rw[eK,ef];rfl) ⟨by omega,?_⟩
   rw[eK,ef]
   exact hp.drop
  ·obtain⟨Nh,IJ⟩:=(yk h3).1 hko
   obtain⟨ib,Sk⟩:=Int.eq_ofNat_of_zero_le IJ.1
   have Li:=hQ.at_ (show o.a.toNat<R.length by omega)
   have hgi:=pU o.a.toNat (by omega)
   refine ae (fun hg=>False.elim (by omega)) (fun _=> ?_);refine aM ?_;refine aI hp ?_
   refine ae (fun hg=>False.elim (by omega)) (fun _=> ?_);refine aM ?_
   by_cases CB:k=0
   ·have ef:fM (aJ R) o k=g7 (R.getD o.a.toNat default).ins ib:=by
     unfold fM;rw[if_neg (by omega),if_neg (by omega),if_pos CB,Sk,Int.toNat_natCast,bk]
    refine ae (fun _=> ?_) (fun hg=>False.elim (by omega));refine aN ?_
    refine fR hp ?_;(repeat(refine gu ?_;first|refine fy ?_|refine tE rfl (by omega) (by omega) rfl rfl rfl ?_))
    rw[Sk]
    refine j8 Tryz.func141 (fun F w hp=> ?_);refine bN.mono (AP _ _ _ (R.getD o.a.toNat default).ins rfl ib (by omega) _ hp.pre.rd (by omega)) ?_;rintro _ w ⟨rfl,hx⟩;have hp:=hp.ext hx;refine⟨fun _=>hp.sub (by(repeat(first|exact List.sublist_append_left _ _|apply List.Sublist.cons))),_,hp,?_⟩;clear hp;refine cX ?_;refine lI rfl rfl rfl rfl rfl rfl rfl rfl rfl rfl ?_;intro _;refine cX ?_
    refine fZ rfl rfl rfl rfl rfl rfl rfl (by decide) rfl (zl) rfl rfl (fun hq=>Bool.noConfusion (hq.symm.trans (by kernel_rfl:bH _ _=false))) ?_;intro b' c' bZ;refine cX ?_
    refine dc ?_;intro w hp C;refine bL ?_
    refine IH (k+1) b' c' _ _ _ (by omega) (by rw[eK,ef];rfl) ⟨by omega,?_⟩
    rw[eK,ef]
    rw[<-Sk] at hp
    exact hp.drop
   ·have ef:fM (aJ R) o k=0:=by unfold fM;rw[if_neg (by omega),if_neg (by omega),if_neg CB]
    refine ae (fun hg=>False.elim (by omega)) (fun _=> ?_);refine aM ?_;refine gG hp ?_;intro w _ hx hp;refine az ?_
    refine gT hp ?_;intro b' c' w hp bZ;refine az ?_
    refine IH (k+1) b' c' _ _ _ (by omega) (by rw[eK,ef];rfl) ⟨by omega,?_⟩
    rw[eK,ef]
    exact hp.drop
 ·obtain rfl:k=wd:=by omega
  clear IH
  refine aM ?_;(repeat(first|(refine ah ?_;refine aI hp ?_)|(refine aH ?_;refine aW hp ?_;intro w hp;refine az ?_)))
  refine w7 hp rfl ?_
  refine⟨x,b,c,⟨rfl,?_⟩,.inl ⟨rfl,hp.tk 1⟩⟩
  rw[CH,show((pre.length+(cI.leaf o).dh.length:Nat):Int)=(pre.length:Int)+1 by simp[cI.dh]]
  rfl
theorem WR (R:List (cL Int))(sa:Option Addr)(sc wd:Nat)(hw:1<=wd/\wd<=4)(ops:List dK)(oa:Option Addr)(oc:Nat)(jL:ops.length<=15)(fF:R.length<=1000)(pU:∀i,i<R.length->(R.getD i default).ins.length<=1000)(o:dK)(u:cI)(ih:qZ R sa sc wd ops oa oc u):qZ R sa sc wd ops oa oc (.un o u):=by
 intro pre post fQ ht x w0 hX aS ns hS hQ hO
 have hlen:ops.length=pre.length+(cI.un o u).dh.length+post.length:=by rw[fQ];simp only[List.length_append]
 have oh:=cI.pos (cI.un o u)
 have ij:ops.getD pre.length default=o:=by
  rw[fQ,List.append_assoc,List.getD_eq_getElem?_getD,List.getElem?_append_right (Nat.le_refl _),Nat.sub_self];rfl
 refine eu Tryz.Gn ?_;intro C hp;skip;refine bP hp ?_;intro w b5 hx hp;refine az ?_;skip;refine bP hp ?_;intro w ng hx hp;refine az ?_;refine bb hp ?_
 refine bP hp ?_;intro w zO hx hp;refine az ?_;(repeat(first|(refine ah ?_;refine aI hp ?_)|(refine aH ?_;refine aW hp ?_;intro w hp;refine az ?_)|(refine bK ?_;refine gG hp ?_;intro w _ hx hp;refine az ?_)))
 rw[ij] at hp⊢
 refine bQ hp Tryz.func139 (gj o.kind _) ?_;intro w hx hp
 have Ip:o.kind=4:=by
  have h1:jx o.kind=1:=ht.1
  unfold jx at h1
  repeat' split at h1
  all_goals omega
 rw[ht.1]
 refine aM ?_;refine aI hp ?_
 have hp:Hp w0 _ [rO 3 1 eI _ _ ([]:List Int),rB zO 132 [.int .i64 o.kind,.int .i64 o.a,.int .i64 o.b],rB ng 33 (aL Tryz.dY.zero),rB b5 33 x.cs]:=hp
 have K2:(pre++[o]).length=pre.length+1:=by simp[cI.dh]<;>omega
 have iN:=ih (pre++[o]) (post) (by rw[fQ];simp[cI.dh]) ht.2 x _ hp.dR aS ns hp.rd hp.rs hp.rd
 rw[K2] at iN
 rw[show((pre.length+1:Nat):Int)=(pre.length:Int)+1 from by simp] at iN
 have g1:=db bj (sig:=aJ R) wd u aS (fun l hl z hz=> .inl (ns l hl z hz))
 have vL:=cv bY (aJ R) wd u x.n
 obtain⟨r1,Hi⟩:∃r,r=dD bY (aJ R) wd u x.n:=⟨_,rfl⟩
 rw[<-Hi] at iN g1 vL
 refine cy Tryz.func83 iN ?_
 rintro _ w ⟨y1,Lp,Lq,⟨Cn,rfl⟩,hq⟩
 obtain⟨L1,hp,hN1,EP⟩:=Hp.zp (K:=[_,_,_,_]) (L:=[]) hp hq
 have hp:Hp w0 _ (_::_::_::_::_::L1):=hp
 have EP:=A2 (x:=x) (L:=[]) (.inl ⟨rfl,rfl⟩) EP
 clear hq iN
 have NF:aj y1.n:=by rw[Cn];exact g1.i
 have v1:∀z,z∈r1.2->lK y1.n z:=by rw[Cn];exact g1.v
 have WS:Ao x.n y1.n:=by rw[Cn];exact g1.dX
 have O3:∀l,l∈aJ R->∀z,z∈l->aD z (ag y1.n):=fun l hl z hz=>(ns l hl z hz).mono WS.1
 refine az ?_;(repeat(first|(refine ah ?_;refine aI hp ?_)|(refine aH ?_;refine aW hp ?_;intro w hp;refine az ?_)))
 refine ae (fun _=> ?_) (fun hg=>False.elim (by omega));refine aN ?_
 refine fR hp ?_;refine fy ?_
 refine j8 Tryz.func142 (fun F w hp=> ?_);refine bN.mono (D4 Lp Lq wd r1.2 vL _ hp.pre.rd (by omega) (fun i hi=>(v1 _ (aK hi)).i64 NF)) ?_;rintro _ w ⟨bn,cn,rfl,hq⟩;have hp:=hp.eU hq;refine⟨fun _=>hp.sub (by(repeat(first|exact List.sublist_append_left _ _|apply List.Sublist.cons))),_,hp,?_⟩;clear hp;refine cX ?_;refine eO rfl rfl rfl rfl (by kernel_rfl) ?_;refine cX ?_
 refine dc ?_;intro w hp C;refine bL ?_
 refine w7 hp rfl ?_
 have hZ:dD bY (aJ R) wd (cI.un o u) x.n=(r1.1,r1.2.map fb):=by rw[Hi];rfl
 rw[hZ,show pre.length+(cI.un o u).dh.length=pre.length+1+u.dh.length by simp[cI.dh];omega]
 exact⟨y1,bn,cn,⟨Cn,rfl⟩,Hp.jI (K:=[_,_,_,_,_]) hp EP⟩
theorem SJ (R:List (cL Int))(sa:Option Addr)(sc wd:Nat)(hw:1<=wd/\wd<=4)(ops:List dK)(oa:Option Addr)(oc:Nat)(jL:ops.length<=15)(fF:R.length<=1000)(pU:∀i,i<R.length->(R.getD i default).ins.length<=1000)(o:dK)(u v:cI)(ihu:qZ R sa sc wd ops oa oc u)(ihv:qZ R sa sc wd ops oa oc v):qZ R sa sc wd ops oa oc (.bin o u v):=by
 intro pre post fQ ht x w0 hX aS ns hS hQ hO
 have hlen:ops.length=pre.length+(cI.bin o u v).dh.length+post.length:=by rw[fQ];simp only[List.length_append]
 have oh:=cI.pos (cI.bin o u v)
 have ij:ops.getD pre.length default=o:=by
  rw[fQ,List.append_assoc,List.getD_eq_getElem?_getD,List.getElem?_append_right (Nat.le_refl _),Nat.sub_self];rfl
 refine eu Tryz.Gn ?_;intro C hp;skip;refine bP hp ?_;intro w b5 hx hp;refine az ?_;skip;refine bP hp ?_;intro w ng hx hp;refine az ?_;refine bb hp ?_
 refine bP hp ?_;intro w zO hx hp;refine az ?_;(repeat(first|(refine ah ?_;refine aI hp ?_)|(refine aH ?_;refine aW hp ?_;intro w hp;refine az ?_)|(refine bK ?_;refine gG hp ?_;intro w _ hx hp;refine az ?_)))
 rw[ij] at hp⊢
 refine bQ hp Tryz.func139 (gj o.kind _) ?_;intro w hx hp
 have hk5:5<=o.kind/\o.kind<=11:=by
  have h1:jx o.kind=2:=ht.1
  unfold jx at h1
  repeat' split at h1
  all_goals omega
 rw[ht.1]
 refine aM ?_;refine aI hp ?_
 have hp:Hp w0 _ [rO 3 1 eI _ _ ([]:List Int),rB zO 132 [.int .i64 o.kind,.int .i64 o.a,.int .i64 o.b],rB ng 33 (aL Tryz.dY.zero),rB b5 33 x.cs]:=hp
 have K2:(pre++[o]).length=pre.length+1:=by simp[cI.dh]<;>omega
 have iN:=ihu (pre++[o]) (v.dh++post) (by rw[fQ];simp[cI.dh]) ht.2.1 x _ hp.dR aS ns hp.rd hp.rs hp.rd
 rw[K2] at iN
 rw[show((pre.length+1:Nat):Int)=(pre.length:Int)+1 from by simp] at iN
 have g1:=db bj (sig:=aJ R) wd u aS (fun l hl z hz=> .inl (ns l hl z hz))
 have vL:=cv bY (aJ R) wd u x.n
 obtain⟨r1,Hi⟩:∃r,r=dD bY (aJ R) wd u x.n:=⟨_,rfl⟩
 rw[<-Hi] at iN g1 vL
 refine cy Tryz.func83 iN ?_
 rintro _ w ⟨y1,Lp,Lq,⟨Cn,rfl⟩,hq⟩
 obtain⟨L1,hp,hN1,EP⟩:=Hp.zp (K:=[_,_,_,_]) (L:=[]) hp hq
 have hp:Hp w0 _ (_::_::_::_::_::L1):=hp
 have EP:=A2 (x:=x) (L:=[]) (.inl ⟨rfl,rfl⟩) EP
 clear hq iN
 have NF:aj y1.n:=by rw[Cn];exact g1.i
 have v1:∀z,z∈r1.2->lK y1.n z:=by rw[Cn];exact g1.v
 have WS:Ao x.n y1.n:=by rw[Cn];exact g1.dX
 have O3:∀l,l∈aJ R->∀z,z∈l->aD z (ag y1.n):=fun l hl z hz=>(ns l hl z hz).mono WS.1
 refine az ?_;(repeat(first|(refine ah ?_;refine aI hp ?_)|(refine aH ?_;refine aW hp ?_;intro w hp;refine az ?_)))
 refine ae (fun hg=>False.elim (by omega)) (fun _=> ?_);refine aM ?_;refine aI hp ?_
 have D7:(pre++o::u.dh).length=pre.length+1+u.dh.length:=by simp[cI.dh]<;>omega
 have jM:=ihv (pre++o::u.dh) (post) (by rw[fQ];simp[cI.dh]) ht.2.2 y1 _ hp.dR NF O3 hp.rd hp.rs hp.rd
 rw[D7] at jM
 have g2:=db bj (sig:=aJ R) wd v NF (fun l hl z hz=> .inl (O3 l hl z hz))
 have sb:=cv bY (aJ R) wd v y1.n
 obtain⟨r2,KH⟩:∃r,r=dD bY (aJ R) wd v y1.n:=⟨_,rfl⟩
 rw[<-KH] at jM g2 sb
 refine cy Tryz.func83 jM ?_
 rintro _ w ⟨y2,Tr,Ts,⟨En,rfl⟩,hq⟩
 obtain⟨L2,hp,Io,I'⟩:=Hp.zp (K:=[_,_,_,_,_]) (L:=L1) hp hq
 have hp:Hp w0 _ (_::_::_::_::_::_::L2):=hp
 have I':=A2 (x:=x) (L:=L1) EP I'
 clear hq jM
 have XC:aj y2.n:=by rw[En];exact g2.i
 have v2:∀z,z∈r2.2->lK y2.n z:=by rw[En];exact g2.v
 have WT:Ao y1.n y2.n:=by rw[En];exact g2.dX
 have XD:∀l,l∈aJ R->∀z,z∈l->aD z (ag y2.n):=fun l hl z hz=>(O3 l hl z hz).mono WT.1
 refine az ?_;(repeat(first|(refine ah ?_;refine aI hp ?_)|(refine aH ?_;refine aW hp ?_;intro w hp;refine az ?_)))
 refine ae (fun _=> ?_) (fun hg=>False.elim (by omega));refine aN ?_;(repeat(refine aI hp ?_))
 have v12:∀z,z∈r1.2->lK y2.n z:=fun z hz=>bj.mono WT (v1 z hz)
 refine cy Tryz.func143 (KB y2 o.kind hk5 Lp Tr Lq Ts wd hw r1.2 r2.2 vL sb _ hp.dR XC hp.rd hp.rd v12 v2) ?_
 rintro _ w ⟨z,bz,cz,⟨ez,rfl⟩,hq⟩
 have hp:=hp.call2 hq
 clear hq
 refine az ?_;(repeat(first|(refine ah ?_;refine aI hp ?_)|(refine aH ?_;refine aW hp ?_;intro w hp;refine az ?_)))
 refine w7 hp rfl ?_
 have hZ:dD bY (aJ R) wd (cI.bin o u v) x.n=gO bY wd o.kind y2.n r1.2 r2.2:=by rw[En,KH,Cn,Hi];rfl
 rw[hZ,show pre.length+(cI.bin o u v).dh.length=pre.length+1+u.dh.length+v.dh.length by simp[cI.dh];omega]
 exact⟨z,bz,cz,⟨ez,rfl⟩,.inr ((hp.f1).tk 2)⟩
theorem SK (R:List (cL Int))(sa:Option Addr)(sc wd:Nat)(hw:1<=wd/\wd<=4)(ops:List dK)(oa:Option Addr)(oc:Nat)(jL:ops.length<=15)(fF:R.length<=1000)(pU:∀i,i<R.length->(R.getD i default).ins.length<=1000)(o:dK)(u v q:cI)(ihu:qZ R sa sc wd ops oa oc u)(ihv:qZ R sa sc wd ops oa oc v)(ihq:qZ R sa sc wd ops oa oc q):qZ R sa sc wd ops oa oc (.nS o u v q):=by
 intro pre post fQ ht x w0 hX aS ns hS hQ hO
 have hlen:ops.length=pre.length+(cI.nS o u v q).dh.length+post.length:=by rw[fQ];simp only[List.length_append]
 have oh:=cI.pos (cI.nS o u v q)
 have ij:ops.getD pre.length default=o:=by
  rw[fQ,List.append_assoc,List.getD_eq_getElem?_getD,List.getElem?_append_right (Nat.le_refl _),Nat.sub_self];rfl
 refine eu Tryz.Gn ?_;intro C hp;skip;refine bP hp ?_;intro w b5 hx hp;refine az ?_;skip;refine bP hp ?_;intro w ng hx hp;refine az ?_;refine bb hp ?_
 refine bP hp ?_;intro w zO hx hp;refine az ?_;(repeat(first|(refine ah ?_;refine aI hp ?_)|(refine aH ?_;refine aW hp ?_;intro w hp;refine az ?_)|(refine bK ?_;refine gG hp ?_;intro w _ hx hp;refine az ?_)))
 rw[ij] at hp⊢
 refine bQ hp Tryz.func139 (gj o.kind _) ?_;intro w hx hp
 have hk12:o.kind=12:=by
  have h1:jx o.kind=3:=ht.1
  unfold jx at h1
  repeat' split at h1
  all_goals omega
 rw[ht.1]
 refine aM ?_;refine aI hp ?_
 have hp:Hp w0 _ [rO 3 1 eI _ _ ([]:List Int),rB zO 132 [.int .i64 o.kind,.int .i64 o.a,.int .i64 o.b],rB ng 33 (aL Tryz.dY.zero),rB b5 33 x.cs]:=hp
 have K2:(pre++[o]).length=pre.length+1:=by simp[cI.dh]<;>omega
 have iN:=ihu (pre++[o]) (v.dh++q.dh++post) (by rw[fQ];simp[cI.dh]) ht.2.1 x _ hp.dR aS ns hp.rd hp.rs hp.rd
 rw[K2] at iN
 rw[show((pre.length+1:Nat):Int)=(pre.length:Int)+1 from by simp] at iN
 have g1:=db bj (sig:=aJ R) wd u aS (fun l hl z hz=> .inl (ns l hl z hz))
 have vL:=cv bY (aJ R) wd u x.n
 obtain⟨r1,Hi⟩:∃r,r=dD bY (aJ R) wd u x.n:=⟨_,rfl⟩
 rw[<-Hi] at iN g1 vL
 refine cy Tryz.func83 iN ?_
 rintro _ w ⟨y1,Lp,Lq,⟨Cn,rfl⟩,hq⟩
 obtain⟨L1,hp,hN1,EP⟩:=Hp.zp (K:=[_,_,_,_]) (L:=[]) hp hq
 have hp:Hp w0 _ (_::_::_::_::_::L1):=hp
 have EP:=A2 (x:=x) (L:=[]) (.inl ⟨rfl,rfl⟩) EP
 clear hq iN
 have NF:aj y1.n:=by rw[Cn];exact g1.i
 have v1:∀z,z∈r1.2->lK y1.n z:=by rw[Cn];exact g1.v
 have WS:Ao x.n y1.n:=by rw[Cn];exact g1.dX
 have O3:∀l,l∈aJ R->∀z,z∈l->aD z (ag y1.n):=fun l hl z hz=>(ns l hl z hz).mono WS.1
 refine az ?_;(repeat(first|(refine ah ?_;refine aI hp ?_)|(refine aH ?_;refine aW hp ?_;intro w hp;refine az ?_)))
 refine ae (fun hg=>False.elim (by omega)) (fun _=> ?_);refine aM ?_;refine aI hp ?_
 have D7:(pre++o::u.dh).length=pre.length+1+u.dh.length:=by simp[cI.dh]<;>omega
 have jM:=ihv (pre++o::u.dh) (q.dh++post) (by rw[fQ];simp[cI.dh]) ht.2.2.1 y1 _ hp.dR NF O3 hp.rd hp.rs hp.rd
 rw[D7] at jM
 have g2:=db bj (sig:=aJ R) wd v NF (fun l hl z hz=> .inl (O3 l hl z hz))
 have sb:=cv bY (aJ R) wd v y1.n
 obtain⟨r2,KH⟩:∃r,r=dD bY (aJ R) wd v y1.n:=⟨_,rfl⟩
 rw[<-KH] at jM g2 sb
 refine cy Tryz.func83 jM ?_
 rintro _ w ⟨y2,Tr,Ts,⟨En,rfl⟩,hq⟩
 obtain⟨L2,hp,Io,I'⟩:=Hp.zp (K:=[_,_,_,_,_]) (L:=L1) hp hq
 have hp:Hp w0 _ (_::_::_::_::_::_::L2):=hp
 have I':=A2 (x:=x) (L:=L1) EP I'
 clear hq jM
 have XC:aj y2.n:=by rw[En];exact g2.i
 have v2:∀z,z∈r2.2->lK y2.n z:=by rw[En];exact g2.v
 have WT:Ao y1.n y2.n:=by rw[En];exact g2.dX
 have XD:∀l,l∈aJ R->∀z,z∈l->aD z (ag y2.n):=fun l hl z hz=>(O3 l hl z hz).mono WT.1
 refine az ?_;(repeat(first|(refine ah ?_;refine aI hp ?_)|(refine aH ?_;refine aW hp ?_;intro w hp;refine az ?_)))
 refine ae (fun hg=>False.elim (by omega)) (fun _=> ?_);refine aM ?_;refine aI hp ?_
 have Sp:(pre++o::(u.dh++v.dh)).length=pre.length+1+u.dh.length+v.dh.length:=by simp[cI.dh]<;>omega
 have te:=ihq (pre++o::(u.dh++v.dh)) (post) (by rw[fQ];simp[cI.dh]) ht.2.2.2 y2 _ hp.dR XC XD hp.rd hp.rs hp.rd
 rw[Sp] at te
 have g3:=db bj (sig:=aJ R) wd q XC (fun l hl z hz=> .inl (XD l hl z hz))
 have Xl:=cv bY (aJ R) wd q y2.n
 obtain⟨r3,hr3⟩:∃r,r=dD bY (aJ R) wd q y2.n:=⟨_,rfl⟩
 rw[<-hr3] at te g3 Xl
 refine cy Tryz.func83 te ?_
 rintro _ w ⟨y3,XE,XF,⟨SD,rfl⟩,hq⟩
 obtain⟨L3,hp,hN3,hd3⟩:=Hp.zp (K:=[_,_,_,_,_,_]) (L:=L2) hp hq
 have hp:Hp w0 _ (_::_::_::_::_::_::_::L3):=hp
 have hd3:=A2 (x:=x) (L:=L2) I' hd3
 clear hq te
 have ok3:aj y3.n:=by rw[SD];exact g3.i
 have v3:∀z,z∈r3.2->lK y3.n z:=by rw[SD];exact g3.v
 have le3:Ao y2.n y3.n:=by rw[SD];exact g3.dX
 have sg3:∀l,l∈aJ R->∀z,z∈l->aD z (ag y3.n):=fun l hl z hz=>(XD l hl z hz).mono le3.1
 refine az ?_;refine aW hp ?_;intro w hp;refine az ?_
 have v13:∀z,z∈r1.2->lK y3.n z:=fun z hz=>bj.mono (Ao.trans WT le3) (v1 z hz)
 have v23:∀z,z∈r2.2->lK y3.n z:=fun z hz=>bj.mono le3 (v2 z hz)
 refine kg [3,4,5,10,14,16,17,18,19,20] (fun(k:Nat) (_:bf) (_:List bh) (bo:Option Addr) (co:Nat) (_:Unit)=>[(3,.int .i64 ((pre.length+1+u.dh.length+v.dh.length+q.dh.length:Nat):Int)),(4,.int .i64 (wd:Int)),(5,.pointer (some ⟨b5,0,none⟩)),(10,.pointer (some ⟨ng,0,none⟩)),(14,.slice bo 0 co),(16,.slice Lp wd Lq),(17,.slice Tr wd Ts),(18,.slice XE wd XF),(19,.int .i64 (di bY y3.n r1.2 k).2),(20,.int .i64 (k:Int))])
  (fun k y N bo co _ w'=>(k<=wd/\y.n=(di bY y3.n r1.2 k).1/\lJ w0 N y)/\Hp w0 w' (rO 3 1 eI XE XF r3.2::rO 3 1 eI Tr Ts r2.2::rO 3 1 eI Lp Lq r1.2::rO 3 1 eI bo co ([]:List Int)::rB zO 132 [.int .i64 o.kind,.int .i64 o.a,.int .i64 o.b]::rB ng 33 (aL Tryz.dY.zero)::rB b5 33 y.cs::N)) (fun k _ _ _ _ _=>wd-k) 0 y3 L3 _ _ () rfl ⟨⟨by omega,rfl,hN3⟩,hp⟩ ?_
 clear hp
 rintro k y N bo co _ w1 ⟨⟨hk,hy,hN⟩,hp⟩ IH C
 obtain⟨hi,Lm,hle⟩:=oA bj ok3 v13 k
 obtain⟨r,hr⟩:∃r,r=di bY y3.n r1.2 k:=⟨_,rfl⟩
 rw[<-hr] at hi Lm hle hy⊢
 have w6:aj y.n:=by rw[hy];exact hi
 have va:=bj.mono hle (cZ bj ok3 v13 k)
 refine bL ?_
 apply ae<;>intro bD
 ·have CF:k<wd:=by omega
  have eK:di bY y3.n r1.2 (k+1)=bY.or r.1 r.2 (r1.2.getD k default):=by rw[di,<-hr]
  have eX:dG y.n [r.2,r1.2.getD k default] (cF y.n r.2 (r1.2.getD k default))=di bY y3.n r1.2 (k+1):=by rw[hy,eK];rfl
  refine aN ?_
  refine fR hp ?_;(repeat(refine gu ?_;first|refine fy ?_|refine jE rfl (by omega) rfl rfl rfl ?_))
  refine j8 Tryz.func144 (fun F w hp=> ?_);refine bN.mono (nD y r.2 (r1.2.getD k default) _ hp.pre.dR w6.S' w6.W (Lm.i64 hi) (va.i64 hi)) ?_;rintro _ w ⟨z1,⟨vY,rfl⟩,hq⟩;have hp:=hp.eU hq;refine⟨fun _=>hp.sub (by(repeat(first|exact List.sublist_append_left _ _|apply List.Sublist.cons))),_,hp,?_⟩;clear hp;refine cX ?_;refine eO rfl rfl rfl rfl (by kernel_rfl) ?_;refine cX ?_
  rw[eX] at vY⊢
  refine dc ?_;intro w hp C;refine bL ?_
  have hp:=(hp.f7.f7.f7.f7.f7.f7.f7).tk 8
  exact IH (k+1) z1 [dv z1] bo co () _ _ _ (by omega) rfl ⟨⟨by omega,vY,inferInstance⟩,hp⟩
 ·obtain rfl:k=wd:=by omega
  clear IH
  have v2e:∀z,z∈r2.2->lK y.n z:=fun z hz=>by rw[hy];exact bj.mono hle (v23 z hz)
  have v3e:∀z,z∈r3.2->lK y.n z:=fun z hz=>by rw[hy];exact bj.mono hle (v3 z hz)
  have XG:lK y.n r.2:=by rw[hy];exact Lm
  have hZ:dD bY (aJ R) k (cI.nS o u v q) x.n=bC (fun s' a b=>bY.jk s' r.2 a b) y.n r2.2 r3.2 k:=by
   have h1:dD bY (aJ R) k (cI.nS o u v q) x.n=sO bY y3.n r1.2 r2.2 r3.2:=by rw[SD,hr3,En,KH,Cn,Hi];rfl
   rw[h1];unfold sO;rw[vL,sb,<-hr,hy]
  obtain⟨e,he⟩:∃e,e=r.2:=⟨_,rfl⟩
  rw[<-he] at XG Lm hZ⊢
  obtain⟨y4,hy4⟩:∃y4,y4=y:=⟨_,rfl⟩
  rw[<-hy4] at hy w6 v2e v3e XG hN hp hZ
  clear hy4
  refine aM ?_
  refine kg [3,4,5,10,14,17,18,19,21] (fun(j:Nat) (_:bf) (_:List bh) (ob:Option Addr) (pD:Nat) (_:Unit)=>[(3,.int .i64 ((pre.length+1+u.dh.length+v.dh.length+q.dh.length:Nat):Int)),(4,.int .i64 (k:Int)),(5,.pointer (some ⟨b5,0,none⟩)),(10,.pointer (some ⟨ng,0,none⟩)),(14,.slice ob (bC (fun s' a b=>bY.jk s' e a b) y4.n r2.2 r3.2 j).2.length pD),(17,.slice Tr k Ts),(18,.slice XE k XF),(19,.int .i64 e),(21,.int .i64 (j:Int))])
   (fun j y N ob pD _ w'=>(j<=k/\y.n=(bC (fun s' a b=>bY.jk s' e a b) y4.n r2.2 r3.2 j).1/\lJ w0 N y/\(0<j->N=[dv y]))/\Hp w0 w' (rO 3 1 eI XE XF r3.2::rO 3 1 eI Tr Ts r2.2::rO 3 1 eI Lp Lq r1.2::rO 3 1 eI ob pD (bC (fun s' a b=>bY.jk s' e a b) y4.n r2.2 r3.2 j).2::rB zO 132 [.int .i64 o.kind,.int .i64 o.a,.int .i64 o.b]::rB ng 33 (aL Tryz.dY.zero)::rB b5 33 y.cs::N)) (fun j _ _ _ _ _=>k-j) 0 y4 N bo co () rfl ⟨⟨by omega,rfl,hN,fun h=>by omega⟩,hp⟩ ?_
  clear hp
  rintro j y N ob pD _ w1 ⟨⟨hj,XH,hNj,Io⟩,hp⟩ IH C
  have g:=fH bj (s:=y4.n) (f:=fun s' a b=>bY.jk s' e a b) (fun s' a b h0 h1 h2 h3=>bj.jk h1 (bj.mono h0 XG) h2 h3) w6 v2e v3e j
  have uV:=dH (fun s' a b=>bY.jk s' e a b) y4.n r2.2 r3.2 j
  obtain⟨s,hs⟩:∃s,s=(bC (fun s' a b=>bY.jk s' e a b) y4.n r2.2 r3.2 j):=⟨_,rfl⟩
  rw[<-hs] at g hp uV XH⊢
  have mh:aj s.1:=g.i
  have WU:aj y.n:=by rw[XH];exact mh
  have va:=bj.mono g.dX (cZ bj w6 v2e j)
  have vb:=bj.mono g.dX (cZ bj w6 v3e j)
  have ve:=bj.mono g.dX XG
  refine bL ?_
  apply ae<;>intro jK
  ·have hjw:j<k:=by omega
   have eK:(bC (fun s' a b=>bY.jk s' e a b) y4.n r2.2 r3.2 (j+1))=((bY.jk s.1 e (r2.2.getD j default) (r3.2.getD j default)).1,s.2++[(bY.jk s.1 e (r2.2.getD j default) (r3.2.getD j default)).2]):=by rw[bC,<-hs]
   have eX:dG y.n [e,r2.2.getD j default,r3.2.getD j default] (dy y.n e (r2.2.getD j default) (r3.2.getD j default))=bY.jk s.1 e (r2.2.getD j default) (r3.2.getD j default):=by rw[XH];rfl
   refine aN ?_
   refine fR hp ?_;(repeat(refine gu ?_;first|refine fy ?_|refine jE rfl (by omega) rfl rfl rfl ?_))
   refine j8 Tryz.func145 (fun F w hp=> ?_);refine bN.mono (uk y e (r2.2.getD j default) (r3.2.getD j default) _ hp.pre.dR WU.S' WU.W (ve.i64 mh) (va.i64 mh) (vb.i64 mh)) ?_;rintro _ w ⟨z1,⟨vY,rfl⟩,hq⟩;have hp:=hp.eU hq;refine⟨fun _=>hp.sub (by(repeat(first|exact List.sublist_append_left _ _|apply List.Sublist.cons))),_,hp,?_⟩;clear hp;refine cX ?_
   rw[eX] at vY⊢
   (first|refine oq ?_|refine iS rfl ?_);intro b22;refine cX ?_;refine eO rfl rfl rfl rfl (by kernel_rfl) ?_;refine cX ?_
   refine dc ?_;intro w hp C;refine bL ?_;(repeat(first|(refine ah ?_;refine aI hp ?_)|(refine aH ?_;refine aW hp ?_;intro w hp;refine az ?_)|(refine bK ?_;refine gG hp ?_;intro w _ hx hp;refine az ?_)))
   refine gT hp ?_;intro o' c' w hp bZ;refine az ?_
   have hp:=hp.drop.drop
   have hp:=(hp.f7.f7.f7.f7.f7.f7.f7).tk 8
   refine IH (j+1) z1 [dv z1] o' c' () _ _ _ (by omega) (by rw[eK];rfl) ⟨⟨by omega,by rw[eK];exact vY,inferInstance,fun _=>rfl⟩,?_⟩
   rw[eK]
   exact hp
  ·obtain rfl:j=k:=by omega
   have KC:=Io (by omega)
   subst KC
   clear IH
   refine aM ?_;(repeat(first|(refine ah ?_;refine aI hp ?_)|(refine aH ?_;refine aW hp ?_;intro w hp;refine az ?_)))
   refine w7 hp rfl ?_
   rw[hZ,<-hs,show pre.length+(cI.nS o u v q).dh.length=pre.length+1+u.dh.length+v.dh.length+q.dh.length by simp[cI.dh];omega]
   exact⟨y,ob,pD,⟨XH,by rw[uV];rfl⟩,.inr ((hp.f7.f4).tk 2)⟩
theorem kT (R:List (cL Int))(sa:Option Addr)(sc wd:Nat)(hw:1<=wd/\wd<=4)(ops:List dK)(oa:Option Addr)(oc:Nat)(jL:ops.length<=15)(fF:R.length<=1000)(pU:∀i,i<R.length->(R.getD i default).ins.length<=1000):∀t:cI,qZ R sa sc wd ops oa oc t
 | .leaf o=>ND R sa sc wd hw ops oa oc jL fF pU o
 | .un o u=>WR R sa sc wd hw ops oa oc jL fF pU o u (kT R sa sc wd hw ops oa oc jL fF pU u)
 | .bin o u v=>SJ R sa sc wd hw ops oa oc jL fF pU o u v (kT R sa sc wd hw ops oa oc jL fF pU u) (kT R sa sc wd hw ops oa oc jL fF pU v)
 | .nS o u v q=>SK R sa sc wd hw ops oa oc jL fF pU o u v q (kT R sa sc wd hw ops oa oc jL fF pU u) (kT R sa sc wd hw ops oa oc jL fF pU v) (kT R sa sc wd hw ops oa oc jL fF pU q)
end Go.Proofs
