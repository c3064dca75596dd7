/- The contract of the program's expr; under its stated conditions. -/
import Derived.Test.YtiepmliokblkjaaGreatBrf
import Derived.Test.YtiepmliokblkjaaGreatAdder3
set_option linter.all false
namespace Go.Xw
def ku:cI->List cI
 | .leaf _=>[]
 | .un _ x=>[x]
 | .bin _ x y=>[x,y]
 | .nS _ x y z=>[x,y,z]
def m7:cI->dJ
 | .leaf o=>o
 | .un o _=>o
 | .bin o _ _=>o
 | .nS o _ _ _=>o
instance:Inhabited cI:=⟨.leaf default⟩
theorem Si:∀t:cI,t.dh=m7 t::(ku t).flatMap cI.dh
 | .leaf o=>by simp[cI.dh,ku,m7]
 | .un o x=>by simp[cI.dh,ku,m7]
 | .bin o x y=>by simp[cI.dh,ku,m7]
 | .nS o x y z=>by simp[cI.dh,ku,m7]
theorem Nh {m:Int}:∀{t:cI},t.ok m->jx (m7 t).kind=((ku t).length:Nat)/\∀x,x∈ku t->x.ok m
 | .leaf o,h=>⟨h.1,fun x hx=>by cases hx⟩
 | .un o x,h=>⟨h.1,fun z hz=>by simp[ku] at hz;subst hz;exact h.2⟩
 | .bin o x y,h=>⟨h.1,fun z hz=>by simp[ku] at hz;rcases hz with rfl|rfl;exact h.2.1;exact h.2.2⟩
 | .nS o x y z,h=>⟨h.1,fun u hu=>by simp[ku] at hu;rcases hu with rfl|rfl|rfl;exact h.2.1;exact h.2.2.1;exact h.2.2.2⟩
def kC (sig:List (List Int))(w:Nat)(ts:List cI)(s:ao×Bool):Nat->(ao×Bool)×List (List Int)
 |0=>(s,[])
 |i+1=>((dB a6 sig w (ts.getD i default) (kC sig w ts s i).1).1,(kC sig w ts s i).2++[(dB a6 sig w (ts.getD i default) (kC sig w ts s i).1).2])
def m8 (ts:List cI)(i:Nat):Nat:=((ts.take i).flatMap cI.dh).length
theorem FK {ts:List cI}{i:Nat}(h:i<ts.length):m8 ts (i+1)=m8 ts i+(ts.getD i default).dh.length:=by
 unfold m8
 rw[dm h,List.flatMap_append,List.length_append];simp
theorem AN {sig:List (List Int)}{w:Nat}{ts:List cI}{s:ao×Bool}(aS:aj s.1)(hs:∀l,l∈sig->∀z,z∈l->aD z (ag s.1)):∀i,aj (kC sig w ts s i).1.1/\Rw s (kC sig w ts s i).1/\(kC sig w ts s i).2.length=i/\∀l,l∈(kC sig w ts s i).2->l.length=w/\∀z,z∈l->aD z (ag (kC sig w ts s i).1.1)
 |0=>⟨aS,cF.refl s,rfl,by simp[kC]⟩
 |i+1=>by
  obtain⟨h1,h2,h3,h4⟩:=AN (w:=w) (ts:=ts) aS hs i
  have g:=db cF (sig:=sig) w (ts.getD i default) h1 (fun l hl z hz=>(hs l hl z hz).mono h2.1.1)
  refine⟨g.i,cF.trans h2 g.dX,by rw[kC,List.length_append,h3];rfl,fun l hl=> ?_⟩
  rcases List.mem_append.1 hl with hl|hl
  ·exact⟨(h4 l hl).1,fun z hz=>((h4 l hl).2 z hz).mono g.dX.1.1⟩
  ·simp at hl
   subst hl
   exact⟨cv a6 sig w _ _,g.v⟩
theorem Cf {S:ak}{sz:Nat}{R:Value->World->Prop}{C:World->Prop}{w:World}{ops:Array Oper}{rest:List Oper}{k:List Item}{env:Env}{w0:World}{F:List bg}(iM:bH ops rest=false)(hp:Hp w0 w F)(z:Int){t e:TypeId}{i j:TI}{nn:Nat}{parts:List (Nat×Value)}{d:Nat}[hS:S.Ok](hi:tl S.tt t=some i)(hd:i.desc= .slice e)(hj:tl S.tt e=some j)(hz:(aL j.zero).length=j.size)(lQ:j.size=1)
  (hc:gV S.tt e nn parts=some (eI z)) (hn:nn=1)
  (hk:∀w' b,Ext w w'->Hp w0 w' (rO e 1 eI (some ⟨b,0,none⟩) 1 [z]::F)->ax S sz R C w' (.ops true ops rest k ((d,.slice (some ⟨b,0,none⟩) 1 1)::env))):
  ax S sz R C w (.act (.buildSlice t nn parts) ⟨true,ops,rest,some d,k,env⟩):=by
 subst hn
 have hr:=wE (P:=S.P) (w:=w) hS.tt hi hd hj hz (by omega) hc (by rw[lQ];decide)
 refine xz (v:= .slice (some ⟨w.heap.size,0,none⟩) 1 1) (w':=w.alloc (.cells ⟨eI z⟩ e)) rfl rfl (by simp only[Action.lO,Sem.run_bind,hr,Result.andThen_ok,Sem.run_pure]) ?_
 exact⟨fun hq=>Bool.noConfusion (hq.symm.trans iM),hk _ _ (Ext.alloc _ _) (hp.eH (Ext.alloc _ _) (dk.lit w e (eI z) [z] tC rfl (show 1<=maxLen by unfold maxLen;decide)))⟩
theorem Hp.Hg {w0 w:World}{A B C D:bg}{L:List bg}(h:Hp w0 w (A::B::C::D::L)):Hp w0 w (B::C::D::A::L):=h.b3
class FL (i:Nat)(R:List (cL Int)):Prop where
 h:i<R.length
instance gm.rowAt {w0:World}{L:List bg}{R:List (cL Int)}{i:Nat}[h:kq w0 L 1 eI R][k:FL i R]:gm w0 L (R.getD i default).ia 1 eI (R.getD i default).ins:=kq.at_ h k.h
end Go.Xw
namespace Go.Proofs
open Go.Xw
set_option maxRecDepth 100000
set_option maxHeartbeats 8000000
attribute [local irreducible] ax aE
def KF (w0:World)(R:List (cL Int))(sa:Option Addr)(sc:Nat)(bx p wd:Nat)(y:bf)(ops:List dJ)(oa:Option Addr)(oc:Nat)(t:cI):Prop:=
 ∀(pre post:List dJ),ops=pre++t.dh++post->t.ok R.length->∀(s:ao×Bool),s.1={y.n with af:=s.1.af}->aj s.1->(∀l,l∈aJ R->∀z,z∈l->aD z (ag s.1))->
  ∀(aa:Option Addr) (ac:Nat) (w1:World) (L:List bg),gm w0 L sa 1 jk R->kq w0 L 1 eI R->gm w0 L oa 3 kg ops->Hp w0 w1 (rB bx 88 [.pointer (some ⟨p,0,none⟩),.slice sa R.length sc,.int .i64 (wd:Int),.bool s.2]::rB p 33 (y.wA aa ac s.1.af).cs::rO 120 2 gh aa ac s.1.af::L)->
  bN Tryz.prog 40 [.pointer (some ⟨bx,0,none⟩),.slice oa ops.length oc,.int .i64 (pre.length:Int)] w1 (fun v w'=>∃b c kx ky,v= .tuple ⟨[.slice b (dB a6 (aJ R) wd t s).2.length c,.int .i64 ((pre.length+t.dh.length:Nat):Int)]⟩/\Hp w0 w' (rO 3 1 eI b c (dB a6 (aJ R) wd t s).2::rB bx 88 [.pointer (some ⟨p,0,none⟩),.slice sa R.length sc,.int .i64 (wd:Int),.bool (dB a6 (aJ R) wd t s).1.2]::rB p 33 (y.wA kx ky (dB a6 (aJ R) wd t s).1.1.af).cs::rO 120 2 gh kx ky (dB a6 (aJ R) wd t s).1.1.af::L))
theorem rJ (w0:World)(R:List (cL Int))(sa:Option Addr)(sc:Nat)(bx p wd:Nat)(hw:1<=wd/\wd<=4)(y:bf)(ops:List dJ)(oa:Option Addr)(oc:Nat)(jL:ops.length<=15)(fF:R.length<=1000)(pU:∀i,i<R.length->(R.getD i default).ins.length<=1000)(t:cI)(hk:∀x,x∈ku t->KF w0 R sa sc bx p wd y ops oa oc x):KF w0 R sa sc bx p wd y ops oa oc t:=by
 intro pre post fP ht s hs aS ns aa ac w1 L hS hQ hO jQ
 obtain⟨Mk,Wn⟩:=Nh ht
 have Sj:=Si t
 have hlen:ops.length=pre.length+t.dh.length+post.length:=by rw[fP];simp only[List.length_append]
 have oh:=cI.pos t
 have sY:t.dh.length=1+m8 (ku t) (ku t).length:=by rw[Sj];unfold m8;rw[List.take_length,List.length_cons];omega
 have ij:ops.getD pre.length default=m7 t:=by
  rw[fP,Sj,List.append_assoc,List.getD_eq_getElem?_getD,List.getElem?_append_right (Nat.le_refl _),Nat.sub_self];rfl
 refine enter Tryz.U5 _ _ rfl rfl (by show _<=_;simp only[List.length];decide) (fun C=> ?_);have hp:=jQ;refine bL ?_
 refine bb hp ?_
 refine bP hp ?_;intro w b8 hx hp;refine az ?_;refine aW hp ?_;intro w hp;refine az ?_
 rw[ij] at hp
 have hp:Hp w0 _ (rB b8 132 [.int .i64 (m7 t).kind,.int .i64 (m7 t).a,.int .i64 (m7 t).b]::rB bx 88 [.pointer (some ⟨p,0,none⟩),.slice sa R.length sc,.int .i64 (wd:Int),.bool s.2]::rB p 33 (y.wA aa ac s.1.af).cs::rO 120 2 gh aa ac s.1.af::L):=hp
 have hp:=hp.f3.f3.f3
 have u6:(ku t).length<=3:=by cases t<;>simp[ku]
 obtain⟨ts,Cx⟩:∃ts,ts=ku t:=⟨_,rfl⟩
 rw[<-Cx] at hk u6 Wn Mk sY
 refine kh [0,1,2,8,9,10] (fun(i:Nat) (RA:List (cL Int)) (ra:Option Addr) (rc:Nat) (_:Option Addr) (_:Nat)=>[(0,.pointer (some ⟨bx,0,none⟩)),(1,.slice oa ops.length oc),(2,.int .i64 ((pre.length+1+m8 ts i:Nat):Int)),(8,.pointer (some ⟨b8,0,none⟩)),(9,.slice ra RA.length rc),(10,.int .i64 (i:Int))])
  (fun i RA ra rc aa ac w'=>(i<=ts.length/\aJ RA=(kC (aJ R) wd ts s i).2)/\Hp w0 w' (rB bx 88 [.pointer (some ⟨p,0,none⟩),.slice sa R.length sc,.int .i64 (wd:Int),.bool (kC (aJ R) wd ts s i).1.2]::rB p 33 (y.wA aa ac (kC (aJ R) wd ts s i).1.1.af).cs::rO 120 2 gh aa ac (kC (aJ R) wd ts s i).1.1.af::rO 31 1 jk ra rc RA::cC 3 1 eI RA::rB b8 132 [.int .i64 (m7 t).kind,.int .i64 (m7 t).a,.int .i64 (m7 t).b]::L)) (fun i _ _ _ _ _=>ts.length-i) 0 [] none 0 aa ac rfl ⟨⟨by omega,rfl⟩,?_⟩ ?_
 ·have h1:Hp w0 _ (rO 31 1 (jk (α:=Int)) none 0 []::cC 3 1 eI ([]:List (cL Int))::rB bx 88 [.pointer (some ⟨p,0,none⟩),.slice sa R.length sc,.int .i64 (wd:Int),.bool s.2]::rB p 33 (y.wA aa ac s.1.af).cs::rO 120 2 gh aa ac s.1.af::rB b8 132 [.int .i64 (m7 t).kind,.int .i64 (m7 t).a,.int .i64 (m7 t).b]::L):=(rz hp).eH (Ext.refl _) (dk.nil _ _ _ _ _)
  exact h1.f1.f1.f4.f4.f4
 clear hp
 rintro i RA ra rc aa ac w1 ⟨⟨hi,Ni⟩,hp⟩ IH C
 obtain⟨e1,e2,e3,e4⟩:=AN (w:=wd) (ts:=ts) aS ns i
 have rn:=e2.look hs
 have Nj:RA.length=i:=by rw[<-fg,Ni,e3]
 have hsti:m8 ts i<=m8 ts ts.length:=by
  unfold m8
  exact List.Sublist.length_le (jO (by rw[List.take_length];exact List.take_sublist _ _))
 refine bL ?_;refine aH hp ?_
 refine bQ hp Tryz.func95 (nW (m7 t).kind _) ?_;intro w hx hp
 rw[Mk]
 apply ae<;>intro bD
 ·have mg:i<ts.length:=by omega
  have vh:ts.getD i default∈ts:=aK mg
  have Li:=FK mg
  have hstn:m8 ts (i+1)<=m8 ts ts.length:=by
   unfold m8
   exact List.Sublist.length_le (jO (by rw[List.take_length];exact List.take_sublist _ _))
  have Wo:ops=(pre++m7 t::(ts.take i).flatMap cI.dh)++(ts.getD i default).dh++((ts.drop (i+1)).flatMap cI.dh++post):=by
   rw[fP,Sj,<-Cx]
   have hd:ts=ts.take i++ts.getD i default::ts.drop (i+1):=by
    rw[List.getD_eq_getElem?_getD,List.getElem?_eq_getElem mg]
    show ts=ts.take i++ts[i]::ts.drop (i+1)
    rw[<-List.drop_eq_getElem_cons mg,List.take_append_drop]
   conv=>lhs;rw[hd]
   simp
  have sD:(pre++m7 t::(ts.take i).flatMap cI.dh).length=pre.length+1+m8 ts i:=by unfold m8;simp;omega
  have jb:=hk _ vh _ _ Wo (Wn _ vh) (kC (aJ R) wd ts s i).1 rn e1 (fun l hl z hz=>(ns l hl z hz).mono e2.1.1) aa ac _ _ inferInstance inferInstance inferInstance hp
  rw[sD] at jb
  have eN:kC (aJ R) wd ts s (i+1)=((dB a6 (aJ R) wd (ts.getD i default) (kC (aJ R) wd ts s i).1).1,(kC (aJ R) wd ts s i).2++[(dB a6 (aJ R) wd (ts.getD i default) (kC (aJ R) wd ts s i).1).2]):=rfl
  have Xn:=cv a6 (aJ R) wd (ts.getD i default) (kC (aJ R) wd ts s i).1
  refine aN ?_
  refine cx Tryz.func40 (jb) ?_;rintro _ w ⟨b,c,kx,ky,rfl,hp⟩;refine az ?_
  have hN:aJ (RA++[(⟨(dB a6 (aJ R) wd (ts.getD i default) (kC (aJ R) wd ts s i).1).2,b,c⟩:cL Int)])=(kC (aJ R) wd ts s (i+1)).2:=by rw[eN,<-Ni];simp[aJ]
  refine lW hp (jk (α:=Int)) [(⟨(dB a6 (aJ R) wd (ts.getD i default) (kC (aJ R) wd ts s i).1).2,b,c⟩:cL Int)] ?_;intro w bl hx hp;refine az ?_
  refine gT hp ?_;intro ra' rc' w hp bZ;refine az ?_
  have hp:=(rA (y:=⟨(dB a6 (aJ R) wd (ts.getD i default) (kC (aJ R) wd ts s i).1).2,b,c⟩) ((hp.drop).f4.f4.f4.f4.f5.f5)).f4.f4.f4.f4
  refine IH (i+1) (RA++[(⟨(dB a6 (aJ R) wd (ts.getD i default) (kC (aJ R) wd ts s i).1).2,b,c⟩:cL Int)]) ra' rc' kx ky _ _ _ (by omega) (by rw[Li,<-Nat.add_assoc];rfl) ⟨⟨by omega,hN⟩,hp⟩
 ·obtain rfl:i=ts.length:=by omega
  clear IH
  have hend:pre.length+1+m8 ts ts.length=pre.length+t.dh.length:=by omega
  rw[hend]
  refine aM ?_
  have iM:=cv a6 (aJ R) wd t s
  have lN:∀q,q<ts.length->(RA.getD q default).ins.length=wd/\∀z,z∈(RA.getD q default).ins->aD z (ag (kC (aJ R) wd ts s ts.length).1.1):=fun q hq=>by
   rw[<-bk,Ni]
   exact e4 _ (aK (by omega))
  cases t with
  |leaf o=>
   have Cx:ts=[]:=Cx
   subst Cx
   have hRA0:RA.length=0:=Nj
   have qe:o.kind=0\/o.kind=2\/o.kind=3:=by
    have h1:=ht.1
    have h2:=ht.2.2
    have:0<=o.kind/\o.kind<=3:=Classical.byContradiction fun hh=>by
     unfold jx at h1;rw[if_neg hh] at h1
     split at h1
     ·omega
     split at h1
     ·omega
     split at h1<;>omega
    omega
   refine ae (fun _=> ?_) (fun hg=>False.elim (by omega));refine aN ?_;refine aH hp ?_
   refine cx Tryz.func96 (Sg R sa sc fF o ht.2.1 qe pU bx p wd hw s.2 hp) ?_;rintro _ w ⟨b,c,rfl,hp⟩;refine az ?_;refine aq ?_
   have hp:=(hp.f3.f3.f3.f3.f6.f6.f6).drop.drop.drop
   exact⟨b,c,aa,ac,by rw[iM],hp⟩
  |un o x=>
   have Cx:ts=[x]:=Cx
   subst Cx
   have hRA1:RA.length=1:=Nj
   have Io:o.kind=4:=by
    have h1:jx o.kind=1:=ht.1
    unfold jx at h1
    repeat' split at h1
    all_goals omega
   have:FL (Int.toNat 0) RA:=⟨by show 0<RA.length;omega⟩
   obtain⟨sh,Cg⟩:=lN 0 (by simp)
   have sh:(RA.getD (Int.toNat 0) default).ins.length=wd:=sh
   have Sk:(RA.getD (Int.toNat 0) default).ins=(dB a6 (aJ R) wd x s).2:=by
    show(RA.getD 0 default).ins=_
    rw[<-bk,Ni];rfl
   have xK:=aj.count e1
   have Io:(m7 (cI.un o x)).kind=4:=Io
   refine ae (fun hg=>False.elim (by omega)) (fun _=> ?_);refine aM ?_;refine aH hp ?_
   refine ae (fun _=> ?_) (fun hg=>False.elim (by omega));refine aN ?_;refine ik hp ?_
   refine cx Tryz.func97 (sj _ _ _ (RA.getD (Int.toNat 0) default).ins rfl _ hp.rd (by omega) (fun i hi=>by have hz:aD ((RA.getD (Int.toNat 0) default).ins.getD i default) _:=Cg _ (aK hi);unfold aD at hz;omega)) ?_;rintro _ w ⟨b,c,rfl,hq⟩;have hx:=hq.x;have hp:=hp.bJ hq;refine az ?_;refine aq ?_
   have hp:=(hp.f3.f3.f3.f3.f6.f6.f6).drop.drop.drop
   rw[Sk] at hp
   exact⟨b,c,aa,ac,by rw[iM,sh],hp⟩
  |bin o x y'=>
   have Cx:ts=[x,y']:=Cx
   subst Cx
   have hRA2:RA.length=2:=Nj
   have hk5:5<=o.kind/\o.kind<=11:=by
    have h1:jx o.kind=2:=ht.1
    unfold jx at h1
    repeat' split at h1
    all_goals omega
   have i0:FL (Int.toNat 0) RA:=⟨by show 0<RA.length;omega⟩
   have i1:FL (Int.toNat 1) RA:=⟨by show 1<RA.length;omega⟩
   obtain⟨s2,uZ⟩:∃s2,s2=(kC (aJ R) wd [x,y'] s [x,y'].length).1:=⟨_,rfl⟩
   rw[<-uZ] at hp e1 rn lN
   obtain⟨sh,Cg⟩:=lN 0 (by simp)
   obtain⟨EC,sb⟩:=lN 1 (by simp)
   have sh:(RA.getD (Int.toNat 0) default).ins.length=wd:=sh
   have EC:(RA.getD (Int.toNat 1) default).ins.length=wd:=EC
   have Cg:∀z,z∈(RA.getD (Int.toNat 0) default).ins->aD z (ag s2.1):=Cg
   have sb:∀z,z∈(RA.getD (Int.toNat 1) default).ins->aD z (ag s2.1):=sb
   have Sk:(RA.getD (Int.toNat 0) default).ins=(dB a6 (aJ R) wd x s).2:=by
    show(RA.getD 0 default).ins=_
    rw[<-bk,Ni];rfl
   have Hh:(RA.getD (Int.toNat 1) default).ins=(dB a6 (aJ R) wd y' (dB a6 (aJ R) wd x s).1).2:=by
    show(RA.getD 1 default).ins=_
    rw[<-bk,Ni];rfl
   have hZ:dB a6 (aJ R) wd (cI.bin o x y') s=gO a6 wd o.kind s2 (RA.getD (Int.toNat 0) default).ins (RA.getD (Int.toNat 1) default).ins:=by rw[Sk,Hh,uZ];rfl
   have xK:=aj.count e1
   have e1:aj s2.1:=e1
   refine ae (fun hg=>False.elim (by omega)) (fun _=> ?_);refine aM ?_;refine aH hp ?_
   have hkc:o.kind=5\/o.kind=6\/o.kind=7\/o.kind=8\/o.kind=9\/o.kind=10\/o.kind=11:=by omega
   rcases hkc with qe|qe|qe|qe|qe|qe|qe
   ·have e5:dB a6 (aJ R) wd (cI.bin o x y') s=bC a6.and s2 (RA.getD (Int.toNat 0) default).ins (RA.getD (Int.toNat 1) default).ins wd:=by
     rw[hZ];unfold gO
     rw[if_neg (by omega),if_neg (by omega),if_neg (by omega),if_neg (by omega),if_pos qe,sh]
    have Ip:(m7 (cI.bin o x y')).kind=5:=qe
    refine ae (fun hg=>False.elim (by omega)) (fun _=> ?_);refine aM ?_
    refine ae (fun _=> ?_) (fun hg=>False.elim (by omega));refine aN ?_
    refine ae (fun _=> ?_) (fun hg=>False.elim (by omega));refine aN ?_;refine ik hp ?_
    rw[sh]
    refine lU [0,2,8,9,13,105,106] (fun(k:Nat) (o_:Option Addr) (vn:Nat) (_:Option Addr) (_:Nat)=>[(0,.pointer (some ⟨bx,0,none⟩)),(2,.int .i64 ((pre.length+(cI.bin o x y').dh.length:Nat):Int)),(8,.pointer (some ⟨b8,0,none⟩)),(9,.slice ra RA.length rc),(13,.slice o_ (bC a6.and s2 (RA.getD (Int.toNat 0) default).ins (RA.getD (Int.toNat 1) default).ins k).2.length vn),(105,.int .i64 (wd:Int)),(106,.int .i64 (k:Int))])
     (fun k o_ vn aa ac w'=>k<=wd/\Hp w0 w' (rB bx 88 [.pointer (some ⟨p,0,none⟩),.slice sa R.length sc,.int .i64 (wd:Int),.bool (bC a6.and s2 (RA.getD (Int.toNat 0) default).ins (RA.getD (Int.toNat 1) default).ins k).1.2]::rB p 33 (y.wA aa ac (bC a6.and s2 (RA.getD (Int.toNat 0) default).ins (RA.getD (Int.toNat 1) default).ins k).1.1.af).cs::rO 120 2 gh aa ac (bC a6.and s2 (RA.getD (Int.toNat 0) default).ins (RA.getD (Int.toNat 1) default).ins k).1.1.af::rO 3 1 eI o_ vn (bC a6.and s2 (RA.getD (Int.toNat 0) default).ins (RA.getD (Int.toNat 1) default).ins k).2::rO 31 1 jk ra rc RA::cC 3 1 eI RA::rB b8 132 [.int .i64 ((m7 (cI.bin o x y'))).kind,.int .i64 ((m7 (cI.bin o x y'))).a,.int .i64 ((m7 (cI.bin o x y'))).b]::L)) (fun k _ _ _ _=>wd-k) 0 none 0 aa ac rfl ⟨by omega,Hp.Hg (hp.eH (Ext.refl _) (dk.nil _ _ _ _ _))⟩ ?_
    clear hp
    rintro k o_ vn aa ac w1 ⟨hk,hp⟩ IH C
    have g:=fH cF (s:=s2) (f:=a6.and) (fun _ _ _ _ h1 h2 h3=>cF.and h1 h2 h3) e1 Cg sb k
    have uU:=dG a6.and s2 (RA.getD (Int.toNat 0) default).ins (RA.getD (Int.toNat 1) default).ins k
    obtain⟨r,hr⟩:∃r,r=bC a6.and s2 (RA.getD (Int.toNat 0) default).ins (RA.getD (Int.toNat 1) default).ins k:=⟨_,rfl⟩
    rw[<-hr] at g hp uU⊢
    have Ch:=g.dX.look rn
    have mg:aj r.1.1:=g.i
    refine bL ?_
    apply ae<;>intro bD
    ·have Cz:k<wd:=by omega
     have va:aD ((RA.getD (Int.toNat 0) default).ins.getD k default) (ag r.1.1):=(Cg _ (aK (by omega))).mono g.dX.1.1
     have vb:aD ((RA.getD (Int.toNat 1) default).ins.getD k default) (ag r.1.1):=(sb _ (aK (by omega))).mono g.dX.1.1
     have eK:bC a6.and s2 (RA.getD (Int.toNat 0) default).ins (RA.getD (Int.toNat 1) default).ins (k+1)=((a6.and r.1 ((RA.getD (Int.toNat 0) default).ins.getD k default) ((RA.getD (Int.toNat 1) default).ins.getD k default)).1,r.2++[(a6.and r.1 ((RA.getD (Int.toNat 0) default).ins.getD k default) ((RA.getD (Int.toNat 1) default).ins.getD k default)).2]):=by rw[bC,<-hr]
     refine aN ?_;refine aH hp ?_
     refine ae (fun _=> ?_) (fun hg=>False.elim (by omega));refine aN ?_
     refine j8 hp ?_;intro w hx hp;have hs:=hp;(repeat(refine ah ?_;first|refine fo ?_|refine jr rfl (by omega) (by omega) rfl rfl rfl ?_))
     refine gq ?_
     refine oW Tryz.func98 (uq y r.1 Ch mg ((RA.getD (Int.toNat 0) default).ins.getD k default) ((RA.getD (Int.toNat 1) default).ins.getD k default) va vb bx p wd _ aa ac hp) ?_;rintro _ w ⟨a1,c1,rfl,hp⟩;refine⟨fun hq=>Bool.noConfusion (hq.symm.trans (by kernel_rfl:bH _ _=false)),?_⟩;refine fW ?_
     refine Cf (by kernel_rfl) hp (a6.and r.1 ((RA.getD (Int.toNat 0) default).ins.getD k default) ((RA.getD (Int.toNat 1) default).ins.getD k default)).2 rfl rfl rfl rfl rfl rfl rfl ?_
     intro w bl hx hp
     refine fW ?_
     refine gW (a:=o_) (c:=vn) (X:=r.2) (Y:=[(a6.and r.1 ((RA.getD (Int.toNat 0) default).ins.getD k default) ((RA.getD (Int.toNat 1) default).ins.getD k default)).2]) hp rfl rfl rfl rfl rfl rfl rfl (by decide) rfl (by rw[uU];show k+1<=_;omega) rfl rfl (by kernel_rfl) ?_
     intro o' pE w hp bZ
     refine fW ?_
     skip
     refine IH (k+1) o' pE a1 c1 _ _ _ (by omega) (by rw[eK];rfl) ⟨by omega,?_⟩
     rw[eK]
     exact hp.drop
    ·refine aM ?_;refine aq ?_
     obtain rfl:k=wd:=by omega
     rw[hr,<-e5] at hp
     have hp:=(hp.f2.f2.f2.f3.f6.f6.f6).drop.drop.drop
     exact⟨o_,vn,aa,ac,by rw[hr,<-e5],hp⟩
   ·have e5:dB a6 (aJ R) wd (cI.bin o x y') s=bC a6.or s2 (RA.getD (Int.toNat 0) default).ins (RA.getD (Int.toNat 1) default).ins wd:=by
     rw[hZ];unfold gO
     rw[if_neg (by omega),if_neg (by omega),if_neg (by omega),if_neg (by omega),if_neg (by omega),if_pos qe,sh]
    have Ip:(m7 (cI.bin o x y')).kind=6:=qe
    refine ae (fun hg=>False.elim (by omega)) (fun _=> ?_);refine aM ?_
    refine ae (fun hg=>False.elim (by omega)) (fun _=> ?_);refine aM ?_
    refine ae (fun _=> ?_) (fun hg=>False.elim (by omega));refine aN ?_
    refine ae (fun _=> ?_) (fun hg=>False.elim (by omega));refine aN ?_;refine ik hp ?_
    rw[sh]
    refine lU [0,2,8,9,13,105,106] (fun(k:Nat) (o_:Option Addr) (vn:Nat) (_:Option Addr) (_:Nat)=>[(0,.pointer (some ⟨bx,0,none⟩)),(2,.int .i64 ((pre.length+(cI.bin o x y').dh.length:Nat):Int)),(8,.pointer (some ⟨b8,0,none⟩)),(9,.slice ra RA.length rc),(13,.slice o_ (bC a6.or s2 (RA.getD (Int.toNat 0) default).ins (RA.getD (Int.toNat 1) default).ins k).2.length vn),(105,.int .i64 (wd:Int)),(106,.int .i64 (k:Int))])
     (fun k o_ vn aa ac w'=>k<=wd/\Hp w0 w' (rB bx 88 [.pointer (some ⟨p,0,none⟩),.slice sa R.length sc,.int .i64 (wd:Int),.bool (bC a6.or s2 (RA.getD (Int.toNat 0) default).ins (RA.getD (Int.toNat 1) default).ins k).1.2]::rB p 33 (y.wA aa ac (bC a6.or s2 (RA.getD (Int.toNat 0) default).ins (RA.getD (Int.toNat 1) default).ins k).1.1.af).cs::rO 120 2 gh aa ac (bC a6.or s2 (RA.getD (Int.toNat 0) default).ins (RA.getD (Int.toNat 1) default).ins k).1.1.af::rO 3 1 eI o_ vn (bC a6.or s2 (RA.getD (Int.toNat 0) default).ins (RA.getD (Int.toNat 1) default).ins k).2::rO 31 1 jk ra rc RA::cC 3 1 eI RA::rB b8 132 [.int .i64 ((m7 (cI.bin o x y'))).kind,.int .i64 ((m7 (cI.bin o x y'))).a,.int .i64 ((m7 (cI.bin o x y'))).b]::L)) (fun k _ _ _ _=>wd-k) 0 none 0 aa ac rfl ⟨by omega,Hp.Hg (hp.eH (Ext.refl _) (dk.nil _ _ _ _ _))⟩ ?_
    clear hp
    rintro k o_ vn aa ac w1 ⟨hk,hp⟩ IH C
    have g:=fH cF (s:=s2) (f:=a6.or) (fun _ _ _ _ h1 h2 h3=>cF.or h1 h2 h3) e1 Cg sb k
    have uU:=dG a6.or s2 (RA.getD (Int.toNat 0) default).ins (RA.getD (Int.toNat 1) default).ins k
    obtain⟨r,hr⟩:∃r,r=bC a6.or s2 (RA.getD (Int.toNat 0) default).ins (RA.getD (Int.toNat 1) default).ins k:=⟨_,rfl⟩
    rw[<-hr] at g hp uU⊢
    have Ch:=g.dX.look rn
    have mg:aj r.1.1:=g.i
    refine bL ?_
    apply ae<;>intro bD
    ·have Cz:k<wd:=by omega
     have va:aD ((RA.getD (Int.toNat 0) default).ins.getD k default) (ag r.1.1):=(Cg _ (aK (by omega))).mono g.dX.1.1
     have vb:aD ((RA.getD (Int.toNat 1) default).ins.getD k default) (ag r.1.1):=(sb _ (aK (by omega))).mono g.dX.1.1
     have eK:bC a6.or s2 (RA.getD (Int.toNat 0) default).ins (RA.getD (Int.toNat 1) default).ins (k+1)=((a6.or r.1 ((RA.getD (Int.toNat 0) default).ins.getD k default) ((RA.getD (Int.toNat 1) default).ins.getD k default)).1,r.2++[(a6.or r.1 ((RA.getD (Int.toNat 0) default).ins.getD k default) ((RA.getD (Int.toNat 1) default).ins.getD k default)).2]):=by rw[bC,<-hr]
     refine aN ?_;refine aH hp ?_
     refine ae (fun hg=>False.elim (by omega)) (fun _=> ?_);refine aM ?_
     refine ae (fun _=> ?_) (fun hg=>False.elim (by omega));refine aN ?_
     refine j8 hp ?_;intro w hx hp;have hs:=hp;(repeat(refine ah ?_;first|refine fo ?_|refine jr rfl (by omega) (by omega) rfl rfl rfl ?_))
     refine gq ?_
     refine oW Tryz.func99 (FJ y r.1 Ch mg ((RA.getD (Int.toNat 0) default).ins.getD k default) ((RA.getD (Int.toNat 1) default).ins.getD k default) va vb bx p wd _ aa ac hp) ?_;rintro _ w ⟨a1,c1,rfl,hp⟩;refine⟨fun hq=>Bool.noConfusion (hq.symm.trans (by kernel_rfl:bH _ _=false)),?_⟩;refine fW ?_
     refine Cf (by kernel_rfl) hp (a6.or r.1 ((RA.getD (Int.toNat 0) default).ins.getD k default) ((RA.getD (Int.toNat 1) default).ins.getD k default)).2 rfl rfl rfl rfl rfl rfl rfl ?_
     intro w bl hx hp
     refine fW ?_
     refine gW (a:=o_) (c:=vn) (X:=r.2) (Y:=[(a6.or r.1 ((RA.getD (Int.toNat 0) default).ins.getD k default) ((RA.getD (Int.toNat 1) default).ins.getD k default)).2]) hp rfl rfl rfl rfl rfl rfl rfl (by decide) rfl (by rw[uU];show k+1<=_;omega) rfl rfl (by kernel_rfl) ?_
     intro o' pE w hp bZ
     refine fW ?_
     skip
     refine IH (k+1) o' pE a1 c1 _ _ _ (by omega) (by rw[eK];rfl) ⟨by omega,?_⟩
     rw[eK]
     exact hp.drop
    ·refine aM ?_;refine aq ?_
     obtain rfl:k=wd:=by omega
     rw[hr,<-e5] at hp
     have hp:=(hp.f2.f2.f2.f3.f6.f6.f6).drop.drop.drop
     exact⟨o_,vn,aa,ac,by rw[hr,<-e5],hp⟩
   ·have e5:dB a6 (aJ R) wd (cI.bin o x y') s=bC a6.xor s2 (RA.getD (Int.toNat 0) default).ins (RA.getD (Int.toNat 1) default).ins wd:=by
     rw[hZ];unfold gO
     rw[if_neg (by omega),if_neg (by omega),if_neg (by omega),if_neg (by omega),if_neg (by omega),if_neg (by omega),sh]
    have Ip:(m7 (cI.bin o x y')).kind=7:=qe
    refine ae (fun hg=>False.elim (by omega)) (fun _=> ?_);refine aM ?_
    refine ae (fun hg=>False.elim (by omega)) (fun _=> ?_);refine aM ?_
    refine ae (fun hg=>False.elim (by omega)) (fun _=> ?_);refine aM ?_
    refine ae (fun _=> ?_) (fun hg=>False.elim (by omega));refine aN ?_;refine ik hp ?_
    rw[sh]
    refine lU [0,2,8,9,13,105,106] (fun(k:Nat) (o_:Option Addr) (vn:Nat) (_:Option Addr) (_:Nat)=>[(0,.pointer (some ⟨bx,0,none⟩)),(2,.int .i64 ((pre.length+(cI.bin o x y').dh.length:Nat):Int)),(8,.pointer (some ⟨b8,0,none⟩)),(9,.slice ra RA.length rc),(13,.slice o_ (bC a6.xor s2 (RA.getD (Int.toNat 0) default).ins (RA.getD (Int.toNat 1) default).ins k).2.length vn),(105,.int .i64 (wd:Int)),(106,.int .i64 (k:Int))])
     (fun k o_ vn aa ac w'=>k<=wd/\Hp w0 w' (rB bx 88 [.pointer (some ⟨p,0,none⟩),.slice sa R.length sc,.int .i64 (wd:Int),.bool (bC a6.xor s2 (RA.getD (Int.toNat 0) default).ins (RA.getD (Int.toNat 1) default).ins k).1.2]::rB p 33 (y.wA aa ac (bC a6.xor s2 (RA.getD (Int.toNat 0) default).ins (RA.getD (Int.toNat 1) default).ins k).1.1.af).cs::rO 120 2 gh aa ac (bC a6.xor s2 (RA.getD (Int.toNat 0) default).ins (RA.getD (Int.toNat 1) default).ins k).1.1.af::rO 3 1 eI o_ vn (bC a6.xor s2 (RA.getD (Int.toNat 0) default).ins (RA.getD (Int.toNat 1) default).ins k).2::rO 31 1 jk ra rc RA::cC 3 1 eI RA::rB b8 132 [.int .i64 ((m7 (cI.bin o x y'))).kind,.int .i64 ((m7 (cI.bin o x y'))).a,.int .i64 ((m7 (cI.bin o x y'))).b]::L)) (fun k _ _ _ _=>wd-k) 0 none 0 aa ac rfl ⟨by omega,Hp.Hg (hp.eH (Ext.refl _) (dk.nil _ _ _ _ _))⟩ ?_
    clear hp
    rintro k o_ vn aa ac w1 ⟨hk,hp⟩ IH C
    have g:=fH cF (s:=s2) (f:=a6.xor) (fun _ _ _ _ h1 h2 h3=>cF.xor h1 h2 h3) e1 Cg sb k
    have uU:=dG a6.xor s2 (RA.getD (Int.toNat 0) default).ins (RA.getD (Int.toNat 1) default).ins k
    obtain⟨r,hr⟩:∃r,r=bC a6.xor s2 (RA.getD (Int.toNat 0) default).ins (RA.getD (Int.toNat 1) default).ins k:=⟨_,rfl⟩
    rw[<-hr] at g hp uU⊢
    have Ch:=g.dX.look rn
    have mg:aj r.1.1:=g.i
    refine bL ?_
    apply ae<;>intro bD
    ·have Cz:k<wd:=by omega
     have va:aD ((RA.getD (Int.toNat 0) default).ins.getD k default) (ag r.1.1):=(Cg _ (aK (by omega))).mono g.dX.1.1
     have vb:aD ((RA.getD (Int.toNat 1) default).ins.getD k default) (ag r.1.1):=(sb _ (aK (by omega))).mono g.dX.1.1
     have eK:bC a6.xor s2 (RA.getD (Int.toNat 0) default).ins (RA.getD (Int.toNat 1) default).ins (k+1)=((a6.xor r.1 ((RA.getD (Int.toNat 0) default).ins.getD k default) ((RA.getD (Int.toNat 1) default).ins.getD k default)).1,r.2++[(a6.xor r.1 ((RA.getD (Int.toNat 0) default).ins.getD k default) ((RA.getD (Int.toNat 1) default).ins.getD k default)).2]):=by rw[bC,<-hr]
     refine aN ?_;refine aH hp ?_
     refine ae (fun hg=>False.elim (by omega)) (fun _=> ?_);refine aM ?_
     refine ae (fun hg=>False.elim (by omega)) (fun _=> ?_);refine aM ?_
     refine j8 hp ?_;intro w hx hp;have hs:=hp;(repeat(refine ah ?_;first|refine fo ?_|refine jr rfl (by omega) (by omega) rfl rfl rfl ?_))
     refine gq ?_
     refine oW Tryz.func100 (ur y r.1 Ch mg ((RA.getD (Int.toNat 0) default).ins.getD k default) ((RA.getD (Int.toNat 1) default).ins.getD k default) va vb bx p wd _ aa ac hp) ?_;rintro _ w ⟨a1,c1,rfl,hp⟩;refine⟨fun hq=>Bool.noConfusion (hq.symm.trans (by kernel_rfl:bH _ _=false)),?_⟩;refine fW ?_
     refine Cf (by kernel_rfl) hp (a6.xor r.1 ((RA.getD (Int.toNat 0) default).ins.getD k default) ((RA.getD (Int.toNat 1) default).ins.getD k default)).2 rfl rfl rfl rfl rfl rfl rfl ?_
     intro w bl hx hp
     refine fW ?_
     refine gW (a:=o_) (c:=vn) (X:=r.2) (Y:=[(a6.xor r.1 ((RA.getD (Int.toNat 0) default).ins.getD k default) ((RA.getD (Int.toNat 1) default).ins.getD k default)).2]) hp rfl rfl rfl rfl rfl rfl rfl (by decide) rfl (by rw[uU];show k+1<=_;omega) rfl rfl (by kernel_rfl) ?_
     intro o' pE w hp bZ
     refine fW ?_
     skip
     refine IH (k+1) o' pE a1 c1 _ _ _ (by omega) (by rw[eK];rfl) ⟨by omega,?_⟩
     rw[eK]
     exact hp.drop
    ·refine aM ?_;refine aq ?_
     obtain rfl:k=wd:=by omega
     rw[hr,<-e5] at hp
     have hp:=(hp.f2.f2.f2.f3.f6.f6.f6).drop.drop.drop
     exact⟨o_,vn,aa,ac,by rw[hr,<-e5],hp⟩
   ·have Ip:(m7 (cI.bin o x y')).kind=8:=qe
    have e8:dB a6 (aJ R) wd (cI.bin o x y') s=qC a6 s2 (RA.getD (Int.toNat 0) default).ins (RA.getD (Int.toNat 1) default).ins 0:=by rw[hZ];unfold gO;rw[if_pos qe]
    refine ae (fun hg=>False.elim (by omega)) (fun _=> ?_);refine aM ?_
    refine ae (fun hg=>False.elim (by omega)) (fun _=> ?_);refine aM ?_
    refine ae (fun hg=>False.elim (by omega)) (fun _=> ?_);refine aM ?_
    refine ae (fun hg=>False.elim (by omega)) (fun _=> ?_);refine aM ?_
    refine ae (fun _=> ?_) (fun hg=>False.elim (by omega));refine aN ?_
    refine j8 hp ?_;intro w hx hp;have hs:=hp;(repeat(refine jr rfl (by omega) (by omega) rfl rfl rfl ?_))
    refine gq ?_
    rw[sh,EC]
    refine oW Tryz.func101 (OP y s2 rn e1 _ _ _ _ wd hw (RA.getD (Int.toNat 0) default).ins (RA.getD (Int.toNat 1) default).ins 0 sh EC Cg sb (mO e1).1 bx p _ aa ac hp) ?_;rintro _ w ⟨b,c,a1,c1,rfl,hp⟩;refine⟨fun hq=>Bool.noConfusion (hq.symm.trans (by kernel_rfl:bH _ _=false)),?_⟩;refine fW ?_;refine aq ?_
    skip
    rw[<-e8] at hp
    have hp:=(hp.f3.f3.f3.f3.f6.f6.f6).drop.drop.drop
    exact⟨b,c,a1,c1,by rw[iM],hp⟩
   ·have Ip:(m7 (cI.bin o x y')).kind=9:=qe
    have e9:dB a6 (aJ R) wd (cI.bin o x y') s=qC a6 s2 (RA.getD (Int.toNat 0) default).ins ((RA.getD (Int.toNat 1) default).ins.map cS) 1:=by rw[hZ];unfold gO;rw[if_neg (by omega),if_pos qe];rfl
    refine ae (fun hg=>False.elim (by omega)) (fun _=> ?_);refine aM ?_
    refine ae (fun hg=>False.elim (by omega)) (fun _=> ?_);refine aM ?_
    refine ae (fun hg=>False.elim (by omega)) (fun _=> ?_);refine aM ?_
    refine ae (fun hg=>False.elim (by omega)) (fun _=> ?_);refine aM ?_
    refine ae (fun hg=>False.elim (by omega)) (fun _=> ?_);refine aM ?_
    refine ae (fun _=> ?_) (fun hg=>False.elim (by omega));refine aN ?_
    refine j8 hp ?_;intro w hx hp;have hs:=hp;(repeat(refine jr rfl (by omega) (by omega) rfl rfl rfl ?_))
    refine gq ?_
    rw[sh,EC]
    refine oW Tryz.func97 (sj _ _ wd (RA.getD (Int.toNat 1) default).ins EC _ hp.rd (by omega) (fun i hi=>by have hz:aD ((RA.getD (Int.toNat 1) default).ins.getD i default) _:=sb _ (aK hi);unfold aD at hz;omega)) ?_;rintro _ w ⟨bn,cn,rfl,hq⟩;have hx:=hq.x;have hp:=hp.bJ hq;have hs:=hs.ext hx;refine⟨fun _=>hs,?_⟩;refine fW ?_
    have hp:=hp.f3.f3.f3
    refine oW Tryz.func101 (OP y s2 rn e1 _ _ _ _ wd hw (RA.getD (Int.toNat 0) default).ins ((RA.getD (Int.toNat 1) default).ins.map cS) 1 sh (by rw[List.length_map];exact EC) Cg (fun z hz=>by obtain⟨z',Oq,rfl⟩:=List.mem_map.1 hz;exact cN (sb z' Oq) (by omega)) (mO e1).2 bx p _ aa ac hp) ?_;rintro _ w ⟨b,c,a1,c1,rfl,hp⟩;refine⟨fun hq=>Bool.noConfusion (hq.symm.trans (by kernel_rfl:bH _ _=false)),?_⟩;refine fW ?_;refine aq ?_
    skip
    rw[<-e9] at hp
    have hp:=(hp.f3.f3.f3.f3.f7.f7.f7.f7).drop.drop.drop.drop
    exact⟨b,c,a1,c1,by rw[iM],hp⟩
   ·have Ip:(m7 (cI.bin o x y')).kind=10:=qe
    have ed:decide ((m7 (cI.bin o x y')).kind=10)=true:=decide_eq_true qe
    have eC:dB a6 (aJ R) wd (cI.bin o x y') s=((bV a6 true s2 (RA.getD (Int.toNat 0) default).ins (RA.getD (Int.toNat 1) default).ins wd).1,ln wd (bV a6 true s2 (RA.getD (Int.toNat 0) default).ins (RA.getD (Int.toNat 1) default).ins wd).2):=by rw[hZ];unfold gO;rw[if_neg (by omega),if_neg (by omega),if_pos qe,sh]
    refine ae (fun hg=>False.elim (by omega)) (fun _=> ?_);refine aM ?_
    refine ae (fun hg=>False.elim (by omega)) (fun _=> ?_);refine aM ?_
    refine ae (fun hg=>False.elim (by omega)) (fun _=> ?_);refine aM ?_
    refine ae (fun hg=>False.elim (by omega)) (fun _=> ?_);refine aM ?_
    refine ae (fun hg=>False.elim (by omega)) (fun _=> ?_);refine aM ?_
    refine ae (fun hg=>False.elim (by omega)) (fun _=> ?_);refine aM ?_
    refine ae (fun _=> ?_) (fun hg=>False.elim (by omega));refine aN ?_
    refine ae (fun _=> ?_) (fun hg=>False.elim (by omega));refine aN ?_
    refine j8 hp ?_;intro w hx hp;have hs:=hp;(repeat(refine ah ?_;first|refine dQ ?_|refine jr rfl (by omega) (by omega) rfl rfl rfl ?_))
    refine gq ?_
    rw[sh,EC]
    refine oW Tryz.func102 (AM y (m7 (cI.bin o x y')).kind s2 rn e1 _ _ _ _ wd hw (RA.getD (Int.toNat 0) default).ins (RA.getD (Int.toNat 1) default).ins sh EC Cg sb bx p _ aa ac hp) ?_;rintro _ w ⟨b,c,a1,c1,rfl,hp⟩;refine⟨fun hq=>Bool.noConfusion (hq.symm.trans (by kernel_rfl:bH _ _=false)),?_⟩;refine fW ?_;refine aq ?_
    skip
    rw[ed] at hp
    have hp:=(hp.f3.f3.f3.f3.f6.f6.f6).drop.drop.drop
    refine⟨b,c,a1,c1,by rw[iM],?_⟩
    rw[eC]
    exact hp
   ·have Ip:(m7 (cI.bin o x y')).kind=11:=qe
    have ed:decide ((m7 (cI.bin o x y')).kind=10)=false:=decide_eq_false (by omega)
    have eC:dB a6 (aJ R) wd (cI.bin o x y') s=((bV a6 false s2 (RA.getD (Int.toNat 0) default).ins (RA.getD (Int.toNat 1) default).ins wd).1,ln wd (bV a6 false s2 (RA.getD (Int.toNat 0) default).ins (RA.getD (Int.toNat 1) default).ins wd).2):=by rw[hZ];unfold gO;rw[if_neg (by omega),if_neg (by omega),if_neg (by omega),if_pos qe,sh]
    refine ae (fun hg=>False.elim (by omega)) (fun _=> ?_);refine aM ?_
    refine ae (fun hg=>False.elim (by omega)) (fun _=> ?_);refine aM ?_
    refine ae (fun hg=>False.elim (by omega)) (fun _=> ?_);refine aM ?_
    refine ae (fun hg=>False.elim (by omega)) (fun _=> ?_);refine aM ?_
    refine ae (fun hg=>False.elim (by omega)) (fun _=> ?_);refine aM ?_
    refine ae (fun hg=>False.elim (by omega)) (fun _=> ?_);refine aM ?_
    refine ae (fun hg=>False.elim (by omega)) (fun _=> ?_);refine aM ?_
    refine ae (fun _=> ?_) (fun hg=>False.elim (by omega));refine aN ?_
    refine j8 hp ?_;intro w hx hp;have hs:=hp;(repeat(refine ah ?_;first|refine dQ ?_|refine jr rfl (by omega) (by omega) rfl rfl rfl ?_))
    refine gq ?_
    rw[sh,EC]
    refine oW Tryz.func102 (AM y (m7 (cI.bin o x y')).kind s2 rn e1 _ _ _ _ wd hw (RA.getD (Int.toNat 0) default).ins (RA.getD (Int.toNat 1) default).ins sh EC Cg sb bx p _ aa ac hp) ?_;rintro _ w ⟨b,c,a1,c1,rfl,hp⟩;refine⟨fun hq=>Bool.noConfusion (hq.symm.trans (by kernel_rfl:bH _ _=false)),?_⟩;refine fW ?_;refine aq ?_
    skip
    rw[ed] at hp
    have hp:=(hp.f3.f3.f3.f3.f6.f6.f6).drop.drop.drop
    refine⟨b,c,a1,c1,by rw[iM],?_⟩
    rw[eC]
    exact hp
  |nS o x y' z=>
   have Cx:ts=[x,y',z]:=Cx
   subst Cx
   have hRA3:RA.length=3:=Nj
   have hk12:(m7 (cI.nS o x y' z)).kind=12:=by
    have h1:jx o.kind=3:=ht.1
    show o.kind=12
    unfold jx at h1
    repeat' split at h1
    all_goals omega
   have i0:FL (Int.toNat 0) RA:=⟨by show 0<RA.length;omega⟩
   have i1:FL (Int.toNat 1) RA:=⟨by show 1<RA.length;omega⟩
   have i2:FL (Int.toNat 2) RA:=⟨by show 2<RA.length;omega⟩
   obtain⟨s3,hs3⟩:∃s3,s3=(kC (aJ R) wd [x,y',z] s [x,y',z].length).1:=⟨_,rfl⟩
   rw[<-hs3] at hp e1 rn lN
   obtain⟨sh,Cg⟩:=lN 0 (by simp)
   have sh:(RA.getD (Int.toNat 0) default).ins.length=wd:=sh
   have Cg:∀z,z∈(RA.getD (Int.toNat 0) default).ins->aD z (ag s3.1):=Cg
   obtain⟨EC,sb⟩:=lN 1 (by simp)
   have EC:(RA.getD (Int.toNat 1) default).ins.length=wd:=EC
   have sb:∀z,z∈(RA.getD (Int.toNat 1) default).ins->aD z (ag s3.1):=sb
   obtain⟨h2l,Oz⟩:=lN 2 (by simp)
   have h2l:(RA.getD (Int.toNat 2) default).ins.length=wd:=h2l
   have Oz:∀z,z∈(RA.getD (Int.toNat 2) default).ins->aD z (ag s3.1):=Oz
   have Sk:(RA.getD (Int.toNat 0) default).ins=(dB a6 (aJ R) wd x s).2:=by
    show(RA.getD 0 default).ins=_
    rw[<-bk,Ni];rfl
   have Hh:(RA.getD (Int.toNat 1) default).ins=(dB a6 (aJ R) wd y' (dB a6 (aJ R) wd x s).1).2:=by
    show(RA.getD 1 default).ins=_
    rw[<-bk,Ni];rfl
   have KG:(RA.getD (Int.toNat 2) default).ins=(dB a6 (aJ R) wd z (dB a6 (aJ R) wd y' (dB a6 (aJ R) wd x s).1).1).2:=by
    show(RA.getD 2 default).ins=_
    rw[<-bk,Ni];rfl
   have hZ:dB a6 (aJ R) wd (cI.nS o x y' z) s=sO a6 s3 (RA.getD (Int.toNat 0) default).ins (RA.getD (Int.toNat 1) default).ins (RA.getD (Int.toNat 2) default).ins:=by rw[Sk,Hh,KG,hs3];rfl
   have e1:aj s3.1:=e1
   refine ae (fun hg=>False.elim (by omega)) (fun _=> ?_);refine aM ?_;refine aH hp ?_
   refine ae (fun hg=>False.elim (by omega)) (fun _=> ?_);refine aM ?_
   refine ae (fun hg=>False.elim (by omega)) (fun _=> ?_);refine aM ?_
   refine ae (fun hg=>False.elim (by omega)) (fun _=> ?_);refine aM ?_
   refine ae (fun hg=>False.elim (by omega)) (fun _=> ?_);refine aM ?_
   refine ae (fun hg=>False.elim (by omega)) (fun _=> ?_);refine aM ?_
   refine ae (fun hg=>False.elim (by omega)) (fun _=> ?_);refine aM ?_
   refine ae (fun hg=>False.elim (by omega)) (fun _=> ?_);refine aM ?_
   refine ae (fun hg=>False.elim (by omega)) (fun _=> ?_);refine aM ?_;refine ik hp ?_
   rw[sh]
   refine eg [0,2,9,13,15,55,56,57] (fun(k:Nat) (_:Option Addr) (_:Nat)=>[(0,.pointer (some ⟨bx,0,none⟩)),(2,.int .i64 ((pre.length+(cI.nS o x y' z).dh.length:Nat):Int)),(9,.slice ra RA.length rc),(13,.slice none 0 0),(15,.int .i64 (di a6 s3 (RA.getD (Int.toNat 0) default).ins k).2),(55,.slice (RA.getD (Int.toNat 0) default).ia wd (RA.getD (Int.toNat 0) default).ic),(56,.int .i64 (wd:Int)),(57,.int .i64 (k:Int))])
    (fun k aa ac w'=>k<=wd/\Hp w0 w' (rB bx 88 [.pointer (some ⟨p,0,none⟩),.slice sa R.length sc,.int .i64 (wd:Int),.bool (di a6 s3 (RA.getD (Int.toNat 0) default).ins k).1.2]::rB p 33 (y.wA aa ac (di a6 s3 (RA.getD (Int.toNat 0) default).ins k).1.1.af).cs::rO 120 2 gh aa ac (di a6 s3 (RA.getD (Int.toNat 0) default).ins k).1.1.af::rO 31 1 jk ra rc RA::cC 3 1 eI RA::rB b8 132 [.int .i64 (m7 (cI.nS o x y' z)).kind,.int .i64 (m7 (cI.nS o x y' z)).a,.int .i64 (m7 (cI.nS o x y' z)).b]::L)) (fun k _ _=>wd-k) 0 aa ac rfl ⟨by omega,hp⟩ ?_
   clear hp
   rintro k aa ac w1 ⟨hk,hp⟩ IH C
   obtain⟨gi,gv,gl⟩:=oA cF e1 Cg k
   obtain⟨r,hr⟩:∃r,r=di a6 s3 (RA.getD (Int.toNat 0) default).ins k:=⟨_,rfl⟩
   rw[<-hr] at gi gv gl hp⊢
   have gi:aj r.1.1:=gi
   have Ch:=gl.look rn
   refine bL ?_
   apply ae<;>intro bD
   ·have Cz:k<wd:=by omega
    have va:aD ((RA.getD (Int.toNat 0) default).ins.getD k default) (ag r.1.1):=(Cg _ (aK (by omega))).mono gl.1.1
    have eK:di a6 s3 (RA.getD (Int.toNat 0) default).ins (k+1)=a6.or r.1 r.2 ((RA.getD (Int.toNat 0) default).ins.getD k default):=by rw[di,<-hr]
    refine aN ?_;refine bb hp ?_
    refine cx Tryz.func99 (FJ y r.1 Ch gi r.2 ((RA.getD (Int.toNat 0) default).ins.getD k default) gv va bx p wd _ aa ac hp) ?_;rintro _ w ⟨a1,c1,rfl,hp⟩;refine az ?_
    refine IH (k+1) a1 c1 _ _ _ (by omega) (by rw[eK];rfl) ⟨by omega,?_⟩
    rw[eK]
    exact hp
   ·obtain rfl:k=wd:=by omega
    clear IH
    obtain⟨s4,hs4⟩:∃s4,s4=r.1:=⟨_,rfl⟩
    obtain⟨e,he⟩:∃e,e=r.2:=⟨_,rfl⟩
    rw[<-hs4] at gi gv gl Ch hp
    rw[<-he] at gv⊢
    have Wp:∀z,z∈(RA.getD (Int.toNat 1) default).ins->aD z (ag s4.1):=fun z hz=>(sb z hz).mono gl.1.1
    have Wq:∀z,z∈(RA.getD (Int.toNat 2) default).ins->aD z (ag s4.1):=fun z hz=>(Oz z hz).mono gl.1.1
    have eM:dB a6 (aJ R) k (cI.nS o x y' z) s=bC (fun s' u v=>a6.jj s' e u v) s4 (RA.getD (Int.toNat 1) default).ins (RA.getD (Int.toNat 2) default).ins k:=by rw[hZ];unfold sO;rw[sh,EC,<-hr,<-hs4,<-he]
    refine aM ?_;refine ik hp ?_
    rw[EC]
    refine lU [0,2,9,13,15,69,70] (fun(q:Nat) (o_:Option Addr) (vn:Nat) (_:Option Addr) (_:Nat)=>[(0,.pointer (some ⟨bx,0,none⟩)),(2,.int .i64 ((pre.length+(cI.nS o x y' z).dh.length:Nat):Int)),(9,.slice ra RA.length rc),(13,.slice o_ (bC (fun s' u v=>a6.jj s' e u v) s4 (RA.getD (Int.toNat 1) default).ins (RA.getD (Int.toNat 2) default).ins q).2.length vn),(15,.int .i64 e),(69,.int .i64 (k:Int)),(70,.int .i64 (q:Int))])
     (fun q o_ vn aa ac w'=>q<=k/\Hp w0 w' (rB bx 88 [.pointer (some ⟨p,0,none⟩),.slice sa R.length sc,.int .i64 (k:Int),.bool (bC (fun s' u v=>a6.jj s' e u v) s4 (RA.getD (Int.toNat 1) default).ins (RA.getD (Int.toNat 2) default).ins q).1.2]::rB p 33 (y.wA aa ac (bC (fun s' u v=>a6.jj s' e u v) s4 (RA.getD (Int.toNat 1) default).ins (RA.getD (Int.toNat 2) default).ins q).1.1.af).cs::rO 120 2 gh aa ac (bC (fun s' u v=>a6.jj s' e u v) s4 (RA.getD (Int.toNat 1) default).ins (RA.getD (Int.toNat 2) default).ins q).1.1.af::rO 3 1 eI o_ vn (bC (fun s' u v=>a6.jj s' e u v) s4 (RA.getD (Int.toNat 1) default).ins (RA.getD (Int.toNat 2) default).ins q).2::rO 31 1 jk ra rc RA::cC 3 1 eI RA::rB b8 132 [.int .i64 (m7 (cI.nS o x y' z)).kind,.int .i64 (m7 (cI.nS o x y' z)).a,.int .i64 (m7 (cI.nS o x y' z)).b]::L)) (fun q _ _ _ _=>k-q) 0 none 0 aa ac rfl ⟨by omega,Hp.Hg (hp.eH (Ext.refl _) (dk.nil _ _ _ _ _))⟩ ?_
    clear hp
    rintro q o_ vn aa ac w1 ⟨hq,hp⟩ IH C
    have g:=fH cF (s:=s4) (f:=(fun s' u v=>a6.jj s' e u v)) (fun s' u v hl h1 h2 h3=>cF.jj h1 (cF.mono hl gv) h2 h3) gi Wp Wq q
    have uU:=dG (fun s' u v=>a6.jj s' e u v) s4 (RA.getD (Int.toNat 1) default).ins (RA.getD (Int.toNat 2) default).ins q
    obtain⟨r2,Nk⟩:∃r2,r2=bC (fun s' u v=>a6.jj s' e u v) s4 (RA.getD (Int.toNat 1) default).ins (RA.getD (Int.toNat 2) default).ins q:=⟨_,rfl⟩
    rw[<-Nk] at g hp uU⊢
    have hlk3:=g.dX.look Ch
    have SX:aj r2.1.1:=g.i
    have ve:aD e (ag r2.1.1):=gv.mono g.dX.1.1
    refine bL ?_
    apply ae<;>intro jK
    ·have hqw:q<k:=by omega
     have va:aD ((RA.getD (Int.toNat 1) default).ins.getD q default) (ag r2.1.1):=(Wp _ (aK (by omega))).mono g.dX.1.1
     have vb:aD ((RA.getD (Int.toNat 2) default).ins.getD q default) (ag r2.1.1):=(Wq _ (aK (by omega))).mono g.dX.1.1
     have eK:bC (fun s' u v=>a6.jj s' e u v) s4 (RA.getD (Int.toNat 1) default).ins (RA.getD (Int.toNat 2) default).ins (q+1)=((a6.jj r2.1 e ((RA.getD (Int.toNat 1) default).ins.getD q default) ((RA.getD (Int.toNat 2) default).ins.getD q default)).1,r2.2++[(a6.jj r2.1 e ((RA.getD (Int.toNat 1) default).ins.getD q default) ((RA.getD (Int.toNat 2) default).ins.getD q default)).2]):=by rw[bC,<-Nk]
     refine aN ?_
     refine j8 hp ?_;intro w hx hp;have hs:=hp;(repeat(refine ah ?_;first|refine fo ?_|refine jr rfl (by omega) (by omega) rfl rfl rfl ?_))
     refine gq ?_
     refine oW Tryz.func103 (Ce y r2.1 hlk3 SX e ((RA.getD (Int.toNat 1) default).ins.getD q default) ((RA.getD (Int.toNat 2) default).ins.getD q default) ve va vb bx p k _ aa ac hp) ?_;rintro _ w ⟨a1,c1,rfl,hp⟩;refine⟨fun hq=>Bool.noConfusion (hq.symm.trans (by kernel_rfl:bH _ _=false)),?_⟩;refine fW ?_
     refine Cf (by kernel_rfl) hp (a6.jj r2.1 e ((RA.getD (Int.toNat 1) default).ins.getD q default) ((RA.getD (Int.toNat 2) default).ins.getD q default)).2 rfl rfl rfl rfl rfl rfl rfl ?_
     intro w bl hx hp
     refine fW ?_
     refine gW (a:=o_) (c:=vn) (X:=r2.2) (Y:=[(a6.jj r2.1 e ((RA.getD (Int.toNat 1) default).ins.getD q default) ((RA.getD (Int.toNat 2) default).ins.getD q default)).2]) hp rfl rfl rfl rfl rfl rfl rfl (by decide) rfl (by rw[uU];show q+1<=_;omega) rfl rfl (by kernel_rfl) ?_
     intro o' pE w hp bZ
     refine fW ?_
     skip
     refine IH (q+1) o' pE a1 c1 _ _ _ (by omega) (by rw[eK];rfl) ⟨by omega,?_⟩
     rw[eK]
     exact hp.drop
    ·refine aM ?_;refine aq ?_
     obtain rfl:q=k:=by omega
     rw[Nk,<-eM] at hp
     have hp:=(hp.f2.f2.f2.f3.f6.f6.f6).drop.drop.drop
     exact⟨o_,vn,aa,ac,by rw[Nk,<-eM],hp⟩
theorem s9 (w0:World)(R:List (cL Int))(sa:Option Addr)(sc:Nat)(bx p wd:Nat)(hw:1<=wd/\wd<=4)(y:bf)(ops:List dJ)(oa:Option Addr)(oc:Nat)(jL:ops.length<=15)(fF:R.length<=1000)(pU:∀i,i<R.length->(R.getD i default).ins.length<=1000):∀t:cI,KF w0 R sa sc bx p wd y ops oa oc t
 | .leaf o=>rJ w0 R sa sc bx p wd hw y ops oa oc jL fF pU (.leaf o) (fun x hx=>by cases hx)
 | .un o x=>rJ w0 R sa sc bx p wd hw y ops oa oc jL fF pU (.un o x) (fun u hu=>by
  have:u=x:=by simpa [ku] using hu
  rw[this];exact s9 w0 R sa sc bx p wd hw y ops oa oc jL fF pU x)
 | .bin o x y'=>rJ w0 R sa sc bx p wd hw y ops oa oc jL fF pU (.bin o x y') (fun u hu=>by
  have:u=x\/u=y':=by simpa [ku] using hu
  rcases this with h|h
  ·rw[h];exact s9 w0 R sa sc bx p wd hw y ops oa oc jL fF pU x
  ·rw[h];exact s9 w0 R sa sc bx p wd hw y ops oa oc jL fF pU y')
 | .nS o x y' z=>rJ w0 R sa sc bx p wd hw y ops oa oc jL fF pU (.nS o x y' z) (fun u hu=>by
  have:u=x\/u=y'\/u=z:=by simpa [ku] using hu
  rcases this with h|h|h
  ·rw[h];exact s9 w0 R sa sc bx p wd hw y ops oa oc jL fF pU x
  ·rw[h];exact s9 w0 R sa sc bx p wd hw y ops oa oc jL fF pU y'
  ·rw[h];exact s9 w0 R sa sc bx p wd hw y ops oa oc jL fF pU z)
end Go.Proofs
