/- The contract of the program's expr; under its stated conditions. -/
import Derived.Test.YtiepmliokblkjaaGreatBrf
import Derived.Test.YtiepmliokblkjaaGreatAdder3
set_option linter.all false
namespace Go.Xw
def kt:cI->List cI
 | .leaf _=>[]
 | .un _ x=>[x]
 | .bin _ x y=>[x,y]
 | .nS _ x y z=>[x,y,z]
def m7:cI->dK
 | .leaf o=>o
 | .un o _=>o
 | .bin o _ _=>o
 | .nS o _ _ _=>o
instance:Inhabited cI:=⟨.leaf default⟩
theorem Sm:∀t:cI,t.dh=m7 t::(kt t).flatMap cI.dh
 | .leaf o=>by simp[cI.dh,kt,m7]
 | .un o x=>by simp[cI.dh,kt,m7]
 | .bin o x y=>by simp[cI.dh,kt,m7]
 | .nS o x y z=>by simp[cI.dh,kt,m7]
theorem Ni {m:Int}:∀{t:cI},t.ok m->jx (m7 t).kind=((kt t).length:Nat)/\∀x,x∈kt t->x.ok m
 | .leaf o,h=>⟨h.1,fun x hx=>by cases hx⟩
 | .un o x,h=>⟨h.1,fun z hz=>by simp[kt] at hz;subst hz;exact h.2⟩
 | .bin o x y,h=>⟨h.1,fun z hz=>by simp[kt] at hz;rcases hz with rfl|rfl;exact h.2.1;exact h.2.2⟩
 | .nS o x y z,h=>⟨h.1,fun u hu=>by simp[kt] at hu;rcases hu with rfl|rfl|rfl;exact h.2.1;exact h.2.2.1;exact h.2.2.2⟩
def kz (sig:List (List Int))(w:Nat)(ts:List cI)(s:ao×Bool):Nat->(ao×Bool)×List (List Int)
 |0=>(s,[])
 |i+1=>((dD a6 sig w (ts.getD i default) (kz sig w ts s i).1).1,(kz sig w ts s i).2++[(dD a6 sig w (ts.getD i default) (kz sig w ts s i).1).2])
def m8 (ts:List cI)(i:Nat):Nat:=((ts.take i).flatMap cI.dh).length
theorem FL {ts:List cI}{i:Nat}(h:i<ts.length):m8 ts (i+1)=m8 ts i+(ts.getD i default).dh.length:=by
 unfold m8
 rw[dm h,List.flatMap_append,List.length_append];simp
theorem AR {sig:List (List Int)}{w:Nat}{ts:List cI}{s:ao×Bool}(aS:aj s.1)(hs:∀l,l∈sig->∀z,z∈l->aD z (ag s.1)):∀i,aj (kz sig w ts s i).1.1/\Rz s (kz sig w ts s i).1/\(kz sig w ts s i).2.length=i/\∀l,l∈(kz sig w ts s i).2->l.length=w/\∀z,z∈l->aD z (ag (kz sig w ts s i).1.1)
 |0=>⟨aS,cG.refl s,rfl,by simp[kz]⟩
 |i+1=>by
  obtain⟨h1,h2,h3,h4⟩:=AR (w:=w) (ts:=ts) aS hs i
  have g:=db cG (sig:=sig) w (ts.getD i default) h1 (fun l hl z hz=>(hs l hl z hz).mono h2.1.1)
  refine⟨g.i,cG.trans h2 g.dX,by rw[kz,List.length_append,h3];rfl,fun l hl=> ?_⟩
  rcases List.mem_append.1 hl with hl|hl
  ·exact⟨(h4 l hl).1,fun z hz=>((h4 l hl).2 z hz).mono g.dX.1.1⟩
  ·simp at hl
   subst hl
   exact⟨cv a6 sig w _ _,g.v⟩
theorem Ck {S:ak}{sz:Nat}{R:Value->World->Prop}{C:World->Prop}{w:World}{ops:Array Oper}{rest:List Oper}{k:List Item}{env:Env}{w0:World}{F:List bh}(iO:bH ops rest=false)(hp:Hp w0 w F)(z:Int){t e:TypeId}{i j:TI}{nn:Nat}{parts:List (Nat×Value)}{d:Nat}[hS:S.Ok](hi:tl S.tt t=some i)(hd:i.desc= .slice e)(hj:tl S.tt e=some j)(hz:(aL j.zero).length=j.size)(lQ:j.size=1)
  (hc:gV S.tt e nn parts=some (eI z)) (hn:nn=1)
  (hk:∀w' b,Ext w w'->Hp w0 w' (rO e 1 eI (some ⟨b,0,none⟩) 1 [z]::F)->ax S sz R C w' (.ops true ops rest k ((d,.slice (some ⟨b,0,none⟩) 1 1)::env))):
  ax S sz R C w (.act (.buildSlice t nn parts) ⟨true,ops,rest,some d,k,env⟩):=by
 subst hn
 have hr:=wG (P:=S.P) (w:=w) hS.tt hi hd hj hz (by omega) hc (by rw[lQ];decide)
 refine xC (v:= .slice (some ⟨w.heap.size,0,none⟩) 1 1) (w':=w.alloc (.cells ⟨eI z⟩ e)) rfl rfl (by simp only[Action.lO,Sem.run_bind,hr,Result.andThen_ok,Sem.run_pure]) ?_
 exact⟨fun hq=>Bool.noConfusion (hq.symm.trans iO),hk _ _ (Ext.alloc _ _) (hp.eH (Ext.alloc _ _) (dk.lit w e (eI z) [z] tB rfl (show 1<=maxLen by unfold maxLen;decide)))⟩
theorem Hp.Hh {w0 w:World}{A B C D:bh}{L:List bh}(h:Hp w0 w (A::B::C::D::L)):Hp w0 w (B::C::D::A::L):=h.b3
class FM (i:Nat)(R:List (cL Int)):Prop where
 h:i<R.length
instance gm.rowAt {w0:World}{L:List bh}{R:List (cL Int)}{i:Nat}[h:kp w0 L 1 eI R][k:FM i R]:gm w0 L (R.getD i default).ia 1 eI (R.getD i default).ins:=kp.at_ h k.h
end Go.Xw
namespace Go.Proofs
open Go.Xw
set_option maxRecDepth 100000
set_option maxHeartbeats 8000000
attribute [local irreducible] ax aE
def KG (w0:World)(R:List (cL Int))(sa:Option Addr)(sc:Nat)(bx p wd:Nat)(y:bf)(ops:List dK)(oa:Option Addr)(oc:Nat)(t:cI):Prop:=
 ∀(pre post:List dK),ops=pre++t.dh++post->t.ok R.length->∀(s:ao×Bool),s.1={y.n with af:=s.1.af}->aj s.1->(∀l,l∈aJ R->∀z,z∈l->aD z (ag s.1))->
  ∀(aa:Option Addr) (ac:Nat) (w1:World) (L:List bh),gm w0 L sa 1 jl R->kp w0 L 1 eI R->gm w0 L oa 3 kf ops->Hp w0 w1 (rB bx 88 [.pointer (some ⟨p,0,none⟩),.slice sa R.length sc,.int .i64 (wd:Int),.bool s.2]::rB p 33 (y.wA aa ac s.1.af).cs::rO 120 2 gh aa ac s.1.af::L)->
  bN Tryz.prog 40 [.pointer (some ⟨bx,0,none⟩),.slice oa ops.length oc,.int .i64 (pre.length:Int)] w1 (fun v w'=>∃b c kv kx,v= .tuple ⟨[.slice b (dD a6 (aJ R) wd t s).2.length c,.int .i64 ((pre.length+t.dh.length:Nat):Int)]⟩/\Hp w0 w' (rO 3 1 eI b c (dD a6 (aJ R) wd t s).2::rB bx 88 [.pointer (some ⟨p,0,none⟩),.slice sa R.length sc,.int .i64 (wd:Int),.bool (dD a6 (aJ R) wd t s).1.2]::rB p 33 (y.wA kv kx (dD a6 (aJ R) wd t s).1.1.af).cs::rO 120 2 gh kv kx (dD a6 (aJ R) wd t s).1.1.af::L))
theorem rL (w0:World)(R:List (cL Int))(sa:Option Addr)(sc:Nat)(bx p wd:Nat)(hw:1<=wd/\wd<=4)(y:bf)(ops:List dK)(oa:Option Addr)(oc:Nat)(jL:ops.length<=15)(fF:R.length<=1000)(pU:∀i,i<R.length->(R.getD i default).ins.length<=1000)(t:cI)(hk:∀x,x∈kt t->KG w0 R sa sc bx p wd y ops oa oc x):KG w0 R sa sc bx p wd y ops oa oc t:=by
 intro pre post fQ ht s hs aS ns aa ac w1 L hS hQ hO jP
 obtain⟨Ml,Wr⟩:=Ni ht
 have Sn:=Sm t
 have hlen:ops.length=pre.length+t.dh.length+post.length:=by rw[fQ];simp only[List.length_append]
 have oh:=cI.pos t
 have sY:t.dh.length=1+m8 (kt t) (kt t).length:=by rw[Sn];unfold m8;rw[List.take_length,List.length_cons];omega
 have ij:ops.getD pre.length default=m7 t:=by
  rw[fQ,Sn,List.append_assoc,List.getD_eq_getElem?_getD,List.getElem?_append_right (Nat.le_refl _),Nat.sub_self];rfl
 refine enter Tryz.U9 _ _ rfl rfl (by show _<=_;simp only[List.length];decide) (fun C=> ?_);have hp:=jP;refine bL ?_
 refine bb hp ?_
 refine bP hp ?_;intro w b8 hx hp;refine az ?_;refine aW hp ?_;intro w hp;refine az ?_
 rw[ij] at hp
 have hp:Hp w0 _ (rB b8 132 [.int .i64 (m7 t).kind,.int .i64 (m7 t).a,.int .i64 (m7 t).b]::rB bx 88 [.pointer (some ⟨p,0,none⟩),.slice sa R.length sc,.int .i64 (wd:Int),.bool s.2]::rB p 33 (y.wA aa ac s.1.af).cs::rO 120 2 gh aa ac s.1.af::L):=hp
 have hp:=hp.f3.f3.f3
 have u7:(kt t).length<=3:=by cases t<;>simp[kt]
 obtain⟨ts,CD⟩:∃ts,ts=kt t:=⟨_,rfl⟩
 rw[<-CD] at hk u7 Wr Ml sY
 refine kg [0,1,2,8,9,10] (fun(i:Nat) (RA:List (cL Int)) (ra:Option Addr) (rc:Nat) (_:Option Addr) (_:Nat)=>[(0,.pointer (some ⟨bx,0,none⟩)),(1,.slice oa ops.length oc),(2,.int .i64 ((pre.length+1+m8 ts i:Nat):Int)),(8,.pointer (some ⟨b8,0,none⟩)),(9,.slice ra RA.length rc),(10,.int .i64 (i:Int))])
  (fun i RA ra rc aa ac w'=>(i<=ts.length/\aJ RA=(kz (aJ R) wd ts s i).2)/\Hp w0 w' (rB bx 88 [.pointer (some ⟨p,0,none⟩),.slice sa R.length sc,.int .i64 (wd:Int),.bool (kz (aJ R) wd ts s i).1.2]::rB p 33 (y.wA aa ac (kz (aJ R) wd ts s i).1.1.af).cs::rO 120 2 gh aa ac (kz (aJ R) wd ts s i).1.1.af::rO 31 1 jl ra rc RA::cD 3 1 eI RA::rB b8 132 [.int .i64 (m7 t).kind,.int .i64 (m7 t).a,.int .i64 (m7 t).b]::L)) (fun i _ _ _ _ _=>ts.length-i) 0 [] none 0 aa ac rfl ⟨⟨by omega,rfl⟩,?_⟩ ?_
 ·have h1:Hp w0 _ (rO 31 1 (jl (α:=Int)) none 0 []::cD 3 1 eI ([]:List (cL Int))::rB bx 88 [.pointer (some ⟨p,0,none⟩),.slice sa R.length sc,.int .i64 (wd:Int),.bool s.2]::rB p 33 (y.wA aa ac s.1.af).cs::rO 120 2 gh aa ac s.1.af::rB b8 132 [.int .i64 (m7 t).kind,.int .i64 (m7 t).a,.int .i64 (m7 t).b]::L):=(rC hp).eH (Ext.refl _) (dk.nil _ _ _ _ _)
  exact h1.f1.f1.f4.f4.f4
 clear hp
 rintro i RA ra rc aa ac w1 ⟨⟨hi,Nj⟩,hp⟩ IH C
 obtain⟨e1,e2,e3,e4⟩:=AR (w:=wd) (ts:=ts) aS ns i
 have rq:=e2.look hs
 have Nk:RA.length=i:=by rw[<-fh,Nj,e3]
 have hsti:m8 ts i<=m8 ts ts.length:=by
  unfold m8
  exact List.Sublist.length_le (jN (by rw[List.take_length];exact List.take_sublist _ _))
 refine bL ?_;refine aI hp ?_
 refine bQ hp Tryz.func95 (nW (m7 t).kind _) ?_;intro w hx hp
 rw[Ml]
 apply ae<;>intro bD
 ·have mh:i<ts.length:=by omega
  have vj:ts.getD i default∈ts:=aK mh
  have Lj:=FL mh
  have hstn:m8 ts (i+1)<=m8 ts ts.length:=by
   unfold m8
   exact List.Sublist.length_le (jN (by rw[List.take_length];exact List.take_sublist _ _))
  have Ws:ops=(pre++m7 t::(ts.take i).flatMap cI.dh)++(ts.getD i default).dh++((ts.drop (i+1)).flatMap cI.dh++post):=by
   rw[fQ,Sn,<-CD]
   have hd:ts=ts.take i++ts.getD i default::ts.drop (i+1):=by
    rw[List.getD_eq_getElem?_getD,List.getElem?_eq_getElem mh]
    show ts=ts.take i++ts[i]::ts.drop (i+1)
    rw[<-List.drop_eq_getElem_cons mh,List.take_append_drop]
   conv=>lhs;rw[hd]
   simp
  have sE:(pre++m7 t::(ts.take i).flatMap cI.dh).length=pre.length+1+m8 ts i:=by unfold m8;simp;omega
  have jd:=hk _ vj _ _ Ws (Wr _ vj) (kz (aJ R) wd ts s i).1 rq e1 (fun l hl z hz=>(ns l hl z hz).mono e2.1.1) aa ac _ _ inferInstance inferInstance inferInstance hp
  rw[sE] at jd
  have eN:kz (aJ R) wd ts s (i+1)=((dD a6 (aJ R) wd (ts.getD i default) (kz (aJ R) wd ts s i).1).1,(kz (aJ R) wd ts s i).2++[(dD a6 (aJ R) wd (ts.getD i default) (kz (aJ R) wd ts s i).1).2]):=rfl
  have Xq:=cv a6 (aJ R) wd (ts.getD i default) (kz (aJ R) wd ts s i).1
  refine aN ?_
  refine cy Tryz.func40 (jd) ?_;rintro _ w ⟨b,c,kv,kx,rfl,hp⟩;refine az ?_
  have hN:aJ (RA++[(⟨(dD a6 (aJ R) wd (ts.getD i default) (kz (aJ R) wd ts s i).1).2,b,c⟩:cL Int)])=(kz (aJ R) wd ts s (i+1)).2:=by rw[eN,<-Nj];simp[aJ]
  refine lX hp (jl (α:=Int)) [(⟨(dD a6 (aJ R) wd (ts.getD i default) (kz (aJ R) wd ts s i).1).2,b,c⟩:cL Int)] ?_;intro w bl hx hp;refine az ?_
  refine gT hp ?_;intro ra' rc' w hp bZ;refine az ?_
  have hp:=(rD (y:=⟨(dD a6 (aJ R) wd (ts.getD i default) (kz (aJ R) wd ts s i).1).2,b,c⟩) ((hp.drop).f4.f4.f4.f4.f5.f5)).f4.f4.f4.f4
  refine IH (i+1) (RA++[(⟨(dD a6 (aJ R) wd (ts.getD i default) (kz (aJ R) wd ts s i).1).2,b,c⟩:cL Int)]) ra' rc' kv kx _ _ _ (by omega) (by rw[Lj,<-Nat.add_assoc];rfl) ⟨⟨by omega,hN⟩,hp⟩
 ·obtain rfl:i=ts.length:=by omega
  clear IH
  have hend:pre.length+1+m8 ts ts.length=pre.length+t.dh.length:=by omega
  rw[hend]
  refine aM ?_
  have iO:=cv a6 (aJ R) wd t s
  have lN:∀q,q<ts.length->(RA.getD q default).ins.length=wd/\∀z,z∈(RA.getD q default).ins->aD z (ag (kz (aJ R) wd ts s ts.length).1.1):=fun q hq=>by
   rw[<-bk,Nj]
   exact e4 _ (aK (by omega))
  cases t with
  |leaf o=>
   have CD:ts=[]:=CD
   subst CD
   have hRA0:RA.length=0:=Nk
   have qe:o.kind=0\/o.kind=2\/o.kind=3:=by
    have h1:=ht.1
    have h2:=ht.2.2
    have:0<=o.kind/\o.kind<=3:=Classical.byContradiction fun hh=>by
     unfold jx at h1;rw[if_neg hh] at h1
     split at h1
     ·omega
     split at h1
     ·omega
     split at h1<;>omega
    omega
   refine ae (fun _=> ?_) (fun hg=>False.elim (by omega));refine aN ?_;refine aI hp ?_
   refine cy Tryz.func96 (Sj R sa sc fF o ht.2.1 qe pU bx p wd hw s.2 hp) ?_;rintro _ w ⟨b,c,rfl,hp⟩;refine az ?_;refine aq ?_
   have hp:=(hp.f3.f3.f3.f3.f6.f6.f6).drop.drop.drop
   exact⟨b,c,aa,ac,by rw[iO],hp⟩
  |un o x=>
   have CD:ts=[x]:=CD
   subst CD
   have hRA1:RA.length=1:=Nk
   have Ip:o.kind=4:=by
    have h1:jx o.kind=1:=ht.1
    unfold jx at h1
    repeat' split at h1
    all_goals omega
   have:FM (Int.toNat 0) RA:=⟨by show 0<RA.length;omega⟩
   obtain⟨sj,Cl⟩:=lN 0 (by simp)
   have sj:(RA.getD (Int.toNat 0) default).ins.length=wd:=sj
   have So:(RA.getD (Int.toNat 0) default).ins=(dD a6 (aJ R) wd x s).2:=by
    show(RA.getD 0 default).ins=_
    rw[<-bk,Nj];rfl
   have xM:=aj.count e1
   have Ip:(m7 (cI.un o x)).kind=4:=Ip
   refine ae (fun hg=>False.elim (by omega)) (fun _=> ?_);refine aM ?_;refine aI hp ?_
   refine ae (fun _=> ?_) (fun hg=>False.elim (by omega));refine aN ?_;refine ik hp ?_
   refine cy Tryz.func97 (sm _ _ _ (RA.getD (Int.toNat 0) default).ins rfl _ hp.rd (by omega) (fun i hi=>by have hz:aD ((RA.getD (Int.toNat 0) default).ins.getD i default) _:=Cl _ (aK hi);unfold aD at hz;omega)) ?_;rintro _ w ⟨b,c,rfl,hq⟩;have hx:=hq.x;have hp:=hp.bJ hq;refine az ?_;refine aq ?_
   have hp:=(hp.f3.f3.f3.f3.f6.f6.f6).drop.drop.drop
   rw[So] at hp
   exact⟨b,c,aa,ac,by rw[iO,sj],hp⟩
  |bin o x y'=>
   have CD:ts=[x,y']:=CD
   subst CD
   have hRA2:RA.length=2:=Nk
   have hk5:5<=o.kind/\o.kind<=11:=by
    have h1:jx o.kind=2:=ht.1
    unfold jx at h1
    repeat' split at h1
    all_goals omega
   have i0:FM (Int.toNat 0) RA:=⟨by show 0<RA.length;omega⟩
   have i1:FM (Int.toNat 1) RA:=⟨by show 1<RA.length;omega⟩
   obtain⟨s2,u5⟩:∃s2,s2=(kz (aJ R) wd [x,y'] s [x,y'].length).1:=⟨_,rfl⟩
   rw[<-u5] at hp e1 rq lN
   obtain⟨sj,Cl⟩:=lN 0 (by simp)
   obtain⟨EE,sf⟩:=lN 1 (by simp)
   have sj:(RA.getD (Int.toNat 0) default).ins.length=wd:=sj
   have EE:(RA.getD (Int.toNat 1) default).ins.length=wd:=EE
   have Cl:∀z,z∈(RA.getD (Int.toNat 0) default).ins->aD z (ag s2.1):=Cl
   have sf:∀z,z∈(RA.getD (Int.toNat 1) default).ins->aD z (ag s2.1):=sf
   have So:(RA.getD (Int.toNat 0) default).ins=(dD a6 (aJ R) wd x s).2:=by
    show(RA.getD 0 default).ins=_
    rw[<-bk,Nj];rfl
   have Hi:(RA.getD (Int.toNat 1) default).ins=(dD a6 (aJ R) wd y' (dD a6 (aJ R) wd x s).1).2:=by
    show(RA.getD 1 default).ins=_
    rw[<-bk,Nj];rfl
   have hZ:dD a6 (aJ R) wd (cI.bin o x y') s=gO a6 wd o.kind s2 (RA.getD (Int.toNat 0) default).ins (RA.getD (Int.toNat 1) default).ins:=by rw[So,Hi,u5];rfl
   have xM:=aj.count e1
   have e1:aj s2.1:=e1
   refine ae (fun hg=>False.elim (by omega)) (fun _=> ?_);refine aM ?_;refine aI hp ?_
   have hkc:o.kind=5\/o.kind=6\/o.kind=7\/o.kind=8\/o.kind=9\/o.kind=10\/o.kind=11:=by omega
   rcases hkc with qe|qe|qe|qe|qe|qe|qe
   ·have e5:dD a6 (aJ R) wd (cI.bin o x y') s=bC a6.and s2 (RA.getD (Int.toNat 0) default).ins (RA.getD (Int.toNat 1) default).ins wd:=by
     rw[hZ];unfold gO
     rw[if_neg (by omega),if_neg (by omega),if_neg (by omega),if_neg (by omega),if_pos qe,sj]
    have Iq:(m7 (cI.bin o x y')).kind=5:=qe
    refine ae (fun hg=>False.elim (by omega)) (fun _=> ?_);refine aM ?_
    refine ae (fun _=> ?_) (fun hg=>False.elim (by omega));refine aN ?_
    refine ae (fun _=> ?_) (fun hg=>False.elim (by omega));refine aN ?_;refine ik hp ?_
    rw[sj]
    refine lU [0,2,8,9,13,105,106] (fun(k:Nat) (o_:Option Addr) (vo:Nat) (_:Option Addr) (_:Nat)=>[(0,.pointer (some ⟨bx,0,none⟩)),(2,.int .i64 ((pre.length+(cI.bin o x y').dh.length:Nat):Int)),(8,.pointer (some ⟨b8,0,none⟩)),(9,.slice ra RA.length rc),(13,.slice o_ (bC a6.and s2 (RA.getD (Int.toNat 0) default).ins (RA.getD (Int.toNat 1) default).ins k).2.length vo),(105,.int .i64 (wd:Int)),(106,.int .i64 (k:Int))])
     (fun k o_ vo aa ac w'=>k<=wd/\Hp w0 w' (rB bx 88 [.pointer (some ⟨p,0,none⟩),.slice sa R.length sc,.int .i64 (wd:Int),.bool (bC a6.and s2 (RA.getD (Int.toNat 0) default).ins (RA.getD (Int.toNat 1) default).ins k).1.2]::rB p 33 (y.wA aa ac (bC a6.and s2 (RA.getD (Int.toNat 0) default).ins (RA.getD (Int.toNat 1) default).ins k).1.1.af).cs::rO 120 2 gh aa ac (bC a6.and s2 (RA.getD (Int.toNat 0) default).ins (RA.getD (Int.toNat 1) default).ins k).1.1.af::rO 3 1 eI o_ vo (bC a6.and s2 (RA.getD (Int.toNat 0) default).ins (RA.getD (Int.toNat 1) default).ins k).2::rO 31 1 jl ra rc RA::cD 3 1 eI RA::rB b8 132 [.int .i64 ((m7 (cI.bin o x y'))).kind,.int .i64 ((m7 (cI.bin o x y'))).a,.int .i64 ((m7 (cI.bin o x y'))).b]::L)) (fun k _ _ _ _=>wd-k) 0 none 0 aa ac rfl ⟨by omega,Hp.Hh (hp.eH (Ext.refl _) (dk.nil _ _ _ _ _))⟩ ?_
    clear hp
    rintro k o_ vo aa ac w1 ⟨hk,hp⟩ IH C
    have g:=fH cG (s:=s2) (f:=a6.and) (fun _ _ _ _ h1 h2 h3=>cG.and h1 h2 h3) e1 Cl sf k
    have uV:=dH a6.and s2 (RA.getD (Int.toNat 0) default).ins (RA.getD (Int.toNat 1) default).ins k
    obtain⟨r,hr⟩:∃r,r=bC a6.and s2 (RA.getD (Int.toNat 0) default).ins (RA.getD (Int.toNat 1) default).ins k:=⟨_,rfl⟩
    rw[<-hr] at g hp uV⊢
    have Cm:=g.dX.look rq
    have mh:aj r.1.1:=g.i
    refine bL ?_
    apply ae<;>intro bD
    ·have CF:k<wd:=by omega
     have va:aD ((RA.getD (Int.toNat 0) default).ins.getD k default) (ag r.1.1):=(Cl _ (aK (by omega))).mono g.dX.1.1
     have vb:aD ((RA.getD (Int.toNat 1) default).ins.getD k default) (ag r.1.1):=(sf _ (aK (by omega))).mono g.dX.1.1
     have eK:bC a6.and s2 (RA.getD (Int.toNat 0) default).ins (RA.getD (Int.toNat 1) default).ins (k+1)=((a6.and r.1 ((RA.getD (Int.toNat 0) default).ins.getD k default) ((RA.getD (Int.toNat 1) default).ins.getD k default)).1,r.2++[(a6.and r.1 ((RA.getD (Int.toNat 0) default).ins.getD k default) ((RA.getD (Int.toNat 1) default).ins.getD k default)).2]):=by rw[bC,<-hr]
     refine aN ?_;refine aI hp ?_
     refine ae (fun _=> ?_) (fun hg=>False.elim (by omega));refine aN ?_
     refine j7 hp ?_;intro w hx hp;have hs:=hp;(repeat(refine ah ?_;first|refine fc ?_|refine jb rfl (by omega) (by omega) rfl rfl rfl ?_))
     refine gq ?_
     refine oW Tryz.func98 (uo y r.1 Cm mh ((RA.getD (Int.toNat 0) default).ins.getD k default) ((RA.getD (Int.toNat 1) default).ins.getD k default) va vb bx p wd _ aa ac hp) ?_;rintro _ w ⟨a1,c1,rfl,hp⟩;refine⟨fun hq=>Bool.noConfusion (hq.symm.trans (by kernel_rfl:bH _ _=false)),?_⟩;refine fO ?_
     refine Ck (by kernel_rfl) hp (a6.and r.1 ((RA.getD (Int.toNat 0) default).ins.getD k default) ((RA.getD (Int.toNat 1) default).ins.getD k default)).2 rfl rfl rfl rfl rfl rfl rfl ?_
     intro w bl hx hp
     refine fO ?_
     refine gW (a:=o_) (c:=vo) (X:=r.2) (Y:=[(a6.and r.1 ((RA.getD (Int.toNat 0) default).ins.getD k default) ((RA.getD (Int.toNat 1) default).ins.getD k default)).2]) hp rfl rfl rfl rfl rfl rfl rfl (by decide) rfl (by rw[uV];show k+1<=_;omega) rfl rfl (by kernel_rfl) ?_
     intro o' pD w hp bZ
     refine fO ?_
     skip
     refine IH (k+1) o' pD a1 c1 _ _ _ (by omega) (by rw[eK];rfl) ⟨by omega,?_⟩
     rw[eK]
     exact hp.drop
    ·refine aM ?_;refine aq ?_
     obtain rfl:k=wd:=by omega
     rw[hr,<-e5] at hp
     have hp:=(hp.f2.f2.f2.f3.f6.f6.f6).drop.drop.drop
     exact⟨o_,vo,aa,ac,by rw[hr,<-e5],hp⟩
   ·have e5:dD a6 (aJ R) wd (cI.bin o x y') s=bC a6.or s2 (RA.getD (Int.toNat 0) default).ins (RA.getD (Int.toNat 1) default).ins wd:=by
     rw[hZ];unfold gO
     rw[if_neg (by omega),if_neg (by omega),if_neg (by omega),if_neg (by omega),if_neg (by omega),if_pos qe,sj]
    have Iq:(m7 (cI.bin o x y')).kind=6:=qe
    refine ae (fun hg=>False.elim (by omega)) (fun _=> ?_);refine aM ?_
    refine ae (fun hg=>False.elim (by omega)) (fun _=> ?_);refine aM ?_
    refine ae (fun _=> ?_) (fun hg=>False.elim (by omega));refine aN ?_
    refine ae (fun _=> ?_) (fun hg=>False.elim (by omega));refine aN ?_;refine ik hp ?_
    rw[sj]
    refine lU [0,2,8,9,13,105,106] (fun(k:Nat) (o_:Option Addr) (vo:Nat) (_:Option Addr) (_:Nat)=>[(0,.pointer (some ⟨bx,0,none⟩)),(2,.int .i64 ((pre.length+(cI.bin o x y').dh.length:Nat):Int)),(8,.pointer (some ⟨b8,0,none⟩)),(9,.slice ra RA.length rc),(13,.slice o_ (bC a6.or s2 (RA.getD (Int.toNat 0) default).ins (RA.getD (Int.toNat 1) default).ins k).2.length vo),(105,.int .i64 (wd:Int)),(106,.int .i64 (k:Int))])
     (fun k o_ vo aa ac w'=>k<=wd/\Hp w0 w' (rB bx 88 [.pointer (some ⟨p,0,none⟩),.slice sa R.length sc,.int .i64 (wd:Int),.bool (bC a6.or s2 (RA.getD (Int.toNat 0) default).ins (RA.getD (Int.toNat 1) default).ins k).1.2]::rB p 33 (y.wA aa ac (bC a6.or s2 (RA.getD (Int.toNat 0) default).ins (RA.getD (Int.toNat 1) default).ins k).1.1.af).cs::rO 120 2 gh aa ac (bC a6.or s2 (RA.getD (Int.toNat 0) default).ins (RA.getD (Int.toNat 1) default).ins k).1.1.af::rO 3 1 eI o_ vo (bC a6.or s2 (RA.getD (Int.toNat 0) default).ins (RA.getD (Int.toNat 1) default).ins k).2::rO 31 1 jl ra rc RA::cD 3 1 eI RA::rB b8 132 [.int .i64 ((m7 (cI.bin o x y'))).kind,.int .i64 ((m7 (cI.bin o x y'))).a,.int .i64 ((m7 (cI.bin o x y'))).b]::L)) (fun k _ _ _ _=>wd-k) 0 none 0 aa ac rfl ⟨by omega,Hp.Hh (hp.eH (Ext.refl _) (dk.nil _ _ _ _ _))⟩ ?_
    clear hp
    rintro k o_ vo aa ac w1 ⟨hk,hp⟩ IH C
    have g:=fH cG (s:=s2) (f:=a6.or) (fun _ _ _ _ h1 h2 h3=>cG.or h1 h2 h3) e1 Cl sf k
    have uV:=dH a6.or s2 (RA.getD (Int.toNat 0) default).ins (RA.getD (Int.toNat 1) default).ins k
    obtain⟨r,hr⟩:∃r,r=bC a6.or s2 (RA.getD (Int.toNat 0) default).ins (RA.getD (Int.toNat 1) default).ins k:=⟨_,rfl⟩
    rw[<-hr] at g hp uV⊢
    have Cm:=g.dX.look rq
    have mh:aj r.1.1:=g.i
    refine bL ?_
    apply ae<;>intro bD
    ·have CF:k<wd:=by omega
     have va:aD ((RA.getD (Int.toNat 0) default).ins.getD k default) (ag r.1.1):=(Cl _ (aK (by omega))).mono g.dX.1.1
     have vb:aD ((RA.getD (Int.toNat 1) default).ins.getD k default) (ag r.1.1):=(sf _ (aK (by omega))).mono g.dX.1.1
     have eK:bC a6.or s2 (RA.getD (Int.toNat 0) default).ins (RA.getD (Int.toNat 1) default).ins (k+1)=((a6.or r.1 ((RA.getD (Int.toNat 0) default).ins.getD k default) ((RA.getD (Int.toNat 1) default).ins.getD k default)).1,r.2++[(a6.or r.1 ((RA.getD (Int.toNat 0) default).ins.getD k default) ((RA.getD (Int.toNat 1) default).ins.getD k default)).2]):=by rw[bC,<-hr]
     refine aN ?_;refine aI hp ?_
     refine ae (fun hg=>False.elim (by omega)) (fun _=> ?_);refine aM ?_
     refine ae (fun _=> ?_) (fun hg=>False.elim (by omega));refine aN ?_
     refine j7 hp ?_;intro w hx hp;have hs:=hp;(repeat(refine ah ?_;first|refine fc ?_|refine jb rfl (by omega) (by omega) rfl rfl rfl ?_))
     refine gq ?_
     refine oW Tryz.func99 (FK y r.1 Cm mh ((RA.getD (Int.toNat 0) default).ins.getD k default) ((RA.getD (Int.toNat 1) default).ins.getD k default) va vb bx p wd _ aa ac hp) ?_;rintro _ w ⟨a1,c1,rfl,hp⟩;refine⟨fun hq=>Bool.noConfusion (hq.symm.trans (by kernel_rfl:bH _ _=false)),?_⟩;refine fO ?_
     refine Ck (by kernel_rfl) hp (a6.or r.1 ((RA.getD (Int.toNat 0) default).ins.getD k default) ((RA.getD (Int.toNat 1) default).ins.getD k default)).2 rfl rfl rfl rfl rfl rfl rfl ?_
     intro w bl hx hp
     refine fO ?_
     refine gW (a:=o_) (c:=vo) (X:=r.2) (Y:=[(a6.or r.1 ((RA.getD (Int.toNat 0) default).ins.getD k default) ((RA.getD (Int.toNat 1) default).ins.getD k default)).2]) hp rfl rfl rfl rfl rfl rfl rfl (by decide) rfl (by rw[uV];show k+1<=_;omega) rfl rfl (by kernel_rfl) ?_
     intro o' pD w hp bZ
     refine fO ?_
     skip
     refine IH (k+1) o' pD a1 c1 _ _ _ (by omega) (by rw[eK];rfl) ⟨by omega,?_⟩
     rw[eK]
     exact hp.drop
    ·refine aM ?_;refine aq ?_
     obtain rfl:k=wd:=by omega
     rw[hr,<-e5] at hp
     have hp:=(hp.f2.f2.f2.f3.f6.f6.f6).drop.drop.drop
     exact⟨o_,vo,aa,ac,by rw[hr,<-e5],hp⟩
   ·have e5:dD a6 (aJ R) wd (cI.bin o x y') s=bC a6.xor s2 (RA.getD (Int.toNat 0) default).ins (RA.getD (Int.toNat 1) default).ins wd:=by
     rw[hZ];unfold gO
     rw[if_neg (by omega),if_neg (by omega),if_neg (by omega),if_neg (by omega),if_neg (by omega),if_neg (by omega),sj]
    have Iq:(m7 (cI.bin o x y')).kind=7:=qe
    refine ae (fun hg=>False.elim (by omega)) (fun _=> ?_);refine aM ?_
    refine ae (fun hg=>False.elim (by omega)) (fun _=> ?_);refine aM ?_
    refine ae (fun hg=>False.elim (by omega)) (fun _=> ?_);refine aM ?_
    refine ae (fun _=> ?_) (fun hg=>False.elim (by omega));refine aN ?_;refine ik hp ?_
    rw[sj]
    refine lU [0,2,8,9,13,105,106] (fun(k:Nat) (o_:Option Addr) (vo:Nat) (_:Option Addr) (_:Nat)=>[(0,.pointer (some ⟨bx,0,none⟩)),(2,.int .i64 ((pre.length+(cI.bin o x y').dh.length:Nat):Int)),(8,.pointer (some ⟨b8,0,none⟩)),(9,.slice ra RA.length rc),(13,.slice o_ (bC a6.xor s2 (RA.getD (Int.toNat 0) default).ins (RA.getD (Int.toNat 1) default).ins k).2.length vo),(105,.int .i64 (wd:Int)),(106,.int .i64 (k:Int))])
     (fun k o_ vo aa ac w'=>k<=wd/\Hp w0 w' (rB bx 88 [.pointer (some ⟨p,0,none⟩),.slice sa R.length sc,.int .i64 (wd:Int),.bool (bC a6.xor s2 (RA.getD (Int.toNat 0) default).ins (RA.getD (Int.toNat 1) default).ins k).1.2]::rB p 33 (y.wA aa ac (bC a6.xor s2 (RA.getD (Int.toNat 0) default).ins (RA.getD (Int.toNat 1) default).ins k).1.1.af).cs::rO 120 2 gh aa ac (bC a6.xor s2 (RA.getD (Int.toNat 0) default).ins (RA.getD (Int.toNat 1) default).ins k).1.1.af::rO 3 1 eI o_ vo (bC a6.xor s2 (RA.getD (Int.toNat 0) default).ins (RA.getD (Int.toNat 1) default).ins k).2::rO 31 1 jl ra rc RA::cD 3 1 eI RA::rB b8 132 [.int .i64 ((m7 (cI.bin o x y'))).kind,.int .i64 ((m7 (cI.bin o x y'))).a,.int .i64 ((m7 (cI.bin o x y'))).b]::L)) (fun k _ _ _ _=>wd-k) 0 none 0 aa ac rfl ⟨by omega,Hp.Hh (hp.eH (Ext.refl _) (dk.nil _ _ _ _ _))⟩ ?_
    clear hp
    rintro k o_ vo aa ac w1 ⟨hk,hp⟩ IH C
    have g:=fH cG (s:=s2) (f:=a6.xor) (fun _ _ _ _ h1 h2 h3=>cG.xor h1 h2 h3) e1 Cl sf k
    have uV:=dH a6.xor s2 (RA.getD (Int.toNat 0) default).ins (RA.getD (Int.toNat 1) default).ins k
    obtain⟨r,hr⟩:∃r,r=bC a6.xor s2 (RA.getD (Int.toNat 0) default).ins (RA.getD (Int.toNat 1) default).ins k:=⟨_,rfl⟩
    rw[<-hr] at g hp uV⊢
    have Cm:=g.dX.look rq
    have mh:aj r.1.1:=g.i
    refine bL ?_
    apply ae<;>intro bD
    ·have CF:k<wd:=by omega
     have va:aD ((RA.getD (Int.toNat 0) default).ins.getD k default) (ag r.1.1):=(Cl _ (aK (by omega))).mono g.dX.1.1
     have vb:aD ((RA.getD (Int.toNat 1) default).ins.getD k default) (ag r.1.1):=(sf _ (aK (by omega))).mono g.dX.1.1
     have eK:bC a6.xor s2 (RA.getD (Int.toNat 0) default).ins (RA.getD (Int.toNat 1) default).ins (k+1)=((a6.xor r.1 ((RA.getD (Int.toNat 0) default).ins.getD k default) ((RA.getD (Int.toNat 1) default).ins.getD k default)).1,r.2++[(a6.xor r.1 ((RA.getD (Int.toNat 0) default).ins.getD k default) ((RA.getD (Int.toNat 1) default).ins.getD k default)).2]):=by rw[bC,<-hr]
     refine aN ?_;refine aI hp ?_
     refine ae (fun hg=>False.elim (by omega)) (fun _=> ?_);refine aM ?_
     refine ae (fun hg=>False.elim (by omega)) (fun _=> ?_);refine aM ?_
     refine j7 hp ?_;intro w hx hp;have hs:=hp;(repeat(refine ah ?_;first|refine fc ?_|refine jb rfl (by omega) (by omega) rfl rfl rfl ?_))
     refine gq ?_
     refine oW Tryz.func100 (uq y r.1 Cm mh ((RA.getD (Int.toNat 0) default).ins.getD k default) ((RA.getD (Int.toNat 1) default).ins.getD k default) va vb bx p wd _ aa ac hp) ?_;rintro _ w ⟨a1,c1,rfl,hp⟩;refine⟨fun hq=>Bool.noConfusion (hq.symm.trans (by kernel_rfl:bH _ _=false)),?_⟩;refine fO ?_
     refine Ck (by kernel_rfl) hp (a6.xor r.1 ((RA.getD (Int.toNat 0) default).ins.getD k default) ((RA.getD (Int.toNat 1) default).ins.getD k default)).2 rfl rfl rfl rfl rfl rfl rfl ?_
     intro w bl hx hp
     refine fO ?_
     refine gW (a:=o_) (c:=vo) (X:=r.2) (Y:=[(a6.xor r.1 ((RA.getD (Int.toNat 0) default).ins.getD k default) ((RA.getD (Int.toNat 1) default).ins.getD k default)).2]) hp rfl rfl rfl rfl rfl rfl rfl (by decide) rfl (by rw[uV];show k+1<=_;omega) rfl rfl (by kernel_rfl) ?_
     intro o' pD w hp bZ
     refine fO ?_
     skip
     refine IH (k+1) o' pD a1 c1 _ _ _ (by omega) (by rw[eK];rfl) ⟨by omega,?_⟩
     rw[eK]
     exact hp.drop
    ·refine aM ?_;refine aq ?_
     obtain rfl:k=wd:=by omega
     rw[hr,<-e5] at hp
     have hp:=(hp.f2.f2.f2.f3.f6.f6.f6).drop.drop.drop
     exact⟨o_,vo,aa,ac,by rw[hr,<-e5],hp⟩
   ·have Iq:(m7 (cI.bin o x y')).kind=8:=qe
    have e8:dD a6 (aJ R) wd (cI.bin o x y') s=qD a6 s2 (RA.getD (Int.toNat 0) default).ins (RA.getD (Int.toNat 1) default).ins 0:=by rw[hZ];unfold gO;rw[if_pos qe]
    refine ae (fun hg=>False.elim (by omega)) (fun _=> ?_);refine aM ?_
    refine ae (fun hg=>False.elim (by omega)) (fun _=> ?_);refine aM ?_
    refine ae (fun hg=>False.elim (by omega)) (fun _=> ?_);refine aM ?_
    refine ae (fun hg=>False.elim (by omega)) (fun _=> ?_);refine aM ?_
    refine ae (fun _=> ?_) (fun hg=>False.elim (by omega));refine aN ?_
    refine j7 hp ?_;intro w hx hp;have hs:=hp;(repeat(refine jb rfl (by omega) (by omega) rfl rfl rfl ?_))
    refine gq ?_
    rw[sj,EE]
    refine oW Tryz.func101 (OQ y s2 rq e1 _ _ _ _ wd hw (RA.getD (Int.toNat 0) default).ins (RA.getD (Int.toNat 1) default).ins 0 sj EE Cl sf (mO e1).1 bx p _ aa ac hp) ?_;rintro _ w ⟨b,c,a1,c1,rfl,hp⟩;refine⟨fun hq=>Bool.noConfusion (hq.symm.trans (by kernel_rfl:bH _ _=false)),?_⟩;refine fO ?_;refine aq ?_
    skip
    rw[<-e8] at hp
    have hp:=(hp.f3.f3.f3.f3.f6.f6.f6).drop.drop.drop
    exact⟨b,c,a1,c1,by rw[iO],hp⟩
   ·have Iq:(m7 (cI.bin o x y')).kind=9:=qe
    have e9:dD a6 (aJ R) wd (cI.bin o x y') s=qD a6 s2 (RA.getD (Int.toNat 0) default).ins ((RA.getD (Int.toNat 1) default).ins.map cS) 1:=by rw[hZ];unfold gO;rw[if_neg (by omega),if_pos qe];rfl
    refine ae (fun hg=>False.elim (by omega)) (fun _=> ?_);refine aM ?_
    refine ae (fun hg=>False.elim (by omega)) (fun _=> ?_);refine aM ?_
    refine ae (fun hg=>False.elim (by omega)) (fun _=> ?_);refine aM ?_
    refine ae (fun hg=>False.elim (by omega)) (fun _=> ?_);refine aM ?_
    refine ae (fun hg=>False.elim (by omega)) (fun _=> ?_);refine aM ?_
    refine ae (fun _=> ?_) (fun hg=>False.elim (by omega));refine aN ?_
    refine j7 hp ?_;intro w hx hp;have hs:=hp;(repeat(refine jb rfl (by omega) (by omega) rfl rfl rfl ?_))
    refine gq ?_
    rw[sj,EE]
    refine oW Tryz.func97 (sm _ _ wd (RA.getD (Int.toNat 1) default).ins EE _ hp.rd (by omega) (fun i hi=>by have hz:aD ((RA.getD (Int.toNat 1) default).ins.getD i default) _:=sf _ (aK hi);unfold aD at hz;omega)) ?_;rintro _ w ⟨bn,cn,rfl,hq⟩;have hx:=hq.x;have hp:=hp.bJ hq;have hs:=hs.ext hx;refine⟨fun _=>hs,?_⟩;refine fO ?_
    have hp:=hp.f3.f3.f3
    refine oW Tryz.func101 (OQ y s2 rq e1 _ _ _ _ wd hw (RA.getD (Int.toNat 0) default).ins ((RA.getD (Int.toNat 1) default).ins.map cS) 1 sj (by rw[List.length_map];exact EE) Cl (fun z hz=>by obtain⟨z',Ot,rfl⟩:=List.mem_map.1 hz;exact cN (sf z' Ot) (by omega)) (mO e1).2 bx p _ aa ac hp) ?_;rintro _ w ⟨b,c,a1,c1,rfl,hp⟩;refine⟨fun hq=>Bool.noConfusion (hq.symm.trans (by kernel_rfl:bH _ _=false)),?_⟩;refine fO ?_;refine aq ?_
    skip
    rw[<-e9] at hp
    have hp:=(hp.f3.f3.f3.f3.f7.f7.f7.f7).drop.drop.drop.drop
    exact⟨b,c,a1,c1,by rw[iO],hp⟩
   ·have Iq:(m7 (cI.bin o x y')).kind=10:=qe
    have ed:decide ((m7 (cI.bin o x y')).kind=10)=true:=decide_eq_true qe
    have eC:dD a6 (aJ R) wd (cI.bin o x y') s=((bV a6 true s2 (RA.getD (Int.toNat 0) default).ins (RA.getD (Int.toNat 1) default).ins wd).1,ll wd (bV a6 true s2 (RA.getD (Int.toNat 0) default).ins (RA.getD (Int.toNat 1) default).ins wd).2):=by rw[hZ];unfold gO;rw[if_neg (by omega),if_neg (by omega),if_pos qe,sj]
    refine ae (fun hg=>False.elim (by omega)) (fun _=> ?_);refine aM ?_
    refine ae (fun hg=>False.elim (by omega)) (fun _=> ?_);refine aM ?_
    refine ae (fun hg=>False.elim (by omega)) (fun _=> ?_);refine aM ?_
    refine ae (fun hg=>False.elim (by omega)) (fun _=> ?_);refine aM ?_
    refine ae (fun hg=>False.elim (by omega)) (fun _=> ?_);refine aM ?_
    refine ae (fun hg=>False.elim (by omega)) (fun _=> ?_);refine aM ?_
    refine ae (fun _=> ?_) (fun hg=>False.elim (by omega));refine aN ?_
    refine ae (fun _=> ?_) (fun hg=>False.elim (by omega));refine aN ?_
    refine j7 hp ?_;intro w hx hp;have hs:=hp;(repeat(refine ah ?_;first|refine dN ?_|refine jb rfl (by omega) (by omega) rfl rfl rfl ?_))
    refine gq ?_
    rw[sj,EE]
    refine oW Tryz.func102 (AQ y (m7 (cI.bin o x y')).kind s2 rq e1 _ _ _ _ wd hw (RA.getD (Int.toNat 0) default).ins (RA.getD (Int.toNat 1) default).ins sj EE Cl sf bx p _ aa ac hp) ?_;rintro _ w ⟨b,c,a1,c1,rfl,hp⟩;refine⟨fun hq=>Bool.noConfusion (hq.symm.trans (by kernel_rfl:bH _ _=false)),?_⟩;refine fO ?_;refine aq ?_
    skip
    rw[ed] at hp
    have hp:=(hp.f3.f3.f3.f3.f6.f6.f6).drop.drop.drop
    refine⟨b,c,a1,c1,by rw[iO],?_⟩
    rw[eC]
    exact hp
   ·have Iq:(m7 (cI.bin o x y')).kind=11:=qe
    have ed:decide ((m7 (cI.bin o x y')).kind=10)=false:=decide_eq_false (by omega)
    have eC:dD a6 (aJ R) wd (cI.bin o x y') s=((bV a6 false s2 (RA.getD (Int.toNat 0) default).ins (RA.getD (Int.toNat 1) default).ins wd).1,ll wd (bV a6 false s2 (RA.getD (Int.toNat 0) default).ins (RA.getD (Int.toNat 1) default).ins wd).2):=by rw[hZ];unfold gO;rw[if_neg (by omega),if_neg (by omega),if_neg (by omega),if_pos qe,sj]
    refine ae (fun hg=>False.elim (by omega)) (fun _=> ?_);refine aM ?_
    refine ae (fun hg=>False.elim (by omega)) (fun _=> ?_);refine aM ?_
    refine ae (fun hg=>False.elim (by omega)) (fun _=> ?_);refine aM ?_
    refine ae (fun hg=>False.elim (by omega)) (fun _=> ?_);refine aM ?_
    refine ae (fun hg=>False.elim (by omega)) (fun _=> ?_);refine aM ?_
    refine ae (fun hg=>False.elim (by omega)) (fun _=> ?_);refine aM ?_
    refine ae (fun hg=>False.elim (by omega)) (fun _=> ?_);refine aM ?_
    refine ae (fun _=> ?_) (fun hg=>False.elim (by omega));refine aN ?_
    refine j7 hp ?_;intro w hx hp;have hs:=hp;(repeat(refine ah ?_;first|refine dN ?_|refine jb rfl (by omega) (by omega) rfl rfl rfl ?_))
    refine gq ?_
    rw[sj,EE]
    refine oW Tryz.func102 (AQ y (m7 (cI.bin o x y')).kind s2 rq e1 _ _ _ _ wd hw (RA.getD (Int.toNat 0) default).ins (RA.getD (Int.toNat 1) default).ins sj EE Cl sf bx p _ aa ac hp) ?_;rintro _ w ⟨b,c,a1,c1,rfl,hp⟩;refine⟨fun hq=>Bool.noConfusion (hq.symm.trans (by kernel_rfl:bH _ _=false)),?_⟩;refine fO ?_;refine aq ?_
    skip
    rw[ed] at hp
    have hp:=(hp.f3.f3.f3.f3.f6.f6.f6).drop.drop.drop
    refine⟨b,c,a1,c1,by rw[iO],?_⟩
    rw[eC]
    exact hp
  |nS o x y' z=>
   have CD:ts=[x,y',z]:=CD
   subst CD
   have hRA3:RA.length=3:=Nk
   have hk12:(m7 (cI.nS o x y' z)).kind=12:=by
    have h1:jx o.kind=3:=ht.1
    show o.kind=12
    unfold jx at h1
    repeat' split at h1
    all_goals omega
   have i0:FM (Int.toNat 0) RA:=⟨by show 0<RA.length;omega⟩
   have i1:FM (Int.toNat 1) RA:=⟨by show 1<RA.length;omega⟩
   have i2:FM (Int.toNat 2) RA:=⟨by show 2<RA.length;omega⟩
   obtain⟨s3,hs3⟩:∃s3,s3=(kz (aJ R) wd [x,y',z] s [x,y',z].length).1:=⟨_,rfl⟩
   rw[<-hs3] at hp e1 rq lN
   obtain⟨sj,Cl⟩:=lN 0 (by simp)
   have sj:(RA.getD (Int.toNat 0) default).ins.length=wd:=sj
   have Cl:∀z,z∈(RA.getD (Int.toNat 0) default).ins->aD z (ag s3.1):=Cl
   obtain⟨EE,sf⟩:=lN 1 (by simp)
   have EE:(RA.getD (Int.toNat 1) default).ins.length=wd:=EE
   have sf:∀z,z∈(RA.getD (Int.toNat 1) default).ins->aD z (ag s3.1):=sf
   obtain⟨h2l,OA⟩:=lN 2 (by simp)
   have h2l:(RA.getD (Int.toNat 2) default).ins.length=wd:=h2l
   have OA:∀z,z∈(RA.getD (Int.toNat 2) default).ins->aD z (ag s3.1):=OA
   have So:(RA.getD (Int.toNat 0) default).ins=(dD a6 (aJ R) wd x s).2:=by
    show(RA.getD 0 default).ins=_
    rw[<-bk,Nj];rfl
   have Hi:(RA.getD (Int.toNat 1) default).ins=(dD a6 (aJ R) wd y' (dD a6 (aJ R) wd x s).1).2:=by
    show(RA.getD 1 default).ins=_
    rw[<-bk,Nj];rfl
   have KH:(RA.getD (Int.toNat 2) default).ins=(dD a6 (aJ R) wd z (dD a6 (aJ R) wd y' (dD a6 (aJ R) wd x s).1).1).2:=by
    show(RA.getD 2 default).ins=_
    rw[<-bk,Nj];rfl
   have hZ:dD a6 (aJ R) wd (cI.nS o x y' z) s=sO a6 s3 (RA.getD (Int.toNat 0) default).ins (RA.getD (Int.toNat 1) default).ins (RA.getD (Int.toNat 2) default).ins:=by rw[So,Hi,KH,hs3];rfl
   have e1:aj s3.1:=e1
   refine ae (fun hg=>False.elim (by omega)) (fun _=> ?_);refine aM ?_;refine aI hp ?_
   refine ae (fun hg=>False.elim (by omega)) (fun _=> ?_);refine aM ?_
   refine ae (fun hg=>False.elim (by omega)) (fun _=> ?_);refine aM ?_
   refine ae (fun hg=>False.elim (by omega)) (fun _=> ?_);refine aM ?_
   refine ae (fun hg=>False.elim (by omega)) (fun _=> ?_);refine aM ?_
   refine ae (fun hg=>False.elim (by omega)) (fun _=> ?_);refine aM ?_
   refine ae (fun hg=>False.elim (by omega)) (fun _=> ?_);refine aM ?_
   refine ae (fun hg=>False.elim (by omega)) (fun _=> ?_);refine aM ?_
   refine ae (fun hg=>False.elim (by omega)) (fun _=> ?_);refine aM ?_;refine ik hp ?_
   rw[sj]
   refine eg [0,2,9,13,15,55,56,57] (fun(k:Nat) (_:Option Addr) (_:Nat)=>[(0,.pointer (some ⟨bx,0,none⟩)),(2,.int .i64 ((pre.length+(cI.nS o x y' z).dh.length:Nat):Int)),(9,.slice ra RA.length rc),(13,.slice none 0 0),(15,.int .i64 (di a6 s3 (RA.getD (Int.toNat 0) default).ins k).2),(55,.slice (RA.getD (Int.toNat 0) default).ia wd (RA.getD (Int.toNat 0) default).ic),(56,.int .i64 (wd:Int)),(57,.int .i64 (k:Int))])
    (fun k aa ac w'=>k<=wd/\Hp w0 w' (rB bx 88 [.pointer (some ⟨p,0,none⟩),.slice sa R.length sc,.int .i64 (wd:Int),.bool (di a6 s3 (RA.getD (Int.toNat 0) default).ins k).1.2]::rB p 33 (y.wA aa ac (di a6 s3 (RA.getD (Int.toNat 0) default).ins k).1.1.af).cs::rO 120 2 gh aa ac (di a6 s3 (RA.getD (Int.toNat 0) default).ins k).1.1.af::rO 31 1 jl ra rc RA::cD 3 1 eI RA::rB b8 132 [.int .i64 (m7 (cI.nS o x y' z)).kind,.int .i64 (m7 (cI.nS o x y' z)).a,.int .i64 (m7 (cI.nS o x y' z)).b]::L)) (fun k _ _=>wd-k) 0 aa ac rfl ⟨by omega,hp⟩ ?_
   clear hp
   rintro k aa ac w1 ⟨hk,hp⟩ IH C
   obtain⟨gi,gv,gl⟩:=oA cG e1 Cl k
   obtain⟨r,hr⟩:∃r,r=di a6 s3 (RA.getD (Int.toNat 0) default).ins k:=⟨_,rfl⟩
   rw[<-hr] at gi gv gl hp⊢
   have gi:aj r.1.1:=gi
   have Cm:=gl.look rq
   refine bL ?_
   apply ae<;>intro bD
   ·have CF:k<wd:=by omega
    have va:aD ((RA.getD (Int.toNat 0) default).ins.getD k default) (ag r.1.1):=(Cl _ (aK (by omega))).mono gl.1.1
    have eK:di a6 s3 (RA.getD (Int.toNat 0) default).ins (k+1)=a6.or r.1 r.2 ((RA.getD (Int.toNat 0) default).ins.getD k default):=by rw[di,<-hr]
    refine aN ?_;refine bb hp ?_
    refine cy Tryz.func99 (FK y r.1 Cm gi r.2 ((RA.getD (Int.toNat 0) default).ins.getD k default) gv va bx p wd _ aa ac hp) ?_;rintro _ w ⟨a1,c1,rfl,hp⟩;refine az ?_
    refine IH (k+1) a1 c1 _ _ _ (by omega) (by rw[eK];rfl) ⟨by omega,?_⟩
    rw[eK]
    exact hp
   ·obtain rfl:k=wd:=by omega
    clear IH
    obtain⟨s4,hs4⟩:∃s4,s4=r.1:=⟨_,rfl⟩
    obtain⟨e,he⟩:∃e,e=r.2:=⟨_,rfl⟩
    rw[<-hs4] at gi gv gl Cm hp
    rw[<-he] at gv⊢
    have Wt:∀z,z∈(RA.getD (Int.toNat 1) default).ins->aD z (ag s4.1):=fun z hz=>(sf z hz).mono gl.1.1
    have Wu:∀z,z∈(RA.getD (Int.toNat 2) default).ins->aD z (ag s4.1):=fun z hz=>(OA z hz).mono gl.1.1
    have eM:dD a6 (aJ R) k (cI.nS o x y' z) s=bC (fun s' u v=>a6.jk s' e u v) s4 (RA.getD (Int.toNat 1) default).ins (RA.getD (Int.toNat 2) default).ins k:=by rw[hZ];unfold sO;rw[sj,EE,<-hr,<-hs4,<-he]
    refine aM ?_;refine ik hp ?_
    rw[EE]
    refine lU [0,2,9,13,15,69,70] (fun(q:Nat) (o_:Option Addr) (vo:Nat) (_:Option Addr) (_:Nat)=>[(0,.pointer (some ⟨bx,0,none⟩)),(2,.int .i64 ((pre.length+(cI.nS o x y' z).dh.length:Nat):Int)),(9,.slice ra RA.length rc),(13,.slice o_ (bC (fun s' u v=>a6.jk s' e u v) s4 (RA.getD (Int.toNat 1) default).ins (RA.getD (Int.toNat 2) default).ins q).2.length vo),(15,.int .i64 e),(69,.int .i64 (k:Int)),(70,.int .i64 (q:Int))])
     (fun q o_ vo aa ac w'=>q<=k/\Hp w0 w' (rB bx 88 [.pointer (some ⟨p,0,none⟩),.slice sa R.length sc,.int .i64 (k:Int),.bool (bC (fun s' u v=>a6.jk s' e u v) s4 (RA.getD (Int.toNat 1) default).ins (RA.getD (Int.toNat 2) default).ins q).1.2]::rB p 33 (y.wA aa ac (bC (fun s' u v=>a6.jk s' e u v) s4 (RA.getD (Int.toNat 1) default).ins (RA.getD (Int.toNat 2) default).ins q).1.1.af).cs::rO 120 2 gh aa ac (bC (fun s' u v=>a6.jk s' e u v) s4 (RA.getD (Int.toNat 1) default).ins (RA.getD (Int.toNat 2) default).ins q).1.1.af::rO 3 1 eI o_ vo (bC (fun s' u v=>a6.jk s' e u v) s4 (RA.getD (Int.toNat 1) default).ins (RA.getD (Int.toNat 2) default).ins q).2::rO 31 1 jl ra rc RA::cD 3 1 eI RA::rB b8 132 [.int .i64 (m7 (cI.nS o x y' z)).kind,.int .i64 (m7 (cI.nS o x y' z)).a,.int .i64 (m7 (cI.nS o x y' z)).b]::L)) (fun q _ _ _ _=>k-q) 0 none 0 aa ac rfl ⟨by omega,Hp.Hh (hp.eH (Ext.refl _) (dk.nil _ _ _ _ _))⟩ ?_
    clear hp
    rintro q o_ vo aa ac w1 ⟨hq,hp⟩ IH C
    have g:=fH cG (s:=s4) (f:=(fun s' u v=>a6.jk s' e u v)) (fun s' u v hl h1 h2 h3=>cG.jk h1 (cG.mono hl gv) h2 h3) gi Wt Wu q
    have uV:=dH (fun s' u v=>a6.jk s' e u v) s4 (RA.getD (Int.toNat 1) default).ins (RA.getD (Int.toNat 2) default).ins q
    obtain⟨r2,Nl⟩:∃r2,r2=bC (fun s' u v=>a6.jk s' e u v) s4 (RA.getD (Int.toNat 1) default).ins (RA.getD (Int.toNat 2) default).ins q:=⟨_,rfl⟩
    rw[<-Nl] at g hp uV⊢
    have hlk3:=g.dX.look Cm
    have S0:aj r2.1.1:=g.i
    have ve:aD e (ag r2.1.1):=gv.mono g.dX.1.1
    refine bL ?_
    apply ae<;>intro jK
    ·have hqw:q<k:=by omega
     have va:aD ((RA.getD (Int.toNat 1) default).ins.getD q default) (ag r2.1.1):=(Wt _ (aK (by omega))).mono g.dX.1.1
     have vb:aD ((RA.getD (Int.toNat 2) default).ins.getD q default) (ag r2.1.1):=(Wu _ (aK (by omega))).mono g.dX.1.1
     have eK:bC (fun s' u v=>a6.jk s' e u v) s4 (RA.getD (Int.toNat 1) default).ins (RA.getD (Int.toNat 2) default).ins (q+1)=((a6.jk r2.1 e ((RA.getD (Int.toNat 1) default).ins.getD q default) ((RA.getD (Int.toNat 2) default).ins.getD q default)).1,r2.2++[(a6.jk r2.1 e ((RA.getD (Int.toNat 1) default).ins.getD q default) ((RA.getD (Int.toNat 2) default).ins.getD q default)).2]):=by rw[bC,<-Nl]
     refine aN ?_
     refine j7 hp ?_;intro w hx hp;have hs:=hp;(repeat(refine ah ?_;first|refine fc ?_|refine jb rfl (by omega) (by omega) rfl rfl rfl ?_))
     refine gq ?_
     refine oW Tryz.func103 (Cj y r2.1 hlk3 S0 e ((RA.getD (Int.toNat 1) default).ins.getD q default) ((RA.getD (Int.toNat 2) default).ins.getD q default) ve va vb bx p k _ aa ac hp) ?_;rintro _ w ⟨a1,c1,rfl,hp⟩;refine⟨fun hq=>Bool.noConfusion (hq.symm.trans (by kernel_rfl:bH _ _=false)),?_⟩;refine fO ?_
     refine Ck (by kernel_rfl) hp (a6.jk r2.1 e ((RA.getD (Int.toNat 1) default).ins.getD q default) ((RA.getD (Int.toNat 2) default).ins.getD q default)).2 rfl rfl rfl rfl rfl rfl rfl ?_
     intro w bl hx hp
     refine fO ?_
     refine gW (a:=o_) (c:=vo) (X:=r2.2) (Y:=[(a6.jk r2.1 e ((RA.getD (Int.toNat 1) default).ins.getD q default) ((RA.getD (Int.toNat 2) default).ins.getD q default)).2]) hp rfl rfl rfl rfl rfl rfl rfl (by decide) rfl (by rw[uV];show q+1<=_;omega) rfl rfl (by kernel_rfl) ?_
     intro o' pD w hp bZ
     refine fO ?_
     skip
     refine IH (q+1) o' pD a1 c1 _ _ _ (by omega) (by rw[eK];rfl) ⟨by omega,?_⟩
     rw[eK]
     exact hp.drop
    ·refine aM ?_;refine aq ?_
     obtain rfl:q=k:=by omega
     rw[Nl,<-eM] at hp
     have hp:=(hp.f2.f2.f2.f3.f6.f6.f6).drop.drop.drop
     exact⟨o_,vo,aa,ac,by rw[Nl,<-eM],hp⟩
theorem s9 (w0:World)(R:List (cL Int))(sa:Option Addr)(sc:Nat)(bx p wd:Nat)(hw:1<=wd/\wd<=4)(y:bf)(ops:List dK)(oa:Option Addr)(oc:Nat)(jL:ops.length<=15)(fF:R.length<=1000)(pU:∀i,i<R.length->(R.getD i default).ins.length<=1000):∀t:cI,KG w0 R sa sc bx p wd y ops oa oc t
 | .leaf o=>rL w0 R sa sc bx p wd hw y ops oa oc jL fF pU (.leaf o) (fun x hx=>by cases hx)
 | .un o x=>rL w0 R sa sc bx p wd hw y ops oa oc jL fF pU (.un o x) (fun u hu=>by
  have:u=x:=by simpa [kt] using hu
  rw[this];exact s9 w0 R sa sc bx p wd hw y ops oa oc jL fF pU x)
 | .bin o x y'=>rL w0 R sa sc bx p wd hw y ops oa oc jL fF pU (.bin o x y') (fun u hu=>by
  have:u=x\/u=y':=by simpa [kt] using hu
  rcases this with h|h
  ·rw[h];exact s9 w0 R sa sc bx p wd hw y ops oa oc jL fF pU x
  ·rw[h];exact s9 w0 R sa sc bx p wd hw y ops oa oc jL fF pU y')
 | .nS o x y' z=>rL w0 R sa sc bx p wd hw y ops oa oc jL fF pU (.nS o x y' z) (fun u hu=>by
  have:u=x\/u=y'\/u=z:=by simpa [kt] using hu
  rcases this with h|h|h
  ·rw[h];exact s9 w0 R sa sc bx p wd hw y ops oa oc jL fF pU x
  ·rw[h];exact s9 w0 R sa sc bx p wd hw y ops oa oc jL fF pU y'
  ·rw[h];exact s9 w0 R sa sc bx p wd hw y ops oa oc jL fF pU z)
end Go.Proofs
