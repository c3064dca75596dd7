/- The contracts of the reference's runs of a flat module over words; each under its stated conditions. -/
import Derived.Test.YtiepmliokblkjaaGreatBrf
import Derived.Test.YtiepmliokblkjaaGreatEvSt5
import Derived.Test.YtiepmliokblkjaaGreatFlatU
import Derived.Test.YtiepmliokblkjaaGreatAdder
import Derived.Test.YtiepmliokblkjaaGreatExprW
import Derived.Test.YtiepmliokblkjaaGreatAxS
set_option linter.all false
namespace Go.Xw
open Go.Proofs
theorem kS {a a' b b':Int}(h1:a=a')(h2:b=b'):Value.tuple ⟨[.int .i64 a,.int .i64 b]⟩= .tuple ⟨[.int .i64 a',.int .i64 b']⟩:=by rw[h1,h2]
theorem Nm:∀w:Fin 5,∀a:Fin 16,a.val<2^w.val->bits .and .i64 (bits .xor .i64 (-1) (a.val:Int)) (2^w.val-1)=2^w.val-1-(a.val:Int):=by decide+kernel
theorem Nn {w:Nat}(hw:w<=4){a:Int}(h:CA w a):bits .and .i64 (bits .xor .i64 (-1) a) (2^w-1)=2^w-1-a:=by
 obtain⟨h1,h2⟩:=h
 have RN:=wq hw
 have hc:=yg w
 obtain⟨a',rfl⟩:=Int.eq_ofNat_of_zero_le h1
 exact Nm ⟨w,by omega⟩ ⟨a',by omega⟩ (by show a'<2^w;omega)
structure OR (n:aQ)(v w:List Int):Prop where
 val:qP n v
 B7:w.length=4*n.ms.length
 OI:∀j,j<n.ms.length->∀a,a<4->CA (wN n (fa n j:Nat)) (w.getD (4*j+a) default)
 v0:∀s:Nat,s<n.sg.length->aY n (s:Nat)≠3->(∀j,j<n.ms.length->fa n j≠s)->v.getD s default=0
theorem KI {n:aQ}(hf:ch n){l:List Nat}(he:gQ n=some l):OR n (jj n) (mZ n):=by
 have h:=DX hf he
 exact⟨h.val,h.B7,h.OI,h.v0⟩
theorem No {n:aQ}(hm:aV n)(hf:ch n){x v w:List Int}(hx:qP n x)(h:OR n v w):OR n (pz n x w n.ms.length).1 (pz n x w n.ms.length).2:=by
 have s7:=Cc hm hf hx h.B7 h.OI n.ms.length (Nat.le_refl _)
 refine⟨s7.val,by rw[s7.len];exact h.B7,fun j hj a ha=> ?_,fun s hs vV gM=> ?_⟩
 ·rw[s7.mem j hj a ha]
  split
  ·have hd:=(yO hm hf hj).2.2
   rw[<-hd.2];exact hx.Az _ hd.1
  ·exact h.OI j hj a ha
 ·rw[(s7.out s hs).2 gM]
  exact Cb hm hf hs vV _ (Nat.le_refl _)
def m9 (n:aQ):List Bool:=(List.range n.sg.length).map fun(s:Nat)=>decide (aY n (s:Nat)=3)
theorem y7 (n:aQ):(m9 n).length=n.sg.length:=by simp[m9]
theorem y8 {n:aQ}{s:Nat}(h:s<n.sg.length):(m9 n)[s]?=some (decide (aY n (s:Nat)=3)):=by simp[m9,h]
def vp (n:aQ):Nat->List Bool
 |0=>m9 n
 |j+1=>(vp n j).set (fa n j) true
theorem ur (n:aQ):∀j,(vp n j).length=n.sg.length
 |0=>y7 n
 |j+1=>by rw[vp,List.length_set,ur n j]
theorem D6 {n:aQ}(hm:aV n):∀j,j<=n.ms.length->∀s,s<n.sg.length->(vp n j).getD s default=true\/(aY n (s:Nat)≠3/\∀i,i<j->fa n i≠s)
 |0,_,s,hs=>by
  rw[vp,List.getD_eq_getElem?_getD,y8 hs]
  by_cases h:aY n (s:Nat)=3
  ·left;simp[h]
  ·right;exact⟨h,fun i hi=>absurd hi (Nat.not_lt_zero _)⟩
 |j+1,hj,s,hs=>by
  have ih:=D6 hm j (by omega) s hs
  have ho:=(jB hm (j:=j) (by omega)).1
  rw[vp,cH (by rw[ur];exact ho)]
  by_cases nj:s=fa n j
  ·rw[if_pos nj];exact .inl rfl
  ·rw[if_neg nj]
   rcases ih with h|⟨h1,h2⟩
   ·exact .inl h
   ·refine .inr ⟨h1,fun i hi he=> ?_⟩
    by_cases kc:i=j
    ·subst kc;exact nj he.symm
    ·exact h2 i (by omega) he
end Go.Xw
namespace Go.Proofs
open Go.Xw
set_option maxRecDepth 100000
set_option maxHeartbeats 8000000
attribute [local irreducible] ax aE
def EvC (ops:List dK)(oa:Option Addr)(oc:Nat)(cK:List Int)(va:Option Addr)(vc wd:Nat)(t:cI):Prop:=
 ∀(pre post:List dK),ops=pre++t.dh++post->t.ok cK.length->∀(w0:World),Rd w0 oa 3 kf ops->Rd w0 va 1 eI cK->
  bN Tryz.prog 123 [.slice oa ops.length oc,.int .i64 (pre.length:Int),.slice va cK.length vc,.int .i64 (2^wd-1)] w0 (fun v w=>v= .tuple ⟨[.int .i64 (lr cK wd t),.int .i64 ((pre.length+t.dh.length:Nat):Int)]⟩/\Ext w0 w)
theorem jY (ops:List dK)(oa:Option Addr)(oc:Nat)(cK:List Int)(va:Option Addr)(vc wd:Nat)(hw:1<=wd/\wd<=4)(jL:ops.length<=15)(hv:∀i,i<cK.length->0<=cK.getD i default/\cK.getD i default<=15):∀t:cI,EvC ops oa oc cK va vc wd t
 | .leaf o=>by
  intro pre post fQ ht w0 hO hV
  have RN:=wq hw.2
  have xd:=wD wd
  have hlen:ops.length=pre.length+(cI.leaf o).dh.length+post.length:=by rw[fQ];simp only[List.length_append]
  have oh:=cI.pos (.leaf o)
  have ij:ops.getD pre.length default=o:=by
   rw[fQ,List.append_assoc,List.getD_eq_getElem?_getD,List.getElem?_append_right (Nat.le_refl _),Nat.sub_self];rfl
  have sY:(cI.leaf o).dh.length=1:=rfl
  obtain⟨h1,h2,h3⟩:=ht
  refine eu Tryz.Bu ?_;intro C hp;refine bb hp ?_;refine bP hp ?_;intro w ng hx hp;refine az ?_;(repeat(first|(refine ah ?_;refine aI hp ?_)|(refine aH ?_;refine aW hp ?_;intro w hp;refine az ?_)))
  rw[ij] at hp
  have hp:Hp w0 _ [rB ng 132 [.int .i64 o.kind,.int .i64 o.a,.int .i64 o.b]]:=hp
  rw[ij]
  have EC:∀z:Int,bits .and .i64 z (2^wd-1)=z%2^wd:=fun z=>ew z wd (by omega)
  unfold e6 at h2
  by_cases k0:o.kind=0
  ·rw[if_pos k0] at h2
   have e:lr cK wd (.leaf o)=o.a%2^wd:=by unfold lr;rw[if_pos k0]
   refine ae (fun _=> ?_) (fun hg=>False.elim (by omega));refine aN ?_;refine aI hp ?_;refine aq ?_
   exact⟨kS (by rw[e,EC]) (by rw[sY];rfl),hp.x⟩
  ·rw[if_neg k0] at h2
   refine ae (fun hg=>False.elim (by omega)) (fun _=> ?_);refine aM ?_
   by_cases k2:o.kind=2
   ·rw[if_pos k2] at h2
    have e:lr cK wd (.leaf o)=cK.getD o.a.toNat default%2^wd:=by unfold lr;rw[if_neg k0,if_pos k2]
    have Hj:=hv o.a.toNat (by omega)
    refine ae (fun _=> ?_) (fun hg=>False.elim (by omega));refine aN ?_;(repeat(first|(refine ah ?_;first|refine aI hp ?_|refine ik hp ?_)|refine aq ?_))
    exact⟨kS (by rw[e,EC]) (by rw[sY];rfl),hp.x⟩
   ·rw[if_neg k2] at h2
    refine ae (fun hg=>False.elim (by omega)) (fun _=> ?_);refine aM ?_
    have k3:o.kind=3:=by
     by_cases k3:o.kind=3
     ·exact k3
     ·exfalso
      rw[if_neg k3] at h2
      unfold jx at h1
      repeat' split at h1
      all_goals omega
    rw[if_pos k3] at h2
    have e:lr cK wd (.leaf o)=cK.getD o.a.toNat default/2^o.b.toNat%2:=by unfold lr;rw[if_neg k0,if_neg k2]
    have Hj:=hv o.a.toNat (by omega)
    have Xp:o.b<=((IntKind.i64.bits:Nat):Int):=by show o.b<=64;omega
    have KH:(2:Int)^wd>=2:=by
     have:=lT (s:=1) (t:=wd) hw.1
     simpa using this
    refine ae (fun _=> ?_) (fun hg=>False.elim (by omega));refine aN ?_
    refine j7 hp ?_;intro w hx hp;have hs:=hp;(repeat(first|(refine ah ?_;first|refine dN ?_|refine jb rfl (by omega) (by omega) rfl rfl rfl ?_)|refine aq ?_))
    skip
    refine⟨kS ?_ (by rw[sY];rfl),hp.x⟩
    rw[e,EC,dx,Int.emod_eq_of_lt (by omega) (by omega)]
 | .un o x=>by
  intro pre post fQ ht w0 hO hV
  have RN:=wq hw.2
  have xd:=wD wd
  have hlen:ops.length=pre.length+(cI.un o x).dh.length+post.length:=by rw[fQ];simp only[List.length_append]
  have sY:(cI.un o x).dh.length=x.dh.length+1:=rfl
  have oh:=cI.pos x
  have ij:ops.getD pre.length default=o:=by
   rw[fQ,List.append_assoc,List.getD_eq_getElem?_getD,List.getElem?_append_right (Nat.le_refl _),Nat.sub_self];rfl
  obtain⟨h1,h2⟩:=ht
  have k4:o.kind=4:=by
   unfold jx at h1
   repeat' split at h1
   all_goals omega
  have sE:(((pre++[o]).length:Nat):Int)=(pre.length:Int)+1:=by simp
  refine eu Tryz.Bu ?_;intro C hp;refine bb hp ?_;refine bP hp ?_;intro w ng hx hp;refine az ?_;(repeat(first|(refine ah ?_;refine aI hp ?_)|(refine aH ?_;refine aW hp ?_;intro w hp;refine az ?_)))
  rw[ij] at hp
  have hp:Hp w0 _ [rB ng 132 [.int .i64 o.kind,.int .i64 o.a,.int .i64 o.b]]:=hp
  rw[ij]
  refine ae (fun hg=>False.elim (by omega)) (fun _=> ?_);refine aM ?_
  refine ae (fun hg=>False.elim (by omega)) (fun _=> ?_);refine aM ?_
  refine ae (fun hg=>False.elim (by omega)) (fun _=> ?_);refine aM ?_
  have jd:=fun w h1 h3=>jY ops oa oc cK va vc wd hw jL hv x (pre++[o]) post (by rw[fQ];simp[cI.dh]) h2 w h1 h3
  rw[sE] at jd
  have hxv:=jJ hw cK x
  refine bQ hp Tryz.func123 (jd _ hp.rd hp.rd) ?_;intro w hx hp;refine aI hp ?_
  refine ae (fun _=> ?_) (fun hg=>False.elim (by omega));refine aN ?_;refine aq ?_
  refine⟨kS (Nn hw.2 hxv) ?_,hp.x⟩
  rw[sY];simp;omega
 | .bin o x y=>by
  intro pre post fQ ht w0 hO hV
  have RN:=wq hw.2
  have xd:=wD wd
  have EC:∀z:Int,bits .and .i64 z (2^wd-1)=z%2^wd:=fun z=>ew z wd (by omega)
  have hlen:ops.length=pre.length+(cI.bin o x y).dh.length+post.length:=by rw[fQ];simp only[List.length_append]
  have sY:(cI.bin o x y).dh.length=x.dh.length+y.dh.length+1:=by simp[cI.dh]
  have oh:=cI.pos x
  have Wv:=cI.pos y
  have ij:ops.getD pre.length default=o:=by
   rw[fQ,List.append_assoc,List.getD_eq_getElem?_getD,List.getElem?_append_right (Nat.le_refl _),Nat.sub_self];rfl
  obtain⟨h1,h2,h3⟩:=ht
  have hk:5<=o.kind/\o.kind<=11:=by
   unfold jx at h1
   repeat' split at h1
   all_goals omega
  have sE:(((pre++[o]).length:Nat):Int)=(pre.length:Int)+1:=by simp
  have D7:(((pre++[o]++x.dh).length:Nat):Int)=(((pre++[o]).length+x.dh.length:Nat):Int):=by rw[List.length_append]
  refine eu Tryz.Bu ?_;intro C hp;refine bb hp ?_;refine bP hp ?_;intro w ng hx hp;refine az ?_;(repeat(first|(refine ah ?_;refine aI hp ?_)|(refine aH ?_;refine aW hp ?_;intro w hp;refine az ?_)))
  rw[ij] at hp
  have hp:Hp w0 _ [rB ng 132 [.int .i64 o.kind,.int .i64 o.a,.int .i64 o.b]]:=hp
  rw[ij]
  refine ae (fun hg=>False.elim (by omega)) (fun _=> ?_);refine aM ?_
  refine ae (fun hg=>False.elim (by omega)) (fun _=> ?_);refine aM ?_
  refine ae (fun hg=>False.elim (by omega)) (fun _=> ?_);refine aM ?_
  have jd:=fun w h1 h3=>jY ops oa oc cK va vc wd hw jL hv x (pre++[o]) (y.dh++post) (by rw[fQ];simp[cI.dh]) h2 w h1 h3
  rw[sE] at jd
  have jM:=fun w h1 h4=>jY ops oa oc cK va vc wd hw jL hv y (pre++[o]++x.dh) post (by rw[fQ];simp[cI.dh]) h3 w h1 h4
  rw[D7] at jM
  have hx:=jJ hw cK x
  have hy:=jJ hw cK y
  obtain⟨iz,Ir⟩:=hx
  obtain⟨D8,Cn⟩:=hy
  have hE:lr cK wd (.bin o x y)=Fj wd o.kind (lr cK wd x) (lr cK wd y):=rfl
  have hP:((((pre++[o]++x.dh).length+y.dh.length:Nat)):Int)=((pre.length+(cI.bin o x y).dh.length:Nat):Int):=by rw[sY];simp;omega
  refine bQ hp Tryz.func123 (jd _ hp.rd hp.rd) ?_;intro w hx hp;refine aI hp ?_
  refine ae (fun hg=>False.elim (by omega)) (fun _=> ?_);refine aM ?_
  refine bQ hp Tryz.func123 (jM _ hp.rd hp.rd) ?_;intro w hx hp;refine aI hp ?_
  rw[hE]
  unfold Fj
  by_cases k5:o.kind=5
  ·refine ae (fun _=> ?_) (fun hg=>False.elim (by omega));refine aN ?_;refine aq ?_
   exact⟨kS (by rw[if_neg (by omega),if_neg (by omega),if_neg (by omega),if_neg (by omega),if_pos k5]) hP,hp.x⟩
  ·refine ae (fun hg=>False.elim (by omega)) (fun _=> ?_);refine aM ?_
   by_cases k6:o.kind=6
   ·refine ae (fun _=> ?_) (fun hg=>False.elim (by omega));refine aN ?_;refine aq ?_
    exact⟨kS (by rw[if_neg (by omega),if_neg (by omega),if_neg (by omega),if_neg (by omega),if_neg k5,if_pos k6]) hP,hp.x⟩
   ·refine ae (fun hg=>False.elim (by omega)) (fun _=> ?_);refine aM ?_
    by_cases k7:o.kind=7
    ·refine ae (fun _=> ?_) (fun hg=>False.elim (by omega));refine aN ?_;refine aq ?_
     exact⟨kS (by rw[if_neg (by omega),if_neg (by omega),if_neg (by omega),if_neg (by omega),if_neg k5,if_neg k6]) hP,hp.x⟩
    ·refine ae (fun hg=>False.elim (by omega)) (fun _=> ?_);refine aM ?_
     by_cases k8:o.kind=8
     ·refine ae (fun _=> ?_) (fun hg=>False.elim (by omega));refine aN ?_;refine aq ?_
      exact⟨kS (by rw[if_pos k8,EC]) hP,hp.x⟩
     ·refine ae (fun hg=>False.elim (by omega)) (fun _=> ?_);refine aM ?_
      by_cases k9:o.kind=9
      ·refine ae (fun _=> ?_) (fun hg=>False.elim (by omega));refine aN ?_;refine aq ?_
       exact⟨kS (by rw[if_neg k8,if_pos k9,EC]) hP,hp.x⟩
      ·refine ae (fun hg=>False.elim (by omega)) (fun _=> ?_);refine aM ?_
       by_cases RP:o.kind=10
       ·refine ae (fun _=> ?_) (fun hg=>False.elim (by omega));refine aN ?_
        refine bQ hp Tryz.func162 (um _ _) ?_;intro w hx hp;refine aq ?_
        refine⟨kS ?_ hP,hp.x⟩
        rw[if_neg k8,if_neg k9,if_pos RP]
        by_cases h:lr cK wd x=lr cK wd y
        ·rw[if_pos h,if_pos (decide_eq_true h)]
        ·rw[if_neg h,if_neg (by rw[decide_eq_false h];decide)]
       ·refine ae (fun hg=>False.elim (by omega)) (fun _=> ?_);refine aM ?_
        refine ae (fun _=> ?_) (fun hg=>False.elim (by omega));refine aN ?_
        refine bQ hp Tryz.func162 (um _ _) ?_;intro w hx hp;refine aq ?_
        refine⟨kS ?_ hP,hp.x⟩
        rw[if_neg k8,if_neg k9,if_neg RP,if_pos (show o.kind=11 by omega)]
        by_cases h:lr cK wd x<lr cK wd y
        ·rw[if_pos h,if_pos (decide_eq_true h)]
        ·rw[if_neg h,if_neg (by rw[decide_eq_false h];decide)]
 | .nS o x y z=>by
  intro pre post fQ ht w0 hO hV
  have RN:=wq hw.2
  have xd:=wD wd
  have hlen:ops.length=pre.length+(cI.nS o x y z).dh.length+post.length:=by rw[fQ];simp only[List.length_append]
  have sY:(cI.nS o x y z).dh.length=x.dh.length+y.dh.length+z.dh.length+1:=by simp[cI.dh];omega
  have oh:=cI.pos x
  have Wv:=cI.pos y
  have hpos3:=cI.pos z
  have ij:ops.getD pre.length default=o:=by
   rw[fQ,List.append_assoc,List.getD_eq_getElem?_getD,List.getElem?_append_right (Nat.le_refl _),Nat.sub_self];rfl
  obtain⟨h1,h2,h3,h4⟩:=ht
  have k12:o.kind=12:=by
   unfold jx at h1
   repeat' split at h1
   all_goals omega
  have sE:(((pre++[o]).length:Nat):Int)=(pre.length:Int)+1:=by simp
  have D7:(((pre++[o]++x.dh).length:Nat):Int)=(((pre++[o]).length+x.dh.length:Nat):Int):=by rw[List.length_append]
  have Sp:(((pre++[o]++x.dh++y.dh).length:Nat):Int)=(((pre++[o]++x.dh).length+y.dh.length:Nat):Int):=by rw[List.length_append]
  refine eu Tryz.Bu ?_;intro C hp;refine bb hp ?_;refine bP hp ?_;intro w ng hx hp;refine az ?_;(repeat(first|(refine ah ?_;refine aI hp ?_)|(refine aH ?_;refine aW hp ?_;intro w hp;refine az ?_)))
  rw[ij] at hp
  have hp:Hp w0 _ [rB ng 132 [.int .i64 o.kind,.int .i64 o.a,.int .i64 o.b]]:=hp
  rw[ij]
  refine ae (fun hg=>False.elim (by omega)) (fun _=> ?_);refine aM ?_
  refine ae (fun hg=>False.elim (by omega)) (fun _=> ?_);refine aM ?_
  refine ae (fun hg=>False.elim (by omega)) (fun _=> ?_);refine aM ?_
  have jd:=fun w h1 h5=>jY ops oa oc cK va vc wd hw jL hv x (pre++[o]) (y.dh++z.dh++post) (by rw[fQ];simp[cI.dh]) h2 w h1 h5
  rw[sE] at jd
  have jM:=fun w h1 h5=>jY ops oa oc cK va vc wd hw jL hv y (pre++[o]++x.dh) (z.dh++post) (by rw[fQ];simp[cI.dh]) h3 w h1 h5
  rw[D7] at jM
  have te:=fun w h1 h5=>jY ops oa oc cK va vc wd hw jL hv z (pre++[o]++x.dh++y.dh) post (by rw[fQ];simp[cI.dh]) h4 w h1 h5
  rw[Sp] at te
  have hE:lr cK wd (.nS o x y z)=if lr cK wd x≠0 then lr cK wd y else lr cK wd z:=rfl
  have hP:((((pre++[o]++x.dh++y.dh).length+z.dh.length:Nat)):Int)=((pre.length+(cI.nS o x y z).dh.length:Nat):Int):=by rw[sY];simp;omega
  refine bQ hp Tryz.func123 (jd _ hp.rd hp.rd) ?_;intro w hx hp;refine aI hp ?_
  refine ae (fun hg=>False.elim (by omega)) (fun _=> ?_);refine aM ?_
  refine bQ hp Tryz.func123 (jM _ hp.rd hp.rd) ?_;intro w hx hp;refine aI hp ?_
  refine ae (fun hg=>False.elim (by omega)) (fun _=> ?_);refine aM ?_
  refine ae (fun hg=>False.elim (by omega)) (fun _=> ?_);refine aM ?_
  refine ae (fun hg=>False.elim (by omega)) (fun _=> ?_);refine aM ?_
  refine ae (fun hg=>False.elim (by omega)) (fun _=> ?_);refine aM ?_
  refine ae (fun hg=>False.elim (by omega)) (fun _=> ?_);refine aM ?_
  refine ae (fun hg=>False.elim (by omega)) (fun _=> ?_);refine aM ?_
  refine ae (fun hg=>False.elim (by omega)) (fun _=> ?_);refine aM ?_
  refine bQ hp Tryz.func123 (te _ hp.rd hp.rd) ?_;intro w hx hp
  rw[hE]
  apply ae<;>intro h
  ·refine aN ?_;refine aq ?_
   exact⟨kS (by rw[if_pos h]) hP,hp.x⟩
  ·refine aM ?_;refine aq ?_
   exact⟨kS (by rw[if_neg h]) hP,hp.x⟩
end Go.Proofs
