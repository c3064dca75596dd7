/- Texts that belong together; each under its stated conditions. -/
import Derived.Test.YtiepmliokblkjaaGreatStep
import Derived.Test.YtiepmliokblkjaaGreatGraph1
import Derived.Test.YtiepmliokblkjaaGreatFam
import Derived.Test.YtiepmliokblkjaaGreatBrf
import Derived.Test.YtiepmliokblkjaaGreatModI
set_option linter.all false
section
namespace Go.Xw
end Go.Xw
end
section
namespace Go.Xw
theorem Kt {w0:World}{L:List bh}{a:Option Addr}{e:TypeId}{α:Type}[Inhabited α]{enc:α->List Value}{s c j:Nat}{X:List α}[he:bX enc s](hj:j<=X.length):gm w0 (rO e s enc a c X::L) (nk a c s j) s enc (X.drop j):=
 ⟨fun w hp=>Sl.TO (hp.sl he) hj hp.own.cap⟩
end Go.Xw
namespace Go.Proofs
open Go.Xw
set_option maxRecDepth 100000
set_option maxHeartbeats 1000000
attribute [local irreducible] ax aE
end Go.Proofs
end
section
namespace Go.Xw
section
variable {S:ak} {sz:Nat} {R:Value->World->Prop} {C:World->Prop} {w w0:World} {F:List bh} {ops:Array Oper} {rest:List Oper} {kk:List Item} {env:Env}
set_option maxHeartbeats 2000000 in
theorem Wg {X:List Int}{t u ty e:TypeId}{a sa0 sa:Option Addr}{c c0 sc n0 m k:Nat}(hp:Hp w0 w (rO e 1 eI a c X::F))(hk:k<X.length){i j:TI}{d:Nat}[hS:S.Ok](hi:tl S.tt t=some i)(hd:i.desc= .slice e)(hj:tl S.tt e=some j)(hz:(aL j.zero).length=j.size)(lQ:j.size=1)(hu:u=t)(hb:j.bytes=8)(hl:X.length<=1000)(ha0:sa0=nk a c 1 0)(hn0:n0=k)(Xi:c0=c)(hsa:sa=nk a c 1 (k+1))(hm:m=X.length-(k+1))(iO:bH ops rest=false)
  (hg:∀a' c' w',Hp w0 w' (rO e 1 eI a' c' (X.eraseIdx k)::F)->ax S sz R C w' (.ops true ops rest kk ((d,.slice a' (X.eraseIdx k).length c')::env))):
  ax S sz R C w (.act (.append t u ty (.slice sa0 n0 c0) (.slice sa m sc)) ⟨true,ops,rest,some d,kk,env⟩):=by
 have e1:sa0=a:=by rw[ha0,HL]
 have sY:Sl w (nk a c 1 (k+1)) (X.drop (k+1)).length 1 (fL eI (X.drop (k+1))):=(Kt (w0:=w0) (L:=F) (e:=e) (enc:=eI) (s:=1) (by omega)).h w hp
 have jP:Hp w0 w (rO e 1 eI a c (X.take k)::F):=Hp.XY (Y:=X.drop k) (by rw[List.take_append_drop];exact hp) tB.len
 have Ku:(X.take k).length=n0:=by rw[List.length_take];omega
 have Sc:(X.drop (k+1)).length=m:=by rw[List.length_drop];omega
 have hee:X.eraseIdx k=X.take k++X.drop (k+1):=List.eraseIdx_eq_take_drop_succ X k
 rw[hee] at hg
 rw[e1,Xi,hsa,<-Ku]
 exact xI (X.drop (k+1)) jP (fun _ hq=>absurd hq (by rw[iO];decide)) Sc hi hd hj hz lQ (by decide) hu tB sY (by rw[Ku,Sc];unfold maxLen;omega) (by rw[Ku,Sc,hb];omega) fun a' c' w' nL _ _=>hg a' c' w' nL
end
theorem vW:∀(l:List Nat) (k:Nat),(cJ l).eraseIdx k=cJ (l.eraseIdx k)
 |[],k=>by simp[cJ]
 |x::l,0=>by simp[cJ]
 |x::l,k+1=>by
  have:=vW l k
  simp only[cJ] at this
  simp[cJ,this]
end Go.Xw
namespace Go.Proofs
open Go.Xw
set_option maxRecDepth 100000
set_option maxHeartbeats 2000000
attribute [local irreducible] ax aE
theorem zN (a:Option Addr)(c n:Nat)(ops:List dK)(hn:ops.length=n)(s:Int)(w0:World)(hR:Rd w0 a 3 kf ops)(hl:ops.length<=1048576):
  bN Tryz.prog 94 [.slice a n c,.int .i64 s] w0 (fun v w=>v= .bool (pn ops s)/\Ext w0 w):=by
 subst hn
 refine eu Tryz.VC ?_;intro C hp
 refine aR [1,7,8,9] (fun(i:Nat)=>[(1,.int .i64 s),(7,.slice a ops.length c),(8,.int .i64 ops.length),(9,.int .i64 (i:Int))])
  (fun i w'=>(i<=ops.length/\∀j,j<i->¬(((ops.getD j default).kind=2\/(ops.getD j default).kind=3)/\(ops.getD j default).a=s))/\Hp w0 w' []) (fun i=>ops.length-i) 0 rfl ⟨⟨by omega,fun j hj=>by omega⟩,hp⟩ ?_
 clear hp
 rintro i w1 ⟨⟨hi,dL⟩,hp⟩ IH C
 refine bL ?_
 apply ae<;>intro bD
 ·have aF:i<ops.length:=by omega
  refine aN ?_;refine bb hp ?_
  refine bP hp ?_;intro w b6 hx hp;refine az ?_;(repeat(first|(refine ah ?_;refine aI hp ?_)|(refine aH ?_;refine aW hp ?_;intro w hp;refine az ?_)))
  (first|apply fx|apply cf)<;>intro h2 e<;>rw[e]<;>clear e;all_goals((repeat(first|(refine aG ?_;first|refine aO ?_|refine ba ?_)|(refine ah ?_;refine aI hp ?_))))
  ·apply ae<;>intro h4
   ·refine aN ?_;refine aq ?_
    exact⟨by rw[mU.2 ⟨_,aK aF,.inl h2,h4⟩],hp.x⟩
   ·refine aM ?_
    refine IH (i+1) _ _ _ (by omega) rfl ⟨⟨by omega,fun j hj=> ?_⟩,hp.drop⟩
    by_cases dC:j<i
    ·exact dL j dC
    ·obtain rfl:j=i:=by omega
     exact fun h=>h4 h.2
  ·(first|apply fx|apply cf)<;>intro h3 e<;>rw[e]<;>clear e;all_goals((repeat(first|(refine aG ?_;first|refine aO ?_|refine ba ?_)|(refine ah ?_;refine aI hp ?_))))
   ·apply ae<;>intro h4
    ·refine aN ?_;refine aq ?_
     exact⟨by rw[mU.2 ⟨_,aK aF,.inr h3,h4⟩],hp.x⟩
    ·refine aM ?_
     refine IH (i+1) _ _ _ (by omega) rfl ⟨⟨by omega,fun j hj=> ?_⟩,hp.drop⟩
     by_cases dC:j<i
     ·exact dL j dC
     ·obtain rfl:j=i:=by omega
      exact fun h=>h4 h.2
   ·refine aM ?_
    refine IH (i+1) _ _ _ (by omega) rfl ⟨⟨by omega,fun j hj=> ?_⟩,hp.drop⟩
    by_cases dC:j<i
    ·exact dL j dC
    ·obtain rfl:j=i:=by omega
     exact fun h=>by rcases h.1 with h|h;exact h2 h;exact h3 h
 ·refine aM ?_;refine aq ?_
  obtain rfl:i=ops.length:=by omega
  refine⟨?_,hp.x⟩
  cases hr:pn ops s with
  |false=>rfl
  |true=>
   obtain⟨o,ho,h⟩:=mU.1 hr
   obtain⟨j,hj,rfl⟩:=List.getElem_of_mem ho
   have:=dL j hj
   rw[List.getD_eq_getElem?_getD,List.getElem?_eq_getElem hj] at this
   exact absurd h this
theorem rK (a:Option Addr)(c n:Nat)(X:List Int)(hn:X.length=n)(w0:World)(hR:Rd w0 a 1 eI X)(hl:X.length<=30)(hb:∀i,i<X.length->0<=X.getD i default/\X.getD i default<=4):
  bN Tryz.prog 37 [.slice a n c] w0 (fun v w=>v= .int .i64 (cT X)/\Ext w0 w):=by
 subst hn
 refine eu Tryz.U6 ?_;intro C hp
 refine aR [3,6,7,8] (fun(i:Nat)=>[(3,.int .i64 (cT (X.take i))),(6,.slice a X.length c),(7,.int .i64 X.length),(8,.int .i64 (i:Int))])
  (fun i w'=>(i<=X.length/\0<=cT (X.take i)/\cT (X.take i)<=4*i)/\Hp w0 w' []) (fun i=>X.length-i) 0 rfl ⟨⟨by omega,by simp[cT],by simp[cT]⟩,hp⟩ ?_
 clear hp
 rintro i w1 ⟨⟨hi,h0,h1⟩,hp⟩ IH C
 refine bL ?_
 apply ae<;>intro bD
 ·have aF:i<X.length:=by omega
  have OJ:=hb i aF
  have eN:cT (X.take (i+1))=cT (X.take i)+X.getD i default:=by rw[dm aF,oI]
  refine aN ?_;refine bb hp ?_
  exact IH (i+1) _ _ _ (by omega) (by rw[eN];rfl) ⟨⟨by omega,by omega,by omega⟩,hp⟩
 ·refine aM ?_;refine aq ?_
  obtain rfl:i=X.length:=by omega
  rw[List.take_length]
  exact⟨rfl,hp.x⟩
theorem iZ (x:bm)(k:Int)(w0:World)(hM:iJ w0 x)(hl:x.sg.length<=30):
  bN Tryz.prog 18 [x.v,.int .i64 k] w0 (fun v w=>∃b c,v= .slice b (ee x.n k).length c/\Hp w0 w [rO 3 1 eI b c (ee x.n k)]):=by
 refine eu Tryz.UW ?_;intro C hp;skip;refine bP hp ?_;intro w b2 hx hp;refine az ?_;refine aI hp ?_
 refine ae (fun hg=>False.elim (by omega)) (fun _=> ?_);refine aM ?_;refine aI hp ?_
 refine eg [1,5,13,14,15] (fun(i:Nat) (b:Option Addr) (c:Nat)=>[(1,.int .i64 k),(5,.slice b (pR (x.sg.take i) k).length c),(13,.slice x.sa x.sg.length x.sc),(14,.int .i64 x.sg.length),(15,.int .i64 (i:Int))])
  (fun i b c w'=>i<=x.sg.length/\Hp w0 w' [rO 3 1 eI b c (pR (x.sg.take i) k)]) (fun i _ _=>x.sg.length-i) 0 none 0 rfl ⟨by omega,(Hp.tk hp 0).eH (Ext.refl _) (dk.nil _ _ _ _ _)⟩ ?_
 clear hp
 rintro i b c w1 ⟨hi,hp⟩ IH C
 have AL:=po (x.sg.take i) k
 rw[List.length_take] at AL
 obtain⟨P,hP⟩:∃P,P=pR (x.sg.take i) k:=⟨_,rfl⟩
 rw[<-hP] at hp AL⊢
 refine bL ?_
 apply ae<;>intro bD
 ·have aF:i<x.sg.length:=by omega
  have eT:=dm aF
  refine aN ?_;refine bb hp ?_
  refine bP hp ?_;intro w b7 hx hp;refine az ?_;(repeat(first|(refine ah ?_;refine aI hp ?_)|(refine aH ?_;refine aW hp ?_;intro w hp;refine az ?_)))
  apply ae<;>intro hk
  ·have eN:pR (x.sg.take (i+1)) k=P++[(x.sg.getD i default).width]:=by rw[eT,rA hk,<-hP]
   refine aN ?_;(repeat(first|(refine ah ?_;refine aI hp ?_)|(refine bK ?_;refine gG hp ?_;intro w _ hx hp;refine az ?_)))
   refine gT hp ?_;intro b' c' w hp bZ;refine az ?_
   refine IH (i+1) b' c' _ _ _ (by omega) (by rw[eN];rfl) ⟨by omega,?_⟩
   rw[eN]
   exact hp.drop.drop
  ·have eN:pR (x.sg.take (i+1)) k=P:=by rw[eT,yn hk,<-hP]
   refine aM ?_
   refine IH (i+1) b c _ _ _ (by omega) (by rw[eN];rfl) ⟨by omega,?_⟩
   rw[eN]
   exact hp.drop
 ·refine aM ?_;refine aq ?_
  obtain rfl:i=x.sg.length:=by omega
  have eA:P=ee x.n k:=by rw[hP,List.take_length];rfl
  rw[eA] at hp⊢
  exact⟨b,c,rfl,hp⟩
theorem pC (l:List Nat)(i:Nat):cJ (l++[i])=cJ l++[(i:Int)]:=by simp[cJ]
def uE (n:aQ)(i:Nat):List Nat:=(List.range i).filter fun j=>decide (aY n (dT n j)≠3)
theorem He {n:aQ}{i:Nat}(h:aY n (dT n i)≠3):uE n (i+1)=uE n i++[i]:=by
 unfold uE
 rw[List.range_succ,List.filter_append,List.filter_cons_of_pos (by simp[h])];rfl
theorem Kv {n:aQ}{i:Nat}(h:aY n (dT n i)=3):uE n (i+1)=uE n i:=by
 unfold uE
 rw[List.range_succ,List.filter_append,List.filter_cons_of_neg (by simp[h])];simp
theorem Hf (n:aQ)(i:Nat):(uE n i).length<=i:=by
 have:=List.length_filter_le (fun j=>decide (aY n (dT n j)≠3)) (List.range i)
 rw[List.length_range] at this
 exact this
theorem pT (x:bm)(w0:World)(hM:iJ w0 x)(hS:qL x.n)(hW:qM x.n):
  bN Tryz.prog 39 [x.v] w0 (fun v w=>∃b c,v= .tuple ⟨[.slice b (Lg x.n).1.length c,.bool (Lg x.n).2]⟩/\Hp w0 w [rO 3 1 eI b c (cJ (Lg x.n).1)]):=by
 have jg:x.n.ins=[]↔x.ins=[]:=by show aU x.ins=[]↔_;unfold aU;rw[List.map_eq_nil_iff]
 have s4:x.ins.length<=1048576:=by have:=hS.ins;rw[x.RX] at this;exact this
 refine eu Tryz.U8 ?_;intro C hp;skip;refine bP hp ?_;intro w b1 hx hp;refine az ?_;refine aI hp ?_
 by_cases rZ:x.ins=[]
 ·have pW:x.ins.length=0:=by rw[rZ];rfl
  refine iB (fun hg=>False.elim (by have hg:=of_decide_eq_true hg;omega)) (fun hg=> ?_);rw[hg];clear hg;(repeat(first|(refine aG ?_;refine aO ?_)|(refine ah ?_;refine aI hp ?_)))
  refine lX hp bm.cs [x] ?_;intro w bd hx hp;refine az ?_;(repeat(refine aO ?_))
  by_cases hm:aV x.n
  ·refine bQ hp Tryz.func93 ((yY (some ⟨bd,0,none⟩) 1 [x] rfl x rfl rZ _ hp.rd hp.mod hS hW).tt (cR.2 hm)) ?_;intro w hx hp;refine aO ?_
   refine aM ?_;refine aI hp ?_
   have hp:=hp.drop
   have l2:x.aP.length<=30:=by have:=hm.l2;rw[x.cC] at this;exact this
   refine eg [1,4,5,26,27,28] (fun(i:Nat) (b:Option Addr) (c:Nat)=>[(1,.pointer (some ⟨b1,0,none⟩)),(4,.slice b (cJ (uE x.n i)).length c),(5,.slice none 0 0),(26,.slice x.aa x.aP.length x.ac),(27,.int .i64 x.aP.length),(28,.int .i64 (i:Int))])
    (fun i b c w'=>i<=x.aP.length/\Hp w0 w' [rO 3 1 eI b c (cJ (uE x.n i)),rB b1 41 x.cs]) (fun i _ _=>x.aP.length-i) 0 none 0 rfl ⟨by omega,hp.eH (Ext.refl _) (dk.nil _ _ _ _ _)⟩ ?_
   clear hp
   rintro i b c w1 ⟨hi,hp⟩ IH C
   have hTl:=Hf x.n i
   have hTn:=kQ (uE x.n i)
   obtain⟨T,hT⟩:∃T,T=cJ (uE x.n i):=⟨_,rfl⟩
   rw[<-hT] at hp hTn⊢
   refine bL ?_
   apply ae<;>intro bD
   ·have aF:i<x.aP.length:=by omega
    have CJ:=hm.aP i (by rw[x.cC];exact aF)
    rw[p8] at CJ
    have s8:=CJ.1
    unfold dr at s8
    change 0<=(x.aP.getD i default).tg/\(x.aP.getD i default).tg<x.sg.length at s8
    have ek:aY x.n (dT x.n i)=(x.sg.getD (x.aP.getD i default).tg.toNat default).kind:=by unfold dT;rw[p8];rfl
    refine aN ?_;refine bb hp ?_
    refine bP hp ?_;intro w b7 hx hp;refine az ?_;(repeat(first|(refine ah ?_;first|refine aI hp ?_|refine rS hp ?_)|(refine aH ?_;refine aW hp ?_;intro w hp;refine az ?_)))
    apply ae<;>intro hk
    ·have eN:cJ (uE x.n (i+1))=T++[(i:Int)]:=by rw[He (by rw[ek];exact hk),pC,<-hT]
     refine aN ?_;refine gG hp ?_;intro w _ hx hp;refine az ?_
     refine gT hp ?_;intro b' c' w hp bZ;refine az ?_
     refine IH (i+1) b' c' _ _ _ (by omega) (by rw[eN];rfl) ⟨by omega,?_⟩
     rw[eN]
     exact hp.drop.drop
    ·have eN:cJ (uE x.n (i+1))=T:=by rw[Kv (by rw[ek];exact Decidable.not_not.1 hk),<-hT]
     refine aM ?_
     refine IH (i+1) b c _ _ _ (by omega) (by rw[eN];rfl) ⟨by omega,?_⟩
     rw[eN]
     exact hp.drop
   ·refine aM ?_
    obtain rfl:i=x.aP.length:=by omega
    clear IH
    have e0:uE x.n x.aP.length=lv x.n:=by unfold uE lv;rw[x.cC]
    rw[hT,e0] at hp⊢
    clear hT T hTn
    rw[e0] at hTl
    refine kg [1,4,5] (fun(todo:List Nat) (out:List Nat) (ta:Option Addr) (tc:Nat) (oa:Option Addr) (oc:Nat)=>[(1,.pointer (some ⟨b1,0,none⟩)),(4,.slice ta (cJ todo).length tc),(5,.slice oa (cJ out).length oc)])
     (fun todo out ta tc oa oc w'=>(qN x.n todo out/\rW x.n todo.length todo out=gQ x.n)/\Hp w0 w' [rO 3 1 eI ta tc (cJ todo),rO 3 1 eI oa oc (cJ out),rB b1 41 x.cs]) (fun todo _ _ _ _ _=>todo.length) (lv x.n) [] b c none 0 rfl ⟨⟨ym x.n,(tZ (jg.2 rZ) hm).symm⟩,(hp.eH (Ext.refl _) (dk.nil _ _ _ _ _)).f1⟩ ?_
    clear hp
    rintro todo out ta tc oa oc w1 ⟨⟨Ce,qb⟩,hp⟩ IH C
    have Ku:todo.length<=x.aP.length:=by have:=Ce.len;omega
    have jL:out.length<=x.aP.length:=by have:=Ce.len;omega
    have en:=kQ todo
    have eo:=kQ out
    refine bL ?_
    apply ae<;>intro oh
    ·have htp:0<todo.length:=by omega
     refine aN ?_
     refine aR [1,4,5,8,49,50,51] (fun(k:Nat)=>[(1,.pointer (some ⟨b1,0,none⟩)),(4,.slice ta (cJ todo).length tc),(5,.slice oa (cJ out).length oc),(8,.int .i64 (-1)),(49,.slice ta (cJ todo).length tc),(50,.int .i64 (cJ todo).length),(51,.int .i64 (k:Int))])
      (fun k w'=>(k<=todo.length/\∀j,j<k->iK x.n todo (todo.getD j 0)=false)/\Hp w0 w' [rO 3 1 eI ta tc (cJ todo),rO 3 1 eI oa oc (cJ out),rB b1 41 x.cs]) (fun k=>todo.length-k) 0 rfl ⟨⟨by omega,fun j hj=>by omega⟩,hp⟩ ?_
     clear hp
     rintro k w1 ⟨⟨hk,Ey⟩,hp⟩ M5 C
     refine bL ?_
     apply ae<;>intro bD
     ·have u7:k<todo.length:=by omega
      have vj:todo.getD k 0∈todo:=by
       rw[List.getD_eq_getElem?_getD,List.getElem?_eq_getElem u7];exact List.getElem_mem u7
      obtain⟨i,hi⟩:∃i,i=todo.getD k 0:=⟨_,rfl⟩
      have M6:=Ce.MG _ vj
      rw[x.cC,<-hi] at M6
      have:Lf i x.aP:=⟨M6.1⟩
      have hia1:=M6.1
      refine aN ?_;refine bb hp ?_
      rw[mu,<-hi]
      refine gK [1,4,5,8,9,10,11,49,50,51,56,57,58] (fun(j:Nat) (fr:Bool)=>[(1,.pointer (some ⟨b1,0,none⟩)),(4,.slice ta (cJ todo).length tc),(5,.slice oa (cJ out).length oc),(8,.int .i64 (-1)),(9,.int .i64 (k:Int)),(10,.int .i64 (i:Int)),(11,.bool fr),(49,.slice ta (cJ todo).length tc),(50,.int .i64 (cJ todo).length),(51,.int .i64 (k:Int)),(56,.slice ta (cJ todo).length tc),(57,.int .i64 (cJ todo).length),(58,.int .i64 (j:Int))])
       (fun j fr w'=>(j<=todo.length/\fr=(todo.take j).all fun q=> !pn (opsL x.n i) (dT x.n q))/\Hp w0 w' [rO 3 1 eI ta tc (cJ todo),rO 3 1 eI oa oc (cJ out),rB b1 41 x.cs]) (fun j _=>todo.length-j) 0 true rfl ⟨⟨by omega,rfl⟩,hp⟩ ?_
      clear hp
      rintro j fr w1 ⟨⟨hj,La⟩,hp⟩ IH6 C
      refine bL ?_
      apply ae<;>intro jK
      ·have V3:j<todo.length:=by omega
       have Wh:todo.getD j 0∈todo:=by
        rw[List.getD_eq_getElem?_getD,List.getElem?_eq_getElem V3];exact List.getElem_mem V3
       obtain⟨q,hq⟩:∃q,q=todo.getD j 0:=⟨_,rfl⟩
       have Kj:=Ce.MG _ Wh
       rw[x.cC,<-hq] at Kj
       have M7:=Kj.1
       have eJ:((todo.take (j+1)).all fun q=> !pn (opsL x.n i) (dT x.n q))=(fr&& !pn (opsL x.n i) (dT x.n q)):=by
        have h0:todo.getD j default=todo.getD j 0:=rfl
        rw[dm V3,List.all_append,h0,<-hq,<-La]
        simp
       have Fz:(x.aP.getD i default).ops.length<=1048576:=by have:=hS.ops i (by rw[x.cC];exact hia1);rw[x.mR] at this;exact this
       refine aN ?_;refine bb hp ?_
       rw[mu,<-hq]
       cases hb:fr with
       |true=>
        subst hb
        refine j7 hp ?_;intro w hx hp;have hs:=hp;(repeat(first|(refine aG ?_;refine cx rfl rfl rfl ?_)|(refine ah ?_;first|refine dN ?_|refine lH rfl (by omega) rfl rfl rfl ?_)))
        refine gq ?_
        refine oW Tryz.func94 (zN _ _ _ (x.aP.getD i default).ops rfl (x.aP.getD q default).tg _ hp.rd Fz) ?_;rintro _ w ⟨rfl,hx⟩;have hp:=hp.ext hx;have hs:=hs.ext hx;refine⟨fun _=>hs,?_⟩;refine fO ?_;refine cx rfl rfl rfl ?_
        skip
        refine IH6 (j+1) _ _ _ _ (by omega) rfl ⟨⟨by omega,?_⟩,hp⟩
        rw[eJ,Bool.true_and]
        unfold opsL dT
        rw[p8,p8]
       |false=>
        subst hb
        refine j7 hp ?_;intro w hx hp;have hs:=hp;(repeat(refine dB rfl rfl rfl ?_))
        skip
        refine IH6 (j+1) _ _ _ _ (by omega) rfl ⟨⟨by omega,?_⟩,hp⟩
        rw[eJ,Bool.false_and]
      ·obtain rfl:j=todo.length:=by omega
       rw[List.take_length] at La
       have La:fr=iK x.n todo i:=La
       clear IH6
       refine aM ?_
       cases hb:fr with
       |true=>
        refine aN ?_
        refine ae (fun hg=>False.elim (by omega)) (fun _=> ?_);refine aM ?_;(repeat(first|(refine ah ?_;refine bb hp ?_)|(refine bK ?_;refine gG hp ?_;intro w _ hx hp;refine az ?_)))
        refine gT hp ?_;intro M8 pD w hp bZ;refine az ?_
        have Wi:cJ out++[(cJ todo).getD k default]=cJ (out++[todo.getD k 0]):=by rw[pC,mu]
        rw[Wi] at hp⊢
        have htc:(cJ todo).length<=tc:=dk.cap hp.g1
        refine j7 hp ?_;intro w hx hp;have hs:=hp
        refine Wg (k:=k) hp.f1 (by omega) rfl rfl rfl rfl rfl rfl rfl (by omega) rfl rfl rfl rfl rfl (by kernel_rfl) ?_
        intro ta' Sd w hp
        rw[vW] at hp⊢
        refine fO ?_
        skip
        have Wj:todo.findIdx? (iK x.n todo)=some k:=by
         have g0:∀j (hj:j<todo.length),todo.getD j 0=todo[j]:=fun j hj=>by rw[List.getD_eq_getElem?_getD,List.getElem?_eq_getElem hj];rfl
         refine List.findIdx?_eq_some_iff_getElem.2 ⟨u7,?_,fun j hj=> ?_⟩
         ·rw[<-g0 k u7,<-hi,<-La];exact hb
         ·have:=Ey j hj
          rw[g0 j (by omega)] at this
          rw[this];decide
        have IM:(todo.eraseIdx k).length=todo.length-1:=List.length_eraseIdx_of_lt u7
        refine IH (todo.eraseIdx k) (out++[todo.getD k 0]) ta' Sd M8 pD _ _ _ (by omega) rfl ⟨⟨Ce.step u7,?_⟩,hp.f1.drop⟩
        rw[<-qb,show todo.length=(todo.length-1)+1 by omega,IM,rW,Wj]
       |false=>
        refine aM ?_
        refine M5 (k+1) _ _ _ (by omega) rfl ⟨⟨by omega,fun j hj=> ?_⟩,hp⟩
        by_cases dC:j<k
        ·exact Ey j dC
        ·obtain rfl:j=k:=by omega
         rw[<-hi,<-La,hb]
     ·obtain rfl:k=todo.length:=by omega
      clear M5 IH
      refine aM ?_
      have Kw:todo.findIdx? (iK x.n todo)=none:=AD Ce fun j _ hh=>by
       obtain⟨q,hq,rfl⟩:=List.getElem_of_mem hh.1
       have:=Ey q hq
       rw[List.getD_eq_getElem?_getD,List.getElem?_eq_getElem hq] at this
       have h2:=hh.2
       rw[show(some todo[q]).getD 0=todo[q] from rfl] at this
       rw[this] at h2
       exact Bool.noConfusion h2
      have he:gQ x.n=none:=by
       rw[<-qb,show todo.length=(todo.length-1)+1 by omega,rW,Kw]
      rw[lA he]
      refine aN ?_;refine aq ?_
      exact⟨none,0,rfl,(Hp.tk hp 0).eH (Ext.refl _) (dk.nil _ _ _ _ _)⟩
    ·refine aM ?_;refine aq ?_
     obtain rfl:todo=[]:=List.length_eq_zero_iff.1 (by omega)
     have he:gQ x.n=some out:=by rw[<-qb];rfl
     rw[mV he]
     exact⟨oa,oc,by rw[eo],hp.drop.tk 1⟩
  ·refine bQ hp Tryz.func93 ((yY (some ⟨bd,0,none⟩) 1 [x] rfl x rfl rZ _ hp.rd hp.mod hS hW).ff (bt hm)) ?_;intro w hx hp;refine aO ?_
   have he:=lA (ub (n:=x.n) (fun h=>hm h.2))
   rw[he]
   refine aN ?_;refine aq ?_
   exact⟨none,0,rfl,(Hp.tk hp 0).eH (Ext.refl _) (dk.nil _ _ _ _ _)⟩
 ·have pW:0<x.ins.length:=List.length_pos_iff.2 rZ
  refine iB (fun hg=> ?_) (fun hg=>False.elim (by have hg:=of_decide_eq_false hg;omega));rw[hg];clear hg;(repeat(refine ba ?_))
  have he:=lA (ub (n:=x.n) (fun h=>rZ (jg.1 h.1)))
  rw[he]
  refine aN ?_;refine aq ?_
  exact⟨none,0,rfl,(Hp.tk hp 0).eH (Ext.refl _) (dk.nil _ _ _ _ _)⟩
theorem DZ {x:bm}(hm:aV x.n)(k:Int):(ee x.n k).length<=30/\(∀i,i<(ee x.n k).length->0<=(ee x.n k).getD i default/\(ee x.n k).getD i default<=4):=by
 refine⟨Nat.le_trans (po _ _) hm.l1,fun i hi=> ?_⟩
 obtain⟨s,h1,_,h3⟩:=GY (aK hi)
 obtain⟨j,hj,rfl⟩:=List.getElem_of_mem h1
 have:=(hm.sg j hj).2.1
 rw[List.getD_eq_getElem?_getD,List.getElem?_eq_getElem hj] at this
 show 0<=(pR x.n.sg k).getD i default/\(pR x.n.sg k).getD i default<=4
 rw[<-h3]
 exact this
theorem FA:∀(X:List Int),(∀i,i<X.length->0<=X.getD i default/\X.getD i default<=4)->∀i:Nat,i<=X.length->0<=cT (X.take i)/\cT (X.take i)<=4*i
 |X,h,0,_=>by simp[cT]
 |X,h,i+1,hi=>by
  have h1:=FA X h i (by omega)
  have h2:=h i (by omega)
  rw[dm (by omega),oI]
  omega
theorem Kx {n:aQ}(hm:aV n){s:Int}(h:dr n s):0<=l6 n s/\l6 n s<=4:=by
 unfold dr at h
 exact(hm.sg s.toNat (by omega)).2.1
theorem FB {n:aQ}(hm:aV n):∀i:Nat,i<=n.ms.length->0<=pq n i/\pq n i<=4*i
 |0,_=>by simp[pq]
 |i+1,hi=>by
  have h1:=FB hm i (by omega)
  have h2:=Kx hm (hm.ms i (by omega)).2.2.2.1
  unfold pq
  omega
theorem ug (x:bm)(w0:World)(hM:iJ w0 x)(hS:qL x.n)(hW:qM x.n):
  bN Tryz.prog 36 [x.v] w0 (fun v w=>v= .bool (fB x.n)/\Ext w0 w):=by
 refine eu Tryz.U5 ?_;intro C hp;skip;refine bP hp ?_;intro w b1 hx hp;refine az ?_;refine aI hp ?_
 refine cy Tryz.func39 (pT x _ hp.mod hS hW) ?_;rintro _ w ⟨be,ce,rfl,hq⟩;have hx:=hq.x;have hp:=hp.bJ hq;refine az ?_
 cases qb:gQ x.n with
 |none=>
  rw[lA qb]
  have cQ:¬ch x.n:=fun h=>by have:=h.ev;rw[qb] at this;exact Bool.noConfusion this
  refine aN ?_;refine aq ?_
  exact⟨by unfold fB;rw[bt cQ],hp.x⟩
 |some l=>
  obtain⟨⟨_,hm⟩,_,_⟩:=iW qb
  rw[mV qb] at hp⊢
  have l2:x.aP.length<=30:=by have:=hm.l2;rw[x.cC] at this;exact this
  have l1:x.sg.length<=30:=hm.l1
  have l3:x.ms.length<=2:=hm.l3
  have hp:Hp w0 _ [rB b1 41 x.cs]:=hp.drop
  refine aM ?_;refine aI hp ?_
  refine aR [1,20,21,22] (fun(i:Nat)=>[(1,.pointer (some ⟨b1,0,none⟩)),(20,.slice x.sa x.sg.length x.sc),(21,.int .i64 x.sg.length),(22,.int .i64 (i:Int))])
   (fun i w'=>(i<=x.sg.length/\∀j,j<i->(x.sg.getD j default).width≠0)/\Hp w0 w' [rB b1 41 x.cs]) (fun i=>x.sg.length-i) 0 rfl ⟨⟨by omega,fun j hj=>by omega⟩,hp⟩ ?_
  clear hp
  rintro i w1 ⟨⟨hi,Ky⟩,hp⟩ IH C
  refine bL ?_
  apply ae<;>intro bD
  ·have aF:i<x.sg.length:=by omega
   refine aN ?_;refine bb hp ?_
   refine bP hp ?_;intro w b6 hx hp;refine az ?_;(repeat(first|(refine ah ?_;refine aI hp ?_)|(refine aH ?_;refine aW hp ?_;intro w hp;refine az ?_)))
   apply ae<;>intro hz
   ·have cQ:¬ch x.n:=fun h=>h.wid i aF hz
    refine aN ?_;refine aq ?_
    exact⟨by unfold fB;rw[bt cQ],hp.x⟩
   ·refine aM ?_
    refine IH (i+1) _ _ _ (by omega) rfl ⟨⟨by omega,fun j hj=> ?_⟩,hp.drop⟩
    by_cases dC:j<i
    ·exact Ky j dC
    ·obtain rfl:j=i:=by omega
     exact hz
  ·refine aM ?_;refine aI hp ?_
   obtain rfl:i=x.sg.length:=by omega
   clear IH
   refine aR [1,31,32,33] (fun(i:Nat)=>[(1,.pointer (some ⟨b1,0,none⟩)),(31,.slice x.aa x.aP.length x.ac),(32,.int .i64 x.aP.length),(33,.int .i64 (i:Int))])
    (fun i w'=>(i<=x.aP.length/\∀j,j<i->¬∃o,o∈(x.aP.getD j default).ops/\o.kind=1)/\Hp w0 w' [rB b1 41 x.cs]) (fun i=>x.aP.length-i) 0 rfl ⟨⟨by omega,fun j hj=>by omega⟩,hp⟩ ?_
   clear hp
   rintro i w1 ⟨⟨hi,IQ⟩,hp⟩ IH C
   refine bL ?_
   apply ae<;>intro bD
   ·have aF:i<x.aP.length:=by omega
    have Xm:=hM.aP.at_ aF
    have Fz:(x.aP.getD i default).ops.length<=1048576:=by have:=hS.ops i (by rw[x.cC];exact aF);rw[x.mR] at this;exact this
    refine aN ?_;refine bb hp ?_
    refine bP hp ?_;intro w b8 hx hp;refine az ?_;(repeat(first|(refine ah ?_;refine aI hp ?_)|(refine aH ?_;refine aW hp ?_;intro w hp;refine az ?_)))
    by_cases M9:∃o,o∈(x.aP.getD i default).ops/\o.kind=1
    ·refine bQ hp Tryz.func92 ((yl _ _ _ (x.aP.getD i default).ops rfl _ hp.rd Fz).tt (DD M9)) ?_;intro w hx hp
     have cQ:¬ch x.n:=fun h=>h.par i (by rw[x.cC];exact aF) (by rw[x.mR];exact M9)
     refine aN ?_;refine aq ?_
     exact⟨by unfold fB;rw[bt cQ],hp.x⟩
    ·refine bQ hp Tryz.func92 ((yl _ _ _ (x.aP.getD i default).ops rfl _ hp.rd Fz).ff (GW M9)) ?_;intro w hx hp
     refine aM ?_
     refine IH (i+1) _ _ _ (by omega) rfl ⟨⟨by omega,fun j hj=> ?_⟩,hp.drop⟩
     by_cases dC:j<i
     ·exact IQ j dC
     ·obtain rfl:j=i:=by omega
      exact M9
   ·refine aM ?_;refine aI hp ?_
    obtain rfl:i=x.aP.length:=by omega
    clear IH
    have p3:=DZ hm 3
    have q3:=FA _ p3.2 _ (Nat.le_refl _)
    rw[List.take_length] at q3
    refine cy Tryz.func18 (iZ x 3 _ hp.mod l1) ?_;rintro _ w ⟨bw,cw,rfl,hq⟩;have hx:=hq.x;have hp:=hp.bJ hq;refine az ?_
    refine bQ hp Tryz.func37 (rK bw cw _ (ee x.n 3) rfl _ hp.rd p3.1 p3.2) ?_;intro w hx hp;refine aI hp ?_
    refine aR [1,9,45,46,47] (fun(i:Nat)=>[(1,.pointer (some ⟨b1,0,none⟩)),(9,.int .i64 (cT (ee x.n 3)+pq x.n i)),(45,.slice x.ma x.ms.length x.mc),(46,.int .i64 x.ms.length),(47,.int .i64 (i:Int))])
     (fun i w'=>(i<=x.ms.length/\∀j,j<i->l6 x.n (x.ms.getD j default).addr=2/\l6 x.n (x.ms.getD j default).write=1/\l6 x.n (x.ms.getD j default).data=l6 x.n (x.ms.getD j default).out)/\Hp w0 w' [rB b1 41 x.cs]) (fun i=>x.ms.length-i) 0 (by rw[show pq x.n 0=0 from rfl,Int.add_zero];rfl) ⟨⟨by omega,fun j hj=>by omega⟩,hp.drop⟩ ?_
    clear hp
    rintro i w1 ⟨⟨hi,Hd⟩,hp⟩ IH C
    have bM:=FB hm i hi
    refine bL ?_
    apply ae<;>intro bD
    ·have aF:i<x.ms.length:=by omega
     have hmi:=hm.ms i aF
     obtain⟨i1,i2,i3,i4,_⟩:=hmi
     change dr x.n (x.ms.getD i default).addr at i1
     change dr x.n (x.ms.getD i default).data at i2
     change dr x.n (x.ms.getD i default).write at i3
     change dr x.n (x.ms.getD i default).out at i4
     have bo:=Kx hm i4
     unfold dr at i1 i2 i3 i4
     change 0<=(x.ms.getD i default).addr/\(x.ms.getD i default).addr<x.sg.length at i1
     change 0<=(x.ms.getD i default).data/\(x.ms.getD i default).data<x.sg.length at i2
     change 0<=(x.ms.getD i default).write/\(x.ms.getD i default).write<x.sg.length at i3
     change 0<=(x.ms.getD i default).out/\(x.ms.getD i default).out<x.sg.length at i4
     change 0<=(x.sg.getD (x.ms.getD i default).out.toNat default).width/\(x.sg.getD (x.ms.getD i default).out.toNat default).width<=4 at bo
     refine aN ?_;refine bb hp ?_
     refine bP hp ?_;intro w wX hx hp;refine az ?_;refine aW hp ?_;intro w hp;refine az ?_
     refine j7 hp ?_;intro w hx hp;have hs:=hp;(repeat(refine ah ?_;first|refine dN ?_|refine iC rfl (by omega) (by omega) rfl rfl rfl ?_))
     (first|apply fx|apply cf)<;>intro h1 e<;>rw[e]<;>clear e;all_goals((repeat(first|(refine aG ?_;first|refine cx rfl rfl rfl ?_|refine dB rfl rfl rfl ?_)|(refine ah ?_;first|refine dN ?_|refine iC rfl (by omega) (by omega) rfl rfl rfl ?_))))
     ·skip
      have cQ:¬ch x.n:=fun h=>h1 (h.ms i aF).1
      refine aN ?_;refine aq ?_
      exact⟨by unfold fB;rw[bt cQ],hp.x⟩
     ·(first|apply fx|apply cf)<;>intro h2 e<;>rw[e]<;>clear e;all_goals((repeat(first|(refine aG ?_;first|refine cx rfl rfl rfl ?_|refine dB rfl rfl rfl ?_)|(refine ah ?_;first|refine dN ?_|refine iC rfl (by omega) (by omega) rfl rfl rfl ?_))))
      ·skip
       have cQ:¬ch x.n:=fun h=>h2 (h.ms i aF).2.1
       refine aN ?_;refine aq ?_
       exact⟨by unfold fB;rw[bt cQ],hp.x⟩
      ·skip
       apply ae<;>intro h3
       ·have cQ:¬ch x.n:=fun h=>h3 (h.ms i aF).2.2
        refine aN ?_;refine aq ?_
        exact⟨by unfold fB;rw[bt cQ],hp.x⟩
       ·refine aM ?_;(repeat(refine ah ?_;first|refine aI hp ?_|refine rS hp ?_))
        refine IH (i+1) _ _ _ (by omega) (by rw[pq,<-Int.add_assoc];rfl) ⟨⟨by omega,fun j hj=> ?_⟩,hp.drop⟩
        by_cases dC:j<i
        ·exact Hd j dC
        ·obtain rfl:j=i:=by omega
         exact⟨Decidable.not_not.1 h1,Decidable.not_not.1 h2,Decidable.not_not.1 h3⟩
    ·refine aM ?_;refine aI hp ?_
     obtain rfl:i=x.ms.length:=by omega
     clear IH
     have p0:=DZ hm 0
     have p1:=DZ hm 1
     refine cy Tryz.func18 (iZ x 0 _ hp.mod l1) ?_;rintro _ w ⟨bw0,cw0,rfl,hq⟩;have hx:=hq.x;have hp:=hp.bJ hq;refine az ?_
     refine bQ hp Tryz.func37 (rK bw0 cw0 _ (ee x.n 0) rfl _ hp.rd p0.1 p0.2) ?_;intro w hx hp
     (first|apply fx|apply cf)<;>intro h0 e<;>rw[e]<;>clear e;all_goals((repeat(first|(refine aG ?_;first|refine aO ?_|refine ba ?_)|(refine ah ?_;refine aI hp ?_)|refine aq ?_)))
     ·refine cy Tryz.func18 (iZ x 1 _ hp.mod l1) ?_;rintro _ w ⟨Wk,Wl,rfl,hq⟩;have hx:=hq.x;have hp:=hp.bJ hq;refine az ?_;refine aO ?_
      refine bQ hp Tryz.func37 (rK Wk Wl _ (ee x.n 1) rfl _ hp.rd p1.1 p1.2) ?_;intro w hx hp;refine aO ?_
      (first|apply fx|apply cf)<;>intro h1 e<;>rw[e]<;>clear e;all_goals((repeat(first|(refine aG ?_;first|refine aO ?_|refine ba ?_)|refine aq ?_)))
      ·refine⟨?_,hp.x⟩
       by_cases h2:cT (ee x.n 3)+pq x.n x.ms.length<=12
       ·have aS:ch x.n:=⟨by rw[qb];rfl,Ky,fun j hj=>by rw[x.mR];exact IQ j (by rw[x.cC] at hj;exact hj),Hd,h0,h1,h2⟩
        unfold fB
        rw[cR.2 aS,decide_eq_true h2]
       ·unfold fB
        rw[bt (fun h=>h2 h.s3),decide_eq_false h2]
      ·exact⟨by unfold fB;rw[bt (fun h=>h1 h.s1)],hp.x⟩
     ·exact⟨by unfold fB;rw[bt (fun h=>h0 h.s0)],hp.x⟩
end Go.Proofs
end
