/- Texts that belong together; each under its stated conditions. -/
import Derived.Test.YtiepmliokblkjaaGreatBrf
import Derived.Test.YtiepmliokblkjaaGreatFlatI
set_option linter.all false
section
namespace Go.Xw
def Ii (n:aQ)(s:Int):Int:=if 0<=s/\s<n.sg.length then aY n s else-1
theorem wY {n:aQ}{s:Int}(h:dr n s):Ii n s=aY n s:=if_pos h
theorem vn {n:aQ}{s:Int}(h:¬dr n s):Ii n s= -1:=if_neg h
theorem yZ {n:aQ}{s:Int}:(Ii n s=1\/Ii n s=2)↔si n s:=by
 by_cases h:dr n s
 ·rw[wY h]
  exact⟨fun h2=>⟨h,h2⟩,fun h2=>h2.2⟩
 ·rw[vn h]
  exact⟨fun h2=>by omega,fun h2=>absurd h2.1 h⟩
noncomputable def AM (n:aQ)(todo:List Nat):List Bool:=vO n.sg.length fun s=>DE n todo s
theorem uh (n:aQ)(todo:List Nat):(AM n todo).length=n.sg.length:=ri _ _
theorem ui {n:aQ}{todo:List Nat}{s:Nat}(h:s<n.sg.length):(AM n todo).getD s default=true↔DE n todo s:=jT h
theorem M' (n:aQ):AM n []=List.replicate n.sg.length false:=by
 refine(mJ (by simp) fun j hj=> ?_).symm
 constructor
 ·intro h;simp[List.getD_eq_getElem?_getD,hj] at h
 ·rintro⟨q,hq,_⟩;cases hq
theorem Na {n:aQ}{T:List Nat}{i:Nat}(hs:dr n (dT n i)):(AM n T).set (dT n i).toNat true=AM n (T++[i]):=by
 unfold dr at hs
 refine mJ (by rw[List.length_set,uh]) fun j hj=> ?_
 rw[cH (by rw[uh];omega)]
 by_cases h:j=(dT n i).toNat
 ·rw[if_pos h]
  exact⟨fun _=>⟨i,by simp,by omega⟩,fun _=>rfl⟩
 ·rw[if_neg h,ui hj]
  constructor
  ·rintro⟨q,h1,h2⟩;exact⟨q,by simp[h1],h2⟩
  ·rintro⟨q,h1,h2⟩
   rcases List.mem_append.1 h1 with h1|h1
   ·exact⟨q,h1,h2⟩
   ·simp only[List.mem_singleton] at h1
    subst h1;exact absurd h2 (by omega)
theorem Hg {n:aQ}(hm:aV n){todo out:List Nat}(h:qN n todo out){k:Nat}(hk:k<todo.length):(AM n todo).set (dT n (todo.getD k 0)).toNat false=AM n (todo.eraseIdx k):=by
 have g0:todo.getD k 0=todo[k]:=by rw[List.getD_eq_getElem?_getD,List.getElem?_eq_getElem hk];rfl
 have hi:=h.MG _ (List.getElem_mem hk)
 have hs:dr n (dT n todo[k]):=(hm.aP _ hi.1).1
 unfold dr at hs
 rw[g0]
 refine mJ (by rw[List.length_set,uh]) fun j hj=> ?_
 rw[cH (by rw[uh];omega)]
 have fD:∀q (hq:q<todo.length),q≠k->todo[q]≠todo[k]:=fun q hq hqk he=>by
  rcases Nat.lt_or_gt_of_ne hqk with bD|hgt
  ·have:=List.pairwise_iff_getElem.1 h.Xd q k hq hk bD;omega
  ·have:=List.pairwise_iff_getElem.1 h.Xd k q hk hq hgt;omega
 by_cases dC:j=(dT n todo[k]).toNat
 ·rw[if_pos dC]
  refine⟨fun hh=>Bool.noConfusion hh,fun hh=> ?_⟩
  rw[show((j:Nat):Int)=dT n todo[k] by omega] at hh
  have:=(DF hm (h.step hk) hi.1).1 hh
  rw[List.mem_eraseIdx_iff_getElem] at this
  obtain⟨q,h1,h2,h3⟩:=this
  exact absurd h3 (fD q h1 h2)
 ·rw[if_neg dC,ui hj]
  constructor
  ·rintro⟨q,h1,h2⟩
   refine⟨q,?_,h2⟩
   obtain⟨p,hp,rfl⟩:=List.getElem_of_mem h1
   rw[List.mem_eraseIdx_iff_getElem]
   refine⟨p,hp,fun hpk=> ?_,rfl⟩
   subst hpk;omega
  ·rintro⟨q,h1,h2⟩
   exact⟨q,(List.eraseIdx_sublist _ _).subset h1,h2⟩
end Go.Xw
namespace Go.Proofs
open Go.Xw
set_option maxRecDepth 100000
set_option maxHeartbeats 2000000
attribute [local irreducible] ax aE
theorem ig (x:bm)(s:Int)(w0:World)(hM:iJ w0 x)(hl:x.sg.length<=1048576):bN Tryz.prog 170 [x.v,.int .i64 s] w0 (fun v w=>v= .int .i64 (Ii x.n s)/\Ext w0 w):=by
 have en:x.n.sg.length=x.sg.length:=rfl
 refine eu Tryz.Q9 ?_;intro C hp;skip;refine bP hp ?_;intro w b2 hx hp;refine az ?_
 (first|apply fx|apply cf)<;>intro h1 e<;>rw[e]<;>clear e;all_goals((repeat(first|(refine aG ?_;first|refine aO ?_|refine ba ?_)|(refine ah ?_;refine aI hp ?_))))
 ·refine aN ?_;refine aq ?_
  exact⟨by unfold Ii;rw[if_neg (by omega)],hp.x⟩
 ·apply ae<;>intro h2
  ·refine aN ?_;refine aq ?_
   exact⟨by unfold Ii;rw[if_neg (by omega)],hp.x⟩
  ·refine aM ?_;(repeat(first|(refine ah ?_;first|refine aI hp ?_|refine rS hp ?_)|refine aq ?_))
   exact⟨by unfold Ii;rw[if_pos (by omega)];rfl,hp.x⟩
theorem fC (x:bm)(s:Int)(w0:World)(hM:iJ w0 x)(hl:x.sg.length<=1048576):bN Tryz.prog 169 [x.v,.int .i64 s] w0 (fun v w=>v= .bool (pB (si x.n s))/\Ext w0 w):=by
 refine eu Tryz.Q8 ?_;intro C hp;skip;refine bP hp ?_;intro w b2 hx hp;refine az ?_;refine aI hp ?_
 refine bQ hp Tryz.func170 (ig x s _ hp.mod hl) ?_;intro w hx hp
 (first|apply fx|apply cf)<;>intro h1 e<;>rw[e]<;>clear e;all_goals((repeat(first|(refine aG ?_;first|refine aO ?_|refine ba ?_)|refine aq ?_)))
 ·exact⟨by rw[cR.2 (yZ.1 (.inl h1))],hp.x⟩
 ·refine⟨?_,hp.x⟩
  by_cases h2:Ii x.n s=2
  ·rw[cR.2 (yZ.1 (.inr h2)),decide_eq_true h2]
  ·rw[bt (fun h=>by rcases yZ.2 h with h|h;exact h1 h;exact h2 h),decide_eq_false h2]
theorem qS (a:Option Addr)(c:Nat)(D:List bm)(zL:D.length=1)(x:bm)(uC:D.getD 0 default=x)(rZ:x.ins=[])(w0:World)(hD:Rd w0 a 4 bm.cs D)(vL:x.sg.length<=1048576)(sb:x.aP.length<=1048576)(Xl:x.ms.length<=1048576):
  bN Tryz.prog 167 [.agg ⟨[.slice a 1 c]⟩,.int .i64 0] w0 (fun v w=>v= .bool (pB (x.sg.length<=30/\x.aP.length<=30/\x.ms.length<=2))/\Ext w0 w):=by
 have pW:x.ins.length=0:=by rw[rZ];rfl
 subst uC
 have e0:D.getD (Int.toNat 0) default=D.getD 0 default:=rfl
 refine eu Tryz.Ju ?_;intro C hp;skip;refine bP hp ?_;intro w b2 hx hp;refine az ?_;(repeat(first|(refine aG ?_;refine aO ?_)|(refine ah ?_;refine aI hp ?_)))
 refine aM ?_
 refine aR [1,2,5] (fun(i:Nat)=>[(1,.int .i64 0),(2,.pointer (some ⟨b2,0,none⟩)),(5,.int .i64 (i:Int))])
  (fun i w'=>(i<=1/\(0<i->(D.getD 0 default).sg.length<=30/\(D.getD 0 default).aP.length<=30/\(D.getD 0 default).ms.length<=2))/\Hp w0 w' [rB b2 136 [.slice a 1 c]]) (fun i=>1-i) 0 rfl ⟨⟨by omega,fun h=>by omega⟩,hp⟩ ?_
 clear hp
 rintro i w1 ⟨⟨ME,nH⟩,hp⟩ IH C
 refine bL ?_;refine aI hp ?_
 apply ae<;>intro bD
 ·obtain rfl:i=0:=by omega
  refine aN ?_;(repeat(refine ah ?_;first|refine aI hp ?_|refine bb hp ?_))
  refine bP hp ?_;intro w b6 hx hp;refine az ?_;(repeat(first|(refine ah ?_;refine aI hp ?_)|(refine aH ?_;refine aW hp ?_;intro w hp;refine az ?_)))
  (first|apply fx|apply cf)<;>intro h1 e<;>rw[e]<;>clear e;all_goals((repeat(first|(refine aG ?_;first|refine aO ?_|refine ba ?_)|(refine ah ?_;refine aI hp ?_))))
  ·refine aN ?_;refine aq ?_
   exact⟨by rw[bt (fun h=>by omega)],hp.x⟩
  ·(first|apply fx|apply cf)<;>intro h2 e<;>rw[e]<;>clear e;all_goals((repeat(first|(refine aG ?_;first|refine aO ?_|refine ba ?_)|(refine ah ?_;refine aI hp ?_))))
   ·refine aN ?_;refine aq ?_
    exact⟨by rw[bt (fun h=>by omega)],hp.x⟩
   ·(first|apply fx|apply cf)<;>intro h3 e<;>rw[e]<;>clear e;all_goals((repeat(first|(refine aG ?_;first|refine aO ?_|refine ba ?_)|(refine ah ?_;refine aI hp ?_))))
    ·omega
    ·apply ae<;>intro h4
     ·refine aN ?_;refine aq ?_
      exact⟨by rw[bt (fun h=>by omega)],hp.x⟩
     ·refine aM ?_
      exact IH 1 _ _ _ (by omega) rfl ⟨⟨by omega,fun _=>by omega⟩,hp.drop⟩
 ·refine aM ?_
  obtain rfl:i=1:=by omega
  clear IH
  refine aR [1,2,7] (fun(i:Nat)=>[(1,.int .i64 0),(2,.pointer (some ⟨b2,0,none⟩)),(7,.int .i64 (i:Int))])
   (fun i w'=>Hp w0 w' [rB b2 136 [.slice a 1 c]]/\True) (fun i=>0) 0 rfl ⟨hp,trivial⟩ ?_
  clear hp
  rintro i w1 ⟨hp,_⟩ IH C
  refine bL ?_;(repeat(refine ah ?_;first|refine aI hp ?_|refine rS hp ?_))
  rw[e0]
  apply ae<;>intro bD
  ·omega
  ·refine aM ?_;refine aq ?_
   exact⟨by rw[cR.2 (nH (by omega))],hp.x⟩
theorem sk (a:Option Addr)(c:Nat)(D:List bm)(zL:D.length=1)(x:bm)(uC:D.getD 0 default=x)(rZ:x.ins=[])(l1:x.sg.length<=30)(l2:x.aP.length<=30)(l3:x.ms.length<=2)(s:Nat)(hs:s<x.sg.length)(w0:World)(hD:Rd w0 a 4 bm.cs D)(hM:iJ w0 x):
  bN Tryz.prog 168 [.agg ⟨[.slice a 1 c]⟩,.int .i64 0,.int .i64 (s:Int)] w0 (fun v w=>v= .int .i64 (wz x.n s)/\Ext w0 w):=by
 have pW:x.ins.length=0:=by rw[rZ];rfl
 have e0:D.getD (Int.toNat 0) default=x:=uC
 refine eu Tryz.Jv ?_;intro C hp;skip;refine bP hp ?_;intro w b3 hx hp;refine az ?_;refine aI hp ?_
 refine bQ hp Tryz.func167 ((qS a c D zL x uC rZ _ hp.rd (by omega) (by omega) (by omega)).tt (cR.2 ⟨l1,l2,l3⟩)) ?_;intro w hx hp;(repeat(first|(refine aG ?_;refine aO ?_)|(refine ah ?_;first|refine aI hp ?_|refine rS hp ?_)))
 rw[e0]
 refine ae (fun hg=>False.elim (by omega)) (fun _=> ?_);refine aM ?_;(repeat(refine ah ?_;first|refine aI hp ?_|refine ik hp ?_))
 rw[e0]
 refine bP hp ?_;intro w b7 hx hp;refine az ?_;refine aW hp ?_;intro w hp;refine az ?_
 have hp:Hp w0 _ [rB b7 41 x.cs,rB b3 136 [.slice a 1 c]]:=hp
 refine aR [2,3,7,8,9] (fun(i:Nat)=>[(2,.int .i64 (s:Int)),(3,.pointer (some ⟨b3,0,none⟩)),(7,.pointer (some ⟨b7,0,none⟩)),(8,.int .i64 (gH x.n.aP s i)),(9,.int .i64 (i:Int))])
  (fun i w'=>i<=x.aP.length/\Hp w0 w' [rB b7 41 x.cs,rB b3 136 [.slice a 1 c]]) (fun i=>x.aP.length-i) 0 rfl ⟨by omega,hp⟩ ?_
 clear hp
 rintro i w1 ⟨hi,hp⟩ IH C
 have bA:=mT x.n.aP s i
 refine bL ?_;refine aI hp ?_
 apply ae<;>intro bD
 ·have aF:i<x.aP.length:=by omega
  have Ih:=p8 x i
  refine aN ?_;(repeat(refine ah ?_;first|refine aI hp ?_|refine dg hp ?_))
  apply ae<;>intro he
  ·refine aN ?_
   refine IH (i+1) _ _ _ (by omega) (by rw[gH,Ih,if_pos he];rfl) ⟨by omega,hp⟩
  ·refine aM ?_
   refine IH (i+1) _ _ _ (by omega) (by rw[gH,Ih,if_neg he];rfl) ⟨by omega,hp⟩
 ·refine aM ?_
  obtain rfl:i=x.aP.length:=by omega
  clear IH
  refine aR [2,3,7,8,10] (fun(i:Nat)=>[(2,.int .i64 (s:Int)),(3,.pointer (some ⟨b3,0,none⟩)),(7,.pointer (some ⟨b7,0,none⟩)),(8,.int .i64 (gH x.n.aP s x.aP.length+hJ x.n.ms s i)),(10,.int .i64 (i:Int))])
   (fun i w'=>i<=x.ms.length/\Hp w0 w' [rB b7 41 x.cs,rB b3 136 [.slice a 1 c]]) (fun i=>x.ms.length-i) 0 (by rw[show hJ x.n.ms s 0=0 from rfl,Int.add_zero];rfl) ⟨by omega,hp⟩ ?_
  clear hp
  rintro i w1 ⟨hi,hp⟩ IH C
  have bM:=nX x.n.ms s i
  have emt:x.n.ms=x.ms:=rfl
  refine bL ?_;refine aI hp ?_
  apply ae<;>intro bD
  ·have aF:i<x.ms.length:=by omega
   refine aN ?_;(repeat(refine ah ?_;first|refine aI hp ?_|refine dg hp ?_))
   apply ae<;>intro he
   ·refine aN ?_
    refine IH (i+1) _ _ _ (by omega) (by rw[hJ,emt,if_pos he,<-Int.add_assoc];rfl) ⟨by omega,hp⟩
   ·refine aM ?_
    refine IH (i+1) _ _ _ (by omega) (by rw[hJ,emt,if_neg he];rfl) ⟨by omega,hp⟩
  ·refine aM ?_
   obtain rfl:i=x.ms.length:=by omega
   clear IH
   refine aR [2,3,7,8,11] (fun(i:Nat)=>[(2,.int .i64 (s:Int)),(3,.pointer (some ⟨b3,0,none⟩)),(7,.pointer (some ⟨b7,0,none⟩)),(8,.int .i64 (wz x.n s)),(11,.int .i64 (i:Int))])
    (fun i w'=>Hp w0 w' [rB b7 41 x.cs,rB b3 136 [.slice a 1 c]]/\True) (fun i=>0) 0 (by unfold wz;rw[x.cC];rfl) ⟨hp,trivial⟩ ?_
   clear hp
   rintro i w1 ⟨hp,_⟩ IH C
   refine bL ?_;refine aI hp ?_
   apply ae<;>intro bD
   ·omega
   ·refine aM ?_;refine aq ?_
    exact⟨rfl,hp.x⟩
end Go.Proofs
end
section
namespace Go.Proofs
open Go.Xw
set_option maxRecDepth 100000
set_option maxHeartbeats 2000000
attribute [local irreducible] ax aE
theorem FC {x:bm}(zM:∀j:Nat,j<x.sg.length->sh (x.sg.getD j default)/\((x.sg.getD j default).kind≠0->wz x.n j=1)){s:Int}(h:dr x.n s):¬Ii x.n s<0:=by
 rw[wY h]
 unfold dr at h
 change 0<=s/\s<(x.sg.length:Int) at h
 have:=(zM s.toNat (by omega)).1.1
 change¬(x.sg.getD s.toNat default).kind<0
 omega
theorem qT (a:Option Addr)(c:Nat)(D:List bm)(zL:D.length=1)(x:bm)(uC:D.getD 0 default=x)(rZ:x.ins=[])(w0:World)(hD:Rd w0 a 4 bm.cs D)(hM:iJ w0 x)(hS:qL x.n)(hW:qM x.n):
  bN Tryz.prog 135 [.agg ⟨[.slice a 1 c]⟩,.int .i64 0] w0 (fun v w=>v= .bool (pB (aV x.n))/\Ext w0 w):=by
 have pW:x.ins.length=0:=by rw[rZ];rfl
 have s1:x.sg.length<=1048576:=hS.sg
 have s2:x.aP.length<=1048576:=by have:=hS.aP;rw[x.cC] at this;exact this
 have s6:x.ms.length<=1048576:=hS.ms
 have e0:D.getD (Int.toNat 0) default=x:=uC
 refine eu Tryz.Jt ?_;intro C hp;skip;refine bP hp ?_;intro w b2 hx hp;refine az ?_;refine aI hp ?_
 by_cases hc:x.sg.length<=30/\x.aP.length<=30/\x.ms.length<=2
 ·obtain⟨l1,l2,l3⟩:=hc
  refine bQ hp Tryz.func167 ((qS a c D zL x uC rZ _ hp.rd s1 s2 s6).tt (cR.2 ⟨l1,l2,l3⟩)) ?_;intro w hx hp
  refine aM ?_;(repeat(refine ah ?_;first|refine aI hp ?_|refine ik hp ?_))
  rw[e0]
  refine bP hp ?_;intro w b5 hx hp;refine az ?_;refine aW hp ?_;intro w hp;refine az ?_
  have hp:Hp w0 _ [rB b5 41 x.cs,rB b2 136 [.slice a 1 c]]:=hp
  refine aR [1,2,5,6] (fun(i:Nat)=>[(1,.int .i64 0),(2,.pointer (some ⟨b2,0,none⟩)),(5,.pointer (some ⟨b5,0,none⟩)),(6,.int .i64 (i:Int))])
   (fun i w'=>(i<=x.sg.length/\∀j:Nat,j<i->sh (x.sg.getD j default)/\((x.sg.getD j default).kind≠0->wz x.n j=1))/\Hp w0 w' [rB b5 41 x.cs,rB b2 136 [.slice a 1 c]]) (fun i=>x.sg.length-i) 0 rfl ⟨⟨by omega,fun j hj=>by omega⟩,hp⟩ ?_
  clear hp
  rintro i w1 ⟨⟨hi,zM⟩,hp⟩ IH C
  refine bL ?_;refine aI hp ?_
  apply ae<;>intro bD
  ·have aF:i<x.sg.length:=by omega
   refine aN ?_;(repeat(refine ah ?_;first|refine aI hp ?_|refine bb hp ?_))
   refine bP hp ?_;intro w b7 hx hp;refine az ?_;(repeat(first|(refine ah ?_;refine aI hp ?_)|(refine aH ?_;refine aW hp ?_;intro w hp;refine az ?_)))
   by_cases h1:0<=(x.sg.getD i default).kind/\(x.sg.getD i default).kind<=3
   ·refine bQ hp Tryz.func79 ((cE (x.sg.getD i default).kind 0 3 _).yes h1) ?_;intro w hx hp;(repeat(first|(refine aG ?_;refine aO ?_)|(refine ah ?_;refine aI hp ?_)))
    by_cases h2:0<=(x.sg.getD i default).width/\(x.sg.getD i default).width<=4
    ·refine bQ hp Tryz.func79 ((cE (x.sg.getD i default).width 0 4 _).yes h2) ?_;intro w hx hp;(repeat(first|(refine aG ?_;refine aO ?_)|(refine ah ?_;refine aI hp ?_)))
     by_cases h3:0<=(x.sg.getD i default).init/\(x.sg.getD i default).init<=15
     ·refine bQ hp Tryz.func79 ((cE (x.sg.getD i default).init 0 15 _).yes h3) ?_;intro w hx hp;(repeat(first|(refine aG ?_;refine aO ?_)|(refine ah ?_;refine aI hp ?_)))
      (first|apply fx|apply cf)<;>intro h4 e<;>rw[e]<;>clear e;all_goals((repeat(first|(refine aG ?_;first|refine aO ?_|refine ba ?_)|(refine ah ?_;refine aI hp ?_))))
      ·apply ae<;>intro h5
       ·have cQ:¬aV x.n:=fun h=>by rcases(h.sg i aF).2.2 with h|h;exact h4 h;exact h5 h.1
        refine aN ?_;refine aq ?_
        exact⟨by rw[bt cQ],hp.x⟩
       ·refine aM ?_;refine aI hp ?_
        have hs:sh (x.sg.getD i default):=⟨h1,h2,.inr ⟨Decidable.not_not.1 h5,h3⟩⟩
        (first|apply fx|apply cf)<;>intro h6 e<;>rw[e]<;>clear e;all_goals((repeat(first|(refine aG ?_;first|refine aO ?_|refine ba ?_)|(refine ah ?_;refine aI hp ?_))))
        ·refine bQ hp Tryz.func168 (sk a c D zL x uC rZ l1 l2 l3 i aF _ hp.rd hp.mod) ?_;intro w hx hp;refine aO ?_
         apply ae<;>intro h7
         ·have cQ:¬aV x.n:=fun h=>h7 (h.R4 i aF (by have hk:(x.n.sg.getD i default).kind=(x.sg.getD i default).kind:=rfl;omega))
          refine aN ?_;refine aq ?_
          exact⟨by rw[bt cQ],hp.x⟩
         ·refine aM ?_
          refine IH (i+1) _ _ _ (by omega) rfl ⟨⟨by omega,fun j hj=> ?_⟩,hp.drop⟩
          by_cases dC:j<i
          ·exact zM j dC
          ·obtain rfl:j=i:=by omega
           exact⟨hs,fun _=>Decidable.not_not.1 h7⟩
        ·refine aM ?_
         refine IH (i+1) _ _ _ (by omega) rfl ⟨⟨by omega,fun j hj=> ?_⟩,hp.drop⟩
         by_cases dC:j<i
         ·exact zM j dC
         ·obtain rfl:j=i:=by omega
          exact⟨hs,fun h=>absurd h h6⟩
      ·have hs:sh (x.sg.getD i default):=⟨h1,h2,.inl (Decidable.not_not.1 h4)⟩
       refine aM ?_;refine aI hp ?_
       (first|apply fx|apply cf)<;>intro h6 e<;>rw[e]<;>clear e;all_goals((repeat(first|(refine aG ?_;first|refine aO ?_|refine ba ?_)|(refine ah ?_;refine aI hp ?_))))
       ·refine bQ hp Tryz.func168 (sk a c D zL x uC rZ l1 l2 l3 i aF _ hp.rd hp.mod) ?_;intro w hx hp;refine aO ?_
        apply ae<;>intro h7
        ·have cQ:¬aV x.n:=fun h=>h7 (h.R4 i aF (by have hk:(x.n.sg.getD i default).kind=(x.sg.getD i default).kind:=rfl;omega))
         refine aN ?_;refine aq ?_
         exact⟨by rw[bt cQ],hp.x⟩
        ·refine aM ?_
         refine IH (i+1) _ _ _ (by omega) rfl ⟨⟨by omega,fun j hj=> ?_⟩,hp.drop⟩
         by_cases dC:j<i
         ·exact zM j dC
         ·obtain rfl:j=i:=by omega
          exact⟨hs,fun _=>Decidable.not_not.1 h7⟩
       ·refine aM ?_
        refine IH (i+1) _ _ _ (by omega) rfl ⟨⟨by omega,fun j hj=> ?_⟩,hp.drop⟩
        by_cases dC:j<i
        ·exact zM j dC
        ·obtain rfl:j=i:=by omega
         exact⟨hs,fun h=>absurd h h6⟩
     ·refine bQ hp Tryz.func79 ((cE (x.sg.getD i default).init 0 15 _).no h3) ?_;intro w hx hp;(repeat(refine aG ?_;first|refine aO ?_|refine ba ?_))
      have cQ:¬aV x.n:=fun h=>h3 (by rcases(h.sg i aF).2.2 with h|h;(have h:(x.sg.getD i default).init=0:=h;omega);exact h.2)
      refine aN ?_;refine aq ?_
      exact⟨by rw[bt cQ],hp.x⟩
    ·refine bQ hp Tryz.func79 ((cE (x.sg.getD i default).width 0 4 _).no h2) ?_;intro w hx hp;(repeat(refine aG ?_;first|refine aO ?_|refine ba ?_))
     have cQ:¬aV x.n:=fun h=>h2 (h.sg i aF).2.1
     refine aN ?_;refine aq ?_
     exact⟨by rw[bt cQ],hp.x⟩
   ·refine bQ hp Tryz.func79 ((cE (x.sg.getD i default).kind 0 3 _).no h1) ?_;intro w hx hp;(repeat(refine ba ?_))
    have cQ:¬aV x.n:=fun h=>h1 (h.sg i aF).1
    refine aN ?_;refine aq ?_
    exact⟨by rw[bt cQ],hp.x⟩
  ·refine aM ?_
   obtain rfl:i=x.sg.length:=by omega
   clear IH
   refine aR [2,5,8] (fun(i:Nat)=>[(2,.pointer (some ⟨b2,0,none⟩)),(5,.pointer (some ⟨b5,0,none⟩)),(8,.int .i64 (i:Int))])
    (fun i w'=>(i<=x.aP.length/\∀j,j<i->J0 x.n (x.n.aP.getD j default))/\Hp w0 w' [rB b5 41 x.cs,rB b2 136 [.slice a 1 c]]) (fun i=>x.aP.length-i) 0 rfl ⟨⟨by omega,fun j hj=>by omega⟩,hp⟩ ?_
   clear hp
   rintro i w1 ⟨⟨hi,has⟩,hp⟩ IH C
   refine bL ?_;refine aI hp ?_
   apply ae<;>intro bD
   ·have aF:i<x.aP.length:=by omega
    have Xm:=hM.aP.at_ aF
    have Ih:=p8 x i
    have Fz:(x.aP.getD i default).ops.length<=1048576:=by have:=hS.ops i (by rw[x.cC];exact aF);rw[x.mR] at this;exact this
    have eoi:∀j,j<(x.aP.getD i default).ops.length->u6 ((x.aP.getD i default).ops.getD j default):=fun j hj=>by have:=hW.ops i (by rw[x.cC];exact aF) j (by rw[x.mR];exact hj);rw[x.mR] at this;exact this
    refine aN ?_;(repeat(refine ah ?_;first|refine aI hp ?_|refine bb hp ?_))
    refine bP hp ?_;intro w b9 hx hp;refine az ?_;(repeat(first|(refine ah ?_;refine aI hp ?_)|(refine aH ?_;refine aW hp ?_;intro w hp;refine az ?_)))
    by_cases h1:si x.n (x.aP.getD i default).tg
    ·refine bQ hp Tryz.func169 ((fC x (x.aP.getD i default).tg _ hp.mod s1).tt (cR.2 h1)) ?_;intro w hx hp;(repeat(first|(refine aG ?_;first|refine aO ?_|refine ba ?_)|(refine ah ?_;refine aI hp ?_)))
     have h2:dr x.n (x.aP.getD i default).tg/\(aY x.n (x.aP.getD i default).tg=1\/aY x.n (x.aP.getD i default).tg=2\/aY x.n (x.aP.getD i default).tg=3):=⟨h1.1,by rcases h1.2 with h|h;exact .inl h;exact .inr (.inl h)⟩
     by_cases h4:fU (x.aP.getD i default).ops x.sg.length
     ·refine bQ hp Tryz.func78 ((fA _ _ _ (x.aP.getD i default).ops rfl x.sg.length _ hp.rd Fz eoi).tt (lu h4)) ?_;intro w hx hp;refine aO ?_
      refine aM ?_
      refine IH (i+1) _ _ _ (by omega) rfl ⟨⟨by omega,fun j hj=> ?_⟩,hp.drop⟩
      by_cases dC:j<i
      ·exact has j dC
      ·obtain rfl:j=i:=by omega
       exact by rw[Ih];exact⟨h2.1,h2.2,h4⟩
     ·refine bQ hp Tryz.func78 ((fA _ _ _ (x.aP.getD i default).ops rfl x.sg.length _ hp.rd Fz eoi).ff (gP h4)) ?_;intro w hx hp;refine aO ?_
      have cQ:¬aV x.n:=fun h=>h4 (by have:=h.aP i (by rw[x.cC];exact aF);rw[Ih] at this;exact this.2.2)
      refine aN ?_;refine aq ?_
      exact⟨by rw[bt cQ],hp.x⟩
    ·refine bQ hp Tryz.func169 ((fC x (x.aP.getD i default).tg _ hp.mod s1).ff (bt h1)) ?_;intro w hx hp;(repeat(first|(refine aG ?_;refine aO ?_)|(refine ah ?_;refine aI hp ?_)))
     refine bQ hp Tryz.func170 (ig x (x.aP.getD i default).tg _ hp.mod s1) ?_;intro w hx hp;refine aO ?_
     (first|apply fx|apply cf)<;>intro h3 e<;>rw[e]<;>clear e;all_goals((repeat(first|(refine aG ?_;first|refine aO ?_|refine ba ?_)|(refine ah ?_;refine aI hp ?_))))
     ·have cQ:¬aV x.n:=fun h=>by
       have:=h.aP i (by rw[x.cC];exact aF)
       rw[Ih] at this
       rcases this.2.1 with hk|hk|hk
       ·exact h1 ⟨this.1,.inl hk⟩
       ·exact h1 ⟨this.1,.inr hk⟩
       ·exact h3 (by rw[wY this.1];exact hk)
      refine aN ?_;refine aq ?_
      exact⟨by rw[bt cQ],hp.x⟩
     ·have h3:Ii x.n (x.aP.getD i default).tg=3:=Decidable.not_not.1 h3
      have jg:dr x.n (x.aP.getD i default).tg:=Classical.byContradiction fun hh=>by rw[vn hh] at h3;omega
      have h2:dr x.n (x.aP.getD i default).tg/\(aY x.n (x.aP.getD i default).tg=1\/aY x.n (x.aP.getD i default).tg=2\/aY x.n (x.aP.getD i default).tg=3):=⟨jg,.inr (.inr (by rw[<-wY jg];exact h3))⟩
      by_cases h4:fU (x.aP.getD i default).ops x.sg.length
      ·refine bQ hp Tryz.func78 ((fA _ _ _ (x.aP.getD i default).ops rfl x.sg.length _ hp.rd Fz eoi).tt (lu h4)) ?_;intro w hx hp;refine aO ?_
       refine aM ?_
       refine IH (i+1) _ _ _ (by omega) rfl ⟨⟨by omega,fun j hj=> ?_⟩,hp.drop⟩
       by_cases dC:j<i
       ·exact has j dC
       ·obtain rfl:j=i:=by omega
        exact by rw[Ih];exact⟨h2.1,h2.2,h4⟩
      ·refine bQ hp Tryz.func78 ((fA _ _ _ (x.aP.getD i default).ops rfl x.sg.length _ hp.rd Fz eoi).ff (gP h4)) ?_;intro w hx hp;refine aO ?_
       have cQ:¬aV x.n:=fun h=>h4 (by have:=h.aP i (by rw[x.cC];exact aF);rw[Ih] at this;exact this.2.2)
       refine aN ?_;refine aq ?_
       exact⟨by rw[bt cQ],hp.x⟩
   ·refine aM ?_
    obtain rfl:i=x.aP.length:=by omega
    clear IH
    refine aR [2,5,10] (fun(i:Nat)=>[(2,.pointer (some ⟨b2,0,none⟩)),(5,.pointer (some ⟨b5,0,none⟩)),(10,.int .i64 (i:Int))])
     (fun i w'=>Hp w0 w' [rB b5 41 x.cs,rB b2 136 [.slice a 1 c]]/\True) (fun i=>0) 0 rfl ⟨hp,trivial⟩ ?_
    clear hp
    rintro i w1 ⟨hp,_⟩ IH C
    refine bL ?_;refine aI hp ?_
    apply ae<;>intro bD
    ·omega
    ·refine aM ?_
     clear IH
     refine aR [5,15] (fun(i:Nat)=>[(5,.pointer (some ⟨b5,0,none⟩)),(15,.int .i64 (i:Int))])
      (fun i w'=>(i<=x.ms.length/\∀j,j<i->J1 x.n (x.ms.getD j default))/\Hp w0 w' [rB b5 41 x.cs,rB b2 136 [.slice a 1 c]]) (fun i=>x.ms.length-i) 0 rfl ⟨⟨by omega,fun j hj=>by omega⟩,hp⟩ ?_
     clear hp
     rintro i w1 ⟨⟨hi,Hd⟩,hp⟩ IH C
     refine bL ?_;refine aI hp ?_
     apply ae<;>intro bD
     ·have aF:i<x.ms.length:=by omega
      refine aN ?_;(repeat(refine ah ?_;first|refine aI hp ?_|refine bb hp ?_))
      refine bP hp ?_;intro w Xo hx hp;refine az ?_;(repeat(first|(refine ah ?_;refine aI hp ?_)|(refine aH ?_;refine aW hp ?_;intro w hp;refine az ?_)))
      refine bQ hp Tryz.func170 (ig x (x.ms.getD i default).addr _ hp.mod s1) ?_;intro w hx hp
      by_cases h1:dr x.n (x.ms.getD i default).addr
      ·have k1:=FC zM h1
       rw[decide_eq_false k1]
       (repeat(first|(refine aG ?_;refine aO ?_)|(refine ah ?_;refine aI hp ?_)))
       refine bQ hp Tryz.func170 (ig x (x.ms.getD i default).data _ hp.mod s1) ?_;intro w hx hp;refine aO ?_
       by_cases h2:dr x.n (x.ms.getD i default).data
       ·have k2:=FC zM h2
        rw[decide_eq_false k2]
        (repeat(first|(refine aG ?_;refine aO ?_)|(refine ah ?_;refine aI hp ?_)))
        refine bQ hp Tryz.func170 (ig x (x.ms.getD i default).write _ hp.mod s1) ?_;intro w hx hp;refine aO ?_
        by_cases h3:dr x.n (x.ms.getD i default).write
        ·have k3:=FC zM h3
         rw[decide_eq_false k3]
         (repeat(first|(refine aG ?_;refine aO ?_)|(refine ah ?_;refine aI hp ?_)))
         by_cases h4:si x.n (x.ms.getD i default).out
         ·refine bQ hp Tryz.func169 ((fC x (x.ms.getD i default).out _ hp.mod s1).tt (cR.2 h4)) ?_;intro w hx hp;refine aO ?_
          refine aM ?_
          refine IH (i+1) _ _ _ (by omega) rfl ⟨⟨by omega,fun j hj=> ?_⟩,hp.drop⟩
          by_cases dC:j<i
          ·exact Hd j dC
          ·obtain rfl:j=i:=by omega
           exact⟨h1,h2,h3,h4⟩
         ·refine bQ hp Tryz.func169 ((fC x (x.ms.getD i default).out _ hp.mod s1).ff (bt h4)) ?_;intro w hx hp;refine aO ?_
          have cQ:¬aV x.n:=fun h=>h4 (h.ms i aF).2.2.2
          refine aN ?_;refine aq ?_
          exact⟨by rw[bt cQ],hp.x⟩
        ·rw[vn h3]
         (repeat(refine ba ?_))
         have cQ:¬aV x.n:=fun h=>h3 (h.ms i aF).2.2.1
         refine aN ?_;refine aq ?_
         exact⟨by rw[bt cQ],hp.x⟩
       ·rw[vn h2]
        (repeat(refine ba ?_))
        have cQ:¬aV x.n:=fun h=>h2 (h.ms i aF).2.1
        refine aN ?_;refine aq ?_
        exact⟨by rw[bt cQ],hp.x⟩
      ·rw[vn h1]
       (repeat(refine ba ?_))
       have cQ:¬aV x.n:=fun h=>h1 (h.ms i aF).1
       refine aN ?_;refine aq ?_
       exact⟨by rw[bt cQ],hp.x⟩
     ·refine aM ?_;refine aq ?_
      obtain rfl:i=x.ms.length:=by omega
      have xh:aV x.n:=⟨l1,by rw[x.cC];exact l2,l3,fun j hj=>(zM j hj).1,fun j hj=>has j (by rw[x.cC] at hj;exact hj),Hd,fun j hj hk=>(zM j hj).2 (by rcases hk with h|h|h<;>(have h:(x.sg.getD j default).kind=_:=h;omega))⟩
      exact⟨by rw[cR.2 xh],hp.x⟩
 ·refine bQ hp Tryz.func167 ((qS a c D zL x uC rZ _ hp.rd s1 s2 s6).ff (bt hc)) ?_;intro w hx hp
  have cQ:¬aV x.n:=fun h=>hc ⟨h.l1,by have:=h.l2;rw[x.cC] at this;exact this,h.l3⟩
  refine aN ?_;refine aq ?_
  exact⟨by rw[bt cQ],hp.x⟩
theorem qU (a:Option Addr)(c:Nat)(D:List bm)(zL:D.length=1)(x:bm)(uC:D.getD 0 default=x)(rZ:x.ins=[])(w0:World)(hD:Rd w0 a 4 bm.cs D)(hM:iJ w0 x)(hS:qL x.n)(hW:qM x.n):
  bN Tryz.prog 75 [.agg ⟨[.slice a 1 c]⟩] w0 (fun v w=>v= .bool (pB (aV x.n))/\Ext w0 w):=by
 refine eu Tryz.Oi ?_;intro C hp;skip;refine bP hp ?_;intro w b1 hx hp;refine az ?_;refine aI hp ?_
 refine bQ hp Tryz.func79 ((cE 1 1 4 _).yes (by decide)) ?_;intro w hx hp
 refine aM ?_
 refine aR [1,3] (fun(i:Nat)=>[(1,.pointer (some ⟨b1,0,none⟩)),(3,.int .i64 (i:Int))])
  (fun i w'=>(i<=1/\(0<i->aV x.n))/\Hp w0 w' [rB b1 136 [.slice a 1 c]]) (fun i=>1-i) 0 rfl ⟨⟨by omega,fun h=>by omega⟩,hp⟩ ?_
 clear hp
 rintro i w1 ⟨⟨ME,nH⟩,hp⟩ IH C
 refine bL ?_;refine aI hp ?_
 apply ae<;>intro bD
 ·obtain rfl:i=0:=by omega
  refine aN ?_;refine aI hp ?_
  by_cases hm:aV x.n
  ·refine bQ hp Tryz.func135 ((qT a c D zL x uC rZ _ hp.rd hp.mod hS hW).tt (cR.2 hm)) ?_;intro w hx hp
   refine aM ?_
   exact IH 1 _ _ _ (by omega) rfl ⟨⟨by omega,fun _=>hm⟩,hp⟩
  ·refine bQ hp Tryz.func135 ((qT a c D zL x uC rZ _ hp.rd hp.mod hS hW).ff (bt hm)) ?_;intro w hx hp
   refine aN ?_;refine aq ?_
   exact⟨by rw[bt hm],hp.x⟩
 ·refine aM ?_;refine aq ?_
  obtain rfl:i=1:=by omega
  exact⟨by rw[cR.2 (nH (by omega))],hp.x⟩
end Go.Proofs
end
