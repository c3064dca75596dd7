/- Texts that belong together; each under its stated conditions. -/
import Derived.Test.YtiepmliokblkjaaGreatBrf
import Derived.Test.YtiepmliokblkjaaGreatFlatI
set_option linter.all false
section
namespace Go.Xw
def Ih (n:aQ)(s:Int):Int:=if 0<=s/\s<n.sg.length then aY n s else-1
theorem wW {n:aQ}{s:Int}(h:dr n s):Ih n s=aY n s:=if_pos h
theorem vm {n:aQ}{s:Int}(h:¬dr n s):Ih n s= -1:=if_neg h
theorem yX {n:aQ}{s:Int}:(Ih n s=1\/Ih n s=2)↔sf n s:=by
 by_cases h:dr n s
 ·rw[wW h]
  exact⟨fun h2=>⟨h,h2⟩,fun h2=>h2.2⟩
 ·rw[vm h]
  exact⟨fun h2=>by omega,fun h2=>absurd h2.1 h⟩
noncomputable def AI (n:aQ)(todo:List Nat):List Bool:=vN n.sg.length fun s=>DC n todo s
theorem ui (n:aQ)(todo:List Nat):(AI n todo).length=n.sg.length:=rf _ _
theorem uj {n:aQ}{todo:List Nat}{s:Nat}(h:s<n.sg.length):(AI n todo).getD s default=true↔DC n todo s:=jU h
theorem M9 (n:aQ):AI n []=List.replicate n.sg.length false:=by
 refine(mJ (by simp) fun j hj=> ?_).symm
 constructor
 ·intro h;simp[List.getD_eq_getElem?_getD,hj] at h
 ·rintro⟨q,hq,_⟩;cases hq
theorem M' {n:aQ}{T:List Nat}{i:Nat}(hs:dr n (dT n i)):(AI n T).set (dT n i).toNat true=AI n (T++[i]):=by
 unfold dr at hs
 refine mJ (by rw[List.length_set,ui]) fun j hj=> ?_
 rw[cG (by rw[ui];omega)]
 by_cases h:j=(dT n i).toNat
 ·rw[if_pos h]
  exact⟨fun _=>⟨i,by simp,by omega⟩,fun _=>rfl⟩
 ·rw[if_neg h,uj hj]
  constructor
  ·rintro⟨q,h1,h2⟩;exact⟨q,by simp[h1],h2⟩
  ·rintro⟨q,h1,h2⟩
   rcases List.mem_append.1 h1 with h1|h1
   ·exact⟨q,h1,h2⟩
   ·simp only[List.mem_singleton] at h1
    subst h1;exact absurd h2 (by omega)
theorem Hf {n:aQ}(hm:aV n){todo out:List Nat}(h:qM n todo out){k:Nat}(hk:k<todo.length):(AI n todo).set (dT n (todo.getD k 0)).toNat false=AI n (todo.eraseIdx k):=by
 have g0:todo.getD k 0=todo[k]:=by rw[List.getD_eq_getElem?_getD,List.getElem?_eq_getElem hk];rfl
 have hi:=h.MF _ (List.getElem_mem hk)
 have hs:dr n (dT n todo[k]):=(hm.aP _ hi.1).1
 unfold dr at hs
 rw[g0]
 refine mJ (by rw[List.length_set,ui]) fun j hj=> ?_
 rw[cG (by rw[ui];omega)]
 have fD:∀q (hq:q<todo.length),q≠k->todo[q]≠todo[k]:=fun q hq hqk he=>by
  rcases Nat.lt_or_gt_of_ne hqk with bD|hgt
  ·have:=List.pairwise_iff_getElem.1 h.Xa q k hq hk bD;omega
  ·have:=List.pairwise_iff_getElem.1 h.Xa k q hk hq hgt;omega
 by_cases dA:j=(dT n todo[k]).toNat
 ·rw[if_pos dA]
  refine⟨fun hh=>Bool.noConfusion hh,fun hh=> ?_⟩
  rw[show((j:Nat):Int)=dT n todo[k] by omega] at hh
  have:=(DD hm (h.step hk) hi.1).1 hh
  rw[List.mem_eraseIdx_iff_getElem] at this
  obtain⟨q,h1,h2,h3⟩:=this
  exact absurd h3 (fD q h1 h2)
 ·rw[if_neg dA,uj hj]
  constructor
  ·rintro⟨q,h1,h2⟩
   refine⟨q,?_,h2⟩
   obtain⟨p,hp,rfl⟩:=List.getElem_of_mem h1
   rw[List.mem_eraseIdx_iff_getElem]
   refine⟨p,hp,fun hpk=> ?_,rfl⟩
   subst hpk;omega
  ·rintro⟨q,h1,h2⟩
   exact⟨q,(List.eraseIdx_sublist _ _).subset h1,h2⟩
end Go.Xw
namespace Go.Proofs
open Go.Xw
set_option maxRecDepth 100000
set_option maxHeartbeats 2000000
attribute [local irreducible] ax aE
theorem ig (x:bm)(s:Int)(w0:World)(hM:iH w0 x)(hl:x.sg.length<=1048576):bN Tryz.prog 170 [x.v,.int .i64 s] w0 (fun v w=>v= .int .i64 (Ih x.n s)/\Ext w0 w):=by
 have en:x.n.sg.length=x.sg.length:=rfl
 refine eu Tryz.Q6 ?_;intro C hp;skip;refine bP hp ?_;intro w b2 hx hp;refine az ?_
 (first|apply fx|apply cf)<;>intro h1 e<;>rw[e]<;>clear e;all_goals((repeat(first|(refine aG ?_;first|refine aO ?_|refine ba ?_)|(refine ah ?_;refine aH hp ?_))))
 ·refine aN ?_;refine aq ?_
  exact⟨by unfold Ih;rw[if_neg (by omega)],hp.x⟩
 ·apply ae<;>intro h2
  ·refine aN ?_;refine aq ?_
   exact⟨by unfold Ih;rw[if_neg (by omega)],hp.x⟩
  ·refine aM ?_;(repeat(first|(refine ah ?_;first|refine aH hp ?_|refine rP hp ?_)|refine aq ?_))
   exact⟨by unfold Ih;rw[if_pos (by omega)];rfl,hp.x⟩
theorem fC (x:bm)(s:Int)(w0:World)(hM:iH w0 x)(hl:x.sg.length<=1048576):bN Tryz.prog 169 [x.v,.int .i64 s] w0 (fun v w=>v= .bool (pB (sf x.n s))/\Ext w0 w):=by
 refine eu Tryz.Q5 ?_;intro C hp;skip;refine bP hp ?_;intro w b2 hx hp;refine az ?_;refine aH hp ?_
 refine bQ hp Tryz.func170 (ig x s _ hp.mod hl) ?_;intro w hx hp
 (first|apply fx|apply cf)<;>intro h1 e<;>rw[e]<;>clear e;all_goals((repeat(first|(refine aG ?_;first|refine aO ?_|refine ba ?_)|refine aq ?_)))
 ·exact⟨by rw[cR.2 (yX.1 (.inl h1))],hp.x⟩
 ·refine⟨?_,hp.x⟩
  by_cases h2:Ih x.n s=2
  ·rw[cR.2 (yX.1 (.inr h2)),decide_eq_true h2]
  ·rw[bt (fun h=>by rcases yX.2 h with h|h;exact h1 h;exact h2 h),decide_eq_false h2]
theorem qR (a:Option Addr)(c:Nat)(D:List bm)(zI:D.length=1)(x:bm)(uC:D.getD 0 default=x)(rW:x.ins=[])(w0:World)(hD:Rd w0 a 4 bm.cs D)(vK:x.sg.length<=1048576)(r7:x.aP.length<=1048576)(Xi:x.ms.length<=1048576):
  bN Tryz.prog 167 [.agg ⟨[.slice a 1 c]⟩,.int .i64 0] w0 (fun v w=>v= .bool (pB (x.sg.length<=30/\x.aP.length<=30/\x.ms.length<=2))/\Ext w0 w):=by
 have pW:x.ins.length=0:=by rw[rW];rfl
 subst uC
 have e0:D.getD (Int.toNat 0) default=D.getD 0 default:=rfl
 refine eu Tryz.Jt ?_;intro C hp;skip;refine bP hp ?_;intro w b2 hx hp;refine az ?_;(repeat(first|(refine aG ?_;refine aO ?_)|(refine ah ?_;refine aH hp ?_)))
 refine aM ?_
 refine aR [1,2,5] (fun(i:Nat)=>[(1,.int .i64 0),(2,.pointer (some ⟨b2,0,none⟩)),(5,.int .i64 (i:Int))])
  (fun i w'=>(i<=1/\(0<i->(D.getD 0 default).sg.length<=30/\(D.getD 0 default).aP.length<=30/\(D.getD 0 default).ms.length<=2))/\Hp w0 w' [rB b2 136 [.slice a 1 c]]) (fun i=>1-i) 0 rfl ⟨⟨by omega,fun h=>by omega⟩,hp⟩ ?_
 clear hp
 rintro i w1 ⟨⟨MD,nH⟩,hp⟩ IH C
 refine bL ?_;refine aH hp ?_
 apply ae<;>intro bD
 ·obtain rfl:i=0:=by omega
  refine aN ?_;(repeat(refine ah ?_;first|refine aH hp ?_|refine bb hp ?_))
  refine bP hp ?_;intro w b6 hx hp;refine az ?_;(repeat(first|(refine ah ?_;refine aH hp ?_)|(refine aI ?_;refine aW hp ?_;intro w hp;refine az ?_)))
  (first|apply fx|apply cf)<;>intro h1 e<;>rw[e]<;>clear e;all_goals((repeat(first|(refine aG ?_;first|refine aO ?_|refine ba ?_)|(refine ah ?_;refine aH hp ?_))))
  ·refine aN ?_;refine aq ?_
   exact⟨by rw[bt (fun h=>by omega)],hp.x⟩
  ·(first|apply fx|apply cf)<;>intro h2 e<;>rw[e]<;>clear e;all_goals((repeat(first|(refine aG ?_;first|refine aO ?_|refine ba ?_)|(refine ah ?_;refine aH hp ?_))))
   ·refine aN ?_;refine aq ?_
    exact⟨by rw[bt (fun h=>by omega)],hp.x⟩
   ·(first|apply fx|apply cf)<;>intro h3 e<;>rw[e]<;>clear e;all_goals((repeat(first|(refine aG ?_;first|refine aO ?_|refine ba ?_)|(refine ah ?_;refine aH hp ?_))))
    ·omega
    ·apply ae<;>intro h4
     ·refine aN ?_;refine aq ?_
      exact⟨by rw[bt (fun h=>by omega)],hp.x⟩
     ·refine aM ?_
      exact IH 1 _ _ _ (by omega) rfl ⟨⟨by omega,fun _=>by omega⟩,hp.drop⟩
 ·refine aM ?_
  obtain rfl:i=1:=by omega
  clear IH
  refine aR [1,2,7] (fun(i:Nat)=>[(1,.int .i64 0),(2,.pointer (some ⟨b2,0,none⟩)),(7,.int .i64 (i:Int))])
   (fun i w'=>Hp w0 w' [rB b2 136 [.slice a 1 c]]/\True) (fun i=>0) 0 rfl ⟨hp,trivial⟩ ?_
  clear hp
  rintro i w1 ⟨hp,_⟩ IH C
  refine bL ?_;(repeat(refine ah ?_;first|refine aH hp ?_|refine rP hp ?_))
  rw[e0]
  apply ae<;>intro bD
  ·omega
  ·refine aM ?_;refine aq ?_
   exact⟨by rw[cR.2 (nH (by omega))],hp.x⟩
theorem si (a:Option Addr)(c:Nat)(D:List bm)(zI:D.length=1)(x:bm)(uC:D.getD 0 default=x)(rW:x.ins=[])(l1:x.sg.length<=30)(l2:x.aP.length<=30)(l3:x.ms.length<=2)(s:Nat)(hs:s<x.sg.length)(w0:World)(hD:Rd w0 a 4 bm.cs D)(hM:iH w0 x):
  bN Tryz.prog 168 [.agg ⟨[.slice a 1 c]⟩,.int .i64 0,.int .i64 (s:Int)] w0 (fun v w=>v= .int .i64 (wq x.n s)/\Ext w0 w):=by
 have pW:x.ins.length=0:=by rw[rW];rfl
 have e0:D.getD (Int.toNat 0) default=x:=uC
 refine eu Tryz.Ju ?_;intro C hp;skip;refine bP hp ?_;intro w b3 hx hp;refine az ?_;refine aH hp ?_
 refine bQ hp Tryz.func167 ((qR a c D zI x uC rW _ hp.rd (by omega) (by omega) (by omega)).tt (cR.2 ⟨l1,l2,l3⟩)) ?_;intro w hx hp;(repeat(first|(refine aG ?_;refine aO ?_)|(refine ah ?_;first|refine aH hp ?_|refine rP hp ?_)))
 rw[e0]
 refine ae (fun hg=>False.elim (by omega)) (fun _=> ?_);refine aM ?_;(repeat(refine ah ?_;first|refine aH hp ?_|refine ik hp ?_))
 rw[e0]
 refine bP hp ?_;intro w b7 hx hp;refine az ?_;refine aW hp ?_;intro w hp;refine az ?_
 have hp:Hp w0 _ [rB b7 41 x.cs,rB b3 136 [.slice a 1 c]]:=hp
 refine aR [2,3,7,8,9] (fun(i:Nat)=>[(2,.int .i64 (s:Int)),(3,.pointer (some ⟨b3,0,none⟩)),(7,.pointer (some ⟨b7,0,none⟩)),(8,.int .i64 (gH x.n.aP s i)),(9,.int .i64 (i:Int))])
  (fun i w'=>i<=x.aP.length/\Hp w0 w' [rB b7 41 x.cs,rB b3 136 [.slice a 1 c]]) (fun i=>x.aP.length-i) 0 rfl ⟨by omega,hp⟩ ?_
 clear hp
 rintro i w1 ⟨hi,hp⟩ IH C
 have bA:=mT x.n.aP s i
 refine bL ?_;refine aH hp ?_
 apply ae<;>intro bD
 ·have aF:i<x.aP.length:=by omega
  have Ig:=p8 x i
  refine aN ?_;(repeat(refine ah ?_;first|refine aH hp ?_|refine dg hp ?_))
  apply ae<;>intro he
  ·refine aN ?_
   refine IH (i+1) _ _ _ (by omega) (by rw[gH,Ig,if_pos he];rfl) ⟨by omega,hp⟩
  ·refine aM ?_
   refine IH (i+1) _ _ _ (by omega) (by rw[gH,Ig,if_neg he];rfl) ⟨by omega,hp⟩
 ·refine aM ?_
  obtain rfl:i=x.aP.length:=by omega
  clear IH
  refine aR [2,3,7,8,10] (fun(i:Nat)=>[(2,.int .i64 (s:Int)),(3,.pointer (some ⟨b3,0,none⟩)),(7,.pointer (some ⟨b7,0,none⟩)),(8,.int .i64 (gH x.n.aP s x.aP.length+hJ x.n.ms s i)),(10,.int .i64 (i:Int))])
   (fun i w'=>i<=x.ms.length/\Hp w0 w' [rB b7 41 x.cs,rB b3 136 [.slice a 1 c]]) (fun i=>x.ms.length-i) 0 (by rw[show hJ x.n.ms s 0=0 from rfl,Int.add_zero];rfl) ⟨by omega,hp⟩ ?_
  clear hp
  rintro i w1 ⟨hi,hp⟩ IH C
  have bM:=nX x.n.ms s i
  have emt:x.n.ms=x.ms:=rfl
  refine bL ?_;refine aH hp ?_
  apply ae<;>intro bD
  ·have aF:i<x.ms.length:=by omega
   refine aN ?_;(repeat(refine ah ?_;first|refine aH hp ?_|refine dg hp ?_))
   apply ae<;>intro he
   ·refine aN ?_
    refine IH (i+1) _ _ _ (by omega) (by rw[hJ,emt,if_pos he,<-Int.add_assoc];rfl) ⟨by omega,hp⟩
   ·refine aM ?_
    refine IH (i+1) _ _ _ (by omega) (by rw[hJ,emt,if_neg he];rfl) ⟨by omega,hp⟩
  ·refine aM ?_
   obtain rfl:i=x.ms.length:=by omega
   clear IH
   refine aR [2,3,7,8,11] (fun(i:Nat)=>[(2,.int .i64 (s:Int)),(3,.pointer (some ⟨b3,0,none⟩)),(7,.pointer (some ⟨b7,0,none⟩)),(8,.int .i64 (wq x.n s)),(11,.int .i64 (i:Int))])
    (fun i w'=>Hp w0 w' [rB b7 41 x.cs,rB b3 136 [.slice a 1 c]]/\True) (fun i=>0) 0 (by unfold wq;rw[x.cy];rfl) ⟨hp,trivial⟩ ?_
   clear hp
   rintro i w1 ⟨hp,_⟩ IH C
   refine bL ?_;refine aH hp ?_
   apply ae<;>intro bD
   ·omega
   ·refine aM ?_;refine aq ?_
    exact⟨rfl,hp.x⟩
end Go.Proofs
end
section
namespace Go.Proofs
open Go.Xw
set_option maxRecDepth 100000
set_option maxHeartbeats 2000000
attribute [local irreducible] ax aE
theorem FB {x:bm}(zJ:∀j:Nat,j<x.sg.length->se (x.sg.getD j default)/\((x.sg.getD j default).kind≠0->wq x.n j=1)){s:Int}(h:dr x.n s):¬Ih x.n s<0:=by
 rw[wW h]
 unfold dr at h
 change 0<=s/\s<(x.sg.length:Int) at h
 have:=(zJ s.toNat (by omega)).1.1
 change¬(x.sg.getD s.toNat default).kind<0
 omega
theorem qS (a:Option Addr)(c:Nat)(D:List bm)(zI:D.length=1)(x:bm)(uC:D.getD 0 default=x)(rW:x.ins=[])(w0:World)(hD:Rd w0 a 4 bm.cs D)(hM:iH w0 x)(hS:qK x.n)(hW:qL x.n):
  bN Tryz.prog 135 [.agg ⟨[.slice a 1 c]⟩,.int .i64 0] w0 (fun v w=>v= .bool (pB (aV x.n))/\Ext w0 w):=by
 have pW:x.ins.length=0:=by rw[rW];rfl
 have s1:x.sg.length<=1048576:=hS.sg
 have s2:x.aP.length<=1048576:=by have:=hS.aP;rw[x.cy] at this;exact this
 have s6:x.ms.length<=1048576:=hS.ms
 have e0:D.getD (Int.toNat 0) default=x:=uC
 refine eu Tryz.Js ?_;intro C hp;skip;refine bP hp ?_;intro w b2 hx hp;refine az ?_;refine aH hp ?_
 by_cases hc:x.sg.length<=30/\x.aP.length<=30/\x.ms.length<=2
 ·obtain⟨l1,l2,l3⟩:=hc
  refine bQ hp Tryz.func167 ((qR a c D zI x uC rW _ hp.rd s1 s2 s6).tt (cR.2 ⟨l1,l2,l3⟩)) ?_;intro w hx hp
  refine aM ?_;(repeat(refine ah ?_;first|refine aH hp ?_|refine ik hp ?_))
  rw[e0]
  refine bP hp ?_;intro w b5 hx hp;refine az ?_;refine aW hp ?_;intro w hp;refine az ?_
  have hp:Hp w0 _ [rB b5 41 x.cs,rB b2 136 [.slice a 1 c]]:=hp
  refine aR [1,2,5,6] (fun(i:Nat)=>[(1,.int .i64 0),(2,.pointer (some ⟨b2,0,none⟩)),(5,.pointer (some ⟨b5,0,none⟩)),(6,.int .i64 (i:Int))])
   (fun i w'=>(i<=x.sg.length/\∀j:Nat,j<i->se (x.sg.getD j default)/\((x.sg.getD j default).kind≠0->wq x.n j=1))/\Hp w0 w' [rB b5 41 x.cs,rB b2 136 [.slice a 1 c]]) (fun i=>x.sg.length-i) 0 rfl ⟨⟨by omega,fun j hj=>by omega⟩,hp⟩ ?_
  clear hp
  rintro i w1 ⟨⟨hi,zJ⟩,hp⟩ IH C
  refine bL ?_;refine aH hp ?_
  apply ae<;>intro bD
  ·have aF:i<x.sg.length:=by omega
   refine aN ?_;(repeat(refine ah ?_;first|refine aH hp ?_|refine bb hp ?_))
   refine bP hp ?_;intro w b7 hx hp;refine az ?_;(repeat(first|(refine ah ?_;refine aH hp ?_)|(refine aI ?_;refine aW hp ?_;intro w hp;refine az ?_)))
   by_cases h1:0<=(x.sg.getD i default).kind/\(x.sg.getD i default).kind<=3
   ·refine bQ hp Tryz.func79 ((cD (x.sg.getD i default).kind 0 3 _).yes h1) ?_;intro w hx hp;(repeat(first|(refine aG ?_;refine aO ?_)|(refine ah ?_;refine aH hp ?_)))
    by_cases h2:0<=(x.sg.getD i default).width/\(x.sg.getD i default).width<=4
    ·refine bQ hp Tryz.func79 ((cD (x.sg.getD i default).width 0 4 _).yes h2) ?_;intro w hx hp;(repeat(first|(refine aG ?_;refine aO ?_)|(refine ah ?_;refine aH hp ?_)))
     by_cases h3:0<=(x.sg.getD i default).init/\(x.sg.getD i default).init<=15
     ·refine bQ hp Tryz.func79 ((cD (x.sg.getD i default).init 0 15 _).yes h3) ?_;intro w hx hp;(repeat(first|(refine aG ?_;refine aO ?_)|(refine ah ?_;refine aH hp ?_)))
      (first|apply fx|apply cf)<;>intro h4 e<;>rw[e]<;>clear e;all_goals((repeat(first|(refine aG ?_;first|refine aO ?_|refine ba ?_)|(refine ah ?_;refine aH hp ?_))))
      ·apply ae<;>intro h5
       ·have cQ:¬aV x.n:=fun h=>by rcases(h.sg i aF).2.2 with h|h;exact h4 h;exact h5 h.1
        refine aN ?_;refine aq ?_
        exact⟨by rw[bt cQ],hp.x⟩
       ·refine aM ?_;refine aH hp ?_
        have hs:se (x.sg.getD i default):=⟨h1,h2,.inr ⟨Decidable.not_not.1 h5,h3⟩⟩
        (first|apply fx|apply cf)<;>intro h6 e<;>rw[e]<;>clear e;all_goals((repeat(first|(refine aG ?_;first|refine aO ?_|refine ba ?_)|(refine ah ?_;refine aH hp ?_))))
        ·refine bQ hp Tryz.func168 (si a c D zI x uC rW l1 l2 l3 i aF _ hp.rd hp.mod) ?_;intro w hx hp;refine aO ?_
         apply ae<;>intro h7
         ·have cQ:¬aV x.n:=fun h=>h7 (h.RY i aF (by have hk:(x.n.sg.getD i default).kind=(x.sg.getD i default).kind:=rfl;omega))
          refine aN ?_;refine aq ?_
          exact⟨by rw[bt cQ],hp.x⟩
         ·refine aM ?_
          refine IH (i+1) _ _ _ (by omega) rfl ⟨⟨by omega,fun j hj=> ?_⟩,hp.drop⟩
          by_cases dA:j<i
          ·exact zJ j dA
          ·obtain rfl:j=i:=by omega
           exact⟨hs,fun _=>Decidable.not_not.1 h7⟩
        ·refine aM ?_
         refine IH (i+1) _ _ _ (by omega) rfl ⟨⟨by omega,fun j hj=> ?_⟩,hp.drop⟩
         by_cases dA:j<i
         ·exact zJ j dA
         ·obtain rfl:j=i:=by omega
          exact⟨hs,fun h=>absurd h h6⟩
      ·have hs:se (x.sg.getD i default):=⟨h1,h2,.inl (Decidable.not_not.1 h4)⟩
       refine aM ?_;refine aH hp ?_
       (first|apply fx|apply cf)<;>intro h6 e<;>rw[e]<;>clear e;all_goals((repeat(first|(refine aG ?_;first|refine aO ?_|refine ba ?_)|(refine ah ?_;refine aH hp ?_))))
       ·refine bQ hp Tryz.func168 (si a c D zI x uC rW l1 l2 l3 i aF _ hp.rd hp.mod) ?_;intro w hx hp;refine aO ?_
        apply ae<;>intro h7
        ·have cQ:¬aV x.n:=fun h=>h7 (h.RY i aF (by have hk:(x.n.sg.getD i default).kind=(x.sg.getD i default).kind:=rfl;omega))
         refine aN ?_;refine aq ?_
         exact⟨by rw[bt cQ],hp.x⟩
        ·refine aM ?_
         refine IH (i+1) _ _ _ (by omega) rfl ⟨⟨by omega,fun j hj=> ?_⟩,hp.drop⟩
         by_cases dA:j<i
         ·exact zJ j dA
         ·obtain rfl:j=i:=by omega
          exact⟨hs,fun _=>Decidable.not_not.1 h7⟩
       ·refine aM ?_
        refine IH (i+1) _ _ _ (by omega) rfl ⟨⟨by omega,fun j hj=> ?_⟩,hp.drop⟩
        by_cases dA:j<i
        ·exact zJ j dA
        ·obtain rfl:j=i:=by omega
         exact⟨hs,fun h=>absurd h h6⟩
     ·refine bQ hp Tryz.func79 ((cD (x.sg.getD i default).init 0 15 _).no h3) ?_;intro w hx hp;(repeat(refine aG ?_;first|refine aO ?_|refine ba ?_))
      have cQ:¬aV x.n:=fun h=>h3 (by rcases(h.sg i aF).2.2 with h|h;(have h:(x.sg.getD i default).init=0:=h;omega);exact h.2)
      refine aN ?_;refine aq ?_
      exact⟨by rw[bt cQ],hp.x⟩
    ·refine bQ hp Tryz.func79 ((cD (x.sg.getD i default).width 0 4 _).no h2) ?_;intro w hx hp;(repeat(refine aG ?_;first|refine aO ?_|refine ba ?_))
     have cQ:¬aV x.n:=fun h=>h2 (h.sg i aF).2.1
     refine aN ?_;refine aq ?_
     exact⟨by rw[bt cQ],hp.x⟩
   ·refine bQ hp Tryz.func79 ((cD (x.sg.getD i default).kind 0 3 _).no h1) ?_;intro w hx hp;(repeat(refine ba ?_))
    have cQ:¬aV x.n:=fun h=>h1 (h.sg i aF).1
    refine aN ?_;refine aq ?_
    exact⟨by rw[bt cQ],hp.x⟩
  ·refine aM ?_
   obtain rfl:i=x.sg.length:=by omega
   clear IH
   refine aR [2,5,8] (fun(i:Nat)=>[(2,.pointer (some ⟨b2,0,none⟩)),(5,.pointer (some ⟨b5,0,none⟩)),(8,.int .i64 (i:Int))])
    (fun i w'=>(i<=x.aP.length/\∀j,j<i->JZ x.n (x.n.aP.getD j default))/\Hp w0 w' [rB b5 41 x.cs,rB b2 136 [.slice a 1 c]]) (fun i=>x.aP.length-i) 0 rfl ⟨⟨by omega,fun j hj=>by omega⟩,hp⟩ ?_
   clear hp
   rintro i w1 ⟨⟨hi,has⟩,hp⟩ IH C
   refine bL ?_;refine aH hp ?_
   apply ae<;>intro bD
   ·have aF:i<x.aP.length:=by omega
    have Xj:=hM.aP.at_ aF
    have Ig:=p8 x i
    have Fy:(x.aP.getD i default).ops.length<=1048576:=by have:=hS.ops i (by rw[x.cy];exact aF);rw[x.mR] at this;exact this
    have eoi:∀j,j<(x.aP.getD i default).ops.length->u5 ((x.aP.getD i default).ops.getD j default):=fun j hj=>by have:=hW.ops i (by rw[x.cy];exact aF) j (by rw[x.mR];exact hj);rw[x.mR] at this;exact this
    refine aN ?_;(repeat(refine ah ?_;first|refine aH hp ?_|refine bb hp ?_))
    refine bP hp ?_;intro w b9 hx hp;refine az ?_;(repeat(first|(refine ah ?_;refine aH hp ?_)|(refine aI ?_;refine aW hp ?_;intro w hp;refine az ?_)))
    by_cases h1:sf x.n (x.aP.getD i default).tg
    ·refine bQ hp Tryz.func169 ((fC x (x.aP.getD i default).tg _ hp.mod s1).tt (cR.2 h1)) ?_;intro w hx hp;(repeat(first|(refine aG ?_;first|refine aO ?_|refine ba ?_)|(refine ah ?_;refine aH hp ?_)))
     have h2:dr x.n (x.aP.getD i default).tg/\(aY x.n (x.aP.getD i default).tg=1\/aY x.n (x.aP.getD i default).tg=2\/aY x.n (x.aP.getD i default).tg=3):=⟨h1.1,by rcases h1.2 with h|h;exact .inl h;exact .inr (.inl h)⟩
     by_cases h4:fT (x.aP.getD i default).ops x.sg.length
     ·refine bQ hp Tryz.func78 ((fA _ _ _ (x.aP.getD i default).ops rfl x.sg.length _ hp.rd Fy eoi).tt (lv h4)) ?_;intro w hx hp;refine aO ?_
      refine aM ?_
      refine IH (i+1) _ _ _ (by omega) rfl ⟨⟨by omega,fun j hj=> ?_⟩,hp.drop⟩
      by_cases dA:j<i
      ·exact has j dA
      ·obtain rfl:j=i:=by omega
       exact by rw[Ig];exact⟨h2.1,h2.2,h4⟩
     ·refine bQ hp Tryz.func78 ((fA _ _ _ (x.aP.getD i default).ops rfl x.sg.length _ hp.rd Fy eoi).ff (gP h4)) ?_;intro w hx hp;refine aO ?_
      have cQ:¬aV x.n:=fun h=>h4 (by have:=h.aP i (by rw[x.cy];exact aF);rw[Ig] at this;exact this.2.2)
      refine aN ?_;refine aq ?_
      exact⟨by rw[bt cQ],hp.x⟩
    ·refine bQ hp Tryz.func169 ((fC x (x.aP.getD i default).tg _ hp.mod s1).ff (bt h1)) ?_;intro w hx hp;(repeat(first|(refine aG ?_;refine aO ?_)|(refine ah ?_;refine aH hp ?_)))
     refine bQ hp Tryz.func170 (ig x (x.aP.getD i default).tg _ hp.mod s1) ?_;intro w hx hp;refine aO ?_
     (first|apply fx|apply cf)<;>intro h3 e<;>rw[e]<;>clear e;all_goals((repeat(first|(refine aG ?_;first|refine aO ?_|refine ba ?_)|(refine ah ?_;refine aH hp ?_))))
     ·have cQ:¬aV x.n:=fun h=>by
       have:=h.aP i (by rw[x.cy];exact aF)
       rw[Ig] at this
       rcases this.2.1 with hk|hk|hk
       ·exact h1 ⟨this.1,.inl hk⟩
       ·exact h1 ⟨this.1,.inr hk⟩
       ·exact h3 (by rw[wW this.1];exact hk)
      refine aN ?_;refine aq ?_
      exact⟨by rw[bt cQ],hp.x⟩
     ·have h3:Ih x.n (x.aP.getD i default).tg=3:=Decidable.not_not.1 h3
      have je:dr x.n (x.aP.getD i default).tg:=Classical.byContradiction fun hh=>by rw[vm hh] at h3;omega
      have h2:dr x.n (x.aP.getD i default).tg/\(aY x.n (x.aP.getD i default).tg=1\/aY x.n (x.aP.getD i default).tg=2\/aY x.n (x.aP.getD i default).tg=3):=⟨je,.inr (.inr (by rw[<-wW je];exact h3))⟩
      by_cases h4:fT (x.aP.getD i default).ops x.sg.length
      ·refine bQ hp Tryz.func78 ((fA _ _ _ (x.aP.getD i default).ops rfl x.sg.length _ hp.rd Fy eoi).tt (lv h4)) ?_;intro w hx hp;refine aO ?_
       refine aM ?_
       refine IH (i+1) _ _ _ (by omega) rfl ⟨⟨by omega,fun j hj=> ?_⟩,hp.drop⟩
       by_cases dA:j<i
       ·exact has j dA
       ·obtain rfl:j=i:=by omega
        exact by rw[Ig];exact⟨h2.1,h2.2,h4⟩
      ·refine bQ hp Tryz.func78 ((fA _ _ _ (x.aP.getD i default).ops rfl x.sg.length _ hp.rd Fy eoi).ff (gP h4)) ?_;intro w hx hp;refine aO ?_
       have cQ:¬aV x.n:=fun h=>h4 (by have:=h.aP i (by rw[x.cy];exact aF);rw[Ig] at this;exact this.2.2)
       refine aN ?_;refine aq ?_
       exact⟨by rw[bt cQ],hp.x⟩
   ·refine aM ?_
    obtain rfl:i=x.aP.length:=by omega
    clear IH
    refine aR [2,5,10] (fun(i:Nat)=>[(2,.pointer (some ⟨b2,0,none⟩)),(5,.pointer (some ⟨b5,0,none⟩)),(10,.int .i64 (i:Int))])
     (fun i w'=>Hp w0 w' [rB b5 41 x.cs,rB b2 136 [.slice a 1 c]]/\True) (fun i=>0) 0 rfl ⟨hp,trivial⟩ ?_
    clear hp
    rintro i w1 ⟨hp,_⟩ IH C
    refine bL ?_;refine aH hp ?_
    apply ae<;>intro bD
    ·omega
    ·refine aM ?_
     clear IH
     refine aR [5,15] (fun(i:Nat)=>[(5,.pointer (some ⟨b5,0,none⟩)),(15,.int .i64 (i:Int))])
      (fun i w'=>(i<=x.ms.length/\∀j,j<i->J0 x.n (x.ms.getD j default))/\Hp w0 w' [rB b5 41 x.cs,rB b2 136 [.slice a 1 c]]) (fun i=>x.ms.length-i) 0 rfl ⟨⟨by omega,fun j hj=>by omega⟩,hp⟩ ?_
     clear hp
     rintro i w1 ⟨⟨hi,Hc⟩,hp⟩ IH C
     refine bL ?_;refine aH hp ?_
     apply ae<;>intro bD
     ·have aF:i<x.ms.length:=by omega
      refine aN ?_;(repeat(refine ah ?_;first|refine aH hp ?_|refine bb hp ?_))
      refine bP hp ?_;intro w Xl hx hp;refine az ?_;(repeat(first|(refine ah ?_;refine aH hp ?_)|(refine aI ?_;refine aW hp ?_;intro w hp;refine az ?_)))
      refine bQ hp Tryz.func170 (ig x (x.ms.getD i default).addr _ hp.mod s1) ?_;intro w hx hp
      by_cases h1:dr x.n (x.ms.getD i default).addr
      ·have k1:=FB zJ h1
       rw[decide_eq_false k1]
       (repeat(first|(refine aG ?_;refine aO ?_)|(refine ah ?_;refine aH hp ?_)))
       refine bQ hp Tryz.func170 (ig x (x.ms.getD i default).data _ hp.mod s1) ?_;intro w hx hp;refine aO ?_
       by_cases h2:dr x.n (x.ms.getD i default).data
       ·have k2:=FB zJ h2
        rw[decide_eq_false k2]
        (repeat(first|(refine aG ?_;refine aO ?_)|(refine ah ?_;refine aH hp ?_)))
        refine bQ hp Tryz.func170 (ig x (x.ms.getD i default).write _ hp.mod s1) ?_;intro w hx hp;refine aO ?_
        by_cases h3:dr x.n (x.ms.getD i default).write
        ·have k3:=FB zJ h3
         rw[decide_eq_false k3]
         (repeat(first|(refine aG ?_;refine aO ?_)|(refine ah ?_;refine aH hp ?_)))
         by_cases h4:sf x.n (x.ms.getD i default).out
         ·refine bQ hp Tryz.func169 ((fC x (x.ms.getD i default).out _ hp.mod s1).tt (cR.2 h4)) ?_;intro w hx hp;refine aO ?_
          refine aM ?_
          refine IH (i+1) _ _ _ (by omega) rfl ⟨⟨by omega,fun j hj=> ?_⟩,hp.drop⟩
          by_cases dA:j<i
          ·exact Hc j dA
          ·obtain rfl:j=i:=by omega
           exact⟨h1,h2,h3,h4⟩
         ·refine bQ hp Tryz.func169 ((fC x (x.ms.getD i default).out _ hp.mod s1).ff (bt h4)) ?_;intro w hx hp;refine aO ?_
          have cQ:¬aV x.n:=fun h=>h4 (h.ms i aF).2.2.2
          refine aN ?_;refine aq ?_
          exact⟨by rw[bt cQ],hp.x⟩
        ·rw[vm h3]
         (repeat(refine ba ?_))
         have cQ:¬aV x.n:=fun h=>h3 (h.ms i aF).2.2.1
         refine aN ?_;refine aq ?_
         exact⟨by rw[bt cQ],hp.x⟩
       ·rw[vm h2]
        (repeat(refine ba ?_))
        have cQ:¬aV x.n:=fun h=>h2 (h.ms i aF).2.1
        refine aN ?_;refine aq ?_
        exact⟨by rw[bt cQ],hp.x⟩
      ·rw[vm h1]
       (repeat(refine ba ?_))
       have cQ:¬aV x.n:=fun h=>h1 (h.ms i aF).1
       refine aN ?_;refine aq ?_
       exact⟨by rw[bt cQ],hp.x⟩
     ·refine aM ?_;refine aq ?_
      obtain rfl:i=x.ms.length:=by omega
      have xe:aV x.n:=⟨l1,by rw[x.cy];exact l2,l3,fun j hj=>(zJ j hj).1,fun j hj=>has j (by rw[x.cy] at hj;exact hj),Hc,fun j hj hk=>(zJ j hj).2 (by rcases hk with h|h|h<;>(have h:(x.sg.getD j default).kind=_:=h;omega))⟩
      exact⟨by rw[cR.2 xe],hp.x⟩
 ·refine bQ hp Tryz.func167 ((qR a c D zI x uC rW _ hp.rd s1 s2 s6).ff (bt hc)) ?_;intro w hx hp
  have cQ:¬aV x.n:=fun h=>hc ⟨h.l1,by have:=h.l2;rw[x.cy] at this;exact this,h.l3⟩
  refine aN ?_;refine aq ?_
  exact⟨by rw[bt cQ],hp.x⟩
theorem qT (a:Option Addr)(c:Nat)(D:List bm)(zI:D.length=1)(x:bm)(uC:D.getD 0 default=x)(rW:x.ins=[])(w0:World)(hD:Rd w0 a 4 bm.cs D)(hM:iH w0 x)(hS:qK x.n)(hW:qL x.n):
  bN Tryz.prog 75 [.agg ⟨[.slice a 1 c]⟩] w0 (fun v w=>v= .bool (pB (aV x.n))/\Ext w0 w):=by
 refine eu Tryz.Oh ?_;intro C hp;skip;refine bP hp ?_;intro w b1 hx hp;refine az ?_;refine aH hp ?_
 refine bQ hp Tryz.func79 ((cD 1 1 4 _).yes (by decide)) ?_;intro w hx hp
 refine aM ?_
 refine aR [1,3] (fun(i:Nat)=>[(1,.pointer (some ⟨b1,0,none⟩)),(3,.int .i64 (i:Int))])
  (fun i w'=>(i<=1/\(0<i->aV x.n))/\Hp w0 w' [rB b1 136 [.slice a 1 c]]) (fun i=>1-i) 0 rfl ⟨⟨by omega,fun h=>by omega⟩,hp⟩ ?_
 clear hp
 rintro i w1 ⟨⟨MD,nH⟩,hp⟩ IH C
 refine bL ?_;refine aH hp ?_
 apply ae<;>intro bD
 ·obtain rfl:i=0:=by omega
  refine aN ?_;refine aH hp ?_
  by_cases hm:aV x.n
  ·refine bQ hp Tryz.func135 ((qS a c D zI x uC rW _ hp.rd hp.mod hS hW).tt (cR.2 hm)) ?_;intro w hx hp
   refine aM ?_
   exact IH 1 _ _ _ (by omega) rfl ⟨⟨by omega,fun _=>hm⟩,hp⟩
  ·refine bQ hp Tryz.func135 ((qS a c D zI x uC rW _ hp.rd hp.mod hS hW).ff (bt hm)) ?_;intro w hx hp
   refine aN ?_;refine aq ?_
   exact⟨by rw[bt hm],hp.x⟩
 ·refine aM ?_;refine aq ?_
  obtain rfl:i=1:=by omega
  exact⟨by rw[cR.2 (nH (by omega))],hp.x⟩
end Go.Proofs
end
