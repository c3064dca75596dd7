/- The program's checks of modules; each under its stated conditions. -/
import Derived.Test.YtiepmliokblkjaaGreatBrf
import Derived.Test.YtiepmliokblkjaaGreatLists
set_option linter.all false
namespace Go.Proofs
open Go.Xw
set_option maxRecDepth 100000
set_option maxHeartbeats 1000000
attribute [local irreducible] ax aE
theorem yU (s:pQ)(w0:World):bN Tryz.prog 180 [.agg ⟨n7 s⟩] w0 (fun v w=>v= .bool (pB (sh s))/\Ext w0 w):=by
 refine eu Tryz.Rj ?_;intro C hp;skip;refine bP hp ?_;intro w b1 hx hp;refine az ?_;refine aI hp ?_
 by_cases h1:0<=s.kind/\s.kind<=3
 ·refine bQ hp Tryz.func124 ((bB s.kind 0 3 _).yes h1) ?_;intro w hx hp;(repeat(first|(refine aG ?_;refine aO ?_)|(refine ah ?_;refine aI hp ?_)))
  by_cases h2:0<=s.width/\s.width<=4
  ·refine bQ hp Tryz.func124 ((bB s.width 0 4 _).yes h2) ?_;intro w hx hp;refine aO ?_
   refine aM ?_;refine aI hp ?_
   (first|apply fx|apply cf)<;>intro h3 e<;>rw[e]<;>clear e;all_goals((repeat(first|(refine aG ?_;first|refine aO ?_|refine ba ?_)|(refine ah ?_;refine aI hp ?_)|refine aq ?_)))
   ·exact⟨by rw[cR.2 ⟨h1,h2,.inl h3⟩],hp.x⟩
   ·(first|apply fx|apply cf)<;>intro h4 e<;>rw[e]<;>clear e;all_goals((repeat(first|(refine aG ?_;first|refine aO ?_|refine ba ?_)|(refine ah ?_;refine aI hp ?_)|refine aq ?_)))
    ·by_cases h5:0<=s.init/\s.init<=15
     ·refine bQ hp Tryz.func124 ((bB s.init 0 15 _).yes h5) ?_;intro w hx hp;refine aO ?_;refine aq ?_
      exact⟨by rw[cR.2 ⟨h1,h2,.inr ⟨h4,h5⟩⟩],hp.x⟩
     ·refine bQ hp Tryz.func124 ((bB s.init 0 15 _).no h5) ?_;intro w hx hp;refine aO ?_;refine aq ?_
      exact⟨by rw[bt (fun h=>by rcases h.2.2 with h|h;exact h3 h;exact h5 h.2)],hp.x⟩
    ·exact⟨by rw[bt (fun h=>by rcases h.2.2 with h|h;exact h3 h;exact h4 h.1)],hp.x⟩
  ·refine bQ hp Tryz.func124 ((bB s.width 0 4 _).no h2) ?_;intro w hx hp;refine aO ?_
   refine aN ?_;refine aq ?_
   exact⟨by rw[bt (fun h=>h2 h.2.1)],hp.x⟩
 ·refine bQ hp Tryz.func124 ((bB s.kind 0 3 _).no h1) ?_;intro w hx hp;(repeat(refine ba ?_))
  refine aN ?_;refine aq ?_
  exact⟨by rw[bt (fun h=>h1 h.1)],hp.x⟩
theorem pA (k:Int)(w0:World):bN Tryz.prog 181 [.int .i64 k] w0 (fun v w=>v= .bool (decide (k=1\/k=2\/k=3))/\Ext w0 w):=by
 refine eu Tryz.Rk ?_;intro C hp
 (first|apply fx|apply cf)<;>intro h1 e<;>rw[e]<;>clear e;all_goals((repeat(first|(refine aG ?_;first|refine aO ?_|refine ba ?_)|refine aq ?_)))
 ·skip
  exact⟨by rw[decide_eq_true (.inl h1)],hp.x⟩
 ·(first|apply fx|apply cf)<;>intro h2 e<;>rw[e]<;>clear e;all_goals((repeat(first|(refine aG ?_;first|refine aO ?_|refine ba ?_)|refine aq ?_)))
  ·exact⟨by rw[decide_eq_true (.inr (.inl h2))],hp.x⟩
  ·exact⟨by simp[h1,h2],hp.x⟩
theorem DY (x:bm)(s:Int)(w0:World)(hX:iJ w0 x)(hl:x.sg.length<=1048576):bN Tryz.prog 184 [x.v,.int .i64 s] w0 (fun v w=>v= .bool (pB (si x.n s))/\Ext w0 w):=by
 refine eu Tryz.Rm ?_;intro C hp;skip;refine bP hp ?_;intro w b2 hx hp;refine az ?_;refine aI hp ?_
 by_cases h1:0<=s/\s<=x.sg.length-1
 ·refine bQ hp Tryz.func124 ((bB s 0 (x.sg.length-1) _).yes h1) ?_;intro w hx hp;(repeat(first|(refine aG ?_;refine aO ?_)|(refine ah ?_;first|refine aI hp ?_|refine rS hp ?_)))
  have jg:dr x.n s:=by have e:x.n.sg.length=x.sg.length:=rfl;unfold dr;omega
  (first|apply fx|apply cf)<;>intro h2 e<;>rw[e]<;>clear e;all_goals((repeat(first|(refine aG ?_;first|refine aO ?_|refine ba ?_)|(refine ah ?_;first|refine aI hp ?_|refine rS hp ?_)|refine aq ?_)))
  ·exact⟨by rw[cR.2 ⟨jg,.inl h2⟩],hp.x⟩
  ·refine⟨?_,hp.x⟩
   by_cases h3:aY x.n s=2
   ·rw[cR.2 ⟨jg,.inr h3⟩];exact congrArg _ (decide_eq_true h3)
   ·rw[bt (fun h=>by rcases h.2 with h|h;exact h2 h;exact h3 h)];exact congrArg _ (decide_eq_false h3)
 ·refine bQ hp Tryz.func124 ((bB s 0 (x.sg.length-1) _).no h1) ?_;intro w hx hp;(repeat(first|(refine aG ?_;refine ba ?_)|refine aq ?_))
  exact⟨by rw[bt (fun h=>h1 (by have h:=h.1;have e:x.n.sg.length=x.sg.length:=rfl;unfold dr at h;omega))],hp.x⟩
theorem yV (a:Option Addr)(c:Nat)(D:List bm)(zL:D.length=1)(x:bm)(uC:D.getD 0 default=x)(w0:World)(hD:Rd w0 a 4 bm.cs D)(vL:x.sg.length<=1048576)(sb:x.aP.length<=1048576)(hi:x.ins.length<=1048576)(Xl:x.ms.length<=1048576):
  bN Tryz.prog 178 [.agg ⟨[.slice a 1 c]⟩] w0 (fun v w=>v= .bool (pB (x.sg.length<=30/\x.aP.length<=30/\x.ins.length<=3/\x.ms.length<=2))/\Ext w0 w):=by
 subst uC
 refine eu Tryz.Rh ?_;intro C hp;skip;refine bP hp ?_;intro w b1 hx hp;refine az ?_;refine aI hp ?_
 refine aM ?_;refine aI hp ?_
 refine aR [10,11,12] (fun(i:Nat)=>[(10,.slice a 1 c),(11,.int .i64 1),(12,.int .i64 (i:Int))])
  (fun i w'=>(i<=1/\(0<i->(D.getD 0 default).sg.length<=30/\(D.getD 0 default).aP.length<=30/\(D.getD 0 default).ins.length<=3/\(D.getD 0 default).ms.length<=2))/\Hp w0 w' []) (fun i=>1-i) 0 rfl ⟨⟨by omega,fun h=>by omega⟩,hp.drop⟩ ?_
 clear hp
 rintro i w1 ⟨⟨ME,nH⟩,hp⟩ IH C
 refine bL ?_
 apply ae<;>intro bD
 ·obtain rfl:i=0:=by omega
  refine aN ?_;refine bb hp ?_
  refine bP hp ?_;intro w b4 hx hp;refine az ?_;(repeat(first|(refine ah ?_;refine aI hp ?_)|(refine aH ?_;refine aW hp ?_;intro w hp;refine az ?_)))
  (first|apply fx|apply cf)<;>intro h1 e<;>rw[e]<;>clear e;all_goals((repeat(first|(refine aG ?_;first|refine aO ?_|refine ba ?_)|(refine ah ?_;refine aI hp ?_))))
  ·refine aN ?_;refine aq ?_
   exact⟨by rw[bt (fun h=>by omega)],hp.x⟩
  ·(first|apply fx|apply cf)<;>intro h2 e<;>rw[e]<;>clear e;all_goals((repeat(first|(refine aG ?_;first|refine aO ?_|refine ba ?_)|(refine ah ?_;refine aI hp ?_))))
   ·refine aN ?_;refine aq ?_
    exact⟨by rw[bt (fun h=>by omega)],hp.x⟩
   ·(first|apply fx|apply cf)<;>intro h3 e<;>rw[e]<;>clear e;all_goals((repeat(first|(refine aG ?_;first|refine aO ?_|refine ba ?_)|(refine ah ?_;refine aI hp ?_))))
    ·refine aN ?_;refine aq ?_
     exact⟨by rw[bt (fun h=>by omega)],hp.x⟩
    ·apply ae<;>intro h4
     ·refine aN ?_;refine aq ?_
      exact⟨by rw[bt (fun h=>by omega)],hp.x⟩
     ·refine aM ?_
      exact IH 1 _ _ _ (by omega) rfl ⟨⟨by omega,fun _=>by omega⟩,hp.drop⟩
 ·refine aM ?_;refine aq ?_
  obtain rfl:i=1:=by omega
  exact⟨by rw[cR.2 (nH (by omega))],hp.x⟩
theorem Ig (a:Option Addr)(c:Nat)(D:List bm)(zL:D.length=1)(x:bm)(uC:D.getD 0 default=x)(hi:x.ins=[])(w0:World)(hD:Rd w0 a 4 bm.cs D):
  bN Tryz.prog 179 [.agg ⟨[.slice a 1 c]⟩,.int .i64 0] w0 (fun v w=>v= .bool true/\Ext w0 w):=by
 have pW:x.ins.length=0:=by rw[hi];rfl
 refine eu Tryz.Ri ?_;intro C hp;skip;refine bP hp ?_;intro w b2 hx hp;refine az ?_;(repeat(refine ah ?_;first|refine aI hp ?_|refine rS hp ?_))
 have e0:D.getD (Int.toNat 0) default=x:=uC
 rw[e0]
 refine aR [1,2,12,13,14] (fun(i:Nat)=>[(1,.int .i64 0),(2,.pointer (some ⟨b2,0,none⟩)),(12,.slice x.ia x.ins.length x.ic),(13,.int .i64 x.ins.length),(14,.int .i64 (i:Int))])
  (fun i w'=>Hp w0 w' []/\True) (fun i=>0) 0 rfl ⟨hp.drop,trivial⟩ ?_
 clear hp
 rintro i w1 ⟨hp,_⟩ IH C
 refine bL ?_
 apply ae<;>intro bD
 ·omega
 ·refine aM ?_;refine aq ?_
  exact⟨rfl,hp.x⟩
theorem Hc {w0 w:World}{L:List bh}{b6:Nat}{b:Option Addr}{c m:Nat}{X:List Int}(hp:Hp w0 w (rB b6 31 [.slice b m c]::rO 3 1 eI b c X::L))(hm:X.length=m)(hl:m<=1000)(hX:∀i,i<X.length->0<=X.getD i default/\X.getD i default<=1000)(s:Int):
  bN Tryz.prog 193 [.int .i64 s,.pointer (some ⟨b6,0,none⟩)] w (fun v w'=>v= .tuple ⟨[]⟩/\Hp w0 w' (rB b6 31 [.slice b m c]::rO 3 1 eI b c (if 0<=s/\s<m then X.set s.toNat (X.getD s.toNat default+1) else X)::L)):=by
 subst hm
 refine vJ Tryz.Ru ?_;intro C
 refine aI hp ?_
 by_cases h1:0<=s/\s<=X.length-1
 ·refine bQ hp Tryz.func124 ((bB s 0 (X.length-1) _).yes h1) ?_;intro w hx hp
  obtain⟨k,rfl⟩:=Int.eq_ofNat_of_zero_le h1.1
  have hk:=hX k (by omega)
  have fD:b≠none:=bW hp.drop (by omega)
  refine aN ?_;(repeat(first|(refine ah ?_;first|refine aI hp ?_|refine bb hp ?_)|(refine aH ?_;refine nO hp rfl rfl rfl (by omega) (by decide) rfl rfl ?_;intro w hp;refine az ?_)|refine aq ?_))
  rw[if_pos (by omega),Int.toNat_natCast]
  exact⟨rfl,hp⟩
 ·refine bQ hp Tryz.func124 ((bB s 0 (X.length-1) _).no h1) ?_;intro w hx hp
  refine aM ?_;refine aq ?_
  rw[if_neg (by omega)]
  exact⟨rfl,hp⟩
def uD (n:aQ)(i j:Nat):List Int:=(List.range n.sg.length).map fun(s:Nat)=>gH n.aP s i+hJ n.ms s j
theorem nI (n:aQ)(i j:Nat):(uD n i j).length=n.sg.length:=by simp[uD]
theorem kr (n:aQ)(i j s:Nat)(h:s<n.sg.length):(uD n i j).getD s default=gH n.aP s i+hJ n.ms s j:=by simp[uD,List.getD_eq_getElem?_getD,h]
theorem Wd (n:aQ)(i j:Nat)(t:Int)(ht:(n.aP.getD i default).tg=t):uD n (i+1) j=if 0<=t/\t<n.sg.length then(uD n i j).set t.toNat ((uD n i j).getD t.toNat default+1) else uD n i j:=by
 refine lZ (by split<;>simp[uD]) fun s hs=> ?_
 rw[nI] at hs
 rw[kr _ _ _ _ hs,gH,ht]
 by_cases h:0<=t/\t<n.sg.length
 ·rw[if_pos h]
  rw[cH (by rw[nI];omega)]
  by_cases h2:t=(s:Int)
  ·rw[if_pos h2,if_pos (by omega),kr _ _ _ _ (by omega)]
   have:(t.toNat:Int)=t:=by omega
   rw[this,h2];omega
  ·rw[if_neg h2,if_neg (by omega),kr _ _ _ _ hs]
 ·rw[if_neg h,if_neg (by omega),kr _ _ _ _ hs]
theorem We (n:aQ)(i j:Nat)(t:Int)(ht:(n.ms.getD j default).out=t):uD n i (j+1)=if 0<=t/\t<n.sg.length then(uD n i j).set t.toNat ((uD n i j).getD t.toNat default+1) else uD n i j:=by
 refine lZ (by split<;>simp[uD]) fun s hs=> ?_
 rw[nI] at hs
 rw[kr _ _ _ _ hs,hJ,ht]
 by_cases h:0<=t/\t<n.sg.length
 ·rw[if_pos h]
  rw[cH (by rw[nI];omega)]
  by_cases h2:t=(s:Int)
  ·rw[if_pos h2,if_pos (by omega),kr _ _ _ _ (by omega)]
   have:(t.toNat:Int)=t:=by omega
   rw[this,h2];omega
  ·rw[if_neg h2,if_neg (by omega),kr _ _ _ _ hs]
 ·rw[if_neg h,if_neg (by omega),kr _ _ _ _ hs]
theorem Wf (n:aQ):uD n 0 0=List.replicate n.sg.length 0:=by
 refine lZ (by simp[uD]) fun s hs=> ?_
 rw[nI] at hs
 rw[kr _ _ _ _ hs]
 simp[gH,hJ,List.getD_eq_getElem?_getD,hs]
theorem OP (n:aQ)(i j s:Nat)(hs:s<(uD n i j).length):0<=(uD n i j).getD s default/\(uD n i j).getD s default<=i+j:=by
 rw[nI] at hs
 rw[kr _ _ _ _ hs]
 have h1:=mT n.aP s i
 have h2:=nX n.ms s j
 omega
theorem yW (a:Option Addr)(c:Nat)(D:List bm)(zL:D.length=1)(x:bm)(uC:D.getD 0 default=x)(hX:x.ins.length=0)(vL:x.sg.length<=30)(sb:x.aP.length<=30)(Xl:x.ms.length<=2)(w0:World)(hD:Rd w0 a 4 bm.cs D)(hM:iJ w0 x):
  bN Tryz.prog 185 [.agg ⟨[.slice a 1 c]⟩,.int .i64 0] w0 (fun v w=>∃b c',v= .slice b x.sg.length c'/\Hp w0 w [rO 3 1 eI b c' (uD x.n x.aP.length x.ms.length)]):=by
 refine eu Tryz.Rn ?_;intro C hp;skip;refine bP hp ?_;intro w b2 hx hp;refine az ?_;(repeat(refine ah ?_;first|refine aI hp ?_|refine ik hp ?_));refine bP hp ?_;intro w b5 hx hp;refine az ?_;(repeat(first|(refine ah ?_;refine aI hp ?_)|(refine aH ?_;refine aW hp ?_;intro w hp;refine az ?_)))
 have e0:D.getD (Int.toNat 0) default=x:=uC
 rw[e0] at hp⊢
 skip
 refine mG hp eI 0 rfl rfl rfl rfl (s:=1) rfl (by decide) rfl (by unfold maxLen;omega) (by show 8*_<=_;omega) ?_;intro w Tc hx hp;refine az ?_
 refine bP hp ?_;intro w b6 hx hp;refine az ?_;(repeat(first|(refine ah ?_;refine aI hp ?_)|(refine aH ?_;refine iE hp ?_;intro w hp;refine az ?_)))
 have hp:=hp.f2.f2.f2
 have e1:List.replicate x.sg.length (0:Int)=uD x.n 0 0:=(Wf x.n).symm
 have Sc:∀i j,(uD x.n i j).length=x.sg.length:=fun i j=>nI x.n i j
 rw[e1] at hp
 skip
 refine aR [2,5,6,7,28,29,30] (fun(i:Nat)=>[(2,.pointer (some ⟨b2,0,none⟩)),(5,.pointer (some ⟨b5,0,none⟩)),(6,.pointer (some ⟨b6,0,none⟩)),(7,.func (.func 193) ⟨[]⟩ ⟨[.pointer (some ⟨b6,0,none⟩)]⟩),(28,.slice x.aa x.aP.length x.ac),(29,.int .i64 x.aP.length),(30,.int .i64 (i:Int))])
  (fun i w'=>i<=x.aP.length/\Hp w0 w' [rB b6 31 [.slice (some ⟨Tc,0,none⟩) x.sg.length x.sg.length],rO 3 1 eI (some ⟨Tc,0,none⟩) x.sg.length (uD x.n i 0),rB b5 41 x.cs]) (fun i=>x.aP.length-i) 0 rfl ⟨by omega,hp.tk 3⟩ ?_
 clear hp
 rintro i w1 ⟨hi,hp⟩ IH C
 refine bL ?_
 apply ae<;>intro bD
 ·have aF:i<x.aP.length:=by omega
  refine aN ?_;refine bb hp ?_
  refine bP hp ?_;intro w b9 hx hp;refine az ?_;(repeat(first|(refine ah ?_;refine aI hp ?_)|(refine aH ?_;refine aW hp ?_;intro w hp;refine az ?_)))
  refine cy Tryz.func193 (Hc (hp.f3.f1.f3.f3) (Sc i 0) (by omega) (fun s hs=>by have:=OP x.n i 0 s hs;omega) (x.aP.getD i default).tg) ?_;rintro _ w ⟨rfl,hp⟩;refine az ?_
  refine IH (i+1) _ _ _ (by omega) rfl ⟨by omega,?_⟩
  rw[Wd x.n i 0 (x.aP.getD i default).tg (x.Le i)]
  exact(hp.f3.f2.f2.f3).drop
 ·refine aM ?_;refine aI hp ?_
  obtain rfl:i=x.aP.length:=by omega
  clear IH
  refine aR [2,5,6,7,40,41,42] (fun(j:Nat)=>[(2,.pointer (some ⟨b2,0,none⟩)),(5,.pointer (some ⟨b5,0,none⟩)),(6,.pointer (some ⟨b6,0,none⟩)),(7,.func (.func 193) ⟨[]⟩ ⟨[.pointer (some ⟨b6,0,none⟩)]⟩),(40,.slice x.ma x.ms.length x.mc),(41,.int .i64 x.ms.length),(42,.int .i64 (j:Int))])
   (fun j w'=>j<=x.ms.length/\Hp w0 w' [rB b6 31 [.slice (some ⟨Tc,0,none⟩) x.sg.length x.sg.length],rO 3 1 eI (some ⟨Tc,0,none⟩) x.sg.length (uD x.n x.aP.length j),rB b5 41 x.cs]) (fun j=>x.ms.length-j) 0 rfl ⟨by omega,hp⟩ ?_
  clear hp
  rintro j w1 ⟨hj,hp⟩ IH C
  refine bL ?_
  apply ae<;>intro jK
  ·have aF:j<x.ms.length:=by omega
   refine aN ?_;refine bb hp ?_
   refine bP hp ?_;intro w wX hx hp;refine az ?_;(repeat(first|(refine ah ?_;refine aI hp ?_)|(refine aH ?_;refine aW hp ?_;intro w hp;refine az ?_)))
   refine cy Tryz.func193 (Hc (hp.f3.f1.f3.f3) (Sc x.aP.length j) (by omega) (fun s hs=>by have:=OP x.n x.aP.length j s hs;omega) (x.ms.getD j default).out) ?_;rintro _ w ⟨rfl,hp⟩;refine az ?_
   refine IH (j+1) _ _ _ (by omega) rfl ⟨by omega,?_⟩
   rw[We x.n x.aP.length j (x.ms.getD j default).out rfl]
   exact(hp.f3.f2.f2.f3).drop
  ·refine aM ?_;refine aI hp ?_
   obtain rfl:j=x.ms.length:=by omega
   clear IH
   refine aR [2,6,7,52,53,54] (fun(k:Nat)=>[(2,.pointer (some ⟨b2,0,none⟩)),(6,.pointer (some ⟨b6,0,none⟩)),(7,.func (.func 193) ⟨[]⟩ ⟨[.pointer (some ⟨b6,0,none⟩)]⟩),(52,.slice x.ia x.ins.length x.ic),(53,.int .i64 x.ins.length),(54,.int .i64 (k:Int))])
    (fun k w'=>Hp w0 w' [rB b6 31 [.slice (some ⟨Tc,0,none⟩) x.sg.length x.sg.length],rO 3 1 eI (some ⟨Tc,0,none⟩) x.sg.length (uD x.n x.aP.length x.ms.length),rB b5 41 x.cs]/\True) (fun k=>0) 0 rfl ⟨hp,trivial⟩ ?_
   clear hp
   rintro k w1 ⟨hp,_⟩ IH C
   refine bL ?_
   apply ae<;>intro Ks
   ·omega
   ·refine aM ?_;refine aI hp ?_;refine aq ?_
    exact⟨_,_,rfl,(hp.drop).tk 1⟩
theorem p8 (x:bm)(i:Nat):x.n.aP.getD i default=⟨(x.aP.getD i default).tg,(x.aP.getD i default).ops⟩:=x.RW i
theorem yX (a:Option Addr)(c:Nat)(D:List bm)(zL:D.length=1)(x:bm)(uC:D.getD 0 default=x)(rZ:x.ins=[])(w0:World)(hD:Rd w0 a 4 bm.cs D)(hM:iJ w0 x)(hS:qL x.n)(hW:qM x.n):
  bN Tryz.prog 150 [.agg ⟨[.slice a 1 c]⟩,.int .i64 0] w0 (fun v w=>v= .bool (pB (aV x.n))/\Ext w0 w):=by
 have pW:x.ins.length=0:=by rw[rZ];rfl
 have s1:x.sg.length<=1048576:=hS.sg
 have s2:x.aP.length<=1048576:=by have:=hS.aP;rw[x.cC] at this;exact this
 have s6:x.ms.length<=1048576:=hS.ms
 have e0:D.getD (Int.toNat 0) default=x:=uC
 refine eu Tryz.QN ?_;intro C hp;skip;refine bP hp ?_;intro w b2 hx hp;refine az ?_;refine aI hp ?_
 refine bQ hp Tryz.func124 ((bB 0 0 _ _).yes (by decide)) ?_;intro w hx hp;(repeat(first|(refine aG ?_;refine aO ?_)|(refine ah ?_;refine aI hp ?_)))
 by_cases hc:x.sg.length<=30/\x.aP.length<=30/\x.ins.length<=3/\x.ms.length<=2
 ·obtain⟨l1,l2,l4,l3⟩:=hc
  refine bQ hp Tryz.func178 ((yV a c D zL x uC _ hp.rd s1 s2 (by omega) s6).tt (cR.2 ⟨l1,l2,l4,l3⟩)) ?_;intro w hx hp;(repeat(first|(refine aG ?_;refine aO ?_)|(refine ah ?_;refine aI hp ?_)))
  refine bQ hp Tryz.func179 (Ig a c D zL x uC rZ _ hp.rd) ?_;intro w hx hp;refine aO ?_
  refine aM ?_;(repeat(refine ah ?_;first|refine aI hp ?_|refine ik hp ?_))
  rw[e0]
  refine bP hp ?_;intro w b5 hx hp;refine az ?_;(repeat(first|(refine ah ?_;refine aI hp ?_)|(refine aH ?_;refine aW hp ?_;intro w hp;refine az ?_)))
  have hp:Hp w0 _ [rB b5 41 x.cs,rB b2 136 [.slice a 1 c]]:=hp
  refine aR [1,2,5,6,44,45,46] (fun(i:Nat)=>[(1,.int .i64 0),(2,.pointer (some ⟨b2,0,none⟩)),(5,.pointer (some ⟨b5,0,none⟩)),(6,.int .i64 x.sg.length),(44,.slice x.sa x.sg.length x.sc),(45,.int .i64 x.sg.length),(46,.int .i64 (i:Int))])
   (fun i w'=>(i<=x.sg.length/\∀j,j<i->sh (x.sg.getD j default))/\Hp w0 w' [rB b5 41 x.cs,rB b2 136 [.slice a 1 c]]) (fun i=>x.sg.length-i) 0 rfl ⟨⟨by omega,fun j hj=>by omega⟩,hp⟩ ?_
  clear hp
  rintro i w1 ⟨⟨hi,zM⟩,hp⟩ IH C
  refine bL ?_
  apply ae<;>intro bD
  ·have aF:i<x.sg.length:=by omega
   refine aN ?_;refine bb hp ?_
   refine bP hp ?_;intro w b8 hx hp;refine az ?_;(repeat(first|(refine ah ?_;refine aI hp ?_)|(refine aH ?_;refine aW hp ?_;intro w hp;refine az ?_)))
   by_cases hs:sh (x.sg.getD i default)
   ·refine bQ hp Tryz.func180 ((yU (x.sg.getD i default) _).tt (cR.2 hs)) ?_;intro w hx hp
    refine aM ?_
    refine IH (i+1) _ _ _ (by omega) rfl ⟨⟨by omega,fun j hj=> ?_⟩,hp.drop⟩
    by_cases dC:j<i
    ·exact zM j dC
    ·obtain rfl:j=i:=by omega
     exact hs
   ·refine bQ hp Tryz.func180 ((yU (x.sg.getD i default) _).ff (bt hs)) ?_;intro w hx hp
    have cQ:¬aV x.n:=fun h=>hs (h.sg i aF)
    refine aN ?_;refine aq ?_
    exact⟨by rw[bt cQ],hp.x⟩
  ·refine aM ?_;refine aI hp ?_
   obtain rfl:i=x.sg.length:=by omega
   clear IH
   refine aR [1,2,5,6,55,56,57] (fun(i:Nat)=>[(1,.int .i64 0),(2,.pointer (some ⟨b2,0,none⟩)),(5,.pointer (some ⟨b5,0,none⟩)),(6,.int .i64 x.sg.length),(55,.slice x.aa x.aP.length x.ac),(56,.int .i64 x.aP.length),(57,.int .i64 (i:Int))])
    (fun i w'=>(i<=x.aP.length/\∀j,j<i->J0 x.n (x.n.aP.getD j default))/\Hp w0 w' [rB b5 41 x.cs,rB b2 136 [.slice a 1 c]]) (fun i=>x.aP.length-i) 0 rfl ⟨⟨by omega,fun j hj=>by omega⟩,hp⟩ ?_
   clear hp
   rintro i w1 ⟨⟨hi,has⟩,hp⟩ IH C
   refine bL ?_
   apply ae<;>intro bD
   ·have aF:i<x.aP.length:=by omega
    have Xm:=hM.aP.at_ aF
    have Ih:=p8 x i
    have Fz:(x.aP.getD i default).ops.length<=1048576:=by have:=hS.ops i (by rw[x.cC];exact aF);rw[x.mR] at this;exact this
    have eoi:∀j,j<(x.aP.getD i default).ops.length->u6 ((x.aP.getD i default).ops.getD j default):=fun j hj=>by have:=hW.ops i (by rw[x.cC];exact aF) j (by rw[x.mR];exact hj);rw[x.mR] at this;exact this
    refine aN ?_;refine bb hp ?_
    refine bP hp ?_;intro w ng hx hp;refine az ?_;(repeat(first|(refine ah ?_;refine aI hp ?_)|(refine aH ?_;refine aW hp ?_;intro w hp;refine az ?_)))
    by_cases h1:0<=(x.aP.getD i default).tg/\(x.aP.getD i default).tg<=x.sg.length-1
    ·refine bQ hp Tryz.func124 ((bB (x.aP.getD i default).tg 0 (x.sg.length-1) _).yes h1) ?_;intro w hx hp;(repeat(first|(refine aG ?_;refine aO ?_)|(refine ah ?_;first|refine aI hp ?_|refine rS hp ?_)))
     have jg:dr x.n (x.aP.getD i default).tg:=by have e:x.n.sg.length=x.sg.length:=rfl;unfold dr;omega
     by_cases h2:aY x.n (x.aP.getD i default).tg=1\/aY x.n (x.aP.getD i default).tg=2\/aY x.n (x.aP.getD i default).tg=3
     ·refine bQ hp Tryz.func181 ((pA (x.sg.getD (x.aP.getD i default).tg.toNat default).kind _).yes h2) ?_;intro w hx hp;(repeat(first|(refine aG ?_;refine aO ?_)|(refine ah ?_;refine aI hp ?_)))
      by_cases h3:fU (x.aP.getD i default).ops x.sg.length
      ·refine bQ hp Tryz.func182 ((vS _ _ _ (x.aP.getD i default).ops rfl x.sg.length _ hp.rd Fz eoi).tt (lu h3)) ?_;intro w hx hp;refine aO ?_
       refine aM ?_
       refine IH (i+1) _ _ _ (by omega) rfl ⟨⟨by omega,fun j hj=> ?_⟩,hp.drop⟩
       by_cases dC:j<i
       ·exact has j dC
       ·obtain rfl:j=i:=by omega
        exact by rw[Ih];exact⟨jg,h2,h3⟩
      ·refine bQ hp Tryz.func182 ((vS _ _ _ (x.aP.getD i default).ops rfl x.sg.length _ hp.rd Fz eoi).ff (gP h3)) ?_;intro w hx hp;refine aO ?_
       have cQ:¬aV x.n:=fun h=>h3 (by have:=h.aP i (by rw[x.cC];exact aF);rw[Ih] at this;exact this.2.2)
       refine aN ?_;refine aq ?_
       exact⟨by rw[bt cQ],hp.x⟩
     ·refine bQ hp Tryz.func181 ((pA (x.sg.getD (x.aP.getD i default).tg.toNat default).kind _).no h2) ?_;intro w hx hp;(repeat(refine aG ?_;first|refine aO ?_|refine ba ?_))
      have cQ:¬aV x.n:=fun h=>h2 (by have:=h.aP i (by rw[x.cC];exact aF);rw[Ih] at this;exact this.2.1)
      refine aN ?_;refine aq ?_
      exact⟨by rw[bt cQ],hp.x⟩
    ·refine bQ hp Tryz.func124 ((bB (x.aP.getD i default).tg 0 (x.sg.length-1) _).no h1) ?_;intro w hx hp;(repeat(refine ba ?_))
     have cQ:¬aV x.n:=fun h=>h1 (by have:=h.aP i (by rw[x.cC];exact aF);rw[Ih] at this;have:=this.1;unfold dr at this;change 0<=(x.aP.getD i default).tg/\(x.aP.getD i default).tg<x.sg.length at this;omega)
     refine aN ?_;refine aq ?_
     exact⟨by rw[bt cQ],hp.x⟩
   ·refine aM ?_;refine aI hp ?_
    obtain rfl:i=x.aP.length:=by omega
    clear IH
    refine aR [1,2,5,6,87,88,89] (fun(i:Nat)=>[(1,.int .i64 0),(2,.pointer (some ⟨b2,0,none⟩)),(5,.pointer (some ⟨b5,0,none⟩)),(6,.int .i64 x.sg.length),(87,.slice x.ia x.ins.length x.ic),(88,.int .i64 x.ins.length),(89,.int .i64 (i:Int))])
     (fun i w'=>(i<=x.ins.length/\∀j,j<i->True)/\Hp w0 w' [rB b5 41 x.cs,rB b2 136 [.slice a 1 c]]) (fun i=>x.ins.length-i) 0 rfl ⟨⟨by omega,fun j hj=>by omega⟩,hp⟩ ?_
    clear hp
    rintro i w1 ⟨⟨hi,_⟩,hp⟩ IH C
    refine bL ?_
    apply ae<;>intro bD
    ·omega
    ·refine aM ?_;refine aI hp ?_
     clear IH
     refine aR [1,2,5,6,100,101,102] (fun(i:Nat)=>[(1,.int .i64 0),(2,.pointer (some ⟨b2,0,none⟩)),(5,.pointer (some ⟨b5,0,none⟩)),(6,.int .i64 x.sg.length),(100,.slice x.ma x.ms.length x.mc),(101,.int .i64 x.ms.length),(102,.int .i64 (i:Int))])
      (fun i w'=>(i<=x.ms.length/\∀j,j<i->J1 x.n (x.ms.getD j default))/\Hp w0 w' [rB b5 41 x.cs,rB b2 136 [.slice a 1 c]]) (fun i=>x.ms.length-i) 0 rfl ⟨⟨by omega,fun j hj=>by omega⟩,hp⟩ ?_
     clear hp
     rintro i w1 ⟨⟨hi,Hd⟩,hp⟩ IH C
     refine bL ?_
     apply ae<;>intro bD
     ·have aF:i<x.ms.length:=by omega
      have en:x.n.sg.length=x.sg.length:=rfl
      refine aN ?_;refine bb hp ?_
      refine bP hp ?_;intro w Cd hx hp;refine az ?_;(repeat(first|(refine ah ?_;refine aI hp ?_)|(refine aH ?_;refine aW hp ?_;intro w hp;refine az ?_)))
      by_cases h1:0<=(x.ms.getD i default).addr/\(x.ms.getD i default).addr<=x.sg.length-1
      ·refine bQ hp Tryz.func124 ((bB (x.ms.getD i default).addr 0 (x.sg.length-1) _).yes h1) ?_;intro w hx hp;(repeat(first|(refine aG ?_;refine aO ?_)|(refine ah ?_;refine aI hp ?_)))
       by_cases h2:0<=(x.ms.getD i default).data/\(x.ms.getD i default).data<=x.sg.length-1
       ·refine bQ hp Tryz.func124 ((bB (x.ms.getD i default).data 0 (x.sg.length-1) _).yes h2) ?_;intro w hx hp;(repeat(first|(refine aG ?_;refine aO ?_)|(refine ah ?_;refine aI hp ?_)))
        by_cases h3:0<=(x.ms.getD i default).write/\(x.ms.getD i default).write<=x.sg.length-1
        ·refine bQ hp Tryz.func124 ((bB (x.ms.getD i default).write 0 (x.sg.length-1) _).yes h3) ?_;intro w hx hp;(repeat(first|(refine aG ?_;refine aO ?_)|(refine ah ?_;refine aI hp ?_)))
         by_cases h4:si x.n (x.ms.getD i default).out
         ·refine bQ hp Tryz.func184 ((DY x (x.ms.getD i default).out _ hp.mod s1).tt (cR.2 h4)) ?_;intro w hx hp;refine aO ?_
          refine aM ?_
          refine IH (i+1) _ _ _ (by omega) rfl ⟨⟨by omega,fun j hj=> ?_⟩,hp.drop⟩
          by_cases dC:j<i
          ·exact Hd j dC
          ·obtain rfl:j=i:=by omega
           exact⟨by unfold dr;omega,by unfold dr;omega,by unfold dr;omega,h4⟩
         ·refine bQ hp Tryz.func184 ((DY x (x.ms.getD i default).out _ hp.mod s1).ff (bt h4)) ?_;intro w hx hp;refine aO ?_
          have cQ:¬aV x.n:=fun h=>h4 (h.ms i aF).2.2.2
          refine aN ?_;refine aq ?_
          exact⟨by rw[bt cQ],hp.x⟩
        ·refine bQ hp Tryz.func124 ((bB (x.ms.getD i default).write 0 (x.sg.length-1) _).no h3) ?_;intro w hx hp;(repeat(refine aG ?_;first|refine aO ?_|refine ba ?_))
         have cQ:¬aV x.n:=fun h=>h3 (by have:=(h.ms i aF).2.2.1;unfold dr at this;change 0<=(x.ms.getD i default).write/\(x.ms.getD i default).write<x.sg.length at this;omega)
         refine aN ?_;refine aq ?_
         exact⟨by rw[bt cQ],hp.x⟩
       ·refine bQ hp Tryz.func124 ((bB (x.ms.getD i default).data 0 (x.sg.length-1) _).no h2) ?_;intro w hx hp;(repeat(refine aG ?_;first|refine aO ?_|refine ba ?_))
        have cQ:¬aV x.n:=fun h=>h2 (by have:=(h.ms i aF).2.1;unfold dr at this;change 0<=(x.ms.getD i default).data/\(x.ms.getD i default).data<x.sg.length at this;omega)
        refine aN ?_;refine aq ?_
        exact⟨by rw[bt cQ],hp.x⟩
      ·refine bQ hp Tryz.func124 ((bB (x.ms.getD i default).addr 0 (x.sg.length-1) _).no h1) ?_;intro w hx hp;(repeat(refine ba ?_))
       have cQ:¬aV x.n:=fun h=>h1 (by have:=(h.ms i aF).1;unfold dr at this;change 0<=(x.ms.getD i default).addr/\(x.ms.getD i default).addr<x.sg.length at this;omega)
       refine aN ?_;refine aq ?_
       exact⟨by rw[bt cQ],hp.x⟩
     ·refine aM ?_;refine aI hp ?_
      obtain rfl:i=x.ms.length:=by omega
      clear IH
      refine cy Tryz.func185 (yW a c D zL x uC pW l1 l2 l3 _ hp.rd hp.mod) ?_;rintro _ w ⟨bd,cd,rfl,hq⟩;have hx:=hq.x;have hp:=hp.bJ hq;refine az ?_
      have Sc:(uD x.n x.aP.length x.ms.length).length=x.sg.length:=nI _ _ _
      refine aR [5,138,139,140] (fun(i:Nat)=>[(5,.pointer (some ⟨b5,0,none⟩)),(138,.slice bd x.sg.length cd),(139,.int .i64 x.sg.length),(140,.int .i64 (i:Int))])
       (fun i w'=>(i<=x.sg.length/\∀j:Nat,j<i->((x.sg.getD j default).kind=1\/(x.sg.getD j default).kind=2\/(x.sg.getD j default).kind=3)->wz x.n j=1)/\Hp w0 w' [rO 3 1 eI bd cd (uD x.n x.aP.length x.ms.length),rB b5 41 x.cs]) (fun i=>x.sg.length-i) 0 rfl ⟨⟨by omega,fun j hj=>by omega⟩,hp.tk 2⟩ ?_
      clear hp
      rintro i w1 ⟨⟨hi,hdr⟩,hp⟩ IH C
      refine bL ?_
      apply ae<;>intro bD
      ·have aF:i<x.sg.length:=by omega
       have edc:(uD x.n x.aP.length x.ms.length).getD i default=wz x.n i:=by rw[kr _ _ _ _ aF];unfold wz;rw[x.cC];rfl
       refine aN ?_;(repeat(refine ah ?_;first|refine aI hp ?_|refine bb hp ?_|refine dg hp ?_))
       by_cases hk:(x.sg.getD i default).kind=1\/(x.sg.getD i default).kind=2\/(x.sg.getD i default).kind=3
       ·refine bQ hp Tryz.func181 ((pA (x.sg.getD i default).kind _).yes hk) ?_;intro w hx hp;(repeat(refine aO ?_))
        apply ae<;>intro fD
        ·have cQ:¬aV x.n:=fun h=>fD (by rw[edc];exact h.R4 i aF hk)
         refine aN ?_;refine aq ?_
         exact⟨by rw[bt cQ],hp.x⟩
        ·refine aM ?_
         refine IH (i+1) _ _ _ (by omega) rfl ⟨⟨by omega,fun j hj Xn=> ?_⟩,hp⟩
         by_cases dC:j<i
         ·exact hdr j dC Xn
         ·obtain rfl:j=i:=by omega
          rw[<-edc];exact Decidable.not_not.1 fD
       ·refine bQ hp Tryz.func181 ((pA (x.sg.getD i default).kind _).no hk) ?_;intro w hx hp;(repeat(refine ba ?_))
        refine aM ?_
        refine IH (i+1) _ _ _ (by omega) rfl ⟨⟨by omega,fun j hj Xn=> ?_⟩,hp⟩
        by_cases dC:j<i
        ·exact hdr j dC Xn
        ·obtain rfl:j=i:=by omega
         exact absurd Xn hk
      ·refine aM ?_;refine aq ?_
       obtain rfl:i=x.sg.length:=by omega
       have xh:aV x.n:=⟨l1,by rw[x.cC];exact l2,l3,zM,fun j hj=>has j (by rw[x.cC] at hj;exact hj),Hd,hdr⟩
       exact⟨by rw[cR.2 xh],hp.x⟩
 ·refine bQ hp Tryz.func178 ((yV a c D zL x uC _ hp.rd s1 s2 (by omega) s6).ff (bt hc)) ?_;intro w hx hp;(repeat(refine aG ?_;first|refine aO ?_|refine ba ?_))
  have cQ:¬aV x.n:=fun h=>hc ⟨h.l1,by have:=h.l2;rw[x.cC] at this;exact this,by omega,h.l3⟩
  refine aN ?_;refine aq ?_
  exact⟨by rw[bt cQ],hp.x⟩
theorem yY (a:Option Addr)(c:Nat)(D:List bm)(zL:D.length=1)(x:bm)(uC:D.getD 0 default=x)(rZ:x.ins=[])(w0:World)(hD:Rd w0 a 4 bm.cs D)(hM:iJ w0 x)(hS:qL x.n)(hW:qM x.n):
  bN Tryz.prog 93 [.agg ⟨[.slice a 1 c]⟩] w0 (fun v w=>v= .bool (pB (aV x.n))/\Ext w0 w):=by
 refine eu Tryz.VB ?_;intro C hp;skip;refine bP hp ?_;intro w b1 hx hp;refine az ?_;refine aI hp ?_
 refine aR [1,6,7] (fun(i:Nat)=>[(1,.pointer (some ⟨b1,0,none⟩)),(6,.int .i64 1),(7,.int .i64 (i:Int))])
  (fun i w'=>(i<=1/\(0<i->aV x.n))/\Hp w0 w' [rB b1 136 [.slice a 1 c]]) (fun i=>1-i) 0 rfl ⟨⟨by omega,fun h=>by omega⟩,hp⟩ ?_
 clear hp
 rintro i w1 ⟨⟨ME,nH⟩,hp⟩ IH C
 refine bL ?_
 apply ae<;>intro bD
 ·obtain rfl:i=0:=by omega
  refine aN ?_;refine aI hp ?_
  by_cases hm:aV x.n
  ·refine bQ hp Tryz.func150 ((yX a c D zL x uC rZ _ hp.rd hp.mod hS hW).tt (cR.2 hm)) ?_;intro w hx hp
   refine aM ?_
   exact IH 1 _ _ _ (by omega) rfl ⟨⟨by omega,fun _=>hm⟩,hp⟩
  ·refine bQ hp Tryz.func150 ((yX a c D zL x uC rZ _ hp.rd hp.mod hS hW).ff (bt hm)) ?_;intro w hx hp
   refine aN ?_;refine aq ?_
   exact⟨by rw[bt hm],hp.x⟩
 ·refine aM ?_;refine aI hp ?_
  obtain rfl:i=1:=by omega
  refine bQ hp Tryz.func124 ((bB 1 1 4 _).yes (by decide)) ?_;intro w hx hp;refine aq ?_
  exact⟨by rw[cR.2 (nH (by omega))],hp.x⟩
end Go.Proofs
