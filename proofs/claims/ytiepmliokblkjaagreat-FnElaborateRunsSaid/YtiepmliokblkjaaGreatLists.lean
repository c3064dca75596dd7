/- Texts that belong together; each under its stated conditions. -/
import Derived.Test.YtiepmliokblkjaaGreatBrf
import Derived.Test.YtiepmliokblkjaaGreatModR
import Derived.Test.YtiepmliokblkjaaGreatFam
import Derived.Laws.BytesString
set_option linter.all false
section
namespace Go.Xw
theorem OB {k:Int}(h:0<=k/\k<=3):jx k=0:=by unfold jx;rw[if_pos h]
theorem OC {k:Int}(h:k=4):jx k=1:=by unfold jx;rw[if_neg (by omega),if_pos h]
theorem OD {k:Int}(h:5<=k/\k<=11):jx k=2:=by unfold jx;rw[if_neg (by omega),if_neg (by omega),if_pos h]
theorem OE {k:Int}(h:k=12):jx k=3:=by unfold jx;rw[if_neg (by omega),if_neg (by omega),if_neg (by omega),if_pos h]
theorem JX {k:Int}(h:¬(0<=k/\k<=12)):jx k= -1:=by unfold jx;rw[if_neg (by omega),if_neg (by omega),if_neg (by omega),if_neg (by omega)]
theorem yi (ops:List dK):∀i:Nat,1-2*(i:Int)<=fk ops i/\fk ops i<=1+2*(i:Int)
 |0=>by show 1-2*((0:Nat):Int)<=1/\(1:Int)<=1+2*((0:Nat):Int);omega
 |i+1=>by
  have ih:=yi ops i
  have:=An (ops.getD i default).kind
  show 1-2*((i+1:Nat):Int)<=fk ops i-1+jx (ops.getD i default).kind/\fk ops i-1+jx (ops.getD i default).kind<=1+2*((i+1:Nat):Int)
  omega
theorem BO {o:dK}{m:Int}(h:o.kind=0):e6 o m↔(0<=o.a/\o.a<=15)/\o.b=0:=by unfold e6;rw[if_pos h]
theorem yj {o:dK}{m:Int}(h:o.kind=2):e6 o m↔(0<=o.a/\o.a<m)/\o.b=0:=by unfold e6;rw[if_neg (by omega),if_pos h]
theorem yk {o:dK}{m:Int}(h:o.kind=3):e6 o m↔(0<=o.a/\o.a<m)/\0<=o.b/\o.b<=3:=by unfold e6;rw[if_neg (by omega),if_neg (by omega),if_pos h]
theorem JY {o:dK}{m:Int}(h0:o.kind≠0)(h2:o.kind≠2)(h3:o.kind≠3):e6 o m↔0<=jx o.kind/\o.a=0/\o.b=0:=by unfold e6;rw[if_neg h0,if_neg h2,if_neg h3]
def u6 (o:dK):Prop:=da o.kind/\da o.a/\da o.b
noncomputable def MD (ops:List dK)(m:Int):Bool:=pB (fU ops m)
theorem lu {ops:List dK}{m:Int}(h:fU ops m):MD ops m=true:=cR.2 h
theorem gP {ops:List dK}{m:Int}(h:¬fU ops m):MD ops m=false:=Bool.eq_false_iff.2 fun hh=>h (cR.1 hh)
noncomputable def R0 (ops:List dK):Bool:=pB (∃o,o∈ops/\o.kind=1)
end Go.Xw
namespace Go.Proofs
open Go.Xw
set_option maxRecDepth 100000
set_option maxHeartbeats 2000000
attribute [local irreducible] ax aE
theorem nW (k:Int)(w0:World):bN Tryz.prog 95 [.int .i64 k] w0 (fun v w=>v= .int .i64 (jx k)/\Ext w0 w):=by
 refine eu Tryz.VD ?_;intro C hp
 by_cases h1:0<=k/\k<=3
 ·refine bQ hp Tryz.func124 ((bB k 0 3 _).yes h1) ?_;intro w hx hp
  refine aN ?_;refine aq ?_
  exact⟨by rw[OB h1],hp.x⟩
 ·refine bQ hp Tryz.func124 ((bB k 0 3 _).no h1) ?_;intro w hx hp
  refine aM ?_
  apply ae<;>intro h2
  ·refine aN ?_;refine aq ?_
   exact⟨by rw[OC h2],hp.x⟩
  ·refine aM ?_
   by_cases h3:5<=k/\k<=11
   ·refine bQ hp Tryz.func124 ((bB k 5 11 _).yes h3) ?_;intro w hx hp
    refine aN ?_;refine aq ?_
    exact⟨by rw[OD h3],hp.x⟩
   ·refine bQ hp Tryz.func124 ((bB k 5 11 _).no h3) ?_;intro w hx hp
    refine aM ?_
    apply ae<;>intro h4
    ·refine aN ?_;refine aq ?_
     exact⟨by rw[OE h4],hp.x⟩
    ·refine aM ?_;refine aq ?_
     exact⟨by rw[JX (by omega)],hp.x⟩
theorem gj (k:Int)(w0:World):bN Tryz.prog 139 [.int .i64 k] w0 (fun v w=>v= .int .i64 (jx k)/\Ext w0 w):=by
 refine eu Tryz.QE ?_;intro C hp
 by_cases h0:0<=k/\k<=12
 ·refine bQ hp Tryz.func79 ((cE k 0 12 _).yes h0) ?_;intro w hx hp
  refine aM ?_
  apply ae<;>intro h1
  ·refine aN ?_;refine aq ?_
   exact⟨by rw[OB (by omega)],hp.x⟩
  ·refine aM ?_
   apply ae<;>intro h2
   ·refine aN ?_;refine aq ?_
    exact⟨by rw[OC h2],hp.x⟩
   ·refine aM ?_
    apply ae<;>intro h3
    ·refine aN ?_;refine aq ?_
     exact⟨by rw[OE h3],hp.x⟩
    ·refine aM ?_;refine aq ?_
     exact⟨by rw[OD (by omega)],hp.x⟩
 ·refine bQ hp Tryz.func79 ((cE k 0 12 _).no h0) ?_;intro w hx hp
  refine aN ?_;refine aq ?_
  exact⟨by rw[JX h0],hp.x⟩
theorem JZ (o:dK)(m:Int)(hi:u6 o)(w0:World):bN Tryz.prog 192 [.agg ⟨kf o⟩,.int .i64 m] w0 (fun v w=>v= .bool (decide (e6 o m))/\Ext w0 w):=by
 obtain⟨ME,mh,S0⟩:=hi
 unfold da at ME mh S0
 refine eu Tryz.Rt ?_;intro C hp;skip;refine bP hp ?_;intro w b2 hx hp;refine az ?_;refine aI hp ?_
 by_cases h0:o.kind=0
 ·have hd:decide (e6 o m)=decide ((0<=o.a/\o.a<=15)/\o.b=0):=by simp only[BO h0]
  rw[hd]
  refine ae (fun _=> ?_) (fun hg=>False.elim (by omega));refine aN ?_;refine aI hp ?_
  by_cases ha:0<=o.a/\o.a<=15
  ·refine bQ hp Tryz.func124 ((bB o.a 0 15 _).yes ha) ?_;intro w hx hp;(repeat(first|(refine aG ?_;refine aO ?_)|(refine ah ?_;refine aI hp ?_)|refine aq ?_))
   exact⟨by simp[ha],hp.x⟩
  ·refine bQ hp Tryz.func124 ((bB o.a 0 15 _).no ha) ?_;intro w hx hp;(repeat(first|(refine aG ?_;refine ba ?_)|refine aq ?_))
   exact⟨by simp[ha],hp.x⟩
 ·refine ae (fun hg=>False.elim (by omega)) (fun _=> ?_);refine aM ?_;refine aI hp ?_
  by_cases h2:o.kind=2
  ·have hd:decide (e6 o m)=decide ((0<=o.a/\o.a<m)/\o.b=0):=by simp only[yj h2]
   rw[hd]
   refine ae (fun _=> ?_) (fun hg=>False.elim (by omega));refine aN ?_;refine aI hp ?_
   (first|apply fx|apply cf)<;>intro g1 e<;>rw[e]<;>clear e;all_goals((repeat(first|(refine aG ?_;first|refine aO ?_|refine ba ?_)|(refine ah ?_;refine aI hp ?_)|refine aq ?_)))
   ·(first|apply fx|apply cf)<;>intro g2 e<;>rw[e]<;>clear e;all_goals((repeat(first|(refine aG ?_;first|refine aO ?_|refine ba ?_)|(refine ah ?_;refine aI hp ?_)|refine aq ?_)))
    ·exact⟨by simp[g1,g2],hp.x⟩
    ·exact⟨by simp[g1,g2],hp.x⟩
   ·exact⟨by simp[g1],hp.x⟩
  ·refine ae (fun hg=>False.elim (by omega)) (fun _=> ?_);refine aM ?_;refine aI hp ?_
   by_cases h3:o.kind=3
   ·have hd:decide (e6 o m)=decide ((0<=o.a/\o.a<m)/\0<=o.b/\o.b<=3):=by simp only[yk h3]
    rw[hd]
    refine ae (fun _=> ?_) (fun hg=>False.elim (by omega));refine aN ?_;refine aI hp ?_
    (first|apply fx|apply cf)<;>intro g1 e<;>rw[e]<;>clear e;all_goals((repeat(first|(refine aG ?_;first|refine aO ?_|refine ba ?_)|(refine ah ?_;refine aI hp ?_)|refine aq ?_)))
    ·(first|apply fx|apply cf)<;>intro g2 e<;>rw[e]<;>clear e;all_goals((repeat(first|(refine aG ?_;first|refine aO ?_|refine ba ?_)|(refine ah ?_;refine aI hp ?_)|refine aq ?_)))
     ·by_cases hb:0<=o.b/\o.b<=3
      ·refine bQ hp Tryz.func124 ((bB o.b 0 3 _).yes hb) ?_;intro w hx hp;refine aq ?_
       exact⟨by simp[g1,g2,hb],hp.x⟩
      ·refine bQ hp Tryz.func124 ((bB o.b 0 3 _).no hb) ?_;intro w hx hp;refine aq ?_
       exact⟨by simp[g1,g2,hb],hp.x⟩
     ·exact⟨by simp[g1,g2],hp.x⟩
    ·exact⟨by simp[g1],hp.x⟩
   ·have hd:decide (e6 o m)=decide (0<=jx o.kind/\o.a=0/\o.b=0):=by simp only[JY h0 h2 h3]
    rw[hd]
    have hb:=An o.kind
    refine ae (fun hg=>False.elim (by omega)) (fun _=> ?_);refine aM ?_;refine aI hp ?_
    refine bQ hp Tryz.func95 (nW o.kind _) ?_;intro w hx hp
    (first|apply fx|apply cf)<;>intro g1 e<;>rw[e]<;>clear e;all_goals((repeat(first|(refine aG ?_;first|refine aO ?_|refine ba ?_)|(refine ah ?_;refine aI hp ?_)|refine aq ?_)))
    ·(first|apply fx|apply cf)<;>intro g2 e<;>rw[e]<;>clear e;all_goals((repeat(first|(refine aG ?_;first|refine aO ?_|refine ba ?_)|(refine ah ?_;refine aI hp ?_)|refine aq ?_)))
     ·exact⟨by simp[g1,g2],hp.x⟩
     ·exact⟨by simp[g1,g2],hp.x⟩
    ·exact⟨by simp[g1],hp.x⟩
theorem GV (o:dK)(m:Int)(hi:u6 o)(w0:World):bN Tryz.prog 138 [.agg ⟨kf o⟩,.int .i64 m] w0 (fun v w=>v= .bool (decide (e6 o m))/\Ext w0 w):=by
 obtain⟨ME,mh,S0⟩:=hi
 unfold da at ME mh S0
 refine eu Tryz.QD ?_;intro C hp;skip;refine bP hp ?_;intro w b2 hx hp;refine az ?_;refine aI hp ?_
 by_cases h0:o.kind=0
 ·have hd:decide (e6 o m)=decide ((0<=o.a/\o.a<=15)/\o.b=0):=by simp only[BO h0]
  rw[hd]
  refine ae (fun _=> ?_) (fun hg=>False.elim (by omega));refine aN ?_;refine aI hp ?_
  by_cases ha:0<=o.a/\o.a<=15
  ·refine bQ hp Tryz.func79 ((cE o.a 0 15 _).yes ha) ?_;intro w hx hp;(repeat(first|(refine aG ?_;refine aO ?_)|(refine ah ?_;refine aI hp ?_)|refine aq ?_))
   exact⟨by simp[ha],hp.x⟩
  ·refine bQ hp Tryz.func79 ((cE o.a 0 15 _).no ha) ?_;intro w hx hp;(repeat(first|(refine aG ?_;refine ba ?_)|refine aq ?_))
   exact⟨by simp[ha],hp.x⟩
 ·refine ae (fun hg=>False.elim (by omega)) (fun _=> ?_);refine aM ?_
  by_cases h2:o.kind=2
  ·have hd:decide (e6 o m)=decide ((0<=o.a/\o.a<m)/\o.b=0):=by simp only[yj h2]
   rw[hd]
   refine ae (fun _=> ?_) (fun hg=>False.elim (by omega));refine aN ?_;refine aI hp ?_
   (first|apply fx|apply cf)<;>intro g1 e<;>rw[e]<;>clear e;all_goals((repeat(first|(refine aG ?_;first|refine aO ?_|refine ba ?_)|(refine ah ?_;refine aI hp ?_)|refine aq ?_)))
   ·(first|apply fx|apply cf)<;>intro g2 e<;>rw[e]<;>clear e;all_goals((repeat(first|(refine aG ?_;first|refine aO ?_|refine ba ?_)|(refine ah ?_;refine aI hp ?_)|refine aq ?_)))
    ·exact⟨by simp[g1,g2],hp.x⟩
    ·exact⟨by simp[g1,g2],hp.x⟩
   ·exact⟨by simp[g1],hp.x⟩
  ·refine ae (fun hg=>False.elim (by omega)) (fun _=> ?_);refine aM ?_
   by_cases h3:o.kind=3
   ·have hd:decide (e6 o m)=decide ((0<=o.a/\o.a<m)/\0<=o.b/\o.b<=3):=by simp only[yk h3]
    rw[hd]
    refine ae (fun _=> ?_) (fun hg=>False.elim (by omega));refine aN ?_;refine aI hp ?_
    (first|apply fx|apply cf)<;>intro g1 e<;>rw[e]<;>clear e;all_goals((repeat(first|(refine aG ?_;first|refine aO ?_|refine ba ?_)|(refine ah ?_;refine aI hp ?_)|refine aq ?_)))
    ·(first|apply fx|apply cf)<;>intro g2 e<;>rw[e]<;>clear e;all_goals((repeat(first|(refine aG ?_;first|refine aO ?_|refine ba ?_)|(refine ah ?_;refine aI hp ?_)|refine aq ?_)))
     ·by_cases hb:0<=o.b/\o.b<=3
      ·refine bQ hp Tryz.func79 ((cE o.b 0 3 _).yes hb) ?_;intro w hx hp;refine aq ?_
       exact⟨by simp[g1,g2,hb],hp.x⟩
      ·refine bQ hp Tryz.func79 ((cE o.b 0 3 _).no hb) ?_;intro w hx hp;refine aq ?_
       exact⟨by simp[g1,g2,hb],hp.x⟩
     ·exact⟨by simp[g1,g2],hp.x⟩
    ·exact⟨by simp[g1],hp.x⟩
   ·have hd:decide (e6 o m)=decide (0<=jx o.kind/\o.a=0/\o.b=0):=by simp only[JY h0 h2 h3]
    rw[hd]
    have hb:=An o.kind
    refine ae (fun hg=>False.elim (by omega)) (fun _=> ?_);refine aM ?_;refine aI hp ?_
    refine bQ hp Tryz.func139 (gj o.kind _) ?_;intro w hx hp
    (first|apply fx|apply cf)<;>intro g1 e<;>rw[e]<;>clear e;all_goals((repeat(first|(refine aG ?_;first|refine aO ?_|refine ba ?_)|(refine ah ?_;refine aI hp ?_)|refine aq ?_)))
    ·(first|apply fx|apply cf)<;>intro g2 e<;>rw[e]<;>clear e;all_goals((repeat(first|(refine aG ?_;first|refine aO ?_|refine ba ?_)|(refine ah ?_;refine aI hp ?_)|refine aq ?_)))
     ·exact⟨by simp[g1,g2],hp.x⟩
     ·exact⟨by simp[g1,g2],hp.x⟩
    ·exact⟨by simp[g1],hp.x⟩
theorem vS (a:Option Addr)(c n:Nat)(ops:List dK)(hn:ops.length=n)(m:Int)(w0:World)(hR:Rd w0 a 3 kf ops)(hl:ops.length<=1048576)(hi:∀i,i<ops.length->u6 (ops.getD i default)):
  bN Tryz.prog 182 [.slice a n c,.int .i64 m] w0 (fun v w=>v= .bool (MD ops m)/\Ext w0 w):=by
 subst hn
 refine eu Tryz.Rl ?_;intro C hp
 (first|apply fx|apply cf)<;>intro h1 e<;>rw[e]<;>clear e;all_goals((repeat(refine aG ?_;first|refine aO ?_|refine ba ?_)))
 ·refine aN ?_;refine aq ?_
  rw[gP (fun h=>by have hf:=h.full;rw[show ops.length=0 by omega] at hf;exact absurd (show(1:Int)=0 from hf) (by decide))]
  exact⟨rfl,hp.x⟩
 ·apply ae<;>intro h2
  ·refine aN ?_;refine aq ?_
   rw[gP (fun h=>by have:=h.len;omega)]
   exact⟨rfl,hp.x⟩
  ·refine aM ?_
   refine aR [1,5,16,17,18] (fun(i:Nat)=>[(1,.int .i64 m),(5,.int .i64 (fk ops i)),(16,.slice a ops.length c),(17,.int .i64 ops.length),(18,.int .i64 (i:Int))])
    (fun i w'=>(i<=ops.length/\∀j,j<i->fk ops j≠0/\e6 (ops.getD j default) m)/\Hp w0 w' []) (fun i=>ops.length-i) 0 rfl ⟨⟨by omega,fun j hj=>by omega⟩,hp⟩ ?_
   clear hp
   rintro i w1 ⟨⟨pW,dL⟩,hp⟩ IH C
   have HN:=yi ops i
   refine bL ?_
   apply ae<;>intro bD
   ·have aF:i<ops.length:=by omega
    have MF:=hi i aF
    refine aN ?_;refine bb hp ?_
    refine bP hp ?_;intro w b7 hx hp;refine az ?_;refine aW hp ?_;intro w hp;refine az ?_
    (first|apply fx|apply cf)<;>intro h3 e<;>rw[e]<;>clear e;all_goals((repeat(first|(refine aG ?_;first|refine aO ?_|refine ba ?_)|(refine ah ?_;refine aI hp ?_))))
    ·refine aN ?_;refine aq ?_
     rw[gP (fun h=>(h.each i aF).1 h3)]
     exact⟨rfl,hp.x⟩
    ·by_cases ho:e6 (ops.getD i default) m
     ·refine bQ hp Tryz.func192 ((JZ (ops.getD i default) m MF _).tt (decide_eq_true ho)) ?_;intro w hx hp;refine aO ?_
      refine aM ?_;refine aI hp ?_
      have Ml:=An (ops.getD i default).kind
      refine bQ hp Tryz.func95 (nW (ops.getD i default).kind _) ?_;intro w hx hp
      refine IH (i+1) _ _ _ (by omega) (by rw[show fk ops (i+1)=fk ops i+(jx (ops.getD i default).kind-1) by show fk ops i-1+_=_;omega];rfl) ⟨⟨by omega,fun j hj=> ?_⟩,(Hp.sy hp.x)⟩
      by_cases EB:j=i
      ·subst EB;exact⟨h3,ho⟩
      ·exact dL j (by omega)
     ·refine bQ hp Tryz.func192 ((JZ (ops.getD i default) m MF _).ff (decide_eq_false ho)) ?_;intro w hx hp;refine aO ?_
      refine aN ?_;refine aq ?_
      rw[gP (fun h=>ho (h.each i aF).2)]
      exact⟨rfl,hp.x⟩
   ·obtain rfl:i=ops.length:=by omega
    clear IH
    refine aM ?_;refine aq ?_
    by_cases hz:fk ops ops.length=0
    ·rw[lu ⟨by omega,dL,hz⟩,decide_eq_true hz]
     exact⟨rfl,hp.x⟩
    ·rw[gP (fun h=>hz h.full),decide_eq_false hz]
     exact⟨rfl,hp.x⟩
theorem fA (a:Option Addr)(c n:Nat)(ops:List dK)(hn:ops.length=n)(m:Int)(w0:World)(hR:Rd w0 a 3 kf ops)(hl:ops.length<=1048576)(hi:∀i,i<ops.length->u6 (ops.getD i default)):
  bN Tryz.prog 78 [.slice a n c,.int .i64 m] w0 (fun v w=>v= .bool (MD ops m)/\Ext w0 w):=by
 subst hn
 refine eu Tryz.Vr ?_;intro C hp
 apply ae<;>intro h2
 ·refine aN ?_;refine aq ?_
  rw[gP (fun h=>by have:=h.len;omega)]
  exact⟨rfl,hp.x⟩
 ·refine aM ?_
  refine aR [0,1,5,6] (fun(i:Nat)=>[(0,.slice a ops.length c),(1,.int .i64 m),(5,.int .i64 (fk ops i)),(6,.int .i64 (i:Int))])
   (fun i w'=>(i<=ops.length/\∀j,j<i->fk ops j≠0/\e6 (ops.getD j default) m)/\Hp w0 w' []) (fun i=>ops.length-i) 0 rfl ⟨⟨by omega,fun j hj=>by omega⟩,hp⟩ ?_
  clear hp
  rintro i w1 ⟨⟨pW,dL⟩,hp⟩ IH C
  have HN:=yi ops i
  refine bL ?_
  apply ae<;>intro bD
  ·have aF:i<ops.length:=by omega
   have MF:=hi i aF
   refine aN ?_
   (first|apply fx|apply cf)<;>intro h3 e<;>rw[e]<;>clear e;all_goals((repeat(first|(refine aG ?_;first|refine aO ?_|refine ba ?_)|(refine ah ?_;refine bb hp ?_))))
   ·refine aN ?_;refine aq ?_
    rw[gP (fun h=>(h.each i aF).1 h3)]
    exact⟨rfl,hp.x⟩
   ·by_cases ho:e6 (ops.getD i default) m
    ·refine bQ hp Tryz.func138 ((GV (ops.getD i default) m MF _).tt (decide_eq_true ho)) ?_;intro w hx hp;refine aO ?_
     refine aM ?_;refine dg hp ?_
     have Ml:=An (ops.getD i default).kind
     refine bQ hp Tryz.func139 (gj (ops.getD i default).kind _) ?_;intro w hx hp
     refine IH (i+1) _ _ _ (by omega) rfl ⟨⟨by omega,fun j hj=> ?_⟩,(Hp.sy hp.x)⟩
     by_cases EB:j=i
     ·subst EB;exact⟨h3,ho⟩
     ·exact dL j (by omega)
    ·refine bQ hp Tryz.func138 ((GV (ops.getD i default) m MF _).ff (decide_eq_false ho)) ?_;intro w hx hp;refine aO ?_
     refine aN ?_;refine aq ?_
     rw[gP (fun h=>ho (h.each i aF).2)]
     exact⟨rfl,hp.x⟩
  ·obtain rfl:i=ops.length:=by omega
   clear IH
   refine aM ?_;refine aq ?_
   by_cases hz:fk ops ops.length=0
   ·rw[lu ⟨by omega,dL,hz⟩,decide_eq_true hz]
    exact⟨rfl,hp.x⟩
   ·rw[gP (fun h=>hz h.full),decide_eq_false hz]
    exact⟨rfl,hp.x⟩
theorem DD {ops:List dK}(h:∃o,o∈ops/\o.kind=1):R0 ops=true:=cR.2 h
theorem GW {ops:List dK}(h:¬∃o,o∈ops/\o.kind=1):R0 ops=false:=Bool.eq_false_iff.2 fun hh=>h (cR.1 hh)
theorem yl (a:Option Addr)(c n:Nat)(ops:List dK)(hn:ops.length=n)(w0:World)(hR:Rd w0 a 3 kf ops)(hl:ops.length<=1048576):
  bN Tryz.prog 92 [.slice a n c] w0 (fun v w=>v= .bool (R0 ops)/\Ext w0 w):=by
 subst hn
 refine eu Tryz.VA ?_;intro C hp
 refine aR [5,6,7] (fun(i:Nat)=>[(5,.slice a ops.length c),(6,.int .i64 ops.length),(7,.int .i64 (i:Int))])
  (fun i w'=>(i<=ops.length/\∀j,j<i->(ops.getD j default).kind≠1)/\Hp w0 w' []) (fun i=>ops.length-i) 0 rfl ⟨⟨by omega,fun j hj=>by omega⟩,hp⟩ ?_
 clear hp
 rintro i w1 ⟨⟨pW,dL⟩,hp⟩ IH C
 refine bL ?_
 apply ae<;>intro bD
 ·have aF:i<ops.length:=by omega
  refine aN ?_;refine bb hp ?_
  refine bP hp ?_;intro w b4 hx hp;refine az ?_;(repeat(first|(refine ah ?_;refine aI hp ?_)|(refine aH ?_;refine aW hp ?_;intro w hp;refine az ?_)))
  apply ae<;>intro h1
  ·refine aN ?_;refine aq ?_
   rw[DD ⟨_,aK aF,h1⟩]
   exact⟨rfl,hp.x⟩
  ·refine aM ?_
   refine IH (i+1) _ _ _ (by omega) rfl ⟨⟨by omega,fun j hj=> ?_⟩,(Hp.sy hp.x)⟩
   by_cases EB:j=i
   ·subst EB;exact h1
   ·exact dL j (by omega)
 ·obtain rfl:i=ops.length:=by omega
  clear IH
  refine aM ?_;refine aq ?_
  rw[GW (by
   rintro⟨o,ho,hk⟩
   obtain⟨j,hj,he⟩:=List.getElem_of_mem ho
   refine dL j hj ?_
   rw[List.getD_eq_getElem?_getD,List.getElem?_eq_getElem hj]
   show(ops[j]).kind=1
   rw[he];exact hk)]
  exact⟨rfl,hp.x⟩
end Go.Proofs
end
section
namespace Go.Xw
open Go.Proofs
def aY (n:aQ)(s:Int):Int:=(n.sg.getD s.toNat default).kind
def l6 (n:aQ)(s:Int):Int:=(n.sg.getD s.toNat default).width
def dr (n:aQ)(s:Int):Prop:=0<=s/\s<n.sg.length
def gH (R:List MC)(s:Int):Nat->Int
 |0=>0
 |i+1=>if(R.getD i default).tg=s then gH R s i+1 else gH R s i
def hJ (R:List yh)(s:Int):Nat->Int
 |0=>0
 |i+1=>if(R.getD i default).out=s then hJ R s i+1 else hJ R s i
def wz (n:aQ)(s:Int):Int:=gH n.aP s n.aP.length+hJ n.ms s n.ms.length
theorem mT (R:List MC)(s:Int):∀i:Nat,0<=gH R s i/\gH R s i<=i
 |0=>by simp[gH]
 |i+1=>by
  have:=mT R s i
  unfold gH
  split<;>omega
theorem nX (R:List yh)(s:Int):∀i:Nat,0<=hJ R s i/\hJ R s i<=i
 |0=>by simp[hJ]
 |i+1=>by
  have:=nX R s i
  unfold hJ
  split<;>omega
theorem mr (R:List MC)(s:Int){i:Nat}:∀j:Nat,i<=j->gH R s i<=gH R s j
 |0,h=>by obtain rfl:i=0:=(by omega);exact Int.le_refl _
 |j+1,h=>by
  by_cases kc:i=j+1
  ·subst kc;exact Int.le_refl _
  ·have:=mr R s (i:=i) j (by omega)
   rw[gH]
   split<;>omega
theorem rz {R:List MC}{s:Int}(h:gH R s R.length<=1){i j:Nat}(kc:i<j)(hj:j<R.length)(hi:(R.getD i default).tg=s)(hjs:(R.getD j default).tg=s):False:=by
 have h1:=mr R s (i:=i+1) j (by omega)
 have h2:=mr R s (i:=j+1) R.length (by omega)
 have e1:gH R s (i+1)=gH R s i+1:=by rw[gH,if_pos hi]
 have e2:gH R s (j+1)=gH R s j+1:=by rw[gH,if_pos hjs]
 have:=(mT R s i).1
 omega
def sh (s:pQ):Prop:=(0<=s.kind/\s.kind<=3)/\(0<=s.width/\s.width<=4)/\(s.init=0\/(s.kind=3/\0<=s.init/\s.init<=15))
instance (s:pQ):Decidable (sh s):=by unfold sh;infer_instance
def J0 (n:aQ)(a:MC):Prop:=dr n a.tg/\(aY n a.tg=1\/aY n a.tg=2\/aY n a.tg=3)/\fU a.ops n.sg.length
def si (n:aQ)(s:Int):Prop:=dr n s/\(aY n s=1\/aY n s=2)
def J1 (n:aQ)(x:yh):Prop:=dr n x.addr/\dr n x.data/\dr n x.write/\si n x.out
structure aV (n:aQ):Prop where
 l1:n.sg.length<=30
 l2:n.aP.length<=30
 l3:n.ms.length<=2
 sg:∀i,i<n.sg.length->sh (n.sg.getD i default)
 aP:∀i,i<n.aP.length->J0 n (n.aP.getD i default)
 ms:∀i,i<n.ms.length->J1 n (n.ms.getD i default)
 R4:∀i:Nat,i<n.sg.length->((n.sg.getD i default).kind=1\/(n.sg.getD i default).kind=2\/(n.sg.getD i default).kind=3)->wz n i=1
def J2 (ops:List dK)(s:Int):Prop:=∃o,o∈ops/\(o.kind=2\/o.kind=3)/\o.a=s
def pn (ops:List dK)(s:Int):Bool:=ops.any fun o=>(decide (o.kind=2)||decide (o.kind=3))&&decide (o.a=s)
theorem mU {ops:List dK}{s:Int}:pn ops s=true↔J2 ops s:=by
 unfold pn J2
 rw[List.any_eq_true]
 constructor
 ·rintro⟨o,h1,h2⟩
  simp only[Bool.and_eq_true,Bool.or_eq_true,decide_eq_true_eq] at h2
  exact⟨o,h1,h2⟩
 ·rintro⟨o,h1,h2⟩
  exact⟨o,h1,by simp only[Bool.and_eq_true,Bool.or_eq_true,decide_eq_true_eq];exact h2⟩
def opsL (n:aQ)(i:Nat):List dK:=(n.aP.getD i default).ops
def dT (n:aQ)(i:Nat):Int:=(n.aP.getD i default).tg
def iK (n:aQ)(todo:List Nat)(i:Nat):Bool:=todo.all fun j=> !pn (opsL n i) (dT n j)
def lv (n:aQ):List Nat:=(List.range n.aP.length).filter fun i=>decide (aY n (dT n i)≠3)
def rW (n:aQ):Nat->List Nat->List Nat->Option (List Nat)
 |0,_,out=>some out
 |f+1,todo,out=>match todo.findIdx? (iK n todo) with
  |none=>none
  |some k=>rW n f (todo.eraseIdx k) (out++[todo.getD k 0])
open Classical in
noncomputable def gQ (n:aQ):Option (List Nat):=if n.ins=[]/\aV n then rW n (lv n).length (lv n) [] else none
theorem tZ {n:aQ}(h:n.ins=[])(h2:aV n):gQ n=rW n (lv n).length (lv n) []:=by unfold gQ;rw[if_pos ⟨h,h2⟩]
theorem ub {n:aQ}(h:¬(n.ins=[]/\aV n)):gQ n=none:=by unfold gQ;rw[if_neg h]
structure qN (n:aQ)(todo out:List Nat):Prop where
 Xd:todo.Pairwise (· < ·)
 MG:∀i,i∈todo->i<n.aP.length/\aY n (dT n i)≠3
 oin:∀i,i∈out->i<n.aP.length/\aY n (dT n i)≠3
 len:todo.length+out.length=(lv n).length
theorem J3 (n:aQ):∀i,i∈lv n->i<n.aP.length/\aY n (dT n i)≠3:=fun i hi=>by
 simp only[lv,List.mem_filter,List.mem_range,decide_eq_true_eq] at hi
 exact hi
theorem ym (n:aQ):qN n (lv n) []:=
 ⟨(List.pairwise_lt_range).filter _,J3 n,by simp,by simp⟩
theorem H6 (n:aQ):(lv n).length<=n.aP.length:=by
 have:=List.length_filter_le (fun i=>decide (aY n (dT n i)≠3)) (List.range n.aP.length)
 rw[List.length_range] at this
 exact this
theorem qN.step {n:aQ}{todo out:List Nat}(h:qN n todo out){k:Nat}(hk:k<todo.length):qN n (todo.eraseIdx k) (out++[todo.getD k 0]):=by
 have hm:todo.getD k 0∈todo:=by
  rw[List.getD_eq_getElem?_getD,List.getElem?_eq_getElem hk];exact List.getElem_mem hk
 refine⟨h.Xd.sublist (List.eraseIdx_sublist _ _),fun i hi=>h.MG i ((List.eraseIdx_sublist _ _).subset hi),fun i hi=> ?_,?_⟩
 ·rcases List.mem_append.1 hi with hi|hi
  ·exact h.oin i hi
  ·simp only[List.mem_singleton] at hi
   subst hi
   exact h.MG _ hm
 ·rw[List.length_eraseIdx_of_lt hk,List.length_append]
  have:=h.len
  simp only[List.length_cons,List.length_nil]
  omega
theorem GX {n:aQ}:∀(f:Nat) (todo out l:List Nat),qN n todo out->f=todo.length->rW n f todo out=some l->(∀i,i∈l->i<n.aP.length/\aY n (dT n i)≠3)/\l.length=(lv n).length
 |0,todo,out,l,h,hf,he=>by
  simp only[rW,Option.some.injEq] at he
  subst he
  exact⟨h.oin,by have:=h.len;omega⟩
 |f+1,todo,out,l,h,hf,he=>by
  simp only[rW] at he
  cases hk:todo.findIdx? (iK n todo) with
  |none=>rw[hk] at he;simp at he
  |some k=>
   rw[hk] at he
   have u7:k<todo.length:=by
    have:=List.findIdx?_eq_some_iff_getElem.1 hk
    exact this.1
   exact GX f _ _ l (h.step u7) (by rw[List.length_eraseIdx_of_lt u7];omega) he
theorem iW {n:aQ}{l:List Nat}(h:gQ n=some l):(n.ins=[]/\aV n)/\(∀i,i∈l->i<n.aP.length/\aY n (dT n i)≠3)/\l.length<=n.aP.length:=by
 by_cases hh:n.ins=[]/\aV n
 ·rw[tZ hh.1 hh.2] at h
  obtain⟨h1,h2⟩:=GX _ _ _ l (ym n) rfl h
  exact⟨hh,h1,by rw[h2];exact H6 n⟩
 ·rw[ub hh] at h;simp at h
theorem AB {n:aQ}{todo out:List Nat}(h:qN n todo out){i:Nat}(hi:i∈todo)(hf:iK n todo i=true)(dL:∀j,j<i->¬(j∈todo/\iK n todo j=true)):∃k,k<todo.length/\todo.findIdx? (iK n todo)=some k/\todo.getD k 0=i:=by
 obtain⟨k,hk,rfl⟩:=List.getElem_of_mem hi
 refine⟨k,hk,List.findIdx?_eq_some_iff_getElem.2 ⟨hk,hf,fun j hj=> ?_⟩,by rw[List.getD_eq_getElem?_getD,List.getElem?_eq_getElem hk];rfl⟩
 have bD:todo[j]<todo[k]:=List.pairwise_iff_getElem.1 h.Xd j k (by omega) hk hj
 have:=dL _ bD
 intro hh
 exact this ⟨List.getElem_mem _,hh⟩
theorem AD {n:aQ}{todo out:List Nat}(h:qN n todo out)(dL:∀j,j<n.aP.length->¬(j∈todo/\iK n todo j=true)):todo.findIdx? (iK n todo)=none:=by
 rw[List.findIdx?_eq_none_iff]
 intro x hx
 have:=dL x (h.MG x hx).1
 cases hh:iK n todo x with
 |false=>rfl
 |true=>exact absurd ⟨hx,hh⟩ this
def DE (n:aQ)(todo:List Nat)(s:Int):Prop:=∃j,j∈todo/\dT n j=s
theorem DF {n:aQ}(hm:aV n){todo out:List Nat}(h:qN n todo out){i:Nat}(hi:i<n.aP.length):DE n todo (dT n i)↔i∈todo:=by
 constructor
 ·rintro⟨j,hj,he⟩
  obtain⟨h1,h2⟩:=h.MG j hj
  have h3:=hm.aP j h1
  have ha:dr n (dT n j):=h3.1
  have hk:aY n (dT n j)=1\/aY n (dT n j)=2\/aY n (dT n j)=3:=h3.2.1
  unfold dr at ha
  have hd:=hm.R4 (dT n j).toNat (by omega) (by unfold aY at hk;exact hk)
  rw[Int.toNat_of_nonneg ha.1] at hd
  unfold wz at hd
  have hb:=(nX n.ms (dT n j) n.ms.length).1
  have hle:gH n.aP (dT n j) n.aP.length<=1:=by omega
  rcases Nat.lt_trichotomy i j with kc|kc|kc
  ·exact(rz hle kc h1 he.symm rfl).elim
  ·subst kc;exact hj
  ·exact(rz hle kc hi rfl he.symm).elim
 ·exact fun hj=>⟨i,hj,rfl⟩
def BP (n:aQ)(todo:List Nat)(ops:List dK):Prop:=∃o,o∈ops/\(o.kind=2\/o.kind=3)/\DE n todo o.a
theorem H7 {n:aQ}{todo:List Nat}{i:Nat}:iK n todo i=true↔¬BP n todo (opsL n i):=by
 unfold iK BP DE
 rw[List.all_eq_true]
 constructor
 ·rintro h ⟨o,h1,h2,j,h3,h4⟩
  have:=h j h3
  simp only[Bool.not_eq_true'] at this
  rw[(mU (s:=dT n j)).2 ⟨o,h1,h2,h4.symm⟩] at this
  exact Bool.noConfusion this
 ·intro h j hj
  simp only[Bool.not_eq_true']
  cases hr:pn (opsL n i) (dT n j) with
  |false=>rfl
  |true=>
   obtain⟨o,h1,h2,h3⟩:=mU.1 hr
   exact absurd ⟨o,h1,h2,j,hj,h3.symm⟩ h
def pR (l:List pQ)(k:Int):List Int:=(l.filter fun s=>decide (s.kind=k)).map pQ.width
def ee (n:aQ)(k:Int):List Int:=pR n.sg k
theorem rA {l:List pQ}{k:Int}{s:pQ}(h:s.kind=k):pR (l++[s]) k=pR l k++[s.width]:=by
 unfold pR
 rw[List.filter_append,List.map_append,List.filter_cons_of_pos (by simp[h])];rfl
theorem yn {l:List pQ}{k:Int}{s:pQ}(h:s.kind≠k):pR (l++[s]) k=pR l k:=by
 unfold pR
 rw[List.filter_append,List.map_append,List.filter_cons_of_neg (by simp[h])];simp
theorem po (l:List pQ)(k:Int):(pR l k).length<=l.length:=by
 unfold pR
 rw[List.length_map]
 exact List.length_filter_le _ _
theorem GY {l:List pQ}{k:Int}{z:Int}(h:z∈pR l k):∃s,s∈l/\s.kind=k/\s.width=z:=by
 unfold pR at h
 obtain⟨s,h1,h2⟩:=List.mem_map.1 h
 rw[List.mem_filter] at h1
 exact⟨s,h1.1,of_decide_eq_true h1.2,h2⟩
def cT (l:List Int):Int:=l.foldl (· + ·) 0
theorem oI (l:List Int)(z:Int):cT (l++[z])=cT l+z:=by unfold cT;rw[List.foldl_append];rfl
def pq (n:aQ):Nat->Int
 |0=>0
 |i+1=>pq n i+l6 n (n.ms.getD i default).out
structure ch (n:aQ):Prop where
 ev:(gQ n).isSome=true
 wid:∀i,i<n.sg.length->(n.sg.getD i default).width≠0
 par:∀i,i<n.aP.length->¬∃o,o∈(n.aP.getD i default).ops/\o.kind=1
 ms:∀i,i<n.ms.length->l6 n (n.ms.getD i default).addr=2/\l6 n (n.ms.getD i default).write=1/\l6 n (n.ms.getD i default).data=l6 n (n.ms.getD i default).out
 s0:cT (ee n 0)<=8
 s1:cT (ee n 1)<=8
 s3:cT (ee n 3)+pq n n.ms.length<=12
noncomputable def fB (n:aQ):Bool:=pB (ch n)
noncomputable def Lg (n:aQ):List Nat×Bool:=match gQ n with
 |some l=>(l,true)
 |none=>([],false)
theorem mV {n:aQ}{l:List Nat}(h:gQ n=some l):Lg n=(l,true):=by unfold Lg;rw[h]
theorem lA {n:aQ}(h:gQ n=none):Lg n=([],false):=by unfold Lg;rw[h]
def cJ (l:List Nat):List Int:=l.map fun(i:Nat)=>(i:Int)
theorem kQ (l:List Nat):(cJ l).length=l.length:=by simp[cJ]
theorem mu (l:List Nat)(i:Nat):(cJ l).getD i default=((l.getD i 0:Nat):Int):=by
 simp only[cJ,List.getD_eq_getElem?_getD,List.getElem?_map]
 cases l[i]?<;>rfl
end Go.Xw
end
section
namespace Go.Xw
open Go.RowKit
theorem cH {α:Type}[Inhabited α]{X:List α}{i j:Nat}{y:α}(hi:i<X.length):(X.set i y).getD j default=if j=i then y else X.getD j default:=by
 simp only[List.getD_eq_getElem?_getD,List.getElem?_set]
 by_cases h:i=j
 ·subst h;simp[hi]
 ·rw[if_neg h,if_neg (fun e=>h e.symm)]
theorem dm {α:Type}[Inhabited α]{xs:List α}{i:Nat}(h:i<xs.length):xs.take (i+1)=xs.take i++[xs.getD i default]:=by
 rw[List.take_succ_eq_append_getElem h]
 simp[List.getD_eq_getElem?_getD,h]
theorem u9 {α:Type}[Inhabited α]{X:List α}{i:Nat}(h:i<X.length):X.getD i default∈X:=by
 rw[List.getD_eq_getElem?_getD,List.getElem?_eq_getElem h];exact List.getElem_mem h
structure cL (α:Type) where
 ins:List α
 ia:Option Addr
 ic:Nat
instance {α:Type}:Inhabited (cL α):=⟨⟨[],none,0⟩⟩
def jl {α:Type}(r:cL α):List Value:=[.slice r.ia r.ins.length r.ic]
instance eRo_ok {α:Type}:bX (jl (α:=α)) 1:=⟨fun _=>rfl,fun x u hu=>by simp[jl] at hu;subst hu;rfl⟩
def aJ {α:Type}(R:List (cL α)):List (List α):=R.map cL.ins
theorem fh {α:Type}(R:List (cL α)):(aJ R).length=R.length:=by simp[aJ]
theorem bk {α:Type}(R:List (cL α))(i:Nat):(aJ R).getD i default=(R.getD i default).ins:=by
 simp only[aJ,List.getD_eq_getElem?_getD,List.getElem?_map]
 cases R[i]?<;>rfl
def cD {α:Type}(e:TypeId)(s:Nat)(enc:α->List Value)(R:List (cL α)):bh:=rQ (R.map fun r=>rO e s enc r.ia r.ic r.ins)
section
variable {α:Type} {e:TypeId} {s:Nat} {enc:α->List Value} {w0 w w':World} {L:List bh} {R:List (cL α)}
theorem rC (h:Hp w0 w L):Hp w0 w (cD e s enc ([]:List (cL α))::L):=Hp.pack (Rs:=[]) h
theorem rD {y:cL α}(h:Hp w0 w (rO e s enc y.ia y.ic y.ins::cD e s enc R::L)):Hp w0 w (cD e s enc (R++[y])::L):=by
 have h1:Hp w0 w (R.map (fun r=>rO e s enc r.ia r.ic r.ins)++(rO e s enc y.ia y.ic y.ins::L)):=h.f1.unpack
 refine Hp.pack (Hp.perm h1 ?_)
 simp only[List.map_append,List.map_cons,List.map_nil,List.append_assoc]
 exact .refl _
theorem Fl {y:cL α}(h:Hp w0 w (cD e s enc R::L))(hy:Hp w w' [rO e s enc y.ia y.ic y.ins]):Hp w0 w' (cD e s enc (R++[y])::L):=rD (h.bJ hy)
theorem sV:∀(n:Nat),Hp w0 w L->Hp w0 w (cD e s enc (List.replicate n (⟨[],none,0⟩:cL α))::L)
 |0,h=>rC h
 |n+1,h=>by
  rw[List.replicate_succ']
  exact Fl (sV n h) ((Hp.nil w).eH (Ext.refl _) (dk.nil _ _ _ _ _))
theorem oJ (h:Hp w0 w (cD e s enc R::L)){i:Nat}(hi:i<R.length):
  ∃Q,Hp w0 w (rO e s enc (R.getD i default).ia (R.getD i default).ic (R.getD i default).ins::Q::L)/\∀w' L' y,Hp w0 w' (rO e s enc y.ia y.ic y.ins::Q::L')->Hp w0 w' (cD e s enc (R.set i y)::L'):=by
 obtain⟨Q,h1,h2⟩:=Hp.NM (i:=i) (R:=rO e s enc (R.getD i default).ia (R.getD i default).ic (R.getD i default).ins) h (by
  rw[List.getElem?_map,List.getElem?_eq_getElem hi,List.getD_eq_getElem?_getD,List.getElem?_eq_getElem hi];rfl)
 refine⟨Q,h1,fun w' L' y hy=> ?_⟩
 have h3:=h2 w' _ _ hy
 unfold cD
 rw[List.map_set]
 exact h3
end
class kp (w0:World)(L:List bh){α:Type}[Inhabited α](s:outParam Nat)(enc:outParam (α->List Value))(R:List (cL α)):Prop where
 h:∀w,Hp w0 w L->∀r,r∈R->Sl w r.ia r.ins.length s (fL enc r.ins)
instance kp.head {w0:World}{L:List bh}{α:Type}[Inhabited α]{e:TypeId}{s:Nat}{enc:α->List Value}[he:bX enc s]{R:List (cL α)}:kp w0 (cD e s enc R::L) s enc R:=
 ⟨fun w hp r hr=>dk.sl (hp.g0 (rO e s enc r.ia r.ic r.ins) (List.mem_map.2 ⟨r,hr,rfl⟩)) he.len⟩
instance kp.tail {w0:World}{L:List bh}{A:bh}{α:Type}[Inhabited α]{s:Nat}{enc:α->List Value}{R:List (cL α)}[h:kp w0 L s enc R]:kp w0 (A::L) s enc R:=⟨fun w hp=>h.h w hp.drop⟩
theorem kp.at_ {w0:World}{L:List bh}{α:Type}[Inhabited α]{s:Nat}{enc:α->List Value}{R:List (cL α)}(h:kp w0 L s enc R){i:Nat}(hi:i<R.length):gm w0 L (R.getD i default).ia s enc (R.getD i default).ins:=
 ⟨fun w hp=>h.h w hp _ (u9 hi)⟩
def V1 (s:ByteArray):List Value:=[.string s]
instance Xe:bX V1 1:=⟨fun _=>rfl,fun x u hu=>by simp[V1] at hu;subst hu;rfl⟩
end Go.Xw
end
