/- Texts that belong together; each under its stated conditions. -/
import Derived.Test.YtiepmliokblkjaaGreatBrf
import Derived.Test.YtiepmliokblkjaaGreatModR
import Derived.Test.YtiepmliokblkjaaGreatFam
import Derived.Laws.BytesString
set_option linter.all false
section
namespace Go.Xw
theorem OA {k:Int}(h:0<=k/\k<=3):jx k=0:=by unfold jx;rw[if_pos h]
theorem OB {k:Int}(h:k=4):jx k=1:=by unfold jx;rw[if_neg (by omega),if_pos h]
theorem OC {k:Int}(h:5<=k/\k<=11):jx k=2:=by unfold jx;rw[if_neg (by omega),if_neg (by omega),if_pos h]
theorem OD {k:Int}(h:k=12):jx k=3:=by unfold jx;rw[if_neg (by omega),if_neg (by omega),if_neg (by omega),if_pos h]
theorem JW {k:Int}(h:¬(0<=k/\k<=12)):jx k= -1:=by unfold jx;rw[if_neg (by omega),if_neg (by omega),if_neg (by omega),if_neg (by omega)]
theorem yg (ops:List dJ):∀i:Nat,1-2*(i:Int)<=fj ops i/\fj ops i<=1+2*(i:Int)
 |0=>by show 1-2*((0:Nat):Int)<=1/\(1:Int)<=1+2*((0:Nat):Int);omega
 |i+1=>by
  have ih:=yg ops i
  have:=Aj (ops.getD i default).kind
  show 1-2*((i+1:Nat):Int)<=fj ops i-1+jx (ops.getD i default).kind/\fj ops i-1+jx (ops.getD i default).kind<=1+2*((i+1:Nat):Int)
  omega
theorem BJ {o:dJ}{m:Int}(h:o.kind=0):e6 o m↔(0<=o.a/\o.a<=15)/\o.b=0:=by unfold e6;rw[if_pos h]
theorem yh {o:dJ}{m:Int}(h:o.kind=2):e6 o m↔(0<=o.a/\o.a<m)/\o.b=0:=by unfold e6;rw[if_neg (by omega),if_pos h]
theorem yi {o:dJ}{m:Int}(h:o.kind=3):e6 o m↔(0<=o.a/\o.a<m)/\0<=o.b/\o.b<=3:=by unfold e6;rw[if_neg (by omega),if_neg (by omega),if_pos h]
theorem JX {o:dJ}{m:Int}(h0:o.kind≠0)(h2:o.kind≠2)(h3:o.kind≠3):e6 o m↔0<=jx o.kind/\o.a=0/\o.b=0:=by unfold e6;rw[if_neg h0,if_neg h2,if_neg h3]
def u5 (o:dJ):Prop:=da o.kind/\da o.a/\da o.b
noncomputable def MC (ops:List dJ)(m:Int):Bool:=pB (fT ops m)
theorem lv {ops:List dJ}{m:Int}(h:fT ops m):MC ops m=true:=cR.2 h
theorem gP {ops:List dJ}{m:Int}(h:¬fT ops m):MC ops m=false:=Bool.eq_false_iff.2 fun hh=>h (cR.1 hh)
noncomputable def RX (ops:List dJ):Bool:=pB (∃o,o∈ops/\o.kind=1)
end Go.Xw
namespace Go.Proofs
open Go.Xw
set_option maxRecDepth 100000
set_option maxHeartbeats 2000000
attribute [local irreducible] ax aE
theorem nW (k:Int)(w0:World):bN Tryz.prog 95 [.int .i64 k] w0 (fun v w=>v= .int .i64 (jx k)/\Ext w0 w):=by
 refine eu Tryz.Vz ?_;intro C hp
 by_cases h1:0<=k/\k<=3
 ·refine bQ hp Tryz.func124 ((bB k 0 3 _).yes h1) ?_;intro w hx hp
  refine aN ?_;refine aq ?_
  exact⟨by rw[OA h1],hp.x⟩
 ·refine bQ hp Tryz.func124 ((bB k 0 3 _).no h1) ?_;intro w hx hp
  refine aM ?_
  apply ae<;>intro h2
  ·refine aN ?_;refine aq ?_
   exact⟨by rw[OB h2],hp.x⟩
  ·refine aM ?_
   by_cases h3:5<=k/\k<=11
   ·refine bQ hp Tryz.func124 ((bB k 5 11 _).yes h3) ?_;intro w hx hp
    refine aN ?_;refine aq ?_
    exact⟨by rw[OC h3],hp.x⟩
   ·refine bQ hp Tryz.func124 ((bB k 5 11 _).no h3) ?_;intro w hx hp
    refine aM ?_
    apply ae<;>intro h4
    ·refine aN ?_;refine aq ?_
     exact⟨by rw[OD h4],hp.x⟩
    ·refine aM ?_;refine aq ?_
     exact⟨by rw[JW (by omega)],hp.x⟩
theorem gj (k:Int)(w0:World):bN Tryz.prog 139 [.int .i64 k] w0 (fun v w=>v= .int .i64 (jx k)/\Ext w0 w):=by
 refine eu Tryz.QB ?_;intro C hp
 by_cases h0:0<=k/\k<=12
 ·refine bQ hp Tryz.func79 ((cD k 0 12 _).yes h0) ?_;intro w hx hp
  refine aM ?_
  apply ae<;>intro h1
  ·refine aN ?_;refine aq ?_
   exact⟨by rw[OA (by omega)],hp.x⟩
  ·refine aM ?_
   apply ae<;>intro h2
   ·refine aN ?_;refine aq ?_
    exact⟨by rw[OB h2],hp.x⟩
   ·refine aM ?_
    apply ae<;>intro h3
    ·refine aN ?_;refine aq ?_
     exact⟨by rw[OD h3],hp.x⟩
    ·refine aM ?_;refine aq ?_
     exact⟨by rw[OC (by omega)],hp.x⟩
 ·refine bQ hp Tryz.func79 ((cD k 0 12 _).no h0) ?_;intro w hx hp
  refine aN ?_;refine aq ?_
  exact⟨by rw[JW h0],hp.x⟩
theorem JY (o:dJ)(m:Int)(hi:u5 o)(w0:World):bN Tryz.prog 192 [.agg ⟨kg o⟩,.int .i64 m] w0 (fun v w=>v= .bool (decide (e6 o m))/\Ext w0 w):=by
 obtain⟨MD,mg,SX⟩:=hi
 unfold da at MD mg SX
 refine eu Tryz.Rp ?_;intro C hp;skip;refine bP hp ?_;intro w b2 hx hp;refine az ?_;refine aH hp ?_
 by_cases h0:o.kind=0
 ·have hd:decide (e6 o m)=decide ((0<=o.a/\o.a<=15)/\o.b=0):=by simp only[BJ h0]
  rw[hd]
  refine ae (fun _=> ?_) (fun hg=>False.elim (by omega));refine aN ?_;refine aH hp ?_
  by_cases ha:0<=o.a/\o.a<=15
  ·refine bQ hp Tryz.func124 ((bB o.a 0 15 _).yes ha) ?_;intro w hx hp;(repeat(first|(refine aG ?_;refine aO ?_)|(refine ah ?_;refine aH hp ?_)|refine aq ?_))
   exact⟨by simp[ha],hp.x⟩
  ·refine bQ hp Tryz.func124 ((bB o.a 0 15 _).no ha) ?_;intro w hx hp;(repeat(first|(refine aG ?_;refine ba ?_)|refine aq ?_))
   exact⟨by simp[ha],hp.x⟩
 ·refine ae (fun hg=>False.elim (by omega)) (fun _=> ?_);refine aM ?_;refine aH hp ?_
  by_cases h2:o.kind=2
  ·have hd:decide (e6 o m)=decide ((0<=o.a/\o.a<m)/\o.b=0):=by simp only[yh h2]
   rw[hd]
   refine ae (fun _=> ?_) (fun hg=>False.elim (by omega));refine aN ?_;refine aH hp ?_
   (first|apply fx|apply cf)<;>intro g1 e<;>rw[e]<;>clear e;all_goals((repeat(first|(refine aG ?_;first|refine aO ?_|refine ba ?_)|(refine ah ?_;refine aH hp ?_)|refine aq ?_)))
   ·(first|apply fx|apply cf)<;>intro g2 e<;>rw[e]<;>clear e;all_goals((repeat(first|(refine aG ?_;first|refine aO ?_|refine ba ?_)|(refine ah ?_;refine aH hp ?_)|refine aq ?_)))
    ·exact⟨by simp[g1,g2],hp.x⟩
    ·exact⟨by simp[g1,g2],hp.x⟩
   ·exact⟨by simp[g1],hp.x⟩
  ·refine ae (fun hg=>False.elim (by omega)) (fun _=> ?_);refine aM ?_;refine aH hp ?_
   by_cases h3:o.kind=3
   ·have hd:decide (e6 o m)=decide ((0<=o.a/\o.a<m)/\0<=o.b/\o.b<=3):=by simp only[yi h3]
    rw[hd]
    refine ae (fun _=> ?_) (fun hg=>False.elim (by omega));refine aN ?_;refine aH hp ?_
    (first|apply fx|apply cf)<;>intro g1 e<;>rw[e]<;>clear e;all_goals((repeat(first|(refine aG ?_;first|refine aO ?_|refine ba ?_)|(refine ah ?_;refine aH hp ?_)|refine aq ?_)))
    ·(first|apply fx|apply cf)<;>intro g2 e<;>rw[e]<;>clear e;all_goals((repeat(first|(refine aG ?_;first|refine aO ?_|refine ba ?_)|(refine ah ?_;refine aH hp ?_)|refine aq ?_)))
     ·by_cases hb:0<=o.b/\o.b<=3
      ·refine bQ hp Tryz.func124 ((bB o.b 0 3 _).yes hb) ?_;intro w hx hp;refine aq ?_
       exact⟨by simp[g1,g2,hb],hp.x⟩
      ·refine bQ hp Tryz.func124 ((bB o.b 0 3 _).no hb) ?_;intro w hx hp;refine aq ?_
       exact⟨by simp[g1,g2,hb],hp.x⟩
     ·exact⟨by simp[g1,g2],hp.x⟩
    ·exact⟨by simp[g1],hp.x⟩
   ·have hd:decide (e6 o m)=decide (0<=jx o.kind/\o.a=0/\o.b=0):=by simp only[JX h0 h2 h3]
    rw[hd]
    have hb:=Aj o.kind
    refine ae (fun hg=>False.elim (by omega)) (fun _=> ?_);refine aM ?_;refine aH hp ?_
    refine bQ hp Tryz.func95 (nW o.kind _) ?_;intro w hx hp
    (first|apply fx|apply cf)<;>intro g1 e<;>rw[e]<;>clear e;all_goals((repeat(first|(refine aG ?_;first|refine aO ?_|refine ba ?_)|(refine ah ?_;refine aH hp ?_)|refine aq ?_)))
    ·(first|apply fx|apply cf)<;>intro g2 e<;>rw[e]<;>clear e;all_goals((repeat(first|(refine aG ?_;first|refine aO ?_|refine ba ?_)|(refine ah ?_;refine aH hp ?_)|refine aq ?_)))
     ·exact⟨by simp[g1,g2],hp.x⟩
     ·exact⟨by simp[g1,g2],hp.x⟩
    ·exact⟨by simp[g1],hp.x⟩
theorem GU (o:dJ)(m:Int)(hi:u5 o)(w0:World):bN Tryz.prog 138 [.agg ⟨kg o⟩,.int .i64 m] w0 (fun v w=>v= .bool (decide (e6 o m))/\Ext w0 w):=by
 obtain⟨MD,mg,SX⟩:=hi
 unfold da at MD mg SX
 refine eu Tryz.QA ?_;intro C hp;skip;refine bP hp ?_;intro w b2 hx hp;refine az ?_;refine aH hp ?_
 by_cases h0:o.kind=0
 ·have hd:decide (e6 o m)=decide ((0<=o.a/\o.a<=15)/\o.b=0):=by simp only[BJ h0]
  rw[hd]
  refine ae (fun _=> ?_) (fun hg=>False.elim (by omega));refine aN ?_;refine aH hp ?_
  by_cases ha:0<=o.a/\o.a<=15
  ·refine bQ hp Tryz.func79 ((cD o.a 0 15 _).yes ha) ?_;intro w hx hp;(repeat(first|(refine aG ?_;refine aO ?_)|(refine ah ?_;refine aH hp ?_)|refine aq ?_))
   exact⟨by simp[ha],hp.x⟩
  ·refine bQ hp Tryz.func79 ((cD o.a 0 15 _).no ha) ?_;intro w hx hp;(repeat(first|(refine aG ?_;refine ba ?_)|refine aq ?_))
   exact⟨by simp[ha],hp.x⟩
 ·refine ae (fun hg=>False.elim (by omega)) (fun _=> ?_);refine aM ?_
  by_cases h2:o.kind=2
  ·have hd:decide (e6 o m)=decide ((0<=o.a/\o.a<m)/\o.b=0):=by simp only[yh h2]
   rw[hd]
   refine ae (fun _=> ?_) (fun hg=>False.elim (by omega));refine aN ?_;refine aH hp ?_
   (first|apply fx|apply cf)<;>intro g1 e<;>rw[e]<;>clear e;all_goals((repeat(first|(refine aG ?_;first|refine aO ?_|refine ba ?_)|(refine ah ?_;refine aH hp ?_)|refine aq ?_)))
   ·(first|apply fx|apply cf)<;>intro g2 e<;>rw[e]<;>clear e;all_goals((repeat(first|(refine aG ?_;first|refine aO ?_|refine ba ?_)|(refine ah ?_;refine aH hp ?_)|refine aq ?_)))
    ·exact⟨by simp[g1,g2],hp.x⟩
    ·exact⟨by simp[g1,g2],hp.x⟩
   ·exact⟨by simp[g1],hp.x⟩
  ·refine ae (fun hg=>False.elim (by omega)) (fun _=> ?_);refine aM ?_
   by_cases h3:o.kind=3
   ·have hd:decide (e6 o m)=decide ((0<=o.a/\o.a<m)/\0<=o.b/\o.b<=3):=by simp only[yi h3]
    rw[hd]
    refine ae (fun _=> ?_) (fun hg=>False.elim (by omega));refine aN ?_;refine aH hp ?_
    (first|apply fx|apply cf)<;>intro g1 e<;>rw[e]<;>clear e;all_goals((repeat(first|(refine aG ?_;first|refine aO ?_|refine ba ?_)|(refine ah ?_;refine aH hp ?_)|refine aq ?_)))
    ·(first|apply fx|apply cf)<;>intro g2 e<;>rw[e]<;>clear e;all_goals((repeat(first|(refine aG ?_;first|refine aO ?_|refine ba ?_)|(refine ah ?_;refine aH hp ?_)|refine aq ?_)))
     ·by_cases hb:0<=o.b/\o.b<=3
      ·refine bQ hp Tryz.func79 ((cD o.b 0 3 _).yes hb) ?_;intro w hx hp;refine aq ?_
       exact⟨by simp[g1,g2,hb],hp.x⟩
      ·refine bQ hp Tryz.func79 ((cD o.b 0 3 _).no hb) ?_;intro w hx hp;refine aq ?_
       exact⟨by simp[g1,g2,hb],hp.x⟩
     ·exact⟨by simp[g1,g2],hp.x⟩
    ·exact⟨by simp[g1],hp.x⟩
   ·have hd:decide (e6 o m)=decide (0<=jx o.kind/\o.a=0/\o.b=0):=by simp only[JX h0 h2 h3]
    rw[hd]
    have hb:=Aj o.kind
    refine ae (fun hg=>False.elim (by omega)) (fun _=> ?_);refine aM ?_;refine aH hp ?_
    refine bQ hp Tryz.func139 (gj o.kind _) ?_;intro w hx hp
    (first|apply fx|apply cf)<;>intro g1 e<;>rw[e]<;>clear e;all_goals((repeat(first|(refine aG ?_;first|refine aO ?_|refine ba ?_)|(refine ah ?_;refine aH hp ?_)|refine aq ?_)))
    ·(first|apply fx|apply cf)<;>intro g2 e<;>rw[e]<;>clear e;all_goals((repeat(first|(refine aG ?_;first|refine aO ?_|refine ba ?_)|(refine ah ?_;refine aH hp ?_)|refine aq ?_)))
     ·exact⟨by simp[g1,g2],hp.x⟩
     ·exact⟨by simp[g1,g2],hp.x⟩
    ·exact⟨by simp[g1],hp.x⟩
theorem vR (a:Option Addr)(c n:Nat)(ops:List dJ)(hn:ops.length=n)(m:Int)(w0:World)(hR:Rd w0 a 3 kg ops)(hl:ops.length<=1048576)(hi:∀i,i<ops.length->u5 (ops.getD i default)):
  bN Tryz.prog 182 [.slice a n c,.int .i64 m] w0 (fun v w=>v= .bool (MC ops m)/\Ext w0 w):=by
 subst hn
 refine eu Tryz.Ri ?_;intro C hp
 (first|apply fx|apply cf)<;>intro h1 e<;>rw[e]<;>clear e;all_goals((repeat(refine aG ?_;first|refine aO ?_|refine ba ?_)))
 ·refine aN ?_;refine aq ?_
  rw[gP (fun h=>by have hf:=h.full;rw[show ops.length=0 by omega] at hf;exact absurd (show(1:Int)=0 from hf) (by decide))]
  exact⟨rfl,hp.x⟩
 ·apply ae<;>intro h2
  ·refine aN ?_;refine aq ?_
   rw[gP (fun h=>by have:=h.len;omega)]
   exact⟨rfl,hp.x⟩
  ·refine aM ?_
   refine aR [1,5,16,17,18] (fun(i:Nat)=>[(1,.int .i64 m),(5,.int .i64 (fj ops i)),(16,.slice a ops.length c),(17,.int .i64 ops.length),(18,.int .i64 (i:Int))])
    (fun i w'=>(i<=ops.length/\∀j,j<i->fj ops j≠0/\e6 (ops.getD j default) m)/\Hp w0 w' []) (fun i=>ops.length-i) 0 rfl ⟨⟨by omega,fun j hj=>by omega⟩,hp⟩ ?_
   clear hp
   rintro i w1 ⟨⟨pW,dK⟩,hp⟩ IH C
   have HM:=yg ops i
   refine bL ?_
   apply ae<;>intro bD
   ·have aF:i<ops.length:=by omega
    have ME:=hi i aF
    refine aN ?_;refine bb hp ?_
    refine bP hp ?_;intro w b7 hx hp;refine az ?_;refine aW hp ?_;intro w hp;refine az ?_
    (first|apply fx|apply cf)<;>intro h3 e<;>rw[e]<;>clear e;all_goals((repeat(first|(refine aG ?_;first|refine aO ?_|refine ba ?_)|(refine ah ?_;refine aH hp ?_))))
    ·refine aN ?_;refine aq ?_
     rw[gP (fun h=>(h.each i aF).1 h3)]
     exact⟨rfl,hp.x⟩
    ·by_cases ho:e6 (ops.getD i default) m
     ·refine bQ hp Tryz.func192 ((JY (ops.getD i default) m ME _).tt (decide_eq_true ho)) ?_;intro w hx hp;refine aO ?_
      refine aM ?_;refine aH hp ?_
      have Mk:=Aj (ops.getD i default).kind
      refine bQ hp Tryz.func95 (nW (ops.getD i default).kind _) ?_;intro w hx hp
      refine IH (i+1) _ _ _ (by omega) (by rw[show fj ops (i+1)=fj ops i+(jx (ops.getD i default).kind-1) by show fj ops i-1+_=_;omega];rfl) ⟨⟨by omega,fun j hj=> ?_⟩,(Hp.su hp.x)⟩
      by_cases Ez:j=i
      ·subst Ez;exact⟨h3,ho⟩
      ·exact dK j (by omega)
     ·refine bQ hp Tryz.func192 ((JY (ops.getD i default) m ME _).ff (decide_eq_false ho)) ?_;intro w hx hp;refine aO ?_
      refine aN ?_;refine aq ?_
      rw[gP (fun h=>ho (h.each i aF).2)]
      exact⟨rfl,hp.x⟩
   ·obtain rfl:i=ops.length:=by omega
    clear IH
    refine aM ?_;refine aq ?_
    by_cases hz:fj ops ops.length=0
    ·rw[lv ⟨by omega,dK,hz⟩,decide_eq_true hz]
     exact⟨rfl,hp.x⟩
    ·rw[gP (fun h=>hz h.full),decide_eq_false hz]
     exact⟨rfl,hp.x⟩
theorem fA (a:Option Addr)(c n:Nat)(ops:List dJ)(hn:ops.length=n)(m:Int)(w0:World)(hR:Rd w0 a 3 kg ops)(hl:ops.length<=1048576)(hi:∀i,i<ops.length->u5 (ops.getD i default)):
  bN Tryz.prog 78 [.slice a n c,.int .i64 m] w0 (fun v w=>v= .bool (MC ops m)/\Ext w0 w):=by
 subst hn
 refine eu Tryz.Vn ?_;intro C hp
 apply ae<;>intro h2
 ·refine aN ?_;refine aq ?_
  rw[gP (fun h=>by have:=h.len;omega)]
  exact⟨rfl,hp.x⟩
 ·refine aM ?_
  refine aR [0,1,5,6] (fun(i:Nat)=>[(0,.slice a ops.length c),(1,.int .i64 m),(5,.int .i64 (fj ops i)),(6,.int .i64 (i:Int))])
   (fun i w'=>(i<=ops.length/\∀j,j<i->fj ops j≠0/\e6 (ops.getD j default) m)/\Hp w0 w' []) (fun i=>ops.length-i) 0 rfl ⟨⟨by omega,fun j hj=>by omega⟩,hp⟩ ?_
  clear hp
  rintro i w1 ⟨⟨pW,dK⟩,hp⟩ IH C
  have HM:=yg ops i
  refine bL ?_
  apply ae<;>intro bD
  ·have aF:i<ops.length:=by omega
   have ME:=hi i aF
   refine aN ?_
   (first|apply fx|apply cf)<;>intro h3 e<;>rw[e]<;>clear e;all_goals((repeat(first|(refine aG ?_;first|refine aO ?_|refine ba ?_)|(refine ah ?_;refine bb hp ?_))))
   ·refine aN ?_;refine aq ?_
    rw[gP (fun h=>(h.each i aF).1 h3)]
    exact⟨rfl,hp.x⟩
   ·by_cases ho:e6 (ops.getD i default) m
    ·refine bQ hp Tryz.func138 ((GU (ops.getD i default) m ME _).tt (decide_eq_true ho)) ?_;intro w hx hp;refine aO ?_
     refine aM ?_;refine dg hp ?_
     have Mk:=Aj (ops.getD i default).kind
     refine bQ hp Tryz.func139 (gj (ops.getD i default).kind _) ?_;intro w hx hp
     refine IH (i+1) _ _ _ (by omega) rfl ⟨⟨by omega,fun j hj=> ?_⟩,(Hp.su hp.x)⟩
     by_cases Ez:j=i
     ·subst Ez;exact⟨h3,ho⟩
     ·exact dK j (by omega)
    ·refine bQ hp Tryz.func138 ((GU (ops.getD i default) m ME _).ff (decide_eq_false ho)) ?_;intro w hx hp;refine aO ?_
     refine aN ?_;refine aq ?_
     rw[gP (fun h=>ho (h.each i aF).2)]
     exact⟨rfl,hp.x⟩
  ·obtain rfl:i=ops.length:=by omega
   clear IH
   refine aM ?_;refine aq ?_
   by_cases hz:fj ops ops.length=0
   ·rw[lv ⟨by omega,dK,hz⟩,decide_eq_true hz]
    exact⟨rfl,hp.x⟩
   ·rw[gP (fun h=>hz h.full),decide_eq_false hz]
    exact⟨rfl,hp.x⟩
theorem DB {ops:List dJ}(h:∃o,o∈ops/\o.kind=1):RX ops=true:=cR.2 h
theorem GV {ops:List dJ}(h:¬∃o,o∈ops/\o.kind=1):RX ops=false:=Bool.eq_false_iff.2 fun hh=>h (cR.1 hh)
theorem yj (a:Option Addr)(c n:Nat)(ops:List dJ)(hn:ops.length=n)(w0:World)(hR:Rd w0 a 3 kg ops)(hl:ops.length<=1048576):
  bN Tryz.prog 92 [.slice a n c] w0 (fun v w=>v= .bool (RX ops)/\Ext w0 w):=by
 subst hn
 refine eu Tryz.Vw ?_;intro C hp
 refine aR [5,6,7] (fun(i:Nat)=>[(5,.slice a ops.length c),(6,.int .i64 ops.length),(7,.int .i64 (i:Int))])
  (fun i w'=>(i<=ops.length/\∀j,j<i->(ops.getD j default).kind≠1)/\Hp w0 w' []) (fun i=>ops.length-i) 0 rfl ⟨⟨by omega,fun j hj=>by omega⟩,hp⟩ ?_
 clear hp
 rintro i w1 ⟨⟨pW,dK⟩,hp⟩ IH C
 refine bL ?_
 apply ae<;>intro bD
 ·have aF:i<ops.length:=by omega
  refine aN ?_;refine bb hp ?_
  refine bP hp ?_;intro w b4 hx hp;refine az ?_;(repeat(first|(refine ah ?_;refine aH hp ?_)|(refine aI ?_;refine aW hp ?_;intro w hp;refine az ?_)))
  apply ae<;>intro h1
  ·refine aN ?_;refine aq ?_
   rw[DB ⟨_,aK aF,h1⟩]
   exact⟨rfl,hp.x⟩
  ·refine aM ?_
   refine IH (i+1) _ _ _ (by omega) rfl ⟨⟨by omega,fun j hj=> ?_⟩,(Hp.su hp.x)⟩
   by_cases Ez:j=i
   ·subst Ez;exact h1
   ·exact dK j (by omega)
 ·obtain rfl:i=ops.length:=by omega
  clear IH
  refine aM ?_;refine aq ?_
  rw[GV (by
   rintro⟨o,ho,hk⟩
   obtain⟨j,hj,he⟩:=List.getElem_of_mem ho
   refine dK j hj ?_
   rw[List.getD_eq_getElem?_getD,List.getElem?_eq_getElem hj]
   show(ops[j]).kind=1
   rw[he];exact hk)]
  exact⟨rfl,hp.x⟩
end Go.Proofs
end
section
namespace Go.Xw
open Go.Proofs
def aY (n:aQ)(s:Int):Int:=(n.sg.getD s.toNat default).kind
def l5 (n:aQ)(s:Int):Int:=(n.sg.getD s.toNat default).width
def dr (n:aQ)(s:Int):Prop:=0<=s/\s<n.sg.length
def gH (R:List MB)(s:Int):Nat->Int
 |0=>0
 |i+1=>if(R.getD i default).tg=s then gH R s i+1 else gH R s i
def hJ (R:List yf)(s:Int):Nat->Int
 |0=>0
 |i+1=>if(R.getD i default).out=s then hJ R s i+1 else hJ R s i
def wq (n:aQ)(s:Int):Int:=gH n.aP s n.aP.length+hJ n.ms s n.ms.length
theorem mT (R:List MB)(s:Int):∀i:Nat,0<=gH R s i/\gH R s i<=i
 |0=>by simp[gH]
 |i+1=>by
  have:=mT R s i
  unfold gH
  split<;>omega
theorem nX (R:List yf)(s:Int):∀i:Nat,0<=hJ R s i/\hJ R s i<=i
 |0=>by simp[hJ]
 |i+1=>by
  have:=nX R s i
  unfold hJ
  split<;>omega
theorem mo (R:List MB)(s:Int){i:Nat}:∀j:Nat,i<=j->gH R s i<=gH R s j
 |0,h=>by obtain rfl:i=0:=(by omega);exact Int.le_refl _
 |j+1,h=>by
  by_cases kd:i=j+1
  ·subst kd;exact Int.le_refl _
  ·have:=mo R s (i:=i) j (by omega)
   rw[gH]
   split<;>omega
theorem rv {R:List MB}{s:Int}(h:gH R s R.length<=1){i j:Nat}(kd:i<j)(hj:j<R.length)(hi:(R.getD i default).tg=s)(hjs:(R.getD j default).tg=s):False:=by
 have h1:=mo R s (i:=i+1) j (by omega)
 have h2:=mo R s (i:=j+1) R.length (by omega)
 have e1:gH R s (i+1)=gH R s i+1:=by rw[gH,if_pos hi]
 have e2:gH R s (j+1)=gH R s j+1:=by rw[gH,if_pos hjs]
 have:=(mT R s i).1
 omega
def se (s:pQ):Prop:=(0<=s.kind/\s.kind<=3)/\(0<=s.width/\s.width<=4)/\(s.init=0\/(s.kind=3/\0<=s.init/\s.init<=15))
instance (s:pQ):Decidable (se s):=by unfold se;infer_instance
def JZ (n:aQ)(a:MB):Prop:=dr n a.tg/\(aY n a.tg=1\/aY n a.tg=2\/aY n a.tg=3)/\fT a.ops n.sg.length
def sf (n:aQ)(s:Int):Prop:=dr n s/\(aY n s=1\/aY n s=2)
def J0 (n:aQ)(x:yf):Prop:=dr n x.addr/\dr n x.data/\dr n x.write/\sf n x.out
structure aV (n:aQ):Prop where
 l1:n.sg.length<=30
 l2:n.aP.length<=30
 l3:n.ms.length<=2
 sg:∀i,i<n.sg.length->se (n.sg.getD i default)
 aP:∀i,i<n.aP.length->JZ n (n.aP.getD i default)
 ms:∀i,i<n.ms.length->J0 n (n.ms.getD i default)
 RY:∀i:Nat,i<n.sg.length->((n.sg.getD i default).kind=1\/(n.sg.getD i default).kind=2\/(n.sg.getD i default).kind=3)->wq n i=1
def J1 (ops:List dJ)(s:Int):Prop:=∃o,o∈ops/\(o.kind=2\/o.kind=3)/\o.a=s
def po (ops:List dJ)(s:Int):Bool:=ops.any fun o=>(decide (o.kind=2)||decide (o.kind=3))&&decide (o.a=s)
theorem mU {ops:List dJ}{s:Int}:po ops s=true↔J1 ops s:=by
 unfold po J1
 rw[List.any_eq_true]
 constructor
 ·rintro⟨o,h1,h2⟩
  simp only[Bool.and_eq_true,Bool.or_eq_true,decide_eq_true_eq] at h2
  exact⟨o,h1,h2⟩
 ·rintro⟨o,h1,h2⟩
  exact⟨o,h1,by simp only[Bool.and_eq_true,Bool.or_eq_true,decide_eq_true_eq];exact h2⟩
def opsL (n:aQ)(i:Nat):List dJ:=(n.aP.getD i default).ops
def dT (n:aQ)(i:Nat):Int:=(n.aP.getD i default).tg
def iI (n:aQ)(todo:List Nat)(i:Nat):Bool:=todo.all fun j=> !po (opsL n i) (dT n j)
def lA (n:aQ):List Nat:=(List.range n.aP.length).filter fun i=>decide (aY n (dT n i)≠3)
def rT (n:aQ):Nat->List Nat->List Nat->Option (List Nat)
 |0,_,out=>some out
 |f+1,todo,out=>match todo.findIdx? (iI n todo) with
  |none=>none
  |some k=>rT n f (todo.eraseIdx k) (out++[todo.getD k 0])
open Classical in
noncomputable def gQ (n:aQ):Option (List Nat):=if n.ins=[]/\aV n then rT n (lA n).length (lA n) [] else none
theorem ub {n:aQ}(h:n.ins=[])(h2:aV n):gQ n=rT n (lA n).length (lA n) []:=by unfold gQ;rw[if_pos ⟨h,h2⟩]
theorem ud {n:aQ}(h:¬(n.ins=[]/\aV n)):gQ n=none:=by unfold gQ;rw[if_neg h]
structure qM (n:aQ)(todo out:List Nat):Prop where
 Xa:todo.Pairwise (· < ·)
 MF:∀i,i∈todo->i<n.aP.length/\aY n (dT n i)≠3
 oin:∀i,i∈out->i<n.aP.length/\aY n (dT n i)≠3
 len:todo.length+out.length=(lA n).length
theorem J2 (n:aQ):∀i,i∈lA n->i<n.aP.length/\aY n (dT n i)≠3:=fun i hi=>by
 simp only[lA,List.mem_filter,List.mem_range,decide_eq_true_eq] at hi
 exact hi
theorem yk (n:aQ):qM n (lA n) []:=
 ⟨(List.pairwise_lt_range).filter _,J2 n,by simp,by simp⟩
theorem H5 (n:aQ):(lA n).length<=n.aP.length:=by
 have:=List.length_filter_le (fun i=>decide (aY n (dT n i)≠3)) (List.range n.aP.length)
 rw[List.length_range] at this
 exact this
theorem qM.step {n:aQ}{todo out:List Nat}(h:qM n todo out){k:Nat}(hk:k<todo.length):qM n (todo.eraseIdx k) (out++[todo.getD k 0]):=by
 have hm:todo.getD k 0∈todo:=by
  rw[List.getD_eq_getElem?_getD,List.getElem?_eq_getElem hk];exact List.getElem_mem hk
 refine⟨h.Xa.sublist (List.eraseIdx_sublist _ _),fun i hi=>h.MF i ((List.eraseIdx_sublist _ _).subset hi),fun i hi=> ?_,?_⟩
 ·rcases List.mem_append.1 hi with hi|hi
  ·exact h.oin i hi
  ·simp only[List.mem_singleton] at hi
   subst hi
   exact h.MF _ hm
 ·rw[List.length_eraseIdx_of_lt hk,List.length_append]
  have:=h.len
  simp only[List.length_cons,List.length_nil]
  omega
theorem GW {n:aQ}:∀(f:Nat) (todo out l:List Nat),qM n todo out->f=todo.length->rT n f todo out=some l->(∀i,i∈l->i<n.aP.length/\aY n (dT n i)≠3)/\l.length=(lA n).length
 |0,todo,out,l,h,hf,he=>by
  simp only[rT,Option.some.injEq] at he
  subst he
  exact⟨h.oin,by have:=h.len;omega⟩
 |f+1,todo,out,l,h,hf,he=>by
  simp only[rT] at he
  cases hk:todo.findIdx? (iI n todo) with
  |none=>rw[hk] at he;simp at he
  |some k=>
   rw[hk] at he
   have u6:k<todo.length:=by
    have:=List.findIdx?_eq_some_iff_getElem.1 hk
    exact this.1
   exact GW f _ _ l (h.step u6) (by rw[List.length_eraseIdx_of_lt u6];omega) he
theorem iU {n:aQ}{l:List Nat}(h:gQ n=some l):(n.ins=[]/\aV n)/\(∀i,i∈l->i<n.aP.length/\aY n (dT n i)≠3)/\l.length<=n.aP.length:=by
 by_cases hh:n.ins=[]/\aV n
 ·rw[ub hh.1 hh.2] at h
  obtain⟨h1,h2⟩:=GW _ _ _ l (yk n) rfl h
  exact⟨hh,h1,by rw[h2];exact H5 n⟩
 ·rw[ud hh] at h;simp at h
theorem Ax {n:aQ}{todo out:List Nat}(h:qM n todo out){i:Nat}(hi:i∈todo)(hf:iI n todo i=true)(dK:∀j,j<i->¬(j∈todo/\iI n todo j=true)):∃k,k<todo.length/\todo.findIdx? (iI n todo)=some k/\todo.getD k 0=i:=by
 obtain⟨k,hk,rfl⟩:=List.getElem_of_mem hi
 refine⟨k,hk,List.findIdx?_eq_some_iff_getElem.2 ⟨hk,hf,fun j hj=> ?_⟩,by rw[List.getD_eq_getElem?_getD,List.getElem?_eq_getElem hk];rfl⟩
 have bD:todo[j]<todo[k]:=List.pairwise_iff_getElem.1 h.Xa j k (by omega) hk hj
 have:=dK _ bD
 intro hh
 exact this ⟨List.getElem_mem _,hh⟩
theorem Ay {n:aQ}{todo out:List Nat}(h:qM n todo out)(dK:∀j,j<n.aP.length->¬(j∈todo/\iI n todo j=true)):todo.findIdx? (iI n todo)=none:=by
 rw[List.findIdx?_eq_none_iff]
 intro x hx
 have:=dK x (h.MF x hx).1
 cases hh:iI n todo x with
 |false=>rfl
 |true=>exact absurd ⟨hx,hh⟩ this
def DC (n:aQ)(todo:List Nat)(s:Int):Prop:=∃j,j∈todo/\dT n j=s
theorem DD {n:aQ}(hm:aV n){todo out:List Nat}(h:qM n todo out){i:Nat}(hi:i<n.aP.length):DC n todo (dT n i)↔i∈todo:=by
 constructor
 ·rintro⟨j,hj,he⟩
  obtain⟨h1,h2⟩:=h.MF j hj
  have h3:=hm.aP j h1
  have ha:dr n (dT n j):=h3.1
  have hk:aY n (dT n j)=1\/aY n (dT n j)=2\/aY n (dT n j)=3:=h3.2.1
  unfold dr at ha
  have hd:=hm.RY (dT n j).toNat (by omega) (by unfold aY at hk;exact hk)
  rw[Int.toNat_of_nonneg ha.1] at hd
  unfold wq at hd
  have hb:=(nX n.ms (dT n j) n.ms.length).1
  have hle:gH n.aP (dT n j) n.aP.length<=1:=by omega
  rcases Nat.lt_trichotomy i j with kd|kd|kd
  ·exact(rv hle kd h1 he.symm rfl).elim
  ·subst kd;exact hj
  ·exact(rv hle kd hi rfl he.symm).elim
 ·exact fun hj=>⟨i,hj,rfl⟩
def BK (n:aQ)(todo:List Nat)(ops:List dJ):Prop:=∃o,o∈ops/\(o.kind=2\/o.kind=3)/\DC n todo o.a
theorem H6 {n:aQ}{todo:List Nat}{i:Nat}:iI n todo i=true↔¬BK n todo (opsL n i):=by
 unfold iI BK DC
 rw[List.all_eq_true]
 constructor
 ·rintro h ⟨o,h1,h2,j,h3,h4⟩
  have:=h j h3
  simp only[Bool.not_eq_true'] at this
  rw[(mU (s:=dT n j)).2 ⟨o,h1,h2,h4.symm⟩] at this
  exact Bool.noConfusion this
 ·intro h j hj
  simp only[Bool.not_eq_true']
  cases hr:po (opsL n i) (dT n j) with
  |false=>rfl
  |true=>
   obtain⟨o,h1,h2,h3⟩:=mU.1 hr
   exact absurd ⟨o,h1,h2,j,hj,h3.symm⟩ h
def pR (l:List pQ)(k:Int):List Int:=(l.filter fun s=>decide (s.kind=k)).map pQ.width
def ee (n:aQ)(k:Int):List Int:=pR n.sg k
theorem ry {l:List pQ}{k:Int}{s:pQ}(h:s.kind=k):pR (l++[s]) k=pR l k++[s.width]:=by
 unfold pR
 rw[List.filter_append,List.map_append,List.filter_cons_of_pos (by simp[h])];rfl
theorem yl {l:List pQ}{k:Int}{s:pQ}(h:s.kind≠k):pR (l++[s]) k=pR l k:=by
 unfold pR
 rw[List.filter_append,List.map_append,List.filter_cons_of_neg (by simp[h])];simp
theorem pq (l:List pQ)(k:Int):(pR l k).length<=l.length:=by
 unfold pR
 rw[List.length_map]
 exact List.length_filter_le _ _
theorem GX {l:List pQ}{k:Int}{z:Int}(h:z∈pR l k):∃s,s∈l/\s.kind=k/\s.width=z:=by
 unfold pR at h
 obtain⟨s,h1,h2⟩:=List.mem_map.1 h
 rw[List.mem_filter] at h1
 exact⟨s,h1.1,of_decide_eq_true h1.2,h2⟩
def cT (l:List Int):Int:=l.foldl (· + ·) 0
theorem oI (l:List Int)(z:Int):cT (l++[z])=cT l+z:=by unfold cT;rw[List.foldl_append];rfl
def pt (n:aQ):Nat->Int
 |0=>0
 |i+1=>pt n i+l5 n (n.ms.getD i default).out
structure ch (n:aQ):Prop where
 ev:(gQ n).isSome=true
 wid:∀i,i<n.sg.length->(n.sg.getD i default).width≠0
 par:∀i,i<n.aP.length->¬∃o,o∈(n.aP.getD i default).ops/\o.kind=1
 ms:∀i,i<n.ms.length->l5 n (n.ms.getD i default).addr=2/\l5 n (n.ms.getD i default).write=1/\l5 n (n.ms.getD i default).data=l5 n (n.ms.getD i default).out
 s0:cT (ee n 0)<=8
 s1:cT (ee n 1)<=8
 s3:cT (ee n 3)+pt n n.ms.length<=12
noncomputable def fB (n:aQ):Bool:=pB (ch n)
noncomputable def Lf (n:aQ):List Nat×Bool:=match gQ n with
 |some l=>(l,true)
 |none=>([],false)
theorem mV {n:aQ}{l:List Nat}(h:gQ n=some l):Lf n=(l,true):=by unfold Lf;rw[h]
theorem lB {n:aQ}(h:gQ n=none):Lf n=([],false):=by unfold Lf;rw[h]
def cJ (l:List Nat):List Int:=l.map fun(i:Nat)=>(i:Int)
theorem kR (l:List Nat):(cJ l).length=l.length:=by simp[cJ]
theorem mr (l:List Nat)(i:Nat):(cJ l).getD i default=((l.getD i 0:Nat):Int):=by
 simp only[cJ,List.getD_eq_getElem?_getD,List.getElem?_map]
 cases l[i]?<;>rfl
end Go.Xw
end
section
namespace Go.Xw
open Go.RowKit
theorem cG {α:Type}[Inhabited α]{X:List α}{i j:Nat}{y:α}(hi:i<X.length):(X.set i y).getD j default=if j=i then y else X.getD j default:=by
 simp only[List.getD_eq_getElem?_getD,List.getElem?_set]
 by_cases h:i=j
 ·subst h;simp[hi]
 ·rw[if_neg h,if_neg (fun e=>h e.symm)]
theorem dm {α:Type}[Inhabited α]{xs:List α}{i:Nat}(h:i<xs.length):xs.take (i+1)=xs.take i++[xs.getD i default]:=by
 rw[List.take_succ_eq_append_getElem h]
 simp[List.getD_eq_getElem?_getD,h]
theorem u7 {α:Type}[Inhabited α]{X:List α}{i:Nat}(h:i<X.length):X.getD i default∈X:=by
 rw[List.getD_eq_getElem?_getD,List.getElem?_eq_getElem h];exact List.getElem_mem h
structure cL (α:Type) where
 ins:List α
 ia:Option Addr
 ic:Nat
instance {α:Type}:Inhabited (cL α):=⟨⟨[],none,0⟩⟩
def jk {α:Type}(r:cL α):List Value:=[.slice r.ia r.ins.length r.ic]
instance eRo_ok {α:Type}:bX (jk (α:=α)) 1:=⟨fun _=>rfl,fun x u hu=>by simp[jk] at hu;subst hu;rfl⟩
def aJ {α:Type}(R:List (cL α)):List (List α):=R.map cL.ins
theorem fg {α:Type}(R:List (cL α)):(aJ R).length=R.length:=by simp[aJ]
theorem bk {α:Type}(R:List (cL α))(i:Nat):(aJ R).getD i default=(R.getD i default).ins:=by
 simp only[aJ,List.getD_eq_getElem?_getD,List.getElem?_map]
 cases R[i]?<;>rfl
def cC {α:Type}(e:TypeId)(s:Nat)(enc:α->List Value)(R:List (cL α)):bg:=rM (R.map fun r=>rO e s enc r.ia r.ic r.ins)
section
variable {α:Type} {e:TypeId} {s:Nat} {enc:α->List Value} {w0 w w':World} {L:List bg} {R:List (cL α)}
theorem rz (h:Hp w0 w L):Hp w0 w (cC e s enc ([]:List (cL α))::L):=Hp.pack (Rs:=[]) h
theorem rA {y:cL α}(h:Hp w0 w (rO e s enc y.ia y.ic y.ins::cC e s enc R::L)):Hp w0 w (cC e s enc (R++[y])::L):=by
 have h1:Hp w0 w (R.map (fun r=>rO e s enc r.ia r.ic r.ins)++(rO e s enc y.ia y.ic y.ins::L)):=h.f1.unpack
 refine Hp.pack (Hp.perm h1 ?_)
 simp only[List.map_append,List.map_cons,List.map_nil,List.append_assoc]
 exact .refl _
theorem Fk {y:cL α}(h:Hp w0 w (cC e s enc R::L))(hy:Hp w w' [rO e s enc y.ia y.ic y.ins]):Hp w0 w' (cC e s enc (R++[y])::L):=rA (h.bJ hy)
theorem sV:∀(n:Nat),Hp w0 w L->Hp w0 w (cC e s enc (List.replicate n (⟨[],none,0⟩:cL α))::L)
 |0,h=>rz h
 |n+1,h=>by
  rw[List.replicate_succ']
  exact Fk (sV n h) ((Hp.nil w).eH (Ext.refl _) (dk.nil _ _ _ _ _))
theorem oJ (h:Hp w0 w (cC e s enc R::L)){i:Nat}(hi:i<R.length):
  ∃Q,Hp w0 w (rO e s enc (R.getD i default).ia (R.getD i default).ic (R.getD i default).ins::Q::L)/\∀w' L' y,Hp w0 w' (rO e s enc y.ia y.ic y.ins::Q::L')->Hp w0 w' (cC e s enc (R.set i y)::L'):=by
 obtain⟨Q,h1,h2⟩:=Hp.NL (i:=i) (R:=rO e s enc (R.getD i default).ia (R.getD i default).ic (R.getD i default).ins) h (by
  rw[List.getElem?_map,List.getElem?_eq_getElem hi,List.getD_eq_getElem?_getD,List.getElem?_eq_getElem hi];rfl)
 refine⟨Q,h1,fun w' L' y hy=> ?_⟩
 have h3:=h2 w' _ _ hy
 unfold cC
 rw[List.map_set]
 exact h3
end
class kq (w0:World)(L:List bg){α:Type}[Inhabited α](s:outParam Nat)(enc:outParam (α->List Value))(R:List (cL α)):Prop where
 h:∀w,Hp w0 w L->∀r,r∈R->Sl w r.ia r.ins.length s (fL enc r.ins)
instance kq.head {w0:World}{L:List bg}{α:Type}[Inhabited α]{e:TypeId}{s:Nat}{enc:α->List Value}[he:bX enc s]{R:List (cL α)}:kq w0 (cC e s enc R::L) s enc R:=
 ⟨fun w hp r hr=>dk.sl (hp.g0 (rO e s enc r.ia r.ic r.ins) (List.mem_map.2 ⟨r,hr,rfl⟩)) he.len⟩
instance kq.tail {w0:World}{L:List bg}{A:bg}{α:Type}[Inhabited α]{s:Nat}{enc:α->List Value}{R:List (cL α)}[h:kq w0 L s enc R]:kq w0 (A::L) s enc R:=⟨fun w hp=>h.h w hp.drop⟩
theorem kq.at_ {w0:World}{L:List bg}{α:Type}[Inhabited α]{s:Nat}{enc:α->List Value}{R:List (cL α)}(h:kq w0 L s enc R){i:Nat}(hi:i<R.length):gm w0 L (R.getD i default).ia s enc (R.getD i default).ins:=
 ⟨fun w hp=>h.h w hp _ (u7 hi)⟩
def VX (s:ByteArray):List Value:=[.string s]
instance Xb:bX VX 1:=⟨fun _=>rfl,fun x u hu=>by simp[VX] at hu;subst hu;rfl⟩
end Go.Xw
end
