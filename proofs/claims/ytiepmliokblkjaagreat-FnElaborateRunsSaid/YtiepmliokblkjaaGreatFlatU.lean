/- The reference's order of assignments and its check of flat modules; each under its stated conditions. -/
import Derived.Test.YtiepmliokblkjaaGreatBrf
import Derived.Test.YtiepmliokblkjaaGreatFlatT
set_option linter.all false
namespace Go.Xw
def pE (ops:List dK)(O:List Bool):Bool:=ops.any fun o=>(decide (o.kind=2)||decide (o.kind=3))&&O.getD o.a.toNat default
theorem pF {ops:List dK}{O:List Bool}:pE ops O=true↔∃o,o∈ops/\(o.kind=2\/o.kind=3)/\O.getD o.a.toNat default=true:=by
 unfold pE
 rw[List.any_eq_true]
 constructor
 ·rintro⟨o,h1,h2⟩
  simp only[Bool.and_eq_true,Bool.or_eq_true,decide_eq_true_eq] at h2
  exact⟨o,h1,h2⟩
 ·rintro⟨o,h1,h2⟩
  exact⟨o,h1,by simp only[Bool.and_eq_true,Bool.or_eq_true,decide_eq_true_eq];exact h2⟩
theorem Ij {ops:List dK}{O:List Bool}(h:∀j,j<ops.length->¬(((ops.getD j default).kind=2\/(ops.getD j default).kind=3)/\O.getD (ops.getD j default).a.toNat default=true)):pE ops O=false:=by
 cases hr:pE ops O with
 |false=>rfl
 |true=>
  obtain⟨o,ho,h2⟩:=pF.1 hr
  obtain⟨j,hj,rfl⟩:=List.getElem_of_mem ho
  have:=h j hj
  rw[List.getD_eq_getElem?_getD,List.getElem?_eq_getElem hj] at this
  exact absurd h2 this
def Nb (ops:List dK)(m:Int):Prop:=∀o,o∈ops->(o.kind=2\/o.kind=3)->0<=o.a/\o.a<m
theorem fU.rds {ops:List dK}{m:Int}(h:fU ops m):Nb ops m:=fun o ho hk=>by
 obtain⟨i,hi,he⟩:=List.getElem_of_mem ho
 have h2:=(h.each i hi).2
 rw[List.getD_eq_getElem?_getD,List.getElem?_eq_getElem hi] at h2
 have h2:e6 ops[i] m:=h2
 rw[he] at h2
 unfold e6 at h2
 rcases hk with hk|hk
 ·rw[if_neg (by omega),if_pos hk] at h2;exact h2.1
 ·rw[if_neg (by omega),if_neg (by omega),if_pos hk] at h2;exact h2.1
theorem D0 {n:aQ}{todo:List Nat}{i:Nat}(h:Nb (opsL n i) n.sg.length):pE (opsL n i) (AM n todo)= !iK n todo i:=by
 have key:pE (opsL n i) (AM n todo)=true↔BP n todo (opsL n i):=by
  rw[pF]
  unfold BP
  constructor
  ·rintro⟨o,h1,h2,h3⟩
   have hb:=h o h1 h2
   have h4:=(ui (todo:=todo) (s:=o.a.toNat) (by omega)).1 h3
   rw[Int.toNat_of_nonneg hb.1] at h4
   exact⟨o,h1,h2,h4⟩
  ·rintro⟨o,h1,h2,h3⟩
   have hb:=h o h1 h2
   refine⟨o,h1,h2,(ui (todo:=todo) (s:=o.a.toNat) (by omega)).2 ?_⟩
   rw[Int.toNat_of_nonneg hb.1]
   exact h3
 have k2:=H7 (n:=n) (todo:=todo) (i:=i)
 cases hf:iK n todo i with
 |true=>
  cases hw:pE (opsL n i) (AM n todo) with
  |false=>rfl
  |true=>exact absurd (key.1 hw) (k2.1 hf)
 |false=>
  cases hw:pE (opsL n i) (AM n todo) with
  |true=>rfl
  |false=>
   have:iK n todo i=true:=k2.2 fun hh=>by rw[key.2 hh] at hw;exact Bool.noConfusion hw
   rw[hf] at this;exact Bool.noConfusion this
end Go.Xw
namespace Go.Proofs
open Go.Xw
set_option maxRecDepth 100000
set_option maxHeartbeats 2000000
attribute [local irreducible] ax aE
theorem dJ (x:bm)(k:Int)(w0:World)(hM:iJ w0 x)(hl:x.sg.length<=30):
  bN Tryz.prog 28 [x.v,.int .i64 k] w0 (fun v w=>∃b c,v= .slice b (ee x.n k).length c/\Hp w0 w [rO 3 1 eI b c (ee x.n k)]):=by
 refine eu Tryz.U1 ?_;intro C hp;skip;refine bP hp ?_;intro w b2 hx hp;refine az ?_;(repeat(first|(refine ah ?_;refine aI hp ?_)|(refine bK ?_;refine gG hp ?_;intro w _ hx hp;refine az ?_)))
 refine ae (fun hg=>False.elim (by omega)) (fun _=> ?_);refine aM ?_
 refine eg [1,2,5,6] (fun(i:Nat) (b:Option Addr) (c:Nat)=>[(1,.int .i64 k),(2,.pointer (some ⟨b2,0,none⟩)),(5,.slice b (pR (x.sg.take i) k).length c),(6,.int .i64 (i:Int))])
  (fun i b c w'=>i<=x.sg.length/\Hp w0 w' [rO 3 1 eI b c (pR (x.sg.take i) k),rB b2 41 x.cs]) (fun i _ _=>x.sg.length-i) 0 _ _ rfl ⟨by omega,hp⟩ ?_
 clear hp
 rintro i b c w1 ⟨hi,hp⟩ IH C
 have AL:=po (x.sg.take i) k
 rw[List.length_take] at AL
 obtain⟨P,hP⟩:∃P,P=pR (x.sg.take i) k:=⟨_,rfl⟩
 rw[<-hP] at hp AL⊢
 refine bL ?_;refine aI hp ?_
 apply ae<;>intro bD
 ·have aF:i<x.sg.length:=by omega
  have eT:=dm aF
  refine aN ?_;(repeat(refine ah ?_;first|refine aI hp ?_|refine dg hp ?_))
  apply ae<;>intro hk
  ·have eN:pR (x.sg.take (i+1)) k=P++[(x.sg.getD i default).width]:=by rw[eT,rA hk,<-hP]
   refine aN ?_;(repeat(first|(refine ah ?_;first|refine aI hp ?_|refine dg hp ?_)|(refine bK ?_;refine gG hp ?_;intro w _ hx hp;refine az ?_)))
   refine gT hp ?_;intro b' c' w hp bZ;refine az ?_
   refine IH (i+1) b' c' _ _ _ (by omega) (by rw[eN];rfl) ⟨by omega,?_⟩
   rw[eN]
   exact hp.drop
  ·have eN:pR (x.sg.take (i+1)) k=P:=by rw[eT,yn hk,<-hP]
   refine aM ?_
   refine IH (i+1) b c _ _ _ (by omega) (by rw[eN];rfl) ⟨by omega,?_⟩
   rw[eN]
   exact hp
 ·refine aM ?_;refine aq ?_
  obtain rfl:i=x.sg.length:=by omega
  have eA:P=ee x.n k:=by rw[hP,List.take_length];rfl
  rw[eA] at hp⊢
  exact⟨b,c,rfl,hp.tk 1⟩
theorem FE (a:Option Addr)(c n:Nat)(ops:List dK)(hn:ops.length=n)(b:Option Addr)(cb m:Nat)(O:List Bool)(hm:O.length=m)(w0:World)(hR:Rd w0 a 3 kf ops)(hB:Rd w0 b 1 eB O)(hl:ops.length<=1048576)(Nc:O.length<=1048576)(hr:Nb ops O.length):
  bN Tryz.prog 76 [.slice a n c,.slice b m cb] w0 (fun v w=>v= .bool (pE ops O)/\Ext w0 w):=by
 subst hn
 subst hm
 refine eu Tryz.Vp ?_;intro C hp
 refine aR [0,1,5] (fun(i:Nat)=>[(0,.slice a ops.length c),(1,.slice b O.length cb),(5,.int .i64 (i:Int))])
  (fun i w'=>(i<=ops.length/\∀j,j<i->¬(((ops.getD j default).kind=2\/(ops.getD j default).kind=3)/\O.getD (ops.getD j default).a.toNat default=true))/\Hp w0 w' []) (fun i=>ops.length-i) 0 rfl ⟨⟨by omega,fun j hj=>by omega⟩,hp⟩ ?_
 clear hp
 rintro i w1 ⟨⟨hi,dL⟩,hp⟩ IH C
 refine bL ?_
 apply ae<;>intro bD
 ·have aF:i<ops.length:=by omega
  have Li:=hr _ (aK aF)
  refine aN ?_;refine dg hp ?_
  (first|apply fx|apply cf)<;>intro h2 e<;>rw[e]<;>clear e;all_goals((repeat(first|(refine aG ?_;first|refine aO ?_|refine ba ?_)|(refine ah ?_;first|refine dg hp ?_|refine ik hp ?_))))
  ·have hb:=Li (.inl h2)
   skip
   cases hv:O.getD (ops.getD i default).a.toNat default with
   |true=>
    refine aN ?_;refine aq ?_
    exact⟨by rw[pF.2 ⟨_,aK aF,.inl h2,hv⟩],hp.x⟩
   |false=>
    refine aM ?_
    refine IH (i+1) _ _ _ (by omega) rfl ⟨⟨by omega,fun j hj=> ?_⟩,hp⟩
    by_cases dC:j<i
    ·exact dL j dC
    ·obtain rfl:j=i:=by omega
     exact fun h=>by rw[hv] at h;exact Bool.noConfusion h.2
  ·(first|apply fx|apply cf)<;>intro h3 e<;>rw[e]<;>clear e;all_goals((repeat(first|(refine aG ?_;first|refine aO ?_|refine ba ?_)|(refine ah ?_;first|refine dg hp ?_|refine ik hp ?_))))
   ·have hb:=Li (.inr h3)
    skip
    cases hv:O.getD (ops.getD i default).a.toNat default with
    |true=>
     refine aN ?_;refine aq ?_
     exact⟨by rw[pF.2 ⟨_,aK aF,.inr h3,hv⟩],hp.x⟩
    |false=>
     refine aM ?_
     refine IH (i+1) _ _ _ (by omega) rfl ⟨⟨by omega,fun j hj=> ?_⟩,hp⟩
     by_cases dC:j<i
     ·exact dL j dC
     ·obtain rfl:j=i:=by omega
      exact fun h=>by rw[hv] at h;exact Bool.noConfusion h.2
   ·refine aM ?_
    refine IH (i+1) _ _ _ (by omega) rfl ⟨⟨by omega,fun j hj=> ?_⟩,hp⟩
    by_cases dC:j<i
    ·exact dL j dC
    ·obtain rfl:j=i:=by omega
     exact fun h=>by rcases h.1 with h|h;exact h2 h;exact h3 h
 ·refine aM ?_;refine aq ?_
  obtain rfl:i=ops.length:=by omega
  exact⟨by rw[Ij dL],hp.x⟩
theorem uj (a:Option Addr)(c n:Nat)(X:List Int)(hn:X.length=n)(w0:World)(hR:Rd w0 a 1 eI X)(hl:X.length<=30)(hb:∀i,i<X.length->0<=X.getD i default/\X.getD i default<=4):
  bN Tryz.prog 27 [.slice a n c] w0 (fun v w=>v= .int .i64 (cT X)/\Ext w0 w):=by
 subst hn
 refine eu Tryz.U0 ?_;intro C hp
 refine aR [0,3,4] (fun(i:Nat)=>[(0,.slice a X.length c),(3,.int .i64 (cT (X.take i))),(4,.int .i64 (i:Int))])
  (fun i w'=>(i<=X.length/\0<=cT (X.take i)/\cT (X.take i)<=4*i)/\Hp w0 w' []) (fun i=>X.length-i) 0 rfl ⟨⟨by omega,by simp[cT],by simp[cT]⟩,hp⟩ ?_
 clear hp
 rintro i w1 ⟨⟨hi,h0,h1⟩,hp⟩ IH C
 refine bL ?_
 apply ae<;>intro bD
 ·have aF:i<X.length:=by omega
  have OJ:=hb i aF
  have eN:cT (X.take (i+1))=cT (X.take i)+X.getD i default:=by rw[dm aF,oI]
  refine aN ?_;refine bb hp ?_
  exact IH (i+1) _ _ _ (by omega) (by rw[eN];rfl) ⟨⟨by omega,by omega,by omega⟩,hp⟩
 ·refine aM ?_;refine aq ?_
  obtain rfl:i=X.length:=by omega
  rw[List.take_length]
  exact⟨rfl,hp.x⟩
theorem lM (x:bm)(w0:World)(hM:iJ w0 x)(hS:qL x.n)(hW:qM x.n):
  bN Tryz.prog 29 [x.v] w0 (fun v w=>∃b c,v= .tuple ⟨[.slice b (Lg x.n).1.length c,.bool (Lg x.n).2]⟩/\Hp w0 w [rO 3 1 eI b c (cJ (Lg x.n).1)]):=by
 have jg:x.n.ins=[]↔x.ins=[]:=by show aU x.ins=[]↔_;unfold aU;rw[List.map_eq_nil_iff]
 have s4:x.ins.length<=1048576:=by have:=hS.ins;rw[x.RX] at this;exact this
 refine eu Tryz.U2 ?_;intro C hp;skip;refine bP hp ?_;intro w b1 hx hp;refine az ?_;(repeat(first|(refine ah ?_;refine aI hp ?_)|(refine bK ?_;refine gG hp ?_;intro w _ hx hp;refine az ?_)))
 by_cases rZ:x.ins=[]
 ·have pW:x.ins.length=0:=by rw[rZ];rfl
  refine iB (fun hg=>False.elim (by have hg:=of_decide_eq_true hg;omega)) (fun hg=> ?_);rw[hg];clear hg;(repeat(first|(refine aG ?_;refine aO ?_)|(refine ah ?_;refine aI hp ?_)))
  refine lX hp bm.cs [x] ?_;intro w bd hx hp;refine az ?_;(repeat(refine aO ?_))
  by_cases hm:aV x.n
  ·refine bQ hp Tryz.func75 ((qU (some ⟨bd,0,none⟩) 1 [x] rfl x rfl rZ _ hp.rd hp.mod hS hW).tt (cR.2 hm)) ?_;intro w hx hp;refine aO ?_
   refine aM ?_;refine aI hp ?_
   have hp:=hp.drop
   have l1:x.sg.length<=30:=hm.l1
   have l2:x.aP.length<=30:=by have:=hm.l2;rw[x.cC] at this;exact this
   have jL:∀T,(AM x.n T).length=x.sg.length:=fun T=>uh x.n T
   refine mG hp eB false rfl rfl rfl rfl (s:=1) rfl (by decide) rfl (by unfold maxLen;omega) (by show 1*_<=_;omega) ?_;intro w b5 hx hp;refine az ?_
   have e1:List.replicate x.sg.length false=AM x.n (uE x.n 0):=(M' x.n).symm
   rw[e1] at hp
   skip
   refine eg [1,4,5,6,7] (fun(i:Nat) (b:Option Addr) (c:Nat)=>[(1,.pointer (some ⟨b1,0,none⟩)),(4,.slice b 0 c),(5,.slice (some ⟨b5,0,none⟩) x.sg.length x.sg.length),(6,.int .i64 ((uE x.n i).length:Nat)),(7,.int .i64 (i:Int))])
    (fun i b c w'=>i<=x.aP.length/\Hp w0 w' [rO 4 1 eB (some ⟨b5,0,none⟩) x.sg.length (AM x.n (uE x.n i)),rO 3 1 eI b c ([]:List Int),rB b1 41 x.cs]) (fun i _ _=>x.aP.length-i) 0 _ _ rfl ⟨by omega,hp⟩ ?_
   clear hp
   rintro i b c w1 ⟨hi,hp⟩ IH C
   have hTl:=Hf x.n i
   have hO:=jL (uE x.n i)
   refine bL ?_;refine aI hp ?_
   apply ae<;>intro bD
   ·have aF:i<x.aP.length:=by omega
    have CJ:=hm.aP i (by rw[x.cC];exact aF)
    rw[p8] at CJ
    have Wm:dr x.n (dT x.n i):=by unfold dT;rw[p8];exact CJ.1
    have s8:=CJ.1
    unfold dr at s8
    change 0<=(x.aP.getD i default).tg/\(x.aP.getD i default).tg<x.sg.length at s8
    have wE:dT x.n i=(x.aP.getD i default).tg:=by unfold dT;rw[p8]
    have ek:aY x.n (dT x.n i)=(x.sg.getD (x.aP.getD i default).tg.toNat default).kind:=by rw[wE];rfl
    refine aN ?_
    refine j7 hp ?_;intro w hx hp;have hs:=hp;(repeat(refine ah ?_;first|refine dN ?_|refine lH rfl (by omega) rfl rfl rfl ?_|refine iC rfl (by omega) (by omega) rfl rfl rfl ?_))
    skip
    apply ae<;>intro hk
    ·have eT:uE x.n (i+1)=uE x.n i++[i]:=He (by rw[ek];exact hk)
     have eN:=Na (T:=uE x.n i) Wm
     rw[<-eT,wE] at eN
     have hTl2:(uE x.n (i+1)).length=(uE x.n i).length+1:=by rw[eT];simp
     refine aN ?_;(repeat(first|(refine ah ?_;first|refine aI hp ?_|refine dg hp ?_)|(refine aH ?_;refine ki hp rfl rfl rfl (by omega) (by decide) rfl rfl ?_;intro w hp;refine az ?_)))
     refine IH (i+1) b c _ _ _ (by omega) (by rw[hTl2];rfl) ⟨by omega,?_⟩
     rw[<-eN]
     exact hp
    ·have eT:uE x.n (i+1)=uE x.n i:=Kv (by rw[ek];exact Decidable.not_not.1 hk)
     refine aM ?_
     refine IH (i+1) b c _ _ _ (by omega) (by rw[eT];rfl) ⟨by omega,?_⟩
     rw[eT]
     exact hp
   ·refine aM ?_
    obtain rfl:i=x.aP.length:=by omega
    clear IH
    have e0:uE x.n x.aP.length=lv x.n:=by unfold uE lv;rw[x.cC]
    rw[e0] at hp hO hTl⊢
    refine jv [1,4,5,6] (fun(todo:List Nat) (out:List Nat) (oa:Option Addr) (oc:Nat)=>[(1,.pointer (some ⟨b1,0,none⟩)),(4,.slice oa (cJ out).length oc),(5,.slice (some ⟨b5,0,none⟩) x.sg.length x.sg.length),(6,.int .i64 (todo.length:Nat))])
     (fun todo out oa oc w'=>(qN x.n todo out/\rW x.n todo.length todo out=gQ x.n)/\Hp w0 w' [rO 4 1 eB (some ⟨b5,0,none⟩) x.sg.length (AM x.n todo),rO 3 1 eI oa oc (cJ out),rB b1 41 x.cs]) (fun todo _ _ _=>todo.length) (lv x.n) [] b c rfl ⟨⟨ym x.n,(tZ (jg.2 rZ) hm).symm⟩,hp⟩ ?_
    clear hp
    rintro todo out oa oc w1 ⟨⟨Ce,qb⟩,hp⟩ IH C
    have Ku:todo.length<=x.aP.length:=by have:=Ce.len;omega
    have hol2:out.length<=x.aP.length:=by have:=Ce.len;omega
    have eo:=kQ out
    have hO:=jL todo
    refine bL ?_
    apply ae<;>intro oh
    ·have htp:0<todo.length:=by omega
     refine aN ?_
     refine gK [1,4,5,6,8,9] (fun(i:Nat) (nx:Int)=>[(1,.pointer (some ⟨b1,0,none⟩)),(4,.slice oa (cJ out).length oc),(5,.slice (some ⟨b5,0,none⟩) x.sg.length x.sg.length),(6,.int .i64 (todo.length:Nat)),(8,.int .i64 nx),(9,.int .i64 (i:Int))])
      (fun i nx w'=>(i<=x.aP.length/\((nx= -1/\∀j,j<i->¬(j∈todo/\iK x.n todo j=true))\/∃q:Nat,nx=q/\q∈todo/\iK x.n todo q=true/\∀j,j<q->¬(j∈todo/\iK x.n todo j=true)))/\Hp w0 w' [rO 4 1 eB (some ⟨b5,0,none⟩) x.sg.length (AM x.n todo),rO 3 1 eI oa oc (cJ out),rB b1 41 x.cs]) (fun i _=>x.aP.length-i) 0 (-1) rfl ⟨⟨by omega,.inl ⟨rfl,fun j hj=>by omega⟩⟩,hp⟩ ?_
     clear hp
     rintro i nx w1 ⟨⟨hi,RC⟩,hp⟩ M5 C
     refine bL ?_;refine aI hp ?_
     (first|apply fx|apply cf)<;>intro bD e<;>rw[e]<;>clear e;all_goals((repeat(refine aG ?_;first|refine aO ?_|refine ba ?_)))
     ·have aF:i<x.aP.length:=by omega
      rcases RC with⟨rfl,Ey⟩|⟨q,rfl,D1,R8,hq3⟩
      ·have CJ:=hm.aP i (by rw[x.cC];exact aF)
       rw[p8] at CJ
       have Wm:dr x.n (dT x.n i):=by unfold dT;rw[p8];exact CJ.1
       have s8:=CJ.1
       unfold dr at s8
       change 0<=(x.aP.getD i default).tg/\(x.aP.getD i default).tg<x.sg.length at s8
       have wE:dT x.n i=(x.aP.getD i default).tg:=by unfold dT;rw[p8]
       have AN:opsL x.n i=(x.aP.getD i default).ops:=by unfold opsL;rw[p8]
       have Xm:=hM.aP.at_ aF
       have Fz:(x.aP.getD i default).ops.length<=1048576:=by have:=hS.ops i (by rw[x.cC];exact aF);rw[x.mR] at this;exact this
       have Wn:Nb (x.aP.getD i default).ops (AM x.n todo).length:=by rw[hO];exact CJ.2.2.rds
       have hog:(AM x.n todo).getD (x.aP.getD i default).tg.toNat default=true↔i∈todo:=by
        rw[ui (by show _<x.sg.length;omega),Int.toNat_of_nonneg s8.1,<-wE]
        exact DF hm Ce (by rw[x.cC];exact aF)
       refine aN ?_;(repeat(refine ah ?_;first|refine aI hp ?_|refine dg hp ?_|refine ik hp ?_))
       cases hv:(AM x.n todo).getD (x.aP.getD i default).tg.toNat default with
       |false=>
        (repeat(refine ba ?_))
        refine aM ?_
        refine M5 (i+1) (-1) _ _ _ (by omega) rfl ⟨⟨by omega,.inl ⟨rfl,fun j hj=> ?_⟩⟩,hp⟩
        by_cases dC:j<i
        ·exact Ey j dC
        ·obtain rfl:j=i:=by omega
         exact fun h=>by rw[hog.2 h.1] at hv;exact Bool.noConfusion hv
       |true=>
        have vj:=hog.1 hv
        (repeat(first|(refine aG ?_;refine aO ?_)|(refine ah ?_;first|refine aI hp ?_|refine dg hp ?_)))
        refine bQ hp Tryz.func76 (FE _ _ _ (x.aP.getD i default).ops rfl (some ⟨b5,0,none⟩) x.sg.length x.sg.length (AM x.n todo) hO _ hp.rd hp.rd Fz (by omega) Wn) ?_;intro w hx hp;refine aO ?_
        rw[<-AN,D0 (by rw[AN];exact CJ.2.2.rds)]
        cases hf:iK x.n todo i with
        |true=>
         refine aN ?_
         exact M5 (i+1) (i:Int) _ _ _ (by omega) rfl ⟨⟨by omega,.inr ⟨i,rfl,vj,hf,Ey⟩⟩,hp⟩
        |false=>
         refine aM ?_
         refine M5 (i+1) (-1) _ _ _ (by omega) rfl ⟨⟨by omega,.inl ⟨rfl,fun j hj=> ?_⟩⟩,hp⟩
         by_cases dC:j<i
         ·exact Ey j dC
         ·obtain rfl:j=i:=by omega
          exact fun h=>by rw[hf] at h;exact Bool.noConfusion h.2
      ·refine ae (fun hg=>False.elim (by omega)) (fun _=> ?_);refine aM ?_
       clear M5
       have Kj:=Ce.MG q D1
       rw[x.cC] at Kj
       have M7:=Kj.1
       have CJ:=hm.aP q (by rw[x.cC];exact M7)
       rw[p8] at CJ
       have s8:=CJ.1
       unfold dr at s8
       change 0<=(x.aP.getD q default).tg/\(x.aP.getD q default).tg<x.sg.length at s8
       have wE:dT x.n q=(x.aP.getD q default).tg:=by unfold dT;rw[p8]
       obtain⟨k,u7,Wj,R5⟩:=AB Ce D1 R8 hq3
       have IM:(todo.eraseIdx k).length=todo.length-1:=List.length_eraseIdx_of_lt u7
       have eN:=Hg hm Ce u7
       rw[R5,wE] at eN
       refine ae (fun hg=>False.elim (by omega)) (fun _=> ?_);refine aM ?_;refine gG hp ?_;intro w _ hx hp;refine az ?_
       refine gT hp ?_;intro M8 pD w hp bZ;refine az ?_;(repeat(first|(refine ah ?_;first|refine aI hp ?_|refine dg hp ?_)|(refine aH ?_;refine ki hp rfl rfl rfl (by omega) (by decide) rfl rfl ?_;intro w hp;refine az ?_)))
       have Wi:cJ out++[(q:Int)]=cJ (out++[todo.getD k 0]):=by rw[pC,R5]
       rw[Wi] at hp⊢
       rw[eN] at hp
       refine IH (todo.eraseIdx k) (out++[todo.getD k 0]) M8 pD _ _ _ (by omega) ?_ ⟨⟨Ce.step u7,?_⟩,?_⟩
       ·rw[IM,show((todo.length-1:Nat):Int)=(todo.length:Int)-1 by omega];rfl
       ·rw[<-qb,show todo.length=(todo.length-1)+1 by omega,IM,rW,Wj]
       ·exact hp.drop
     ·obtain rfl:i=x.aP.length:=by omega
      refine aM ?_
      rcases RC with⟨rfl,Ey⟩|⟨q,rfl,D1,R8,hq3⟩
      ·clear M5 IH
       have Kw:todo.findIdx? (iK x.n todo)=none:=AD Ce fun j hj=>Ey j (by rw[x.cC] at hj;exact hj)
       have he:gQ x.n=none:=by
        rw[<-qb,show todo.length=(todo.length-1)+1 by omega,rW,Kw]
       rw[lA he]
       refine aN ?_;refine gG hp ?_;intro w _ hx hp;refine az ?_;refine aq ?_
       exact⟨_,_,rfl,hp.tk 1⟩
      ·clear M5
       have Kj:=Ce.MG q D1
       rw[x.cC] at Kj
       have M7:=Kj.1
       have CJ:=hm.aP q (by rw[x.cC];exact M7)
       rw[p8] at CJ
       have s8:=CJ.1
       unfold dr at s8
       change 0<=(x.aP.getD q default).tg/\(x.aP.getD q default).tg<x.sg.length at s8
       have wE:dT x.n q=(x.aP.getD q default).tg:=by unfold dT;rw[p8]
       obtain⟨k,u7,Wj,R5⟩:=AB Ce D1 R8 hq3
       have IM:(todo.eraseIdx k).length=todo.length-1:=List.length_eraseIdx_of_lt u7
       have eN:=Hg hm Ce u7
       rw[R5,wE] at eN
       refine ae (fun hg=>False.elim (by omega)) (fun _=> ?_);refine aM ?_;refine gG hp ?_;intro w _ hx hp;refine az ?_
       refine gT hp ?_;intro M8 pD w hp bZ;refine az ?_;(repeat(first|(refine ah ?_;first|refine aI hp ?_|refine dg hp ?_)|(refine aH ?_;refine ki hp rfl rfl rfl (by omega) (by decide) rfl rfl ?_;intro w hp;refine az ?_)))
       have Wi:cJ out++[(q:Int)]=cJ (out++[todo.getD k 0]):=by rw[pC,R5]
       rw[Wi] at hp⊢
       rw[eN] at hp
       refine IH (todo.eraseIdx k) (out++[todo.getD k 0]) M8 pD _ _ _ (by omega) ?_ ⟨⟨Ce.step u7,?_⟩,?_⟩
       ·rw[IM,show((todo.length-1:Nat):Int)=(todo.length:Int)-1 by omega];rfl
       ·rw[<-qb,show todo.length=(todo.length-1)+1 by omega,IM,rW,Wj]
       ·exact hp.drop
    ·refine aM ?_;refine aq ?_
     obtain rfl:todo=[]:=List.length_eq_zero_iff.1 (by omega)
     have he:gQ x.n=some out:=by rw[<-qb];rfl
     rw[mV he]
     exact⟨oa,oc,by rw[eo],hp.drop.tk 1⟩
  ·refine bQ hp Tryz.func75 ((qU (some ⟨bd,0,none⟩) 1 [x] rfl x rfl rZ _ hp.rd hp.mod hS hW).ff (bt hm)) ?_;intro w hx hp;refine aO ?_
   have he:=lA (ub (n:=x.n) (fun h=>hm h.2))
   rw[he]
   refine aN ?_;refine aq ?_
   exact⟨_,_,rfl,hp.drop.tk 1⟩
 ·have pW:0<x.ins.length:=List.length_pos_iff.2 rZ
  refine iB (fun hg=> ?_) (fun hg=>False.elim (by have hg:=of_decide_eq_false hg;omega));rw[hg];clear hg;(repeat(refine ba ?_))
  have he:=lA (ub (n:=x.n) (fun h=>rZ (jg.1 h.1)))
  rw[he]
  refine aN ?_;refine aq ?_
  exact⟨_,_,rfl,hp.tk 1⟩
theorem ja (x:bm)(w0:World)(hM:iJ w0 x)(hS:qL x.n)(hW:qM x.n):
  bN Tryz.prog 26 [x.v] w0 (fun v w=>v= .bool (fB x.n)/\Ext w0 w):=by
 refine eu Tryz.UZ ?_;intro C hp;skip;refine bP hp ?_;intro w b1 hx hp;refine az ?_;refine aI hp ?_
 refine cy Tryz.func29 (lM x _ hp.mod hS hW) ?_;rintro _ w ⟨be,ce,rfl,hq⟩;have hx:=hq.x;have hp:=hp.bJ hq;refine az ?_
 cases qb:gQ x.n with
 |none=>
  rw[lA qb]
  have cQ:¬ch x.n:=fun h=>by have:=h.ev;rw[qb] at this;exact Bool.noConfusion this
  refine aN ?_;refine aq ?_
  exact⟨by unfold fB;rw[bt cQ],hp.x⟩
 |some l=>
  obtain⟨⟨_,hm⟩,_,_⟩:=iW qb
  rw[mV qb] at hp⊢
  have l2:x.aP.length<=30:=by have:=hm.l2;rw[x.cC] at this;exact this
  have l1:x.sg.length<=30:=hm.l1
  have l3:x.ms.length<=2:=hm.l3
  have hp:Hp w0 _ [rB b1 41 x.cs]:=hp.drop
  refine aM ?_
  refine aR [1,5] (fun(i:Nat)=>[(1,.pointer (some ⟨b1,0,none⟩)),(5,.int .i64 (i:Int))])
   (fun i w'=>(i<=x.sg.length/\∀j,j<i->(x.sg.getD j default).width≠0)/\Hp w0 w' [rB b1 41 x.cs]) (fun i=>x.sg.length-i) 0 rfl ⟨⟨by omega,fun j hj=>by omega⟩,hp⟩ ?_
  clear hp
  rintro i w1 ⟨⟨hi,Ky⟩,hp⟩ IH C
  refine bL ?_;refine aI hp ?_
  apply ae<;>intro bD
  ·have aF:i<x.sg.length:=by omega
   refine aN ?_;(repeat(refine ah ?_;first|refine aI hp ?_|refine dg hp ?_))
   apply ae<;>intro hz
   ·have cQ:¬ch x.n:=fun h=>h.wid i aF hz
    refine aN ?_;refine aq ?_
    exact⟨by unfold fB;rw[bt cQ],hp.x⟩
   ·refine aM ?_
    refine IH (i+1) _ _ _ (by omega) rfl ⟨⟨by omega,fun j hj=> ?_⟩,hp⟩
    by_cases dC:j<i
    ·exact Ky j dC
    ·obtain rfl:j=i:=by omega
     exact hz
  ·refine aM ?_
   obtain rfl:i=x.sg.length:=by omega
   clear IH
   refine aR [1,6] (fun(i:Nat)=>[(1,.pointer (some ⟨b1,0,none⟩)),(6,.int .i64 (i:Int))])
    (fun i w'=>(i<=x.aP.length/\∀j,j<i->¬∃o,o∈(x.aP.getD j default).ops/\o.kind=1)/\Hp w0 w' [rB b1 41 x.cs]) (fun i=>x.aP.length-i) 0 rfl ⟨⟨by omega,fun j hj=>by omega⟩,hp⟩ ?_
   clear hp
   rintro i w1 ⟨⟨hi,IQ⟩,hp⟩ IH C
   refine bL ?_;refine aI hp ?_
   apply ae<;>intro bD
   ·have aF:i<x.aP.length:=by omega
    have Xm:=hM.aP.at_ aF
    have Fz:(x.aP.getD i default).ops.length<=1048576:=by have:=hS.ops i (by rw[x.cC];exact aF);rw[x.mR] at this;exact this
    refine aN ?_
    refine aR [1,6,7] (fun(q:Nat)=>[(1,.pointer (some ⟨b1,0,none⟩)),(6,.int .i64 (i:Int)),(7,.int .i64 (q:Int))])
     (fun q w'=>(q<=(x.aP.getD i default).ops.length/\∀j,j<q->((x.aP.getD i default).ops.getD j default).kind≠1)/\Hp w0 w' [rB b1 41 x.cs]) (fun q=>(x.aP.getD i default).ops.length-q) 0 rfl ⟨⟨by omega,fun j hj=>by omega⟩,hp⟩ ?_
    clear hp
    rintro q w1 ⟨⟨hq,S1⟩,hp⟩ kE C
    refine bL ?_;(repeat(refine ah ?_;first|refine aI hp ?_|refine dg hp ?_))
    apply ae<;>intro jK
    ·have fK:q<(x.aP.getD i default).ops.length:=by omega
     refine aN ?_;(repeat(refine ah ?_;first|refine aI hp ?_|refine dg hp ?_))
     apply ae<;>intro BA
     ·have cQ:¬ch x.n:=fun h=>h.par i (by rw[x.cC];exact aF) ⟨_,by rw[x.mR];exact aK fK,BA⟩
      refine aN ?_;refine aq ?_
      exact⟨by unfold fB;rw[bt cQ],hp.x⟩
     ·refine aM ?_
      refine kE (q+1) _ _ _ (by omega) rfl ⟨⟨by omega,fun j hj=> ?_⟩,hp⟩
      by_cases dC:j<q
      ·exact S1 j dC
      ·obtain rfl:j=q:=by omega
       exact BA
    ·obtain rfl:q=(x.aP.getD i default).ops.length:=by omega
     clear kE
     refine aM ?_
     refine IH (i+1) _ _ _ (by omega) rfl ⟨⟨by omega,fun j hj=> ?_⟩,hp⟩
     by_cases dC:j<i
     ·exact IQ j dC
     ·obtain rfl:j=i:=by omega
      rintro⟨o,ho,hk⟩
      obtain⟨y,hy,rfl⟩:=List.getElem_of_mem ho
      have:=S1 y hy
      rw[List.getD_eq_getElem?_getD,List.getElem?_eq_getElem hy] at this
      exact this hk
   ·refine aM ?_;refine aI hp ?_
    obtain rfl:i=x.aP.length:=by omega
    clear IH
    have p3:=DZ hm 3
    have q3:=FA _ p3.2 _ (Nat.le_refl _)
    rw[List.take_length] at q3
    refine cy Tryz.func28 (dJ x 3 _ hp.mod l1) ?_;rintro _ w ⟨bw,cw,rfl,hq⟩;have hx:=hq.x;have hp:=hp.bJ hq;refine az ?_
    refine bQ hp Tryz.func27 (uj bw cw _ (ee x.n 3) rfl _ hp.rd p3.1 p3.2) ?_;intro w hx hp
    refine aR [1,8,9] (fun(i:Nat)=>[(1,.pointer (some ⟨b1,0,none⟩)),(8,.int .i64 (cT (ee x.n 3)+pq x.n i)),(9,.int .i64 (i:Int))])
     (fun i w'=>(i<=x.ms.length/\∀j,j<i->l6 x.n (x.ms.getD j default).addr=2/\l6 x.n (x.ms.getD j default).write=1/\l6 x.n (x.ms.getD j default).data=l6 x.n (x.ms.getD j default).out)/\Hp w0 w' [rB b1 41 x.cs]) (fun i=>x.ms.length-i) 0 (by rw[show pq x.n 0=0 from rfl,Int.add_zero];rfl) ⟨⟨by omega,fun j hj=>by omega⟩,hp.drop⟩ ?_
    clear hp
    rintro i w1 ⟨⟨hi,Hd⟩,hp⟩ IH C
    have bM:=FB hm i hi
    refine bL ?_;refine aI hp ?_
    apply ae<;>intro bD
    ·have aF:i<x.ms.length:=by omega
     have hmi:=hm.ms i aF
     obtain⟨i1,i2,i3,i4,_⟩:=hmi
     change dr x.n (x.ms.getD i default).addr at i1
     change dr x.n (x.ms.getD i default).data at i2
     change dr x.n (x.ms.getD i default).write at i3
     change dr x.n (x.ms.getD i default).out at i4
     have bo:=Kx hm i4
     unfold dr at i1 i2 i3 i4
     change 0<=(x.ms.getD i default).addr/\(x.ms.getD i default).addr<x.sg.length at i1
     change 0<=(x.ms.getD i default).data/\(x.ms.getD i default).data<x.sg.length at i2
     change 0<=(x.ms.getD i default).write/\(x.ms.getD i default).write<x.sg.length at i3
     change 0<=(x.ms.getD i default).out/\(x.ms.getD i default).out<x.sg.length at i4
     change 0<=(x.sg.getD (x.ms.getD i default).out.toNat default).width/\(x.sg.getD (x.ms.getD i default).out.toNat default).width<=4 at bo
     refine aN ?_;(repeat(refine ah ?_;first|refine aI hp ?_|refine bb hp ?_))
     refine bP hp ?_;intro w ng hx hp;refine az ?_;refine aW hp ?_;intro w hp;refine az ?_
     refine j7 hp ?_;intro w hx hp;have hs:=hp;(repeat(refine ah ?_;first|refine dN ?_|refine iC rfl (by omega) (by omega) rfl rfl rfl ?_))
     (first|apply fx|apply cf)<;>intro h1 e<;>rw[e]<;>clear e;all_goals((repeat(first|(refine aG ?_;first|refine cx rfl rfl rfl ?_|refine dB rfl rfl rfl ?_)|(refine ah ?_;first|refine dN ?_|refine iC rfl (by omega) (by omega) rfl rfl rfl ?_))))
     ·skip
      have cQ:¬ch x.n:=fun h=>h1 (h.ms i aF).1
      refine aN ?_;refine aq ?_
      exact⟨by unfold fB;rw[bt cQ],hp.x⟩
     ·(first|apply fx|apply cf)<;>intro h2 e<;>rw[e]<;>clear e;all_goals((repeat(first|(refine aG ?_;first|refine cx rfl rfl rfl ?_|refine dB rfl rfl rfl ?_)|(refine ah ?_;first|refine dN ?_|refine iC rfl (by omega) (by omega) rfl rfl rfl ?_))))
      ·skip
       have cQ:¬ch x.n:=fun h=>h2 (h.ms i aF).2.1
       refine aN ?_;refine aq ?_
       exact⟨by unfold fB;rw[bt cQ],hp.x⟩
      ·skip
       apply ae<;>intro h3
       ·have cQ:¬ch x.n:=fun h=>h3 (h.ms i aF).2.2
        refine aN ?_;refine aq ?_
        exact⟨by unfold fB;rw[bt cQ],hp.x⟩
       ·refine aM ?_;(repeat(refine ah ?_;first|refine aI hp ?_|refine rS hp ?_))
        refine IH (i+1) _ _ _ (by omega) (by rw[pq,<-Int.add_assoc];rfl) ⟨⟨by omega,fun j hj=> ?_⟩,hp.drop⟩
        by_cases dC:j<i
        ·exact Hd j dC
        ·obtain rfl:j=i:=by omega
         exact⟨Decidable.not_not.1 h1,Decidable.not_not.1 h2,Decidable.not_not.1 h3⟩
    ·refine aM ?_;refine aI hp ?_
     obtain rfl:i=x.ms.length:=by omega
     clear IH
     have p0:=DZ hm 0
     have p1:=DZ hm 1
     refine cy Tryz.func28 (dJ x 0 _ hp.mod l1) ?_;rintro _ w ⟨bw0,cw0,rfl,hq⟩;have hx:=hq.x;have hp:=hp.bJ hq;refine az ?_
     refine bQ hp Tryz.func27 (uj bw0 cw0 _ (ee x.n 0) rfl _ hp.rd p0.1 p0.2) ?_;intro w hx hp
     (first|apply fx|apply cf)<;>intro h0 e<;>rw[e]<;>clear e;all_goals((repeat(first|(refine aG ?_;first|refine aO ?_|refine ba ?_)|(refine ah ?_;refine aI hp ?_)|refine aq ?_)))
     ·refine cy Tryz.func28 (dJ x 1 _ hp.mod l1) ?_;rintro _ w ⟨Wk,Wl,rfl,hq⟩;have hx:=hq.x;have hp:=hp.bJ hq;refine az ?_;refine aO ?_
      refine bQ hp Tryz.func27 (uj Wk Wl _ (ee x.n 1) rfl _ hp.rd p1.1 p1.2) ?_;intro w hx hp;refine aO ?_
      (first|apply fx|apply cf)<;>intro h1 e<;>rw[e]<;>clear e;all_goals((repeat(first|(refine aG ?_;first|refine aO ?_|refine ba ?_)|refine aq ?_)))
      ·refine⟨?_,hp.x⟩
       by_cases h2:cT (ee x.n 3)+pq x.n x.ms.length<=12
       ·have aS:ch x.n:=⟨by rw[qb];rfl,Ky,fun j hj=>by rw[x.mR];exact IQ j (by rw[x.cC] at hj;exact hj),Hd,h0,h1,h2⟩
        unfold fB
        rw[cR.2 aS,decide_eq_true h2]
       ·unfold fB
        rw[bt (fun h=>h2 h.s3),decide_eq_false h2]
      ·exact⟨by unfold fB;rw[bt (fun h=>h1 h.s1)],hp.x⟩
     ·exact⟨by unfold fB;rw[bt (fun h=>h0 h.s0)],hp.x⟩
end Go.Proofs
