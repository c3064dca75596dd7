/- The second mode of drawn regions: goals without a world, and their evaluator; each under its stated conditions. -/
import Derived.Test.YtiepmliokblkjaaGreatHeap
set_option linter.all false
namespace Go.Xw
open Go.RowKit
def oo:Action->Bool
 | .alloc _=>true
 | .box _ _=>true
 | .buildSlice _ _ _=>true
 | .makeSlice _ _ _=>true
 |_=>false
def HP (ops:Array Oper)(rest:List Oper):Bool:=match ops.toList[ops.toList.length-(rest.length+1)]? with
 |some o=>qd o
 |none=>false
theorem Gj {ops:Array Oper}{pre:List Oper}{o:Oper}{rest:List Oper}(h:ops.toList=pre++o::rest):HP ops rest=qd o:=by
 have hn:ops.toList.length-(rest.length+1)=pre.length:=by rw[h];simp
 unfold HP
 rw[hn,h]
 simp
def Jo (A:Action)(ops:Array Oper)(rest:List Oper):Bool:=match A with
 | .call _ _=>HP ops rest
 |_=>false
section
variable (S:ak) (sz:Nat) (R:Value->World->Prop) (w0:World) (L0:List bh)
def rR (ops:Array Oper)(l:List Oper)(k:List Item)(env:Env)(L:List bh):Prop:=
 (∃pre,ops.toList=pre++l)/\∀a,Fits sz env a->lF S.P ops w0 L0 (fun a' w'=>nw S.P S.f R k a' w') (I8 ops l) L a
def C1 (ops:Array Oper)(o:Oper)(rest:List Oper)(k:List Item)(env:Env)(L:List bh):Prop:=
 (∃pre,ops.toList=pre++o::rest)/\∀a,Fits sz env a->Region.wanted o (yielded ops a.tmps)=true->lF S.P ops w0 L0 (fun a' w'=>nw S.P S.f R k a' w') (I8 ops (o::rest)) L a
def C2 (A:Action)(c:sC)(L:List bh):Prop:=
 match lR A with
 |true=>∃v,(∀w',Hp w0 w' L0->A.lO.run S.P w'= .ok (.value v) w')/\rR S sz R w0 L0 c.ops c.rest c.k (jo c.env c.dst v) L
 |false=>match oo A with
  |true=>∃d:FD,(∀w:World,A.lO.run S.P w= .ok (.value (d.val w.heap.size)) (w.alloc d.obj))/\∀b,rR S sz R w0 L0 c.ops c.rest c.k (jo c.env c.dst (d.val b)) (d.res b::L)
  |false=>match Jo A c.ops c.rest with
   |true=>∃f args v,(∀w':World,A.lO.run S.P w'= .ok (.enter f args) w')/\v=Tw args/\(∀w',Hp w0 w' L0->Calls S.P f args w' fun e zU=>e= .returned v/\Ext w' zU)/\rR S sz R w0 L0 c.ops c.rest c.k (jo c.env c.dst v) L
   |false=>∀F w,Hp w0 w (L++F)->mB S.P A w fun v w'=>(bH c.ops c.rest=true->Hp w0 w' L0)/\∃L',Hp w0 w' (L'++F)/\rR S sz R w0 L0 c.ops c.rest c.k (jo c.env c.dst v) L'
def bu (L:List bh):G->Prop
 | .code k env=>∀w,Hp w0 w L->∀a,Fits sz env a->nw S.P S.f R k a w
 | .ops _ ops l k env=>rR S sz R w0 L0 ops l k env L
 | .guard _ b want ops o rest k env=>if b=want then C1 S sz R w0 L0 ops o rest k env L else rR S sz R w0 L0 ops rest k (jo env o.dst undef) L
 | .HE _ ops o rest k env=>C1 S sz R w0 L0 ops o rest k env L
 | .act A c=>C2 S sz R w0 L0 A c L
 |_=>False
end
theorem EY {env:Env}{o:Oper}{A:Action}(h:pN env o.op o.type=some A):dQ o=oo A:=by
 unfold pN at h
 unfold dQ
 split at h
 all_goals(repeat' (split at h))
 all_goals first|(injection h with h;subst h;simp_all [oo];done)|(cases h;done)|skip
def Gk:Action->Bool
 | .call _ _=>true
 |_=>false
theorem LN {env:Env}{o:Oper}{A:Action}(h:pN env o.op o.type=some A)(hp:qd o=true):Gk A=true:=by
 unfold qd at hp
 split at hp
 ·rename_i f args tys HH
  rw[HH] at h
  simp only[pN,ev] at h
  repeat' (split at h)
  all_goals first|(injection h with h;subst h;rfl)|(cases h;done)|skip
 ·cases hp
section
variable {S:ak} {sz:Nat} {R:Value->World->Prop} {w0:World} {L0 L:List bh} {ops:Array Oper} {o:Oper} {rest:List Oper} {k:List Item} {env:Env}
theorem C3 {A:Action}(cj:∃pre,ops.toList=pre++o::rest)(hA:pN env o.op o.type=some A)(hd:n9 sz o.dst=true){q:Bool}(h:C2 S sz R w0 L0 A ⟨q,ops,rest,o.dst,k,env⟩ L):C1 S sz R w0 L0 ops o rest k env L:=by
 obtain⟨pre,cj⟩:=cj
 refine⟨⟨pre,cj⟩,fun a ha hw=> ?_⟩
 rw[oe cj]
 have hk:=CT hA
 have iO:=EY hA
 unfold C2 at h
 cases hl:lR A with
 |true=>
  simp only[hl] at h hk
  obtain⟨v,h1,h2⟩:=h
  exact lG (.inl (.inl ⟨hw,by simp only[hk];exact fun w' vw=>by rw[lg ha.kC hA];exact h1 w' vw⟩)) (h2.2 _ (ha.put hd v))
 |false=>
  simp only[hl] at h hk
  cases hf:oo A with
  |true=>
   simp only[hf] at h iO
   obtain⟨d,h1,h2⟩:=h
   exact jO iO hw (d:=d) (fun w=>by rw[lg ha.kC hA];exact h1 w) fun b _=>(h2 b).2 _ (ha.put hd _)
  |false=>
   simp only[hf] at h iO
   have X7:Jo A ops rest=qd o:=by
    cases wg:qd o with
    |true=>
     have:=LN hA wg
     cases A<;>simp[Gk] at this
     exact(Gj cj).trans wg
    |false=>
     cases A<;>first|rfl|exact(Gj cj).trans wg
   rw[X7] at h
   cases wg:qd o with
   |true=>
    simp only[wg] at h
    obtain⟨f,args,v,h1,h2,h3,h4⟩:=h
    exact lG (.inr ⟨wg,iO,by simp[dW,hk],hw,f,args,fun w'=>by rw[lg ha.kC hA];exact h1 w',h2,h3⟩) (h4.2 _ (ha.put hd v))
   |false=>
   simp only[wg] at h
   exact nt (by simp[oY,dW,hk,wg]) iO hw fun F w hp=>qk hA ha.kC (h F w hp) fun v w' ⟨k1,L',k2,k3⟩=>⟨k1,L',k2,k3.2 _ (ha.put hd v)⟩
theorem lW (hS:S.Ok)(cj:∃pre,ops.toList=pre++o::rest){v:Value}{p:Option Prop}(hv:tx S.wr S.tt env o.op=some (v,p))(hp:Ob p)(hd:n9 sz o.dst=true)
  (h:rR S sz R w0 L0 ops rest k (jo env o.dst v) L):C1 S sz R w0 L0 ops o rest k env L:=by
 obtain⟨pre,cj⟩:=cj
 refine⟨⟨pre,cj⟩,fun a ha hw=> ?_⟩
 rw[oe cj]
 exact lG (.inl (.inl ⟨hw,by simp only[Ae hv];exact fun w'=>qj hS.tt ha.kC hv hp w'⟩)) (h.2 _ (ha.put hd v))
theorem tC (cj:∃pre,ops.toList=pre++o::rest)(hd:n9 sz o.dst=true){q:Bool}(h:bu S sz R w0 L0 L (xp q ops o rest k env)):C1 S sz R w0 L0 ops o rest k env L:=by
 unfold xp at h
 split at h
 ·rename_i A hA
  exact C3 cj hA hd h
 ·exact h
theorem nB (hw:∀a,Fits sz env a->Region.wanted o (yielded ops a.tmps)=true)(h:C1 S sz R w0 L0 ops o rest k env L):rR S sz R w0 L0 ops (o::rest) k env L:=
 ⟨h.1,fun a ha=>h.2 a ha (hw a ha)⟩
theorem tD (cj:∃pre,ops.toList=pre++o::rest)(hd:n9 sz o.dst=true)(hw:∀a,Fits sz env a->Region.wanted o (yielded ops a.tmps)=false)
  (h:rR S sz R w0 L0 ops rest k (jo env o.dst undef) L):rR S sz R w0 L0 ops (o::rest) k env L:=by
 obtain⟨pre,cj⟩:=cj
 refine⟨⟨pre,cj⟩,fun a ha=> ?_⟩
 rw[oe cj]
 exact mz (hw a ha) (h.2 _ (ha.put hd undef))
theorem Jp (cj:∃pre,ops.toList=pre++o::rest):∃pre,ops.toList=pre++rest:=by
 obtain⟨pre,h⟩:=cj
 exact⟨pre++[o],by simp[h]⟩
theorem gr (hS:S.Ok):
  ∀(l:List Oper) (env:Env) (cc:List Prop) (g:G) (nM:List Prop),(∃pre,ops.toList=pre++l)->iQ S.wr S.tt sz true ops l k env cc=(g,nM)->ir nM->bu S sz R w0 L0 L g->
   rR S sz R w0 L0 ops l k env L/\ir cc
 |[],env,cc,g,nM,cj,h,ho,hg=>by
  simp only[iQ,Prod.mk.injEq] at h
  obtain⟨rfl,rfl⟩:=h
  exact⟨⟨cj,fun a ha=>by rw[Gc];exact fun w hp=>hg w hp a ha⟩,ho⟩
 |o::rest,env,cc,g,nM,cj,h,ho,hg=>by
  have same:(G.ops true ops (o::rest) k env,cc)=(g,nM)->rR S sz R w0 L0 ops (o::rest) k env L/\ir cc:=fun e=>by
   injection e with e1 e2
   subst e1;subst e2
   exact⟨hg,ho⟩
  simp only[iQ] at h
  split at h
  ·exact same h
  ·rename_i hd
   split at h
   ·rename_i j want Ja
    split at h
    ·rename_i oj rP
     split at h
     ·rename_i d TM
      split at h
      ·rename_i b hb
       injection h with e1 e2
       subst e1;subst e2
       refine⟨?_,ho⟩
       have hy:∀a,Fits sz env a->yielded ops a.tmps j=some b:=fun a ha=>by simp[yielded,rP,TM,ha.kC _ _ hb]
       simp only[bu] at hg
       by_cases LA:b=want
       ·rw[if_pos LA] at hg
        exact nB (fun a ha=>by simp[Region.wanted,Ja,hy a ha,LA]) hg
       ·rw[if_neg LA] at hg
        exact tD cj hd (fun a ha=>by simp[Region.wanted,Ja,hy a ha,LA]) hg
      ·rename_i hb
       rw[kW] at h
       obtain⟨h1,h2⟩:=gr hS rest _ _ _ _ (Jp cj) h ho hg
       refine⟨?_,h2⟩
       have hy:∀a,Fits sz env a->yielded ops a.tmps j=none:=fun a ha=>by simp[yielded,rP,TM,ha.kC _ _ hb]
       exact tD cj hd (fun a ha=>by simp[Region.wanted,Ja,hy a ha]) h1
      ·exact same h
     ·exact same h
    ·exact same h
   ·rename_i Ja
    have Jb:∀a,Fits sz env a->Region.wanted o (yielded ops a.tmps)=true:=fun a _=>by simp[Region.wanted,Ja]
    split at h
    ·rename_i v hv
     rw[kW] at h
     obtain⟨h1,h2⟩:=gr hS rest _ _ _ _ (Jp cj) h ho hg
     exact⟨nB Jb (lW hS cj hv trivial hd h1),h2⟩
    ·rename_i v p hv
     rw[kW] at h
     obtain⟨h1,h2⟩:=gr hS rest _ _ _ _ (Jp cj) h ho hg
     rw[tu] at h2
     exact⟨nB Jb (lW hS cj hv h2.1 hd h1),h2.2⟩
    ·rename_i hv
     rw[mj] at h
     injection h with e1 e2
     subst e1;subst e2
     exact⟨nB Jb (tC cj hd hg),ho⟩
end
def mH (S:ak)(sz:Nat):G->G×List Prop
 | .ops _ ops l k env=>iQ S.wr S.tt sz true ops l k env []
 | .HE q ops o rest k env=>match n9 sz o.dst with
  |false=>(.HE q ops o rest k env,[])
  |true=>match tx S.wr S.tt env o.op with
   |some (v,none)=>CS env o.dst v fun e=>iQ S.wr S.tt sz true ops rest k e []
   |some (v,some p)=>CS env o.dst v fun e=>iQ S.wr S.tt sz true ops rest k e [p]
   |none=>uK (xp true ops o rest k env) []
 |g=>(g,[])
def X8:G->Prop
 | .ops _ ops l _ _=>∃pre,ops.toList=pre++l
 | .HE _ ops o rest _ _=>∃pre,ops.toList=pre++o::rest
 |_=>True
section
variable {S:ak} {sz:Nat} {R:Value->World->Prop} {C:World->Prop} {w w0:World} {L0 L:List bh} {ops:Array Oper} {o:Oper} {rest:List Oper} {k:List Item} {env:Env} {g':G} {cc:List Prop}
theorem pe (hS:S.Ok)(g:G)(h:mH S sz g=(g',cc))(hp:X8 g)(ho:ir cc)(hg:bu S sz R w0 L0 L g'):bu S sz R w0 L0 L g:=by
 unfold mH at h
 split at h
 ·exact(gr hS _ _ _ _ _ hp h ho hg).1
 ·split at h
  ·injection h with e1 e2
   subst e1
   exact hg
  ·rename_i hd
   split at h
   ·rename_i v hv
    rw[kW] at h
    exact lW hS hp hv trivial hd (gr hS _ _ _ _ _ (Jp hp) h ho hg).1
   ·rename_i v p hv
    rw[kW] at h
    obtain⟨h1,h2⟩:=gr hS _ _ _ _ _ (Jp hp) h ho hg
    rw[tu] at h2
    exact lW hS hp hv h2.1 hd h1
   ·rw[mj] at h
    injection h with e1 e2
    subst e1;subst e2
    exact tC hp hd hg
 ·injection h with e1 e2
  subst e1
  exact hg
theorem Br {id:Nat}{e:Env}[hS:S.Ok](hs:Hp w0 w L)(lQ:Hp w0 w L0)(hm:S.P.follows .mixedOrders=true)(hB:A' ops=true)(he:et env S.live=some e)
  (h:mH S sz (.ops true ops ops.toList k e)=(g',cc)) (hg:bu S sz R w0 L0 L g') (ho:ir cc:=by((repeat' apply And.intro)<;>first|exact trivial|omega|exact wi (by omega)|exact wu (by omega)|exact wb (by omega)|(refine Sl.nn (by assumption) ?_;omega)|(refine bW (by assumption) ?_;omega)|exact Option.some_ne_none _|assumption|decide)):ax S sz R C w (.code (.code (.region id ops true)::k) env):=by
 intro a ha
 have h1:=pe (R:=R) (w0:=w0) (L0:=L0) (L:=L) hS _ h ⟨[],rfl⟩ ho hg
 refine o8 (xi hm hB hs lQ ?_)
 have h2:=h1.2 a (ha.prune he)
 rw[Bf] at h2
 have key:∀(l:List (Oper×Bool)) (L':List bh) (a:Act),lF S.P ops w0 L0 (fun a' w'=>nw S.P S.f R k a' w') l L' a->lF S.P ops w0 L0 (fun a' w'=>EM S.P S.f R k .normal a' w') l L' a:=by
  intro l
  induction l with
  |nil=>exact fun L' a h w hp=>⟨rfl,h w hp⟩
  |cons x l ih=>
   obtain⟨o,fl⟩:=x
   intro L' a h
   rcases gU h with⟨_,v,hv,h'⟩|⟨hf,hw,d,ij,h'⟩|⟨he,hf,hw,h'⟩|⟨he,hw,h'⟩
   ·exact lG hv (ih _ _ h')
   ·exact jO hf hw ij fun b hb=>ih _ _ (h' b hb)
   ·exact nt he hf hw fun F w hp=>df.mono rfl (h' F w hp) fun v w' ⟨k1,L2,k2,k3⟩=>⟨k1,L2,k2,ih _ _ k3⟩
   ·exact mz hw (ih _ _ h')
 exact key _ _ _ h2
theorem Pw {id:Nat}{e:Env}[hS:S.Ok](hs:Hp w0 w L)(hm:S.P.follows .mixedOrders=true)(hB:A' ops=true)(he:et env S.live=some e)
  (h:mH S sz (.ops true ops ops.toList k e)=(g',cc)) (hg:bu S sz R w0 L L g') (ho:ir cc:=by((repeat' apply And.intro)<;>first|exact trivial|omega|exact wi (by omega)|exact wu (by omega)|exact wb (by omega)|(refine Sl.nn (by assumption) ?_;omega)|(refine bW (by assumption) ?_;omega)|exact Option.some_ne_none _|assumption|decide)):ax S sz R C w (.code (.code (.region id ops true)::k) env):=
 Br hs hs hm hB he h hg ho
theorem dc (hg:∀w,Hp w0 w L->∀C,ax S sz R C w (.code k env)):bu S sz R w0 L0 L (.code k env):=fun w hp a ha=>hg w hp (fun _=>True) a ha
theorem Ub {l:List Oper}[hS:S.Ok](cj:ops.toList.take (ops.toList.length-l.length)++l=ops.toList)
  (h:mH S sz (.ops true ops l k env)=(g',cc)) (hg:bu S sz R w0 L0 L g') (ho:ir cc:=by((repeat' apply And.intro)<;>first|exact trivial|omega|exact wi (by omega)|exact wu (by omega)|exact wb (by omega)|(refine Sl.nn (by assumption) ?_;omega)|(refine bW (by assumption) ?_;omega)|exact Option.some_ne_none _|assumption|decide)):bu S sz R w0 L0 L (.ops true ops l k env):=
 pe hS _ h ⟨_,cj.symm⟩ ho hg
theorem EZ {t:TypeId}{ad:Addr}{d:Nat}{v:Value}[hS:S.Ok](hl:∀w',Hp w0 w' L0->(loadVar t ad).run S.P w'= .ok v w')(cj:ops.toList.take (ops.toList.length-rest.length)++rest=ops.toList)
  (h:mH S sz (.ops true ops rest k ((d,v)::env))=(g',cc)) (hg:bu S sz R w0 L0 L g') (ho:ir cc:=by((repeat' apply And.intro)<;>first|exact trivial|omega|exact wi (by omega)|exact wu (by omega)|exact wb (by omega)|(refine Sl.nn (by assumption) ?_;omega)|(refine bW (by assumption) ?_;omega)|exact Option.some_ne_none _|assumption|decide)):bu S sz R w0 L0 L (.act (.load t ad) ⟨true,ops,rest,some d,k,env⟩):=
 ⟨v,fun w' vw=>by simp[Action.lO,hl w' vw],pe hS (.ops true ops rest k ((d,v)::env)) h ⟨_,cj.symm⟩ ho hg⟩
end
section
variable {S:ak} {sz:Nat} {R:Value->World->Prop} {C:World->Prop} {w w0:World} {L0 L:List bh} {ops:Array Oper} {o:Oper} {rest:List Oper} {k:List Item} {env:Env} {g':G} {cc:List Prop}
theorem Uc {b o:Nat}{tb t:TypeId}{cs:List Value}{v:Value}{d:Nat}[hS:S.Ok][hb:Bp w0 L0 b tb cs](hv:rf S.tt t cs o=some v)(cj:ops.toList.take (ops.toList.length-rest.length)++rest=ops.toList)
  (h:mH S sz (.ops true ops rest k ((d,v)::env))=(g',cc)) (hg:bu S sz R w0 L0 L g') (ho:ir cc:=by((repeat' apply And.intro)<;>first|exact trivial|omega|exact wi (by omega)|exact wu (by omega)|exact wb (by omega)|(refine Sl.nn (by assumption) ?_;omega)|(refine bW (by assumption) ?_;omega)|exact Option.some_ne_none _|assumption|decide)):bu S sz R w0 L0 L (.act (.load t ⟨b,o,none⟩) ⟨true,ops,rest,some d,k,env⟩):=
 EZ (fun w hp=>lV hS.tt (hb.h w hp) hv) cj h hg ho
theorem NR {s1:Nat}{α:Type}[Inhabited α]{enc:α->List Value}{X:List α}{a:Option Addr}{s:Nat}[he:bX enc s]{z:Int}{j:Nat}{t:TypeId}{v:Value}{d:Nat}[hS:S.Ok][hr:gm w0 L0 a s enc X](jw:s1=s)(h0:0<=z)(h1:z<X.length)(hv:rf S.tt t (enc (X.getD z.toNat default)) j=some v)(cj:ops.toList.take (ops.toList.length-rest.length)++rest=ops.toList)
  (h:mH S sz (.ops true ops rest k ((d,v)::env))=(g',cc)) (hg:bu S sz R w0 L0 L g') (ho:ir cc:=by((repeat' apply And.intro)<;>first|exact trivial|omega|exact wi (by omega)|exact wu (by omega)|exact wb (by omega)|(refine Sl.nn (by assumption) ?_;omega)|(refine bW (by assumption) ?_;omega)|exact Option.some_ne_none _|assumption|decide)):bu S sz R w0 L0 L (.act (.load t (jn (aE a s1 z) j)) ⟨true,ops,rest,some d,k,env⟩):=by
 subst jw
 exact EZ (fun w hp=>Bn hS.tt he (hr.h w hp) h0 h1 hv) cj h hg ho
theorem tE {s1:Nat}{α:Type}[Inhabited α]{enc:α->List Value}{X:List α}{a:Option Addr}{s:Nat}[he:bX enc s]{z:Int}{t:TypeId}{v:Value}{d:Nat}[hS:S.Ok][hr:gm w0 L0 a s enc X](jw:s1=s)(h0:0<=z)(h1:z<X.length)(hv:rf S.tt t (enc (X.getD z.toNat default)) 0=some v)(cj:ops.toList.take (ops.toList.length-rest.length)++rest=ops.toList)
  (h:mH S sz (.ops true ops rest k ((d,v)::env))=(g',cc)) (hg:bu S sz R w0 L0 L g') (ho:ir cc:=by((repeat' apply And.intro)<;>first|exact trivial|omega|exact wi (by omega)|exact wu (by omega)|exact wb (by omega)|(refine Sl.nn (by assumption) ?_;omega)|(refine bW (by assumption) ?_;omega)|exact Option.some_ne_none _|assumption|decide)):bu S sz R w0 L0 L (.act (.load t (aE a s1 z)) ⟨true,ops,rest,some d,k,env⟩):=by
 subst jw
 exact EZ (fun w hp=>Bo hS.tt he (hr.h w hp) h0 h1 hv) cj h hg ho
theorem oq {t:TypeId}{v:Value}{d:Nat}(hk:∀b,bu S sz R w0 L0 (rB b t (aL v)::L) (.ops true ops rest k ((d,.pointer (some ⟨b,0,none⟩))::env))):
  bu S sz R w0 L0 L (.act (.box t v) ⟨true,ops,rest,some d,k,env⟩):=⟨.cells none t (aL v),fun _=>Bj v,fun b=>hk b⟩
theorem iS {t:TypeId}{i:TI}{d:Nat}[hS:S.Ok](hi:tl S.tt t=some i)(hk:∀b,bu S sz R w0 L0 (rB b t (aL i.zero)::L) (.ops true ops rest k ((d,.pointer (some ⟨b,0,none⟩))::env))):
  bu S sz R w0 L0 L (.act (.alloc t) ⟨true,ops,rest,some d,k,env⟩):=⟨.cells none t (aL i.zero),fun _=>uO hS.tt hi,fun b=>hk b⟩
theorem Px {f:FuncId}{args:List Value}{d:Nat}{fn:Func}(hf:S.P.funcs[f]?=some fn)(fD:(fn.name== "runtime.NumGoroutine")=false)(hb:fn.body.isNone=false)
  (hk:∀F w,Hp w0 w (L++F)->bN S.P f args w fun v w'=>(bH ops rest=true->Hp w0 w' L0)/\∃L',Hp w0 w' (L'++F)/\bu S sz R w0 L0 L' (.ops true ops rest k ((d,v)::env)))
  (wg:HP ops rest=false:=by kernel_rfl):bu S sz R w0 L0 L (.act (.call f args) ⟨true,ops,rest,some d,k,env⟩):=by
 show(match HP ops rest with|true=>_|false=>_)
 rw[wg]
 show∀F w,Hp w0 w (L++F)->mB _ _ _ _
 intro F w hp
 unfold mB
 rw[xA hf fD hb]
 exact Calls.mono (hk F w hp) fun e w' ⟨v,he,q⟩=>⟨v,he,q⟩
end
section
variable {S:ak} {sz:Nat} {R:Value->World->Prop} {C:World->Prop} {w w0:World} {L0 L:List bh} {ops:Array Oper} {o:Oper} {rest:List Oper} {k:List Item} {env:Env} {g':G} {cc:List Prop}
theorem wH {t:TypeId}{ad:Addr}{v:Value}{L':List bh}(iO:bH ops rest=false)(hs:∀F w,Hp w0 w (L++F)->∃w',(Action.store t ad v).lO.run S.P w= .ok .skip w'/\Hp w0 w' (L'++F))
  (hk:bu S sz R w0 L0 L' (.ops true ops rest k env)):bu S sz R w0 L0 L (.act (.store t ad v) ⟨true,ops,rest,none,k,env⟩):=by
 show∀F w,Hp w0 w (L++F)->mB _ _ _ _
 intro F w hp
 obtain⟨w',r,h⟩:=hs F w hp
 unfold mB
 rw[r]
 exact⟨fun hq=>absurd hq (by show¬bH ops rest=true;rw[iO];decide),L',h,hk⟩
theorem Aj {b o:Nat}{tb t:TypeId}{cs:List Value}{f:List Value->List bh}{v:Value}{i:TI}[hS:S.Ok][hu:uS L b tb cs f](hi:tl S.tt t=some i)(hs:i.size=1)(ho:Nat.ble (o+1) cs.length=true)(hv:v.oneCell'=true)(iO:bH ops rest=false)
  (hk:bu S sz R w0 L0 (f (cs.set o v)) (.ops true ops rest k env)):bu S sz R w0 L0 L (.act (.store t ⟨b,o,none⟩ v) ⟨true,ops,rest,none,k,env⟩):=by
 obtain⟨M,h1,h2⟩:=hu.h
 refine wH iO (fun F w hp=> ?_) hk
 have jP:Hp w0 w (rB b tb cs::(M++F)):=hp.perm (h1.append_right F)
 obtain⟨w',r,h,g⟩:=(show jZ w b tb cs from jP.g0).Pj hS.tt hi hs (Nat.le_of_ble_eq_true ho) hv
 exact⟨w',r,(jP.HJ h g).perm ((h2 _).append_right F).symm⟩
theorem eO {b:Nat}{tb t:TypeId}{cs vs:List Value}{f:List Value->List bh}{i:TI}[hS:S.Ok][hu:uS L b tb cs f](hi:tl S.tt t=some i)(hs:i.size=vs.length)(hl:Nat.beq cs.length vs.length=true)(h1:vs.all Value.oneCell'=true)(iO:bH ops rest=false)
  (hk:bu S sz R w0 L0 (f vs) (.ops true ops rest k env)):bu S sz R w0 L0 L (.act (.store t ⟨b,0,none⟩ (.agg ⟨vs⟩)) ⟨true,ops,rest,none,k,env⟩):=by
 obtain⟨M,h3,h2⟩:=hu.h
 refine wH iO (fun F w hp=> ?_) hk
 have jP:Hp w0 w (rB b tb cs::(M++F)):=hp.perm (h3.append_right F)
 obtain⟨w',r,h,g⟩:=jZ.Bi hS.tt hi (show jZ w b tb cs from jP.g0) hs (Nat.eq_of_beq_eq_true hl) (fun v hv=>List.all_eq_true.1 h1 v hv)
 exact⟨w',r,(jP.HJ h g).perm ((h2 _).append_right F).symm⟩
theorem gu {t:TypeId}{ad:Addr}{c:sC}(h:bu S sz R w0 L0 L (.act (.load t ad) c)):bu S sz R w0 L0 L (.act (.load t ad) c):=h
theorem qw {t:TypeId}{n:Nat}{ps:List (Nat×Value)}{c:sC}(h:bu S sz R w0 L0 L (.act (.buildSlice t n ps) c)):bu S sz R w0 L0 L (.act (.buildSlice t n ps) c):=h
end
theorem dk.Py {α:Type}{enc:α->List Value}{s:Nat}{w:World}{b:Nat}{e:TypeId}{cs:List Value}{M:List α}(h:jZ w b e cs)(he:bX enc s)(hM:M.flatMap enc=cs)(hm:M.length<=maxLen):dk w 0 e s enc (some ⟨b,0,none⟩) M.length M:=by
 unfold dk
 rw[hM]
 have hl:cs.length=M.length*s:=by rw[<-hM];exact om he.len M
 exact⟨by simpa using hl,.inr ⟨b,M.length,⟨cs⟩,rfl,Nat.zero_le _,h,Nat.le_refl _,hm,by simpa using hl,List.take_of_length_le (by simp[hl])⟩⟩
theorem Hp.Ud {α:Type}{enc:α->List Value}{s:Nat}{w0 w:World}{b:Nat}{e:TypeId}{cs:List Value}{M:List α}{L:List bh}(h:Hp w0 w (rB b e cs::L))(he:bX enc s)(hM:M.flatMap enc=cs)(hm:M.length<=maxLen):Hp w0 w (rO e s enc (some ⟨b,0,none⟩) M.length M::L):=
 h.Tu ⟨rfl,rfl,rfl,Nat.le_refl _,fun _ _ _=>rfl⟩ (dk.Py h.g0 he hM hm) (fun k hk=> .inl (by simp[rO,Go.Xw.lP] at hk;simp[rB];exact hk)) (by simp[rO,Go.Xw.lP])
section
variable {S:ak} {sz:Nat} {R:Value->World->Prop} {C:World->Prop} {w w0:World} {L0 L:List bh} {ops:Array Oper} {o:Oper} {rest:List Oper} {k:List Item} {env:Env} {g':G} {cc:List Prop}
theorem NS {L':List bh}{l:List Oper}{q:Bool}(hs:∀F w,Hp w0 w (L++F)->Hp w0 w (L'++F))(h:bu S sz R w0 L0 L' (.ops q ops l k env)):bu S sz R w0 L0 L (.ops q ops l k env):=
 ⟨h.1,fun a ha=>nu _ _ _ _ hs (h.2 a ha)⟩
theorem xJ {L':List bh}(hs:∀F w,Hp w0 w (L++F)->Hp w0 w (L'++F)):∀{g:G},bu S sz R w0 L0 L' g->bu S sz R w0 L0 L g:=by
 have lQ:∀w,Hp w0 w L->Hp w0 w L':=fun w h=>by have:=hs [] w;simp only[List.append_nil] at this;exact this h
 have fQ:∀{ops:Array Oper} {l:List Oper} {k:List Item} {env:Env} {L L':List bh},(∀F w,Hp w0 w (L++F)->Hp w0 w (L'++F))->rR S sz R w0 L0 ops l k env L'->rR S sz R w0 L0 ops l k env L:=fun hs h=>⟨h.1,fun a ha=>nu _ _ _ _ hs (h.2 a ha)⟩
 intro g h
 cases g with
 |code k env=>exact fun w hp=>h w (lQ w hp)
 |ops q ops l k env=>exact fQ hs h
 |guard q b want ops o rest k env=>
  have h:(if b=want then C1 S sz R w0 L0 ops o rest k env L' else rR S sz R w0 L0 ops rest k (jo env o.dst undef) L'):=h
  show(if b=want then C1 S sz R w0 L0 ops o rest k env L else rR S sz R w0 L0 ops rest k (jo env o.dst undef) L)
  by_cases hb:b=want
  ·rw[if_pos hb] at h⊢
   exact⟨h.1,fun a ha hw=>nu _ _ _ _ hs (h.2 a ha hw)⟩
  ·rw[if_neg hb] at h⊢
   exact fQ hs h
 |HE q ops o rest k env=>exact⟨h.1,fun a ha hw=>nu _ _ _ _ hs (h.2 a ha hw)⟩
 |act A c=>
  have h:C2 S sz R w0 L0 A c L':=h
  show C2 S sz R w0 L0 A c L
  unfold C2 at h⊢
  cases hl:lR A with
  |true=>
   simp only[hl] at h⊢
   obtain⟨v,h1,h2⟩:=h
   exact⟨v,h1,fQ hs h2⟩
  |false=>
   cases hf:oo A with
   |true=>
    simp only[hl,hf] at h⊢
    obtain⟨d,h1,h2⟩:=h
    exact⟨d,h1,fun b=>fQ (fun F w hp=>by
     have h3:=hs (d.res b::F) w (Hp.NJ.1 hp)
     exact Hp.NJ.2 h3) (h2 b)⟩
   |false=>
    simp only[hl,hf] at h⊢
    cases wg:Jo A c.ops c.rest with
    |true=>
     simp only[wg] at h⊢
     obtain⟨f,args,v,h1,h2,h3,h4⟩:=h
     exact⟨f,args,v,h1,h2,h3,fQ hs h4⟩
    |false=>
     simp only[wg] at h⊢
     exact fun F w hp=>h F w (hs F w hp)
 |_=>exact h
theorem HQ {A B:bh}{g:G}(h:bu S sz R w0 L0 (B::A::L) g):bu S sz R w0 L0 (A::B::L) g:=xJ (fun F w (hp:Hp w0 w (A::B::(L++F)))=>hp.f1) h
theorem Pz {A B D:bh}{g:G}(h:bu S sz R w0 L0 (D::A::B::L) g):bu S sz R w0 L0 (A::B::D::L) g:=xJ (fun F w (hp:Hp w0 w (A::B::D::(L++F)))=>hp.f2) h
theorem HR {α:Type}{enc:α->List Value}{P:Program}{tt:TT}(aS:gJ P tt){t e:TypeId}{i j:TI}(hi:tl tt t=some i)(hd:i.desc= .slice e)(hj:tl tt e=some j)(hz:(aL j.zero).length=j.size)(iA:0<j.size)(d:α)(LG:enc d=aL j.zero)
  (n:Nat) (hm:n<=maxLen) (hb:j.bytes*n<=281474976710656) (w:World):
  (Instr.makeSlice t (.int .i64 (n:Int)) (.int .i64 (n:Int))).run P w= .ok (.slice (some ⟨w.heap.size,0,none⟩) n n) (w.alloc (.cells ⟨(List.replicate n d).flatMap enc⟩ e)):=by
 obtain⟨info,td,h1,h2,h3,h4,h5,r5,h6⟩:=aS.get hi
 obtain⟨vG,W1,g1,g2,g3,g4,g5,W2,g6⟩:=aS.get hj
 rw[jQ (r5.trans hd)] at h5
 have hm':(n:Int)<=9223372036854775807:=by unfold maxLen at hm;omega
 have rN:(vG.bytes:Int)*(n:Int)<=281474976710656:=by
  rw[g3]
  have h:((j.bytes*n:Nat):Int)<=281474976710656:=by omega
  rwa[Int.natCast_mul] at h
 have hr:=run_make (P:=P) w t e vG j.zero h5 g1 g4 .i64 .i64 n n (by omega) (Int.le_refl _) rN hm'
 simp only[Int.toNat_natCast] at hr
 rw[hr]
 have:(List.replicate n d).flatMap enc=(madeCells j.zero.cells (n*j.size)).toList:=by
  have hc:j.zero.cells=(aL j.zero).toArray:=by rw[ie]
  rw[hc,<-hz,uM _ _ (by omega),<-LG]
  simp[List.flatMap]
 rw[this,g2]
theorem Bs {α:Type}(enc:α->List Value)(dz:α){t e:TypeId}{i j:TI}{n:Nat}{d:Nat}[hS:S.Ok](hi:tl S.tt t=some i)(hd:i.desc= .slice e)(hj:tl S.tt e=some j)(hz:(aL j.zero).length=j.size){s:Nat}(lQ:j.size=s)(iA:0<s)
  (he:bX enc s) (LG:enc dz=aL j.zero) (hm:n<=maxLen) (hb:j.bytes*n<=281474976710656)
  (hk:∀b,bu S sz R w0 L0 (rO e s enc (some ⟨b,0,none⟩) n (List.replicate n dz)::L) (.ops true ops rest k ((d,.slice (some ⟨b,0,none⟩) n n)::env))):
  bu S sz R w0 L0 L (.act (.makeSlice t (.int .i64 (n:Int)) (.int .i64 (n:Int))) ⟨true,ops,rest,some d,k,env⟩):=by
 subst lQ
 refine⟨.cells (some n) e ((List.replicate n dz).flatMap enc),fun w=> ?_,fun b=>NS (fun F w hp=> ?_) (hk b)⟩
 ·have hr:=HR (P:=S.P) hS.tt hi hd hj hz iA dz LG n hm hb w
  simp only[Action.lO,Sem.run_bind,hr,Result.andThen_ok,Sem.run_pure]
  rfl
 ·have:=Hp.Ud (L:=L++F) (M:=List.replicate n dz) hp he rfl (by rw[List.length_replicate];exact hm)
  rw[List.length_replicate] at this
  exact this
theorem pO {α:Type}(enc:α->List Value)(M:List α){t e:TypeId}{i j:TI}{nn:Nat}{parts:List (Nat×Value)}{cs:List Value}{d:Nat}[hS:S.Ok](hi:tl S.tt t=some i)(hd:i.desc= .slice e)(hj:tl S.tt e=some j)(hz:(aL j.zero).length=j.size){s:Nat}(lQ:j.size=s)(iA:0<s)
  (he:bX enc s) (hc:gV S.tt e nn parts=some cs) (hM:M.flatMap enc=cs) (hn:M.length=nn) (hb:nn*s<=16777216)
  (hk:∀b,bu S sz R w0 L0 (rO e s enc (some ⟨b,0,none⟩) M.length M::L) (.ops true ops rest k ((d,.slice (some ⟨b,0,none⟩) M.length M.length)::env))):
  bu S sz R w0 L0 L (.act (.buildSlice t nn parts) ⟨true,ops,rest,some d,k,env⟩):=by
 subst lQ
 subst hn
 have hm:M.length<=maxLen:=by
  have:=Nat.le_mul_of_pos_right M.length iA
  unfold maxLen;omega
 refine⟨.cells (some M.length) e cs,fun w=> ?_,fun b=>NS (fun F w hp=> ?_) (hk b)⟩
 ·have hr:=wG (P:=S.P) (w:=w) hS.tt hi hd hj hz iA hc hb
  simp only[Action.lO,Sem.run_bind,hr,Result.andThen_ok,Sem.run_pure]
  rfl
 ·exact Hp.Ud (L:=L++F) hp he hM hm
theorem lI {t e:TypeId}{i j:TI}{nn:Nat}{parts:List (Nat×Value)}{cs:List Value}{M:List Int}{d:Nat}[hS:S.Ok](hi:tl S.tt t=some i)(hd:i.desc= .slice e)(hj:tl S.tt e=some j)(hz:(aL j.zero).length=j.size)(lQ:j.size=1)(_:j.desc= .int .i64)
  (hc:gV S.tt e nn parts=some cs) (hM:sJ cs=some M) (hn:M.length=nn) (hb:Nat.ble (nn*1) 16777216=true)
  (hk:∀b,bu S sz R w0 L0 (rO e 1 eI (some ⟨b,0,none⟩) M.length M::L) (.ops true ops rest k ((d,.slice (some ⟨b,0,none⟩) M.length M.length)::env))):
  bu S sz R w0 L0 L (.act (.buildSlice t nn parts) ⟨true,ops,rest,some d,k,env⟩):=
 pO eI M hi hd hj hz lQ (by decide) tB hc (rh hM) hn (Nat.le_of_ble_eq_true hb) hk
theorem Ue {A:Action}{d:Option Nat}(hl:lR A=false)(hf:oo A=false)(wg:Jo A ops rest=false)(h:∀F w,Hp w0 w (L++F)->mB S.P A w fun v w'=>(bH ops rest=true->Hp w0 w' L0)/\∃L',Hp w0 w' (L'++F)/\bu S sz R w0 L0 L' (.ops true ops rest k (jo env d v))):
  bu S sz R w0 L0 L (.act A ⟨true,ops,rest,d,k,env⟩):=by
 show C2 S sz R w0 L0 A _ L
 unfold C2
 rw[hl,hf]
 show(match Jo A ops rest with|true=>_|false=>_)
 rw[wg]
 exact h
theorem fZ {α:Type}[Inhabited α]{enc:α->List Value}{X Y:List α}{t u e ty:TypeId}{a sa:Option Addr}{c sc n:Nat}{s:Nat}{f:Option Addr->Nat->List α->List bh}[hq:nm L a e s enc c X f][he:bX enc s][hr:gm w0 L sa s enc Y]{i j:TI}{m:Nat}(hn:X.length=n)(hM:Y.length=m){d:Nat}[hS:S.Ok](hi:tl S.tt t=some i)(hd:i.desc= .slice e)(hj:tl S.tt e=some j)(hz:(aL j.zero).length=j.size)(lQ:j.size=s)(iA:0<s)
  (hu:u=t) (hm:X.length+Y.length<=1000000000) {Gh:Nat} (LM:j.bytes=Gh) (A7:Nat.ble Gh 1000=true) (hC:bH ops rest=true->∀a' c' F w',Hp w0 w' (f a' c' (X++Y)++F)->Hp w0 w' L0)
  (hk:∀a' c',(a'=none↔a=none/\Y=[])->bu S sz R w0 L0 (f a' c' (X++Y)) (.ops true ops rest k ((d,.slice a' (X++Y).length c')::env))):
  bu S sz R w0 L0 L (.act (.append t u ty (.slice a n c) (.slice sa m sc)) ⟨true,ops,rest,some d,k,env⟩):=by
 obtain⟨M,h1,h2⟩:=hq.h
 subst hn;subst hM;subst lQ;subst hu
 refine Ue rfl rfl rfl fun F w hp=> ?_
 have jP:Hp w0 w (rO e j.size enc a c X::(M++F)):=hp.perm (h1.append_right F)
 obtain⟨a',c',w',hrr,g1,g2,g3⟩:=qu (P:=S.P) hS.tt hi hd hj hz iA he jP (sc:=sc) (hr.h w (hp.sub (List.sublist_append_left _ _))) (by unfold maxLen;omega) (by
  have:=Nat.le_of_ble_eq_true A7
  rw[LM]
  have:=Nat.mul_le_mul hm this
  omega) ty
 unfold mB
 simp only[Action.lO,Sem.run_bind,hrr,Result.andThen_ok,Sem.run_pure]
 have g4:Hp w0 w' (f a' c' (X++Y)++F):=g1.perm ((h2 _ _ _).append_right F).symm
 exact⟨fun hq=>hC hq a' c' F w' g4,_,g4,hk a' c' g3⟩
theorem Gl {s1:Nat}{α:Type}[Inhabited α]{enc:α->List Value}{e t:TypeId}{a:Option Addr}{c s:Nat}{X:List α}{f:Option Addr->Nat->List α->List bh}[hu:nm L a e s enc c X f][he:bX enc s]{i:TI}[hS:S.Ok](jw:s1=s)(hi:tl S.tt t=some i)(hs:i.size=1){z:Int}(hz:z.toNat<X.length){y:α}{v:Value}(hj:0<s)(hy:enc y=(enc (X.getD z.toNat default)).set 0 v)(hv:v.oneCell'=true)(iO:bH ops rest=false)
  (hk:bu S sz R w0 L0 (f a c (X.set z.toNat y)) (.ops true ops rest k env)):bu S sz R w0 L0 L (.act (.store t (aE a s1 z) v) ⟨true,ops,rest,none,k,env⟩):=by
 subst jw
 obtain⟨M,h1,h2⟩:=hu.h
 refine wH iO (fun F w hp=> ?_) hk
 have jP:Hp w0 w (rO e s1 enc a c X::(M++F)):=hp.perm (h1.append_right F)
 obtain⟨w',r,h,g⟩:=jP.own.X3 hS.tt hi hs he (getD_some hz) hj hy hv
 exact⟨w',r,(jP.HK h g).perm ((h2 _ _ _).append_right F).symm⟩
theorem Gm {s1:Nat}{α:Type}[Inhabited α]{enc:α->List Value}{e t:TypeId}{a:Option Addr}{c s:Nat}{X:List α}{f:Option Addr->Nat->List α->List bh}[hu:nm L a e s enc c X f][he:bX enc s]{i:TI}[hS:S.Ok](y:α)(jw:s1=s)(hi:tl S.tt t=some i)(hs:i.size=1){z:Int}{j:Nat}(hz:z.toNat<X.length){v:Value}(hj:j<s)(hy:enc y=(enc (X.getD z.toNat default)).set j v)(hv:v.oneCell'=true)(iO:bH ops rest=false)
  (hk:bu S sz R w0 L0 (f a c (X.set z.toNat y)) (.ops true ops rest k env)):bu S sz R w0 L0 L (.act (.store t (jn (aE a s1 z) j) v) ⟨true,ops,rest,none,k,env⟩):=by
 subst jw
 obtain⟨M,h1,h2⟩:=hu.h
 refine wH iO (fun F w hp=> ?_) hk
 have jP:Hp w0 w (rO e s1 enc a c X::(M++F)):=hp.perm (h1.append_right F)
 obtain⟨w',r,h,g⟩:=jP.own.Pj hS.tt hi hs he (getD_some hz) hj hy hv
 exact⟨w',r,(jP.HK h g).perm ((h2 _ _ _).append_right F).symm⟩
theorem Jq {s1:Nat}{α:Type}[Inhabited α]{enc:α->List Value}{e t:TypeId}{a:Option Addr}{c s:Nat}{X:List α}{f:Option Addr->Nat->List α->List bh}[hu:nm L a e s enc c X f][he:bX enc s]{i:TI}[hS:S.Ok](jw:s1=s)(hi:tl S.tt t=some i)(hs:i.size=1){z:Nat}(hz:z<X.length){y:α}{v:Value}(hj:0<s)(hy:enc y=(enc (X.getD z default)).set 0 v)(hv:v.oneCell'=true)(iO:bH ops rest=false)
  (hk:bu S sz R w0 L0 (f a c (X.set z y)) (.ops true ops rest k env)):bu S sz R w0 L0 L (.act (.store t (aE a s1 ((z:Nat):Int)) v) ⟨true,ops,rest,none,k,env⟩):=
 Gl (z:=((z:Nat):Int)) jw hi hs hz hj hy hv iO hk
theorem Bt {s1:Nat}{α:Type}[Inhabited α]{enc:α->List Value}{e t:TypeId}{a:Option Addr}{c s:Nat}{X:List α}{f:Option Addr->Nat->List α->List bh}[hu:nm L a e s enc c X f][he:bX enc s]{i:TI}[hS:S.Ok](y:α)(jw:s1=s)(hi:tl S.tt t=some i)(hs:i.size=1){z j:Nat}(hz:z<X.length){v:Value}(hj:j<s)(hy:enc y=(enc (X.getD z default)).set j v)(hv:v.oneCell'=true)(iO:bH ops rest=false)
  (hk:bu S sz R w0 L0 (f a c (X.set z y)) (.ops true ops rest k env)):bu S sz R w0 L0 L (.act (.store t (jn (aE a s1 ((z:Nat):Int)) j) v) ⟨true,ops,rest,none,k,env⟩):=
 Gm (z:=((z:Nat):Int)) y jw hi hs hz hj hy hv iO hk
end
theorem Hp.pre {w0 w:World}{L F:List bh}(h:Hp w0 w (L++F)):Hp w0 w L:=h.sub (List.sublist_append_left _ _)
theorem Hp.one {w0 w:World}{R:bh}{L:List bh}(h:Hp w0 w (R::L)):Hp w0 w [R]:=h.sub (List.cons_sublist_cons.2 (List.nil_sublist _))
theorem Hp.NT {w0 w w':World}{L F M:List bh}(h:Hp w0 w (L++F))(hc:Hp w w' M):Hp w0 w' ((M++L)++F):=by
 rw[List.append_assoc];exact h.call hc
theorem Hp.eU {w0 w w':World}{L F:List bh}{R:bh}(h:Hp w0 w (L++F))(hc:Hp w w' [R]):Hp w0 w' ((R::L)++F):=h.NT hc
section
variable {S:ak} {sz:Nat} {R:Value->World->Prop} {C:World->Prop} {w w0:World} {L0 L:List bh} {ops:Array Oper} {o:Oper} {rest:List Oper} {k:List Item} {env:Env} {g':G} {cc:List Prop}
theorem jE {s1:Nat}{α:Type}[Inhabited α]{enc:α->List Value}{X:List α}{a:Option Addr}{s:Nat}[he:bX enc s]{i:Nat}{t:TypeId}{v:Value}{d:Nat}[hS:S.Ok][hr:gm w0 L0 a s enc X](jw:s1=s)(h1:i<X.length)(hv:rf S.tt t (enc (X.getD i default)) 0=some v)(cj:ops.toList.take (ops.toList.length-rest.length)++rest=ops.toList)
  (h:mH S sz (.ops true ops rest k ((d,v)::env))=(g',cc)) (hg:bu S sz R w0 L0 L g') (ho:ir cc:=by((repeat' apply And.intro)<;>first|exact trivial|omega|exact wi (by omega)|exact wu (by omega)|exact wb (by omega)|(refine Sl.nn (by assumption) ?_;omega)|(refine bW (by assumption) ?_;omega)|exact Option.some_ne_none _|assumption|decide)):bu S sz R w0 L0 L (.act (.load t (aE a s1 ((i:Nat):Int))) ⟨true,ops,rest,some d,k,env⟩):=
 tE (z:=((i:Nat):Int)) jw (by omega) (by omega) hv cj h hg ho
theorem sK {s1:Nat}{α:Type}[Inhabited α]{enc:α->List Value}{X:List α}{a:Option Addr}{s:Nat}[he:bX enc s]{i:Nat}{j:Nat}{t:TypeId}{v:Value}{d:Nat}[hS:S.Ok][hr:gm w0 L0 a s enc X](jw:s1=s)(h1:i<X.length)(hv:rf S.tt t (enc (X.getD i default)) j=some v)(cj:ops.toList.take (ops.toList.length-rest.length)++rest=ops.toList)
  (h:mH S sz (.ops true ops rest k ((d,v)::env))=(g',cc)) (hg:bu S sz R w0 L0 L g') (ho:ir cc:=by((repeat' apply And.intro)<;>first|exact trivial|omega|exact wi (by omega)|exact wu (by omega)|exact wb (by omega)|(refine Sl.nn (by assumption) ?_;omega)|(refine bW (by assumption) ?_;omega)|exact Option.some_ne_none _|assumption|decide)):bu S sz R w0 L0 L (.act (.load t (jn (aE a s1 ((i:Nat):Int)) j)) ⟨true,ops,rest,some d,k,env⟩):=
 NR (z:=((i:Nat):Int)) jw (by omega) (by omega) hv cj h hg ho
end
end Go.Xw
