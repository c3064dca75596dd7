/- Appends, stops and loads over worlds as lists of resources; each under its stated conditions. -/
import Derived.Test.YtiepmliokblkjaaGreatStep
set_option linter.all false
namespace Go.Xw
open Go.RowKit
theorem Bh {P:Program}{w w':World}{t ty e:TypeId}{i:TypeInfo}{z:Value}{size bytes:Nat}(ht:P.underlying t=some (.slice e))(hi:P.info? e=some i)(hz:i.zero=some z)
  (TU:i.size=size) (hby:i.bytes=bytes) (hzs:z.cells.size=size) (iA:0<size) {a a':Option Addr} {n c m' c':Nat} {xs:List Value} (CR:w.ownsRow 0 e size (.slice a n c) n xs)
  (ad:Addr) (m sc:Nat) (news:List Value) (hl:news.length=m*size) (Jg:∀j u,news[j]?=some u->w.cell? (ad.add j)=some u) (h1:∀u∈news,u.oneCell'=true)
  (h63:n+m<=maxLen) (Jh:(n+m)*bytes<=140737488355328) (hr:(Builtin.append_ #[t,t] ty #[.slice a n c,.slice (some ad) m sc]).run P w= .ok (.slice a' m' c') w'):
  ∀k,k∈(lP a').toList->k∈(lP a).toList\/w.heap.size<=k:=by
 have X3:n+m<=9223372036854775807:=by simp only[maxLen] at h63;omega
 subst TU
 subst hby
 rcases CR.2 with⟨hv,rfl⟩|⟨g,cap,cur,hv,_,hg,hnc,hcm,z8,htake⟩
 ·injection hv with h2 _ h3
  subst h2;subst h3
  by_cases hm:m=0
  ·subst hm
   have hn:news=[]:=List.eq_nil_of_length_eq_zero (by simpa using hl)
   subst hn
   have hq:(Builtin.append_ #[t,t] ty #[.slice none 0 0,.slice (some ad) 0 sc]).run P w= .ok (.slice none 0 0) w:=by
    simp[Builtin.append_,run_underlying ht,sizeOf,typeInfo,hi,Builtin.lenOf,Builtin.firstCells,loadCells,loadCellsFrom]
   rw[hq] at hr
   injection hr with hr _
   injection hr with hr _ _
   subst hr
   intro k hk
   simp[lP] at hk
  ·have hq:=run_append_nil (P:=P) w t ty e i z ht hi hz ad m sc news hl Jg (by omega) (by omega) (by have hb:=Jh;simp only[Nat.zero_add] at hb;omega)
   rw[hq] at hr
   injection hr with hr _
   injection hr with hr _ _
   subst hr
   intro k hk
   simp[lP] at hk
   exact .inr (by omega)
 ·injection hv with h2 _ h3
  subst h2;subst h3
  by_cases Ge:n+m<=c
  ·have Pa:n*i.size+news.length<=cur.size:=by rw[hl,z8,<-Nat.add_mul];exact Nat.mul_le_mul_right _ Ge
   have hq:=run_append_room (P:=P) w t ty e i ht hi g n c cur hg ad m sc news hl Jg h1 Ge Pa
   rw[hq] at hr
   injection hr with hr _
   injection hr with hr _ _
   subst hr
   exact fun k hk=> .inl hk
  ·have holds:∀j u,xs[j]?=some u->w.cell? ((⟨g,0,none⟩:Addr).add j)=some u:=World.ownsRow.cells CR (g:=g) rfl
   have hq:=run_append_grow (P:=P) w t ty e i z ht hi hz ⟨g,0,none⟩ n c xs CR.1 holds ad m sc news hl Jg (by omega) (by omega) (growslice_fits (by omega) Jh)
   rw[hq] at hr
   injection hr with hr _
   injection hr with hr _ _
   subst hr
   intro k hk
   simp[lP] at hk
   exact .inr (by omega)
theorem qu {P:Program}{tt:TT}{α:Type}[Inhabited α]{enc:α->List Value}{w0 w:World}{F:List bg}{e t:TypeId}{a:Option Addr}{c:Nat}{L M:List α}(aS:gJ P tt){i j:TI}(hi:tl tt t=some i)(hd:i.desc= .slice e)(hj:tl tt e=some j)(hz:(aL j.zero).length=j.size)(iA:0<j.size)(he:bX enc j.size)
  (hp:Hp w0 w (rO e j.size enc a c L::F)) {sa:Option Addr} {sc:Nat} (hs:Sl w sa M.length j.size (fL enc M)) (hm:L.length+M.length<=maxLen) (hb:(L.length+M.length)*j.bytes<=140737488355328) (ty:TypeId):
  ∃a' c' w',(Builtin.append_ #[t,t] ty #[.slice a L.length c,.slice sa M.length sc]).run P w= .ok (.slice a' (L++M).length c') w'/\Hp w0 w' (rO e j.size enc a' c' (L++M)::F)/\F6 (lP a).toList w w'/\
   (a'=none↔a=none/\M=[]):=by
 obtain⟨a',c',w',hr,h1,h2,h3⟩:=ES (P:=P) aS hi hd hj hz iA he hp.own (sc:=sc) hs hm hb (Nat.zero_le _) ty
 refine⟨a',c',w',hr,hp.Tr (F6.xt h2) h1 ?_ (by cases hk:lP a'<;>simp[rO,hk]),F6.xt h2,h3⟩
 obtain⟨info,td,q1,q2,q3,q4,q5,rY,q6⟩:=aS.get hi
 obtain⟨vF,WY,g1,g2,g3,g4,g5,WZ,g6⟩:=aS.get hj
 rw[jR (rY.trans hd)] at q5
 have TO:j.zero.cells.size=j.size:=by rw[ie] at hz;simpa using hz
 cases sa with
 |none=>
  have hM:M=[]:=by
   rcases Nat.eq_zero_or_pos M.length with h|h
   ·exact List.length_eq_zero_iff.1 h
   ·exact absurd rfl (hs.1 h)
  subst hM
  have ET:=hp.own.cap
  have hq:(Builtin.append_ #[t,t] ty #[.slice a L.length c,.slice none ([]:List α).length sc]).run P w= .ok (.slice a L.length c) w:=by
   cases a with
   |none=>simp[Builtin.append_,run_underlying q5,sizeOf,typeInfo,g1,Builtin.lenOf,Builtin.firstCells,ET]
   |some a=>simp[Builtin.append_,run_underlying q5,sizeOf,typeInfo,g1,Builtin.lenOf,Builtin.firstCells,ET,storeCells]
  rw[hq] at hr
  injection hr with hr _
  injection hr with hr _ _
  subst hr
  exact fun k hk=> .inl hk
 |some ad=>
  exact Bh q5 g1 g4 g2 g3 TO iA hp.own ad M.length sc (M.flatMap enc) (om he.len M) (hs.flat he) (fun u hu=>by
   obtain⟨x,_,hx⟩:=List.mem_flatMap.1 hu
   exact he.one x u hx) hm hb hr
section
variable {S:ak} {sz:Nat} {R:Value->World->Prop} {C:World->Prop} {w:World} {g':G} {cc:List Prop}
variable {ops:Array Oper} {rest:List Oper} {k:List Item} {env:Env} {w0:World} {F:List bg}
theorem TV (hp:Hp w0 w F){t:TypeId}{v:Value}{d:Nat}(hk:∀w' b,Ext w w'->Hp w0 w' (rB b t (aL v)::F)->ax S sz R C w' (.ops false ops rest k ((d,.pointer (some ⟨b,0,none⟩))::env))):
  ax S sz R C w (.act (.box t v) ⟨false,ops,rest,some d,k,env⟩):=
 TR fun w' b hb hx hB=>hk w' b hx (hp.IV hb hx hB)
theorem LK (hp:Hp w0 w F){t:TypeId}{i:TI}{d:Nat}[hS:S.Ok](hi:tl S.tt t=some i)(hk:∀w' b,Ext w w'->Hp w0 w' (rB b t (aL i.zero)::F)->ax S sz R C w' (.ops false ops rest k ((d,.pointer (some ⟨b,0,none⟩))::env))):
  ax S sz R C w (.act (.alloc t) ⟨false,ops,rest,some d,k,env⟩):=
 LH hi fun w' b hb hx hB=>hk w' b hx (hp.IV hb hx hB)
theorem r4 (hp:Hp w0 w F){α:Type}(enc:α->List Value)(M:List α){t e:TypeId}{i j:TI}{nn:Nat}{parts:List (Nat×Value)}{cs:List Value}{d:Nat}[hS:S.Ok](hi:tl S.tt t=some i)(hd:i.desc= .slice e)(hj:tl S.tt e=some j)(hz:(aL j.zero).length=j.size){s:Nat}(lQ:j.size=s)(iA:0<s)
  (he:bX enc s) (hc:gV S.tt e nn parts=some cs) (hM:M.flatMap enc=cs) (hn:M.length=nn) (hb:nn*s<=16777216)
  (hk:∀w' b,Ext w w'->Hp w0 w' (rO e s enc (some ⟨b,0,none⟩) M.length M::F)->ax S sz R C w' (.ops false ops rest k ((d,.slice (some ⟨b,0,none⟩) M.length M.length)::env))):
  ax S sz R C w (.act (.buildSlice t nn parts) ⟨false,ops,rest,some d,k,env⟩):=
 TS enc M hi hd hj hz lQ iA he hc hM hn hb fun w' b _ hx ho=>hk w' b hx (hp.eH hx ho)
theorem mF (hp:Hp w0 w F){α:Type}(enc:α->List Value)(dz:α){t e:TypeId}{i j:TI}{n:Nat}{d:Nat}[hS:S.Ok](hi:tl S.tt t=some i)(hd:i.desc= .slice e)(hj:tl S.tt e=some j)(hz:(aL j.zero).length=j.size){s:Nat}(lQ:j.size=s)(iA:0<s)
  (LF:enc dz=aL j.zero) (hm:n<=maxLen) (hb:j.bytes*n<=281474976710656)
  (hk:∀w' b,Ext w w'->Hp w0 w' (rO e s enc (some ⟨b,0,none⟩) n (List.replicate n dz)::F)->ax S sz R C w' (.ops false ops rest k ((d,.slice (some ⟨b,0,none⟩) n n)::env))):
  ax S sz R C w (.act (.makeSlice t (.int .i64 (n:Int)) (.int .i64 (n:Int))) ⟨false,ops,rest,some d,k,env⟩):=
 Pj enc dz hi hd hj hz lQ iA LF hm hb fun w' b _ hx ho=>hk w' b hx (hp.eH hx ho)
theorem Ji {α:Type}[Inhabited α]{enc:α->List Value}{L:List α}(M:List α){t u e ty:TypeId}{a sa:Option Addr}{c sc:Nat}{s:Nat}(hp:Hp w0 w (rO e s enc a c L::F)){i j:TI}{m:Nat}(hM:M.length=m){d:Nat}[hS:S.Ok](hi:tl S.tt t=some i)(hd:i.desc= .slice e)(hj:tl S.tt e=some j)(hz:(aL j.zero).length=j.size)(lQ:j.size=s)(iA:0<s)
  (hu:u=t) (he:bX enc s) (hs:Sl w sa M.length s (fL enc M)) (hm:L.length+M.length<=maxLen) (hb:(L.length+M.length)*j.bytes<=140737488355328)
  (hk:∀a' c' w',Hp w0 w' (rO e s enc a' c' (L++M)::F)->F6 (lP a).toList w w'->(a'=none↔a=none/\M=[])->ax S sz R C w' (.ops false ops rest k ((d,.slice a' (L++M).length c')::env))):
  ax S sz R C w (.act (.append t u ty (.slice a L.length c) (.slice sa m sc)) ⟨false,ops,rest,some d,k,env⟩):=by
 subst lQ
 subst hM
 subst hu
 obtain⟨a',c',w',hr,h1,h2,h3⟩:=qu (P:=S.P) hS.tt hi hd hj hz iA he hp (sc:=sc) hs hm hb ty
 refine xy rfl (by simp only[Action.lO,Sem.run_bind,hr,Result.andThen_ok,Sem.run_pure]) (hk a' c' w' h1 h2 h3)
theorem TW {b o:Nat}{tb t:TypeId}{cs:List Value}{v:Value}{i:TI}[hS:S.Ok](hp:Hp w0 w (rB b tb cs::F))(hi:tl S.tt t=some i)(hs:i.size=1)(ho:o<cs.length)(hv:v.oneCell'=true)
  (hk:∀w',Hp w0 w' (rB b tb (cs.set o v)::F)->ax S sz R C w' (.ops false ops rest k env)):ax S sz R C w (.act (.store t ⟨b,o,none⟩ v) ⟨false,ops,rest,none,k,env⟩):=by
 obtain⟨w',r,h,g⟩:=(show j5 w b tb cs from hp.g0).Ph hS.tt hi hs ho hv
 exact pd rfl r (hk w' (hp.HI h g))
theorem Pk {b:Nat}{tb t:TypeId}{cs vs:List Value}{i:TI}[hS:S.Ok](hp:Hp w0 w (rB b tb cs::F))(hi:tl S.tt t=some i)(hs:i.size=vs.length)(hl:cs.length=vs.length)(h1:∀v∈vs,v.oneCell'=true)
  (hk:∀w',Hp w0 w' (rB b tb vs::F)->ax S sz R C w' (.ops false ops rest k env)):ax S sz R C w (.act (.store t ⟨b,0,none⟩ (.agg ⟨vs⟩)) ⟨false,ops,rest,none,k,env⟩):=by
 obtain⟨w',r,h,g⟩:=j5.Bf hS.tt hi (show j5 w b tb cs from hp.g0) hs hl h1
 exact pd rfl r (hk w' (hp.HI h g))
theorem TX {α:Type}{enc:α->List Value}{e t:TypeId}{a:Option Addr}{c s:Nat}{L:List α}(hp:Hp w0 w (rO e s enc a c L::F)){i:TI}[hS:S.Ok](hi:tl S.tt t=some i)(hs:i.size=1)(he:bX enc s){z:Int}{x y:α}{v:Value}(hx:L[z.toNat]?=some x)(hj:0<s)(hy:enc y=(enc x).set 0 v)(hv:v.oneCell'=true)
  (hk:∀w',Hp w0 w' (rO e s enc a c (L.set z.toNat y)::F)->ax S sz R C w' (.ops false ops rest k env)):ax S sz R C w (.act (.store t (aE a s z) v) ⟨false,ops,rest,none,k,env⟩):=by
 obtain⟨w',r,h,g⟩:=hp.own.X0 hS.tt hi hs he hx hj hy hv
 exact pd rfl r (hk w' (hp.HJ h g))
theorem TY {α:Type}{enc:α->List Value}{e t:TypeId}{a:Option Addr}{c s:Nat}{L:List α}(hp:Hp w0 w (rO e s enc a c L::F)){i:TI}[hS:S.Ok](hi:tl S.tt t=some i)(hs:i.size=1)(he:bX enc s){z:Int}{j:Nat}{x y:α}{v:Value}(hx:L[z.toNat]?=some x)(hj:j<s)(hy:enc y=(enc x).set j v)(hv:v.oneCell'=true)
  (hk:∀w',Hp w0 w' (rO e s enc a c (L.set z.toNat y)::F)->ax S sz R C w' (.ops false ops rest k env)):ax S sz R C w (.act (.store t (jm (aE a s z) j) v) ⟨false,ops,rest,none,k,env⟩):=by
 obtain⟨w',r,h,g⟩:=hp.own.Ph hS.tt hi hs he hx hj hy hv
 exact pd rfl r (hk w' (hp.HJ h g))
theorem Jj {L':List bg}{id:Nat}{e:Env}[hS:S.Ok](hs:Hp w0 w L')(hm:S.P.follows .mixedOrders=true)(hB:CH ops=true)(he:et env S.live=some e)
  (h:run S sz 400 (.ops true ops ops.toList k e) []=(g',cc)) (hg:∀w1,Ext w w1->Hp w0 w1 L'->ax S sz R (fun w'=>Hp w0 w' L') w1 g') (ho:ir cc:=by((repeat' apply And.intro)<;>first|exact trivial|omega|exact wi (by omega)|exact wu (by omega)|exact wb (by omega)|(refine Sl.nn (by assumption) ?_;omega)|(refine bW (by assumption) ?_;omega)|exact Option.some_ne_none _|assumption|decide)):ax S sz R C w (.code (.code (.region id ops true)::k) env):=
 Jd (fun w'=>Hp w0 w' L') hm hB (hs.ext (Ext.drawn _)) he h (hg _ (Ext.drawn _) (hs.ext (Ext.drawn _))) ho
theorem EU {t:TypeId}{ad:Addr}{d:Nat}{v:Value}[hS:S.Ok](hl:∀w',C w'->(loadVar t ad).run S.P w'= .ok v w')(hp:ops.toList.take (ops.toList.length-rest.length)++rest=ops.toList)
  (h:run S sz 400 (.ops true ops rest k ((d,v)::env)) []=(g',cc)) (hg:ax S sz R C w g') (ho:ir cc:=by((repeat' apply And.intro)<;>first|exact trivial|omega|exact wi (by omega)|exact wu (by omega)|exact wb (by omega)|(refine Sl.nn (by assumption) ?_;omega)|(refine bW (by assumption) ?_;omega)|exact Option.some_ne_none _|assumption|decide)):ax S sz R C w (.act (.load t ad) ⟨true,ops,rest,some d,k,env⟩):=
 Gc rfl hl (o9 (fun _=>⟨_,hp.symm⟩) h hg ho)
theorem TZ {l:List Oper}[hS:S.Ok](hp:ops.toList.take (ops.toList.length-l.length)++l=ops.toList)
  (h:run S sz 400 (.ops true ops l k env) []=(g',cc)) (hg:ax S sz R C w g') (ho:ir cc:=by((repeat' apply And.intro)<;>first|exact trivial|omega|exact wi (by omega)|exact wu (by omega)|exact wb (by omega)|(refine Sl.nn (by assumption) ?_;omega)|(refine bW (by assumption) ?_;omega)|exact Option.some_ne_none _|assumption|decide)):ax S sz R C w (.ops true ops l k env):=
 o9 (fun _=>⟨_,hp.symm⟩) h hg ho
theorem Jk (hC:∀w',Ext w w'->C w')(hp:Hp w0 w F){t:TypeId}{v:Value}{d:Nat}(hk:∀w' b,Ext w w'->Hp w0 w' (rB b t (aL v)::F)->ax S sz R C w' (.ops true ops rest k ((d,.pointer (some ⟨b,0,none⟩))::env))):
  ax S sz R C w (.act (.box t v) ⟨true,ops,rest,some d,k,env⟩):=
 xz rfl rfl (Bg v) ⟨fun _=>hC _ (Ext.alloc _ _),hk _ _ (Ext.alloc _ _) (hp.IV rfl (Ext.alloc _ _) (j5.new _ _ _))⟩
theorem Bi (hC:∀w',Ext w w'->C w')(hp:Hp w0 w F){t:TypeId}{i:TI}{d:Nat}[hS:S.Ok](hi:tl S.tt t=some i)(hk:∀w' b,Ext w w'->Hp w0 w' (rB b t (aL i.zero)::F)->ax S sz R C w' (.ops true ops rest k ((d,.pointer (some ⟨b,0,none⟩))::env))):
  ax S sz R C w (.act (.alloc t) ⟨true,ops,rest,some d,k,env⟩):=
 xz rfl rfl (uO hS.tt hi) ⟨fun _=>hC _ (Ext.alloc _ _),hk _ _ (Ext.alloc _ _) (hp.IV rfl (Ext.alloc _ _) (j5.new _ _ _))⟩
theorem CU (hC:∀w',Ext w w'->C w')(hp:Hp w0 w F){α:Type}(enc:α->List Value)(M:List α){t e:TypeId}{i j:TI}{nn:Nat}{parts:List (Nat×Value)}{cs:List Value}{d:Nat}[hS:S.Ok](hi:tl S.tt t=some i)(hd:i.desc= .slice e)(hj:tl S.tt e=some j)(hz:(aL j.zero).length=j.size){s:Nat}(lQ:j.size=s)(iA:0<s)
  (he:bX enc s) (hc:gV S.tt e nn parts=some cs) (hM:M.flatMap enc=cs) (hn:M.length=nn) (hb:nn*s<=16777216)
  (hk:∀w' b,Ext w w'->Hp w0 w' (rO e s enc (some ⟨b,0,none⟩) M.length M::F)->ax S sz R C w' (.ops true ops rest k ((d,.slice (some ⟨b,0,none⟩) M.length M.length)::env))):
  ax S sz R C w (.act (.buildSlice t nn parts) ⟨true,ops,rest,some d,k,env⟩):=by
 subst lQ
 subst hn
 have hr:=wE (P:=S.P) (w:=w) hS.tt hi hd hj hz iA hc hb
 refine xz (v:= .slice (some ⟨w.heap.size,0,none⟩) M.length M.length) (w':=w.alloc (.cells ⟨cs⟩ e)) rfl rfl (by simp only[Action.lO,Sem.run_bind,hr,Result.andThen_ok,Sem.run_pure]) ?_
 have hm:M.length<=maxLen:=by
  have:=Nat.le_mul_of_pos_right M.length iA
  unfold maxLen;omega
 exact⟨fun _=>hC _ (Ext.alloc _ _),hk _ _ (Ext.alloc _ _) (hp.eH (Ext.alloc _ _) (dk.lit w e cs M he hM hm))⟩
theorem xF {α:Type}[Inhabited α]{enc:α->List Value}{L:List α}(M:List α){t u e ty:TypeId}{a sa:Option Addr}{c sc:Nat}{s:Nat}(hp:Hp w0 w (rO e s enc a c L::F))(hC:∀w',bH ops rest=true->(∀a' c',Hp w0 w' (rO e s enc a' c' (L++M)::F)->C w'):=by(intro _ hq;exact absurd hq (by decide))){i j:TI}{m:Nat}(hM:M.length=m){d:Nat}[hS:S.Ok](hi:tl S.tt t=some i)(hd:i.desc= .slice e)(hj:tl S.tt e=some j)(hz:(aL j.zero).length=j.size)(lQ:j.size=s)(iA:0<s)
  (hu:u=t) (he:bX enc s) (hs:Sl w sa M.length s (fL enc M)) (hm:L.length+M.length<=maxLen) (hb:(L.length+M.length)*j.bytes<=140737488355328)
  (hk:∀a' c' w',Hp w0 w' (rO e s enc a' c' (L++M)::F)->F6 (lP a).toList w w'->(a'=none↔a=none/\M=[])->ax S sz R C w' (.ops true ops rest k ((d,.slice a' (L++M).length c')::env))):
  ax S sz R C w (.act (.append t u ty (.slice a L.length c) (.slice sa m sc)) ⟨true,ops,rest,some d,k,env⟩):=by
 subst lQ
 subst hM
 subst hu
 obtain⟨a',c',w',hr,h1,h2,h3⟩:=qu (P:=S.P) hS.tt hi hd hj hz iA he hp (sc:=sc) hs hm hb ty
 exact xz rfl rfl (by simp only[Action.lO,Sem.run_bind,hr,Result.andThen_ok,Sem.run_pure]) ⟨fun hq=>hC _ hq _ _ h1,hk a' c' w' h1 h2 h3⟩
theorem T0 {b o:Nat}{tb t:TypeId}{cs:List Value}{v:Value}{i:TI}[hS:S.Ok](hp:Hp w0 w (rB b tb cs::F))(hi:tl S.tt t=some i)(hs:i.size=1)(ho:o<cs.length)(hv:v.oneCell'=true)(iM:bH ops rest=false)
  (hk:∀w',Hp w0 w' (rB b tb (cs.set o v)::F)->ax S sz R C w' (.ops true ops rest k env)):ax S sz R C w (.act (.store t ⟨b,o,none⟩ v) ⟨true,ops,rest,none,k,env⟩):=by
 obtain⟨w',r,h,g⟩:=(show j5 w b tb cs from hp.g0).Ph hS.tt hi hs ho hv
 exact nz rfl rfl r ⟨fun hq=>absurd hq (by rw[iM];decide),hk w' (hp.HI h g)⟩
theorem Pm {b:Nat}{tb t:TypeId}{cs vs:List Value}{i:TI}[hS:S.Ok](hp:Hp w0 w (rB b tb cs::F))(hi:tl S.tt t=some i)(hs:i.size=vs.length)(hl:cs.length=vs.length)(h1:∀v∈vs,v.oneCell'=true)(iM:bH ops rest=false)
  (hk:∀w',Hp w0 w' (rB b tb vs::F)->ax S sz R C w' (.ops true ops rest k env)):ax S sz R C w (.act (.store t ⟨b,0,none⟩ (.agg ⟨vs⟩)) ⟨true,ops,rest,none,k,env⟩):=by
 obtain⟨w',r,h,g⟩:=j5.Bf hS.tt hi (show j5 w b tb cs from hp.g0) hs hl h1
 exact nz rfl rfl r ⟨fun hq=>absurd hq (by rw[iM];decide),hk w' (hp.HI h g)⟩
theorem T4 {α:Type}{enc:α->List Value}{e t:TypeId}{a:Option Addr}{c s:Nat}{L:List α}(hp:Hp w0 w (rO e s enc a c L::F)){i:TI}[hS:S.Ok](hi:tl S.tt t=some i)(hs:i.size=1)(he:bX enc s){z:Int}{x y:α}{v:Value}(hx:L[z.toNat]?=some x)(hj:0<s)(hy:enc y=(enc x).set 0 v)(hv:v.oneCell'=true)(iM:bH ops rest=false)
  (hk:∀w',Hp w0 w' (rO e s enc a c (L.set z.toNat y)::F)->ax S sz R C w' (.ops true ops rest k env)):ax S sz R C w (.act (.store t (aE a s z) v) ⟨true,ops,rest,none,k,env⟩):=by
 obtain⟨w',r,h,g⟩:=hp.own.X0 hS.tt hi hs he hx hj hy hv
 exact nz rfl rfl r ⟨fun hq=>absurd hq (by rw[iM];decide),hk w' (hp.HJ h g)⟩
theorem T5 {α:Type}{enc:α->List Value}{e t:TypeId}{a:Option Addr}{c s:Nat}{L:List α}(hp:Hp w0 w (rO e s enc a c L::F)){i:TI}[hS:S.Ok](hi:tl S.tt t=some i)(hs:i.size=1)(he:bX enc s){z:Int}{j:Nat}{x y:α}{v:Value}(hx:L[z.toNat]?=some x)(hj:j<s)(hy:enc y=(enc x).set j v)(hv:v.oneCell'=true)(iM:bH ops rest=false)
  (hk:∀w',Hp w0 w' (rO e s enc a c (L.set z.toNat y)::F)->ax S sz R C w' (.ops true ops rest k env)):ax S sz R C w (.act (.store t (jm (aE a s z) j) v) ⟨true,ops,rest,none,k,env⟩):=by
 obtain⟨w',r,h,g⟩:=hp.own.Ph hS.tt hi hs he hx hj hy hv
 exact nz rfl rfl r ⟨fun hq=>absurd hq (by rw[iM];decide),hk w' (hp.HJ h g)⟩
theorem Hp.lP {w0 w:World}{b:Nat}{t:TypeId}{cs:List Value}{L:List bg}(h:Hp w0 w (rB b t cs::L)):j5 w b t cs:=h.g0
theorem Hp.sl {α:Type}[Inhabited α]{enc:α->List Value}{e:TypeId}{s:Nat}{a:Option Addr}{c:Nat}{X:List α}{L:List bg}{w0 w:World}(h:Hp w0 w (rO e s enc a c X::L))(he:bX enc s):Sl w a X.length s (fL enc X):=h.own.sl he.len
end
def r5 (tt:TT)(t:TypeId)(cs:List Value)(o:Nat):Option Value:=
 match mz tt t with
 |some false=>sA cs o
 |some true=>match tl tt t with
  |some i=>match vz i.size (zY o cs) with
   |some l=>some (.agg ⟨l⟩)
   |none=>none
  |none=>none
 |none=>none
theorem pe {P:Program}{tt:TT}{t:TypeId}{w:World}(aS:gJ P tt){b o:Nat}{tb:TypeId}{cs:List Value}{v:Value}(h:j5 w b tb cs)(hv:r5 tt t cs o=some v):(loadVar t ⟨b,o,none⟩).run P w= .ok v w:=by
 unfold r5 at hv
 split at hv
 ·rename_i ha
  exact Pb aS ha h hv
 ·rename_i ha
  split at hv
  ·rename_i i hi
   split at hv
   ·rename_i l hl
    injection hv with hv
    subst hv
    exact LC aS ha hi h hl
   ·cases hv
  ·cases hv
 ·cases hv
theorem Gf {α:Type}[Inhabited α]{enc:α->List Value}{X:List α}{i j:Nat}{u:Value}(h:(enc (X.getD i default))[j]?=some u):fL enc X i j=u:=by
 simp only[fL,kW,h]
theorem Bj {P:Program}{tt:TT}{t:TypeId}{w:World}(aS:gJ P tt){α:Type}[Inhabited α]{enc:α->List Value}{X:List α}{a:Option Addr}{s:Nat}(he:bX enc s){z:Int}{j:Nat}{v:Value}(h:Sl w a X.length s (fL enc X))(h0:0<=z)(h1:z<X.length)
  (hv:r5 tt t (enc (X.getD z.toNat default)) j=some v):(loadVar t (jm (aE a s z) j)).run P w= .ok v w:=by
 have hlen:=he.len (X.getD z.toNat default)
 unfold r5 at hv
 split at hv
 ·rename_i ha
  rw[kW] at hv
  have hj:j<s:=by
   rw[<-hlen]
   exact(List.getElem?_eq_some_iff.1 hv).1
  rw[<-Gf (X:=X) hv]
  exact TN aS ha h h0 h1 hj
 ·rename_i ha
  split at hv
  ·rename_i i hi
   split at hv
   ·rename_i l hl
    injection hv with hv
    subst hv
    obtain⟨h2,h3⟩:=xg hl
    rw[xh] at h2 h3
    rw[List.length_drop,hlen] at h3
    refine CP aS ha hi (by rw[h2,List.length_take,List.length_drop,hlen];omega) fun q u hu=> ?_
    rw[h2,List.getElem?_take] at hu
    split at hu
    ·rename_i hq
     rw[List.getElem?_drop] at hu
     have bD:j+q<s:=by
      rw[<-hlen]
      exact(List.getElem?_eq_some_iff.1 hu).1
     have h4:=h.at_ h0 h1 bD
     rw[Gf (X:=X) hu,iN] at h4
     rw[iN,mB]
     exact h4
    ·cases hu
   ·cases hv
  ·cases hv
 ·cases hv
theorem Bl {P:Program}{tt:TT}{t:TypeId}{w:World}(aS:gJ P tt){α:Type}[Inhabited α]{enc:α->List Value}{X:List α}{a:Option Addr}{s:Nat}(he:bX enc s){z:Int}{v:Value}(h:Sl w a X.length s (fL enc X))(h0:0<=z)(h1:z<X.length)
  (hv:r5 tt t (enc (X.getD z.toNat default)) 0=some v):(loadVar t (aE a s z)).run P w= .ok v w:=by
 have hq:jm (aE a s z) 0=aE a s z:=by rw[iN];simp[Addr.add]
 have:=Bj aS he h h0 h1 hv
 rwa[hq] at this
class CV (w0:World)(L:List bg)(b:Nat)(t:outParam TypeId)(cs:outParam (List Value)):Prop where
 h:∀w,Hp w0 w L->j5 w b t cs
instance CV.head {w0:World}{L:List bg}{b:Nat}{t:TypeId}{cs:List Value}:CV w0 (rB b t cs::L) b t cs:=⟨fun _ hp=>hp.g0⟩
instance CV.tail {w0:World}{L:List bg}{R:bg}{b:Nat}{t:TypeId}{cs:List Value}[h:CV w0 L b t cs]:CV w0 (R::L) b t cs:=⟨fun w hp=>h.h w hp.drop⟩
instance (priority:=low) gm.base {w0:World}{L:List bg}{a:Option Addr}{α:Type}[Inhabited α]{s:Nat}{enc:α->List Value}{X:List α}[h:Rd w0 a s enc X]:gm w0 L a s enc X:=⟨fun _ hp=>h.h.ext hp.x⟩
instance gm.head {w0:World}{L:List bg}{a:Option Addr}{α:Type}[Inhabited α]{s:Nat}{enc:α->List Value}{X:List α}{e:TypeId}{c:Nat}[he:bX enc s]:gm w0 (rO e s enc a c X::L) a s enc X:=⟨fun _ hp=>hp.sl he⟩
instance gm.tail {w0:World}{L:List bg}{R:bg}{a:Option Addr}{α:Type}[Inhabited α]{s:Nat}{enc:α->List Value}{X:List α}[h:gm w0 L a s enc X]:gm w0 (R::L) a s enc X:=⟨fun w hp=>h.h w hp.drop⟩
theorem Rd.ext {w w':World}{a:Option Addr}{α:Type}[Inhabited α]{s:Nat}{enc:α->List Value}{X:List α}(h:Rd w a s enc X)(hx:Ext w w'):Rd w' a s enc X:=⟨h.h.ext hx⟩
theorem Hp.rd {w0 w:World}{L:List bg}(hp:Hp w0 w L){a:Option Addr}{α:Type}[Inhabited α]{s:Nat}{enc:α->List Value}{X:List α}[h:gm w0 L a s enc X]:Rd w a s enc X:=⟨h.h w hp⟩
section
variable {S:ak} {sz:Nat} {R:Value->World->Prop} {C:World->Prop} {w:World} {g':G} {cc:List Prop}
variable {ops:Array Oper} {rest:List Oper} {k:List Item} {env:Env} {w0:World} {F:List bg}
theorem T6 {b o:Nat}{tb t:TypeId}{cs:List Value}{v:Value}{d:Nat}[hS:S.Ok](hp:Hp w0 w F)[hb:CV w0 F b tb cs](hv:r5 S.tt t cs o=some v)
  (h:run S sz 400 (.ops false ops rest k ((d,v)::env)) []=(g',cc)) (hg:ax S sz R C w g') (ho:ir cc:=by((repeat' apply And.intro)<;>first|exact trivial|omega|exact wi (by omega)|exact wu (by omega)|exact wb (by omega)|(refine Sl.nn (by assumption) ?_;omega)|(refine bW (by assumption) ?_;omega)|exact Option.some_ne_none _|assumption|decide)):ax S sz R C w (.act (.load t ⟨b,o,none⟩) ⟨false,ops,rest,some d,k,env⟩):=
 xB (pe hS.tt (hb.h w hp) hv) h hg ho
theorem NN {s1:Nat}{α:Type}[Inhabited α]{enc:α->List Value}{X:List α}{a:Option Addr}{s:Nat}[he:bX enc s]{z:Int}{j:Nat}{t:TypeId}{v:Value}{d:Nat}[hS:S.Ok](hp:Hp w0 w F)[hr:gm w0 F a s enc X](jw:s1=s)(h0:0<=z)(h1:z<X.length)(hv:r5 S.tt t (enc (X.getD z.toNat default)) j=some v)
  (h:run S sz 400 (.ops false ops rest k ((d,v)::env)) []=(g',cc)) (hg:ax S sz R C w g') (ho:ir cc:=by((repeat' apply And.intro)<;>first|exact trivial|omega|exact wi (by omega)|exact wu (by omega)|exact wb (by omega)|(refine Sl.nn (by assumption) ?_;omega)|(refine bW (by assumption) ?_;omega)|exact Option.some_ne_none _|assumption|decide)):ax S sz R C w (.act (.load t (jm (aE a s1 z) j)) ⟨false,ops,rest,some d,k,env⟩):=by
 subst jw
 exact xB (Bj hS.tt he (hr.h w hp) h0 h1 hv) h hg ho
theorem NO {s1:Nat}{α:Type}[Inhabited α]{enc:α->List Value}{X:List α}{a:Option Addr}{s:Nat}[he:bX enc s]{z:Int}{t:TypeId}{v:Value}{d:Nat}[hS:S.Ok](hp:Hp w0 w F)[hr:gm w0 F a s enc X](jw:s1=s)(h0:0<=z)(h1:z<X.length)(hv:r5 S.tt t (enc (X.getD z.toNat default)) 0=some v)
  (h:run S sz 400 (.ops false ops rest k ((d,v)::env)) []=(g',cc)) (hg:ax S sz R C w g') (ho:ir cc:=by((repeat' apply And.intro)<;>first|exact trivial|omega|exact wi (by omega)|exact wu (by omega)|exact wb (by omega)|(refine Sl.nn (by assumption) ?_;omega)|(refine bW (by assumption) ?_;omega)|exact Option.some_ne_none _|assumption|decide)):ax S sz R C w (.act (.load t (aE a s1 z)) ⟨false,ops,rest,some d,k,env⟩):=by
 subst jw
 exact xB (Bl hS.tt he (hr.h w hp) h0 h1 hv) h hg ho
theorem Jl {L':List bg}{b o:Nat}{tb t:TypeId}{cs:List Value}{v:Value}{d:Nat}[hS:S.Ok][hb:CV w0 L' b tb cs](hv:r5 S.tt t cs o=some v)(cj:ops.toList.take (ops.toList.length-rest.length)++rest=ops.toList)
  (h:run S sz 400 (.ops true ops rest k ((d,v)::env)) []=(g',cc)) (hg:ax S sz R (fun w'=>Hp w0 w' L') w g') (ho:ir cc:=by((repeat' apply And.intro)<;>first|exact trivial|omega|exact wi (by omega)|exact wu (by omega)|exact wb (by omega)|(refine Sl.nn (by assumption) ?_;omega)|(refine bW (by assumption) ?_;omega)|exact Option.some_ne_none _|assumption|decide)):ax S sz R (fun w'=>Hp w0 w' L') w (.act (.load t ⟨b,o,none⟩) ⟨true,ops,rest,some d,k,env⟩):=
 EU (fun w hp=>pe hS.tt (hb.h w hp) hv) cj h hg ho
theorem iZ {s1:Nat}{L':List bg}{α:Type}[Inhabited α]{enc:α->List Value}{X:List α}{a:Option Addr}{s:Nat}[he:bX enc s]{z:Int}{j:Nat}{t:TypeId}{v:Value}{d:Nat}[hS:S.Ok][hr:gm w0 L' a s enc X](jw:s1=s)(h0:0<=z)(h1:z<X.length)(hv:r5 S.tt t (enc (X.getD z.toNat default)) j=some v)(cj:ops.toList.take (ops.toList.length-rest.length)++rest=ops.toList)
  (h:run S sz 400 (.ops true ops rest k ((d,v)::env)) []=(g',cc)) (hg:ax S sz R (fun w'=>Hp w0 w' L') w g') (ho:ir cc:=by((repeat' apply And.intro)<;>first|exact trivial|omega|exact wi (by omega)|exact wu (by omega)|exact wb (by omega)|(refine Sl.nn (by assumption) ?_;omega)|(refine bW (by assumption) ?_;omega)|exact Option.some_ne_none _|assumption|decide)):ax S sz R (fun w'=>Hp w0 w' L') w (.act (.load t (jm (aE a s1 z) j)) ⟨true,ops,rest,some d,k,env⟩):=by
 subst jw
 exact EU (fun w hp=>Bj hS.tt he (hr.h w hp) h0 h1 hv) cj h hg ho
theorem jr {s1:Nat}{L':List bg}{α:Type}[Inhabited α]{enc:α->List Value}{X:List α}{a:Option Addr}{s:Nat}[he:bX enc s]{z:Int}{t:TypeId}{v:Value}{d:Nat}[hS:S.Ok][hr:gm w0 L' a s enc X](jw:s1=s)(h0:0<=z)(h1:z<X.length)(hv:r5 S.tt t (enc (X.getD z.toNat default)) 0=some v)(cj:ops.toList.take (ops.toList.length-rest.length)++rest=ops.toList)
  (h:run S sz 400 (.ops true ops rest k ((d,v)::env)) []=(g',cc)) (hg:ax S sz R (fun w'=>Hp w0 w' L') w g') (ho:ir cc:=by((repeat' apply And.intro)<;>first|exact trivial|omega|exact wi (by omega)|exact wu (by omega)|exact wb (by omega)|(refine Sl.nn (by assumption) ?_;omega)|(refine bW (by assumption) ?_;omega)|exact Option.some_ne_none _|assumption|decide)):ax S sz R (fun w'=>Hp w0 w' L') w (.act (.load t (aE a s1 z)) ⟨true,ops,rest,some d,k,env⟩):=by
 subst jw
 exact EU (fun w hp=>Bl hS.tt he (hr.h w hp) h0 h1 hv) cj h hg ho
end
class Pn (L:List bg)(R:bg)(f:outParam (bg->List bg)):Prop where
 h:∃M,L.Perm (R::M)/\∀R',(f R').Perm (R'::M)
instance Pn.head {L:List bg}{R:bg}:Pn (R::L) R (fun R'=>R'::L):=⟨L,.refl _,fun _=> .refl _⟩
instance Pn.tail {L:List bg}{R A:bg}{f:bg->List bg}[h:Pn L R f]:Pn (A::L) R (fun R'=>A::f R'):=by
 obtain⟨M,h1,h2⟩:=h.h
 exact⟨A::M,(h1.cons A).trans (.swap _ _ _),fun R'=>((h2 R').cons A).trans (.swap _ _ _)⟩
class uS (L:List bg)(b:Nat)(t:outParam TypeId)(cs:outParam (List Value))(f:outParam (List Value->List bg)):Prop where
 h:∃M,L.Perm (rB b t cs::M)/\∀zS,(f zS).Perm (rB b t zS::M)
instance uS.head {L:List bg}{b:Nat}{t:TypeId}{cs:List Value}:uS (rB b t cs::L) b t cs (fun zS=>rB b t zS::L):=⟨L,.refl _,fun _=> .refl _⟩
instance uS.tail {L:List bg}{A:bg}{b:Nat}{t:TypeId}{cs:List Value}{f:List Value->List bg}[h:uS L b t cs f]:uS (A::L) b t cs (fun zS=>A::f zS):=by
 obtain⟨M,h1,h2⟩:=h.h
 exact⟨A::M,(h1.cons A).trans (.swap _ _ _),fun R'=>((h2 R').cons A).trans (.swap _ _ _)⟩
class nm (L:List bg)(a:Option Addr){α:outParam Type}(e:outParam TypeId)(s:outParam Nat)(enc:outParam (α->List Value))(c:outParam Nat)(X:outParam (List α))(f:outParam (Option Addr->Nat->List α->List bg)):Prop where
 h:∃M,L.Perm (rO e s enc a c X::M)/\∀a' c' X',(f a' c' X').Perm (rO e s enc a' c' X'::M)
instance nm.head {L:List bg}{a:Option Addr}{α:Type}{e:TypeId}{s:Nat}{enc:α->List Value}{c:Nat}{X:List α}:nm (rO e s enc a c X::L) a e s enc c X (fun a' c' X'=>rO e s enc a' c' X'::L):=⟨L,.refl _,fun _ _ _=> .refl _⟩
instance nm.tail {L:List bg}{A:bg}{a:Option Addr}{α:Type}{e:TypeId}{s:Nat}{enc:α->List Value}{c:Nat}{X:List α}{f:Option Addr->Nat->List α->List bg}[h:nm L a e s enc c X f]:nm (A::L) a e s enc c X (fun a' c' X'=>A::f a' c' X'):=by
 obtain⟨M,h1,h2⟩:=h.h
 exact⟨A::M,(h1.cons A).trans (.swap _ _ _),fun a' c' X'=>((h2 a' c' X').cons A).trans (.swap _ _ _)⟩
theorem Hp.at_ {w0 w:World}{L:List bg}(hp:Hp w0 w L)(R:bg){f:bg->List bg}[h:Pn L R f]:∃M,Hp w0 w (R::M)/\∀w' R',Hp w0 w' (R'::M)->Hp w0 w' (f R'):=by
 obtain⟨M,h1,h2⟩:=h.h
 exact⟨M,hp.perm h1,fun w' R' nL=>nL.perm (h2 R').symm⟩
theorem Hp.take {w0 w:World}{L:List bg}(hp:Hp w0 w L)(R:bg){f:bg->List bg}[h:Pn L R f]:R.P w:=by
 obtain⟨M,h1,_⟩:=h.h
 exact(hp.perm h1).g0
def sI:List Value->Option (List Int)
 |[]=>some []
 | .int .i64 x::r=>match sI r with
  |some l=>some (x::l)
  |none=>none
 |_=>none
theorem re:∀{cs:List Value} {M:List Int},sI cs=some M->M.flatMap eI=cs
 |[],M,h=>by injection h with h;subst h;rfl
 |v::r,M,h=>by
  unfold sI at h
  split at h
  ·rename_i h0;cases h0
  ·rename_i x r' heq
   injection heq with h1 h2
   subst h1;subst h2
   split at h
   ·rename_i l hl
    injection h with h
    subst h
    rw[List.flatMap_cons,re hl]
    rfl
   ·cases h
  ·cases h
section
variable {S:ak} {sz:Nat} {R:Value->World->Prop} {C:World->Prop} {w:World} {g':G} {cc:List Prop}
variable {ops:Array Oper} {rest:List Oper} {k:List Item} {env:Env} {w0:World} {F:List bg}
theorem T7 {b o:Nat}{tb t:TypeId}{cs:List Value}{f:List Value->List bg}{v:Value}{i:TI}[hS:S.Ok](hp:Hp w0 w F)[hu:uS F b tb cs f](hi:tl S.tt t=some i)(hs:i.size=1)(ho:Nat.ble (o+1) cs.length=true)(hv:v.oneCell'=true)
  (hk:∀w',Hp w0 w' (f (cs.set o v))->ax S sz R C w' (.ops false ops rest k env)):ax S sz R C w (.act (.store t ⟨b,o,none⟩ v) ⟨false,ops,rest,none,k,env⟩):=by
 obtain⟨M,h1,h2⟩:=hu.h
 exact TW (hp.perm h1) hi hs (Nat.le_of_ble_eq_true ho) hv fun w' nL=>hk w' (nL.perm (h2 _).symm)
theorem Po {b:Nat}{tb t:TypeId}{cs vs:List Value}{f:List Value->List bg}{i:TI}[hS:S.Ok](hp:Hp w0 w F)[hu:uS F b tb cs f](hi:tl S.tt t=some i)(hs:i.size=vs.length)(hl:Nat.beq cs.length vs.length=true)(h1:vs.all Value.oneCell'=true)
  (hk:∀w',Hp w0 w' (f vs)->ax S sz R C w' (.ops false ops rest k env)):ax S sz R C w (.act (.store t ⟨b,0,none⟩ (.agg ⟨vs⟩)) ⟨false,ops,rest,none,k,env⟩):=by
 obtain⟨M,h3,h2⟩:=hu.h
 exact Pk (hp.perm h3) hi hs (Nat.eq_of_beq_eq_true hl) (fun v hv=>List.all_eq_true.1 h1 v hv) fun w' nL=>hk w' (nL.perm (h2 _).symm)
theorem kj {s1:Nat}{α:Type}[Inhabited α]{enc:α->List Value}{e t:TypeId}{a:Option Addr}{c s:Nat}{X:List α}{f:Option Addr->Nat->List α->List bg}(hp:Hp w0 w F)[hu:nm F a e s enc c X f][he:bX enc s]{i:TI}[hS:S.Ok](jw:s1=s)(hi:tl S.tt t=some i)(hs:i.size=1){z:Int}(hz:z.toNat<X.length){y:α}{v:Value}(hj:0<s)(hy:enc y=(enc (X.getD z.toNat default)).set 0 v)(hv:v.oneCell'=true)
  (hk:∀w',Hp w0 w' (f a c (X.set z.toNat y))->ax S sz R C w' (.ops false ops rest k env)):ax S sz R C w (.act (.store t (aE a s1 z) v) ⟨false,ops,rest,none,k,env⟩):=by
 subst jw
 obtain⟨M,h1,h2⟩:=hu.h
 exact TX (hp.perm h1) hi hs he (getD_some hz) hj hy hv fun w' nL=>hk w' (nL.perm (h2 _ _ _).symm)
theorem NP {s1:Nat}{α:Type}[Inhabited α]{enc:α->List Value}{e t:TypeId}{a:Option Addr}{c s:Nat}{X:List α}{f:Option Addr->Nat->List α->List bg}(hp:Hp w0 w F)[hu:nm F a e s enc c X f][he:bX enc s]{i:TI}[hS:S.Ok](y:α)(jw:s1=s)(hi:tl S.tt t=some i)(hs:i.size=1){z:Int}{j:Nat}(hz:z.toNat<X.length){v:Value}(hj:j<s)(hy:enc y=(enc (X.getD z.toNat default)).set j v)(hv:v.oneCell'=true)
  (hk:∀w',Hp w0 w' (f a c (X.set z.toNat y))->ax S sz R C w' (.ops false ops rest k env)):ax S sz R C w (.act (.store t (jm (aE a s1 z) j) v) ⟨false,ops,rest,none,k,env⟩):=by
 subst jw
 obtain⟨M,h1,h2⟩:=hu.h
 exact TY (hp.perm h1) hi hs he (getD_some hz) hj hy hv fun w' nL=>hk w' (nL.perm (h2 _ _ _).symm)
theorem Pp (hp:Hp w0 w F){t e:TypeId}{i j:TI}{nn:Nat}{parts:List (Nat×Value)}{cs:List Value}{M:List Int}{d:Nat}[hS:S.Ok](hi:tl S.tt t=some i)(hd:i.desc= .slice e)(hj:tl S.tt e=some j)(hz:(aL j.zero).length=j.size)(lQ:j.size=1)(_:j.desc= .int .i64)
  (hc:gV S.tt e nn parts=some cs) (hM:sI cs=some M) (hn:M.length=nn) (hb:Nat.ble (nn*1) 16777216=true)
  (hk:∀w' b,Ext w w'->Hp w0 w' (rO e 1 eI (some ⟨b,0,none⟩) M.length M::F)->ax S sz R C w' (.ops false ops rest k ((d,.slice (some ⟨b,0,none⟩) M.length M.length)::env))):
  ax S sz R C w (.act (.buildSlice t nn parts) ⟨false,ops,rest,some d,k,env⟩):=
 r4 hp eI M hi hd hj hz lQ (by decide) tC hc (re hM) hn (Nat.le_of_ble_eq_true hb) hk
theorem CW {α:Type}[Inhabited α]{enc:α->List Value}{X Y:List α}{t u e ty:TypeId}{a sa:Option Addr}{c sc n:Nat}{s:Nat}{f:Option Addr->Nat->List α->List bg}(hp:Hp w0 w F)[hq:nm F a e s enc c X f][he:bX enc s][hr:gm w0 F sa s enc Y]{i j:TI}{m:Nat}(hn:X.length=n)(hM:Y.length=m){d:Nat}[hS:S.Ok](hi:tl S.tt t=some i)(hd:i.desc= .slice e)(hj:tl S.tt e=some j)(hz:(aL j.zero).length=j.size)(lQ:j.size=s)(iA:0<s)
  (hu:u=t) (hm:X.length+Y.length<=1000000000) {Gg:Nat} (LL:j.bytes=Gg) (A3:Nat.ble Gg 1000=true)
  (hk:∀a' c' w',Hp w0 w' (f a' c' (X++Y))->(a'=none↔a=none/\Y=[])->ax S sz R C w' (.ops false ops rest k ((d,.slice a' (X++Y).length c')::env))):
  ax S sz R C w (.act (.append t u ty (.slice a n c) (.slice sa m sc)) ⟨false,ops,rest,some d,k,env⟩):=by
 obtain⟨M,h1,h2⟩:=hq.h
 subst hn
 refine Ji Y (hp.perm h1) hM hi hd hj hz lQ iA hu he (hr.h w hp) (by unfold maxLen;omega) ?_ fun a' c' w' nL _ h3=>hk a' c' w' (nL.perm (h2 _ _ _).symm) h3
 have:=Nat.le_of_ble_eq_true A3
 rw[LL]
 have:=Nat.mul_le_mul hm this
 omega
theorem CX {b o:Nat}{tb t:TypeId}{cs:List Value}{f:List Value->List bg}{v:Value}{i:TI}[hS:S.Ok](hp:Hp w0 w F)[hu:uS F b tb cs f](hi:tl S.tt t=some i)(hs:i.size=1)(ho:Nat.ble (o+1) cs.length=true)(hv:v.oneCell'=true)(iM:bH ops rest=false)
  (hk:∀w',Hp w0 w' (f (cs.set o v))->ax S sz R C w' (.ops true ops rest k env)):ax S sz R C w (.act (.store t ⟨b,o,none⟩ v) ⟨true,ops,rest,none,k,env⟩):=by
 obtain⟨M,h1,h2⟩:=hu.h
 exact T0 (hp.perm h1) hi hs (Nat.le_of_ble_eq_true ho) hv iM fun w' nL=>hk w' (nL.perm (h2 _).symm)
theorem xG {b:Nat}{tb t:TypeId}{cs vs:List Value}{f:List Value->List bg}{i:TI}[hS:S.Ok](hp:Hp w0 w F)[hu:uS F b tb cs f](hi:tl S.tt t=some i)(hs:i.size=vs.length)(hl:Nat.beq cs.length vs.length=true)(h1:vs.all Value.oneCell'=true)(iM:bH ops rest=false)
  (hk:∀w',Hp w0 w' (f vs)->ax S sz R C w' (.ops true ops rest k env)):ax S sz R C w (.act (.store t ⟨b,0,none⟩ (.agg ⟨vs⟩)) ⟨true,ops,rest,none,k,env⟩):=by
 obtain⟨M,h3,h2⟩:=hu.h
 exact Pm (hp.perm h3) hi hs (Nat.eq_of_beq_eq_true hl) (fun v hv=>List.all_eq_true.1 h1 v hv) iM fun w' nL=>hk w' (nL.perm (h2 _).symm)
theorem CY {s1:Nat}{α:Type}[Inhabited α]{enc:α->List Value}{e t:TypeId}{a:Option Addr}{c s:Nat}{X:List α}{f:Option Addr->Nat->List α->List bg}(hp:Hp w0 w F)[hu:nm F a e s enc c X f][he:bX enc s]{i:TI}[hS:S.Ok](jw:s1=s)(hi:tl S.tt t=some i)(hs:i.size=1){z:Int}(hz:z.toNat<X.length){y:α}{v:Value}(hj:0<s)(hy:enc y=(enc (X.getD z.toNat default)).set 0 v)(hv:v.oneCell'=true)(iM:bH ops rest=false)
  (hk:∀w',Hp w0 w' (f a c (X.set z.toNat y))->ax S sz R C w' (.ops true ops rest k env)):ax S sz R C w (.act (.store t (aE a s1 z) v) ⟨true,ops,rest,none,k,env⟩):=by
 subst jw
 obtain⟨M,h1,h2⟩:=hu.h
 exact T4 (hp.perm h1) hi hs he (getD_some hz) hj hy hv iM fun w' nL=>hk w' (nL.perm (h2 _ _ _).symm)
theorem Gh {s1:Nat}{α:Type}[Inhabited α]{enc:α->List Value}{e t:TypeId}{a:Option Addr}{c s:Nat}{X:List α}{f:Option Addr->Nat->List α->List bg}(hp:Hp w0 w F)[hu:nm F a e s enc c X f][he:bX enc s]{i:TI}[hS:S.Ok](y:α)(jw:s1=s)(hi:tl S.tt t=some i)(hs:i.size=1){z:Int}{j:Nat}(hz:z.toNat<X.length){v:Value}(hj:j<s)(hy:enc y=(enc (X.getD z.toNat default)).set j v)(hv:v.oneCell'=true)(iM:bH ops rest=false)
  (hk:∀w',Hp w0 w' (f a c (X.set z.toNat y))->ax S sz R C w' (.ops true ops rest k env)):ax S sz R C w (.act (.store t (jm (aE a s1 z) j) v) ⟨true,ops,rest,none,k,env⟩):=by
 subst jw
 obtain⟨M,h1,h2⟩:=hu.h
 exact T5 (hp.perm h1) hi hs he (getD_some hz) hj hy hv iM fun w' nL=>hk w' (nL.perm (h2 _ _ _).symm)
theorem sJ (hC:∀w',Ext w w'->C w')(hp:Hp w0 w F){t e:TypeId}{i j:TI}{nn:Nat}{parts:List (Nat×Value)}{cs:List Value}{M:List Int}{d:Nat}[hS:S.Ok](hi:tl S.tt t=some i)(hd:i.desc= .slice e)(hj:tl S.tt e=some j)(hz:(aL j.zero).length=j.size)(lQ:j.size=1)(_:j.desc= .int .i64)
  (hc:gV S.tt e nn parts=some cs) (hM:sI cs=some M) (hn:M.length=nn) (hb:Nat.ble (nn*1) 16777216=true)
  (hk:∀w' b,Ext w w'->Hp w0 w' (rO e 1 eI (some ⟨b,0,none⟩) M.length M::F)->ax S sz R C w' (.ops true ops rest k ((d,.slice (some ⟨b,0,none⟩) M.length M.length)::env))):
  ax S sz R C w (.act (.buildSlice t nn parts) ⟨true,ops,rest,some d,k,env⟩):=
 CU hC hp eI M hi hd hj hz lQ (by decide) tC hc (re hM) hn (Nat.le_of_ble_eq_true hb) hk
theorem gW {α:Type}[Inhabited α]{enc:α->List Value}{X Y:List α}{t u e ty:TypeId}{a sa:Option Addr}{c sc n:Nat}{s:Nat}{f:Option Addr->Nat->List α->List bg}(hp:Hp w0 w F)[hq:nm F a e s enc c X f][he:bX enc s][hr:gm w0 F sa s enc Y]{i j:TI}{m:Nat}(hn:X.length=n)(hM:Y.length=m){d:Nat}[hS:S.Ok](hi:tl S.tt t=some i)(hd:i.desc= .slice e)(hj:tl S.tt e=some j)(hz:(aL j.zero).length=j.size)(lQ:j.size=s)(iA:0<s)
  (hu:u=t) (hm:X.length+Y.length<=1000000000) {Gg:Nat} (LL:j.bytes=Gg) (A3:Nat.ble Gg 1000=true) (iM:bH ops rest=false)
  (hk:∀a' c' w',Hp w0 w' (f a' c' (X++Y))->(a'=none↔a=none/\Y=[])->ax S sz R C w' (.ops true ops rest k ((d,.slice a' (X++Y).length c')::env))):
  ax S sz R C w (.act (.append t u ty (.slice a n c) (.slice sa m sc)) ⟨true,ops,rest,some d,k,env⟩):=by
 obtain⟨M,h1,h2⟩:=hq.h
 subst hn
 refine xF Y (hp.perm h1) (fun _ hq=>absurd hq (by rw[iM];decide)) hM hi hd hj hz lQ iA hu he (hr.h w hp) (by unfold maxLen;omega) ?_ fun a' c' w' nL _ h3=>hk a' c' w' (nL.perm (h2 _ _ _).symm) h3
 have:=Nat.le_of_ble_eq_true A3
 rw[LL]
 have:=Nat.mul_le_mul hm this
 omega
theorem HN {α:Type}[Inhabited α]{enc:α->List Value}{X Y:List α}{t u e ty:TypeId}{a sa:Option Addr}{c sc n:Nat}{s:Nat}{f:Option Addr->Nat->List α->List bg}(hp:Hp w0 w F)[hq:nm F a e s enc c X f][he:bX enc s][hr:gm w0 F sa s enc Y]{i j:TI}{m:Nat}(hn:X.length=n)(hM:Y.length=m){d:Nat}[hS:S.Ok](hi:tl S.tt t=some i)(hd:i.desc= .slice e)(hj:tl S.tt e=some j)(hz:(aL j.zero).length=j.size)(lQ:j.size=s)(iA:0<s)
  (hu:u=t) (hm:X.length+Y.length<=1000000000) {Gg:Nat} (LL:j.bytes=Gg) (A3:Nat.ble Gg 1000=true) (hC:∀a' c' w',Hp w0 w' (f a' c' (X++Y))->C w')
  (hk:∀a' c' w',Hp w0 w' (f a' c' (X++Y))->(a'=none↔a=none/\Y=[])->ax S sz R C w' (.ops true ops rest k ((d,.slice a' (X++Y).length c')::env))):
  ax S sz R C w (.act (.append t u ty (.slice a n c) (.slice sa m sc)) ⟨true,ops,rest,some d,k,env⟩):=by
 obtain⟨M,h1,h2⟩:=hq.h
 subst hn
 refine xF Y (hp.perm h1) (fun w' _ a' c' nL=>hC a' c' w' (nL.perm (h2 _ _ _).symm)) hM hi hd hj hz lQ iA hu he (hr.h w hp) (by unfold maxLen;omega) ?_ fun a' c' w' nL _ h3=>hk a' c' w' (nL.perm (h2 _ _ _).symm) h3
 have:=Nat.le_of_ble_eq_true A3
 rw[LL]
 have:=Nat.mul_le_mul hm this
 omega
end
section
variable {S:ak} {sz:Nat} {R:Value->World->Prop} {C:World->Prop} {w:World} {g':G} {cc:List Prop}
variable {ops:Array Oper} {rest:List Oper} {k:List Item} {env:Env} {w0:World} {F:List bg}
theorem Pq {s1:Nat}{α:Type}[Inhabited α]{enc:α->List Value}{X:List α}{a:Option Addr}{s:Nat}[he:bX enc s]{i:Nat}{t:TypeId}{v:Value}{d:Nat}[hS:S.Ok](hp:Hp w0 w F)[hr:gm w0 F a s enc X](jw:s1=s)(h1:i<X.length)(hv:r5 S.tt t (enc (X.getD i default)) 0=some v)
  (h:run S sz 400 (.ops false ops rest k ((d,v)::env)) []=(g',cc)) (hg:ax S sz R C w g') (ho:ir cc:=by((repeat' apply And.intro)<;>first|exact trivial|omega|exact wi (by omega)|exact wu (by omega)|exact wb (by omega)|(refine Sl.nn (by assumption) ?_;omega)|(refine bW (by assumption) ?_;omega)|exact Option.some_ne_none _|assumption|decide)):ax S sz R C w (.act (.load t (aE a s1 ((i:Nat):Int))) ⟨false,ops,rest,some d,k,env⟩):=
 NO hp jw (by omega) (by omega) hv h hg ho
theorem Pr {s1:Nat}{L':List bg}{α:Type}[Inhabited α]{enc:α->List Value}{X:List α}{a:Option Addr}{s:Nat}[he:bX enc s]{i:Nat}{t:TypeId}{v:Value}{d:Nat}[hS:S.Ok][hr:gm w0 L' a s enc X](jw:s1=s)(h1:i<X.length)(hv:r5 S.tt t (enc (X.getD i default)) 0=some v)(cj:ops.toList.take (ops.toList.length-rest.length)++rest=ops.toList)
  (h:run S sz 400 (.ops true ops rest k ((d,v)::env)) []=(g',cc)) (hg:ax S sz R (fun w'=>Hp w0 w' L') w g') (ho:ir cc:=by((repeat' apply And.intro)<;>first|exact trivial|omega|exact wi (by omega)|exact wu (by omega)|exact wb (by omega)|(refine Sl.nn (by assumption) ?_;omega)|(refine bW (by assumption) ?_;omega)|exact Option.some_ne_none _|assumption|decide)):ax S sz R (fun w'=>Hp w0 w' L') w (.act (.load t (aE a s1 ((i:Nat):Int))) ⟨true,ops,rest,some d,k,env⟩):=
 jr jw (by omega) (by omega) hv cj h hg ho
theorem Ps {s1:Nat}{α:Type}[Inhabited α]{enc:α->List Value}{X:List α}{a:Option Addr}{s:Nat}[he:bX enc s]{i:Nat}{j:Nat}{t:TypeId}{v:Value}{d:Nat}[hS:S.Ok](hp:Hp w0 w F)[hr:gm w0 F a s enc X](jw:s1=s)(h1:i<X.length)(hv:r5 S.tt t (enc (X.getD i default)) j=some v)
  (h:run S sz 400 (.ops false ops rest k ((d,v)::env)) []=(g',cc)) (hg:ax S sz R C w g') (ho:ir cc:=by((repeat' apply And.intro)<;>first|exact trivial|omega|exact wi (by omega)|exact wu (by omega)|exact wb (by omega)|(refine Sl.nn (by assumption) ?_;omega)|(refine bW (by assumption) ?_;omega)|exact Option.some_ne_none _|assumption|decide)):ax S sz R C w (.act (.load t (jm (aE a s1 ((i:Nat):Int)) j)) ⟨false,ops,rest,some d,k,env⟩):=
 NN hp jw (by omega) (by omega) hv h hg ho
theorem mG {s1:Nat}{L':List bg}{α:Type}[Inhabited α]{enc:α->List Value}{X:List α}{a:Option Addr}{s:Nat}[he:bX enc s]{i:Nat}{j:Nat}{t:TypeId}{v:Value}{d:Nat}[hS:S.Ok][hr:gm w0 L' a s enc X](jw:s1=s)(h1:i<X.length)(hv:r5 S.tt t (enc (X.getD i default)) j=some v)(cj:ops.toList.take (ops.toList.length-rest.length)++rest=ops.toList)
  (h:run S sz 400 (.ops true ops rest k ((d,v)::env)) []=(g',cc)) (hg:ax S sz R (fun w'=>Hp w0 w' L') w g') (ho:ir cc:=by((repeat' apply And.intro)<;>first|exact trivial|omega|exact wi (by omega)|exact wu (by omega)|exact wb (by omega)|(refine Sl.nn (by assumption) ?_;omega)|(refine bW (by assumption) ?_;omega)|exact Option.some_ne_none _|assumption|decide)):ax S sz R (fun w'=>Hp w0 w' L') w (.act (.load t (jm (aE a s1 ((i:Nat):Int)) j)) ⟨true,ops,rest,some d,k,env⟩):=
 iZ jw (by omega) (by omega) hv cj h hg ho
theorem nO {s1:Nat}{α:Type}[Inhabited α]{enc:α->List Value}{e t:TypeId}{a:Option Addr}{c s:Nat}{X:List α}{f:Option Addr->Nat->List α->List bg}(hp:Hp w0 w F)[hu:nm F a e s enc c X f][he:bX enc s]{i:TI}[hS:S.Ok](jw:s1=s)(hi:tl S.tt t=some i)(hs:i.size=1){z:Nat}(hz:z<X.length){y:α}{v:Value}(hj:0<s)(hy:enc y=(enc (X.getD z default)).set 0 v)(hv:v.oneCell'=true)
  (hk:∀w',Hp w0 w' (f a c (X.set z y))->ax S sz R C w' (.ops false ops rest k env)):ax S sz R C w (.act (.store t (aE a s1 ((z:Nat):Int)) v) ⟨false,ops,rest,none,k,env⟩):=
 kj (z:=((z:Nat):Int)) hp jw hi hs hz hj hy hv hk
theorem Jm {s1:Nat}{α:Type}[Inhabited α]{enc:α->List Value}{e t:TypeId}{a:Option Addr}{c s:Nat}{X:List α}{f:Option Addr->Nat->List α->List bg}(hp:Hp w0 w F)[hu:nm F a e s enc c X f][he:bX enc s]{i:TI}[hS:S.Ok](y:α)(jw:s1=s)(hi:tl S.tt t=some i)(hs:i.size=1){z j:Nat}(hz:z<X.length){v:Value}(hj:j<s)(hy:enc y=(enc (X.getD z default)).set j v)(hv:v.oneCell'=true)
  (hk:∀w',Hp w0 w' (f a c (X.set z y))->ax S sz R C w' (.ops false ops rest k env)):ax S sz R C w (.act (.store t (jm (aE a s1 ((z:Nat):Int)) j) v) ⟨false,ops,rest,none,k,env⟩):=
 NP (z:=((z:Nat):Int)) hp y jw hi hs hz hj hy hv hk
theorem EV {s1:Nat}{α:Type}[Inhabited α]{enc:α->List Value}{e t:TypeId}{a:Option Addr}{c s:Nat}{X:List α}{f:Option Addr->Nat->List α->List bg}(hp:Hp w0 w F)[hu:nm F a e s enc c X f][he:bX enc s]{i:TI}[hS:S.Ok](jw:s1=s)(hi:tl S.tt t=some i)(hs:i.size=1){z:Nat}(hz:z<X.length){y:α}{v:Value}(hj:0<s)(hy:enc y=(enc (X.getD z default)).set 0 v)(hv:v.oneCell'=true)(iM:bH ops rest=false)
  (hk:∀w',Hp w0 w' (f a c (X.set z y))->ax S sz R C w' (.ops true ops rest k env)):ax S sz R C w (.act (.store t (aE a s1 ((z:Nat):Int)) v) ⟨true,ops,rest,none,k,env⟩):=
 CY (z:=((z:Nat):Int)) hp jw hi hs hz hj hy hv iM hk
theorem EW {s1:Nat}{α:Type}[Inhabited α]{enc:α->List Value}{e t:TypeId}{a:Option Addr}{c s:Nat}{X:List α}{f:Option Addr->Nat->List α->List bg}(hp:Hp w0 w F)[hu:nm F a e s enc c X f][he:bX enc s]{i:TI}[hS:S.Ok](y:α)(jw:s1=s)(hi:tl S.tt t=some i)(hs:i.size=1){z j:Nat}(hz:z<X.length){v:Value}(hj:j<s)(hy:enc y=(enc (X.getD z default)).set j v)(hv:v.oneCell'=true)(iM:bH ops rest=false)
  (hk:∀w',Hp w0 w' (f a c (X.set z y))->ax S sz R C w' (.ops true ops rest k env)):ax S sz R C w (.act (.store t (jm (aE a s1 ((z:Nat):Int)) j) v) ⟨true,ops,rest,none,k,env⟩):=
 Gh (z:=((z:Nat):Int)) hp y jw hi hs hz hj hy hv iM hk
end
section
variable {S:ak} {sz:Nat} {R:Value->World->Prop} {C:World->Prop} {w w0:World} {F:List bg}
theorem jf [hS:S.Ok]{b o:Nat}{t tb:TypeId}{cs:List Value}{v:Value}(hp:Hp w0 w F)[hb:CV w0 F b tb cs](hv:r5 S.tt t cs o=some v)(h:R v w):ax S sz R C w (.A9 [.at_ t ⟨b,o,none⟩]):=
 ⟨[v],⟨pe hS.tt (hb.h w hp) hv,trivial⟩,h⟩
theorem bh [hS:S.Ok]{b o:Nat}{t tb:TypeId}{cs:List Value}{v u:Value}(hp:Hp w0 w F)[hb:CV w0 F b tb cs](hv:r5 S.tt t cs o=some v)(h:R (.tuple ⟨[v,u]⟩) w):ax S sz R C w (.A9 [.at_ t ⟨b,o,none⟩,.val u]):=
 ⟨[v,u],⟨pe hS.tt (hb.h w hp) hv,rfl,trivial⟩,h⟩
end
section
variable {S:ak} {sz:Nat} {R:Value->World->Prop} {C:World->Prop} {w:World} {c:sB}
theorem aG {q b want:Bool}{ops:Array Oper}{o:Oper}{rest:List Oper}{k:List Item}{env:Env}(h:ax S sz R C w (.guard q b want ops o rest k env)):ax S sz R C w (.guard q b want ops o rest k env):=h
theorem ah {t:TypeId}{ad:Addr}(h:ax S sz R C w (.act (.load t ad) c)):ax S sz R C w (.act (.load t ad) c):=h
theorem aI {t:TypeId}{ad:Addr}{v:Value}(h:ax S sz R C w (.act (.store t ad v) c)):ax S sz R C w (.act (.store t ad v) c):=h
theorem bK {t:TypeId}{n:Nat}{ps:List (Nat×Value)}(h:ax S sz R C w (.act (.buildSlice t n ps) c)):ax S sz R C w (.act (.buildSlice t n ps) c):=h
theorem gq {f:FuncId}{args:List Value}(h:ax S sz R C w (.act (.call f args) c)):ax S sz R C w (.act (.call f args) c):=h
theorem dD {l:List RV}(h:ax S sz R C w (.A9 l)):ax S sz R C w (.A9 l):=h
end
theorem aq {S:ak}{sz:Nat}{R:Value->World->Prop}{C:World->Prop}{w:World}{v:Value}(h:R v w):ax S sz R C w (.ret v):=h
theorem bN.yes {P:Program}{f:FuncId}{args:List Value}{w:World}{p:Prop}{d:Decidable p}(h:bN P f args w fun v w'=>v= .bool (@decide p d)/\Ext w w')(hp:p):bN P f args w fun v w'=>v= .bool true/\Ext w w':=
 h.mono fun _ _ ⟨h1,h2⟩=>⟨by rw[h1,decide_eq_true hp],h2⟩
theorem bN.no {P:Program}{f:FuncId}{args:List Value}{w:World}{p:Prop}{d:Decidable p}(h:bN P f args w fun v w'=>v= .bool (@decide p d)/\Ext w w')(hp:¬p):bN P f args w fun v w'=>v= .bool false/\Ext w w':=
 h.mono fun _ _ ⟨h1,h2⟩=>⟨by rw[h1,decide_eq_false hp],h2⟩
theorem bN.tt {P:Program}{f:FuncId}{args:List Value}{w:World}{b:Bool}(h:bN P f args w fun v w'=>v= .bool b/\Ext w w')(hp:b=true):bN P f args w fun v w'=>v= .bool true/\Ext w w':=by subst hp;exact h
theorem bN.ff {P:Program}{f:FuncId}{args:List Value}{w:World}{b:Bool}(h:bN P f args w fun v w'=>v= .bool b/\Ext w w')(hp:b=false):bN P f args w fun v w'=>v= .bool false/\Ext w w':=by subst hp;exact h
end Go.Xw
