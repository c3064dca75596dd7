/- Appends, stops and loads over worlds as lists of resources; each under its stated conditions. -/
import Derived.Test.YtiepmliokblkjaaGreatStep
set_option linter.all false
namespace Go.Xw
open Go.RowKit
theorem Bl {P:Program}{w w':World}{t ty e:TypeId}{i:TypeInfo}{z:Value}{size bytes:Nat}(ht:P.underlying t=some (.slice e))(hi:P.info? e=some i)(hz:i.zero=some z)
  (TX:i.size=size) (hby:i.bytes=bytes) (hzs:z.cells.size=size) (iA:0<size) {a a':Option Addr} {n c m' c':Nat} {xs:List Value} (CW:w.ownsRow 0 e size (.slice a n c) n xs)
  (ad:Addr) (m sc:Nat) (news:List Value) (hl:news.length=m*size) (Jh:∀j u,news[j]?=some u->w.cell? (ad.add j)=some u) (h1:∀u∈news,u.oneCell'=true)
  (h63:n+m<=maxLen) (Ji:(n+m)*bytes<=140737488355328) (hr:(Builtin.append_ #[t,t] ty #[.slice a n c,.slice (some ad) m sc]).run P w= .ok (.slice a' m' c') w'):
  ∀k,k∈(lP a').toList->k∈(lP a).toList\/w.heap.size<=k:=by
 have X6:n+m<=9223372036854775807:=by simp only[maxLen] at h63;omega
 subst TX
 subst hby
 rcases CW.2 with⟨hv,rfl⟩|⟨g,cap,cur,hv,_,hg,hnc,hcm,Aa,htake⟩
 ·injection hv with h2 _ h3
  subst h2;subst h3
  by_cases hm:m=0
  ·subst hm
   have hn:news=[]:=List.eq_nil_of_length_eq_zero (by simpa using hl)
   subst hn
   have hq:(Builtin.append_ #[t,t] ty #[.slice none 0 0,.slice (some ad) 0 sc]).run P w= .ok (.slice none 0 0) w:=by
    simp[Builtin.append_,run_underlying ht,sizeOf,typeInfo,hi,Builtin.lenOf,Builtin.firstCells,loadCells,loadCellsFrom]
   rw[hq] at hr
   injection hr with hr _
   injection hr with hr _ _
   subst hr
   intro k hk
   simp[lP] at hk
  ·have hq:=run_append_nil (P:=P) w t ty e i z ht hi hz ad m sc news hl Jh (by omega) (by omega) (by have hb:=Ji;simp only[Nat.zero_add] at hb;omega)
   rw[hq] at hr
   injection hr with hr _
   injection hr with hr _ _
   subst hr
   intro k hk
   simp[lP] at hk
   exact .inr (by omega)
 ·injection hv with h2 _ h3
  subst h2;subst h3
  by_cases Gf:n+m<=c
  ·have Pb:n*i.size+news.length<=cur.size:=by rw[hl,Aa,<-Nat.add_mul];exact Nat.mul_le_mul_right _ Gf
   have hq:=run_append_room (P:=P) w t ty e i ht hi g n c cur hg ad m sc news hl Jh h1 Gf Pb
   rw[hq] at hr
   injection hr with hr _
   injection hr with hr _ _
   subst hr
   exact fun k hk=> .inl hk
  ·have holds:∀j u,xs[j]?=some u->w.cell? ((⟨g,0,none⟩:Addr).add j)=some u:=World.ownsRow.cells CW (g:=g) rfl
   have hq:=run_append_grow (P:=P) w t ty e i z ht hi hz ⟨g,0,none⟩ n c xs CW.1 holds ad m sc news hl Jh (by omega) (by omega) (growslice_fits (by omega) Ji)
   rw[hq] at hr
   injection hr with hr _
   injection hr with hr _ _
   subst hr
   intro k hk
   simp[lP] at hk
   exact .inr (by omega)
theorem qu {P:Program}{tt:TT}{α:Type}[Inhabited α]{enc:α->List Value}{w0 w:World}{F:List bh}{e t:TypeId}{a:Option Addr}{c:Nat}{L M:List α}(aS:gJ P tt){i j:TI}(hi:tl tt t=some i)(hd:i.desc= .slice e)(hj:tl tt e=some j)(hz:(aL j.zero).length=j.size)(iA:0<j.size)(he:bX enc j.size)
  (hp:Hp w0 w (rO e j.size enc a c L::F)) {sa:Option Addr} {sc:Nat} (hs:Sl w sa M.length j.size (fL enc M)) (hm:L.length+M.length<=maxLen) (hb:(L.length+M.length)*j.bytes<=140737488355328) (ty:TypeId):
  ∃a' c' w',(Builtin.append_ #[t,t] ty #[.slice a L.length c,.slice sa M.length sc]).run P w= .ok (.slice a' (L++M).length c') w'/\Hp w0 w' (rO e j.size enc a' c' (L++M)::F)/\F7 (lP a).toList w w'/\
   (a'=none↔a=none/\M=[]):=by
 obtain⟨a',c',w',hr,h1,h2,h3⟩:=EU (P:=P) aS hi hd hj hz iA he hp.own (sc:=sc) hs hm hb (Nat.zero_le _) ty
 refine⟨a',c',w',hr,hp.Tu (F7.xw h2) h1 ?_ (by cases hk:lP a'<;>simp[rO,hk]),F7.xw h2,h3⟩
 obtain⟨info,td,q1,q2,q3,q4,q5,r5,q6⟩:=aS.get hi
 obtain⟨vG,W1,g1,g2,g3,g4,g5,W2,g6⟩:=aS.get hj
 rw[jQ (r5.trans hd)] at q5
 have TR:j.zero.cells.size=j.size:=by rw[ie] at hz;simpa using hz
 cases sa with
 |none=>
  have hM:M=[]:=by
   rcases Nat.eq_zero_or_pos M.length with h|h
   ·exact List.length_eq_zero_iff.1 h
   ·exact absurd rfl (hs.1 h)
  subst hM
  have EV:=hp.own.cap
  have hq:(Builtin.append_ #[t,t] ty #[.slice a L.length c,.slice none ([]:List α).length sc]).run P w= .ok (.slice a L.length c) w:=by
   cases a with
   |none=>simp[Builtin.append_,run_underlying q5,sizeOf,typeInfo,g1,Builtin.lenOf,Builtin.firstCells,EV]
   |some a=>simp[Builtin.append_,run_underlying q5,sizeOf,typeInfo,g1,Builtin.lenOf,Builtin.firstCells,EV,storeCells]
  rw[hq] at hr
  injection hr with hr _
  injection hr with hr _ _
  subst hr
  exact fun k hk=> .inl hk
 |some ad=>
  exact Bl q5 g1 g4 g2 g3 TR iA hp.own ad M.length sc (M.flatMap enc) (om he.len M) (hs.flat he) (fun u hu=>by
   obtain⟨x,_,hx⟩:=List.mem_flatMap.1 hu
   exact he.one x u hx) hm hb hr
section
variable {S:ak} {sz:Nat} {R:Value->World->Prop} {C:World->Prop} {w:World} {g':G} {cc:List Prop}
variable {ops:Array Oper} {rest:List Oper} {k:List Item} {env:Env} {w0:World} {F:List bh}
theorem TY (hp:Hp w0 w F){t:TypeId}{v:Value}{d:Nat}(hk:∀w' b,Ext w w'->Hp w0 w' (rB b t (aL v)::F)->ax S sz R C w' (.ops false ops rest k ((d,.pointer (some ⟨b,0,none⟩))::env))):
  ax S sz R C w (.act (.box t v) ⟨false,ops,rest,some d,k,env⟩):=
 TV fun w' b hb hx hB=>hk w' b hx (hp.IW hb hx hB)
theorem LL (hp:Hp w0 w F){t:TypeId}{i:TI}{d:Nat}[hS:S.Ok](hi:tl S.tt t=some i)(hk:∀w' b,Ext w w'->Hp w0 w' (rB b t (aL i.zero)::F)->ax S sz R C w' (.ops false ops rest k ((d,.pointer (some ⟨b,0,none⟩))::env))):
  ax S sz R C w (.act (.alloc t) ⟨false,ops,rest,some d,k,env⟩):=
 LI hi fun w' b hb hx hB=>hk w' b hx (hp.IW hb hx hB)
theorem r7 (hp:Hp w0 w F){α:Type}(enc:α->List Value)(M:List α){t e:TypeId}{i j:TI}{nn:Nat}{parts:List (Nat×Value)}{cs:List Value}{d:Nat}[hS:S.Ok](hi:tl S.tt t=some i)(hd:i.desc= .slice e)(hj:tl S.tt e=some j)(hz:(aL j.zero).length=j.size){s:Nat}(lQ:j.size=s)(iA:0<s)
  (he:bX enc s) (hc:gV S.tt e nn parts=some cs) (hM:M.flatMap enc=cs) (hn:M.length=nn) (hb:nn*s<=16777216)
  (hk:∀w' b,Ext w w'->Hp w0 w' (rO e s enc (some ⟨b,0,none⟩) M.length M::F)->ax S sz R C w' (.ops false ops rest k ((d,.slice (some ⟨b,0,none⟩) M.length M.length)::env))):
  ax S sz R C w (.act (.buildSlice t nn parts) ⟨false,ops,rest,some d,k,env⟩):=
 TW enc M hi hd hj hz lQ iA he hc hM hn hb fun w' b _ hx ho=>hk w' b hx (hp.eH hx ho)
theorem mG (hp:Hp w0 w F){α:Type}(enc:α->List Value)(dz:α){t e:TypeId}{i j:TI}{n:Nat}{d:Nat}[hS:S.Ok](hi:tl S.tt t=some i)(hd:i.desc= .slice e)(hj:tl S.tt e=some j)(hz:(aL j.zero).length=j.size){s:Nat}(lQ:j.size=s)(iA:0<s)
  (LG:enc dz=aL j.zero) (hm:n<=maxLen) (hb:j.bytes*n<=281474976710656)
  (hk:∀w' b,Ext w w'->Hp w0 w' (rO e s enc (some ⟨b,0,none⟩) n (List.replicate n dz)::F)->ax S sz R C w' (.ops false ops rest k ((d,.slice (some ⟨b,0,none⟩) n n)::env))):
  ax S sz R C w (.act (.makeSlice t (.int .i64 (n:Int)) (.int .i64 (n:Int))) ⟨false,ops,rest,some d,k,env⟩):=
 Pk enc dz hi hd hj hz lQ iA LG hm hb fun w' b _ hx ho=>hk w' b hx (hp.eH hx ho)
theorem Jj {α:Type}[Inhabited α]{enc:α->List Value}{L:List α}(M:List α){t u e ty:TypeId}{a sa:Option Addr}{c sc:Nat}{s:Nat}(hp:Hp w0 w (rO e s enc a c L::F)){i j:TI}{m:Nat}(hM:M.length=m){d:Nat}[hS:S.Ok](hi:tl S.tt t=some i)(hd:i.desc= .slice e)(hj:tl S.tt e=some j)(hz:(aL j.zero).length=j.size)(lQ:j.size=s)(iA:0<s)
  (hu:u=t) (he:bX enc s) (hs:Sl w sa M.length s (fL enc M)) (hm:L.length+M.length<=maxLen) (hb:(L.length+M.length)*j.bytes<=140737488355328)
  (hk:∀a' c' w',Hp w0 w' (rO e s enc a' c' (L++M)::F)->F7 (lP a).toList w w'->(a'=none↔a=none/\M=[])->ax S sz R C w' (.ops false ops rest k ((d,.slice a' (L++M).length c')::env))):
  ax S sz R C w (.act (.append t u ty (.slice a L.length c) (.slice sa m sc)) ⟨false,ops,rest,some d,k,env⟩):=by
 subst lQ
 subst hM
 subst hu
 obtain⟨a',c',w',hr,h1,h2,h3⟩:=qu (P:=S.P) hS.tt hi hd hj hz iA he hp (sc:=sc) hs hm hb ty
 refine xB rfl (by simp only[Action.lO,Sem.run_bind,hr,Result.andThen_ok,Sem.run_pure]) (hk a' c' w' h1 h2 h3)
theorem TZ {b o:Nat}{tb t:TypeId}{cs:List Value}{v:Value}{i:TI}[hS:S.Ok](hp:Hp w0 w (rB b tb cs::F))(hi:tl S.tt t=some i)(hs:i.size=1)(ho:o<cs.length)(hv:v.oneCell'=true)
  (hk:∀w',Hp w0 w' (rB b tb (cs.set o v)::F)->ax S sz R C w' (.ops false ops rest k env)):ax S sz R C w (.act (.store t ⟨b,o,none⟩ v) ⟨false,ops,rest,none,k,env⟩):=by
 obtain⟨w',r,h,g⟩:=(show jZ w b tb cs from hp.g0).Pj hS.tt hi hs ho hv
 exact pd rfl r (hk w' (hp.HJ h g))
theorem Pm {b:Nat}{tb t:TypeId}{cs vs:List Value}{i:TI}[hS:S.Ok](hp:Hp w0 w (rB b tb cs::F))(hi:tl S.tt t=some i)(hs:i.size=vs.length)(hl:cs.length=vs.length)(h1:∀v∈vs,v.oneCell'=true)
  (hk:∀w',Hp w0 w' (rB b tb vs::F)->ax S sz R C w' (.ops false ops rest k env)):ax S sz R C w (.act (.store t ⟨b,0,none⟩ (.agg ⟨vs⟩)) ⟨false,ops,rest,none,k,env⟩):=by
 obtain⟨w',r,h,g⟩:=jZ.Bi hS.tt hi (show jZ w b tb cs from hp.g0) hs hl h1
 exact pd rfl r (hk w' (hp.HJ h g))
theorem T0 {α:Type}{enc:α->List Value}{e t:TypeId}{a:Option Addr}{c s:Nat}{L:List α}(hp:Hp w0 w (rO e s enc a c L::F)){i:TI}[hS:S.Ok](hi:tl S.tt t=some i)(hs:i.size=1)(he:bX enc s){z:Int}{x y:α}{v:Value}(hx:L[z.toNat]?=some x)(hj:0<s)(hy:enc y=(enc x).set 0 v)(hv:v.oneCell'=true)
  (hk:∀w',Hp w0 w' (rO e s enc a c (L.set z.toNat y)::F)->ax S sz R C w' (.ops false ops rest k env)):ax S sz R C w (.act (.store t (aE a s z) v) ⟨false,ops,rest,none,k,env⟩):=by
 obtain⟨w',r,h,g⟩:=hp.own.X3 hS.tt hi hs he hx hj hy hv
 exact pd rfl r (hk w' (hp.HK h g))
theorem T4 {α:Type}{enc:α->List Value}{e t:TypeId}{a:Option Addr}{c s:Nat}{L:List α}(hp:Hp w0 w (rO e s enc a c L::F)){i:TI}[hS:S.Ok](hi:tl S.tt t=some i)(hs:i.size=1)(he:bX enc s){z:Int}{j:Nat}{x y:α}{v:Value}(hx:L[z.toNat]?=some x)(hj:j<s)(hy:enc y=(enc x).set j v)(hv:v.oneCell'=true)
  (hk:∀w',Hp w0 w' (rO e s enc a c (L.set z.toNat y)::F)->ax S sz R C w' (.ops false ops rest k env)):ax S sz R C w (.act (.store t (jn (aE a s z) j) v) ⟨false,ops,rest,none,k,env⟩):=by
 obtain⟨w',r,h,g⟩:=hp.own.Pj hS.tt hi hs he hx hj hy hv
 exact pd rfl r (hk w' (hp.HK h g))
theorem Jk {L':List bh}{id:Nat}{e:Env}[hS:S.Ok](hs:Hp w0 w L')(hm:S.P.follows .mixedOrders=true)(hB:CM ops=true)(he:et env S.live=some e)
  (h:run S sz 400 (.ops true ops ops.toList k e) []=(g',cc)) (hg:∀w1,Ext w w1->Hp w0 w1 L'->ax S sz R (fun w'=>Hp w0 w' L') w1 g') (ho:ir cc:=by((repeat' apply And.intro)<;>first|exact trivial|omega|exact wi (by omega)|exact wu (by omega)|exact wb (by omega)|(refine Sl.nn (by assumption) ?_;omega)|(refine bW (by assumption) ?_;omega)|exact Option.some_ne_none _|assumption|decide)):ax S sz R C w (.code (.code (.region id ops true)::k) env):=
 Je (fun w'=>Hp w0 w' L') hm hB (hs.ext (Ext.drawn _)) he h (hg _ (Ext.drawn _) (hs.ext (Ext.drawn _))) ho
theorem EW {t:TypeId}{ad:Addr}{d:Nat}{v:Value}[hS:S.Ok](hl:∀w',C w'->(loadVar t ad).run S.P w'= .ok v w')(hp:ops.toList.take (ops.toList.length-rest.length)++rest=ops.toList)
  (h:run S sz 400 (.ops true ops rest k ((d,v)::env)) []=(g',cc)) (hg:ax S sz R C w g') (ho:ir cc:=by((repeat' apply And.intro)<;>first|exact trivial|omega|exact wi (by omega)|exact wu (by omega)|exact wb (by omega)|(refine Sl.nn (by assumption) ?_;omega)|(refine bW (by assumption) ?_;omega)|exact Option.some_ne_none _|assumption|decide)):ax S sz R C w (.act (.load t ad) ⟨true,ops,rest,some d,k,env⟩):=
 Ge rfl hl (o9 (fun _=>⟨_,hp.symm⟩) h hg ho)
theorem T5 {l:List Oper}[hS:S.Ok](hp:ops.toList.take (ops.toList.length-l.length)++l=ops.toList)
  (h:run S sz 400 (.ops true ops l k env) []=(g',cc)) (hg:ax S sz R C w g') (ho:ir cc:=by((repeat' apply And.intro)<;>first|exact trivial|omega|exact wi (by omega)|exact wu (by omega)|exact wb (by omega)|(refine Sl.nn (by assumption) ?_;omega)|(refine bW (by assumption) ?_;omega)|exact Option.some_ne_none _|assumption|decide)):ax S sz R C w (.ops true ops l k env):=
 o9 (fun _=>⟨_,hp.symm⟩) h hg ho
theorem Jl (hC:∀w',Ext w w'->C w')(hp:Hp w0 w F){t:TypeId}{v:Value}{d:Nat}(hk:∀w' b,Ext w w'->Hp w0 w' (rB b t (aL v)::F)->ax S sz R C w' (.ops true ops rest k ((d,.pointer (some ⟨b,0,none⟩))::env))):
  ax S sz R C w (.act (.box t v) ⟨true,ops,rest,some d,k,env⟩):=
 xC rfl rfl (Bj v) ⟨fun _=>hC _ (Ext.alloc _ _),hk _ _ (Ext.alloc _ _) (hp.IW rfl (Ext.alloc _ _) (jZ.new _ _ _))⟩
theorem Bm (hC:∀w',Ext w w'->C w')(hp:Hp w0 w F){t:TypeId}{i:TI}{d:Nat}[hS:S.Ok](hi:tl S.tt t=some i)(hk:∀w' b,Ext w w'->Hp w0 w' (rB b t (aL i.zero)::F)->ax S sz R C w' (.ops true ops rest k ((d,.pointer (some ⟨b,0,none⟩))::env))):
  ax S sz R C w (.act (.alloc t) ⟨true,ops,rest,some d,k,env⟩):=
 xC rfl rfl (uO hS.tt hi) ⟨fun _=>hC _ (Ext.alloc _ _),hk _ _ (Ext.alloc _ _) (hp.IW rfl (Ext.alloc _ _) (jZ.new _ _ _))⟩
theorem CZ (hC:∀w',Ext w w'->C w')(hp:Hp w0 w F){α:Type}(enc:α->List Value)(M:List α){t e:TypeId}{i j:TI}{nn:Nat}{parts:List (Nat×Value)}{cs:List Value}{d:Nat}[hS:S.Ok](hi:tl S.tt t=some i)(hd:i.desc= .slice e)(hj:tl S.tt e=some j)(hz:(aL j.zero).length=j.size){s:Nat}(lQ:j.size=s)(iA:0<s)
  (he:bX enc s) (hc:gV S.tt e nn parts=some cs) (hM:M.flatMap enc=cs) (hn:M.length=nn) (hb:nn*s<=16777216)
  (hk:∀w' b,Ext w w'->Hp w0 w' (rO e s enc (some ⟨b,0,none⟩) M.length M::F)->ax S sz R C w' (.ops true ops rest k ((d,.slice (some ⟨b,0,none⟩) M.length M.length)::env))):
  ax S sz R C w (.act (.buildSlice t nn parts) ⟨true,ops,rest,some d,k,env⟩):=by
 subst lQ
 subst hn
 have hr:=wG (P:=S.P) (w:=w) hS.tt hi hd hj hz iA hc hb
 refine xC (v:= .slice (some ⟨w.heap.size,0,none⟩) M.length M.length) (w':=w.alloc (.cells ⟨cs⟩ e)) rfl rfl (by simp only[Action.lO,Sem.run_bind,hr,Result.andThen_ok,Sem.run_pure]) ?_
 have hm:M.length<=maxLen:=by
  have:=Nat.le_mul_of_pos_right M.length iA
  unfold maxLen;omega
 exact⟨fun _=>hC _ (Ext.alloc _ _),hk _ _ (Ext.alloc _ _) (hp.eH (Ext.alloc _ _) (dk.lit w e cs M he hM hm))⟩
theorem xI {α:Type}[Inhabited α]{enc:α->List Value}{L:List α}(M:List α){t u e ty:TypeId}{a sa:Option Addr}{c sc:Nat}{s:Nat}(hp:Hp w0 w (rO e s enc a c L::F))(hC:∀w',bH ops rest=true->(∀a' c',Hp w0 w' (rO e s enc a' c' (L++M)::F)->C w'):=by(intro _ hq;exact absurd hq (by decide))){i j:TI}{m:Nat}(hM:M.length=m){d:Nat}[hS:S.Ok](hi:tl S.tt t=some i)(hd:i.desc= .slice e)(hj:tl S.tt e=some j)(hz:(aL j.zero).length=j.size)(lQ:j.size=s)(iA:0<s)
  (hu:u=t) (he:bX enc s) (hs:Sl w sa M.length s (fL enc M)) (hm:L.length+M.length<=maxLen) (hb:(L.length+M.length)*j.bytes<=140737488355328)
  (hk:∀a' c' w',Hp w0 w' (rO e s enc a' c' (L++M)::F)->F7 (lP a).toList w w'->(a'=none↔a=none/\M=[])->ax S sz R C w' (.ops true ops rest k ((d,.slice a' (L++M).length c')::env))):
  ax S sz R C w (.act (.append t u ty (.slice a L.length c) (.slice sa m sc)) ⟨true,ops,rest,some d,k,env⟩):=by
 subst lQ
 subst hM
 subst hu
 obtain⟨a',c',w',hr,h1,h2,h3⟩:=qu (P:=S.P) hS.tt hi hd hj hz iA he hp (sc:=sc) hs hm hb ty
 exact xC rfl rfl (by simp only[Action.lO,Sem.run_bind,hr,Result.andThen_ok,Sem.run_pure]) ⟨fun hq=>hC _ hq _ _ h1,hk a' c' w' h1 h2 h3⟩
theorem T6 {b o:Nat}{tb t:TypeId}{cs:List Value}{v:Value}{i:TI}[hS:S.Ok](hp:Hp w0 w (rB b tb cs::F))(hi:tl S.tt t=some i)(hs:i.size=1)(ho:o<cs.length)(hv:v.oneCell'=true)(iO:bH ops rest=false)
  (hk:∀w',Hp w0 w' (rB b tb (cs.set o v)::F)->ax S sz R C w' (.ops true ops rest k env)):ax S sz R C w (.act (.store t ⟨b,o,none⟩ v) ⟨true,ops,rest,none,k,env⟩):=by
 obtain⟨w',r,h,g⟩:=(show jZ w b tb cs from hp.g0).Pj hS.tt hi hs ho hv
 exact nz rfl rfl r ⟨fun hq=>absurd hq (by rw[iO];decide),hk w' (hp.HJ h g)⟩
theorem Pn {b:Nat}{tb t:TypeId}{cs vs:List Value}{i:TI}[hS:S.Ok](hp:Hp w0 w (rB b tb cs::F))(hi:tl S.tt t=some i)(hs:i.size=vs.length)(hl:cs.length=vs.length)(h1:∀v∈vs,v.oneCell'=true)(iO:bH ops rest=false)
  (hk:∀w',Hp w0 w' (rB b tb vs::F)->ax S sz R C w' (.ops true ops rest k env)):ax S sz R C w (.act (.store t ⟨b,0,none⟩ (.agg ⟨vs⟩)) ⟨true,ops,rest,none,k,env⟩):=by
 obtain⟨w',r,h,g⟩:=jZ.Bi hS.tt hi (show jZ w b tb cs from hp.g0) hs hl h1
 exact nz rfl rfl r ⟨fun hq=>absurd hq (by rw[iO];decide),hk w' (hp.HJ h g)⟩
theorem T7 {α:Type}{enc:α->List Value}{e t:TypeId}{a:Option Addr}{c s:Nat}{L:List α}(hp:Hp w0 w (rO e s enc a c L::F)){i:TI}[hS:S.Ok](hi:tl S.tt t=some i)(hs:i.size=1)(he:bX enc s){z:Int}{x y:α}{v:Value}(hx:L[z.toNat]?=some x)(hj:0<s)(hy:enc y=(enc x).set 0 v)(hv:v.oneCell'=true)(iO:bH ops rest=false)
  (hk:∀w',Hp w0 w' (rO e s enc a c (L.set z.toNat y)::F)->ax S sz R C w' (.ops true ops rest k env)):ax S sz R C w (.act (.store t (aE a s z) v) ⟨true,ops,rest,none,k,env⟩):=by
 obtain⟨w',r,h,g⟩:=hp.own.X3 hS.tt hi hs he hx hj hy hv
 exact nz rfl rfl r ⟨fun hq=>absurd hq (by rw[iO];decide),hk w' (hp.HK h g)⟩
theorem T8 {α:Type}{enc:α->List Value}{e t:TypeId}{a:Option Addr}{c s:Nat}{L:List α}(hp:Hp w0 w (rO e s enc a c L::F)){i:TI}[hS:S.Ok](hi:tl S.tt t=some i)(hs:i.size=1)(he:bX enc s){z:Int}{j:Nat}{x y:α}{v:Value}(hx:L[z.toNat]?=some x)(hj:j<s)(hy:enc y=(enc x).set j v)(hv:v.oneCell'=true)(iO:bH ops rest=false)
  (hk:∀w',Hp w0 w' (rO e s enc a c (L.set z.toNat y)::F)->ax S sz R C w' (.ops true ops rest k env)):ax S sz R C w (.act (.store t (jn (aE a s z) j) v) ⟨true,ops,rest,none,k,env⟩):=by
 obtain⟨w',r,h,g⟩:=hp.own.Pj hS.tt hi hs he hx hj hy hv
 exact nz rfl rfl r ⟨fun hq=>absurd hq (by rw[iO];decide),hk w' (hp.HK h g)⟩
theorem Hp.lP {w0 w:World}{b:Nat}{t:TypeId}{cs:List Value}{L:List bh}(h:Hp w0 w (rB b t cs::L)):jZ w b t cs:=h.g0
theorem Hp.sl {α:Type}[Inhabited α]{enc:α->List Value}{e:TypeId}{s:Nat}{a:Option Addr}{c:Nat}{X:List α}{L:List bh}{w0 w:World}(h:Hp w0 w (rO e s enc a c X::L))(he:bX enc s):Sl w a X.length s (fL enc X):=h.own.sl he.len
end
def rf (tt:TT)(t:TypeId)(cs:List Value)(o:Nat):Option Value:=
 match mA tt t with
 |some false=>sB cs o
 |some true=>match tl tt t with
  |some i=>match vA i.size (z7 o cs) with
   |some l=>some (.agg ⟨l⟩)
   |none=>none
  |none=>none
 |none=>none
theorem lV {P:Program}{tt:TT}{t:TypeId}{w:World}(aS:gJ P tt){b o:Nat}{tb:TypeId}{cs:List Value}{v:Value}(h:jZ w b tb cs)(hv:rf tt t cs o=some v):(loadVar t ⟨b,o,none⟩).run P w= .ok v w:=by
 unfold rf at hv
 split at hv
 ·rename_i ha
  exact Pc aS ha h hv
 ·rename_i ha
  split at hv
  ·rename_i i hi
   split at hv
   ·rename_i l hl
    injection hv with hv
    subst hv
    exact LD aS ha hi h hl
   ·cases hv
  ·cases hv
 ·cases hv
theorem Gg {α:Type}[Inhabited α]{enc:α->List Value}{X:List α}{i j:Nat}{u:Value}(h:(enc (X.getD i default))[j]?=some u):fL enc X i j=u:=by
 simp only[fL,kV,h]
theorem Bn {P:Program}{tt:TT}{t:TypeId}{w:World}(aS:gJ P tt){α:Type}[Inhabited α]{enc:α->List Value}{X:List α}{a:Option Addr}{s:Nat}(he:bX enc s){z:Int}{j:Nat}{v:Value}(h:Sl w a X.length s (fL enc X))(h0:0<=z)(h1:z<X.length)
  (hv:rf tt t (enc (X.getD z.toNat default)) j=some v):(loadVar t (jn (aE a s z) j)).run P w= .ok v w:=by
 have hlen:=he.len (X.getD z.toNat default)
 unfold rf at hv
 split at hv
 ·rename_i ha
  rw[kV] at hv
  have hj:j<s:=by
   rw[<-hlen]
   exact(List.getElem?_eq_some_iff.1 hv).1
  rw[<-Gg (X:=X) hv]
  exact TQ aS ha h h0 h1 hj
 ·rename_i ha
  split at hv
  ·rename_i i hi
   split at hv
   ·rename_i l hl
    injection hv with hv
    subst hv
    obtain⟨h2,h3⟩:=xj hl
    rw[xk] at h2 h3
    rw[List.length_drop,hlen] at h3
    refine CU aS ha hi (by rw[h2,List.length_take,List.length_drop,hlen];omega) fun q u hu=> ?_
    rw[h2,List.getElem?_take] at hu
    split at hu
    ·rename_i hq
     rw[List.getElem?_drop] at hu
     have bD:j+q<s:=by
      rw[<-hlen]
      exact(List.getElem?_eq_some_iff.1 hu).1
     have h4:=h.at_ h0 h1 bD
     rw[Gg (X:=X) hu,iP] at h4
     rw[iP,mC]
     exact h4
    ·cases hu
   ·cases hv
  ·cases hv
 ·cases hv
theorem Bo {P:Program}{tt:TT}{t:TypeId}{w:World}(aS:gJ P tt){α:Type}[Inhabited α]{enc:α->List Value}{X:List α}{a:Option Addr}{s:Nat}(he:bX enc s){z:Int}{v:Value}(h:Sl w a X.length s (fL enc X))(h0:0<=z)(h1:z<X.length)
  (hv:rf tt t (enc (X.getD z.toNat default)) 0=some v):(loadVar t (aE a s z)).run P w= .ok v w:=by
 have hq:jn (aE a s z) 0=aE a s z:=by rw[iP];simp[Addr.add]
 have:=Bn aS he h h0 h1 hv
 rwa[hq] at this
class Bp (w0:World)(L:List bh)(b:Nat)(t:outParam TypeId)(cs:outParam (List Value)):Prop where
 h:∀w,Hp w0 w L->jZ w b t cs
instance Bp.head {w0:World}{L:List bh}{b:Nat}{t:TypeId}{cs:List Value}:Bp w0 (rB b t cs::L) b t cs:=⟨fun _ hp=>hp.g0⟩
instance Bp.tail {w0:World}{L:List bh}{R:bh}{b:Nat}{t:TypeId}{cs:List Value}[h:Bp w0 L b t cs]:Bp w0 (R::L) b t cs:=⟨fun w hp=>h.h w hp.drop⟩
instance (priority:=low) gm.base {w0:World}{L:List bh}{a:Option Addr}{α:Type}[Inhabited α]{s:Nat}{enc:α->List Value}{X:List α}[h:Rd w0 a s enc X]:gm w0 L a s enc X:=⟨fun _ hp=>h.h.ext hp.x⟩
instance gm.head {w0:World}{L:List bh}{a:Option Addr}{α:Type}[Inhabited α]{s:Nat}{enc:α->List Value}{X:List α}{e:TypeId}{c:Nat}[he:bX enc s]:gm w0 (rO e s enc a c X::L) a s enc X:=⟨fun _ hp=>hp.sl he⟩
instance gm.tail {w0:World}{L:List bh}{R:bh}{a:Option Addr}{α:Type}[Inhabited α]{s:Nat}{enc:α->List Value}{X:List α}[h:gm w0 L a s enc X]:gm w0 (R::L) a s enc X:=⟨fun w hp=>h.h w hp.drop⟩
theorem Rd.ext {w w':World}{a:Option Addr}{α:Type}[Inhabited α]{s:Nat}{enc:α->List Value}{X:List α}(h:Rd w a s enc X)(hx:Ext w w'):Rd w' a s enc X:=⟨h.h.ext hx⟩
theorem Hp.rd {w0 w:World}{L:List bh}(hp:Hp w0 w L){a:Option Addr}{α:Type}[Inhabited α]{s:Nat}{enc:α->List Value}{X:List α}[h:gm w0 L a s enc X]:Rd w a s enc X:=⟨h.h w hp⟩
section
variable {S:ak} {sz:Nat} {R:Value->World->Prop} {C:World->Prop} {w:World} {g':G} {cc:List Prop}
variable {ops:Array Oper} {rest:List Oper} {k:List Item} {env:Env} {w0:World} {F:List bh}
theorem T9 {b o:Nat}{tb t:TypeId}{cs:List Value}{v:Value}{d:Nat}[hS:S.Ok](hp:Hp w0 w F)[hb:Bp w0 F b tb cs](hv:rf S.tt t cs o=some v)
  (h:run S sz 400 (.ops false ops rest k ((d,v)::env)) []=(g',cc)) (hg:ax S sz R C w g') (ho:ir cc:=by((repeat' apply And.intro)<;>first|exact trivial|omega|exact wi (by omega)|exact wu (by omega)|exact wb (by omega)|(refine Sl.nn (by assumption) ?_;omega)|(refine bW (by assumption) ?_;omega)|exact Option.some_ne_none _|assumption|decide)):ax S sz R C w (.act (.load t ⟨b,o,none⟩) ⟨false,ops,rest,some d,k,env⟩):=
 xE (lV hS.tt (hb.h w hp) hv) h hg ho
theorem NO {s1:Nat}{α:Type}[Inhabited α]{enc:α->List Value}{X:List α}{a:Option Addr}{s:Nat}[he:bX enc s]{z:Int}{j:Nat}{t:TypeId}{v:Value}{d:Nat}[hS:S.Ok](hp:Hp w0 w F)[hr:gm w0 F a s enc X](jw:s1=s)(h0:0<=z)(h1:z<X.length)(hv:rf S.tt t (enc (X.getD z.toNat default)) j=some v)
  (h:run S sz 400 (.ops false ops rest k ((d,v)::env)) []=(g',cc)) (hg:ax S sz R C w g') (ho:ir cc:=by((repeat' apply And.intro)<;>first|exact trivial|omega|exact wi (by omega)|exact wu (by omega)|exact wb (by omega)|(refine Sl.nn (by assumption) ?_;omega)|(refine bW (by assumption) ?_;omega)|exact Option.some_ne_none _|assumption|decide)):ax S sz R C w (.act (.load t (jn (aE a s1 z) j)) ⟨false,ops,rest,some d,k,env⟩):=by
 subst jw
 exact xE (Bn hS.tt he (hr.h w hp) h0 h1 hv) h hg ho
theorem NP {s1:Nat}{α:Type}[Inhabited α]{enc:α->List Value}{X:List α}{a:Option Addr}{s:Nat}[he:bX enc s]{z:Int}{t:TypeId}{v:Value}{d:Nat}[hS:S.Ok](hp:Hp w0 w F)[hr:gm w0 F a s enc X](jw:s1=s)(h0:0<=z)(h1:z<X.length)(hv:rf S.tt t (enc (X.getD z.toNat default)) 0=some v)
  (h:run S sz 400 (.ops false ops rest k ((d,v)::env)) []=(g',cc)) (hg:ax S sz R C w g') (ho:ir cc:=by((repeat' apply And.intro)<;>first|exact trivial|omega|exact wi (by omega)|exact wu (by omega)|exact wb (by omega)|(refine Sl.nn (by assumption) ?_;omega)|(refine bW (by assumption) ?_;omega)|exact Option.some_ne_none _|assumption|decide)):ax S sz R C w (.act (.load t (aE a s1 z)) ⟨false,ops,rest,some d,k,env⟩):=by
 subst jw
 exact xE (Bo hS.tt he (hr.h w hp) h0 h1 hv) h hg ho
theorem Jm {L':List bh}{b o:Nat}{tb t:TypeId}{cs:List Value}{v:Value}{d:Nat}[hS:S.Ok][hb:Bp w0 L' b tb cs](hv:rf S.tt t cs o=some v)(cj:ops.toList.take (ops.toList.length-rest.length)++rest=ops.toList)
  (h:run S sz 400 (.ops true ops rest k ((d,v)::env)) []=(g',cc)) (hg:ax S sz R (fun w'=>Hp w0 w' L') w g') (ho:ir cc:=by((repeat' apply And.intro)<;>first|exact trivial|omega|exact wi (by omega)|exact wu (by omega)|exact wb (by omega)|(refine Sl.nn (by assumption) ?_;omega)|(refine bW (by assumption) ?_;omega)|exact Option.some_ne_none _|assumption|decide)):ax S sz R (fun w'=>Hp w0 w' L') w (.act (.load t ⟨b,o,none⟩) ⟨true,ops,rest,some d,k,env⟩):=
 EW (fun w hp=>lV hS.tt (hb.h w hp) hv) cj h hg ho
theorem iC {s1:Nat}{L':List bh}{α:Type}[Inhabited α]{enc:α->List Value}{X:List α}{a:Option Addr}{s:Nat}[he:bX enc s]{z:Int}{j:Nat}{t:TypeId}{v:Value}{d:Nat}[hS:S.Ok][hr:gm w0 L' a s enc X](jw:s1=s)(h0:0<=z)(h1:z<X.length)(hv:rf S.tt t (enc (X.getD z.toNat default)) j=some v)(cj:ops.toList.take (ops.toList.length-rest.length)++rest=ops.toList)
  (h:run S sz 400 (.ops true ops rest k ((d,v)::env)) []=(g',cc)) (hg:ax S sz R (fun w'=>Hp w0 w' L') w g') (ho:ir cc:=by((repeat' apply And.intro)<;>first|exact trivial|omega|exact wi (by omega)|exact wu (by omega)|exact wb (by omega)|(refine Sl.nn (by assumption) ?_;omega)|(refine bW (by assumption) ?_;omega)|exact Option.some_ne_none _|assumption|decide)):ax S sz R (fun w'=>Hp w0 w' L') w (.act (.load t (jn (aE a s1 z) j)) ⟨true,ops,rest,some d,k,env⟩):=by
 subst jw
 exact EW (fun w hp=>Bn hS.tt he (hr.h w hp) h0 h1 hv) cj h hg ho
theorem jb {s1:Nat}{L':List bh}{α:Type}[Inhabited α]{enc:α->List Value}{X:List α}{a:Option Addr}{s:Nat}[he:bX enc s]{z:Int}{t:TypeId}{v:Value}{d:Nat}[hS:S.Ok][hr:gm w0 L' a s enc X](jw:s1=s)(h0:0<=z)(h1:z<X.length)(hv:rf S.tt t (enc (X.getD z.toNat default)) 0=some v)(cj:ops.toList.take (ops.toList.length-rest.length)++rest=ops.toList)
  (h:run S sz 400 (.ops true ops rest k ((d,v)::env)) []=(g',cc)) (hg:ax S sz R (fun w'=>Hp w0 w' L') w g') (ho:ir cc:=by((repeat' apply And.intro)<;>first|exact trivial|omega|exact wi (by omega)|exact wu (by omega)|exact wb (by omega)|(refine Sl.nn (by assumption) ?_;omega)|(refine bW (by assumption) ?_;omega)|exact Option.some_ne_none _|assumption|decide)):ax S sz R (fun w'=>Hp w0 w' L') w (.act (.load t (aE a s1 z)) ⟨true,ops,rest,some d,k,env⟩):=by
 subst jw
 exact EW (fun w hp=>Bo hS.tt he (hr.h w hp) h0 h1 hv) cj h hg ho
end
class Po (L:List bh)(R:bh)(f:outParam (bh->List bh)):Prop where
 h:∃M,L.Perm (R::M)/\∀R',(f R').Perm (R'::M)
instance Po.head {L:List bh}{R:bh}:Po (R::L) R (fun R'=>R'::L):=⟨L,.refl _,fun _=> .refl _⟩
instance Po.tail {L:List bh}{R A:bh}{f:bh->List bh}[h:Po L R f]:Po (A::L) R (fun R'=>A::f R'):=by
 obtain⟨M,h1,h2⟩:=h.h
 exact⟨A::M,(h1.cons A).trans (.swap _ _ _),fun R'=>((h2 R').cons A).trans (.swap _ _ _)⟩
class uS (L:List bh)(b:Nat)(t:outParam TypeId)(cs:outParam (List Value))(f:outParam (List Value->List bh)):Prop where
 h:∃M,L.Perm (rB b t cs::M)/\∀w9,(f w9).Perm (rB b t w9::M)
instance uS.head {L:List bh}{b:Nat}{t:TypeId}{cs:List Value}:uS (rB b t cs::L) b t cs (fun w9=>rB b t w9::L):=⟨L,.refl _,fun _=> .refl _⟩
instance uS.tail {L:List bh}{A:bh}{b:Nat}{t:TypeId}{cs:List Value}{f:List Value->List bh}[h:uS L b t cs f]:uS (A::L) b t cs (fun w9=>A::f w9):=by
 obtain⟨M,h1,h2⟩:=h.h
 exact⟨A::M,(h1.cons A).trans (.swap _ _ _),fun R'=>((h2 R').cons A).trans (.swap _ _ _)⟩
class nm (L:List bh)(a:Option Addr){α:outParam Type}(e:outParam TypeId)(s:outParam Nat)(enc:outParam (α->List Value))(c:outParam Nat)(X:outParam (List α))(f:outParam (Option Addr->Nat->List α->List bh)):Prop where
 h:∃M,L.Perm (rO e s enc a c X::M)/\∀a' c' X',(f a' c' X').Perm (rO e s enc a' c' X'::M)
instance nm.head {L:List bh}{a:Option Addr}{α:Type}{e:TypeId}{s:Nat}{enc:α->List Value}{c:Nat}{X:List α}:nm (rO e s enc a c X::L) a e s enc c X (fun a' c' X'=>rO e s enc a' c' X'::L):=⟨L,.refl _,fun _ _ _=> .refl _⟩
instance nm.tail {L:List bh}{A:bh}{a:Option Addr}{α:Type}{e:TypeId}{s:Nat}{enc:α->List Value}{c:Nat}{X:List α}{f:Option Addr->Nat->List α->List bh}[h:nm L a e s enc c X f]:nm (A::L) a e s enc c X (fun a' c' X'=>A::f a' c' X'):=by
 obtain⟨M,h1,h2⟩:=h.h
 exact⟨A::M,(h1.cons A).trans (.swap _ _ _),fun a' c' X'=>((h2 a' c' X').cons A).trans (.swap _ _ _)⟩
theorem Hp.at_ {w0 w:World}{L:List bh}(hp:Hp w0 w L)(R:bh){f:bh->List bh}[h:Po L R f]:∃M,Hp w0 w (R::M)/\∀w' R',Hp w0 w' (R'::M)->Hp w0 w' (f R'):=by
 obtain⟨M,h1,h2⟩:=h.h
 exact⟨M,hp.perm h1,fun w' R' nL=>nL.perm (h2 R').symm⟩
theorem Hp.take {w0 w:World}{L:List bh}(hp:Hp w0 w L)(R:bh){f:bh->List bh}[h:Po L R f]:R.P w:=by
 obtain⟨M,h1,_⟩:=h.h
 exact(hp.perm h1).g0
def sJ:List Value->Option (List Int)
 |[]=>some []
 | .int .i64 x::r=>match sJ r with
  |some l=>some (x::l)
  |none=>none
 |_=>none
theorem rh:∀{cs:List Value} {M:List Int},sJ cs=some M->M.flatMap eI=cs
 |[],M,h=>by injection h with h;subst h;rfl
 |v::r,M,h=>by
  unfold sJ at h
  split at h
  ·rename_i h0;cases h0
  ·rename_i x r' heq
   injection heq with h1 h2
   subst h1;subst h2
   split at h
   ·rename_i l hl
    injection h with h
    subst h
    rw[List.flatMap_cons,rh hl]
    rfl
   ·cases h
  ·cases h
section
variable {S:ak} {sz:Nat} {R:Value->World->Prop} {C:World->Prop} {w:World} {g':G} {cc:List Prop}
variable {ops:Array Oper} {rest:List Oper} {k:List Item} {env:Env} {w0:World} {F:List bh}
theorem T' {b o:Nat}{tb t:TypeId}{cs:List Value}{f:List Value->List bh}{v:Value}{i:TI}[hS:S.Ok](hp:Hp w0 w F)[hu:uS F b tb cs f](hi:tl S.tt t=some i)(hs:i.size=1)(ho:Nat.ble (o+1) cs.length=true)(hv:v.oneCell'=true)
  (hk:∀w',Hp w0 w' (f (cs.set o v))->ax S sz R C w' (.ops false ops rest k env)):ax S sz R C w (.act (.store t ⟨b,o,none⟩ v) ⟨false,ops,rest,none,k,env⟩):=by
 obtain⟨M,h1,h2⟩:=hu.h
 exact TZ (hp.perm h1) hi hs (Nat.le_of_ble_eq_true ho) hv fun w' nL=>hk w' (nL.perm (h2 _).symm)
theorem Pp {b:Nat}{tb t:TypeId}{cs vs:List Value}{f:List Value->List bh}{i:TI}[hS:S.Ok](hp:Hp w0 w F)[hu:uS F b tb cs f](hi:tl S.tt t=some i)(hs:i.size=vs.length)(hl:Nat.beq cs.length vs.length=true)(h1:vs.all Value.oneCell'=true)
  (hk:∀w',Hp w0 w' (f vs)->ax S sz R C w' (.ops false ops rest k env)):ax S sz R C w (.act (.store t ⟨b,0,none⟩ (.agg ⟨vs⟩)) ⟨false,ops,rest,none,k,env⟩):=by
 obtain⟨M,h3,h2⟩:=hu.h
 exact Pm (hp.perm h3) hi hs (Nat.eq_of_beq_eq_true hl) (fun v hv=>List.all_eq_true.1 h1 v hv) fun w' nL=>hk w' (nL.perm (h2 _).symm)
theorem ki {s1:Nat}{α:Type}[Inhabited α]{enc:α->List Value}{e t:TypeId}{a:Option Addr}{c s:Nat}{X:List α}{f:Option Addr->Nat->List α->List bh}(hp:Hp w0 w F)[hu:nm F a e s enc c X f][he:bX enc s]{i:TI}[hS:S.Ok](jw:s1=s)(hi:tl S.tt t=some i)(hs:i.size=1){z:Int}(hz:z.toNat<X.length){y:α}{v:Value}(hj:0<s)(hy:enc y=(enc (X.getD z.toNat default)).set 0 v)(hv:v.oneCell'=true)
  (hk:∀w',Hp w0 w' (f a c (X.set z.toNat y))->ax S sz R C w' (.ops false ops rest k env)):ax S sz R C w (.act (.store t (aE a s1 z) v) ⟨false,ops,rest,none,k,env⟩):=by
 subst jw
 obtain⟨M,h1,h2⟩:=hu.h
 exact T0 (hp.perm h1) hi hs he (getD_some hz) hj hy hv fun w' nL=>hk w' (nL.perm (h2 _ _ _).symm)
theorem NQ {s1:Nat}{α:Type}[Inhabited α]{enc:α->List Value}{e t:TypeId}{a:Option Addr}{c s:Nat}{X:List α}{f:Option Addr->Nat->List α->List bh}(hp:Hp w0 w F)[hu:nm F a e s enc c X f][he:bX enc s]{i:TI}[hS:S.Ok](y:α)(jw:s1=s)(hi:tl S.tt t=some i)(hs:i.size=1){z:Int}{j:Nat}(hz:z.toNat<X.length){v:Value}(hj:j<s)(hy:enc y=(enc (X.getD z.toNat default)).set j v)(hv:v.oneCell'=true)
  (hk:∀w',Hp w0 w' (f a c (X.set z.toNat y))->ax S sz R C w' (.ops false ops rest k env)):ax S sz R C w (.act (.store t (jn (aE a s1 z) j) v) ⟨false,ops,rest,none,k,env⟩):=by
 subst jw
 obtain⟨M,h1,h2⟩:=hu.h
 exact T4 (hp.perm h1) hi hs he (getD_some hz) hj hy hv fun w' nL=>hk w' (nL.perm (h2 _ _ _).symm)
theorem Pq (hp:Hp w0 w F){t e:TypeId}{i j:TI}{nn:Nat}{parts:List (Nat×Value)}{cs:List Value}{M:List Int}{d:Nat}[hS:S.Ok](hi:tl S.tt t=some i)(hd:i.desc= .slice e)(hj:tl S.tt e=some j)(hz:(aL j.zero).length=j.size)(lQ:j.size=1)(_:j.desc= .int .i64)
  (hc:gV S.tt e nn parts=some cs) (hM:sJ cs=some M) (hn:M.length=nn) (hb:Nat.ble (nn*1) 16777216=true)
  (hk:∀w' b,Ext w w'->Hp w0 w' (rO e 1 eI (some ⟨b,0,none⟩) M.length M::F)->ax S sz R C w' (.ops false ops rest k ((d,.slice (some ⟨b,0,none⟩) M.length M.length)::env))):
  ax S sz R C w (.act (.buildSlice t nn parts) ⟨false,ops,rest,some d,k,env⟩):=
 r7 hp eI M hi hd hj hz lQ (by decide) tB hc (rh hM) hn (Nat.le_of_ble_eq_true hb) hk
theorem C0 {α:Type}[Inhabited α]{enc:α->List Value}{X Y:List α}{t u e ty:TypeId}{a sa:Option Addr}{c sc n:Nat}{s:Nat}{f:Option Addr->Nat->List α->List bh}(hp:Hp w0 w F)[hq:nm F a e s enc c X f][he:bX enc s][hr:gm w0 F sa s enc Y]{i j:TI}{m:Nat}(hn:X.length=n)(hM:Y.length=m){d:Nat}[hS:S.Ok](hi:tl S.tt t=some i)(hd:i.desc= .slice e)(hj:tl S.tt e=some j)(hz:(aL j.zero).length=j.size)(lQ:j.size=s)(iA:0<s)
  (hu:u=t) (hm:X.length+Y.length<=1000000000) {Gh:Nat} (LM:j.bytes=Gh) (A7:Nat.ble Gh 1000=true)
  (hk:∀a' c' w',Hp w0 w' (f a' c' (X++Y))->(a'=none↔a=none/\Y=[])->ax S sz R C w' (.ops false ops rest k ((d,.slice a' (X++Y).length c')::env))):
  ax S sz R C w (.act (.append t u ty (.slice a n c) (.slice sa m sc)) ⟨false,ops,rest,some d,k,env⟩):=by
 obtain⟨M,h1,h2⟩:=hq.h
 subst hn
 refine Jj Y (hp.perm h1) hM hi hd hj hz lQ iA hu he (hr.h w hp) (by unfold maxLen;omega) ?_ fun a' c' w' nL _ h3=>hk a' c' w' (nL.perm (h2 _ _ _).symm) h3
 have:=Nat.le_of_ble_eq_true A7
 rw[LM]
 have:=Nat.mul_le_mul hm this
 omega
theorem Ah {b o:Nat}{tb t:TypeId}{cs:List Value}{f:List Value->List bh}{v:Value}{i:TI}[hS:S.Ok](hp:Hp w0 w F)[hu:uS F b tb cs f](hi:tl S.tt t=some i)(hs:i.size=1)(ho:Nat.ble (o+1) cs.length=true)(hv:v.oneCell'=true)(iO:bH ops rest=false)
  (hk:∀w',Hp w0 w' (f (cs.set o v))->ax S sz R C w' (.ops true ops rest k env)):ax S sz R C w (.act (.store t ⟨b,o,none⟩ v) ⟨true,ops,rest,none,k,env⟩):=by
 obtain⟨M,h1,h2⟩:=hu.h
 exact T6 (hp.perm h1) hi hs (Nat.le_of_ble_eq_true ho) hv iO fun w' nL=>hk w' (nL.perm (h2 _).symm)
theorem uT {b:Nat}{tb t:TypeId}{cs vs:List Value}{f:List Value->List bh}{i:TI}[hS:S.Ok](hp:Hp w0 w F)[hu:uS F b tb cs f](hi:tl S.tt t=some i)(hs:i.size=vs.length)(hl:Nat.beq cs.length vs.length=true)(h1:vs.all Value.oneCell'=true)(iO:bH ops rest=false)
  (hk:∀w',Hp w0 w' (f vs)->ax S sz R C w' (.ops true ops rest k env)):ax S sz R C w (.act (.store t ⟨b,0,none⟩ (.agg ⟨vs⟩)) ⟨true,ops,rest,none,k,env⟩):=by
 obtain⟨M,h3,h2⟩:=hu.h
 exact Pn (hp.perm h3) hi hs (Nat.eq_of_beq_eq_true hl) (fun v hv=>List.all_eq_true.1 h1 v hv) iO fun w' nL=>hk w' (nL.perm (h2 _).symm)
theorem Ai {s1:Nat}{α:Type}[Inhabited α]{enc:α->List Value}{e t:TypeId}{a:Option Addr}{c s:Nat}{X:List α}{f:Option Addr->Nat->List α->List bh}(hp:Hp w0 w F)[hu:nm F a e s enc c X f][he:bX enc s]{i:TI}[hS:S.Ok](jw:s1=s)(hi:tl S.tt t=some i)(hs:i.size=1){z:Int}(hz:z.toNat<X.length){y:α}{v:Value}(hj:0<s)(hy:enc y=(enc (X.getD z.toNat default)).set 0 v)(hv:v.oneCell'=true)(iO:bH ops rest=false)
  (hk:∀w',Hp w0 w' (f a c (X.set z.toNat y))->ax S sz R C w' (.ops true ops rest k env)):ax S sz R C w (.act (.store t (aE a s1 z) v) ⟨true,ops,rest,none,k,env⟩):=by
 subst jw
 obtain⟨M,h1,h2⟩:=hu.h
 exact T7 (hp.perm h1) hi hs he (getD_some hz) hj hy hv iO fun w' nL=>hk w' (nL.perm (h2 _ _ _).symm)
theorem Gi {s1:Nat}{α:Type}[Inhabited α]{enc:α->List Value}{e t:TypeId}{a:Option Addr}{c s:Nat}{X:List α}{f:Option Addr->Nat->List α->List bh}(hp:Hp w0 w F)[hu:nm F a e s enc c X f][he:bX enc s]{i:TI}[hS:S.Ok](y:α)(jw:s1=s)(hi:tl S.tt t=some i)(hs:i.size=1){z:Int}{j:Nat}(hz:z.toNat<X.length){v:Value}(hj:j<s)(hy:enc y=(enc (X.getD z.toNat default)).set j v)(hv:v.oneCell'=true)(iO:bH ops rest=false)
  (hk:∀w',Hp w0 w' (f a c (X.set z.toNat y))->ax S sz R C w' (.ops true ops rest k env)):ax S sz R C w (.act (.store t (jn (aE a s1 z) j) v) ⟨true,ops,rest,none,k,env⟩):=by
 subst jw
 obtain⟨M,h1,h2⟩:=hu.h
 exact T8 (hp.perm h1) hi hs he (getD_some hz) hj hy hv iO fun w' nL=>hk w' (nL.perm (h2 _ _ _).symm)
theorem qv (hC:∀w',Ext w w'->C w')(hp:Hp w0 w F){t e:TypeId}{i j:TI}{nn:Nat}{parts:List (Nat×Value)}{cs:List Value}{M:List Int}{d:Nat}[hS:S.Ok](hi:tl S.tt t=some i)(hd:i.desc= .slice e)(hj:tl S.tt e=some j)(hz:(aL j.zero).length=j.size)(lQ:j.size=1)(_:j.desc= .int .i64)
  (hc:gV S.tt e nn parts=some cs) (hM:sJ cs=some M) (hn:M.length=nn) (hb:Nat.ble (nn*1) 16777216=true)
  (hk:∀w' b,Ext w w'->Hp w0 w' (rO e 1 eI (some ⟨b,0,none⟩) M.length M::F)->ax S sz R C w' (.ops true ops rest k ((d,.slice (some ⟨b,0,none⟩) M.length M.length)::env))):
  ax S sz R C w (.act (.buildSlice t nn parts) ⟨true,ops,rest,some d,k,env⟩):=
 CZ hC hp eI M hi hd hj hz lQ (by decide) tB hc (rh hM) hn (Nat.le_of_ble_eq_true hb) hk
theorem gW {α:Type}[Inhabited α]{enc:α->List Value}{X Y:List α}{t u e ty:TypeId}{a sa:Option Addr}{c sc n:Nat}{s:Nat}{f:Option Addr->Nat->List α->List bh}(hp:Hp w0 w F)[hq:nm F a e s enc c X f][he:bX enc s][hr:gm w0 F sa s enc Y]{i j:TI}{m:Nat}(hn:X.length=n)(hM:Y.length=m){d:Nat}[hS:S.Ok](hi:tl S.tt t=some i)(hd:i.desc= .slice e)(hj:tl S.tt e=some j)(hz:(aL j.zero).length=j.size)(lQ:j.size=s)(iA:0<s)
  (hu:u=t) (hm:X.length+Y.length<=1000000000) {Gh:Nat} (LM:j.bytes=Gh) (A7:Nat.ble Gh 1000=true) (iO:bH ops rest=false)
  (hk:∀a' c' w',Hp w0 w' (f a' c' (X++Y))->(a'=none↔a=none/\Y=[])->ax S sz R C w' (.ops true ops rest k ((d,.slice a' (X++Y).length c')::env))):
  ax S sz R C w (.act (.append t u ty (.slice a n c) (.slice sa m sc)) ⟨true,ops,rest,some d,k,env⟩):=by
 obtain⟨M,h1,h2⟩:=hq.h
 subst hn
 refine xI Y (hp.perm h1) (fun _ hq=>absurd hq (by rw[iO];decide)) hM hi hd hj hz lQ iA hu he (hr.h w hp) (by unfold maxLen;omega) ?_ fun a' c' w' nL _ h3=>hk a' c' w' (nL.perm (h2 _ _ _).symm) h3
 have:=Nat.le_of_ble_eq_true A7
 rw[LM]
 have:=Nat.mul_le_mul hm this
 omega
theorem HO {α:Type}[Inhabited α]{enc:α->List Value}{X Y:List α}{t u e ty:TypeId}{a sa:Option Addr}{c sc n:Nat}{s:Nat}{f:Option Addr->Nat->List α->List bh}(hp:Hp w0 w F)[hq:nm F a e s enc c X f][he:bX enc s][hr:gm w0 F sa s enc Y]{i j:TI}{m:Nat}(hn:X.length=n)(hM:Y.length=m){d:Nat}[hS:S.Ok](hi:tl S.tt t=some i)(hd:i.desc= .slice e)(hj:tl S.tt e=some j)(hz:(aL j.zero).length=j.size)(lQ:j.size=s)(iA:0<s)
  (hu:u=t) (hm:X.length+Y.length<=1000000000) {Gh:Nat} (LM:j.bytes=Gh) (A7:Nat.ble Gh 1000=true) (hC:∀a' c' w',Hp w0 w' (f a' c' (X++Y))->C w')
  (hk:∀a' c' w',Hp w0 w' (f a' c' (X++Y))->(a'=none↔a=none/\Y=[])->ax S sz R C w' (.ops true ops rest k ((d,.slice a' (X++Y).length c')::env))):
  ax S sz R C w (.act (.append t u ty (.slice a n c) (.slice sa m sc)) ⟨true,ops,rest,some d,k,env⟩):=by
 obtain⟨M,h1,h2⟩:=hq.h
 subst hn
 refine xI Y (hp.perm h1) (fun w' _ a' c' nL=>hC a' c' w' (nL.perm (h2 _ _ _).symm)) hM hi hd hj hz lQ iA hu he (hr.h w hp) (by unfold maxLen;omega) ?_ fun a' c' w' nL _ h3=>hk a' c' w' (nL.perm (h2 _ _ _).symm) h3
 have:=Nat.le_of_ble_eq_true A7
 rw[LM]
 have:=Nat.mul_le_mul hm this
 omega
end
section
variable {S:ak} {sz:Nat} {R:Value->World->Prop} {C:World->Prop} {w:World} {g':G} {cc:List Prop}
variable {ops:Array Oper} {rest:List Oper} {k:List Item} {env:Env} {w0:World} {F:List bh}
theorem Pr {s1:Nat}{α:Type}[Inhabited α]{enc:α->List Value}{X:List α}{a:Option Addr}{s:Nat}[he:bX enc s]{i:Nat}{t:TypeId}{v:Value}{d:Nat}[hS:S.Ok](hp:Hp w0 w F)[hr:gm w0 F a s enc X](jw:s1=s)(h1:i<X.length)(hv:rf S.tt t (enc (X.getD i default)) 0=some v)
  (h:run S sz 400 (.ops false ops rest k ((d,v)::env)) []=(g',cc)) (hg:ax S sz R C w g') (ho:ir cc:=by((repeat' apply And.intro)<;>first|exact trivial|omega|exact wi (by omega)|exact wu (by omega)|exact wb (by omega)|(refine Sl.nn (by assumption) ?_;omega)|(refine bW (by assumption) ?_;omega)|exact Option.some_ne_none _|assumption|decide)):ax S sz R C w (.act (.load t (aE a s1 ((i:Nat):Int))) ⟨false,ops,rest,some d,k,env⟩):=
 NP hp jw (by omega) (by omega) hv h hg ho
theorem Ps {s1:Nat}{L':List bh}{α:Type}[Inhabited α]{enc:α->List Value}{X:List α}{a:Option Addr}{s:Nat}[he:bX enc s]{i:Nat}{t:TypeId}{v:Value}{d:Nat}[hS:S.Ok][hr:gm w0 L' a s enc X](jw:s1=s)(h1:i<X.length)(hv:rf S.tt t (enc (X.getD i default)) 0=some v)(cj:ops.toList.take (ops.toList.length-rest.length)++rest=ops.toList)
  (h:run S sz 400 (.ops true ops rest k ((d,v)::env)) []=(g',cc)) (hg:ax S sz R (fun w'=>Hp w0 w' L') w g') (ho:ir cc:=by((repeat' apply And.intro)<;>first|exact trivial|omega|exact wi (by omega)|exact wu (by omega)|exact wb (by omega)|(refine Sl.nn (by assumption) ?_;omega)|(refine bW (by assumption) ?_;omega)|exact Option.some_ne_none _|assumption|decide)):ax S sz R (fun w'=>Hp w0 w' L') w (.act (.load t (aE a s1 ((i:Nat):Int))) ⟨true,ops,rest,some d,k,env⟩):=
 jb jw (by omega) (by omega) hv cj h hg ho
theorem Pt {s1:Nat}{α:Type}[Inhabited α]{enc:α->List Value}{X:List α}{a:Option Addr}{s:Nat}[he:bX enc s]{i:Nat}{j:Nat}{t:TypeId}{v:Value}{d:Nat}[hS:S.Ok](hp:Hp w0 w F)[hr:gm w0 F a s enc X](jw:s1=s)(h1:i<X.length)(hv:rf S.tt t (enc (X.getD i default)) j=some v)
  (h:run S sz 400 (.ops false ops rest k ((d,v)::env)) []=(g',cc)) (hg:ax S sz R C w g') (ho:ir cc:=by((repeat' apply And.intro)<;>first|exact trivial|omega|exact wi (by omega)|exact wu (by omega)|exact wb (by omega)|(refine Sl.nn (by assumption) ?_;omega)|(refine bW (by assumption) ?_;omega)|exact Option.some_ne_none _|assumption|decide)):ax S sz R C w (.act (.load t (jn (aE a s1 ((i:Nat):Int)) j)) ⟨false,ops,rest,some d,k,env⟩):=
 NO hp jw (by omega) (by omega) hv h hg ho
theorem lH {s1:Nat}{L':List bh}{α:Type}[Inhabited α]{enc:α->List Value}{X:List α}{a:Option Addr}{s:Nat}[he:bX enc s]{i:Nat}{j:Nat}{t:TypeId}{v:Value}{d:Nat}[hS:S.Ok][hr:gm w0 L' a s enc X](jw:s1=s)(h1:i<X.length)(hv:rf S.tt t (enc (X.getD i default)) j=some v)(cj:ops.toList.take (ops.toList.length-rest.length)++rest=ops.toList)
  (h:run S sz 400 (.ops true ops rest k ((d,v)::env)) []=(g',cc)) (hg:ax S sz R (fun w'=>Hp w0 w' L') w g') (ho:ir cc:=by((repeat' apply And.intro)<;>first|exact trivial|omega|exact wi (by omega)|exact wu (by omega)|exact wb (by omega)|(refine Sl.nn (by assumption) ?_;omega)|(refine bW (by assumption) ?_;omega)|exact Option.some_ne_none _|assumption|decide)):ax S sz R (fun w'=>Hp w0 w' L') w (.act (.load t (jn (aE a s1 ((i:Nat):Int)) j)) ⟨true,ops,rest,some d,k,env⟩):=
 iC jw (by omega) (by omega) hv cj h hg ho
theorem nO {s1:Nat}{α:Type}[Inhabited α]{enc:α->List Value}{e t:TypeId}{a:Option Addr}{c s:Nat}{X:List α}{f:Option Addr->Nat->List α->List bh}(hp:Hp w0 w F)[hu:nm F a e s enc c X f][he:bX enc s]{i:TI}[hS:S.Ok](jw:s1=s)(hi:tl S.tt t=some i)(hs:i.size=1){z:Nat}(hz:z<X.length){y:α}{v:Value}(hj:0<s)(hy:enc y=(enc (X.getD z default)).set 0 v)(hv:v.oneCell'=true)
  (hk:∀w',Hp w0 w' (f a c (X.set z y))->ax S sz R C w' (.ops false ops rest k env)):ax S sz R C w (.act (.store t (aE a s1 ((z:Nat):Int)) v) ⟨false,ops,rest,none,k,env⟩):=
 ki (z:=((z:Nat):Int)) hp jw hi hs hz hj hy hv hk
theorem Jn {s1:Nat}{α:Type}[Inhabited α]{enc:α->List Value}{e t:TypeId}{a:Option Addr}{c s:Nat}{X:List α}{f:Option Addr->Nat->List α->List bh}(hp:Hp w0 w F)[hu:nm F a e s enc c X f][he:bX enc s]{i:TI}[hS:S.Ok](y:α)(jw:s1=s)(hi:tl S.tt t=some i)(hs:i.size=1){z j:Nat}(hz:z<X.length){v:Value}(hj:j<s)(hy:enc y=(enc (X.getD z default)).set j v)(hv:v.oneCell'=true)
  (hk:∀w',Hp w0 w' (f a c (X.set z y))->ax S sz R C w' (.ops false ops rest k env)):ax S sz R C w (.act (.store t (jn (aE a s1 ((z:Nat):Int)) j) v) ⟨false,ops,rest,none,k,env⟩):=
 NQ (z:=((z:Nat):Int)) hp y jw hi hs hz hj hy hv hk
theorem Bq {s1:Nat}{α:Type}[Inhabited α]{enc:α->List Value}{e t:TypeId}{a:Option Addr}{c s:Nat}{X:List α}{f:Option Addr->Nat->List α->List bh}(hp:Hp w0 w F)[hu:nm F a e s enc c X f][he:bX enc s]{i:TI}[hS:S.Ok](jw:s1=s)(hi:tl S.tt t=some i)(hs:i.size=1){z:Nat}(hz:z<X.length){y:α}{v:Value}(hj:0<s)(hy:enc y=(enc (X.getD z default)).set 0 v)(hv:v.oneCell'=true)(iO:bH ops rest=false)
  (hk:∀w',Hp w0 w' (f a c (X.set z y))->ax S sz R C w' (.ops true ops rest k env)):ax S sz R C w (.act (.store t (aE a s1 ((z:Nat):Int)) v) ⟨true,ops,rest,none,k,env⟩):=
 Ai (z:=((z:Nat):Int)) hp jw hi hs hz hj hy hv iO hk
theorem EX {s1:Nat}{α:Type}[Inhabited α]{enc:α->List Value}{e t:TypeId}{a:Option Addr}{c s:Nat}{X:List α}{f:Option Addr->Nat->List α->List bh}(hp:Hp w0 w F)[hu:nm F a e s enc c X f][he:bX enc s]{i:TI}[hS:S.Ok](y:α)(jw:s1=s)(hi:tl S.tt t=some i)(hs:i.size=1){z j:Nat}(hz:z<X.length){v:Value}(hj:j<s)(hy:enc y=(enc (X.getD z default)).set j v)(hv:v.oneCell'=true)(iO:bH ops rest=false)
  (hk:∀w',Hp w0 w' (f a c (X.set z y))->ax S sz R C w' (.ops true ops rest k env)):ax S sz R C w (.act (.store t (jn (aE a s1 ((z:Nat):Int)) j) v) ⟨true,ops,rest,none,k,env⟩):=
 Gi (z:=((z:Nat):Int)) hp y jw hi hs hz hj hy hv iO hk
end
section
variable {S:ak} {sz:Nat} {R:Value->World->Prop} {C:World->Prop} {w w0:World} {F:List bh}
theorem iD [hS:S.Ok]{b o:Nat}{t tb:TypeId}{cs:List Value}{v:Value}(hp:Hp w0 w F)[hb:Bp w0 F b tb cs](hv:rf S.tt t cs o=some v)(h:R v w):ax S sz R C w (.zE [.at_ t ⟨b,o,none⟩]):=
 ⟨[v],⟨lV hS.tt (hb.h w hp) hv,trivial⟩,h⟩
theorem Pu [hS:S.Ok]{b o b' o':Nat}{t tb t' Pv:TypeId}{cs w9:List Value}{v v':Value}(hp:Hp w0 w F)[hb:Bp w0 F b tb cs][rN:Bp w0 F b' Pv w9](hv:rf S.tt t cs o=some v)(Ua:rf S.tt t' w9 o'=some v')(h:R (.tuple ⟨[v,v']⟩) w):ax S sz R C w (.zE [.at_ t ⟨b,o,none⟩,.at_ t' ⟨b',o',none⟩]):=
 ⟨[v,v'],⟨lV hS.tt (hb.h w hp) hv,lV hS.tt (rN.h w hp) Ua,trivial⟩,h⟩
theorem bg [hS:S.Ok]{b o:Nat}{t tb:TypeId}{cs:List Value}{v u:Value}(hp:Hp w0 w F)[hb:Bp w0 F b tb cs](hv:rf S.tt t cs o=some v)(h:R (.tuple ⟨[v,u]⟩) w):ax S sz R C w (.zE [.at_ t ⟨b,o,none⟩,.val u]):=
 ⟨[v,u],⟨lV hS.tt (hb.h w hp) hv,rfl,trivial⟩,h⟩
end
section
variable {S:ak} {sz:Nat} {R:Value->World->Prop} {C:World->Prop} {w:World} {c:sC}
theorem aG {q b want:Bool}{ops:Array Oper}{o:Oper}{rest:List Oper}{k:List Item}{env:Env}(h:ax S sz R C w (.guard q b want ops o rest k env)):ax S sz R C w (.guard q b want ops o rest k env):=h
theorem ah {t:TypeId}{ad:Addr}(h:ax S sz R C w (.act (.load t ad) c)):ax S sz R C w (.act (.load t ad) c):=h
theorem aH {t:TypeId}{ad:Addr}{v:Value}(h:ax S sz R C w (.act (.store t ad v) c)):ax S sz R C w (.act (.store t ad v) c):=h
theorem bK {t:TypeId}{n:Nat}{ps:List (Nat×Value)}(h:ax S sz R C w (.act (.buildSlice t n ps) c)):ax S sz R C w (.act (.buildSlice t n ps) c):=h
theorem gq {f:FuncId}{args:List Value}(h:ax S sz R C w (.act (.call f args) c)):ax S sz R C w (.act (.call f args) c):=h
theorem dA {l:List RV}(h:ax S sz R C w (.zE l)):ax S sz R C w (.zE l):=h
end
theorem aq {S:ak}{sz:Nat}{R:Value->World->Prop}{C:World->Prop}{w:World}{v:Value}(h:R v w):ax S sz R C w (.ret v):=h
theorem bN.yes {P:Program}{f:FuncId}{args:List Value}{w:World}{p:Prop}{d:Decidable p}(h:bN P f args w fun v w'=>v= .bool (@decide p d)/\Ext w w')(hp:p):bN P f args w fun v w'=>v= .bool true/\Ext w w':=
 h.mono fun _ _ ⟨h1,h2⟩=>⟨by rw[h1,decide_eq_true hp],h2⟩
theorem bN.no {P:Program}{f:FuncId}{args:List Value}{w:World}{p:Prop}{d:Decidable p}(h:bN P f args w fun v w'=>v= .bool (@decide p d)/\Ext w w')(hp:¬p):bN P f args w fun v w'=>v= .bool false/\Ext w w':=
 h.mono fun _ _ ⟨h1,h2⟩=>⟨by rw[h1,decide_eq_false hp],h2⟩
theorem bN.tt {P:Program}{f:FuncId}{args:List Value}{w:World}{b:Bool}(h:bN P f args w fun v w'=>v= .bool b/\Ext w w')(hp:b=true):bN P f args w fun v w'=>v= .bool true/\Ext w w':=by subst hp;exact h
theorem bN.ff {P:Program}{f:FuncId}{args:List Value}{w:World}{b:Bool}(h:bN P f args w fun v w'=>v= .bool b/\Ext w w')(hp:b=false):bN P f args w fun v w'=>v= .bool false/\Ext w w':=by subst hp;exact h
end Go.Xw
