/- The engine: a small evaluator for the model's code over a list of known slots, with its soundness; no condition. -/
import Derived.Test.YtiepmliokblkjaaGreatLex
set_option linter.all false
namespace Go.Xw
open Go.RowKit
abbrev Env:=List (Nat×Value)
def look:Env->Nat->Option Value
 |[],_=>none
 |(s,v)::r,t=>match Nat.beq s t with
  |true=>some v
  |false=>look r t
def ev (env:Env):Operand->Option Value
 | .tmp t=>look env t
 | .const v=>some v
 | .global g=>some (.pointer (some ⟨g,0,none⟩))
 | .func f=>some (.func (.func f) #[] #[])
def K9 (env:Env):List Operand->Option (List Value)
 |[]=>some []
 |x::r=>match ev env x with
  |some v=>match K9 env r with
   |some vs=>some (v::vs)
   |none=>none
  |none=>none
inductive D where
 |int (k:IntKind)|bool|string|slice (e:TypeId)|struct (fs:List (Nat×TypeId))|array (n:Nat) (e:TypeId)|pointer (e:TypeId)|map (k e:TypeId)|other
def IF:TypeDesc->D
 | .int k=> .int k
 | .bool=> .bool
 | .string=> .string
 | .slice e=> .slice e
 | .struct fs=> .struct (fs.toList.map fun f=>(f.offset,f.type))
 | .array n e=> .array n e
 | .pointer e=> .pointer e
 | .map k e=> .map k e
 |_=> .other
structure TI where
 desc:D
 size:Nat
 bytes:Nat
 zero:Value
 plain:Bool
abbrev TT:=List (Nat×TI)
def tl:TT->Nat->Option TI
 |[],_=>none
 |(s,v)::r,t=>match Nat.beq s t with
  |true=>some v
  |false=>tl r t
theorem Gb {d:TypeDesc}{k:IntKind}(h:IF d= .int k):d= .int k:=by cases d<;>simp_all [IF]
theorem CP {d:TypeDesc}(h:IF d= .bool):d= .bool:=by cases d<;>simp_all [IF]
theorem jQ {d:TypeDesc}{e:TypeId}(h:IF d= .slice e):d= .slice e:=by cases d<;>simp_all [IF]
theorem zZ {d:TypeDesc}{n:Nat}{e:TypeId}(h:IF d= .array n e):d= .array n e:=by cases d<;>simp_all [IF]
theorem o0 {d:TypeDesc}{fs:List (Nat×TypeId)}(h:IF d= .struct fs):∃gs,d= .struct gs/\gs.toList.map (fun f=>(f.offset,f.type))=fs:=by
 cases d<;>simp_all [IF]
def named:TypeDesc->Prop
 | .struct fs=>∀f∈fs.toList,(f.name== "_")=false
 |_=>True
def dq (P:Program)(t:TypeId)(i:TI):Prop:=
 ∃info d,P.info? t=some info/\info.size=i.size/\info.bytes=i.bytes/\info.zero=some i.zero/\P.underlying t=some d/\IF d=i.desc/\(i.plain=true->P.stoodInHeld t=false/\P.eqGuardType P.depth t=false/\named d)
def gJ (P:Program):TT->Prop
 |[]=>True
 |(t,i)::r=>dq P t i/\gJ P r
theorem gJ.get {P:Program}:∀{tt:TT} {t:Nat} {i:TI},gJ P tt->tl tt t=some i->dq P t i
 |[],_,_,_,h=>by simp[tl] at h
 |(s,v)::r,t,i,aS,h=>by
  unfold tl at h
  split at h
  ·rename_i hb
   obtain rfl:=Nat.eq_of_beq_eq_true hb
   injection h with h
   subst h
   exact aS.1
  ·exact gJ.get aS.2 h
def ir:List Prop->Prop
 |[]=>True
 |[p]=>p
 |p::q::r=>p/\ir (q::r)
theorem tu {p:Prop}{r:List Prop}:ir (p::r)↔p/\ir r:=by
 cases r with
 |nil=>simp[ir]
 |cons q r=>simp[ir]
def aE (a:Option Addr)(sz:Nat)(z:Int):Addr:=(a.getD ⟨0,0,none⟩).add (z.toNat*sz)
def TE (a:Option Addr)(n:Nat)(z:Int):Prop:=0<=z/\z<n/\a≠none
def jn:Addr->Nat->Addr
 |⟨b,o,none⟩,n=>⟨b,o+n,none⟩
 |a,n=>a.add n
theorem iP (a:Addr)(n:Nat):jn a n=a.add n:=by
 obtain⟨b,o,s⟩:=a
 cases s with
 |none=>by_cases h:n=0<;>simp[jn,Addr.add,h]
 |some s=>rfl
def Ob:Option Prop->Prop
 |none=>True
 |some p=>p
def W0:IntKind->IntKind->Bool
 | .i64,.i64=>true
 | .u8,.u8=>true
 | .u64,.u64=>true
 | .i32,.i32=>true
 | .u32,.u32=>true
 |_,_=>false
theorem CQ {k k':IntKind}(h:W0 k k'=true):k=k':=by
 cases k<;>cases k'<;>first|rfl|(simp[W0] at h)
def O8 (wr:Bool)(op:BinOp)(k:IntKind)(a b:Int):Option (Value×Option Prop):=
 match op with
 | .add=>match wr with
  |true=>some (.int k (k.wrap (a+b)),none)
  |false=>some (.int k (a+b),some (k.wrap (a+b)=a+b))
 | .sub=>match wr with
  |true=>some (.int k (k.wrap (a-b)),none)
  |false=>some (.int k (a-b),some (k.wrap (a-b)=a-b))
 | .mul=>match wr with
  |true=>some (.int k (k.wrap (a*b)),none)
  |false=>some (.int k (a*b),some (k.wrap (a*b)=a*b))
 | .quo=>match wr with
  |true=>some (.int k (k.wrap (a.tdiv b)),some (b≠0))
  |false=>some (.int k (a/b),some (0<=a/\0<b/\k.wrap (a/b)=a/b))
 | .rem=>match wr with
  |true=>some (.int k (a.tmod b),some (b≠0))
  |false=>some (.int k (a%b),some (0<=a/\0<b))
 | .and=>some (.int k (bits .and k a b),none)
 | .or=>some (.int k (bits .or k a b),none)
 | .xor=>some (.int k (bits .xor k a b),none)
 | .andNot=>some (.int k (bits .andNot k a b),none)
 | .eql=>some (.bool (decide (a=b)),none)
 | .neq=>some (.bool (decide (a≠b)),none)
 | .lss=>some (.bool (decide (a<b)),none)
 | .leq=>some (.bool (decide (a<=b)),none)
 | .gtr=>some (.bool (decide (b<a)),none)
 | .geq=>some (.bool (decide (b<=a)),none)
 |_=>none
def I7 (wr:Bool)(op:BinOp)(x y:Value):Option (Value×Option Prop):=
 match x with
 | .int k a=>match y with
  | .int k' b=>match op with
   | .shl=>match wr with
    |true=>some (.int k (k.wrap (a*2^(min b.toNat k.bits))),some (0<=b))
    |false=>some (.int k (a*2^b.toNat),some (0<=b/\b<=k.bits/\k.wrap (a*2^b.toNat)=a*2^b.toNat))
   | .shr=>match wr with
    |true=>some (.int k (a.fdiv (2^(min b.toNat k.bits))),some (0<=b))
    |false=>some (.int k (a/2^b.toNat),some (0<=b/\b<=k.bits))
   |op=>match W0 k k' with
    |true=>O8 wr op k a b
    |false=>none
  |_=>none
 | .string a=>match y with
  | .string b=>match op with
   | .eql=>some (.bool (a==b),none)
   | .neq=>some (.bool (!(a==b)),none)
   |_=>none
  |_=>none
 |_=>none
theorem CR {P:Program}{w:World}{op:BinOp}{k:IntKind}{a b:Int}(h:op= .and\/op= .or\/op= .xor\/op= .andNot):
  (Op.intBits op k a b).run P w= .ok (.int k (bits op k a b)) w:=by
 rcases h with rfl|rfl|rfl|rfl<;>simp[go_sem]
theorem EH {wr:Bool}{P:Program}{w:World}{op:BinOp}{t:TypeId}{k:IntKind}{a b:Int}{v:Value}{cc:Option Prop}
  (hs:op≠ .shl/\op≠ .shr) (h:O8 wr op k a b=some (v,cc)) (ho:Ob cc):(binOp op t (.int k a) (.int k b)).run P w= .ok v w:=by
 obtain⟨h1,h2⟩:=hs
 have td:∀(a b:Int),0<=a->0<b->a.tdiv b=a/b:=fun a b h0 _=>Int.tdiv_eq_ediv_of_nonneg h0
 have tm:∀(a b:Int),0<=a->0<b->a.tmod b=a%b:=fun a b h0 _=>Int.tmod_eq_emod_of_nonneg h0
 cases op<;>simp only[O8] at h<;>first|contradiction|skip
 all_goals(try(cases wr<;>simp only at h))
 all_goals(injection h with h;injection h with e1 e2;subst e1;subst e2)
 all_goals simp only[Ob] at ho
 all_goals first
  |(simp[binOp,Op.intArith];done)
  |(simp[binOp,Op.intArith,ho];done)
  |(simp[binOp,Op.intDiv,ho];done)
  |(simp[binOp,Op.intCmp];done)
  |(simp[binOp];exact CR (by simp))
  |(simp[binOp,Op.intCmp];rfl)
  |(obtain⟨o1,o2,o3⟩:=ho
    have hb:b≠0:=by omega
    simp[binOp,Op.intDiv,hb,td a b o1 o2,o3];done)
  |(obtain⟨o1,o2⟩:=ho
    have hb:b≠0:=by omega
    simp[binOp,Op.intDiv,hb,tm a b o1 o2];done)
theorem EI {wr:Bool}{P:Program}{w:World}{op:BinOp}{t:TypeId}{x y v:Value}{cc:Option Prop}
  (h:I7 wr op x y=some (v,cc)) (ho:Ob cc):(binOp op t x y).run P w= .ok v w:=by
 unfold I7 at h
 split at h
 ·split at h
  ·split at h
   ·rename_i k a _ k' b _
    split at h
    ·injection h with h;injection h with h1 h2;subst h1;subst h2
     simp only[Ob] at ho
     have hx:=Int.not_lt.2 ho
     simp[binOp,Op.shift,hx]
    ·injection h with h;injection h with h1 h2;subst h1;subst h2
     simp only[Ob] at ho
     obtain⟨o1,o2,o3⟩:=ho
     have hm:min b.toNat k.bits=b.toNat:=by omega
     simp[binOp,Op.shift,Int.not_lt.2 o1,hm,o3]
   ·rename_i k a _ k' b _
    split at h
    ·injection h with h;injection h with h1 h2;subst h1;subst h2
     simp only[Ob] at ho
     have hx:=Int.not_lt.2 ho
     simp[binOp,Op.shift,hx]
    ·injection h with h;injection h with h1 h2;subst h1;subst h2
     simp only[Ob] at ho
     obtain⟨o1,o2⟩:=ho
     have hm:min b.toNat k.bits=b.toNat:=by omega
     have hp:(0:Int)<=2^b.toNat:=Int.pow_nonneg (by decide)
     simp[binOp,Op.shift,Int.not_lt.2 o1,hm,Int.fdiv_eq_ediv_of_nonneg _ hp]
   ·rename_i O9 Ly
    split at h
    ·rename_i hk
     obtain rfl:=CQ hk
     exact EH ⟨fun e=>O9 e,fun e=>Ly e⟩ h ho
    ·cases h
  ·cases h
 ·split at h
  ·split at h
   ·injection h with h;injection h with h1 h2;subst h1;subst h2
    simp[binOp,Op.stringOp,beq_toListBytes]
   ·injection h with h;injection h with h1 h2;subst h1;subst h2
    simp[binOp,Op.stringOp,beq_toListBytes]
   ·cases h
  ·cases h
 ·cases h
def sB {α:Type}:List α->Nat->Option α
 |[],_=>none
 |x::_,0=>some x
 |_::r,n+1=>sB r n
theorem kV {α:Type}(l:List α)(n:Nat):sB l n=l[n]?:=by
 induction l generalizing n with
 |nil=>rfl
 |cons x r ih=>cases n with
  |zero=>rfl
  |succ n=>simp[sB,ih]
def vA {α:Type}:Nat->List α->Option (List α)
 |0,_=>some []
 |_+1,[]=>none
 |n+1,x::r=>match vA n r with
  |some l=>some (x::l)
  |none=>none
theorem xj {α:Type}{n:Nat}{l r:List α}(h:vA n l=some r):r=l.take n/\n<=l.length:=by
 induction n generalizing l r with
 |zero=>simp[vA] at h;simp[h]
 |succ n ih=>
  cases l with
  |nil=>simp[vA] at h
  |cons x l=>
   simp only[vA] at h
   split at h
   ·rename_i l' hl
    injection h with h
    subst h
    obtain⟨h1,h2⟩:=ih hl
    simp[h1,h2]
   ·cases h
def z7 {α:Type}:Nat->List α->List α
 |0,l=>l
 |_+1,[]=>[]
 |n+1,_::r=>z7 n r
theorem xk {α:Type}(n:Nat)(l:List α):z7 n l=l.drop n:=by
 induction n generalizing l with
 |zero=>rfl
 |succ n ih=>cases l with
  |nil=>rfl
  |cons x r=>simp[z7,ih]
def mA (tt:TT)(t:TypeId):Option Bool:=
 match tl tt t with
 |some i=>match i.desc with
  | .struct _=>some true
  | .array _ _=>some true
  |_=>some false
 |none=>none
def xl (tt:TT)(t:TypeId)(cs:List Value)(off:Nat):Option Value:=
 match tl tt t with
 |some i=>match mA tt t with
  |some true=>match vA i.size (z7 off cs) with
   |some l=>some (.agg l.toArray)
   |none=>none
  |some false=>sB cs off
  |none=>none
 |none=>none
theorem rb {P:Program}{tt:TT}(aS:gJ P tt){t:TypeId}{b:Bool}(h:mA tt t=some b)(w:World):(isAgg t).run P w= .ok b w:=by
 unfold mA at h
 split at h
 ·rename_i i hi
  obtain⟨info,td,h1,h2,h3,h4,h5,r5,h6⟩:=aS.get hi
  split at h<;>injection h with h<;>subst h<;>rename_i hd
  ·obtain⟨gs,rfl,_⟩:=o0 (r5.trans hd)
   simp[isAgg,run_underlying h5]
  ·rw[zZ (r5.trans hd)] at h5
   simp[isAgg,run_underlying h5]
  ·rename_i hn
   rw[<-r5] at hn hd
   cases td<;>first|exact(hn _ rfl).elim|exact(hd _ _ rfl).elim|simp[isAgg,run_underlying h5]
 ·cases h
theorem fi {P:Program}{tt:TT}(aS:gJ P tt){t:TypeId}{i:TI}(h:tl tt t=some i)(w:World):(sizeOf t).run P w= .ok i.size w:=by
 obtain⟨info,td,h1,h2,h3,h4,h5,r5,h6⟩:=aS.get h
 simp[sizeOf,typeInfo,h1,h2]
theorem uI {P:Program}{tt:TT}(aS:gJ P tt){t:TypeId}{i:TI}(h:tl tt t=some i)(w:World):∃d,(underlying t).run P w= .ok d w/\IF d=i.desc:=by
 obtain⟨info,td,h1,h2,h3,h4,h5,r5,h6⟩:=aS.get h
 exact⟨td,run_underlying h5 w,r5⟩
theorem lf {P:Program}{tt:TT}(aS:gJ P tt){t:TypeId}{cs:List Value}{off:Nat}{v:Value}(h:xl tt t cs off=some v)(w:World):
  (part t cs.toArray off).run P w= .ok v w:=by
 unfold xl at h
 split at h
 ·rename_i i hi
  split at h
  ·rename_i hb
   split at h
   ·rename_i l hl
    injection h with h
    subst h
    obtain⟨h1,h2⟩:=xj hl
    rw[xk] at h1
    simp only[part,Sem.run_bind,rb aS hb,Result.andThen_ok,if_true,fi aS hi,Sem.run_pure]
    rw[h1]
    simp
   ·cases h
  ·rename_i hb
   rw[kV] at h
   simp only[part,Sem.run_bind,rb aS hb,Result.andThen_ok,Bool.false_eq_true,if_false]
   simp[h]
  ·cases h
 ·cases h
def o6:List Value->List Value->Option (List Value)
 |l,[]=>some l
 |[],_::_=>none
 |_::l,v::vc=>match o6 l vc with
  |some r=>some (v::r)
  |none=>none
def uJ:List Value->Nat->List Value->Option (List Value)
 |l,0,vc=>o6 l vc
 |[],_+1,_=>none
 |x::l,o+1,vc=>match uJ l o vc with
  |some r=>some (x::r)
  |none=>none
theorem EJ {l vc r:List Value}(h:o6 l vc=some r):vc.length<=l.length/\r=vc++l.drop vc.length:=by
 induction vc generalizing l r with
 |nil=>cases l<;>(simp[o6] at h;simp[h])
 |cons v vc ih=>
  cases l with
  |nil=>simp[o6] at h
  |cons x l=>
   simp only[o6] at h
   split at h
   ·rename_i r' hr
    injection h with h
    subst h
    obtain⟨h1,h2⟩:=ih hr
    simp[h1,h2]
   ·cases h
theorem HB {l vc r:List Value}{o:Nat}(h:uJ l o vc=some r):o+vc.length<=l.length/\r=l.take o++vc++l.drop (o+vc.length):=by
 induction o generalizing l r with
 |zero=>
  have h':o6 l vc=some r:=by cases l<;>simpa [uJ] using h
  obtain⟨h1,h2⟩:=EJ h'
  simp[h1,h2]
 |succ o ih=>
  cases l with
  |nil=>simp[uJ] at h
  |cons x l=>
   simp only[uJ] at h
   split at h
   ·rename_i r' hr
    injection h with h
    subst h
    obtain⟨h1,h2⟩:=ih hr
    refine⟨by simp;omega,?_⟩
    rw[h2,show o+1+vc.length=(o+vc.length)+1 by omega]
    simp
   ·cases h
theorem HC (vc:List Value):∀(j off:Nat) (cs:Array Value),off+j+vc.length<=cs.size->
  ((vc.zipIdx j).foldl (fun cs (x:Value×Nat)=>cs.setIfInBounds (off+x.2) x.1) cs).toList=cs.toList.take (off+j)++vc++cs.toList.drop (off+j+vc.length):=by
 induction vc with
 |nil=>intro j off cs _;simp
 |cons v vc ih=>
  intro j off cs h
  simp only[List.zipIdx_cons,List.foldl_cons]
  rw[ih (j+1) off _ (by simp at h⊢;omega)]
  simp only[List.length_cons] at h
  have bD:off+j<cs.toList.length:=by simp;omega
  simp only[Array.toList_setIfInBounds]
  rw[List.length_cons,show off+j+(vc.length+1)=off+(j+1)+vc.length by omega,List.drop_set_of_lt (by omega)]
  congr 1
  rw[show off+(j+1)=(off+j)+1 by omega,List.take_succ_eq_append_getElem (by simpa using bD),List.take_set_of_le (Nat.le_refl _)]
  simp
def aL:Value->List Value
 | .agg ⟨l⟩=>l
 |v=>[v]
theorem ie (v:Value):aL v=v.cells.toList:=by cases v<;>rfl
def xm (pl:List (Nat×Nat)):List Value->List (Nat×Value)->Option (List Value)
 |cs,[]=>some cs
 |cs,(i,v)::r=>match sB pl i with
  |some (off,size)=>match aL v with
   |vc=>match Nat.beq vc.length size with
    |true=>match uJ cs off vc with
     |some w9=>xm pl w9 r
     |none=>none
    |false=>none
  |none=>none
def tv (tt:TT):List (Nat×TypeId)->Option (List (Nat×Nat))
 |[]=>some []
 |(off,ft)::r=>match tl tt ft with
  |some i=>match tv tt r with
   |some l=>some ((off,i.size)::l)
   |none=>none
  |none=>none
def SR (env:Env):List (Nat×Operand)->Option (List (Nat×Value))
 |[]=>some []
 |(i,x)::r=>match ev env x with
  |some v=>match SR env r with
   |some vs=>some ((i,v)::vs)
   |none=>none
  |none=>none
def EK (tt:TT)(t:TypeId)(parts:List (Nat×Value)):Option Value:=
 match tl tt t with
 |some i=>match i.desc with
  | .struct fs=>match tv tt fs with
   |some pl=>match xm pl (aL i.zero) parts with
    |some cs=>some (.agg ⟨cs⟩)
    |none=>none
   |none=>none
  | .array 2 e=>match tl tt e with
   |some j=>match xm [(0,j.size),(j.size,j.size)] (aL i.zero) parts with
    |some cs=>some (.agg ⟨cs⟩)
    |none=>none
   |none=>none
  |_=>none
 |none=>none
def re (tt:TT)(cs ds:List Value):List (Nat×TypeId)->Option Bool
 |[]=>some true
 |(off,ft)::r=>match tl tt ft with
  |some i=>match i.desc with
   | .int _=>match sB cs off with
    |some (.int k a)=>match sB ds off with
     |some (.int k' b)=>match W0 k k' with
      |true=>match re tt cs ds r with
       |some e=>some (decide (a=b)&&e)
       |none=>none
      |false=>none
     |_=>none
    |_=>none
   | .bool=>match sB cs off with
    |some (.bool a)=>match sB ds off with
     |some (.bool b)=>match re tt cs ds r with
      |some e=>some ((a==b)&&e)
      |none=>none
     |_=>none
    |_=>none
   |_=>none
  |none=>none
def SS (tt:TT)(t:TypeId)(x y:Value):Option Bool:=
 match tl tt t with
 |some i=>match i.desc with
  | .bool=>match x with
   | .bool a=>match y with
    | .bool b=>some (a==b)
    |_=>none
   |_=>none
  | .struct fs=>match i.plain with
   |true=>match x with
    | .agg ⟨cs⟩=>match y with
     | .agg ⟨ds⟩=>re tt cs ds fs
     |_=>none
    |_=>none
   |false=>none
  |_=>none
 |none=>none
def XQ (op:UnOp)(x:Value):Option Value:=
 match op with
 | .not=>match x with
  | .bool b=>some (.bool (!b))
  |_=>none
 | .neg=>match x with
  | .int k n=>some (.int k (k.wrap (0-n)))
  |_=>none
 | .xor=>match x with
  | .int .i64 n=>some (.int .i64 (bits .xor .i64 (-1) n))
  |_=>none
 |_=>none
def tw (tt:TT)(s:TypeId)(f:Nat):Option (Nat×Nat×TypeId):=
 match tl tt s with
 |some i=>match i.desc with
  | .struct fs=>match sB fs f with
   |some (off,ft)=>match tl tt ft with
    |some j=>some (off,j.size,ft)
    |none=>none
   |none=>none
  |_=>none
 |none=>none
def TF (env:Env):Option Operand->Option (Option Value)
 |none=>some none
 |some x=>match ev env x with
  |some v=>some (some v)
  |none=>none
def nk (a:Option Addr)(c sz lo:Nat):Option Addr:=if c=lo then a else a.map (·.add (lo*sz))
def EL (a:Option Addr)(n c sz:Nat)(lo hi:Option Value):Option (Value×Option Prop):=
 match lo with
 |none=>match hi with
  |none=>some (.slice (nk a c sz 0) (n-0) (c-0),none)
  |some (.int _ h)=>some (.slice (nk a c sz 0) (h.toNat-0) (c-0),some (0<=h/\h<=c))
  |_=>none
 |some (.int _ l)=>match hi with
  |none=>some (.slice (nk a c sz l.toNat) (n-l.toNat) (c-l.toNat),some (0<=l/\l<=n))
  |some (.int _ h)=>some (.slice (nk a c sz l.toNat) (h.toNat-l.toNat) (c-l.toNat),some (0<=l/\l<=h/\h<=c))
  |_=>none
 |_=>none
def TG:List Value->Option Value
 |[.int k x,.int _ y]=>some (.int k (max x y))
 |_=>none
def TH:List Value->Option Value
 |[.int k x,.int _ y]=>some (.int k (min x y))
 |_=>none
def tx (wr:Bool)(tt:TT)(env:Env)(op:Op):Option (Value×Option Prop):=
 match op with
 | .move x=>match ev env x with
  |some v=>some (v,none)
  |none=>none
 | .assign x=>match ev env x with
  |some v=>some (v,none)
  |none=>none
 | .pick c a b=>match ev env c with
  |some (.bool true)=>match ev env a with
   |some v=>some (v,none)
   |none=>none
  |some (.bool false)=>match ev env b with
   |some v=>some (v,none)
   |none=>none
  |_=>none
 | .nilCheck x=>match ev env x with
  |some (.pointer (some a))=>some (.pointer (some a),none)
  |_=>none
 | .binOp op t x y _=>match ev env x with
  |some a=>match ev env y with
   |some b=>match I7 wr op a b with
    |some r=>some r
    |none=>match op with
     | .eql=>match SS tt t a b with
      |some e=>some (.bool e,none)
      |none=>none
     | .neq=>match SS tt t a b with
      |some e=>some (.bool (!e),none)
      |none=>none
     |_=>none
   |none=>none
  |none=>none
 | .unOp op _ x=>match ev env x with
  |some a=>match XQ op a with
   |some v=>some (v,none)
   |none=>none
  |none=>none
 | .extract t i=>match ev env t with
  |some (.tuple ⟨vs⟩)=>match sB vs i with
   |some v=>some (v,none)
   |none=>none
  |_=>none
 | .field t x f=>match tw tt t f with
  |some (off,_,ft)=>match ev env x with
   |some (.agg ⟨cs⟩)=>match xl tt ft cs off with
    |some v=>some (v,none)
    |none=>none
   |_=>none
  |none=>none
 | .fieldAddr t x f=>match tw tt t f with
  |some (off,size,_)=>match Nat.beq size 0 with
   |false=>match ev env x with
    |some (.pointer (some a))=>some (.pointer (some (jn a off)),none)
    |_=>none
   |true=>none
  |none=>none
 | .indexAddr t x ix=>match tl tt t with
  |some i=>match i.desc with
   | .slice e=>match tl tt e with
    |some j=>match ev env x with
     |some (.slice a n _)=>match ev env ix with
      |some (.int _ z)=>some (.pointer (some (aE a j.size z)),some (TE a n z))
      |_=>none
     |_=>none
    |none=>none
   |_=>none
  |none=>none
 | .convert s d x=>match tl tt s with
  |some _=>match tl tt d with
   |some j=>match j.desc with
    | .int k=>match ev env x with
     |some (.int _ n)=>match wr with
      |true=>some (.int k (k.wrap n),none)
      |false=>some (.int k n,some (k.wrap n=n))
     |_=>none
    |_=>none
   |none=>none
  |none=>none
 | .build t parts=>match SR env parts.toList with
  |some ps=>match EK tt t ps with
   |some v=>some (v,none)
   |none=>none
  |none=>none
 | .makeFunc fn ⟨first⟩ ⟨cap⟩=>match K9 env first with
  |some a=>match K9 env cap with
   |some b=>some (.func fn ⟨a⟩ ⟨b⟩,none)
   |none=>none
  |none=>none
 | .slice t x lo hi none=>match tl tt t with
  |some i=>match i.desc with
   | .slice e=>match tl tt e with
    |some j=>match ev env x with
     |some (.slice a n c)=>match TF env lo with
      |some lo'=>match TF env hi with
       |some HD=>EL a n c j.size lo' HD
       |none=>none
      |none=>none
     |_=>none
    |none=>none
   |_=>none
  |none=>none
 | .call {callee:= .builtin .len,args:=⟨[x]⟩,argTypes:=⟨[t]⟩}=>match tl tt t with
  |some i=>match i.desc with
   | .slice _=>match ev env x with
    |some (.slice _ n _)=>some (.int .i64 n,none)
    |_=>none
   |_=>none
  |none=>none
 | .call {callee:= .builtin .max,args:=⟨xs⟩,argTypes:=_}=>match K9 env xs with
  |some vs=>match TG vs with
   |some v=>some (v,none)
   |none=>none
  |none=>none
 | .call {callee:= .builtin .min,args:=⟨xs⟩,argTypes:=_}=>match K9 env xs with
  |some vs=>match TH vs with
   |some v=>some (v,none)
   |none=>none
  |none=>none
 |_=>none
inductive Action where
 |load (t:TypeId) (ad:Addr)
 |store (t:TypeId) (ad:Addr) (v:Value)
 |call (f:FuncId) (args:List Value)
 |alloc (t:TypeId)
 |box (t:TypeId) (v:Value)
 |buildSlice (t:TypeId) (n:Nat) (parts:List (Nat×Value))
 |makeSlice (t:TypeId) (l c:Value)
 |append (t u ty:TypeId) (s x:Value)
 |copy (t u ty:TypeId) (s x:Value)
def Action.lO:Action->Sem Next
 | .load t ad=>do pure (.value (<-loadVar t ad))
 | .store t ad v=>do storeVar t ad v;pure .skip
 | .call f args=>callFunc f ⟨args⟩
 | .alloc t=>do pure (.value (<-Instr.alloc t true (.tuple #[])))
 | .box t v=>do pure (.value (<-Instr.box t v))
 | .buildSlice t n parts=>do pure (.value (<-Instr.buildSlice t n ⟨parts⟩))
 | .makeSlice t l c=>do pure (.value (<-Instr.makeSlice t l c))
 | .append t u ty s x=>do pure (.value (<-Builtin.append_ #[t,u] ty #[s,x]))
 | .copy t u ty s x=>do pure (.value (<-Builtin.copy_ #[t,u] ty #[s,x]))
def pN (env:Env)(o:Op)(ty:TypeId):Option Action:=
 match o with
 | .load t p=>match ev env p with
  |some (.pointer (some ad))=>some (.load t ad)
  |_=>none
 | .store t p x=>match ev env p with
  |some (.pointer (some ad))=>match ev env x with
   |some v=>some (.store t ad v)
   |none=>none
  |_=>none
 | .alloc t=>some (.alloc t)
 | .box t x=>match ev env x with
  |some v=>some (.box t v)
  |none=>none
 | .buildSlice t n ⟨parts⟩=>match SR env parts with
  |some ps=>some (.buildSlice t n ps)
  |none=>none
 | .makeSlice t l c=>match ev env l with
  |some a=>match ev env c with
   |some b=>some (.makeSlice t a b)
   |none=>none
  |none=>none
 | .call {callee:= .value (.func f),args:=⟨xs⟩,argTypes:=_}=>match K9 env xs with
  |some vs=>some (.call f vs)
  |none=>none
 | .call {callee:= .value (.tmp t),args:=⟨xs⟩,argTypes:=_}=>match look env t with
  |some (.func (.func f) ⟨first⟩ ⟨cap⟩)=>match K9 env xs with
   |some vs=>some (.call f (first++vs++cap))
   |none=>none
  |_=>none
 | .call {callee:= .builtin .append,args:=⟨[x,y]⟩,argTypes:=⟨[t,u]⟩}=>match ev env x with
  |some a=>match ev env y with
   |some b=>some (.append t u ty a b)
   |none=>none
  |none=>none
 | .call {callee:= .builtin .copy,args:=⟨[x,y]⟩,argTypes:=⟨[t,u]⟩}=>match ev env x with
  |some a=>match ev env y with
   |some b=>some (.copy t u ty a b)
   |none=>none
  |none=>none
 |_=>none
structure sC where
 q:Bool
 ops:Array Oper
 rest:List Oper
 dst:Option Nat
 k:List Item
 env:Env
inductive RV where
 |val (v:Value)
 |at_ (t:TypeId) (ad:Addr)
inductive G where
 |code (k:List Item) (env:Env)
 |cond (b:Bool) (k1 k2:List Item) (env:Env)
 |ops (q:Bool) (ops:Array Oper) (l:List Oper) (k:List Item) (env:Env)
 |guard (q:Bool) (b want:Bool) (ops:Array Oper) (o:Oper) (rest:List Oper) (k:List Item) (env:Env)
 |HE (q:Bool) (ops:Array Oper) (o:Oper) (rest:List Oper) (k:List Item) (env:Env)
 |act (A:Action) (c:sC)
 |ret (v:Value)
 |zE (l:List RV)
def qh (env:Env)(a:Act):Prop:=∀t v,look env t=some v->a.tmps[t]?=some v
def nw (P:Program)(f:FuncId)(R:Value->World->Prop)(k:List Item)(a:Act)(w:World):Prop:=
 ∀(b:Frame) (cs:List Frame),b.fn=f->b.kind= .normal->
  ∃v w' fr,R v w'/\Steps P (lone (b.at a k) cs w) (lone fr cs w')/\fr.fn=f/\fr.leaving P w' (.returned v)
def EM (P:Program)(f:FuncId)(R:Value->World->Prop)(k:List Item):Exit->Act->World->Prop:=
 fun e a w=>e= .normal/\nw P f R k a w
structure Fits (sz:Nat)(env:Env)(a:Act):Prop where
 defers:a.defers=[]
 size:a.tmps.size=sz
 kC:qh env a
structure ak where
 P:Program
 tt:TT
 wr:Bool:=false
 f:FuncId
 fn:Func
 live:List Nat
 res:List ResultVar
class ak.Ok (S:ak):Prop where
 tt:gJ S.P S.tt
 fn:S.P.funcs[S.f]?=some S.fn
 res:S.fn.results.toList=S.res
def iu:List Value->Value
 |[v]=>v
 |vs=> .tuple ⟨vs⟩
def O' (P:Program)(w:World):List RV->List Value->Prop
 |[],[]=>True
 | .val v::l,u::us=>u=v/\O' P w l us
 | .at_ t ad::l,u::us=>(loadVar t ad).run P w= .ok u w/\O' P w l us
 |_,_=>False
def mB (P:Program)(A:Action)(w:World)(Q:Value->World->Prop):Prop:=
 match A.lO.run P w with
 | .ok (.value v) w'=>Q v w'
 | .ok .skip w'=>Q undef w'
 | .ok (.enter f args) w'=>Calls P f args w' fun e zU=>∃v,e= .returned v/\Q v zU
 |_=>False
def jo (env:Env)(dst:Option Nat)(v:Value):Env:=
 match dst with
 |some d=>(d,v)::env
 |none=>env
def I8 (ops:Array Oper)(l:List Oper):List (Oper×Bool):=(cW ops.toList).drop (ops.toList.length-l.length)
def bH (ops:Array Oper)(rest:List Oper):Bool:=match(cW ops.toList)[ops.toList.length-(rest.length+1)]? with
 |some x=>x.2
 |none=>true
def xo (S:ak)(sz:Nat)(R:Value->World->Prop)(C:World->Prop)(q:Bool)(ops:Array Oper)(l:List Oper)(k:List Item)(env:Env)(w:World):Prop:=
 match q with
 |false=>∀a,Fits sz env a->wpList S.P ops (EM S.P S.f R k) l a w
 |true=>(∃pre,ops.toList=pre++l)/\∀a,Fits sz env a->fo S.P ops C (fun a' w'=>nw S.P S.f R k a' w') (I8 ops l) a w
def HF (S:ak)(sz:Nat)(R:Value->World->Prop)(C:World->Prop)(q:Bool)(ops:Array Oper)(o:Oper)(rest:List Oper)(k:List Item)(env:Env)(w:World):Prop:=
 match q with
 |false=>∀a,Fits sz env a->o.wp S.P a w (wpList S.P ops (EM S.P S.f R k) rest) (EM S.P S.f R k)
 |true=>(∃pre,ops.toList=pre++o::rest)/\∀a,Fits sz env a->Region.wanted o (yielded ops a.tmps)=true->fo S.P ops C (fun a' w'=>nw S.P S.f R k a' w') (I8 ops (o::rest)) a w
def lR:Action->Bool
 | .load _ _=>true
 |_=>false
def qi (S:ak)(sz:Nat)(R:Value->World->Prop)(C:World->Prop)(A:Action)(c:sC)(w:World):Prop:=
 match c.q with
 |false=>mB S.P A w fun v w'=>xo S sz R C false c.ops c.rest c.k (jo c.env c.dst v) w'
 |true=>match lR A with
  |true=>∃v,(∀w',C w'->A.lO.run S.P w'= .ok (.value v) w')/\xo S sz R C true c.ops c.rest c.k (jo c.env c.dst v) w
  |false=>mB S.P A w fun v w'=>(bH c.ops c.rest=true->C w')/\xo S sz R C true c.ops c.rest c.k (jo c.env c.dst v) w'
def ax (S:ak)(sz:Nat)(R:Value->World->Prop)(C:World->Prop)(w:World):G->Prop
 | .code k env=>∀a,Fits sz env a->nw S.P S.f R k a w
 | .cond b k1 k2 env=>∀a,Fits sz env a->nw S.P S.f R (if b then k1 else k2) a w
 | .ops q ops l k env=>xo S sz R C q ops l k env w
 | .guard q b want ops o rest k env=>if b=want then HF S sz R C q ops o rest k env w else xo S sz R C q ops rest k (jo env o.dst undef) w
 | .HE q ops o rest k env=>HF S sz R C q ops o rest k env w
 | .act A c=>qi S sz R C A c w
 | .ret v=>R v w
 | .zE l=>∃vs,O' S.P w l vs/\R (iu vs) w
def n9 (sz:Nat):Option Nat->Bool
 |none=>true
 |some d=>Nat.blt d sz
def CS {β:Type}(env:Env)(dst:Option Nat)(v:Value)(k:Env->β):β:=
 match dst with
 |some d=>k ((d,v)::env)
 |none=>k env
theorem kW {β:Type}(env:Env)(dst:Option Nat)(v:Value)(k:Env->β):CS env dst v k=k (jo env dst v):=by
 cases dst<;>rfl
def xp (q:Bool)(ops:Array Oper)(o:Oper)(rest:List Oper)(k:List Item)(env:Env):G:=
 match pN env o.op o.type with
 |some A=> .act A ⟨q,ops,rest,o.dst,k,env⟩
 |none=> .HE q ops o rest k env
def uK (g:G)(cc:List Prop):G×List Prop:=
 match g with
 | .ret v=>(.ret v,cc)
 | .zE l=>(.zE l,cc)
 | .act A c=>(.act A c,cc)
 |g=>(g,cc)
theorem mj (g:G)(cc:List Prop):uK g cc=(g,cc):=by cases g<;>rfl
def iQ (wr:Bool)(tt:TT)(sz:Nat)(q:Bool)(ops:Array Oper):List Oper->List Item->Env->List Prop->G×List Prop
 |[],k,env,cc=>(.code k env,cc)
 |o::rest,k,env,cc=>
  match n9 sz o.dst with
  |false=>(.ops q ops (o::rest) k env,cc)
  |true=>match o.guard with
   |some (j,want)=>match ops[j]? with
    |some oj=>match oj.dst with
     |some d=>match look env d with
      |some (.bool b)=>(.guard q b want ops o rest k env,cc)
      |some (.tuple ⟨[]⟩)=>CS env o.dst undef fun e=>iQ wr tt sz q ops rest k e cc
      |_=>(.ops q ops (o::rest) k env,cc)
     |none=>(.ops q ops (o::rest) k env,cc)
    |none=>(.ops q ops (o::rest) k env,cc)
   |none=>match tx wr tt env o.op with
    |some (v,none)=>CS env o.dst v fun e=>iQ wr tt sz q ops rest k e cc
    |some (v,some p)=>CS env o.dst v fun e=>iQ wr tt sz q ops rest k e (p::cc)
    |none=>uK (xp q ops o rest k env) cc
def et (env:Env):List Nat->Option Env
 |[]=>some []
 |t::r=>match et env r with
  |some e=>match look env t with
   |some v=>some ((t,v)::e)
   |none=>some e
  |none=>none
def Bc (env:Env):List ResultVar->Option (List RV)
 |[]=>some []
 | .tmp t::r=>match look env t with
  |some v=>match Bc env r with
   |some l=>some (.val v::l)
   |none=>none
  |none=>none
 | .cell a t::r=>match look env a with
  |some (.pointer (some ad))=>match Bc env r with
   |some l=>some (.at_ t ad::l)
   |none=>none
  |_=>none
def z8:List RV->Option (List Value)
 |[]=>some []
 | .val v::r=>match z8 r with
  |some l=>some (v::l)
  |none=>none
 | .at_ _ _::_=>none
def Lz (res:List ResultVar)(k:List Item)(env:Env):G:=
 match Bc env res with
 |some l=>match z8 l with
  |some [v]=> .ret v
  |some vs=> .ret (.tuple ⟨vs⟩)
  |none=> .zE l
 |none=> .code k env
def run (S:ak)(sz:Nat):Nat->G->List Prop->G×List Prop
 |0,g,cc=>(g,cc)
 |n+1,g,cc=>match g with
  | .code [] env=>uK (Lz S.res [] env) cc
  | .code (.code .ret::k) env=>uK (Lz S.res (.code .ret::k) env) cc
  | .code (.code (.seq x y)::k) env=>run S sz n (.code (.code x:: .code y::k) env) cc
  | .code (.code (.block id c)::k) env=>run S sz n (.code (.code c:: .inBlock id::k) env) cc
  | .code (.code .skip::k) env=>run S sz n (.code k env) cc
  | .code (.code (.label _)::k) env=>run S sz n (.code k env) cc
  | .code (.inBlock _::k) env=>run S sz n (.code k env) cc
  | .code (.code (.exit id)::k) env=>match exitTo id k with
   |some k'=>run S sz n (.code k' env) cc
   |none=>(.code (.code (.exit id)::k) env,cc)
  | .code (.code (.cond c x y)::k) env=>match ev env c with
   |some (.bool b)=>(.cond b (.code x::k) (.code y::k) env,cc)
   |_=>(.code (.code (.cond c x y)::k) env,cc)
  | .code (.code (.region id ops false)::k) env=>match et env S.live with
   |some e=>run S sz n (.ops false ops ops.toList k e) cc
   |none=>(.code (.code (.region id ops false)::k) env,cc)
  | .ops q ops l k env=>match iQ S.wr S.tt sz q ops l k env cc with
   |(.code k' j6,nM)=>run S sz n (.code k' j6) nM
   |(g',nM)=>(g',nM)
  | .HE q ops o rest k env=>match n9 sz o.dst with
   |false=>(.HE q ops o rest k env,cc)
   |true=>match tx S.wr S.tt env o.op with
    |some (v,none)=>CS env o.dst v fun e=>run S sz n (.ops q ops rest k e) cc
    |some (v,some p)=>CS env o.dst v fun e=>run S sz n (.ops q ops rest k e) (p::cc)
    |none=>uK (xp q ops o rest k env) cc
  |g=>(g,cc)
theorem sD {env:Env}{a:Act}(h:qh env a){t:Nat}{v:Value}(hl:look env t=some v):a.tmps.getD t undef=v:=by
 have h1:=h t v hl
 simp[Array.getD_eq_getD_getElem?,h1]
theorem bT {env:Env}{a:Act}(h:qh env a){x:Operand}{v:Value}(hl:ev env x=some v):a.eval x=v:=by
 cases x with
 |tmp t=>exact sD h hl
 |const c=>simpa [ev,Act.eval] using hl
 |global g=>simpa [ev,Act.eval] using hl
 |func f=>simpa [ev,Act.eval] using hl
theorem kH {env:Env}{a:Act}(h:qh env a):∀{xs:List Operand} {vs:List Value},K9 env xs=some vs->xs.map a.eval=vs
 |[],_,hl=>by simp[K9] at hl;simp[hl]
 |x::xs,_,hl=>by
  simp only[K9] at hl
  split at hl
  ·rename_i v hv
   split at hl
   ·rename_i vs EN
    injection hl with hl
    subst hl
    simp[bT h hv,kH h EN]
   ·cases hl
  ·cases hl
theorem uL {env:Env}{a:Act}(h:qh env a):∀{xs:List (Nat×Operand)} {vs:List (Nat×Value)},SR env xs=some vs->xs.map (fun(i,x)=>(i,a.eval x))=vs
 |[],_,hl=>by simp[SR] at hl;simp[hl]
 |(i,x)::xs,_,hl=>by
  simp only[SR] at hl
  split at hl
  ·rename_i v hv
   split at hl
   ·rename_i vs EN
    injection hl with hl
    subst hl
    have:=uL h EN
    simp[bT h hv,<-this]
   ·cases hl
  ·cases hl
theorem z9 {env:Env}{a:Act}(h:qh env a){x:Option Operand}{v:Option Value}(hl:TF env x=some v):x.map a.eval=v:=by
 cases x with
 |none=>simpa [TF] using hl
 |some x=>
  simp only[TF] at hl
  split at hl
  ·rename_i u hu
   injection hl with hl
   subst hl
   simp[bT h hu]
  ·cases hl
theorem Fits.put {sz:Nat}{env:Env}{a:Act}(h:Fits sz env a){dst:Option Nat}(hd:n9 sz dst=true)(v:Value):Fits sz (jo env dst v) (a.put dst v):=by
 cases dst with
 |none=>exact h
 |some d=>
  have bD:d<sz:=by simp[n9,Nat.blt] at hd;omega
  refine⟨h.defers,by simp[Act.put,h.size],fun t u hl=> ?_⟩
  simp only[jo,look] at hl
  simp only[Act.put]
  split at hl
  ·rename_i hb
   obtain rfl:=Nat.eq_of_beq_eq_true hb
   injection hl with hl
   subst hl
   simp[h.size,bD]
  ·rename_i hb
   have fD:d≠t:=fun e=>by subst e;simp at hb
   rw[Array.getElem?_setIfInBounds_ne fD]
   exact h.kC t u hl
theorem Fits.prune {sz:Nat}{env:Env}{a:Act}(h:Fits sz env a){live:List Nat}{e:Env}(hp:et env live=some e):Fits sz e a:=by
 refine⟨h.defers,h.size,?_⟩
 have key:∀(live:List Nat) (e:Env),et env live=some e->∀t v,look e t=some v->look env t=some v:=by
  intro live
  induction live with
  |nil=>intro e hp t v hl;simp[et] at hp;subst hp;simp[look] at hl
  |cons s live ih=>
   intro e hp t v hl
   simp only[et] at hp
   split at hp
   ·rename_i e' zC
    split at hp
    ·rename_i u hu
     injection hp with hp
     subst hp
     simp only[look] at hl
     split at hl
     ·rename_i hb
      obtain rfl:=Nat.eq_of_beq_eq_true hb
      injection hl with hl
      subst hl
      exact hu
     ·exact ih _ zC t v hl
    ·injection hp with hp
     subst hp
     exact ih _ zC t v hl
   ·cases hp
 exact fun t v hl=>h.kC t v (key live e hp t v hl)
theorem vC {P:Program}{tt:TT}(aS:gJ P tt):∀{fs:List Field} {pl:List (Nat×Nat)},tv tt (fs.map fun f=>(f.offset,f.type))=some pl->∀(w:World),
  (fs.mapM (m:=Sem) fun f=>do pure (f.offset,<-sizeOf f.type)).run P w= .ok pl w
 |[],_,h,w=>by simp[tv] at h;subst h;simp
 |f::fs,pl,h,w=>by
  simp only[List.map_cons,tv] at h
  split at h
  ·rename_i i hi
   split at h
   ·rename_i l hl
    injection h with h
    subst h
    have ih:=vC aS hl w
    simp[fi aS hi] at ih⊢
    rw[ih]
    rfl
   ·cases h
  ·cases h
theorem tz {pl:List (Nat×Nat)}{place:Nat->Option (Nat×Nat)}(hp:∀i x,pl[i]?=some x->place i=some x):
  ∀{parts:List (Nat×Value)} {cs:List Value} {r:List Value},xm pl cs parts=some r->Instr.fill place cs.toArray parts=some r.toArray
 |[],cs,r,h=>by simp[xm] at h;subst h;simp[Instr.fill]
 |(i,v)::parts,cs,r,h=>by
  simp only[xm] at h
  split at h
  ·rename_i off size hi
   rw[kV] at hi
   split at h
   ·rename_i hb
    have iA:=Nat.eq_of_beq_eq_true hb
    split at h
    ·rename_i w9 Aa
     obtain⟨h1,h2⟩:=HB Aa
     rw[ie] at h1 h2 iA
     have ih:=tz hp h
     simp only[Instr.fill,hp _ _ hi]
     have hl:v.cells.size=size:=by simpa using iA
     have hf:=HC v.cells.toList 0 off cs.toArray (by simpa using h1)
     have hx:(v.cells.zipIdx.foldl (fun cs (x:Value×Nat)=>cs.setIfInBounds (off+x.2) x.1) cs.toArray)=w9.toArray:=by
      apply Array.toList_inj.1
      rw[<-Array.foldl_toList,Array.toList_zipIdx]
      rw[hf,h2]
      simp
     have hx':(v.cells.zipIdx.foldl (fun cs (c,j)=>cs.setIfInBounds (off+j) c) cs.toArray)=w9.toArray:=hx
     rw[hx',ih]
     have h3:off+v.cells.size<=cs.length:=by simpa using h1
     simp[hl]
     omega
    ·cases h
   ·cases h
  ·cases h
theorem Bd {P:Program}{tt:TT}(aS:gJ P tt){t:TypeId}{parts:List (Nat×Value)}{v:Value}(h:EK tt t parts=some v)(w:World):
  (Instr.build t parts.toArray).run P w= .ok v w:=by
 unfold EK at h
 split at h
 ·rename_i i hi
  obtain⟨info,td,h1,h2,h3,h4,h5,r5,h6⟩:=aS.get hi
  have hu:=run_underlying h5 w
  have hz:(zeroValue t).run P w= .ok i.zero w:=by simp[zeroValue,typeInfo,h1,h4]
  split at h
  ·rename_i fs hd
   obtain⟨gs,rfl,rfl⟩:=o0 (r5.trans hd)
   split at h
   ·rename_i pl sE
    split at h
    ·rename_i cs Aa
     injection h with h
     subst h
     have hm:=vC aS sE w
     have hf:=tz (place:=fun i=>pl.toArray[i]?) (fun i x hx=>by simpa using hx) Aa
     rw[ie,Array.toArray_toList] at hf
     simp only[Instr.build,Sem.run_bind,hz,Result.andThen_ok,hu]
     rw[Array.mapM_eq_mapM_toList]
     simp only[Sem.run_map,hm,Result.andThen_ok]
     rw[hf]
     simp
    ·cases h
   ·cases h
  ·rename_i e hd
   obtain rfl:=zZ (r5.trans hd)
   split at h
   ·rename_i j hj
    split at h
    ·rename_i cs Aa
     injection h with h
     subst h
     have hf:=tz (place:=fun i=>some (i*j.size,j.size)) (fun i x hx=>by
      match i,hx with
      |0,hx=>simp at hx;subst hx;simp
      |1,hx=>simp at hx;subst hx;simp
      |n+2,hx=>simp at hx) Aa
     rw[ie,Array.toArray_toList] at hf
     simp only[Instr.build,Sem.run_bind,hz,Result.andThen_ok,hu,fi aS hj]
     rw[hf]
     simp
    ·cases h
   ·cases h
  ·cases h
 ·cases h
theorem nN {P:Program}{tt:TT}(aS:gJ P tt){cs ds:List Value}:∀{fs:List Field} {e:Bool},re tt cs ds (fs.map fun f=>(f.offset,f.type))=some e->(∀f∈fs,(f.name== "_")=false)->∀(d:Nat) (w:World),
  (Op.eqFields (d+1) cs.toArray ds.toArray fs).run P w= .ok e w
 |[],e,h,_,d,w=>by simp[re] at h;subst h;simp[Op.eqFields]
 |f::fs,e,h,hn,d,w=>by
  have Ey:f.name≠ "_" :=fun he=>by have:=hn f (by simp);simp[he] at this
  simp only[List.map_cons,re] at h
  split at h
  ·rename_i i hi
   obtain⟨info,td,h1,h2,h3,h4,h5,r5,h6⟩:=aS.get hi
   split at h
   ·rename_i k0 hd
    rw[Gb (r5.trans hd)] at h5
    have kd:mA tt f.type=some false:=by simp[mA,hi,hd]
    split at h
    ·rename_i k a ha
     split at h
     ·rename_i k' b hb
      split at h
      ·rename_i hk
       obtain rfl:=CQ hk
       split at h
       ·rename_i e' zC
        injection h with h
        subst h
        have ih:=nN aS zC (fun g hg=>hn g (by simp[hg])) d w
        have pa:(part f.type cs.toArray f.offset).run P w= .ok (.int k a) w:=lf aS (by unfold xl;simp[hi,kd,ha]) w
        have pb:(part f.type ds.toArray f.offset).run P w= .ok (.int k b) w:=lf aS (by unfold xl;simp[hi,kd,hb]) w
        simp only[Op.eqFields,ne_eq,Ey,not_false_eq_true,if_true,Sem.run_bind,pa,pb,Result.andThen_ok,run_equalIn_int w d f.type k k0 a b h5,Sem.run_ite]
        by_cases wh:a=b
        ·subst wh;simp[ih]
        ·simp[wh]
       ·cases h
      ·cases h
     ·cases h
    ·cases h
   ·rename_i hd
    rw[CP (r5.trans hd)] at h5
    have kd:mA tt f.type=some false:=by simp[mA,hi,hd]
    split at h
    ·rename_i a ha
     split at h
     ·rename_i b hb
      split at h
      ·rename_i e' zC
       injection h with h
       subst h
       have ih:=nN aS zC (fun g hg=>hn g (by simp[hg])) d w
       have pa:(part f.type cs.toArray f.offset).run P w= .ok (.bool a) w:=lf aS (by unfold xl;simp[hi,kd,ha]) w
       have pb:(part f.type ds.toArray f.offset).run P w= .ok (.bool b) w:=lf aS (by unfold xl;simp[hi,kd,hb]) w
       simp only[Op.eqFields,ne_eq,Ey,not_false_eq_true,if_true,Sem.run_bind,pa,pb,Result.andThen_ok,run_equalIn_bool w d f.type a b h5,Sem.run_ite]
       by_cases wh:a=b
       ·subst wh;simp[ih]
       ·simp[wh]
      ·cases h
     ·cases h
    ·cases h
   ·cases h
  ·cases h
theorem Ab {P:Program}{tt:TT}(aS:gJ P tt){t:TypeId}{x y:Value}{e:Bool}(h:SS tt t x y=some e)(w:World):
  (Op.equal t x y).run P w= .ok e w/\∀(op:BinOp) (ox oy:Operand),(eqGuard op t ox oy x y).run P w= .ok () w:=by
 unfold SS at h
 split at h
 ·rename_i i hi
  obtain⟨info,td,h1,h2,h3,h4,h5,r5,h6⟩:=aS.get hi
  split at h
  ·rename_i hd
   rw[CP (r5.trans hd)] at h5
   split at h
   ·split at h
    ·injection h with h
     subst h
     refine⟨run_equalIn_bool w 9999 t _ _ h5,fun op ox oy=> ?_⟩
     simp[eqGuard]
    ·cases h
   ·cases h
  ·rename_i fs hd
   obtain⟨gs,rfl,rfl⟩:=o0 (r5.trans hd)
   split at h
   ·rename_i hp
    obtain⟨g1,g2,g3⟩:=h6 hp
    split at h
    ·split at h
     ·rename_i cs _ ds
      have hf:P.fieldsOf t=gs:=by simp[Program.fieldsOf,h5]
      have h5':P.underlying t=some (.struct (P.fieldsOf t)):=by rw[hf];exact h5
      refine⟨?_,fun op ox oy=> ?_⟩
      ·show(Op.equalIn (9999+1) t (.agg ⟨cs⟩) (.agg ⟨ds⟩)).run P w=_
       rw[run_equalIn_struct w 9999 t ⟨cs⟩ ⟨ds⟩ h5' g1,hf]
       exact nN aS h g3 9998 w
      ·simp[eqGuard,g2]
     ·cases h
    ·cases h
   ·cases h
  ·cases h
 ·cases h
theorem Ac {tt:TT}{t:TypeId}{x y:Value}{e:Bool}(h:SS tt t x y=some e):
  (∃a b,x= .bool a/\y= .bool b)\/(∃a b,x= .agg a/\y= .agg b):=by
 unfold SS at h
 split at h
 ·split at h
  ·split at h
   ·split at h
    ·exact .inl ⟨_,_,rfl,rfl⟩
    ·cases h
   ·cases h
  ·split at h
   ·split at h
    ·split at h
     ·exact .inr ⟨_,_,rfl,rfl⟩
     ·cases h
    ·cases h
   ·cases h
  ·cases h
 ·cases h
theorem HG {P:Program}{op:UnOp}{x v:Value}(h:XQ op x=some v)(w:World):(Op.unary op x).run P w= .ok v w:=by
 unfold XQ at h
 split at h
 ·split at h
  ·injection h with h;subst h;simp[Op.unary]
  ·cases h
 ·split at h
  ·injection h with h;subst h;simp[Op.unary,Op.intArith]
  ·cases h
 ·split at h
  ·injection h with h;subst h
   simp[Op.unary,IntKind.signed,go_sem]
  ·cases h
 ·cases h
theorem EO {wr:Bool}{P:Program}{op op':BinOp}{x y:Value}{r:Value×Option Prop}(h:I7 wr op x y=some r)(t:TypeId)(ox oy:Operand)(w:World):
  (eqGuard op' t ox oy x y).run P w= .ok () w:=by
 unfold I7 at h
 split at h
 ·simp[eqGuard]
 ·simp[eqGuard]
 ·cases h
theorem r6 {P:Program}{tt:TT}(aS:gJ P tt){t:TypeId}{f off size:Nat}{ft:TypeId}(h:tw tt t f=some (off,size,ft)):
  ∃(fs:Array Field) (fd:Field),P.underlying t=some (.struct fs)/\fs[f]?=some fd/\fd.type=ft/\fd.offset=off/\∀w,(sizeOf ft).run P w= .ok size w:=by
 unfold tw at h
 split at h
 ·rename_i i hi
  obtain⟨info,td,h1,h2,h3,h4,h5,r5,h6⟩:=aS.get hi
  split at h
  ·rename_i fs hd
   obtain⟨gs,rfl,rfl⟩:=o0 (r5.trans hd)
   split at h
   ·rename_i off' ft' IG
    rw[kV,List.getElem?_map,Option.map_eq_some_iff] at IG
    obtain⟨fd,IG,TJ⟩:=IG
    injection TJ with jP xd
    subst jP;subst xd
    split at h
    ·rename_i j hj
     injection h with h
     injection h with ha hb
     injection hb with hb hc
     subst ha;subst hb;subst hc
     exact⟨gs,fd,h5,by simpa using IG,rfl,rfl,fun w=>fi aS hj w⟩
    ·cases h
   ·cases h
  ·cases h
 ·cases h
theorem Be {P:Program}{tt:TT}(aS:gJ P tt){t e:TypeId}{i j:TI}(hi:tl tt t=some i)(hd:i.desc= .slice e)(hj:tl tt e=some j)
  {a:Option Addr} {n c:Nat} {lo HD:Option Value} {v:Value} {p:Option Prop} (h:EL a n c j.size lo HD=some (v,p)) (ho:Ob p) (w:World):
  (Instr.sliceAt t (.slice a n c) lo HD none).run P w= .ok v w:=by
 obtain⟨info,td,h1,h2,h3,h4,h5,r5,h6⟩:=aS.get hi
 rw[jQ (r5.trans hd)] at h5
 have hs:=fi aS hj
 unfold EL at h
 split at h
 ·split at h
  ·injection h with h;injection h with q1 q2;subst q1;subst q2
   simp[Instr.sliceAt,Instr.slice,run_underlying h5,Instr.sliceBounds,hs,nk]
  ·injection h with h;injection h with q1 q2;subst q1;subst q2
   obtain⟨o1,o2⟩:=ho
   simp[Instr.sliceAt,Instr.slice,run_underlying h5,Instr.sliceBounds,Instr.sliceBound,asIntOf,hs,nk,o1,o2]
  ·cases h
 ·split at h
  ·injection h with h;injection h with q1 q2;subst q1;subst q2
   obtain⟨o1,o2⟩:=ho
   simp[Instr.sliceAt,Instr.slice,run_underlying h5,Instr.sliceBounds,Instr.sliceBound,asIntOf,hs,nk,o1,o2]
  ·injection h with h;injection h with q1 q2;subst q1;subst q2
   obtain⟨o1,o2,o3⟩:=ho
   have o4:(0:Int)<=_:=Int.le_trans o1 o2
   have o5:=Int.toNat_of_nonneg o4
   simp[Instr.sliceAt,Instr.slice,run_underlying h5,Instr.sliceBounds,Instr.sliceBound,asIntOf,hs,nk,o1,o2,o3,o4,o5]
  ·cases h
 ·cases h
theorem qj {wr:Bool}{P:Program}{tt:TT}(aS:gJ P tt){env:Env}{a:Act}(kd:qh env a){o:Oper}{v:Value}{p:Option Prop}
  (h:tx wr tt env o.op=some (v,p)) (ho:Ob p) (w:World):(execOp a.eval o).run P w= .ok (.value v) w:=by
 have I9:∀op,o.op=op->execOp a.eval o=execOp a.eval {o with op:=op}:=fun op e=>by subst e;rfl
 generalize HH:o.op=op at h
 rw[I9 op HH]
 unfold tx at h
 split at h
 ·--move
  split at h
  ·rename_i u hu
   injection h with h;injection h with e1 e2;subst e1
   simp[execOp,bT kd hu]
  ·cases h
 ·split at h
  ·rename_i u hu
   injection h with h;injection h with e1 e2;subst e1
   simp[execOp,bT kd hu]
  ·cases h
 ·--pick
  split at h
  ·rename_i hc
   split at h
   ·rename_i u hu
    injection h with h;injection h with e1 e2;subst e1
    simp[execOp,bT kd hu,bT kd hc,asBool]
   ·cases h
  ·rename_i hc
   split at h
   ·rename_i u hu
    injection h with h;injection h with e1 e2;subst e1
    simp[execOp,bT kd hu,bT kd hc,asBool]
   ·cases h
  ·cases h
 ·--nilCheck
  split at h
  ·rename_i u hu
   injection h with h;injection h with e1 e2;subst e1
   simp[execOp,bT kd hu]
  ·cases h
 ·--binOp
  split at h
  ·rename_i x hx
   split at h
   ·rename_i y hy
    split at h
    ·rename_i r hr
     injection h with h
     subst h
     simp[execOp,bT kd hx,bT kd hy,EO hr,EI hr ho]
    ·rename_i hr
     split at h
     ·split at h
      ·rename_i e he
       injection h with h;injection h with e1 e2;subst e1
       obtain⟨q1,q2⟩:=Ab aS he w
       simp only[execOp,bT kd hx,bT kd hy,Sem.run_bind,q2,Result.andThen_ok]
       rcases Ac he with⟨a',b',rfl,rfl⟩|⟨a',b',rfl,rfl⟩<;>simp[binOp,q1]
      ·cases h
     ·split at h
      ·rename_i e he
       injection h with h;injection h with e1 e2;subst e1
       obtain⟨q1,q2⟩:=Ab aS he w
       simp only[execOp,bT kd hx,bT kd hy,Sem.run_bind,q2,Result.andThen_ok]
       rcases Ac he with⟨a',b',rfl,rfl⟩|⟨a',b',rfl,rfl⟩<;>simp[binOp,q1]
      ·cases h
     ·cases h
   ·cases h
  ·cases h
 ·--unOp
  split at h
  ·rename_i x hx
   split at h
   ·rename_i u hu
    injection h with h;injection h with e1 e2;subst e1
    simp[execOp,bT kd hx,HG hu]
   ·cases h
  ·cases h
 ·--extract
  split at h
  ·rename_i vs EN
   split at h
   ·rename_i u hu
    injection h with h;injection h with e1 e2;subst e1
    rw[kV] at hu
    simp[execOp,bT kd EN,Instr.extract,hu]
   ·cases h
  ·cases h
 ·--field
  split at h
  ·rename_i off size ft hf
   obtain⟨fs,fd,hs,IG,rfl,rfl,iA⟩:=r6 aS hf
   split at h
   ·rename_i cs Aa
    split at h
    ·rename_i u hu
     injection h with h;injection h with e1 e2;subst e1
     simp[execOp,bT kd Aa,Instr.field,run_underlying hs,IG,asAgg,lf aS hu]
    ·cases h
   ·cases h
  ·cases h
 ·--fieldAddr
  split at h
  ·rename_i off size ft hf
   obtain⟨fs,fd,hs,IG,rfl,rfl,iA⟩:=r6 aS hf
   split at h
   ·rename_i fD
    split at h
    ·rename_i ad had
     injection h with h;injection h with e1 e2;subst e1
     have XR:size≠0:=fun e=>by subst e;simp at fD
     simp[execOp,bT kd had,Instr.fieldAt,run_underlying hs,IG,Instr.sureAddr,fieldPlace,iA,XR,iP]
    ·cases h
   ·cases h
  ·cases h
 ·--indexAddr
  split at h
  ·rename_i i hi
   obtain⟨info,td,h1,h2,h3,h4,h5,r5,h6⟩:=aS.get hi
   split at h
   ·rename_i e hd
    rw[jQ (r5.trans hd)] at h5
    split at h
    ·rename_i j hj
     split at h
     ·rename_i ad n c hx
      split at h
      ·rename_i k z hz
       injection h with h;injection h with e1 e2;subst e1;subst e2
       obtain⟨TK,hzn,fD⟩:=ho
       cases ad with
       |none=>exact absurd rfl fD
       |some ad=>
        simp[execOp,bT kd hx,bT kd hz,Instr.indexAt,run_underlying h5,asIntOf,TK,hzn,fi aS hj,aE]
      ·cases h
     ·cases h
    ·cases h
   ·cases h
  ·cases h
 ·--convert
  split at h
  ·rename_i i hi
   split at h
   ·rename_i j hj
    split at h
    ·rename_i k hk
     obtain⟨d1,hu1,_⟩:=uI aS hi w
     obtain⟨d2,XS,I'⟩:=uI aS hj w
     rw[Gb (I'.trans hk)] at XS
     split at h
     ·rename_i k' n hx
      split at h
      ·injection h with h;injection h with e1 e2;subst e1
       simp[execOp,bT kd hx,convert,hu1,XS,Conv.intToInt]
      ·injection h with h;injection h with e1 e2;subst e1;subst e2
       have ho':k.wrap n=n:=ho
       simp[execOp,bT kd hx,convert,hu1,XS,Conv.intToInt,ho']
     ·cases h
    ·cases h
   ·cases h
  ·cases h
 ·--build
  rename_i t parts
  split at h
  ·rename_i ps TL
   split at h
   ·rename_i u hu
    injection h with h;injection h with e1 e2;subst e1
    have he:=uL kd TL
    have zC:parts.map (fun(i,x)=>(i,a.eval x))=ps.toArray:=by rw[<-he];apply Array.toList_inj.1;simp
    simp only[execOp,zC,Sem.run_bind,Bd aS hu,Result.andThen_ok,Sem.run_pure]
   ·cases h
  ·cases h
 ·--makeFunc
  split at h
  ·rename_i x hx
   split at h
   ·rename_i y hy
    injection h with h;injection h with e1 e2;subst e1
    have h1:=kH kd hx
    have h2:=kH kd hy
    simp[execOp,Instr.makeFunc,h1,h2]
   ·cases h
  ·cases h
 ·--slice
  split at h
  ·rename_i i hi
   split at h
   ·rename_i e hd
    split at h
    ·rename_i j hj
     split at h
     ·rename_i ad n c hx
      split at h
      ·rename_i lo F8
       split at h
       ·rename_i HD hhi
        have hq:=Be aS hi hd hj h ho w
        simp only[execOp,bT kd hx,z9 kd F8,z9 kd hhi,Option.map_none,Sem.run_bind,hq,Result.andThen_ok,Sem.run_pure]
       ·cases h
      ·cases h
     ·cases h
    ·cases h
   ·cases h
  ·cases h
 ·--len
  split at h
  ·rename_i i hi
   obtain⟨d1,hu,EP⟩:=uI aS hi w
   split at h
   ·rename_i e hd
    rw[jQ (EP.trans hd)] at hu
    split at h
    ·rename_i ad n c hx
     injection h with h;injection h with e1 e2;subst e1
     simp[execOp,resolve,invoke,builtin,bT kd hx,Builtin.len_,hu,goInt]
    ·cases h
   ·cases h
  ·cases h
 ·split at h
  ·rename_i vs EN
   split at h
   ·rename_i u hu
    injection h with h;injection h with e1 e2;subst e1
    have h1:=kH kd EN
    unfold TG at hu
    split at hu
    ·injection hu with hu;subst hu
     simp only[execOp,resolve,invoke,builtin,List.map_toArray,h1]
     simp[Builtin.max_,Builtin.max2]
     omega
    ·cases hu
   ·cases h
  ·cases h
 ·split at h
  ·rename_i vs EN
   split at h
   ·rename_i u hu
    injection h with h;injection h with e1 e2;subst e1
    have h1:=kH kd EN
    unfold TH at hu
    split at hu
    ·injection hu with hu;subst hu
     simp only[execOp,resolve,invoke,builtin,List.map_toArray,h1]
     simp[Builtin.min_,Builtin.min2]
     omega
    ·cases hu
   ·cases h
  ·cases h
 ·cases h
theorem lg {env:Env}{a:Act}(kd:qh env a){o:Oper}{A:Action}(h:pN env o.op o.type=some A):execOp a.eval o=A.lO:=by
 have I9:∀op,o.op=op->execOp a.eval o=execOp a.eval {o with op:=op}:=fun op e=>by subst e;rfl
 generalize HH:o.op=op at h
 rw[I9 op HH]
 unfold pN at h
 split at h
 ·split at h
  ·rename_i ad hx
   injection h with h;subst h
   simp[execOp,Action.lO,bT kd hx,Instr.loadAt,Instr.sureAddr]
  ·cases h
 ·split at h
  ·rename_i ad hx
   split at h
   ·rename_i v hv
    injection h with h;subst h
    simp[execOp,Action.lO,bT kd hx,bT kd hv,Instr.storeAt,Instr.sureAddr]
   ·cases h
  ·cases h
 ·injection h with h;subst h
  simp[execOp,Action.lO]
 ·split at h
  ·rename_i v hv
   injection h with h;subst h
   simp[execOp,Action.lO,bT kd hv]
  ·cases h
 ·split at h
  ·rename_i ps TL
   injection h with h;subst h
   have he:=uL kd TL
   simp[execOp,Action.lO,<-he]
  ·cases h
 ·split at h
  ·rename_i x hx
   split at h
   ·rename_i y hy
    injection h with h;subst h
    simp[execOp,Action.lO,bT kd hx,bT kd hy]
   ·cases h
  ·cases h
 ·split at h
  ·rename_i vs EN
   injection h with h;subst h
   have he:=kH kd EN
   simp[execOp,Action.lO,resolve,invoke,Act.eval,Deferred.ofValue,he]
  ·cases h
 ·split at h
  ·rename_i f first cap hf
   split at h
   ·rename_i vs EN
    injection h with h;subst h
    have he:=kH kd EN
    have hq:a.eval (.tmp _)=_:=bT (x:= .tmp _) kd hf
    simp[execOp,Action.lO,resolve,invoke,hq,Deferred.ofValue,he]
   ·cases h
  ·cases h
 ·split at h
  ·rename_i x hx
   split at h
   ·rename_i y hy
    injection h with h;subst h
    simp[execOp,Action.lO,resolve,invoke,builtin,bT kd hx,bT kd hy]
   ·cases h
  ·cases h
 ·split at h
  ·rename_i x hx
   split at h
   ·rename_i y hy
    injection h with h;subst h
    simp[execOp,Action.lO,resolve,invoke,builtin,bT kd hx,bT kd hy]
   ·cases h
  ·cases h
 ·cases h
theorem oe {ops:Array Oper}{pre:List Oper}{o:Oper}{rest:List Oper}(h:ops.toList=pre++o::rest):I8 ops (o::rest)=(o,bH ops rest)::I8 ops rest:=by
 have hl:(cW ops.toList).length=ops.toList.length:=by
  have:=congrArg List.length (gI ops.toList)
  simpa using this
 have hn:ops.toList.length-(rest.length+1)=pre.length:=by rw[h];simp
 have Ly:ops.toList.length-rest.length=pre.length+1:=by rw[h];simp;omega
 have bD:pre.length<(cW ops.toList).length:=by rw[hl,h];simp
 unfold I8 bH
 rw[List.length_cons,hn,Ly,List.drop_eq_getElem_cons bD,List.getElem?_eq_getElem bD]
 congr 1
 have hm:=congrArg (fun l=>l[pre.length]?) (gI ops.toList)
 simp only[List.getElem?_map,List.getElem?_eq_getElem bD,Option.map_some] at hm
 have ho:ops.toList[pre.length]?=some o:=by rw[h];simp
 rw[ho] at hm
 injection hm with hm
 exact Prod.ext hm rfl
theorem Gc {ops:Array Oper}:I8 ops []=[]:=by
 have hl:(cW ops.toList).length=ops.toList.length:=by
  have:=congrArg List.length (gI ops.toList)
  simpa using this
 unfold I8
 rw[List.drop_eq_nil_iff]
 rw[hl]
 exact Nat.le_refl _
theorem Bf {ops:Array Oper}:I8 ops ops.toList=cW ops.toList:=by
 unfold I8
 simp
theorem Ae {wr:Bool}{tt:TT}{env:Env}{op:Op}{r:Value×Option Prop}(h:tx wr tt env op=some r):gp op= .pure:=by
 unfold tx at h
 split at h<;>first|rfl|cases h
theorem CT {env:Env}{op:Op}{ty:TypeId}{A:Action}(h:pN env op ty=some A):gp op=match lR A with
  |true=>Kind.load
  |false=>Kind.Hx:=by
 unfold pN at h
 split at h
 all_goals(repeat' (split at h))
 all_goals first|(injection h with h;subst h;rfl)|(cases h)
theorem qk {P:Program}{env:Env}{o:Oper}{A:Action}{w:World}(hA:pN env o.op o.type=some A){a:Act}(kd:qh env a){Q:Value->World->Prop}{K:Act->World->Prop}
  (h:mB P A w Q) (hk:∀v w',Q v w'->K (a.put o.dst v) w'):df P o a w K:=by
 unfold df
 rw[lg kd hA]
 unfold mB at h
 generalize A.lO.run P w=r at h
 cases r with
 |halt x w'=>exact h.elim
 |ok n w'=>
  cases n<;>first|exact h.elim|skip
  case value v=>exact hk _ _ h
  case skip=>exact hk _ _ h
  case enter f args=>
   refine Calls.mono h ?_
   rintro e zU ⟨v,rfl,hq⟩
   exact⟨v,rfl,hk _ _ hq⟩
section
variable {S:ak} {sz:Nat} {R:Value->World->Prop} {C:World->Prop} {q:Bool} {ops:Array Oper} {o:Oper} {rest:List Oper} {k:List Item} {env:Env} {w:World}
theorem ER {A:Action}(cj:q=true->∃pre,ops.toList=pre++o::rest)(hA:pN env o.op o.type=some A)(hd:n9 sz o.dst=true)(h:qi S sz R C A ⟨q,ops,rest,o.dst,k,env⟩ w):HF S sz R C q ops o rest k env w:=by
 cases q with
 |false=>exact fun a ha=>(qk hA ha.kC h fun v w' hq=>hq _ (ha.put hd v)).wp
 |true=>
  obtain⟨pre,cj⟩:=cj rfl
  refine⟨⟨pre,cj⟩,fun a ha hw=> ?_⟩
  rw[oe cj]
  have hk:=CT hA
  unfold qi at h
  unfold fo
  rw[if_pos hw]
  cases hl:lR A with
  |true=>
   simp only[hl] at h hk
   simp only[hk]
   obtain⟨v,h1,h2⟩:=h
   exact⟨v,fun w' vw=>by rw[lg ha.kC hA];exact h1 w' vw,h2.2 _ (ha.put hd v)⟩
  |false=>
   simp only[hl] at h hk
   simp only[hk]
   exact qk hA ha.kC h fun v w' hq=>⟨hq.1,hq.2.2 _ (ha.put hd v)⟩
theorem ny (hS:S.Ok)(cj:q=true->∃pre,ops.toList=pre++o::rest){v:Value}{p:Option Prop}(hv:tx S.wr S.tt env o.op=some (v,p))(hp:Ob p)(hd:n9 sz o.dst=true)
  (h:xo S sz R C q ops rest k (jo env o.dst v) w):HF S sz R C q ops o rest k env w:=by
 cases q with
 |false=>
  intro a ha
  unfold Oper.wp
  rw[qj hS.tt ha.kC hv hp w]
  exact h _ (ha.put hd v)
 |true=>
  obtain⟨pre,cj⟩:=cj rfl
  refine⟨⟨pre,cj⟩,fun a ha hw=> ?_⟩
  rw[oe cj]
  unfold fo
  rw[if_pos hw]
  simp only[Ae hv]
  exact⟨v,fun w'=>qj hS.tt ha.kC hv hp w',h.2 _ (ha.put hd v)⟩
theorem vD (cj:q=true->∃pre,ops.toList=pre++o::rest)(hd:n9 sz o.dst=true)(h:ax S sz R C w (xp q ops o rest k env)):HF S sz R C q ops o rest k env w:=by
 unfold xp at h
 split at h
 ·rename_i A hA
  exact ER cj hA hd h
 ·exact h
theorem wpList_want {P:Program}{ops:Array Oper}{Q:Exit->Act->World->Prop}{o:Oper}{rest:List Oper}{a:Act}{w:World}
  (hw:Region.wanted o (yielded ops a.tmps)=true) (h:o.wp P a w (wpList P ops Q rest) Q):wpList P ops Q (o::rest) a w:=by
 unfold wpList
 rw[if_pos hw]
 exact .inl h
theorem o7 (hw:∀a,Fits sz env a->Region.wanted o (yielded ops a.tmps)=true)(h:HF S sz R C q ops o rest k env w):xo S sz R C q ops (o::rest) k env w:=by
 cases q with
 |false=>exact fun a ha=>wpList_want (hw a ha) (h a ha)
 |true=>exact⟨h.1,fun a ha=>h.2 a ha (hw a ha)⟩
theorem vE (cj:q=true->∃pre,ops.toList=pre++o::rest)(hd:n9 sz o.dst=true)(hw:∀a,Fits sz env a->Region.wanted o (yielded ops a.tmps)=false)
  (h:xo S sz R C q ops rest k (jo env o.dst undef) w):xo S sz R C q ops (o::rest) k env w:=by
 cases q with
 |false=>exact fun a ha=>wpList_skip (hw a ha) (h _ (ha.put hd undef))
 |true=>
  obtain⟨pre,cj⟩:=cj rfl
  refine⟨⟨pre,cj⟩,fun a ha=> ?_⟩
  rw[oe cj]
  exact sA (hw a ha) (h.2 _ (ha.put hd undef))
theorem og (cj:q=true->∃pre,ops.toList=pre++o::rest):q=true->∃pre,ops.toList=pre++rest:=fun hq=>by
 obtain⟨pre,h⟩:=cj hq
 exact⟨pre++[o],by simp[h]⟩
theorem jq (hS:S.Ok):
  ∀(l:List Oper) (env:Env) (cc:List Prop) (g:G) (nM:List Prop),(q=true->∃pre,ops.toList=pre++l)->iQ S.wr S.tt sz q ops l k env cc=(g,nM)->ir nM->ax S sz R C w g->
   xo S sz R C q ops l k env w/\ir cc
 |[],env,cc,g,nM,cj,h,ho,hg=>by
  simp only[iQ,Prod.mk.injEq] at h
  obtain⟨rfl,rfl⟩:=h
  refine⟨?_,ho⟩
  cases q with
  |false=>exact fun a ha=>⟨rfl,hg a ha⟩
  |true=>exact⟨cj rfl,fun a ha=>by rw[Gc];exact hg a ha⟩
 |o::rest,env,cc,g,nM,cj,h,ho,hg=>by
  have same:(G.ops q ops (o::rest) k env,cc)=(g,nM)->xo S sz R C q ops (o::rest) k env w/\ir cc:=fun e=>by
   injection e with e1 e2
   subst e1;subst e2
   exact⟨hg,ho⟩
  simp only[iQ] at h
  split at h
  ·exact same h
  ·rename_i hd
   split at h
   ·rename_i j want Ja
    split at h
    ·rename_i oj rP
     split at h
     ·rename_i d TM
      split at h
      ·rename_i b hb
       injection h with e1 e2
       subst e1;subst e2
       refine⟨?_,ho⟩
       have hy:∀a,Fits sz env a->yielded ops a.tmps j=some b:=fun a ha=>by simp[yielded,rP,TM,ha.kC _ _ hb]
       simp only[ax] at hg
       by_cases LA:b=want
       ·rw[if_pos LA] at hg
        exact o7 (fun a ha=>by simp[Region.wanted,Ja,hy a ha,LA]) hg
       ·rw[if_neg LA] at hg
        exact vE cj hd (fun a ha=>by simp[Region.wanted,Ja,hy a ha,LA]) hg
      ·rename_i hb
       rw[kW] at h
       obtain⟨h1,h2⟩:=jq hS rest _ _ _ _ (og cj) h ho hg
       refine⟨?_,h2⟩
       have hy:∀a,Fits sz env a->yielded ops a.tmps j=none:=fun a ha=>by simp[yielded,rP,TM,ha.kC _ _ hb]
       exact vE cj hd (fun a ha=>by simp[Region.wanted,Ja,hy a ha]) h1
      ·exact same h
     ·exact same h
    ·exact same h
   ·rename_i Ja
    have Jb:∀a,Fits sz env a->Region.wanted o (yielded ops a.tmps)=true:=fun a _=>by simp[Region.wanted,Ja]
    split at h
    ·rename_i v hv
     rw[kW] at h
     obtain⟨h1,h2⟩:=jq hS rest _ _ _ _ (og cj) h ho hg
     exact⟨o7 Jb (ny hS cj hv trivial hd h1),h2⟩
    ·rename_i v p hv
     rw[kW] at h
     obtain⟨h1,h2⟩:=jq hS rest _ _ _ _ (og cj) h ho hg
     rw[tu] at h2
     exact⟨o7 Jb (ny hS cj hv h2.1 hd h1),h2.2⟩
    ·rename_i hv
     rw[mj] at h
     injection h with e1 e2
     subst e1;subst e2
     exact⟨o7 Jb (vD cj hd hg),ho⟩
end
def Bg (a:Act):ResultVar->Sem Value
 | .tmp t=>pure (a.tmps.getD t undef)
 | .cell p t=>do loadVar t (<-asAddr (a.tmps.getD p undef))
theorem xq {S:ak}{env:Env}{a:Act}{w:World}(kd:qh env a):∀{res:List ResultVar} {l:List RV} {vs:List Value},Bc env res=some l->O' S.P w l vs->
  (res.mapM (Bg a)).run S.P w= .ok vs w
 |[],l,vs,h,hr=>by
  simp[Bc] at h;subst h
  cases vs with
  |nil=>simp
  |cons v vs=>exact hr.elim
 | .tmp t::res,l,vs,h,hr=>by
  simp only[Bc] at h
  split at h
  ·rename_i v hv
   split at h
   ·rename_i l' hl
    injection h with h;subst h
    cases vs with
    |nil=>exact hr.elim
    |cons u us=>
     obtain⟨rfl,hr⟩:=hr
     have ih:=xq (S:=S) kd hl hr
     have hq:=sD kd hv
     simp only[List.mapM_cons,Sem.run_bind,Sem.run_pure,Result.andThen_ok,ih,Bg,hq]
   ·cases h
  ·cases h
 | .cell p t::res,l,vs,h,hr=>by
  simp only[Bc] at h
  split at h
  ·rename_i ad hv
   split at h
   ·rename_i l' hl
    injection h with h;subst h
    cases vs with
    |nil=>exact hr.elim
    |cons u us=>
     obtain⟨h1,hr⟩:=hr
     have ih:=xq (S:=S) kd hl hr
     have hq:=sD kd hv
     simp only[List.mapM_cons,Sem.run_bind,Sem.run_pure,Result.andThen_ok,ih,Bg,hq,asAddr,h1]
   ·cases h
  ·cases h
theorem sF {P:Program}{w:World}:∀{l:List RV} {vs:List Value},z8 l=some vs->O' P w l vs
 |[],vs,h=>by simp[z8] at h;subst h;trivial
 | .val v::r,vs,h=>by
  simp only[z8] at h
  split at h
  ·rename_i l hl
   injection h with h;subst h
   exact⟨rfl,sF hl⟩
  ·cases h
 | .at_ _ _::_,vs,h=>by simp[z8] at h
theorem Bh {vs:List Value}:(if h:vs.toArray.size=1 then vs.toArray[0] else Value.tuple vs.toArray)=iu vs:=by
 match vs with
 |[]=>rfl
 |[v]=>rfl
 |v::u::r=>simp[iu]
theorem ES {S:ak}(hS:S.Ok){env:Env}{a:Act}{w:World}(kd:qh env a){l:List RV}{vs:List Value}(h:Bc env S.res=some l)(hr:O' S.P w l vs):
  (results S.fn a.tmps).run S.P w= .ok (iu vs) w:=by
 have h1:=xq (S:=S) kd h hr
 have h2:results S.fn a.tmps=(do let vs<-S.fn.results.mapM (Bg a);pure (if h:vs.size=1 then vs[0] else .tuple vs)):=rfl
 rw[h2,Array.mapM_eq_mapM_toList,hS.res]
 simp only[Sem.run_bind,Sem.run_map,Sem.run_pure,h1,Result.andThen_ok]
 rw[Bh]
theorem xr {S:ak}(hS:S.Ok){sz:Nat}{R:Value->World->Prop}{C:World->Prop}{w:World}{k:List Item}{env:Env}
  (hk:k=[]\/∃k',k= .code .ret::k') (h:ax S sz R C w (Lz S.res k env)):ax S sz R C w (.code k env):=by
 have key:∀(l:List RV) (vs:List Value),Bc env S.res=some l->O' S.P w l vs->R (iu vs) w->ax S sz R C w (.code k env):=by
  intro l vs hl hr hR a ha b cs SU A7
  have TN:=ES hS ha.kC hl hr
  rcases hk with rfl|⟨k',rfl⟩
  ·refine⟨iu vs,w,_,hR,Steps.one step_end,SU,rfl,ha.defers,A7,S.fn,?_,TN⟩
   show S.P.funcs[b.fn]?=_
   rw[SU];exact hS.fn
  ·refine⟨iu vs,w,_,hR,Steps.one step_ret,SU,rfl,ha.defers,A7,S.fn,?_,TN⟩
   show S.P.funcs[b.fn]?=_
   rw[SU];exact hS.fn
 unfold Lz at h
 split at h
 ·rename_i l hl
  split at h
  ·rename_i v hv
   exact key l [v] hl (sF hv) h
  ·rename_i vs hv EN
   refine key l vs hl (sF EN) ?_
   have:iu vs= .tuple ⟨vs⟩:=by
    match vs,hv with
    |[],_=>rfl
    |[v],hv=>exact absurd rfl (hv v)
    |_::_::_,_=>rfl
   rw[this];exact h
  ·obtain⟨vs,hr,hR⟩:=h
   exact key l vs hl hr hR
 ·exact h
theorem fw {P:Program}{f:FuncId}{R:Value->World->Prop}{k k':List Item}{a:Act}{w:World}
  (hs:∀(b:Frame) cs,step P (lone (b.at a k) cs w)= .next (lone (b.at a k') cs w)) (h:nw P f R k' a w):nw P f R k a w:=by
 intro b cs h1 h2
 obtain⟨v,w',fr,hR,jr,hl⟩:=h b cs h1 h2
 exact⟨v,w',fr,hR,.head (hs b cs) jr,hl⟩
theorem o8 {P:Program}{f:FuncId}{R:Value->World->Prop}{c:Code}{k:List Item}{a:Act}{w:World}(h:c.wp P (EM P f R k) a w):nw P f R (.code c::k) a w:=by
 intro b cs h1 h2
 obtain⟨e,a',w',⟨rfl,hq⟩,XT⟩:=h b k cs
 obtain⟨v,zU,fr,hR,jr,hl⟩:=hq b cs h1 h2
 exact⟨v,zU,fr,hR,XT.trans jr,hl⟩
def XU:G->Prop
 | .ops q ops l _ _=>q=true->∃pre,ops.toList=pre++l
 | .HE q ops o rest _ _=>q=true->∃pre,ops.toList=pre++o::rest
 |_=>True
theorem dt {S:ak}(hS:S.Ok){sz:Nat}{R:Value->World->Prop}{C:World->Prop}{w:World}:∀(n:Nat) (g:G) (cc:List Prop) (g':G) (nM:List Prop),
  run S sz n g cc=(g',nM)->XU g->ir nM->ax S sz R C w g'->ax S sz R C w g/\ir cc
 |0,g,cc,g',nM,h,hp,ho,hg=>by
  simp only[run,Prod.mk.injEq] at h
  obtain⟨rfl,rfl⟩:=h
  exact⟨hg,ho⟩
 |n+1,g,cc,g',nM,h,hp,ho,hg=>by
  have same:(g,cc)=(g',nM)->ax S sz R C w g/\ir cc:=fun e=>by
   injection e with e1 e2
   subst e1;subst e2
   exact⟨hg,ho⟩
  unfold run at h
  split at h
  ·rw[mj] at h
   simp only[Prod.mk.injEq] at h
   obtain⟨rfl,rfl⟩:=h
   exact⟨xr hS (.inl rfl) hg,ho⟩
  ·rw[mj] at h
   simp only[Prod.mk.injEq] at h
   obtain⟨rfl,rfl⟩:=h
   exact⟨xr hS (.inr ⟨_,rfl⟩) hg,ho⟩
  ·obtain⟨h1,h2⟩:=dt hS n _ _ _ _ h trivial ho hg
   exact⟨fun a ha=>fw (fun _ _=>step_seq) (h1 a ha),h2⟩
  ·obtain⟨h1,h2⟩:=dt hS n _ _ _ _ h trivial ho hg
   exact⟨fun a ha=>fw (fun _ _=>step_block) (h1 a ha),h2⟩
  ·obtain⟨h1,h2⟩:=dt hS n _ _ _ _ h trivial ho hg
   exact⟨fun a ha=>fw (fun _ _=>step_skip) (h1 a ha),h2⟩
  ·obtain⟨h1,h2⟩:=dt hS n _ _ _ _ h trivial ho hg
   exact⟨fun a ha=>fw (fun _ _=>step_label) (h1 a ha),h2⟩
  ·obtain⟨h1,h2⟩:=dt hS n _ _ _ _ h trivial ho hg
   exact⟨fun a ha=>fw (fun _ _=>step_inBlock) (h1 a ha),h2⟩
  ·split at h
   ·rename_i k' hk
    obtain⟨h1,h2⟩:=dt hS n _ _ _ _ h trivial ho hg
    exact⟨fun a ha=>fw (fun _ _=>step_exit hk) (h1 a ha),h2⟩
   ·exact same h
  ·split at h
   ·rename_i b hb
    injection h with e1 e2
    subst e1;subst e2
    refine⟨fun a ha=> ?_,ho⟩
    have h1:=hg a ha
    refine fw (fun _ _=>step_cond (bT ha.kC hb)) ?_
    cases b<;>exact h1
   ·exact same h
  ·split at h
   ·rename_i e he
    obtain⟨h1,h2⟩:=dt hS n _ _ _ _ h (fun hq=>by cases hq) ho hg
    exact⟨fun a ha=>o8 (wp_region_list (h1 a (ha.prune he))),h2⟩
   ·exact same h
  ·split at h
   ·rename_i k' j6 XV jr
    obtain⟨h1,h2⟩:=dt hS n _ _ _ _ h trivial ho hg
    exact jq hS _ _ _ _ _ hp jr h2 h1
   ·rename_i g1 XV fD jr
    injection h with e1 e2
    subst e1;subst e2
    exact jq hS _ _ _ _ _ hp jr ho hg
  ·split at h
   ·exact same h
   ·rename_i hd
    split at h
    ·rename_i v hv
     rw[kW] at h
     obtain⟨h1,h2⟩:=dt hS n _ _ _ _ h (og hp) ho hg
     exact⟨ny hS hp hv trivial hd h1,h2⟩
    ·rename_i v p hv
     rw[kW] at h
     obtain⟨h1,h2⟩:=dt hS n _ _ _ _ h (og hp) ho hg
     rw[tu] at h2
     exact⟨ny hS hp hv h2.1 hd h1,h2.2⟩
    ·rw[mj] at h
     injection h with e1 e2
     subst e1;subst e2
     exact⟨vD hp hd hg,ho⟩
  ·exact same h
def bN (P:Program)(f:FuncId)(args:List Value)(w:World)(Q:Value->World->Prop):Prop:=
 Calls P f ⟨args⟩ w fun e w'=>∃v,e= .returned v/\Q v w'
theorem bN.mono {P:Program}{f:FuncId}{args:List Value}{w:World}{Q Q':Value->World->Prop}(h:bN P f args w Q)(hq:∀v w',Q v w'->Q' v w'):bN P f args w Q':=
 Calls.mono h fun _ _ ⟨v,e,q⟩=>⟨v,e,hq _ _ q⟩
def ql:Nat->List Value->Env
 |_,[]=>[]
 |n,v::r=>(n,v)::ql (n+1) r
theorem vF:∀(args:List Value) (n t:Nat) (v:Value),look (ql n args) t=some v->n<=t/\args[t-n]?=some v
 |[],n,t,v,h=>by simp[ql,look] at h
 |u::r,n,t,v,h=>by
  simp only[ql,look] at h
  split at h
  ·rename_i hb
   obtain rfl:=Nat.eq_of_beq_eq_true hb
   injection h with h
   subst h
   simp
  ·obtain⟨h1,h2⟩:=vF r (n+1) t v h
   refine⟨by omega,?_⟩
   rw[show t-n=(t-(n+1))+1 by omega]
   simpa using h2
theorem enter {S:ak}(hS:S.Ok){args:List Value}{w:World}{Q:Value->World->Prop}(c:Code)(sz:Nat)(hb:S.fn.body=some c)(hn:S.fn.ntmps=sz)(hle:args.length<=sz)
  (h:∀C,ax S sz Q C w (.code [.code c] (ql 0 args))):bN S.P S.f args w Q:=by
 intro cs
 let b:Frame:={(default:Frame) with fn:=S.f,kind:= .normal}
 have Pa:Frame.enter S.P S.f ⟨args⟩ .normal=
   b.at {tmps:=args.toArray++Array.replicate (S.fn.ntmps-args.length) undef,defers:=[]} [.code c]:=by
  simp[Frame.enter,Frame.at,hS.fn,hb,b]
 have Pb:Fits sz (ql 0 args) {tmps:=args.toArray++Array.replicate (S.fn.ntmps-args.length) undef,defers:=[]}:=by
  refine⟨rfl,by simp[hn];omega,fun t v hl=> ?_⟩
  obtain⟨_,h2⟩:=vF args 0 t v hl
  simp only[Nat.sub_zero] at h2
  have bD:t<args.length:=by
   rcases Nat.lt_or_ge t args.length with h|h
   ·exact h
   ·rw[List.getElem?_eq_none h] at h2;cases h2
  rw[Array.getElem?_append_left (by simpa using bD)]
  simpa using h2
 obtain⟨v,w',fr,hR,jr,hf,hl⟩:=h (fun _=>True) _ Pb b cs rfl rfl
 exact⟨.returned v,w',fr,⟨v,rfl,hR⟩,by rw[Pa];exact jr,hf,hl⟩
end Go.Xw
