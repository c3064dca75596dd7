/- Texts that belong together; each under its stated conditions. -/
import Derived.Test.YtiepmliokblkjaaGreatTab
import Derived.Test.YtiepmliokblkjaaGreatStep
import Derived.Test.YtiepmliokblkjaaGreatHeap
import Derived.Test.YtiepmliokblkjaaGreatBrf
set_option linter.all false
section
namespace Go.Proofs
open Go.Xw
set_option maxRecDepth 100000
theorem sL (x a b:Int)(w:World):bN Tryz.prog 124 [.int .i64 x,.int .i64 a,.int .i64 b] w (fun v w'=>v= .bool (decide (a<=x/\x<=b))/\w'=w):=by
 refine enter Tryz.Qs _ _ rfl rfl (by show _<=_;simp only[List.length];decide) (fun C=> ?_);refine xz rfl ?_;(repeat(first|refine ml rfl mF rfl ?_|refine mm rfl mF rfl ?_))
 refine iB (fun h=> ?_) (fun h=> ?_);all_goals(rw[h];(first|replace h:=of_decide_eq_true h|replace h:=of_decide_eq_false h|skip);repeat(first|refine ml rfl mF rfl ?_|refine mm rfl mF rfl ?_))
 ·exact⟨by simp[h],rfl⟩
 ·exact⟨by simp[h],rfl⟩
theorem Jw (x a b:Int)(w:World):bN Tryz.prog 79 [.int .i64 x,.int .i64 a,.int .i64 b] w (fun v w'=>v= .bool (decide (a<=x/\x<=b))/\w'=w):=by
 refine enter Tryz.Vs _ _ rfl rfl (by show _<=_;simp only[List.length];decide) (fun C=> ?_);refine xz rfl ?_;(repeat(first|refine ml rfl mF rfl ?_|refine mm rfl mF rfl ?_))
 refine iB (fun h=> ?_) (fun h=> ?_);all_goals(rw[h];(first|replace h:=of_decide_eq_true h|replace h:=of_decide_eq_false h|skip);repeat(first|refine ml rfl mF rfl ?_|refine mm rfl mF rfl ?_))
 ·exact⟨by simp[h],rfl⟩
 ·exact⟨by simp[h],rfl⟩
end Go.Proofs
end
section
namespace Go.Xw
structure fS where
 kind:Int
 init:Int
 ins:List Int
 deriving DecidableEq
instance:Inhabited fS:=⟨⟨0,0,[]⟩⟩
structure ao where
 aT:Int
 au:List fS
 af:List (Int×Int)
 outs:List Int
 deriving DecidableEq
instance:Inhabited ao:=⟨⟨0,[],[],[]⟩⟩
def fT (n:ao):Prop:=(0<=n.aT/\n.aT<=20)/\n.au.length<=12/\n.af.length<=300/\n.outs.length<=16
instance (n:ao):Decidable (fT n):=by unfold fT;infer_instance
def aB (n:ao):Int:=1+n.aT+n.au.length
def ag (n:ao):Int:=1+n.aT+n.au.length+n.af.length
def cM (n:ao):Int:=if fT n then ag n else 0
theorem kX {n:ao}:cM n≠0↔fT n:=by
 unfold cM ag
 split
 ·rename_i h
  have:=h.1.1
  constructor
  ·exact fun _=>h
  ·intro _;omega
 ·rename_i h
  constructor
  ·intro h2;exact absurd rfl h2
  ·intro h2;exact absurd h2 h
def bR (n:ao):Nat->List Int
 |0=>n.outs
 |i+1=>bR n i++(n.au.getD i default).ins
def bc (n:ao):List Int:=bR n n.au.length
def iF (s:fS):Prop:=(s.kind=0/\(0<=s.init/\s.init<=1)/\s.ins.length=1)\/(s.kind=1/\(0<=s.init/\s.init<=31)/\s.ins.length=4)
def aD (x:Int)(nodes:Int):Prop:=0<=x/\x/2<nodes
instance (s:fS):Decidable (iF s):=by unfold iF;infer_instance
instance (x k:Int):Decidable (aD x k):=by unfold aD;infer_instance
structure aj (n:ao):Prop where
 size:fT n
 au:∀i,i<n.au.length->iF (n.au.getD i default)
 roots:∀i,i<(bc n).length->aD ((bc n).getD i default) (ag n)
 af:∀i,i<n.af.length->aD (n.af.getD i default).1 (aB n+i)/\aD (n.af.getD i default).2 (aB n+i)
def da (z:Int):Prop:= -9223372036854775808<=z/\z<=9223372036854775807
structure nq (n:ao):Prop where
 outs:∀i,i<n.outs.length->da (n.outs.getD i default)
 ins:∀i,i<n.au.length->∀j,j<(n.au.getD i default).ins.length->da ((n.au.getD i default).ins.getD j default)
 af:∀i,i<n.af.length->da (n.af.getD i default).1/\da (n.af.getD i default).2
noncomputable def nP (n:ao):Bool:= @decide (aj n) (Classical.propDecidable _)
theorem sM {n:ao}:nP n=true↔aj n:=by simp[nP]
theorem cY {n:ao}(h:¬aj n):nP n=false:=by simp[nP,h]
theorem fj {n:ao}(h:aj n):nP n=true:=by simp[nP,h]
theorem C4 {n:ao}{i:Nat}(h:∀j,j<i->iF (n.au.getD j default)):(bR n i).length<=n.outs.length+4*i:=by
 induction i with
 |zero=>simp[bR]
 |succ i ih=>
  have h1:=ih fun j hj=>h j (by omega)
  have h2:=h i (by omega)
  simp only[bR,List.length_append]
  rcases h2 with⟨_,_,h2⟩|⟨_,_,h2⟩<;>omega
end Go.Xw
end
section
namespace Go.Xw
open Go.RowKit
structure dO where
 kind:Int
 init:Int
 ins:List Int
 ia:Option Addr
 ic:Nat
instance:Inhabited dO:=⟨⟨0,0,[],none,0⟩⟩
def dO.s (x:dO):fS:=⟨x.kind,x.init,x.ins⟩
def ke (x:dO):List Value:=[.int .i64 x.kind,.int .i64 x.init,.slice x.ia x.ins.length x.ic]
instance Jx:bX ke 3:=⟨fun _=>rfl,fun x u hu=>by simp[ke] at hu;rcases hu with rfl|rfl|rfl<;>rfl⟩
structure bf where
 aT:Int
 au:List dO
 sa:Option Addr
 sc:Nat
 af:List (Int×Int)
 aa:Option Addr
 ac:Nat
 outs:List Int
 oa:Option Addr
 oc:Nat
def aU (R:List dO):List fS:=R.map dO.s
theorem gL (R:List dO)(i:Nat):(aU R).getD i default=(R.getD i default).s:=by
 simp only[aU,List.getD_eq_getElem?_getD,List.getElem?_map]
 cases R[i]?<;>rfl
theorem cm (R:List dO):(aU R).length=R.length:=by simp[aU]
def bf.n (x:bf):ao:=⟨x.aT,aU x.au,x.af,x.outs⟩
def bf.cs (x:bf):List Value:=[.int .i64 x.aT,.slice x.sa x.au.length x.sc,.slice x.aa x.af.length x.ac,.slice x.oa x.outs.length x.oc]
def bf.v (x:bf):Value:= .agg ⟨x.cs⟩
theorem bf.fE (x:bf):x.n.au.length=x.au.length:=cm _
theorem bf.tF (x:bf)(i:Nat):x.n.au.getD i default=(x.au.getD i default).s:=gL _ _
theorem bf.rT (x:bf)(i:Nat):(x.n.au.getD i default).ins=(x.au.getD i default).ins:=by rw[x.tF];rfl
theorem bf.VJ (x:bf)(i:Nat):(x.n.au.getD i default).kind=(x.au.getD i default).kind:=by rw[x.tF];rfl
class r9 (w:World)(a:Option Addr)(R:List dO):Prop where
 row:Rd w a 3 ke R
 ins:∀s,s∈R->Rd w s.ia 1 eI s.ins
class fG (w:World)(x:bf):Prop where
 au:r9 w x.sa x.au
 af:Rd w x.aa 2 gh x.af
 outs:Rd w x.oa 1 eI x.outs
 cap:x.af.length<=x.ac
theorem r9.ext {w w':World}{a:Option Addr}{R:List dO}(h:r9 w a R)(hx:Ext w w'):r9 w' a R:=⟨h.row.ext hx,fun s hs=>(h.ins s hs).ext hx⟩
theorem fG.ext {w w':World}{x:bf}(h:fG w x)(hx:Ext w w'):fG w' x:=⟨h.au.ext hx,h.af.ext hx,h.outs.ext hx,h.cap⟩
instance fG.rd1 {w:World}{x:bf}[h:fG w x]:Rd w x.sa 3 ke x.au:=h.au.row
instance fG.rd2 {w:World}{x:bf}[h:fG w x]:Rd w x.aa 2 gh x.af:=h.af
instance fG.rd3 {w:World}{x:bf}[h:fG w x]:Rd w x.oa 1 eI x.outs:=h.outs
theorem aK {α:Type}[Inhabited α]{X:List α}{i:Nat}(h:i<X.length):X.getD i default∈X:=by
 rw[List.getD_eq_getElem?_getD,List.getElem?_eq_getElem h];exact List.getElem_mem h
theorem r9.at_ {w:World}{a:Option Addr}{R:List dO}(h:r9 w a R){i:Nat}(hi:i<R.length):Rd w (R.getD i default).ia 1 eI (R.getD i default).ins:=h.ins _ (aK hi)
def fz (R:List dO):bh:=rQ (R.map fun s=>rO 3 1 eI s.ia s.ic s.ins)
def E0 (a:Option Addr)(c:Nat)(R:List dO):bh:=rQ [rO 68 3 ke a c R,fz R]
def dv (x:bf):bh:=rQ [E0 x.sa x.sc x.au,rO 120 2 gh x.aa x.ac x.af,rO 3 1 eI x.oa x.oc x.outs]
theorem Oj {w:World}{a:Option Addr}{c:Nat}{R:List dO}(h:(E0 a c R).P w):r9 w a R:=by
 have h1:=h (rO 68 3 ke a c R) (by simp)
 have h2:=h (fz R) (by simp)
 exact⟨⟨dk.sl h1 Jx.len⟩,fun s hs=>⟨dk.sl (h2 _ (List.mem_map.2 ⟨s,hs,rfl⟩)) tB.len⟩⟩
theorem sN {w:World}{x:bf}(h:(dv x).P w):fG w x:=
 ⟨Oj (c:=x.sc) (h (E0 x.sa x.sc x.au) (by simp)),⟨dk.sl (h (rO 120 2 gh x.aa x.ac x.af) (by simp)) Pf.len⟩,⟨dk.sl (h (rO 3 1 eI x.oa x.oc x.outs) (by simp)) tB.len⟩,dk.cap (h (rO 120 2 gh x.aa x.ac x.af) (by simp))⟩
class lJ (w0:World)(L:List bh)(x:bf):Prop where
 h:∀w,Hp w0 w L->fG w x
instance (priority:=low) lJ.base {w0:World}{L:List bh}{x:bf}[h:fG w0 x]:lJ w0 L x:=⟨fun _ hp=>h.ext hp.x⟩
instance lJ.head {w0:World}{L:List bh}{x:bf}:lJ w0 (dv x::L) x:=⟨fun _ hp=>sN hp.g0⟩
instance lJ.tail {w0:World}{L:List bh}{R:bh}{x:bf}[h:lJ w0 L x]:lJ w0 (R::L) x:=⟨fun w hp=>h.h w hp.drop⟩
theorem Hp.dR {w0 w:World}{L:List bh}(hp:Hp w0 w L){x:bf}[h:lJ w0 L x]:fG w x:=h.h w hp
instance gm.net1 {w0:World}{L:List bh}{x:bf}:gm w0 (dv x::L) x.sa 3 ke x.au:=⟨fun _ hp=>(sN hp.g0).au.row.h⟩
instance gm.net2 {w0:World}{L:List bh}{x:bf}:gm w0 (dv x::L) x.aa 2 gh x.af:=⟨fun _ hp=>(sN hp.g0).af.h⟩
instance gm.net3 {w0:World}{L:List bh}{x:bf}:gm w0 (dv x::L) x.oa 1 eI x.outs:=⟨fun _ hp=>(sN hp.g0).outs.h⟩
instance gm.sq {w0:World}{L:List bh}{a:Option Addr}{c:Nat}{R:List dO}:gm w0 (E0 a c R::L) a 3 ke R:=⟨fun _ hp=>(Oj hp.g0).row.h⟩
instance (priority:=low) gm.ZZ {w0:World}{L:List bh}{x:bf}[h:lJ w0 L x]:gm w0 L x.sa 3 ke x.au:=⟨fun w hp=>(h.h w hp).au.row.h⟩
instance (priority:=low) gm.Z0 {w0:World}{L:List bh}{x:bf}[h:lJ w0 L x]:gm w0 L x.aa 2 gh x.af:=⟨fun w hp=>(h.h w hp).af.h⟩
instance (priority:=low) gm.Z1 {w0:World}{L:List bh}{x:bf}[h:lJ w0 L x]:gm w0 L x.oa 1 eI x.outs:=⟨fun w hp=>(h.h w hp).outs.h⟩
theorem lJ.in_ {w0:World}{L:List bh}{x:bf}(h:lJ w0 L x){i:Nat}(hi:i<x.au.length):gm w0 L (x.au.getD i default).ia 1 eI (x.au.getD i default).ins:=⟨fun w hp=>((h.h w hp).au.at_ hi).h⟩
theorem HS {w0 w w':World}{L:List bh}{R:List dO}{y:dO}(h:Hp w0 w (fz R::L))(hy:Hp w w' [rO 3 1 eI y.ia y.ic y.ins]):Hp w0 w' (fz (R++[y])::L):=by
 have h1:=(h.unpack).bJ hy
 refine Hp.pack (Hp.perm h1 ?_)
 simp only[List.map_append,List.map_cons,List.map_nil,List.append_assoc]
 exact(List.perm_middle (l₁:=R.map _)).symm
theorem ot {w0 w:World}{L:List bh}(h:Hp w0 w L):Hp w0 w (fz []::L):=Hp.pack (Rs:=[]) h
theorem nC {w0 w:World}{L:List bh}{R:List dO}(h:Hp w0 w (fz R::L)){i:Nat}(hi:i<R.length):
  ∃Q,Hp w0 w (rO 3 1 eI (R.getD i default).ia (R.getD i default).ic (R.getD i default).ins::Q::L)/\∀w' L' y,Hp w0 w' (rO 3 1 eI y.ia y.ic y.ins::Q::L')->Hp w0 w' (fz (R.set i y)::L'):=by
 obtain⟨Q,h1,h2⟩:=Hp.NM (i:=i) (R:=rO 3 1 eI (R.getD i default).ia (R.getD i default).ic (R.getD i default).ins) h (by
  rw[List.getElem?_map,List.getElem?_eq_getElem hi,List.getD_eq_getElem?_getD,List.getElem?_eq_getElem hi];rfl)
 refine⟨Q,h1,fun w' L' y hy=> ?_⟩
 have h3:=h2 w' _ _ hy
 unfold fz
 rw[List.map_set]
 exact h3
theorem ou {w0 w:World}{L:List bh}{a:Option Addr}{c:Nat}{R:List dO}(h:Hp w0 w (E0 a c R::L)):Hp w0 w (rO 68 3 ke a c R::fz R::L):=h.unpack
theorem gX {w0 w:World}{L:List bh}{a:Option Addr}{c:Nat}{R:List dO}(h:Hp w0 w (rO 68 3 ke a c R::fz R::L)):Hp w0 w (E0 a c R::L):=Hp.pack (Rs:=[_,_]) h
theorem kI {w0 w:World}{L:List bh}{x:bf}(h:Hp w0 w (dv x::L)):Hp w0 w (E0 x.sa x.sc x.au::rO 120 2 gh x.aa x.ac x.af::rO 3 1 eI x.oa x.oc x.outs::L):=h.unpack
theorem fe {w0 w:World}{L:List bh}{x:bf}(h:Hp w0 w (E0 x.sa x.sc x.au::rO 120 2 gh x.aa x.ac x.af::rO 3 1 eI x.oa x.oc x.outs::L)):Hp w0 w (dv x::L):=Hp.pack (Rs:=[_,_,_]) h
def lY {α:Type}(f:Nat->α)(i:Nat)(X:List α):List α:=(List.range i).map f++X.drop i
theorem kJ {α:Type}(f:Nat->α)(X:List α):lY f 0 X=X:=by simp[lY]
theorem tG {α:Type}(f:Nat->α)(X:List α):lY f X.length X=(List.range X.length).map f:=by simp[lY]
theorem xK {α:Type}{f:Nat->α}{X:List α}{i:Nat}(h:i<=X.length):(lY f i X).length=X.length:=by simp[lY];omega
theorem mI {α:Type}{f:Nat->α}{X:List α}{i:Nat}(h:i<X.length):(lY f i X).set i (f i)=lY f (i+1) X:=by
 unfold lY
 rw[List.set_append_right _ _ (by simp)]
 simp only[List.length_map,List.length_range,Nat.sub_self]
 rw[List.drop_eq_getElem_cons h,List.set_cons_zero,List.range_succ,List.map_append,List.append_assoc]
 rfl
theorem wI {α:Type}[Inhabited α]{f:Nat->α}{X:List α}{i j:Nat}(h:i<=j)(hi:i<=X.length):(lY f i X).getD j default=X.getD j default:=by
 unfold lY
 rw[List.getD_eq_getElem?_getD,List.getD_eq_getElem?_getD,List.getElem?_append_right (by simpa using h)]
 simp only[List.length_map,List.length_range,List.getElem?_drop]
 rw[show i+(j-i)=j by omega]
theorem ov {α:Type}[Inhabited α]{f:Nat->α}{n i:Nat}(h:i<n):((List.range n).map f).getD i default=f i:=by simp[List.getD_eq_getElem?_getD,h]
theorem dd {α:Type}[Inhabited α]{R:List α}{y:α}{j:Nat}(h:j<R.length):(R++[y]).getD j default=R.getD j default:=by
 simp[List.getD_eq_getElem?_getD,List.getElem?_append_left h]
theorem eh {α:Type}[Inhabited α]{R:List α}{y:α}:(R++[y]).getD R.length default=y:=by
 simp[List.getD_eq_getElem?_getD]
theorem Mh {α:Type}(R:List α)(n:Nat)(d y:α):(R++List.replicate (n+1) d).set R.length y=(R++[y])++List.replicate n d:=by
 rw[List.set_append_right _ _ (Nat.le_refl _),Nat.sub_self,List.replicate_succ,List.set_cons_zero,List.append_assoc]
 rfl
theorem iT {α:Type}[Inhabited α]{xs:List α}{i:Nat}(h:i<xs.length):xs.take (i+1)=xs.take i++[xs.getD i default]:=by
 rw[List.take_succ_eq_append_getElem h]
 simp[List.getD_eq_getElem?_getD,h]
structure kK (n:ao):Prop where
 au:n.au.length<=1048576
 ins:∀i,i<n.au.length->(n.au.getD i default).ins.length<=1048576
 af:n.af.length<=1048576
 outs:n.outs.length<=1048576
structure xL (x:bf):Prop where
 ck: -1000000000000<=x.aT/\x.aT<=1000000000000
 au:x.au.length<=1000000000000
 af:x.af.length<=1000000000000
theorem iU (x:bf):ag x.n=1+x.aT+x.au.length+x.af.length:=by unfold ag;rw[x.fE];rfl
theorem eD (x:bf):aB x.n=1+x.aT+x.au.length:=by unfold aB;rw[x.fE];rfl
theorem jF (x:bf):fT x.n↔(0<=x.aT/\x.aT<=20)/\x.au.length<=12/\x.af.length<=300/\x.outs.length<=16:=by unfold fT;rw[x.fE];rfl
theorem qx {x:bf}(h:fT x.n):xL x:=by rw[jF] at h;exact⟨by omega,by omega,by omega⟩
theorem nQ {x:bf}(hs:fT x.n){m:Nat}(hm:m<=x.au.length)(h:∀j,j<m->iF (x.au.getD j default).s):∀i,i<=m->(bR x.n i).length<=100:=fun i hi=>by
 rw[jF] at hs
 have:=C4 (n:=x.n) (i:=i) fun j hj=>by rw[x.tF];exact h j (by omega)
 have h2:x.n.outs.length=x.outs.length:=rfl
 omega
theorem aj.bound {x:bf}(h:aj x.n):∀i,i<=x.au.length->(bR x.n i).length<=100:=
 nQ h.size (Nat.le_refl _) fun j hj=>by have:=h.au j (by rw[x.fE];exact hj);rwa[x.tF] at this
theorem aj.jR {x:bf}(h:aj x.n):(0<=x.aT/\x.aT<=20)/\x.au.length<=12/\x.af.length<=300/\x.outs.length<=16:=(jF x).1 h.size
theorem aj.b {x:bf}(h:aj x.n):xL x:=qx h.size
theorem aj.ins {x:bf}(h:aj x.n){i:Nat}(hi:i<x.au.length):1<=(x.au.getD i default).ins.length/\(x.au.getD i default).ins.length<=4:=by
 have h1:=h.au i (by rw[x.fE];exact hi)
 rw[x.tF] at h1
 have h2:(x.au.getD i default).s.ins=(x.au.getD i default).ins:=rfl
 rcases h1 with⟨_,_,h1⟩|⟨_,_,h1⟩<;>rw[h2] at h1<;>omega
theorem aj.S {x:bf}(h:aj x.n):kK x.n:=by
 have h1:=h.jR
 refine⟨by rw[x.fE];omega,fun i hi=> ?_,?_,?_⟩
 ·rw[x.fE] at hi
  have:=h.ins hi
  rw[x.rT];omega
 ·show x.af.length<=_;omega
 ·show x.outs.length<=_;omega
end Go.Xw
end
section
namespace Go.Proofs
open Go.Xw
set_option maxRecDepth 100000
set_option maxHeartbeats 1000000
attribute [local irreducible] ax aE
theorem bB (x a b:Int)(w:World):bN Tryz.prog 124 [.int .i64 x,.int .i64 a,.int .i64 b] w (fun v w'=>v= .bool (decide (a<=x/\x<=b))/\Ext w w'):=
 (sL x a b w).mono fun _ _ ⟨h1,h2⟩=>⟨h1,by rw[h2];exact Ext.refl _⟩
theorem cE (x a b:Int)(w:World):bN Tryz.prog 79 [.int .i64 x,.int .i64 a,.int .i64 b] w (fun v w'=>v= .bool (decide (a<=x/\x<=b))/\Ext w w'):=
 (Jw x a b w).mono fun _ _ ⟨h1,h2⟩=>⟨h1,by rw[h2];exact Ext.refl _⟩
theorem lZ {α:Type}[Inhabited α]{xs ys:List α}(hl:xs.length=ys.length)(h:∀i,i<xs.length->xs.getD i default=ys.getD i default):xs=ys:=
 List.ext_getElem hl fun j h1 h2=>by
  have:=h j (by omega)
  simpa [List.getD_eq_getElem?_getD,h1,h2] using this
end Go.Proofs
end
