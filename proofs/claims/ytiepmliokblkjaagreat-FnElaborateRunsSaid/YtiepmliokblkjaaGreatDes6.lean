/- Texts that belong together; each under its stated conditions. -/
import Derived.Test.YtiepmliokblkjaaGreatBrf
import Derived.Test.YtiepmliokblkjaaGreatDes4
import Derived.Test.YtiepmliokblkjaaGreatNet
import Derived.Test.YtiepmliokblkjaaGreatMap
set_option linter.all false
section
namespace Go.Xw
theorem Ek.s {f:bm}(h:Ek f):qL f.n:=by
 have h1:=h.l1
 have h2:=h.l2
 have h3:=h.l3
 have hi:f.n.ins.length=0:=by rw[f.RX,h.w.ins];rfl
 refine⟨by show f.sg.length<=_;omega,by rw[f.cC];omega,fun i mh=> ?_,by omega,fun i mh=>by omega,by show f.ms.length<=_;omega⟩
 rw[f.cC] at mh
 have:=(h.w.aP _ (aK mh)).2.1
 rw[f.mR];omega
theorem Ek.mw {f:bm}(h:Ek f):qM f.n:=by
 refine⟨fun i hi=>h.w.sg _ (aK hi),fun i hi=> ?_,fun i hi j hj=> ?_,fun i hi=>h.w.ms _ (aK hi)⟩
 ·rw[f.cC] at hi
  rw[f.Le];exact(h.w.aP _ (aK hi)).1
 ·rw[f.cC] at hi
  rw[f.mR] at hj⊢
  exact(h.w.aP _ (aK hi)).2.2 _ (aK hj)
theorem Ek.zero:Ek (default:bm):=⟨⟨fun _ h=>absurd h List.not_mem_nil,fun _ h=>absurd h List.not_mem_nil,rfl,fun _ h=>absurd h List.not_mem_nil⟩,Nat.zero_le _,Nat.zero_le _,Nat.zero_le _⟩
theorem Hp.KT {w0 w:World}{L:List bh}(h:Hp w0 w L):Hp w0 w (mS (default:bm)::L):=by
 have h1:Hp w0 w (rO 70 4 p9 none 0 []::L):=h.eH (Ext.refl _) (dk.nil _ _ _ _ _)
 have h2:Hp w0 w (fz []::rO 70 4 p9 none 0 []::L):=Hp.pack (Rs:=[]) h1
 have h3:Hp w0 w (rO 150 3 ke none 0 []::fz []::rO 70 4 p9 none 0 []::L):=h2.eH (Ext.refl _) (dk.nil _ _ _ _ _)
 have h4:=DB (ry h3)
 have h5:Hp w0 w (rO 75 2 BN none 0 []::tY []::kP none 0 []::rO 70 4 p9 none 0 []::L):=h4.eH (Ext.refl _) (dk.nil _ _ _ _ _)
 have h6:=qK h5
 have h7:Hp w0 w (rO 66 3 n7 none 0 []::wy none 0 []::kP none 0 []::rO 70 4 p9 none 0 []::L):=h6.eH (Ext.refl _) (dk.nil _ _ _ _ _)
 exact oH (x:=default) h7
end Go.Xw
namespace Go.Proofs
open Go.Xw
set_option maxRecDepth 100000
set_option maxHeartbeats 4000000
attribute [local irreducible] ax aE
theorem A1 {w0 w:World}{L:List bh}(D:ku)(hO:Ed D.ms)(p:Int)(IQ:1<=p/\p<=4)[qW w0 L D](hp:Hp w0 w L):
  bN Tryz.prog 117 [D.v,.int .i64 p] w (fun r w'=>∃(y:bm) (b:Bool),r= .tuple ⟨[y.v,.bool b]⟩/\Ek y/\Hp w0 w' (mS y::L)):=by
 refine vJ Tryz.Ql ?_;intro C
 refine bP hp ?_;intro w b2 hx hp;refine az ?_
 refine bP hp ?_;intro w b4 hx hp;refine az ?_;refine aI hp ?_
 refine cy Tryz.func75 (FT D _ hp.Th hO) ?_;rintro _ w ⟨b,⟨rfl,hb⟩,hx⟩;have hp:=hp.ext hx;refine az ?_
 cases b
 ·(repeat(refine ba ?_))
  refine aN ?_;refine aW hp ?_;intro w hp;refine az ?_;refine bg hp rfl ?_
  exact⟨default,false,rfl,Ek.zero,(hp.drop.drop).KT⟩
 obtain⟨EP,I'⟩:=hb rfl
 have hd4:=(I' 0 (by omega)).ct.len
 (repeat(refine aO ?_))
 refine bQ hp Tryz.func79 ((cE p 1 4 _).yes IQ) ?_;intro w hx hp;refine aO ?_
 refine aM ?_;(repeat(first|(refine ah ?_;refine aI hp ?_)|(refine bK ?_;refine gG hp ?_;intro w _ hx hp;refine az ?_)))
 rw[show((D.ms.length:Nat):Int)-1=((D.ms.length-1:Nat):Int) by omega]
 refine cy Tryz.func159 (zm D I' hO (D.ms.length-1+1) (D.ms.length-1) (by omega) (by omega) p false [] _ _ default (by omega) (fun h=>Bool.noConfusion h) (fun j hj=>absurd hj (Nat.not_lt_zero _)) Ek.zero hp.KT) ?_
 rintro _ w ⟨y,b,rfl,h⟩
 rcases h with⟨rfl,⟨hy,_⟩,hp⟩|⟨rfl,hp⟩
 ·refine az ?_
  refine bP hp ?_;intro w b6 hx hp;refine az ?_;(repeat(first|(refine aG ?_;refine aO ?_)|(refine ah ?_;refine aI hp ?_)|(refine aH ?_;refine aW hp ?_;intro w hp;refine az ?_)))
  have En:=hy.s
  have SD:=hy.mw
  refine bQ hp Tryz.func26 (ja y _ hp.mod En SD) ?_;intro w hx hp;refine aO ?_
  cases E9:fB y.n with
  |true=>
   refine aM ?_;(repeat(first|(refine ah ?_;refine aI hp ?_)|(refine aH ?_;refine aW hp ?_;intro w hp;refine az ?_)|(refine dA ?_;refine bg hp rfl ?_)))
   exact⟨y,true,rfl,hy,hp.drop.f1.drop.f1.drop.f1.drop⟩
  |false=>
   refine aN ?_;refine aW hp ?_;intro w hp;refine az ?_;refine bg hp rfl ?_
   exact⟨default,false,rfl,Ek.zero,(hp.drop.drop.drop.drop.drop).KT⟩
 ·refine az ?_
  refine bP hp ?_;intro w b6 hx hp;refine az ?_;(repeat(first|(refine aG ?_;refine ba ?_)|(refine aH ?_;refine aW hp ?_;intro w hp;refine az ?_)))
  refine aN ?_;refine aW hp ?_;intro w hp;refine az ?_;refine bg hp rfl ?_
  exact⟨default,false,rfl,Ek.zero,(hp.drop.drop.drop.drop).KT⟩
end Go.Proofs
end
section
namespace Go.Xw
open Go.RowKit
def fv (p:Nat)(a:Option Addr)(n c:Nat):bh where
 ids:=[p]
 P w:=∃i h:Int,(0<=i/\i<=n/\n<=1048576)/\jZ w p 171 [.slice a n c,.int .i64 i,.int .i64 h]
 st:=fun hh ⟨i,h,hi,hb⟩=>⟨i,h,hi,by unfold jZ at hb⊢;rw[hh _ (by simp)];exact hb⟩
 lt:=fun⟨i,h,hi,hb⟩ k hk=>by simp at hk;subst hk;exact hb.lt
theorem KU {w0 w:World}{L:List bh}{p:Nat}{a:Option Addr}{n c:Nat}(hp:Hp w0 w (fv p a n c::L)):∃i h:Int,(0<=i/\i<=n/\n<=1048576)/\Hp w0 w (rB p 171 [.slice a n c,.int .i64 i,.int .i64 h]::L):=by
 obtain⟨i,h,hi,hb⟩:=hp.g0
 refine⟨i,h,hi,hp.x,hp.nd,hp.lo,fun R hR=> ?_⟩
 rcases List.mem_cons.1 hR with rfl|hR
 ·exact hb
 ·exact hp.h R (List.mem_cons_of_mem _ hR)
theorem uv {w0 w:World}{L:List bh}{p:Nat}{a:Option Addr}{n c:Nat}{i h:Int}(hi:0<=i/\i<=n/\n<=1048576)(hp:Hp w0 w (rB p 171 [.slice a n c,.int .i64 i,.int .i64 h]::L)):Hp w0 w (fv p a n c::L):=by
 refine⟨hp.x,hp.nd,hp.lo,fun R hR=> ?_⟩
 rcases List.mem_cons.1 hR with rfl|hR
 ·exact⟨i,h,hi,hp.lP⟩
 ·exact hp.h R (List.mem_cons_of_mem _ hR)
def SE (X:List Int):Prop:=∀i,i<X.length->0<=X.getD i default/\X.getD i default<=255
end Go.Xw
namespace Go.Proofs
open Go.Xw
set_option maxRecDepth 100000
set_option maxHeartbeats 1000000
attribute [local irreducible] ax aE
theorem WG (a:Option Addr)(n c:Nat)(w0:World):bN Tryz.prog 14 [.slice a n c] w0 (fun v w=>v= .bool (decide (1048576<(n:Int)))/\Ext w0 w):=by
 refine eu Tryz.UR ?_;intro C hp;refine aq ?_
 exact⟨rfl,hp.x⟩
noncomputable def WH:ak:={Tryz.VI with wr:=true}
instance Ny:WH.Ok:=⟨Tryz.aZ,Tryz.func120,rfl⟩
theorem oR {w0 w:World}{L:List bh}{p:Nat}{a:Option Addr}{n c:Nat}{code:List Int}(hR:Rd w0 a 1 xt code)(hn:code.length=n)(hp:Hp w0 w (fv p a n c::L)):
  bN Tryz.prog 120 [.pointer (some ⟨p,0,none⟩)] w (fun v w'=>∃z,(v= .int .i64 z/\0<=z/\z<=255)/\Hp w0 w' (fv p a n c::L)):=by
 obtain⟨i,h,hi,hp⟩:=KU hp
 have key:∀z:Int,0<=bits .and .i64 z 255/\bits .and .i64 z 255<=255:=fun z=>by
  have:=ew z 8 (by decide)
  rw[show(2:Int)^8-1=255 by decide,show(2:Int)^8=256 by decide] at this
  rw[this];omega
 have SY:(code.length:Int)=n:=by rw[hn]
 refine vJ Ny ?_;intro C;(repeat(first|(refine ah ?_;refine aI hp ?_)|(refine aH ?_;refine iE hp ?_;intro w hp;refine az ?_)))
 refine j7 hp ?_;intro w hx hp;have hs:=hp
 refine Jm rfl rfl rfl ?_ (by show ir [_];show(0:Int)<=_;decide)
 show ax _ _ _ _ _ (G.act (.load _ _) _)
 refine Jm rfl rfl rfl ?_ (by show ir [_];show(0:Int)<=_;decide)
 show ax _ _ _ _ _ (G.code _ _)
 refine j7 hp ?_;intro w hx hp;have hs:=hp;(repeat(refine dN ?_))
 apply ae<;>intro bD
 ·refine aN ?_
  refine j7 hp ?_;intro w hx hp;have hs:=hp;(repeat(refine ah ?_;first|refine dN ?_|refine jb rfl (by omega) (by omega) rfl rfl rfl ?_))
  show ax _ _ _ _ _ (G.act (.load _ _) _)
  skip
  (repeat(first|(refine ah ?_;refine aI hp ?_)|(refine aH ?_;refine iE hp ?_;intro w hp;refine az ?_)|refine aq ?_))
  have e:IntKind.i64.wrap (i+1)=i+1:=wi (by omega)
  have hp:Hp w0 w (rB p 171 [.slice a n c,.int .i64 (IntKind.i64.wrap (i+1)),.int .i64 (IntKind.i64.wrap (IntKind.i64.wrap (h*6364136223846793005)+1442695040888963407))]::L):=hp
  rw[e] at hp
  refine⟨_,⟨rfl,key _⟩,uv (by omega) hp⟩
 ·refine aM ?_;refine aq ?_
  refine⟨_,⟨rfl,key _⟩,uv hi hp⟩
theorem cg {w0 w:World}{L:List bh}{p:Nat}{a:Option Addr}{n c:Nat}{code:List Int}(hR:Rd w0 a 1 xt code)(hn:code.length=n)(hp:Hp w0 w (fv p a n c::L))(m:Int):
  bN Tryz.prog 62 [.pointer (some ⟨p,0,none⟩),.int .i64 m] w (fun v w'=>∃z,(v= .int .i64 z/\(m<=0->z=0)/\(0<m->0<=z/\z<m))/\Hp w0 w' (fv p a n c::L)):=by
 refine vJ Tryz.Ve ?_;intro C
 apply ae<;>intro h0
 ·refine aN ?_;refine aq ?_
  exact⟨0,⟨rfl,fun _=>rfl,fun h=>by omega⟩,hp⟩
 ·refine aM ?_
  apply ae<;>intro h1
  ·refine aN ?_
   refine cy Tryz.func120 (oR hR hn hp) ?_;rintro _ w ⟨z,⟨rfl,TK,ED⟩,hp⟩;refine az ?_;refine aq ?_
   exact⟨_,⟨rfl,fun h=>by omega,fun h=>⟨Int.emod_nonneg _ (by omega),Int.emod_lt_of_pos _ h⟩⟩,hp⟩
  ·refine aM ?_
   refine cy Tryz.func120 (oR hR hn hp) ?_;rintro _ w ⟨z1,⟨rfl,ED,Cn⟩,hp⟩;refine az ?_
   refine cy Tryz.func120 (oR hR hn hp) ?_;rintro _ w ⟨z2,⟨rfl,Ch,En⟩,hp⟩;refine az ?_
   refine cy Tryz.func120 (oR hR hn hp) ?_;rintro _ w ⟨z3,⟨rfl,pG,SD⟩,hp⟩;refine az ?_
   refine cy Tryz.func120 (oR hR hn hp) ?_;rintro _ w ⟨z4,⟨rfl,FI,hy4⟩,hp⟩;refine az ?_;refine aq ?_
   exact⟨_,⟨rfl,fun h=>by omega,fun h=>⟨Int.emod_nonneg _ (by omega),Int.emod_lt_of_pos _ h⟩⟩,hp⟩
theorem oS {w0 w:World}{L:List bh}{p:Nat}{a:Option Addr}{n c:Nat}{code:List Int}(hR:Rd w0 a 1 xt code)(hn:code.length=n)(hp:Hp w0 w (fv p a n c::L))(m:Int):
  bN Tryz.prog 188 [.pointer (some ⟨p,0,none⟩),.int .i64 m] w (fun v w'=>∃b,v= .bool b/\Hp w0 w' (fv p a n c::L)):=by
 refine vJ Tryz.Rp ?_;intro C
 refine cy Tryz.func62 (cg hR hn hp m) ?_;rintro _ w ⟨z,⟨rfl,TK,ED⟩,hp⟩;refine az ?_;refine aq ?_
 exact⟨_,rfl,hp⟩
theorem pK {w0 w:World}{L:List bh}{p:Nat}{a:Option Addr}{n c:Nat}{code:List Int}(hR:Rd w0 a 1 xt code)(hn:code.length=n)(hp:Hp w0 w (fv p a n c::L))(b:Option Addr)(cb:Nat)(X:List Int)[hX:gm w0 L b 1 eI X](h0:0<X.length)(h1:X.length<=200):
  bN Tryz.prog 187 [.pointer (some ⟨p,0,none⟩),.slice b X.length cb] w (fun v w'=>∃z,(v= .int .i64 z/\∃j,j<X.length/\z=X.getD j default)/\Hp w0 w' (fv p a n c::L)):=by
 refine vJ Tryz.Ro ?_;intro C
 refine cy Tryz.func62 (cg hR hn hp X.length) ?_;rintro _ w ⟨z,⟨rfl,TK,ED⟩,hp⟩;refine az ?_;refine ik hp ?_;refine aq ?_
 have hz:=ED (by omega)
 skip
 exact⟨_,⟨rfl,z.toNat,by omega,rfl⟩,hp⟩
theorem KV (a:Option Addr)(c:Nat)(code:List Int)(w0:World)(hR:Rd w0 a 1 xt code)(hB:SE code)(hl:code.length<=1048576):
  bN Tryz.prog 59 [.slice a code.length c] w0 (fun v w=>∃p,v= .pointer (some ⟨p,0,none⟩)/\Hp w0 w [fv p a code.length c]):=by
 have key:∀z:Int,0<=bits .and .i64 z 1073741823/\bits .and .i64 z 1073741823<=1073741823:=fun z=>by
  have:=ew z 30 (by decide)
  rw[show(2:Int)^30-1=1073741823 by decide,show(2:Int)^30=1073741824 by decide] at this
  rw[this];omega
 refine eu Tryz.Vb ?_;intro C hp
 refine gK [0,3,4] (fun(i:Nat) (h:Int)=>[(0,.slice a code.length c),(3,.int .i64 h),(4,.int .i64 (i:Int))])
  (fun i h w'=>i<=code.length/\(0<=h/\h<=2000000000)/\Hp w0 w' []) (fun i _=>code.length-i) 0 _ rfl ⟨by omega,by omega,hp⟩ ?_
 rintro i h w1 ⟨hi,hh,hp⟩ IH C
 refine bL ?_
 (first|apply fx|apply cf)<;>intro bD e<;>rw[e]<;>clear e;all_goals((repeat(refine aG ?_;first|refine aO ?_|refine ba ?_)))
 ·apply ae<;>intro h4
  ·have aF:i<code.length:=by omega
   have hb:=hB i aF
   refine aN ?_;refine bb hp ?_
   have hk:=key (h*131+code.getD i default+7)
   exact IH (i+1) _ _ _ _ (by omega) rfl ⟨by omega,by omega,hp⟩
  ·refine aM ?_
   refine bP hp ?_;intro w p hx hp;refine az ?_;refine aq ?_
   exact⟨p,rfl,uv (by omega) hp⟩
 ·refine aM ?_
  refine bP hp ?_;intro w p hx hp;refine az ?_;refine aq ?_
  exact⟨p,rfl,uv (by omega) hp⟩
end Go.Proofs
end
section
namespace Go.Proofs
open Go.Xw
set_option maxRecDepth 100000
set_option maxHeartbeats 4000000
attribute [local irreducible] ax aE
theorem gk {w0 w:World}{L F:List bh}{p:Nat}{a:Option Addr}{n c:Nat}{code:List Int}(hR:Rd w0 a 1 xt code)(hn:code.length=n)(hp:Hp w0 w ((fv p a n c::L)++F))(m:Int):
  bN Tryz.prog 62 [.pointer (some ⟨p,0,none⟩),.int .i64 m] w (fun v w'=>∃z,(v= .int .i64 z/\(m<=0->z=0)/\(0<m->0<=z/\z<m))/\Hp w0 w' ((fv p a n c::L)++F)):=
 cg (L:=L++F) hR hn hp m
end Go.Proofs
end
section
namespace Go.Xw
theorem Nz {w0 w:World}{L:List bh}(h:Hp w0 w L):Hp w0 w (kP none 0 []::L):=by
 have h2:Hp w0 w (fz []::L):=Hp.pack (Rs:=[]) h
 have h3:Hp w0 w (rO 150 3 ke none 0 []::fz []::L):=h2.eH (Ext.refl _) (dk.nil _ _ _ _ _)
 exact ry h3
theorem SF {w0 w:World}{L:List bh}(h:Hp w0 w L):Hp w0 w (wy none 0 []::L):=by
 have h3:Hp w0 w (rO 75 2 BN none 0 []::tY []::L):=(DB h).eH (Ext.refl _) (dk.nil _ _ _ _ _)
 exact qK h3
theorem Ho {w0 w:World}{L:List bh}(h:Hp w0 w L):Hp w0 w (rO 70 4 p9 none 0 []::L):=h.eH (Ext.refl _) (dk.nil _ _ _ _ _)
theorem NA {w0 w:World}{L:List bh}{x y:qJ}(h:Hp w0 w (rO 132 3 kf x.oa x.oc x.ops::rO 132 3 kf y.oa y.oc y.ops::L)):Hp w0 w (tY [x,y]::L):=Hp.pack (Rs:=[_,_]) h
theorem NB {w0 w:World}{L:List bh}{x:dO}(h:Hp w0 w (rO 3 1 eI x.ia x.ic x.ins::L)):Hp w0 w (fz [x]::L):=Hp.pack (Rs:=[_]) h
theorem KW {w0 w:World}{L:List bh}{x y:bm}(h:Hp w0 w (mS x::mS y::L)):Hp w0 w (so [x,y]::L):=Hp.pack (Rs:=[_,_]) h
theorem zn {w0 w:World}{L:List bh}{D:ku}(h:Hp w0 w (rO 41 4 bm.cs D.a D.c D.ms::so D.ms::L)):Hp w0 w (KM D::L):=Hp.pack (Rs:=[_,_]) h
def WI (c1:Nat):qJ:=⟨2,[⟨12,0,0⟩,⟨2,0,0⟩,⟨8,0,0⟩,⟨2,2,0⟩,⟨0,1,0⟩,⟨2,2,0⟩],some ⟨c1,0,none⟩,6⟩
def WJ (c3:Nat):qJ:=⟨1,[⟨2,2,0⟩],some ⟨c3,0,none⟩,1⟩
def Tm (c1 c2 c3 c4:Nat):bm:=⟨[⟨0,1,0⟩,⟨1,0,0⟩,⟨3,0,0⟩],some ⟨c2,0,none⟩,3,[WI c1,WJ c3],some ⟨c4,0,none⟩,2,[],none,0,[],none,0⟩
def Tn (c5 c6 c7:Nat):bm:=⟨[⟨0,1,0⟩,⟨1,0,0⟩],some ⟨c5,0,none⟩,2,[],none,0,[⟨0,0,[0,1],some ⟨c6,0,none⟩,2⟩],some ⟨c7,0,none⟩,1,[],none,0⟩
theorem WK (c1 c2 c3 c4 c5 c6 c7:Nat):Ed [Tm c1 c2 c3 c4,Tn c5 c6 c7]:=by
 have key:∀(o:dK),o∈(WI c1).ops\/o∈(WJ c3).ops->u6 o:=fun o h=>by
  unfold WI WJ at h
  simp only[List.mem_cons,List.mem_nil_iff,or_false] at h
  unfold u6 da
  rcases h with(h|h|h|h|h|h)|h<;>subst h<;>decide
 intro k hk i hi
 match k,hk with
 |0,_=>
  match i,hi with
  |0,_=>exact⟨by show 6<=1048576;decide,fun j hj=>key _ (.inl (aK hj))⟩
  |1,_=>exact⟨by show 1<=1048576;decide,fun j hj=>key _ (.inr (aK hj))⟩
 |1,_=>exact absurd hi (Nat.not_lt_zero _)
end Go.Xw
namespace Go.Proofs
open Go.Xw
set_option maxRecDepth 100000
set_option maxHeartbeats 4000000
attribute [local irreducible] ax aE
theorem zo (w0:World):
  bN Tryz.prog 119 [] w0 (fun v w=>∃D:ku,v=D.v/\Ed D.ms/\Hp w0 w [KM D]):=by
 refine eu Tryz.Qo ?_;intro C hp;skip;refine bP hp ?_;intro w b0 hx hp;refine az ?_
 refine lX hp kf [(⟨12,0,0⟩:dK),⟨2,0,0⟩,⟨8,0,0⟩,⟨2,2,0⟩,⟨0,1,0⟩,⟨2,2,0⟩] ?_;intro w c1 hx hp;refine az ?_
 refine lX hp n7 [(⟨0,1,0⟩:pQ),⟨1,0,0⟩,⟨3,0,0⟩] ?_;intro w c2 hx hp;refine az ?_
 refine lX hp kf [(⟨2,2,0⟩:dK)] ?_;intro w c3 hx hp;refine az ?_
 refine r7 hp BN [(⟨2,[⟨12,0,0⟩,⟨2,0,0⟩,⟨8,0,0⟩,⟨2,2,0⟩,⟨0,1,0⟩,⟨2,2,0⟩],some ⟨c1,0,none⟩,6⟩:qJ),⟨1,[⟨2,2,0⟩],some ⟨c3,0,none⟩,1⟩] rfl rfl rfl rfl (s:=2) rfl (by decide) (by infer_instance) (by rfl) (by rfl) (by rfl) (by decide) ?_;intro w c4 hx hp;refine az ?_
 refine bP hp ?_;intro w b2 hx hp;refine az ?_;refine aW hp ?_;intro w hp;refine az ?_
 refine lX hp n7 [(⟨0,1,0⟩:pQ),⟨1,0,0⟩] ?_;intro w c5 hx hp;refine az ?_;refine gG hp ?_;intro w _ hx hp;refine az ?_
 rename_i c6
 refine r7 hp ke [(⟨0,0,[0,1],some ⟨c6,0,none⟩,2⟩:dO)] rfl rfl rfl rfl (s:=3) rfl (by decide) (by infer_instance) (by rfl) (by rfl) (by rfl) (by decide) ?_;intro w c7 hx hp;refine az ?_
 refine bP hp ?_;intro w b3 hx hp;refine az ?_;(repeat(first|(refine ah ?_;refine aI hp ?_)|(refine aH ?_;refine aW hp ?_;intro w hp;refine az ?_)))
 refine lX hp bm.cs [Tm c1 c2 c3 c4,Tn c5 c6 c7] ?_;intro w c8 hx hp;refine az ?_;refine aW hp ?_;intro w hp;refine az ?_;refine iD hp rfl ?_
 have h:=(hp.f5.f2.f2.f5.f5.f5.f8.f7.f8.f9).tk 8
 have h:Hp w0 w (tY [WI c1,WJ c3]::_):=NA (x:=WI c1) (y:=WJ c3) h
 have h:=(Nz (Ho (qK h.f1))).f1.f1.f2.f3
 have h:Hp w0 w (mS (Tm c1 c2 c3 c4)::_):=oH (x:=Tm c1 c2 c3 c4) h
 have h:=(NB (x:=⟨0,0,[0,1],some ⟨c6,0,none⟩,2⟩) (h.f3.f2.f3)).f1
 have h:=(SF (Ho (ry h))).f1.f2.f2.f3
 have h:Hp w0 w (mS (Tn c5 c6 c7)::_):=oH (x:=Tn c5 c6 c7) h
 have h:=zn (D:=⟨[Tm c1 c2 c3 c4,Tn c5 c6 c7],some ⟨c8,0,none⟩,2⟩) (KW h.f1).f1
 exact⟨⟨[Tm c1 c2 c3 c4,Tn c5 c6 c7],some ⟨c8,0,none⟩,2⟩,rfl,WK _ _ _ _ _ _ _,h⟩
theorem KX {w0 w:World}{L:List bh}{p:Nat}{a:Option Addr}{n c:Nat}{code:List Int}(hR:Rd w0 a 1 xt code)(hn:code.length=n)(x:bm)(hl:x.sg.length<=30)(m:Nat)(hm:m<=16)[nV w0 L x](hp:Hp w0 w (fv p a n c::L)):
  bN Tryz.prog 61 [.pointer (some ⟨p,0,none⟩),x.v,.int .i64 ((m:Nat):Int)] w (fun v w'=>∃(R:List (cL Int)) (b:Option Addr) (c':Nat),(v= .slice b R.length c'/\R.length=m/\∀i,i<R.length->(R.getD i default).ins.length=(ee x.n 0).length)/\Hp w0 w' (rO 31 1 jl b c' R::cD 3 1 eI R::fv p a n c::L)):=by
 have sE:=po x.n.sg 0
 have sE:(ee x.n 0).length<=x.sg.length:=sE
 refine vJ Tryz.Vd ?_;intro C
 refine bP hp ?_;intro w b4 hx hp;refine az ?_
 refine r7 hp (jl (α:=Int)) ([]:List (cL Int)) rfl rfl rfl rfl (s:=1) rfl (by decide) (by infer_instance) (by rfl) (by rfl) (by rfl) (by decide) ?_;intro w b7 hx hp;refine az ?_;refine aI hp ?_
 refine cy Tryz.func28 (dJ x 0 _ hp.mod hl) ?_;rintro _ w ⟨bp,cp,rfl,hq⟩;have hx:=hq.x;have hp:=hp.bJ hq;refine az ?_
 refine jv [0,2,7,8,9] (fun(i:Nat) (R:List (cL Int)) (b:Option Addr) (c':Nat)=>[(0,.pointer (some ⟨p,0,none⟩)),(2,.int .i64 ((m:Nat):Int)),(7,.slice b R.length c'),(8,.int .i64 (((ee x.n 0).length:Nat):Int)),(9,.int .i64 (i:Int))])
  (fun i R b c' w'=>(i<=m/\R.length=i/\∀t,t<R.length->(R.getD t default).ins.length=(ee x.n 0).length)/\Hp w0 w' (fv p a n c::rO 31 1 jl b c' R::cD 3 1 eI R::L)) (fun i _ _ _=>m-i) 0 [] _ _ rfl ⟨⟨by omega,rfl,fun t ht=>absurd ht (Nat.not_lt_zero _)⟩,?_⟩ ?_
 ·have hp:=(hp.drop.f1.drop).f1
  exact(rC (α:=Int) (e:=3) (s:=1) (enc:=eI) hp).f2.f2
 clear hp
 rintro i R b c' w1 ⟨⟨hi,fF,fP⟩,hp⟩ IH C
 refine bL ?_
 apply ae<;>intro bD
 ·have aF:i<m:=by omega
  refine aN ?_;refine gG hp ?_;intro w _ hx hp;refine az ?_
  refine jv [0,2,7,8,9,10,11] (fun(j:Nat) (N:List Int) (na:Option Addr) (nc:Nat)=>[(0,.pointer (some ⟨p,0,none⟩)),(2,.int .i64 ((m:Nat):Int)),(7,.slice b R.length c'),(8,.int .i64 (((ee x.n 0).length:Nat):Int)),(9,.int .i64 (i:Int)),(10,.slice na N.length nc),(11,.int .i64 (j:Int))])
   (fun j N na nc w'=>(j<=(ee x.n 0).length/\N.length=j)/\Hp w0 w' (fv p a n c::rO 3 1 eI na nc N::rO 31 1 jl b c' R::cD 3 1 eI R::L)) (fun j _ _ _=>(ee x.n 0).length-j) 0 [] _ _ rfl ⟨⟨by omega,rfl⟩,hp.f1⟩ ?_
  clear hp
  rintro j N na nc w1 ⟨⟨hj,Tl⟩,hp⟩ kE C
  refine bL ?_
  apply ae<;>intro jK
  ·have zf:j<(ee x.n 0).length:=by omega
   refine aN ?_
   refine cy Tryz.func62 (cg hR hn hp 16) ?_;rintro _ w ⟨z,⟨rfl,_,hz⟩,hp⟩;refine az ?_;refine gG hp ?_;intro w _ hx hp;refine az ?_
   refine gT hp ?_;intro n2 c2 w hp bZ;refine az ?_
   exact kE (j+1) (N++[z]) n2 c2 _ _ _ (by omega) rfl ⟨⟨by omega,by rw[List.length_append,Tl];rfl⟩,hp.drop⟩
  ·refine aM ?_
   obtain rfl:j=(ee x.n 0).length:=by omega
   clear kE
   refine lX hp (jl (α:=Int)) [(⟨N,na,nc⟩:cL Int)] ?_;intro w bl hx hp;refine az ?_
   refine gT hp ?_;intro b2 c2 w hp bZ;refine az ?_
   have hp:=(rD (y:=(⟨N,na,nc⟩:cL Int)) (hp.drop.f2.f1.f3.f3)).f2.f2
   refine IH (i+1) (R++[(⟨N,na,nc⟩:cL Int)]) b2 c2 _ _ _ (by omega) rfl ⟨⟨by omega,by rw[List.length_append,fF];rfl,fun t ht=> ?_⟩,hp⟩
   by_cases Ku:t<R.length
   ·rw[du Ku];exact fP t Ku
   ·rw[List.length_append,List.length_singleton] at ht
    rw[show t=R.length by omega,List.getD_eq_getElem?_getD,List.getElem?_concat_length]
    exact Tl
 ·refine aM ?_;refine aq ?_
  obtain rfl:i=m:=by omega
  exact⟨R,b,c',⟨rfl,fF,fP⟩,hp.f2.f2⟩
end Go.Proofs
end
