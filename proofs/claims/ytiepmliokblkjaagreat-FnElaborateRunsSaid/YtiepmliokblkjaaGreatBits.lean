/- Texts that belong together; each under its stated conditions. -/
import Derived.Test.YtiepmliokblkjaaGreatCore
import Derived.Laws.BitsAllLaws
import Derived.Laws.BitsLemmas
import Derived.IntWalk
set_option linter.all false
section
namespace Go.Xw
open Go.RowKit
theorem mC (a:Addr)(i j:Nat):(a.add i).add j=a.add (i+j):=by
 unfold Addr.add
 by_cases hi:i=0<;>by_cases hj:j=0<;>simp[hi,hj,Nat.add_assoc]
theorem tA (a:Addr)(n:Nat):(a.add n).block=a.block:=by unfold Addr.add;split<;>rfl
def Sl (w:World)(a:Option Addr)(n sz:Nat)(f:Nat->Nat->Value):Prop:=
 (0<n->a≠none)/\∀i j,i<n->j<sz->w.cell? ((aE a sz (i:Int)).add j)=some (f i j)
theorem Sl.ext {w w':World}{a:Option Addr}{n sz:Nat}{f:Nat->Nat->Value}(h:Sl w a n sz f)(hx:Ext w w'):Sl w' a n sz f:=
 ⟨h.1,fun i j hi hj=>hx.cell (h.2 i j hi hj)⟩
theorem Sl.nil (w:World)(sz:Nat)(f:Nat->Nat->Value)(a:Option Addr):Sl w a 0 sz f:=⟨fun h=>absurd h (by omega),fun i j hi=>absurd hi (by omega)⟩
theorem Sl.congr {w:World}{a:Option Addr}{n sz:Nat}{f g:Nat->Nat->Value}(h:Sl w a n sz f)(hfg:∀i j,i<n->j<sz->f i j=g i j):Sl w a n sz g:=
 ⟨h.1,fun i j hi hj=>(h.2 i j hi hj).trans (by rw[hfg i j hi hj])⟩
theorem Sl.at_ {w:World}{a:Option Addr}{n sz:Nat}{f:Nat->Nat->Value}(h:Sl w a n sz f){z:Int}{j:Nat}(h0:0<=z)(h1:z<n)(hj:j<sz):
  w.cell? (jn (aE a sz z) j)=some (f z.toNat j):=by
 have h2:=h.2 z.toNat j (by omega) hj
 rw[iP]
 have:((z.toNat:Nat):Int)=z:=Int.toNat_of_nonneg h0
 rw[this] at h2
 exact h2
theorem Sl.at0 {w:World}{a:Option Addr}{n sz:Nat}{f:Nat->Nat->Value}(h:Sl w a n sz f){z:Int}(h0:0<=z)(h1:z<n)(hj:0<sz):
  w.cell? (aE a sz z)=some (f z.toNat 0):=by
 have h2:=h.at_ h0 h1 hj
 rw[iP] at h2
 simpa [Addr.add] using h2
def eI (x:Int):List Value:=[.int .i64 x]
def xt (x:Int):List Value:=[.int .u8 x]
def eB (x:Bool):List Value:=[.bool x]
def gh (x:Int×Int):List Value:=[.int .i64 x.1,.int .i64 x.2]
def fL {α:Type}[Inhabited α](enc:α->List Value)(L:List α):Nat->Nat->Value:=fun i j=>match sB (enc (L.getD i default)) j with
 |some v=>v
 |none=>undef
theorem Sl.sub {w:World}{a:Option Addr}{n sz c lo hi:Nat}{f:Nat->Nat->Value}(h:Sl w a n sz f)(h1:lo<=hi)(h2:hi<=n)(hc:n<=c):Sl w (nk a c sz lo) (hi-lo) sz fun i j=>f (lo+i) j:=by
 unfold nk
 split
 ·rename_i he
  have:hi-lo=0:=by omega
  rw[this]
  exact Sl.nil _ _ _ _
 ·cases a with
  |none=>
   have hn:¬0<n:=fun hn=>h.1 hn rfl
   have:hi-lo=0:=by omega
   rw[this]
   exact Sl.nil _ _ _ _
  |some a=>
   refine⟨fun _=>by simp,fun i j hi hj=> ?_⟩
   have h3:=h.2 (lo+i) j (by omega) hj
   rw[<-h3]
   congr 1
   simp only[aE,Option.getD_some,Option.map_some,Int.toNat_natCast,mC,Nat.add_mul]
theorem LB {α:Type}[Inhabited α](enc:α->List Value)(L:List α)(lo i j:Nat):fL enc L (lo+i) j=fL enc (L.drop lo) i j:=by
 simp only[fL,List.getD_eq_getElem?_getD,List.getElem?_drop]
theorem LC {α:Type}[Inhabited α](enc:α->List Value)(L:List α){hi i:Nat}(j:Nat)(h:i<hi):fL enc L i j=fL enc (L.take hi) i j:=by
 simp only[fL,List.getD_eq_getElem?_getD,List.getElem?_take,if_pos h]
theorem Sl.NL {α:Type}[Inhabited α]{enc:α->List Value}{w:World}{a:Option Addr}{sz c:Nat}{L:List α}(h:Sl w a L.length sz (fL enc L)){hi:Nat}(h2:hi<=L.length)(hc:L.length<=c):
  Sl w (nk a c sz 0) (L.take hi).length sz (fL enc (L.take hi)):=by
 have h3:=h.sub (lo:=0) (c:=c) (Nat.zero_le hi) h2 hc
 rw[List.length_take,Nat.min_eq_left h2]
 exact h3.congr fun i j hi hj=>by rw[Nat.zero_add];exact LC enc L j (by omega)
theorem Sl.TO {α:Type}[Inhabited α]{enc:α->List Value}{w:World}{a:Option Addr}{sz c:Nat}{L:List α}(h:Sl w a L.length sz (fL enc L)){lo:Nat}(h2:lo<=L.length)(hc:L.length<=c):
  Sl w (nk a c sz lo) (L.drop lo).length sz (fL enc (L.drop lo)):=by
 have h3:=h.sub (hi:=L.length) (c:=c) h2 (Nat.le_refl _) hc
 rw[List.length_drop]
 exact h3.congr fun i j hi hj=>LB enc L lo i j
def dk {α:Type}(w:World)(B:Nat)(e:TypeId)(sz:Nat)(enc:α->List Value)(a:Option Addr)(c:Nat)(L:List α):Prop:=
 w.ownsRow B e sz (.slice a L.length c) L.length (L.flatMap enc)
def lP (a:Option Addr):Option Nat:=a.map (·.block)
section
variable {α:Type} {w w':World} {B:Nat} {e:TypeId} {sz:Nat} {enc:α->List Value} {a:Option Addr} {c:Nat} {L:List α}
theorem mD (a:Option Addr)(n c:Nat):Value.ownBlock (.slice a n c)=lP a:=by cases a<;>rfl
theorem dk.lt (h:dk w B e sz enc a c L){k:Nat}(hk:lP a=some k):B<=k/\k<w.heap.size:=
 World.ownsRow.lt h k (by rw[mD];exact hk)
theorem dk.kept {row:Option Nat}(h:dk w B e sz enc a c L)(hg:w.grownBy w' row)(fD:lP a=none\/lP a≠row):dk w' B e sz enc a c L:=
 World.ownsRow.kept h hg (by rw[mD];exact fD)
theorem dk.ext (h:dk w B e sz enc a c L)(hx:Ext w w'):dk w' B e sz enc a c L:=by
 refine h.kept (row:=none) ⟨hx.os,hx.tape,hx.output,hx.size,fun k hk _=>Below.block hx k hk⟩ ?_
 cases hb:lP a<;>simp
theorem dk.mono {B':Nat}(h:dk w B e sz enc a c L)(hB:B'<=B):dk w B' e sz enc a c L:=by
 refine⟨h.1,?_⟩
 rcases h.2 with h2|⟨g,cap,cur,hv,hb,r⟩
 ·exact .inl h2
 ·exact .inr ⟨g,cap,cur,hv,by omega,r⟩
theorem dk.nil (w:World)(B:Nat)(e:TypeId)(sz:Nat)(enc:α->List Value):dk w B e sz enc none 0 ([]:List α):=by
 have:=World.ownsRow_nil w B e sz
 exact this
theorem dk.form (h:dk w B e sz enc a c L):(a=none/\L=[]/\c=0)\/∃g,a=some ⟨g,0,none⟩/\L.length<=c/\B<=g:=by
 rcases h.2 with⟨h1,h2⟩|⟨g,cap,cur,hv,hb,hg,hn,hc,_⟩
 ·injection h1 with h3 h4 h5
  exact .inl ⟨h3,List.length_eq_zero_iff.1 h2,h5⟩
 ·injection hv with h3 h4 h5
  subst h5
  exact .inr ⟨g,h3,hn,hb⟩
theorem dk.cap (h:dk w B e sz enc a c L):L.length<=c:=by
 rcases h.form with⟨_,rfl,_⟩|⟨g,_,h,_⟩
 ·simp
 ·exact h
theorem xu {L:List α}(hz:∀x,(enc x).length=sz):∀{i j:Nat} {x:α},L[i]?=some x->j<sz->(L.flatMap enc)[i*sz+j]?=(enc x)[j]?:=by
 induction L with
 |nil=>intro i j x h;simp at h
 |cons y L ih=>
  intro i j x h hj
  cases i with
  |zero=>
   simp at h;subst h
   simp only[List.flatMap_cons,Nat.zero_mul,Nat.zero_add]
   rw[List.getElem?_append_left (by rw[hz];exact hj)]
  |succ i=>
   simp only[List.flatMap_cons]
   rw[List.getElem?_append_right (by rw[hz,Nat.succ_mul];omega),hz]
   rw[show(i+1)*sz+j-sz=i*sz+j by rw[Nat.succ_mul];omega]
   exact ih (by simpa using h) hj
theorem dk.sl [Inhabited α](h:dk w B e sz enc a c L)(hz:∀x,(enc x).length=sz):Sl w a L.length sz (fL enc L):=by
 rcases h.form with⟨rfl,rfl,rfl⟩|⟨g,rfl,hn,hb⟩
 ·exact Sl.nil _ _ _ _
 ·refine⟨fun _=>by simp,fun i j hi hj=> ?_⟩
  have hc:=World.ownsRow.cells h (g:=g) rfl (i*sz+j)
  have hx:L[i]?=some (L[i]'hi):=List.getElem?_eq_getElem hi
  have hf:=xu (enc:=enc) (sz:=sz) hz hx hj
  have bD:j<(enc (L[i]'hi)).length:=by rw[hz];exact hj
  rw[List.getElem?_eq_getElem bD] at hf
  have hq:=hc _ hf
  have ha:(aE (some ⟨g,0,none⟩) sz (i:Int)).add j=(⟨g,0,none⟩:Addr).add (i*sz+j):=by
   simp only[aE,Option.getD_some,Int.toNat_natCast]
   rw[mC]
  rw[ha,hq]
  simp only[fL,kV,List.getD_eq_getElem?_getD,hx,Option.getD_some,List.getElem?_eq_getElem bD]
end
theorem jZ.cell {w:World}{b:Nat}{t:TypeId}{cs:List Value}(h:jZ w b t cs)(i:Nat):w.cell? ⟨b,i,none⟩=cs[i]?:=by
 simp[World.cell?,show w.heap[b]?=_ from h]
theorem jZ.frozen {w:World}{b:Nat}{t:TypeId}{cs:List Value}(h:jZ w b t cs)(i:Nat):w.frozen? ⟨b,i,none⟩=false:=by
 simp[World.frozen?,show w.heap[b]?=_ from h]
theorem jZ.XW {w:World}{b:Nat}{t:TypeId}{cs:List Value}(h:jZ w b t cs)(i:Nat)(u:Value):jZ (w.setCell ⟨b,i,none⟩ u) b t (cs.set i u):=by
 unfold jZ at h⊢
 simp[World.setCell,Array.getElem?_modify,h]
theorem jZ.grown {w w':World}{b:Nat}{t:TypeId}{cs:List Value}{row:Option Nat}(h:jZ w b t cs)(hg:w.grownBy w' row)(fD:some b≠row):jZ w' b t cs:=
 (hg.block b h.lt fD).trans h
theorem Sl.grown {w w':World}{a:Option Addr}{n sz:Nat}{f:Nat->Nat->Value}{row:Option Nat}(h:Sl w a n sz f)(hg:w.grownBy w' row)(fD:lP a=none\/lP a≠row):Sl w' a n sz f:=by
 refine⟨h.1,fun i j hi hj=> ?_⟩
 refine hg.cell (h.2 i j hi hj) ?_
 rw[tA]
 cases a with
 |none=>exact absurd rfl (h.1 (by omega))
 |some a=>
  simp only[aE,Option.getD_some,tA]
  rcases fD with fD|fD
  ·simp[lP] at fD
  ·simpa [lP] using fD
section
variable {P:Program} {tt:TT} {t:TypeId} {w:World}
theorem xv (aS:gJ P tt)(ha:mA tt t=some false){ad:Addr}{v:Value}(h:w.cell? ad=some v):(loadVar t ad).run P w= .ok v w:=by
 simp[loadVar,rb aS ha,h]
theorem CU (aS:gJ P tt)(ha:mA tt t=some true){i:TI}(hi:tl tt t=some i){ad:Addr}{l:List Value}(hl:l.length=i.size)
  (h:∀j u,l[j]?=some u->w.cell? (ad.add j)=some u):(loadVar t ad).run P w= .ok (.agg ⟨l⟩) w:=by
 have hc:=run_loadCells_list (P:=P) (w:=w) ad l h
 simp only[loadVar,Sem.run_bind,rb aS ha,Result.andThen_ok,if_true,fi aS hi]
 rw[<-hl,hc]
 rfl
theorem Pc (aS:gJ P tt)(ha:mA tt t=some false){b o:Nat}{tb:TypeId}{cs:List Value}{v:Value}(h:jZ w b tb cs)(hv:sB cs o=some v):
  (loadVar t ⟨b,o,none⟩).run P w= .ok v w:=xv aS ha (by rw[h.cell,<-kV];exact hv)
theorem LD (aS:gJ P tt)(ha:mA tt t=some true){i:TI}(hi:tl tt t=some i){b o:Nat}{tb:TypeId}{cs l:List Value}(h:jZ w b tb cs)(hv:vA i.size (z7 o cs)=some l):
  (loadVar t ⟨b,o,none⟩).run P w= .ok (.agg ⟨l⟩) w:=by
 obtain⟨h1,h2⟩:=xj hv
 rw[xk] at h1 h2
 refine CU aS ha hi (by rw[h1,List.length_take];omega) fun j u hu=> ?_
 have:(⟨b,o,none⟩:Addr).add j=⟨b,o+j,none⟩:=by rw[<-iP];rfl
 rw[this,h.cell]
 rw[h1,List.getElem?_take] at hu
 split at hu
 ·rw[List.getElem?_drop] at hu;exact hu
 ·cases hu
theorem TP (aS:gJ P tt)(ha:mA tt t=some false){a:Option Addr}{n sz:Nat}{f:Nat->Nat->Value}{z:Int}(h:Sl w a n sz f)(h0:0<=z)(h1:z<n)(hj:0<sz):
  (loadVar t (aE a sz z)).run P w= .ok (f z.toNat 0) w:=xv aS ha (h.at0 h0 h1 hj)
theorem ET (aS:gJ P tt)(ha:mA tt t=some false){a:Option Addr}{n sz:Nat}{f:Nat->Nat->Value}{i:Nat}(h:Sl w a n sz f)(h1:i<n)(hj:0<sz):
  (loadVar t (aE a sz (i:Int))).run P w= .ok (f i 0) w:=by
 have:=TP (t:=t) (z:=(i:Int)) aS ha h (by omega) (by omega) hj
 simpa using this
theorem TQ (aS:gJ P tt)(ha:mA tt t=some false){a:Option Addr}{n sz:Nat}{f:Nat->Nat->Value}{z:Int}{j:Nat}(h:Sl w a n sz f)(h0:0<=z)(h1:z<n)(hj:j<sz):
  (loadVar t (jn (aE a sz z) j)).run P w= .ok (f z.toNat j) w:=xv aS ha (h.at_ h0 h1 hj)
end
end Go.Xw
end
section
namespace Go.Xw
open Go.RowKit
theorem F7.sy {ids:List Nat}{w w':World}(h:Ext w w'):F7 ids w w':=⟨h.os,h.tape,h.output,h.size,fun k hk _=>Below.block h k hk⟩
theorem F7.xw {a:Option Addr}{w w':World}(h:w.grownBy w' (lP a)):F7 (lP a).toList w w':=
 ⟨h.os,h.tape,h.output,h.size,fun k hk hn=>h.block k hk fun he=>hn (by rw[<-he];simp)⟩
theorem F7.HI {b:Nat}{w w':World}(h:w.grownBy w' (some b)):F7 [b] w w':=
 ⟨h.os,h.tape,h.output,h.size,fun k hk hn=>h.block k hk fun he=>hn (by injection he with he;simp[he])⟩
theorem dk.st {α:Type}{w w':World}{B:Nat}{e:TypeId}{sz:Nat}{enc:α->List Value}{a:Option Addr}{c:Nat}{L:List α}(h:∀k,k∈(lP a).toList->w'.heap[k]?=w.heap[k]?)(ho:dk w B e sz enc a c L):dk w' B e sz enc a c L:=by
 refine⟨ho.1,?_⟩
 rcases ho.2 with hn|⟨g,cap,cur,hv,hb,XX,rest⟩
 ·exact .inl hn
 ·refine .inr ⟨g,cap,cur,hv,hb,?_,rest⟩
  injection hv with h1 h2 h3
  subst h1
  rw[h g (by simp[lP])]
  exact XX
def rO {α:Type}(e:TypeId)(sz:Nat)(enc:α->List Value)(a:Option Addr)(c:Nat)(L:List α):bh where
 ids:=(lP a).toList
 P w:=dk w 0 e sz enc a c L
 st:=dk.st
 lt:=fun ho k hk=>by simp at hk;exact(ho.lt hk).2
def rQ (Rs:List bh):bh where
 ids:=Rs.flatMap bh.ids
 P w:=∀R,R∈Rs->R.P w
 st:=fun h hP R hR=>R.st (fun k hk=>h k (List.mem_flatMap.2 ⟨R,hR,hk⟩)) (hP R hR)
 lt:=fun hP k hk=>by
  obtain⟨R,hR,hk⟩:=List.mem_flatMap.1 hk
  exact R.lt (hP R hR) k hk
section
variable {w0 w w':World} {L M Rs:List bh} {R:bh}
theorem Hp.pack (h:Hp w0 w (Rs++L)):Hp w0 w (rQ Rs::L):=by
 refine⟨h.x,?_,?_,fun R hR=> ?_⟩
 ·have:=h.nd;rw[List.flatMap_append] at this;exact this
 ·have:=h.lo;rw[List.flatMap_append] at this;exact this
 ·rcases List.mem_cons.1 hR with rfl|hR
  ·exact fun Q hQ=>h.h Q (List.mem_append_left _ hQ)
  ·exact h.h R (List.mem_append_right _ hR)
theorem Hp.unpack (h:Hp w0 w (rQ Rs::L)):Hp w0 w (Rs++L):=by
 refine⟨h.x,?_,?_,fun R hR=> ?_⟩
 ·have:=h.nd;rw[List.flatMap_append];exact this
 ·have:=h.lo;rw[List.flatMap_append];exact this
 ·rcases List.mem_append.1 hR with hR|hR
  ·exact h.h (rQ Rs) (by simp) R hR
  ·exact h.h R (List.mem_cons_of_mem _ hR)
theorem Hp.NM (h:Hp w0 w (rQ Rs::L)){i:Nat}(hi:Rs[i]?=some R):∃Q,Hp w0 w (R::Q::L)/\∀w' L' R',Hp w0 w' (R'::Q::L')->Hp w0 w' (rQ (Rs.set i R')::L'):=by
 have bD:=(List.getElem?_eq_some_iff.1 hi).1
 have e1:Rs=Rs.take i++R::Rs.drop (i+1):=by
  have h2:=(List.getElem?_eq_some_iff.1 hi).2
  rw[<-h2,<-List.drop_eq_getElem_cons bD,List.take_append_drop]
 have e2:∀Q,Rs.set i Q=Rs.take i++Q::Rs.drop (i+1):=fun Q=>by rw[List.set_eq_take_append_cons_drop,if_pos bD]
 refine⟨rQ (Rs.take i++Rs.drop (i+1)),?_,fun w' L' R' hq=> ?_⟩
 ·have h3:=h.unpack
  rw[e1,List.append_assoc] at h3
  have h4:Hp w0 w ((Rs.take i++Rs.drop (i+1))++(R::L)):=h3.perm (by
   rw[List.append_assoc]
   exact(List.Perm.append_left _ (by rw[List.cons_append];exact List.perm_middle.symm)))
  exact h4.pack.f1
 ·refine Hp.pack ?_
  rw[e2,List.append_assoc]
  have h5:Hp w0 w' ((Rs.take i++Rs.drop (i+1))++(R'::L')):=hq.f1.unpack
  refine h5.perm ?_
  rw[List.append_assoc]
  exact(List.Perm.append_left _ (by rw[List.cons_append];exact List.perm_middle))
theorem Hp.eH {α:Type}{e:TypeId}{sz:Nat}{enc:α->List Value}{a:Option Addr}{c:Nat}{X:List α}(h:Hp w0 w L)(hx:Ext w w')(ho:dk w' w.heap.size e sz enc a c X):Hp w0 w' (rO e sz enc a c X::L):=
 h.bJ ⟨hx,by cases hk:lP a<;>simp[rO,hk],fun k hk=>by
  simp[rO] at hk;exact(ho.lt hk).1,fun R hR=>by simp at hR;subst hR;exact ho.mono (Nat.zero_le _)⟩
theorem Hp.HJ {b:Nat}{t:TypeId}{cs w9:List Value}(h:Hp w0 w (rB b t cs::L))(hk:jZ w' b t w9)(g:w.grownBy w' (some b)):Hp w0 w' (rB b t w9::L):=
 h.Tu (F7.HI g) hk (fun k hk=> .inl hk) (by simp[rB])
theorem Hp.HK {α:Type}{e:TypeId}{sz:Nat}{enc:α->List Value}{a:Option Addr}{c:Nat}{X X':List α}(h:Hp w0 w (rO e sz enc a c X::L))(ho:dk w' 0 e sz enc a c X')(g:w.grownBy w' (lP a)):Hp w0 w' (rO e sz enc a c X'::L):=
 h.Tu (F7.xw g) ho (fun k hk=> .inl hk) (by cases hk:lP a<;>simp[rO,hk])
theorem Hp.own {α:Type}{e:TypeId}{sz:Nat}{enc:α->List Value}{a:Option Addr}{c:Nat}{X:List α}(h:Hp w0 w (rO e sz enc a c X::L)):dk w 0 e sz enc a c X:=h.g0
end
theorem dk.pre {α:Type}{enc:α->List Value}{e:TypeId}{s:Nat}{a:Option Addr}{c B:Nat}{w:World}{X Y:List α}(h:dk w B e s enc a c (X++Y))(hl:∀x,(enc x).length=s):dk w B e s enc a c X:=by
 unfold dk at h⊢
 have e1:∀Z:List α,(Z.flatMap enc).length=Z.length*s:=fun Z=>by
  induction Z with
  |nil=>simp
  |cons z Z ih=>simp[ih,hl,Nat.succ_mul];omega
 refine⟨by simp[e1],?_⟩
 rcases h.2 with hn|⟨g,cap,cur,hv,hb,XX,h1,h2,h3,h4⟩
 ·left
  simp only[Value.slice.injEq] at hn⊢
  obtain⟨⟨h1,h2,h3⟩,h4⟩:=hn
  simp at h4
  exact⟨⟨h1,by simp[h4.1],h3⟩,by simp[h4.1]⟩
 ·simp only[Value.slice.injEq] at hv
  obtain⟨rfl,_,rfl⟩:=hv
  refine .inr ⟨g,c,cur,rfl,hb,XX,by simp at h1;omega,h2,h3,?_⟩
  have h5:=congrArg (List.take (X.length*s)) h4
  rw[List.take_take,List.flatMap_append,List.take_append_of_le_length (by rw[e1];exact Nat.le_refl _),List.take_of_length_le (l:=X.flatMap enc) (by rw[e1];exact Nat.le_refl _)] at h5
  rw[Nat.min_eq_left (by simp[Nat.add_mul])] at h5
  exact h5
theorem Hp.XY {α:Type}{enc:α->List Value}{e:TypeId}{s:Nat}{a:Option Addr}{c:Nat}{w0 w:World}{L:List bh}{X Y:List α}(h:Hp w0 w (rO e s enc a c (X++Y)::L))(hl:∀x,(enc x).length=s):Hp w0 w (rO e s enc a c X::L):=
 h.Tu ⟨rfl,rfl,rfl,Nat.le_refl _,fun _ _ _=>rfl⟩ (dk.pre h.g0 hl) (fun k hk=> .inl hk) (by cases hk:Go.Xw.lP a<;>simp[rO,hk])
theorem HL (a:Option Addr)(c s:Nat):nk a c s 0=a:=by
 unfold nk
 split
 ·rfl
 ·cases a<;>simp[Addr.add]
class Rd (w:World)(a:Option Addr){α:outParam Type}[Inhabited α](s:outParam Nat)(enc:outParam (α->List Value))(X:outParam (List α)):Prop where
 h:Sl w a X.length s (fL enc X)
class gm (w0:World)(L:List bh)(a:Option Addr){α:outParam Type}[Inhabited α](s:outParam Nat)(enc:outParam (α->List Value))(X:outParam (List α)):Prop where
 h:∀w,Hp w0 w L->Sl w a X.length s (fL enc X)
theorem bW {w0 w:World}{L:List bh}(hp:Hp w0 w L){a:Option Addr}{α:Type}[Inhabited α]{s:Nat}{enc:α->List Value}{X:List α}[h:gm w0 L a s enc X](hn:0<X.length):a≠none:=(h.h w hp).1 hn
end Go.Xw
end
section
namespace Go.Xw
theorem qm (z:Int):((BitVec.ofInt 64 z).toNat:Int)=z%18446744073709551616:=by
 rw[BitVec.toNat_ofInt]
 have:(0:Int)<=z%18446744073709551616:=Int.emod_nonneg _ (by decide)
 simp
 omega
theorem ew (z:Int)(k:Nat)(hk:k<=62):bits .and .i64 z (2^k-1)=z%2^k:=by
 have hp:(2:Int)^k=((2^k:Nat):Int):=by simp
 have oh:0<2^k:=Nat.two_pow_pos k
 have hle:2^k<=2^62:=Nat.pow_le_pow_right (by decide) hk
 have hm:(BitVec.ofInt 64 ((2:Int)^k-1)).toNat=2^k-1:=by
  have h:=qm ((2:Int)^k-1)
  rw[hp] at h⊢
  omega
 show IntKind.i64.wrap (((BitVec.ofInt 64 z)&&& (BitVec.ofInt 64 (2^k-1))).toNat:Int)=_
 rw[BitVec.toNat_and,hm,Nat.and_two_pow_sub_one_eq_mod]
 have h1:=qm z
 have h2:(((BitVec.ofInt 64 z).toNat%2^k:Nat):Int)=z%2^k:=by
  rw[Int.natCast_emod,h1,hp]
  have hd:((2^k:Nat):Int)∣18446744073709551616:=by
   have:(2^k:Nat)∣18446744073709551616:=by
    have:(18446744073709551616:Nat)=2^64:=by decide
    rw[this]
    exact Nat.pow_dvd_pow 2 (by omega)
   exact Int.natCast_dvd_natCast.2 this
  exact Int.emod_emod_of_dvd z hd
 rw[h2]
 have h3:0<=z%2^k:=Int.emod_nonneg _ (by rw[hp];omega)
 have h4:z%2^k<2^k:=Int.emod_lt_of_pos _ (by rw[hp];omega)
 rw[hp] at h3 h4⊢
 exact IntWalk.i64_in _ (by omega)
theorem dx (z:Int):bits .and .i64 z 1=z%2:=by
 have:=ew z 1 (by decide)
 simpa using this
theorem xx (z:Int):bits .and .i64 z 3=z%4:=by
 have:=ew z 2 (by decide)
 simpa using this
theorem ofNat_toNat (a:Nat)(ha:a<9223372036854775808):(BitVec.ofInt 64 (a:Int)).toNat=a:=by
 have:=qm (a:Int)
 omega
theorem lS (a b:Nat)(ha:a<9223372036854775808)(hb:b<9223372036854775808):bits .and .i64 (a:Int) (b:Int)=((a&&&b:Nat):Int):=by
 have hx:a&&&b<9223372036854775808:=Nat.lt_of_le_of_lt Nat.and_le_left ha
 show IntKind.i64.wrap ((BitVec.ofInt 64 (a:Int)&&&BitVec.ofInt 64 (b:Int)).toNat:Int)=_
 rw[BitVec.toNat_and,ofNat_toNat a ha,ofNat_toNat b hb]
 exact IntWalk.i64_in _ (by omega)
theorem qn (a b:Nat)(ha:a<9223372036854775808)(hb:b<9223372036854775808):bits .or .i64 (a:Int) (b:Int)=((a|||b:Nat):Int):=by
 have hx:a|||b<9223372036854775808:=Nat.or_lt_two_pow (n:=63) ha hb
 show IntKind.i64.wrap ((BitVec.ofInt 64 (a:Int)|||BitVec.ofInt 64 (b:Int)).toNat:Int)=_
 rw[BitVec.toNat_or,ofNat_toNat a ha,ofNat_toNat b hb]
 exact IntWalk.i64_in _ (by omega)
theorem iR (a b:Nat)(ha:a<9223372036854775808)(hb:b<9223372036854775808):bits .xor .i64 (a:Int) (b:Int)=((a^^^b:Nat):Int):=by
 have hx:a^^^b<9223372036854775808:=Nat.xor_lt_two_pow (n:=63) ha hb
 show IntKind.i64.wrap ((BitVec.ofInt 64 (a:Int)^^^BitVec.ofInt 64 (b:Int)).toNat:Int)=_
 rw[BitVec.toNat_xor,ofNat_toNat a ha,ofNat_toNat b hb]
 exact IntWalk.i64_in _ (by omega)
theorem lT {s t:Nat}(h:s<=t):(2:Int)^s<=2^t:=by
 have:(2:Nat)^s<=2^t:=Nat.pow_le_pow_right (by decide) h
 have h2:((2^s:Nat):Int)<=((2^t:Nat):Int):=Int.ofNat_le.2 this
 simpa using h2
theorem Pd {p m:Int}{s:Nat}(h0:0<=p)(h1:p<2^s)(hm:m=0\/m=1)(hs:s<=61):bits .or .i64 p (m*2^s)=p+m*2^s:=by
 have hp:=lT hs
 have xd:(2:Int)^61=2305843009213693952:=by decide
 obtain⟨p',rfl⟩:=Int.eq_ofNat_of_zero_le h0
 have e2:(2:Int)^s=((2^s:Nat):Int):=by simp
 rw[e2] at h1 hp
 rcases hm with rfl|rfl
 ·rw[Int.zero_mul,show(0:Int)=((0:Nat):Int) from rfl,qn _ _ (by omega) (by omega)];simp
 ·rw[Int.one_mul,e2,qn _ _ (by omega) (by omega),Nat.or_comm,show 2^s|||p'=2^s*1|||p' by rw[Nat.mul_one],<-Nat.two_pow_add_eq_or_of_lt (by omega)]
  omega
theorem xy {p m:Int}{s:Nat}(h0:0<=p)(h1:p<2^s)(hm:m=0\/m=1):0<=p+m*2^s/\p+m*2^s<2^(s+1):=by
 have e:(2:Int)^(s+1)=2^s*2:=Int.pow_succ _ _
 rcases hm with rfl|rfl
 ·rw[Int.zero_mul];omega
 ·rw[Int.one_mul];omega
theorem Jc {a b:Int}(ha:a=0\/a=1)(hb:b=0\/b=1):bits .xor .i64 a b=(if a=b then 0 else 1):=by
 have XZ:=iR 0 0 (by decide) (by decide)
 have X0:=iR 0 1 (by decide) (by decide)
 have X1:=iR 1 0 (by decide) (by decide)
 have X2:=iR 1 1 (by decide) (by decide)
 rcases ha with rfl|rfl<;>rcases hb with rfl|rfl
 ·exact XZ
 ·exact X0
 ·exact X1
 ·exact X2
theorem sG {a b:Int}(ha:a=0\/a=1)(hb:b=0\/b=1):bits .and .i64 a b=(if a=1/\b=1 then 1 else 0):=by
 have XZ:=lS 0 0 (by decide) (by decide)
 have X0:=lS 0 1 (by decide) (by decide)
 have X1:=lS 1 0 (by decide) (by decide)
 have X2:=lS 1 1 (by decide) (by decide)
 rcases ha with rfl|rfl<;>rcases hb with rfl|rfl
 ·exact XZ
 ·exact X0
 ·exact X1
 ·exact X2
end Go.Xw
end
