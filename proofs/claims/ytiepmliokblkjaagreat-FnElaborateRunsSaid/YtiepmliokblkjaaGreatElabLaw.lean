/- The net of a flat module, as plain data; no condition but the stated ones. -/
import Derived.Test.YtiepmliokblkjaaGreatMapLaw
import Derived.Test.YtiepmliokblkjaaGreatLists
set_option linter.all false
namespace Go.Xw
open Go.Proofs
set_option maxHeartbeats 1000000
theorem mem_erase {i:Nat}{l:List Nat}{k:Nat}(h:i∈l):i∈l.eraseIdx k\/i=l.getD k 0:=by
 obtain⟨j,hj,rfl⟩:=List.getElem_of_mem h
 by_cases hk:j=k
 ·right
  subst hk
  rw[List.getD_eq_getElem?_getD,List.getElem?_eq_getElem hj];rfl
 ·left
  rw[List.mem_eraseIdx_iff_getElem]
  exact⟨j,hj,hk,rfl⟩
theorem DE {n:aQ}:∀(f:Nat) (todo out l:List Nat),f=todo.length->rT n f todo out=some l->∀i,i∈todo\/i∈out->i∈l
 |0,todo,out,l,hf,he,i,hi=>by
  simp only[rT,Option.some.injEq] at he
  subst he
  obtain rfl:todo=[]:=List.length_eq_zero_iff.1 hf.symm
  rcases hi with hi|hi
  ·cases hi
  ·exact hi
 |f+1,todo,out,l,hf,he,i,hi=>by
  simp only[rT] at he
  cases hk:todo.findIdx? (iI n todo) with
  |none=>rw[hk] at he;simp at he
  |some k=>
   rw[hk] at he
   have u6:k<todo.length:=(List.findIdx?_eq_some_iff_getElem.1 hk).1
   refine DE f _ _ l (by rw[List.length_eraseIdx_of_lt u6];omega) he i ?_
   rcases hi with hi|hi
   ·rcases mem_erase (k:=k) hi with h|h
    ·exact .inl h
    ·right;rw[h];simp
   ·right;simp[hi]
theorem J3 {n:aQ}{l:List Nat}(h:gQ n=some l){i:Nat}(hi:i<n.aP.length)(hk:aY n (dT n i)≠3):i∈l:=by
 obtain⟨⟨h1,h2⟩,_⟩:=iU h
 rw[ub h1 h2] at h
 exact DE _ _ _ l rfl h i (.inl (by simp[lA,hi,hk]))
def wN (n:aQ)(s:Int):Nat:=(l5 n s).toNat
def jt (p w:Nat):List Int:=(List.range w).map fun k=>2*((p+k:Nat):Int)
theorem oK (p w:Nat):(jt p w).length=w:=by simp[jt]
theorem Fl (p w:Nat):jt p (w+1)=jt p w++[2*((p+w:Nat):Int)]:=by simp[jt,List.range_succ]
theorem H7 {p w:Nat}{k:Int}(h:((p+w:Nat):Int)<=k):∀z,z∈jt p w->aD z k:=fun z hz=>by
 obtain⟨q,hq,rfl⟩:=List.mem_map.1 hz
 rw[List.mem_range] at hq
 unfold aD
 omega
def iV (st:List (List Int)×Nat)(s w:Nat):List (List Int)×Nat:=(st.1.set s (st.1.getD s default++jt st.2 w),st.2+w)
theorem rC {st:List (List Int)×Nat}{s:Nat}(h:s<st.1.length):iV st s 0=st:=by
 have:jt st.2 0=[]:=rfl
 unfold iV
 rw[this,List.append_nil]
 refine Prod.ext ?_ rfl
 refine lY (by simp) fun i hi=> ?_
 rw[cG h]
 split
 ·rename_i he;rw[he]
 ·rfl
theorem rD {st:List (List Int)×Nat}{s w:Nat}(h:s<st.1.length):iV st s (w+1)=((iV st s w).1.set s ((iV st s w).1.getD s default++[2*(((iV st s w).2:Nat):Int)]),(iV st s w).2+1):=by
 unfold iV
 simp only
 rw[List.set_set,cG h,if_pos rfl,Fl,List.append_assoc,Nat.add_assoc]
structure BL (n:aQ)(st:List (List Int)×Nat)(L:Nat->Nat):Prop where
 len:st.1.length=n.sg.length
 row:∀s,s<n.sg.length->(st.1.getD s default).length=L s/\∀z,z∈st.1.getD s default->aD z (st.2:Nat)
 pos:1<=st.2
theorem BL.num {n:aQ}{st:List (List Int)×Nat}{L L':Nat->Nat}(h:BL n st L){s:Nat}(w:Nat)(hs:s<n.sg.length)(hL:∀t,t<n.sg.length->L' t=if t=s then L t+w else L t):BL n (iV st s w) L':=by
 refine⟨by unfold iV;rw[List.length_set];exact h.len,fun t ht=> ?_,by have:=h.pos;show 1<=st.2+w;omega⟩
 have hr:=h.row t ht
 unfold iV
 rw[cG (by rw[h.len];exact hs),hL t ht]
 by_cases Cx:t=s
 ·subst Cx
  rw[if_pos rfl,if_pos rfl,List.length_append,oK,hr.1]
  refine⟨rfl,fun z hz=> ?_⟩
  rcases List.mem_append.1 hz with hz|hz
  ·have:=hr.2 z hz;unfold aD at this⊢;omega
  ·exact H7 (Int.le_refl _) z hz
 ·rw[if_neg Cx,if_neg Cx]
  exact⟨hr.1,fun z hz=>by have:=hr.2 z hz;unfold aD at this⊢;omega⟩
theorem BL.congr {n:aQ}{st:List (List Int)×Nat}{L L':Nat->Nat}(h:BL n st L)(hL:∀t,t<n.sg.length->L' t=L t):BL n st L':=
 ⟨h.len,fun s hs=>by rw[hL s hs];exact h.row s hs,h.pos⟩
def dU (n:aQ)(k:Int):Nat->Nat
 |0=>0
 |i+1=>if aY n (i:Nat)=k then dU n k i+wN n (i:Nat) else dU n k i
def ja (n:aQ):Nat->Nat
 |0=>0
 |j+1=>ja n j+wN n (n.ms.getD j default).out
theorem lC (n:aQ)(k:Int):∀{i j:Nat},i<=j->dU n k i<=dU n k j:=fun{i j} h=>by
 obtain⟨d,rfl⟩:=Nat.le.dest h
 clear h
 induction d with
 |zero=>exact Nat.le_refl _
 |succ d ih=>
  refine Nat.le_trans ih ?_
  show _<=dU n k (i+d+1)
  rw[dU]
  split<;>omega
theorem lD (n:aQ):∀{i j:Nat},i<=j->ja n i<=ja n j:=fun{i j} h=>by
 obtain⟨d,rfl⟩:=Nat.le.dest h
 clear h
 induction d with
 |zero=>exact Nat.le_refl _
 |succ d ih=>
  refine Nat.le_trans ih ?_
  show _<=ja n (i+d+1)
  rw[ja]
  omega
theorem sW {n:aQ}(hm:aV n){s:Int}(h:dr n s):0<=l5 n s/\l5 n s<=4:=by
 unfold dr at h
 exact(hm.sg s.toNat (by omega)).2.1
theorem oL {n:aQ}(hm:aV n){s:Int}(h:dr n s):((wN n s:Nat):Int)=l5 n s:=by
 have:=sW hm h
 unfold wN;omega
theorem bG (n:aQ)(i:Nat):aY n (i:Nat)=(n.sg.getD i default).kind:=by unfold aY;rw[Int.toNat_natCast]
theorem pv (n:aQ)(i:Nat):l5 n (i:Nat)=(n.sg.getD i default).width:=by unfold l5;rw[Int.toNat_natCast]
theorem BM {n:aQ}(hm:aV n)(k:Int):∀i:Nat,i<=n.sg.length->((dU n k i:Nat):Int)=cT (pR (n.sg.take i) k)
 |0,_=>by simp[dU,pR,cT]
 |i+1,hi=>by
  have ih:=BM hm k i (by omega)
  have hw:=oL hm (s:=(i:Nat)) (by unfold dr;omega)
  rw[dU,dm (by omega)]
  by_cases h:aY n (i:Nat)=k
  ·rw[if_pos h,ry (by rw[<-bG];exact h),oI,Int.natCast_add,ih,hw,pv]
  ·rw[if_neg h,yl (by rw[<-bG];exact h),ih]
theorem rE {n:aQ}(hm:aV n)(k:Int):((dU n k n.sg.length:Nat):Int)=cT (ee n k):=by
 rw[BM hm k _ (Nat.le_refl _),List.take_length];rfl
theorem Fm {n:aQ}(hm:aV n):∀j:Nat,j<=n.ms.length->((ja n j:Nat):Int)=pt n j
 |0,_=>by simp[ja,pt]
 |j+1,hj=>by
  have hw:=oL hm (hm.ms j (by omega)).2.2.2.1
  rw[ja,pt,Int.natCast_add,Fm hm j (by omega),hw]
def tj (n:aQ):Nat->List (List Int)×Nat
 |0=>(List.replicate n.sg.length [],1)
 |i+1=>if aY n (i:Nat)=0 then iV (tj n i) i (wN n (i:Nat)) else tj n i
def u9 (n:aQ):Nat->List (List Int)×Nat
 |0=>tj n n.sg.length
 |i+1=>if aY n (i:Nat)=3 then iV (u9 n i) i (wN n (i:Nat)) else u9 n i
def pS (n:aQ):Nat->List (List Int)×Nat
 |0=>u9 n n.sg.length
 |j+1=>iV (pS n j) (n.ms.getD j default).out.toNat (wN n (n.ms.getD j default).out)
theorem BN (n:aQ):∀i:Nat,i<=n.sg.length->BL n (tj n i) (fun s=>if s<i/\aY n (s:Nat)=0 then wN n (s:Nat) else 0)/\(tj n i).2=1+dU n 0 i
 |0,_=>by
  refine⟨⟨by simp[tj],fun s hs=> ?_,Nat.le_refl _⟩,rfl⟩
  have h0:(tj n 0).1.getD s default=[]:=by simp[tj,List.getD_eq_getElem?_getD,hs]
  rw[h0,if_neg (by omega)]
  exact⟨rfl,fun z hz=>by cases hz⟩
 |i+1,hi=>by
  obtain⟨h1,h2⟩:=BN n i (by omega)
  rw[tj,dU]
  by_cases hk:aY n (i:Nat)=0
  ·rw[if_pos hk,if_pos hk]
   refine⟨h1.num _ (by omega) fun t ht=> ?_,by show(tj n i).2+_=_;omega⟩
   by_cases J4:t=i
   ·subst J4
    rw[if_pos ⟨by omega,hk⟩,if_pos rfl,if_neg (by omega),Nat.zero_add]
   ·rw[if_neg J4]
    by_cases bD:t<i/\aY n (t:Nat)=0
    ·rw[if_pos bD,if_pos ⟨by omega,bD.2⟩]
    ·rw[if_neg bD,if_neg (fun h=>bD ⟨by omega,h.2⟩)]
  ·rw[if_neg hk,if_neg hk]
   refine⟨h1.congr fun t ht=> ?_,h2⟩
   by_cases J4:t=i
   ·subst J4
    rw[if_neg (fun h=>hk h.2),if_neg (by omega)]
   ·by_cases bD:t<i/\aY n (t:Nat)=0
    ·rw[if_pos bD,if_pos ⟨by omega,bD.2⟩]
    ·rw[if_neg bD,if_neg (fun h=>bD ⟨by omega,h.2⟩)]
theorem BO (n:aQ):∀i:Nat,i<=n.sg.length->BL n (u9 n i) (fun s=>if aY n (s:Nat)=0\/(s<i/\aY n (s:Nat)=3) then wN n (s:Nat) else 0)/\(u9 n i).2=1+dU n 0 n.sg.length+dU n 3 i
 |0,_=>by
  obtain⟨h1,h2⟩:=BN n n.sg.length (Nat.le_refl _)
  refine⟨h1.congr fun t ht=> ?_,h2⟩
  by_cases hk:aY n (t:Nat)=0
  ·rw[if_pos (.inl hk),if_pos ⟨ht,hk⟩]
  ·rw[if_neg (by rintro(h|h);exact hk h;omega),if_neg (fun h=>hk h.2)]
 |i+1,hi=>by
  obtain⟨h1,h2⟩:=BO n i (by omega)
  rw[u9,dU]
  by_cases hk:aY n (i:Nat)=3
  ·rw[if_pos hk,if_pos hk]
   refine⟨h1.num _ (by omega) fun t ht=> ?_,by show(u9 n i).2+_=_;omega⟩
   by_cases J4:t=i
   ·subst J4
    rw[if_pos (.inr ⟨by omega,hk⟩),if_pos rfl,if_neg (by omega),Nat.zero_add]
   ·rw[if_neg J4]
    by_cases bD:aY n (t:Nat)=0\/(t<i/\aY n (t:Nat)=3)
    ·rw[if_pos bD,if_pos (by rcases bD with h|h;exact .inl h;exact .inr ⟨by omega,h.2⟩)]
    ·rw[if_neg bD,if_neg (fun h=>bD (by rcases h with h|h;exact .inl h;exact .inr ⟨by omega,h.2⟩))]
  ·rw[if_neg hk,if_neg hk]
   refine⟨h1.congr fun t ht=> ?_,h2⟩
   by_cases bD:aY n (t:Nat)=0\/(t<i/\aY n (t:Nat)=3)
   ·rw[if_pos bD,if_pos (by rcases bD with h|h;exact .inl h;exact .inr ⟨by omega,h.2⟩)]
   ·rw[if_neg bD,if_neg (fun h=>bD (by
     rcases h with h|h
     ·exact .inl h
     ·refine .inr ⟨?_,h.2⟩
      by_cases J4:t=i
      ·subst J4;exact absurd h.2 hk
      ·omega))]
def wy (n:aQ)(j s:Nat):Nat:=if aY n (s:Nat)=0\/aY n (s:Nat)=3 then wN n (s:Nat) else(hJ n.ms (s:Nat) j).toNat*wN n (s:Nat)
theorem pw {n:aQ}(hm:aV n):∀j:Nat,j<=n.ms.length->BL n (pS n j) (wy n j)/\(pS n j).2=1+dU n 0 n.sg.length+dU n 3 n.sg.length+ja n j
 |0,_=>by
  obtain⟨h1,h2⟩:=BO n n.sg.length (Nat.le_refl _)
  refine⟨h1.congr fun t ht=> ?_,h2⟩
  unfold wy
  by_cases hk:aY n (t:Nat)=0\/aY n (t:Nat)=3
  ·rw[if_pos hk,if_pos (by rcases hk with h|h;exact .inl h;exact .inr ⟨ht,h⟩)]
  ·rw[if_neg hk,if_neg (fun h=>hk (by rcases h with h|h;exact .inl h;exact .inr h.2))]
   simp[hJ]
 |j+1,hj=>by
  obtain⟨h1,h2⟩:=pw hm j (by omega)
  have hd:=(hm.ms j (by omega)).2.2.2
  have je:=hd.1
  unfold dr at je
  rw[pS,ja]
  refine⟨h1.num _ (by omega) fun t ht=> ?_,by show(pS n j).2+_=_;omega⟩
  have hcb:=nX n.ms (t:Nat) j
  unfold wy
  rw[hJ]
  by_cases Xc:(n.ms.getD j default).out=(t:Nat)
  ·have IG:=hd.2
   rw[Xc] at IG
   have hK:¬(aY n (t:Nat)=0\/aY n (t:Nat)=3):=by omega
   rw[if_pos (show t=(n.ms.getD j default).out.toNat by omega),if_neg hK,if_neg hK,if_pos Xc,Xc,show((hJ n.ms (t:Nat) j+1).toNat)=(hJ n.ms (t:Nat) j).toNat+1 by omega,Nat.succ_mul]
  ·rw[if_neg Xc,if_neg (show¬t=(n.ms.getD j default).out.toNat by omega)]
theorem H8 {n:aQ}(hm:aV n):(((pS n n.ms.length).2:Nat):Int)=1+cT (ee n 0)+(cT (ee n 3)+pt n n.ms.length):=by
 rw[(pw hm n.ms.length (Nat.le_refl _)).2]
 have h1:=rE hm 0
 have h2:=rE hm 3
 have h3:=Fm hm n.ms.length (Nat.le_refl _)
 omega
def gR (f:List Int)(v:Int)(w:Nat):List fR:=(List.range w).map fun k=>⟨0,v/2^k%2,f⟩
theorem vS (f:List Int)(v:Int)(w:Nat):gR f v (w+1)=gR f v w++[⟨0,v/2^w%2,f⟩]:=by simp[gR,List.range_succ]
theorem sX (f:List Int)(v:Int)(w:Nat):(gR f v w).length=w:=by simp[gR]
def iy (n:aQ)(s:Int):Int:=(n.sg.getD s.toNat default).init
def px (f:List Int)(n:aQ):Nat->List fR
 |0=>[]
 |i+1=>if aY n (i:Nat)=3 then px f n i++gR f (iy n (i:Nat)) (wN n (i:Nat)) else px f n i
def ju (r:List Int)(w:Nat):List fR:=List.replicate w ⟨1,0,r⟩
def ni (f r:List Int)(n:aQ):Nat->List fR
 |0=>px f n n.sg.length
 |j+1=>ni f r n j++ju r (wN n (n.ms.getD j default).out)
theorem l6 (f:List Int)(n:aQ):∀i,(px f n i).length=dU n 3 i
 |0=>rfl
 |i+1=>by
  rw[px,dU]
  split
  ·rw[List.length_append,l6 f n i,sX]
  ·exact l6 f n i
theorem jA (f r:List Int)(n:aQ):∀j,(ni f r n j).length=dU n 3 n.sg.length+ja n j
 |0=>by rw[ni,l6];rfl
 |j+1=>by rw[ni,List.length_append,jA f r n j,ja];simp[ju];omega
theorem wK {f:List Int}{n:aQ}:∀{i:Nat} {s:fR},s∈px f n i->s.kind=0/\(0<=s.init/\s.init<=1)/\s.ins=f
 |0,s,h=>by cases h
 |i+1,s,h=>by
  rw[px] at h
  split at h
  ·rcases List.mem_append.1 h with h|h
   ·exact wK h
   ·obtain⟨k,_,rfl⟩:=List.mem_map.1 h
    refine⟨rfl,?_,rfl⟩
    show 0<=iy n (i:Nat)/2^k%2/\iy n (i:Nat)/2^k%2<=1
    omega
  ·exact wK h
theorem wL {f r:List Int}{n:aQ}:∀{j:Nat} {s:fR},s∈ni f r n j->(s.kind=0/\(0<=s.init/\s.init<=1)/\s.ins=f)\/(s.kind=1/\s.init=0/\s.ins=r)
 |0,s,h=> .inl (wK h)
 |j+1,s,h=>by
  rw[ni] at h
  rcases List.mem_append.1 h with h|h
  ·exact wL h
  ·rw[List.eq_of_mem_replicate h]
   exact .inr ⟨rfl,rfl,rfl⟩
def nG (s:fR):fR:=⟨s.kind,s.init,[]⟩
theorem ym (f:List Int)(n:aQ):∀i,(px f n i).map nG=px [] n i
 |0=>rfl
 |i+1=>by
  rw[px,px]
  split
  ·rw[List.map_append,ym f n i];simp[gR,nG]
  ·exact ym f n i
theorem yn (f r:List Int)(n:aQ):∀j,(ni f r n j).map nG=ni [] [] n j
 |0=>ym f n _
 |j+1=>by
  rw[ni,ni,List.map_append,yn f r n j];simp[ju,nG]
theorem yo (f r:List Int)(n:aQ):∀j q,q<(ni f r n j).length->((ni f r n j).getD q default).kind=if q<dU n 3 n.sg.length then 0 else 1
 |0,q,hq=>by
  have h1:(ni f r n 0).getD q default∈px f n n.sg.length:=aK hq
  have h2:=l6 f n n.sg.length
  rw[(wK h1).1,if_pos (by rw[<-h2];exact hq)]
 |j+1,q,hq=>by
  have hl:=jA f r n j
  rw[ni] at hq⊢
  by_cases h:q<(ni f r n j).length
  ·rw[List.getD_eq_getElem?_getD,List.getElem?_append_left h,<-List.getD_eq_getElem?_getD]
   exact yo f r n j q h
  ·rw[List.getD_eq_getElem?_getD,List.getElem?_append_right (by omega),<-List.getD_eq_getElem?_getD]
   rw[List.length_append] at hq
   have:=aK (X:=ju r (wN n (n.ms.getD j default).out)) (i:=q-(ni f r n j).length) (by omega)
   rw[List.eq_of_mem_replicate this,if_neg (by omega)]
def kr (n:aQ):ao:=⟨cT (ee n 0),ni [0] [0,0,0,0] n n.ms.length,[],[]⟩
theorem MG {n:aQ}(hm:aV n)(k:Int):0<=cT (ee n k):=by rw[<-rE hm k];omega
theorem DF {n:aQ}(hm:aV n):((kr n).au.length:Int)=cT (ee n 3)+pt n n.ms.length:=by
 have h0:(kr n).au.length=dU n 3 n.sg.length+ja n n.ms.length:=jA _ _ _ _
 rw[h0]
 have h2:=rE hm 3
 have h3:=Fm hm n.ms.length (Nat.le_refl _)
 omega
theorem yp {n:aQ}(hm:aV n):ag (kr n)=((pS n n.ms.length).2:Nat):=by
 rw[H8 hm]
 have:=DF hm
 have h1:(kr n).af.length=0:=rfl
 have h2:(kr n).aT=cT (ee n 0):=rfl
 unfold ag
 omega
theorem GY {n:aQ}(hm:aV n)(hf:ch n):aj (kr n):=by
 have h0:=MG hm 0
 have hl:=DF hm
 have hn:1<=ag (kr n):=by rw[yp hm];have:=(pw hm n.ms.length (Nat.le_refl _)).1.pos;omega
 refine .mk' ⟨⟨h0,?_⟩,?_,Nat.zero_le _,Nat.zero_le _⟩ (fun s hs=> ?_) (fun o ho=>by cases ho) (fun s hs l hl=> ?_) (fun i hi=>absurd hi (Nat.not_lt_zero _))
 ·show cT (ee n 0)<=20
  have:=hf.s0;omega
 ·have:=hf.s3;omega
 ·rcases wL hs with⟨h1,h2,h3⟩|⟨h1,h2,h3⟩
  ·exact .inl ⟨h1,h2,by rw[h3];rfl⟩
  ·exact .inr ⟨h1,by omega,by rw[h3];rfl⟩
 ·have:l=0:=by
   rcases wL hs with⟨h1,h2,h3⟩|⟨h1,h2,h3⟩
   ·rw[h3] at hl;simpa using hl
   ·rw[h3] at hl;simpa using hl
  subst this
  unfold aD;omega
noncomputable def cU (n:aQ)(i:Nat):cI:=fI (opsL n i) n.sg.length
noncomputable def IK (n:aQ)(st:(ao×Bool)×List (List Int))(i:Nat):(ao×Bool)×List (List Int):=
 ((dB a6 st.2 (wN n (dT n i)) (cU n i) st.1).1,st.2.set (dT n i).toNat (dB a6 st.2 (wN n (dT n i)) (cU n i) st.1).2)
noncomputable def fu (n:aQ)(l:List Nat):Nat->(ao×Bool)×List (List Int)
 |0=>((kr n,false),(pS n n.ms.length).1)
 |i+1=>IK n (fu n l i) (l.getD i 0)
structure BP (n:aQ)(N:ao)(sig:List (List Int)):Prop where
 len:sig.length=n.sg.length
 row:∀s,s∈sig->s.length<=4/\∀z,z∈s->aD z (ag N)
theorem BP.mono {n:aQ}{N N':ao}{sig:List (List Int)}(h:BP n N sig)(hl:ag N<=ag N'):BP n N' sig:=
 ⟨h.len,fun s hs=>⟨(h.row s hs).1,fun z hz=>((h.row s hs).2 z hz).mono hl⟩⟩
structure Lg (n:aQ)(st:(ao×Bool)×List (List Int)):Prop where
 dR:aj st.1.1
 eq:st.1.1={kr n with af:=st.1.1.af}
 sig:BP n st.1.1 st.2
theorem gg {n:aQ}(hm:aV n)(hf:ch n){i:Nat}(hi:i<n.aP.length):fT (opsL n i) n.sg.length/\(∀o,o∈opsL n i->o.kind≠1)/\dr n (dT n i)/\aY n (dT n i)≠0:=by
 have h:=hm.aP i hi
 refine⟨h.2.2,fun o ho hk=>hf.par i hi ⟨o,ho,hk⟩,h.1,?_⟩
 have:=h.2.1
 unfold dT;omega
theorem nY {n:aQ}(hm:aV n)(hf:ch n){s:Int}(h:dr n s):1<=wN n s/\wN n s<=4:=by
 have h1:=sW hm h
 unfold dr at h
 have h2:=hf.wid s.toNat (by omega)
 unfold l5 at h1
 unfold wN l5
 omega
theorem VY {n:aQ}(hm:aV n)(hf:ch n){N:ao}(hN:aj N){sig:List (List Int)}(hs:BP n N sig){i:Nat}(hi:i<n.aP.length){s:Int}(je:dr n s):Mm N sig (opsL n i) (wN n s:Nat):=by
 obtain⟨h1,h2,h3,_⟩:=gg hm hf hi
 have h4:=nY hm hf je
 have:=hm.l1
 exact⟨hN,by rw[hs.len];omega,by rw[hs.len];exact h1,h2,by omega,fun l hl=>hs.row l hl⟩
theorem Fo {n:aQ}{s:ao×Bool}(hN:aj s.1){sig:List (List Int)}(hs:BP n s.1 sig)(w:Nat)(t:cI):Gd (fun s=>aj s.1) (fun s z=>aD z (ag s.1)) Rw s (dB a6 sig w t s):=
 db cF w t (s:=s) hN (fun l hl z hz=>(hs.row l hl).2 z hz)
theorem Lg.start {n:aQ}(hm:aV n)(hf:ch n)(hu:∀s:Nat,s<n.sg.length->wy n n.ms.length s<=4):Lg n ((kr n,false),(pS n n.ms.length).1):=by
 have h1:=(pw hm n.ms.length (Nat.le_refl _)).1
 refine⟨GY hm hf,rfl,h1.len,fun s hs=> ?_⟩
 obtain⟨i,hi,rfl⟩:=List.getElem_of_mem hs
 have h2:=h1.row i (by rw[<-h1.len];exact hi)
 have h3:=hu i (by rw[<-h1.len];exact hi)
 rw[List.getD_eq_getElem?_getD,List.getElem?_eq_getElem hi] at h2
 have h4:ag (kr n)=((pS n n.ms.length).2:Nat):=yp hm
 show((pS n n.ms.length).1[i]).length<=4/\∀z,z∈(pS n n.ms.length).1[i]->aD z (ag (kr n))
 rw[h4]
 exact⟨by have:=h2.1;simp only[Option.getD_some] at this;omega,h2.2⟩
theorem Lg.step {n:aQ}(hm:aV n)(hf:ch n){st:(ao×Bool)×List (List Int)}(h:Lg n st){i:Nat}(hi:i<n.aP.length):Lg n (IK n st i):=by
 obtain⟨_,_,h3,_⟩:=gg hm hf hi
 have h4:=nY hm hf h3
 have g:=Fo h.dR h.sig (wN n (dT n i)) (cU n i)
 refine⟨g.i,?_,by unfold IK;rw[List.length_set];exact h.sig.len,fun l hl=> ?_⟩
 ·have h5:(IK n st i).1.1={st.1.1 with af:=(IK n st i).1.1.af}:=g.dX.1.2
  rw[h5,h.eq]
 ·rcases List.mem_or_eq_of_mem_set hl with hl|rfl
  ·exact(h.sig.mono g.dX.1.1).row l hl
  ·exact⟨by rw[cv];omega,g.v⟩
theorem yq {n:aQ}(hm:aV n){s:Nat}(hs:s<n.sg.length)(hk:¬(aY n (s:Nat)=0\/aY n (s:Nat)=3)):gH n.aP (s:Nat) n.aP.length+hJ n.ms (s:Nat) n.ms.length=1:=by
 have h1:=(hm.sg s hs).1
 rw[bG] at hk
 exact hm.RY s hs (by omega)
theorem MH {n:aQ}(hm:aV n)(hf:ch n):∀s:Nat,s<n.sg.length->wy n n.ms.length s<=4:=fun s hs=>by
 have h4:=nY hm hf (s:=(s:Nat)) (by unfold dr;omega)
 unfold wy
 split
 ·omega
 ·rename_i hk
  have h1:=yq hm hs hk
  have h2:=(mT n.aP (s:Nat) n.aP.length).1
  have h3:=(nX n.ms (s:Nat) n.ms.length).1
  have h5:(hJ n.ms (s:Nat) n.ms.length).toNat=0\/(hJ n.ms (s:Nat) n.ms.length).toNat=1:=by omega
  rcases h5 with h5|h5
  ·rw[h5];omega
  ·rw[h5];omega
theorem py {n:aQ}(hm:aV n)(hf:ch n){l:List Nat}(hl:∀i,i∈l->i<n.aP.length):∀i,i<=l.length->Lg n (fu n l i)
 |0,_=>Lg.start hm hf (MH hm hf)
 |i+1,hi=>(py hm hf hl i (by omega)).step hm hf (hl _ (by rw[List.getD_eq_getElem?_getD,List.getElem?_eq_getElem (by omega)];exact List.getElem_mem _))
theorem MI {n:aQ}{st:(ao×Bool)×List (List Int)}(h:Lg n st)(i:Nat):st.1.2=true->(IK n st i).1.2=true:=(Fo h.dR h.sig (wN n (dT n i)) (cU n i)).dX.2
theorem J5 {n:aQ}(hm:aV n)(hf:ch n){l:List Nat}(hl:∀i,i∈l->i<n.aP.length){i:Nat}(hb:(fu n l i).1.2=true):∀j,i<=j->j<=l.length->(fu n l j).1.2=true:=fun j kd hj=>by
 obtain⟨d,rfl⟩:=Nat.le.dest kd
 clear kd
 induction d with
 |zero=>exact hb
 |succ d ih=>exact MI (py hm hf hl (i+d) (by omega)) _ (ih (by omega))
theorem DG {n:aQ}(hm:aV n)(hf:ch n){l:List Nat}(hl:∀i,i∈l->i<n.aP.length):∀i,i<=l.length->∀s:Nat,s<n.sg.length->(((fu n l i).2.getD s default).length=wy n n.ms.length s\/((fu n l i).2.getD s default).length=wN n (s:Nat))/\((∃j,j<i/\dT n (l.getD j 0)=(s:Nat))->((fu n l i).2.getD s default).length=wN n (s:Nat))
 |0,_,s,hs=>⟨.inl ((pw hm n.ms.length (Nat.le_refl _)).1.row s hs).1,fun⟨j,hj,_⟩=>absurd hj (Nat.not_lt_zero _)⟩
 |i+1,hi,s,hs=>by
  have ih:=DG hm hf hl i (by omega) s hs
  have pW:l.getD i 0<n.aP.length:=hl _ (by rw[List.getD_eq_getElem?_getD,List.getElem?_eq_getElem (by omega)];exact List.getElem_mem _)
  obtain⟨_,_,h3,_⟩:=gg hm hf pW
  unfold dr at h3
  have sY:=(py hm hf hl i (by omega)).sig.len
  have hr:(fu n l (i+1)).2.getD s default=if s=(dT n (l.getD i 0)).toNat then(dB a6 (fu n l i).2 (wN n (dT n (l.getD i 0))) (cU n (l.getD i 0)) (fu n l i).1).2 else(fu n l i).2.getD s default:=cG (by omega)
  by_cases he:s=(dT n (l.getD i 0)).toNat
  ·have:((fu n l (i+1)).2.getD s default).length=wN n (s:Nat):=by
    rw[hr,if_pos he,cv]
    rw[show((s:Nat):Int)=dT n (l.getD i 0) by omega]
   exact⟨.inr this,fun _=>this⟩
  ·rw[hr,if_neg he]
   refine⟨ih.1,fun⟨j,hj,Xd⟩=>ih.2 ⟨j,?_,Xd⟩⟩
   by_cases Ez:j=i
   ·subst Ez;exact absurd (show s=(dT n (l.getD j 0)).toNat by omega) he
   ·omega
theorem BQ {R:List MB}{s:Int}:∀{i:Nat},0<gH R s i->∃j,j<i/\(R.getD j default).tg=s
 |0,h=>absurd h (by simp[gH])
 |i+1,h=>by
  rw[gH] at h
  split at h
  ·rename_i he;exact⟨i,by omega,he⟩
  ·obtain⟨j,h1,h2⟩:=BQ h
   exact⟨j,by omega,h2⟩
theorem J6 {n:aQ}(hm:aV n)(hf:ch n){l:List Nat}(he:gQ n=some l):∀s:Nat,s<n.sg.length->((fu n l l.length).2.getD s default).length=wN n (s:Nat):=fun s hs=>by
 obtain⟨_,je,_⟩:=iU he
 obtain⟨h1,h2⟩:=DG hm hf (fun i hi=>(je i hi).1) l.length (Nat.le_refl _) s hs
 rcases h1 with h1|h1
 ·rw[h1]
  unfold wy
  split
  ·rfl
  ·rename_i hk
   have h3:=yq hm hs hk
   have h4:=(mT n.aP (s:Nat) n.aP.length).1
   have h5:=(nX n.ms (s:Nat) n.ms.length).1
   by_cases h6:hJ n.ms (s:Nat) n.ms.length=1
   ·rw[h6];show 1*_=_;omega
   ·obtain⟨j,hj,Xd⟩:=BQ (R:=n.aP) (s:=(s:Nat)) (i:=n.aP.length) (by omega)
    have VZ:=J3 he hj (by unfold dT;rw[Xd];omega)
    obtain⟨k,p6,RZ⟩:=List.getElem_of_mem VZ
    have h7:=h2 ⟨k,p6,by
     rw[List.getD_eq_getElem?_getD,List.getElem?_eq_getElem p6]
     show dT n l[k]=_
     rw[RZ];exact Xd⟩
    rw[h1] at h7
    unfold wy at h7
    rw[if_neg hk] at h7
    exact h7
 ·exact h1
end Go.Xw
