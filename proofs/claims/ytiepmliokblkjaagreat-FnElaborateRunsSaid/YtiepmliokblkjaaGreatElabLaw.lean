/- The net of a flat module, as plain data; no condition but the stated ones. -/
import Derived.Test.YtiepmliokblkjaaGreatMapLaw
import Derived.Test.YtiepmliokblkjaaGreatLists
set_option linter.all false
namespace Go.Xw
open Go.Proofs
set_option maxHeartbeats 1000000
theorem mem_erase {i:Nat}{l:List Nat}{k:Nat}(h:i∈l):i∈l.eraseIdx k\/i=l.getD k 0:=by
 obtain⟨j,hj,rfl⟩:=List.getElem_of_mem h
 by_cases hk:j=k
 ·right
  subst hk
  rw[List.getD_eq_getElem?_getD,List.getElem?_eq_getElem hj];rfl
 ·left
  rw[List.mem_eraseIdx_iff_getElem]
  exact⟨j,hj,hk,rfl⟩
theorem DG {n:aQ}:∀(f:Nat) (todo out l:List Nat),f=todo.length->rW n f todo out=some l->∀i,i∈todo\/i∈out->i∈l
 |0,todo,out,l,hf,he,i,hi=>by
  simp only[rW,Option.some.injEq] at he
  subst he
  obtain rfl:todo=[]:=List.length_eq_zero_iff.1 hf.symm
  rcases hi with hi|hi
  ·cases hi
  ·exact hi
 |f+1,todo,out,l,hf,he,i,hi=>by
  simp only[rW] at he
  cases hk:todo.findIdx? (iK n todo) with
  |none=>rw[hk] at he;simp at he
  |some k=>
   rw[hk] at he
   have u7:k<todo.length:=(List.findIdx?_eq_some_iff_getElem.1 hk).1
   refine DG f _ _ l (by rw[List.length_eraseIdx_of_lt u7];omega) he i ?_
   rcases hi with hi|hi
   ·rcases mem_erase (k:=k) hi with h|h
    ·exact .inl h
    ·right;rw[h];simp
   ·right;simp[hi]
theorem J4 {n:aQ}{l:List Nat}(h:gQ n=some l){i:Nat}(hi:i<n.aP.length)(hk:aY n (dT n i)≠3):i∈l:=by
 obtain⟨⟨h1,h2⟩,_⟩:=iW h
 rw[tZ h1 h2] at h
 exact DG _ _ _ l rfl h i (.inl (by simp[lv,hi,hk]))
def wN (n:aQ)(s:Int):Nat:=(l6 n s).toNat
def jt (p w:Nat):List Int:=(List.range w).map fun k=>2*((p+k:Nat):Int)
theorem oK (p w:Nat):(jt p w).length=w:=by simp[jt]
theorem Fm (p w:Nat):jt p (w+1)=jt p w++[2*((p+w:Nat):Int)]:=by simp[jt,List.range_succ]
theorem H8 {p w:Nat}{k:Int}(h:((p+w:Nat):Int)<=k):∀z,z∈jt p w->aD z k:=fun z hz=>by
 obtain⟨q,hq,rfl⟩:=List.mem_map.1 hz
 rw[List.mem_range] at hq
 unfold aD
 omega
def iX (st:List (List Int)×Nat)(s w:Nat):List (List Int)×Nat:=(st.1.set s (st.1.getD s default++jt st.2 w),st.2+w)
theorem rE {st:List (List Int)×Nat}{s:Nat}(h:s<st.1.length):iX st s 0=st:=by
 have:jt st.2 0=[]:=rfl
 unfold iX
 rw[this,List.append_nil]
 refine Prod.ext ?_ rfl
 refine lZ (by simp) fun i hi=> ?_
 rw[cH h]
 split
 ·rename_i he;rw[he]
 ·rfl
theorem rF {st:List (List Int)×Nat}{s w:Nat}(h:s<st.1.length):iX st s (w+1)=((iX st s w).1.set s ((iX st s w).1.getD s default++[2*(((iX st s w).2:Nat):Int)]),(iX st s w).2+1):=by
 unfold iX
 simp only
 rw[List.set_set,cH h,if_pos rfl,Fm,List.append_assoc,Nat.add_assoc]
structure BQ (n:aQ)(st:List (List Int)×Nat)(L:Nat->Nat):Prop where
 len:st.1.length=n.sg.length
 row:∀s,s<n.sg.length->(st.1.getD s default).length=L s/\∀z,z∈st.1.getD s default->aD z (st.2:Nat)
 pos:1<=st.2
theorem BQ.num {n:aQ}{st:List (List Int)×Nat}{L L':Nat->Nat}(h:BQ n st L){s:Nat}(w:Nat)(hs:s<n.sg.length)(hL:∀t,t<n.sg.length->L' t=if t=s then L t+w else L t):BQ n (iX st s w) L':=by
 refine⟨by unfold iX;rw[List.length_set];exact h.len,fun t ht=> ?_,by have:=h.pos;show 1<=st.2+w;omega⟩
 have hr:=h.row t ht
 unfold iX
 rw[cH (by rw[h.len];exact hs),hL t ht]
 by_cases CD:t=s
 ·subst CD
  rw[if_pos rfl,if_pos rfl,List.length_append,oK,hr.1]
  refine⟨rfl,fun z hz=> ?_⟩
  rcases List.mem_append.1 hz with hz|hz
  ·have:=hr.2 z hz;unfold aD at this⊢;omega
  ·exact H8 (Int.le_refl _) z hz
 ·rw[if_neg CD,if_neg CD]
  exact⟨hr.1,fun z hz=>by have:=hr.2 z hz;unfold aD at this⊢;omega⟩
theorem BQ.congr {n:aQ}{st:List (List Int)×Nat}{L L':Nat->Nat}(h:BQ n st L)(hL:∀t,t<n.sg.length->L' t=L t):BQ n st L':=
 ⟨h.len,fun s hs=>by rw[hL s hs];exact h.row s hs,h.pos⟩
def dU (n:aQ)(k:Int):Nat->Nat
 |0=>0
 |i+1=>if aY n (i:Nat)=k then dU n k i+wN n (i:Nat) else dU n k i
def jc (n:aQ):Nat->Nat
 |0=>0
 |j+1=>jc n j+wN n (n.ms.getD j default).out
theorem lB (n:aQ)(k:Int):∀{i j:Nat},i<=j->dU n k i<=dU n k j:=fun{i j} h=>by
 obtain⟨d,rfl⟩:=Nat.le.dest h
 clear h
 induction d with
 |zero=>exact Nat.le_refl _
 |succ d ih=>
  refine Nat.le_trans ih ?_
  show _<=dU n k (i+d+1)
  rw[dU]
  split<;>omega
theorem lC (n:aQ):∀{i j:Nat},i<=j->jc n i<=jc n j:=fun{i j} h=>by
 obtain⟨d,rfl⟩:=Nat.le.dest h
 clear h
 induction d with
 |zero=>exact Nat.le_refl _
 |succ d ih=>
  refine Nat.le_trans ih ?_
  show _<=jc n (i+d+1)
  rw[jc]
  omega
theorem sW {n:aQ}(hm:aV n){s:Int}(h:dr n s):0<=l6 n s/\l6 n s<=4:=by
 unfold dr at h
 exact(hm.sg s.toNat (by omega)).2.1
theorem oL {n:aQ}(hm:aV n){s:Int}(h:dr n s):((wN n s:Nat):Int)=l6 n s:=by
 have:=sW hm h
 unfold wN;omega
theorem bG (n:aQ)(i:Nat):aY n (i:Nat)=(n.sg.getD i default).kind:=by unfold aY;rw[Int.toNat_natCast]
theorem pt (n:aQ)(i:Nat):l6 n (i:Nat)=(n.sg.getD i default).width:=by unfold l6;rw[Int.toNat_natCast]
theorem BR {n:aQ}(hm:aV n)(k:Int):∀i:Nat,i<=n.sg.length->((dU n k i:Nat):Int)=cT (pR (n.sg.take i) k)
 |0,_=>by simp[dU,pR,cT]
 |i+1,hi=>by
  have ih:=BR hm k i (by omega)
  have hw:=oL hm (s:=(i:Nat)) (by unfold dr;omega)
  rw[dU,dm (by omega)]
  by_cases h:aY n (i:Nat)=k
  ·rw[if_pos h,rA (by rw[<-bG];exact h),oI,Int.natCast_add,ih,hw,pt]
  ·rw[if_neg h,yn (by rw[<-bG];exact h),ih]
theorem rG {n:aQ}(hm:aV n)(k:Int):((dU n k n.sg.length:Nat):Int)=cT (ee n k):=by
 rw[BR hm k _ (Nat.le_refl _),List.take_length];rfl
theorem Fo {n:aQ}(hm:aV n):∀j:Nat,j<=n.ms.length->((jc n j:Nat):Int)=pq n j
 |0,_=>by simp[jc,pq]
 |j+1,hj=>by
  have hw:=oL hm (hm.ms j (by omega)).2.2.2.1
  rw[jc,pq,Int.natCast_add,Fo hm j (by omega),hw]
def uB (n:aQ):Nat->List (List Int)×Nat
 |0=>(List.replicate n.sg.length [],1)
 |i+1=>if aY n (i:Nat)=0 then iX (uB n i) i (wN n (i:Nat)) else uB n i
def vd (n:aQ):Nat->List (List Int)×Nat
 |0=>uB n n.sg.length
 |i+1=>if aY n (i:Nat)=3 then iX (vd n i) i (wN n (i:Nat)) else vd n i
def pS (n:aQ):Nat->List (List Int)×Nat
 |0=>vd n n.sg.length
 |j+1=>iX (pS n j) (n.ms.getD j default).out.toNat (wN n (n.ms.getD j default).out)
theorem BS (n:aQ):∀i:Nat,i<=n.sg.length->BQ n (uB n i) (fun s=>if s<i/\aY n (s:Nat)=0 then wN n (s:Nat) else 0)/\(uB n i).2=1+dU n 0 i
 |0,_=>by
  refine⟨⟨by simp[uB],fun s hs=> ?_,Nat.le_refl _⟩,rfl⟩
  have h0:(uB n 0).1.getD s default=[]:=by simp[uB,List.getD_eq_getElem?_getD,hs]
  rw[h0,if_neg (by omega)]
  exact⟨rfl,fun z hz=>by cases hz⟩
 |i+1,hi=>by
  obtain⟨h1,h2⟩:=BS n i (by omega)
  rw[uB,dU]
  by_cases hk:aY n (i:Nat)=0
  ·rw[if_pos hk,if_pos hk]
   refine⟨h1.num _ (by omega) fun t ht=> ?_,by show(uB n i).2+_=_;omega⟩
   by_cases J5:t=i
   ·subst J5
    rw[if_pos ⟨by omega,hk⟩,if_pos rfl,if_neg (by omega),Nat.zero_add]
   ·rw[if_neg J5]
    by_cases bD:t<i/\aY n (t:Nat)=0
    ·rw[if_pos bD,if_pos ⟨by omega,bD.2⟩]
    ·rw[if_neg bD,if_neg (fun h=>bD ⟨by omega,h.2⟩)]
  ·rw[if_neg hk,if_neg hk]
   refine⟨h1.congr fun t ht=> ?_,h2⟩
   by_cases J5:t=i
   ·subst J5
    rw[if_neg (fun h=>hk h.2),if_neg (by omega)]
   ·by_cases bD:t<i/\aY n (t:Nat)=0
    ·rw[if_pos bD,if_pos ⟨by omega,bD.2⟩]
    ·rw[if_neg bD,if_neg (fun h=>bD ⟨by omega,h.2⟩)]
theorem BT (n:aQ):∀i:Nat,i<=n.sg.length->BQ n (vd n i) (fun s=>if aY n (s:Nat)=0\/(s<i/\aY n (s:Nat)=3) then wN n (s:Nat) else 0)/\(vd n i).2=1+dU n 0 n.sg.length+dU n 3 i
 |0,_=>by
  obtain⟨h1,h2⟩:=BS n n.sg.length (Nat.le_refl _)
  refine⟨h1.congr fun t ht=> ?_,h2⟩
  by_cases hk:aY n (t:Nat)=0
  ·rw[if_pos (.inl hk),if_pos ⟨ht,hk⟩]
  ·rw[if_neg (by rintro(h|h);exact hk h;omega),if_neg (fun h=>hk h.2)]
 |i+1,hi=>by
  obtain⟨h1,h2⟩:=BT n i (by omega)
  rw[vd,dU]
  by_cases hk:aY n (i:Nat)=3
  ·rw[if_pos hk,if_pos hk]
   refine⟨h1.num _ (by omega) fun t ht=> ?_,by show(vd n i).2+_=_;omega⟩
   by_cases J5:t=i
   ·subst J5
    rw[if_pos (.inr ⟨by omega,hk⟩),if_pos rfl,if_neg (by omega),Nat.zero_add]
   ·rw[if_neg J5]
    by_cases bD:aY n (t:Nat)=0\/(t<i/\aY n (t:Nat)=3)
    ·rw[if_pos bD,if_pos (by rcases bD with h|h;exact .inl h;exact .inr ⟨by omega,h.2⟩)]
    ·rw[if_neg bD,if_neg (fun h=>bD (by rcases h with h|h;exact .inl h;exact .inr ⟨by omega,h.2⟩))]
  ·rw[if_neg hk,if_neg hk]
   refine⟨h1.congr fun t ht=> ?_,h2⟩
   by_cases bD:aY n (t:Nat)=0\/(t<i/\aY n (t:Nat)=3)
   ·rw[if_pos bD,if_pos (by rcases bD with h|h;exact .inl h;exact .inr ⟨by omega,h.2⟩)]
   ·rw[if_neg bD,if_neg (fun h=>bD (by
     rcases h with h|h
     ·exact .inl h
     ·refine .inr ⟨?_,h.2⟩
      by_cases J5:t=i
      ·subst J5;exact absurd h.2 hk
      ·omega))]
def wB (n:aQ)(j s:Nat):Nat:=if aY n (s:Nat)=0\/aY n (s:Nat)=3 then wN n (s:Nat) else(hJ n.ms (s:Nat) j).toNat*wN n (s:Nat)
theorem pv {n:aQ}(hm:aV n):∀j:Nat,j<=n.ms.length->BQ n (pS n j) (wB n j)/\(pS n j).2=1+dU n 0 n.sg.length+dU n 3 n.sg.length+jc n j
 |0,_=>by
  obtain⟨h1,h2⟩:=BT n n.sg.length (Nat.le_refl _)
  refine⟨h1.congr fun t ht=> ?_,h2⟩
  unfold wB
  by_cases hk:aY n (t:Nat)=0\/aY n (t:Nat)=3
  ·rw[if_pos hk,if_pos (by rcases hk with h|h;exact .inl h;exact .inr ⟨ht,h⟩)]
  ·rw[if_neg hk,if_neg (fun h=>hk (by rcases h with h|h;exact .inl h;exact .inr h.2))]
   simp[hJ]
 |j+1,hj=>by
  obtain⟨h1,h2⟩:=pv hm j (by omega)
  have hd:=(hm.ms j (by omega)).2.2.2
  have jg:=hd.1
  unfold dr at jg
  rw[pS,jc]
  refine⟨h1.num _ (by omega) fun t ht=> ?_,by show(pS n j).2+_=_;omega⟩
  have hcb:=nX n.ms (t:Nat) j
  unfold wB
  rw[hJ]
  by_cases Xf:(n.ms.getD j default).out=(t:Nat)
  ·have II:=hd.2
   rw[Xf] at II
   have hK:¬(aY n (t:Nat)=0\/aY n (t:Nat)=3):=by omega
   rw[if_pos (show t=(n.ms.getD j default).out.toNat by omega),if_neg hK,if_neg hK,if_pos Xf,Xf,show((hJ n.ms (t:Nat) j+1).toNat)=(hJ n.ms (t:Nat) j).toNat+1 by omega,Nat.succ_mul]
  ·rw[if_neg Xf,if_neg (show¬t=(n.ms.getD j default).out.toNat by omega)]
theorem H9 {n:aQ}(hm:aV n):(((pS n n.ms.length).2:Nat):Int)=1+cT (ee n 0)+(cT (ee n 3)+pq n n.ms.length):=by
 rw[(pv hm n.ms.length (Nat.le_refl _)).2]
 have h1:=rG hm 0
 have h2:=rG hm 3
 have h3:=Fo hm n.ms.length (Nat.le_refl _)
 omega
def gR (f:List Int)(v:Int)(w:Nat):List fS:=(List.range w).map fun k=>⟨0,v/2^k%2,f⟩
theorem vT (f:List Int)(v:Int)(w:Nat):gR f v (w+1)=gR f v w++[⟨0,v/2^w%2,f⟩]:=by simp[gR,List.range_succ]
theorem sX (f:List Int)(v:Int)(w:Nat):(gR f v w).length=w:=by simp[gR]
def iy (n:aQ)(s:Int):Int:=(n.sg.getD s.toNat default).init
def pw (f:List Int)(n:aQ):Nat->List fS
 |0=>[]
 |i+1=>if aY n (i:Nat)=3 then pw f n i++gR f (iy n (i:Nat)) (wN n (i:Nat)) else pw f n i
def ju (r:List Int)(w:Nat):List fS:=List.replicate w ⟨1,0,r⟩
def ni (f r:List Int)(n:aQ):Nat->List fS
 |0=>pw f n n.sg.length
 |j+1=>ni f r n j++ju r (wN n (n.ms.getD j default).out)
theorem l7 (f:List Int)(n:aQ):∀i,(pw f n i).length=dU n 3 i
 |0=>rfl
 |i+1=>by
  rw[pw,dU]
  split
  ·rw[List.length_append,l7 f n i,sX]
  ·exact l7 f n i
theorem jA (f r:List Int)(n:aQ):∀j,(ni f r n j).length=dU n 3 n.sg.length+jc n j
 |0=>by rw[ni,l7];rfl
 |j+1=>by rw[ni,List.length_append,jA f r n j,jc];simp[ju];omega
theorem wM {f:List Int}{n:aQ}:∀{i:Nat} {s:fS},s∈pw f n i->s.kind=0/\(0<=s.init/\s.init<=1)/\s.ins=f
 |0,s,h=>by cases h
 |i+1,s,h=>by
  rw[pw] at h
  split at h
  ·rcases List.mem_append.1 h with h|h
   ·exact wM h
   ·obtain⟨k,_,rfl⟩:=List.mem_map.1 h
    refine⟨rfl,?_,rfl⟩
    show 0<=iy n (i:Nat)/2^k%2/\iy n (i:Nat)/2^k%2<=1
    omega
  ·exact wM h
theorem wO {f r:List Int}{n:aQ}:∀{j:Nat} {s:fS},s∈ni f r n j->(s.kind=0/\(0<=s.init/\s.init<=1)/\s.ins=f)\/(s.kind=1/\s.init=0/\s.ins=r)
 |0,s,h=> .inl (wM h)
 |j+1,s,h=>by
  rw[ni] at h
  rcases List.mem_append.1 h with h|h
  ·exact wO h
  ·rw[List.eq_of_mem_replicate h]
   exact .inr ⟨rfl,rfl,rfl⟩
def nG (s:fS):fS:=⟨s.kind,s.init,[]⟩
theorem yo (f:List Int)(n:aQ):∀i,(pw f n i).map nG=pw [] n i
 |0=>rfl
 |i+1=>by
  rw[pw,pw]
  split
  ·rw[List.map_append,yo f n i];simp[gR,nG]
  ·exact yo f n i
theorem yp (f r:List Int)(n:aQ):∀j,(ni f r n j).map nG=ni [] [] n j
 |0=>yo f n _
 |j+1=>by
  rw[ni,ni,List.map_append,yp f r n j];simp[ju,nG]
theorem yq (f r:List Int)(n:aQ):∀j q,q<(ni f r n j).length->((ni f r n j).getD q default).kind=if q<dU n 3 n.sg.length then 0 else 1
 |0,q,hq=>by
  have h1:(ni f r n 0).getD q default∈pw f n n.sg.length:=aK hq
  have h2:=l7 f n n.sg.length
  rw[(wM h1).1,if_pos (by rw[<-h2];exact hq)]
 |j+1,q,hq=>by
  have hl:=jA f r n j
  rw[ni] at hq⊢
  by_cases h:q<(ni f r n j).length
  ·rw[List.getD_eq_getElem?_getD,List.getElem?_append_left h,<-List.getD_eq_getElem?_getD]
   exact yq f r n j q h
  ·rw[List.getD_eq_getElem?_getD,List.getElem?_append_right (by omega),<-List.getD_eq_getElem?_getD]
   rw[List.length_append] at hq
   have:=aK (X:=ju r (wN n (n.ms.getD j default).out)) (i:=q-(ni f r n j).length) (by omega)
   rw[List.eq_of_mem_replicate this,if_neg (by omega)]
def kq (n:aQ):ao:=⟨cT (ee n 0),ni [0] [0,0,0,0] n n.ms.length,[],[]⟩
theorem MH {n:aQ}(hm:aV n)(k:Int):0<=cT (ee n k):=by rw[<-rG hm k];omega
theorem DH {n:aQ}(hm:aV n):((kq n).au.length:Int)=cT (ee n 3)+pq n n.ms.length:=by
 have h0:(kq n).au.length=dU n 3 n.sg.length+jc n n.ms.length:=jA _ _ _ _
 rw[h0]
 have h2:=rG hm 3
 have h3:=Fo hm n.ms.length (Nat.le_refl _)
 omega
theorem yr {n:aQ}(hm:aV n):ag (kq n)=((pS n n.ms.length).2:Nat):=by
 rw[H9 hm]
 have:=DH hm
 have h1:(kq n).af.length=0:=rfl
 have h2:(kq n).aT=cT (ee n 0):=rfl
 unfold ag
 omega
theorem GZ {n:aQ}(hm:aV n)(hf:ch n):aj (kq n):=by
 have h0:=MH hm 0
 have hl:=DH hm
 have hn:1<=ag (kq n):=by rw[yr hm];have:=(pv hm n.ms.length (Nat.le_refl _)).1.pos;omega
 refine .mk' ⟨⟨h0,?_⟩,?_,Nat.zero_le _,Nat.zero_le _⟩ (fun s hs=> ?_) (fun o ho=>by cases ho) (fun s hs l hl=> ?_) (fun i hi=>absurd hi (Nat.not_lt_zero _))
 ·show cT (ee n 0)<=20
  have:=hf.s0;omega
 ·have:=hf.s3;omega
 ·rcases wO hs with⟨h1,h2,h3⟩|⟨h1,h2,h3⟩
  ·exact .inl ⟨h1,h2,by rw[h3];rfl⟩
  ·exact .inr ⟨h1,by omega,by rw[h3];rfl⟩
 ·have:l=0:=by
   rcases wO hs with⟨h1,h2,h3⟩|⟨h1,h2,h3⟩
   ·rw[h3] at hl;simpa using hl
   ·rw[h3] at hl;simpa using hl
  subst this
  unfold aD;omega
noncomputable def cU (n:aQ)(i:Nat):cI:=fI (opsL n i) n.sg.length
noncomputable def IL (n:aQ)(st:(ao×Bool)×List (List Int))(i:Nat):(ao×Bool)×List (List Int):=
 ((dD a6 st.2 (wN n (dT n i)) (cU n i) st.1).1,st.2.set (dT n i).toNat (dD a6 st.2 (wN n (dT n i)) (cU n i) st.1).2)
noncomputable def fu (n:aQ)(l:List Nat):Nat->(ao×Bool)×List (List Int)
 |0=>((kq n,false),(pS n n.ms.length).1)
 |i+1=>IL n (fu n l i) (l.getD i 0)
structure BU (n:aQ)(N:ao)(sig:List (List Int)):Prop where
 len:sig.length=n.sg.length
 row:∀s,s∈sig->s.length<=4/\∀z,z∈s->aD z (ag N)
theorem BU.mono {n:aQ}{N N':ao}{sig:List (List Int)}(h:BU n N sig)(hl:ag N<=ag N'):BU n N' sig:=
 ⟨h.len,fun s hs=>⟨(h.row s hs).1,fun z hz=>((h.row s hs).2 z hz).mono hl⟩⟩
structure Lh (n:aQ)(st:(ao×Bool)×List (List Int)):Prop where
 dR:aj st.1.1
 eq:st.1.1={kq n with af:=st.1.1.af}
 sig:BU n st.1.1 st.2
theorem gg {n:aQ}(hm:aV n)(hf:ch n){i:Nat}(hi:i<n.aP.length):fU (opsL n i) n.sg.length/\(∀o,o∈opsL n i->o.kind≠1)/\dr n (dT n i)/\aY n (dT n i)≠0:=by
 have h:=hm.aP i hi
 refine⟨h.2.2,fun o ho hk=>hf.par i hi ⟨o,ho,hk⟩,h.1,?_⟩
 have:=h.2.1
 unfold dT;omega
theorem nY {n:aQ}(hm:aV n)(hf:ch n){s:Int}(h:dr n s):1<=wN n s/\wN n s<=4:=by
 have h1:=sW hm h
 unfold dr at h
 have h2:=hf.wid s.toNat (by omega)
 unfold l6 at h1
 unfold wN l6
 omega
theorem V2 {n:aQ}(hm:aV n)(hf:ch n){N:ao}(hN:aj N){sig:List (List Int)}(hs:BU n N sig){i:Nat}(hi:i<n.aP.length){s:Int}(jg:dr n s):Mn N sig (opsL n i) (wN n s:Nat):=by
 obtain⟨h1,h2,h3,_⟩:=gg hm hf hi
 have h4:=nY hm hf jg
 have:=hm.l1
 exact⟨hN,by rw[hs.len];omega,by rw[hs.len];exact h1,h2,by omega,fun l hl=>hs.row l hl⟩
theorem Fp {n:aQ}{s:ao×Bool}(hN:aj s.1){sig:List (List Int)}(hs:BU n s.1 sig)(w:Nat)(t:cI):Gd (fun s=>aj s.1) (fun s z=>aD z (ag s.1)) Rz s (dD a6 sig w t s):=
 db cG w t (s:=s) hN (fun l hl z hz=>(hs.row l hl).2 z hz)
theorem Lh.start {n:aQ}(hm:aV n)(hf:ch n)(hu:∀s:Nat,s<n.sg.length->wB n n.ms.length s<=4):Lh n ((kq n,false),(pS n n.ms.length).1):=by
 have h1:=(pv hm n.ms.length (Nat.le_refl _)).1
 refine⟨GZ hm hf,rfl,h1.len,fun s hs=> ?_⟩
 obtain⟨i,hi,rfl⟩:=List.getElem_of_mem hs
 have h2:=h1.row i (by rw[<-h1.len];exact hi)
 have h3:=hu i (by rw[<-h1.len];exact hi)
 rw[List.getD_eq_getElem?_getD,List.getElem?_eq_getElem hi] at h2
 have h4:ag (kq n)=((pS n n.ms.length).2:Nat):=yr hm
 show((pS n n.ms.length).1[i]).length<=4/\∀z,z∈(pS n n.ms.length).1[i]->aD z (ag (kq n))
 rw[h4]
 exact⟨by have:=h2.1;simp only[Option.getD_some] at this;omega,h2.2⟩
theorem Lh.step {n:aQ}(hm:aV n)(hf:ch n){st:(ao×Bool)×List (List Int)}(h:Lh n st){i:Nat}(hi:i<n.aP.length):Lh n (IL n st i):=by
 obtain⟨_,_,h3,_⟩:=gg hm hf hi
 have h4:=nY hm hf h3
 have g:=Fp h.dR h.sig (wN n (dT n i)) (cU n i)
 refine⟨g.i,?_,by unfold IL;rw[List.length_set];exact h.sig.len,fun l hl=> ?_⟩
 ·have h5:(IL n st i).1.1={st.1.1 with af:=(IL n st i).1.1.af}:=g.dX.1.2
  rw[h5,h.eq]
 ·rcases List.mem_or_eq_of_mem_set hl with hl|rfl
  ·exact(h.sig.mono g.dX.1.1).row l hl
  ·exact⟨by rw[cv];omega,g.v⟩
theorem yt {n:aQ}(hm:aV n){s:Nat}(hs:s<n.sg.length)(hk:¬(aY n (s:Nat)=0\/aY n (s:Nat)=3)):gH n.aP (s:Nat) n.aP.length+hJ n.ms (s:Nat) n.ms.length=1:=by
 have h1:=(hm.sg s hs).1
 rw[bG] at hk
 exact hm.R4 s hs (by omega)
theorem MI {n:aQ}(hm:aV n)(hf:ch n):∀s:Nat,s<n.sg.length->wB n n.ms.length s<=4:=fun s hs=>by
 have h4:=nY hm hf (s:=(s:Nat)) (by unfold dr;omega)
 unfold wB
 split
 ·omega
 ·rename_i hk
  have h1:=yt hm hs hk
  have h2:=(mT n.aP (s:Nat) n.aP.length).1
  have h3:=(nX n.ms (s:Nat) n.ms.length).1
  have h5:(hJ n.ms (s:Nat) n.ms.length).toNat=0\/(hJ n.ms (s:Nat) n.ms.length).toNat=1:=by omega
  rcases h5 with h5|h5
  ·rw[h5];omega
  ·rw[h5];omega
theorem px {n:aQ}(hm:aV n)(hf:ch n){l:List Nat}(hl:∀i,i∈l->i<n.aP.length):∀i,i<=l.length->Lh n (fu n l i)
 |0,_=>Lh.start hm hf (MI hm hf)
 |i+1,hi=>(px hm hf hl i (by omega)).step hm hf (hl _ (by rw[List.getD_eq_getElem?_getD,List.getElem?_eq_getElem (by omega)];exact List.getElem_mem _))
theorem MJ {n:aQ}{st:(ao×Bool)×List (List Int)}(h:Lh n st)(i:Nat):st.1.2=true->(IL n st i).1.2=true:=(Fp h.dR h.sig (wN n (dT n i)) (cU n i)).dX.2
theorem J6 {n:aQ}(hm:aV n)(hf:ch n){l:List Nat}(hl:∀i,i∈l->i<n.aP.length){i:Nat}(hb:(fu n l i).1.2=true):∀j,i<=j->j<=l.length->(fu n l j).1.2=true:=fun j kc hj=>by
 obtain⟨d,rfl⟩:=Nat.le.dest kc
 clear kc
 induction d with
 |zero=>exact hb
 |succ d ih=>exact MJ (px hm hf hl (i+d) (by omega)) _ (ih (by omega))
theorem DI {n:aQ}(hm:aV n)(hf:ch n){l:List Nat}(hl:∀i,i∈l->i<n.aP.length):∀i,i<=l.length->∀s:Nat,s<n.sg.length->(((fu n l i).2.getD s default).length=wB n n.ms.length s\/((fu n l i).2.getD s default).length=wN n (s:Nat))/\((∃j,j<i/\dT n (l.getD j 0)=(s:Nat))->((fu n l i).2.getD s default).length=wN n (s:Nat))
 |0,_,s,hs=>⟨.inl ((pv hm n.ms.length (Nat.le_refl _)).1.row s hs).1,fun⟨j,hj,_⟩=>absurd hj (Nat.not_lt_zero _)⟩
 |i+1,hi,s,hs=>by
  have ih:=DI hm hf hl i (by omega) s hs
  have pW:l.getD i 0<n.aP.length:=hl _ (by rw[List.getD_eq_getElem?_getD,List.getElem?_eq_getElem (by omega)];exact List.getElem_mem _)
  obtain⟨_,_,h3,_⟩:=gg hm hf pW
  unfold dr at h3
  have sY:=(px hm hf hl i (by omega)).sig.len
  have hr:(fu n l (i+1)).2.getD s default=if s=(dT n (l.getD i 0)).toNat then(dD a6 (fu n l i).2 (wN n (dT n (l.getD i 0))) (cU n (l.getD i 0)) (fu n l i).1).2 else(fu n l i).2.getD s default:=cH (by omega)
  by_cases he:s=(dT n (l.getD i 0)).toNat
  ·have:((fu n l (i+1)).2.getD s default).length=wN n (s:Nat):=by
    rw[hr,if_pos he,cv]
    rw[show((s:Nat):Int)=dT n (l.getD i 0) by omega]
   exact⟨.inr this,fun _=>this⟩
  ·rw[hr,if_neg he]
   refine⟨ih.1,fun⟨j,hj,Xg⟩=>ih.2 ⟨j,?_,Xg⟩⟩
   by_cases EB:j=i
   ·subst EB;exact absurd (show s=(dT n (l.getD j 0)).toNat by omega) he
   ·omega
theorem BV {R:List MC}{s:Int}:∀{i:Nat},0<gH R s i->∃j,j<i/\(R.getD j default).tg=s
 |0,h=>absurd h (by simp[gH])
 |i+1,h=>by
  rw[gH] at h
  split at h
  ·rename_i he;exact⟨i,by omega,he⟩
  ·obtain⟨j,h1,h2⟩:=BV h
   exact⟨j,by omega,h2⟩
theorem J7 {n:aQ}(hm:aV n)(hf:ch n){l:List Nat}(he:gQ n=some l):∀s:Nat,s<n.sg.length->((fu n l l.length).2.getD s default).length=wN n (s:Nat):=fun s hs=>by
 obtain⟨_,jg,_⟩:=iW he
 obtain⟨h1,h2⟩:=DI hm hf (fun i hi=>(jg i hi).1) l.length (Nat.le_refl _) s hs
 rcases h1 with h1|h1
 ·rw[h1]
  unfold wB
  split
  ·rfl
  ·rename_i hk
   have h3:=yt hm hs hk
   have h4:=(mT n.aP (s:Nat) n.aP.length).1
   have h5:=(nX n.ms (s:Nat) n.ms.length).1
   by_cases h6:hJ n.ms (s:Nat) n.ms.length=1
   ·rw[h6];show 1*_=_;omega
   ·obtain⟨j,hj,Xg⟩:=BV (R:=n.aP) (s:=(s:Nat)) (i:=n.aP.length) (by omega)
    have V3:=J4 he hj (by unfold dT;rw[Xg];omega)
    obtain⟨k,p6,R5⟩:=List.getElem_of_mem V3
    have h7:=h2 ⟨k,p6,by
     rw[List.getD_eq_getElem?_getD,List.getElem?_eq_getElem p6]
     show dT n l[k]=_
     rw[R5];exact Xg⟩
    rw[h1] at h7
    unfold wB at h7
    rw[if_neg hk] at h7
    exact h7
 ·exact h1
end Go.Xw
