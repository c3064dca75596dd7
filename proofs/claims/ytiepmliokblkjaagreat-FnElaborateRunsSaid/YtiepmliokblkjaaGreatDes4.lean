/- A flat module that grows by a module of a design; under its stated conditions. Printed by wip/gen_des4.py. -/
import Derived.Test.YtiepmliokblkjaaGreatBrf
import Derived.Test.YtiepmliokblkjaaGreatDes3
import Derived.Test.YtiepmliokblkjaaGreatElabM
set_option linter.all false
namespace Go.Xw
def AsW (y:qJ):Prop:=da y.tg/\y.ops.length<=15/\∀o,o∈y.ops->sU o
structure FlW (f:bm):Prop where
 sg:∀s,s∈f.sg->Fk s
 aP:∀y,y∈f.aP->AsW y
 ins:f.ins=[]
 ms:∀m,m∈f.ms->JW m
structure Ek (f:bm):Prop where
 w:FlW f
 l1:f.sg.length<=30
 l2:f.aP.length<=30
 l3:f.ms.length<=2
def zQ (I:List Int)(n:Nat):Prop:=∀j,j<I.length->0<=I.getD j default/\I.getD j default<n
theorem zQ.mono {I:List Int}{m n:Nat}(h:zQ I m)(hmn:m<=n):zQ I n:=fun j hj=>⟨(h j hj).1,by have:=(h j hj).2;omega⟩
theorem zQ.snoc {I:List Int}{n:Nat}(h:zQ I n){z:Int}(hz:0<=z/\z<n):zQ (I++[z]) n:=fun j hj=>by
 by_cases dC:j<I.length
 ·rw[du dC];exact h j dC
 ·rw[List.length_append,List.length_singleton] at hj
  rw[show j=I.length by omega,List.getD_eq_getElem?_getD,List.getElem?_concat_length]
  exact hz
theorem El {w0 w:World}{L:List bh}{R:List qJ}{y:qJ}(h:Hp w0 w (rO 132 3 kf y.oa y.oc y.ops::tY R::L)):Hp w0 w (tY (R++[y])::L):=by
 have h1:Hp w0 w (R.map (fun s=>rO 132 3 kf s.oa s.oc s.ops)++(rO 132 3 kf y.oa y.oc y.ops::L)):=h.f1.unpack
 refine Hp.pack (Hp.perm h1 ?_)
 simp only[List.map_append,List.map_cons,List.map_nil,List.append_assoc]
 exact .refl _
theorem fY {α:Type}{X:List α}{x y:α}(h:y∈X++[x]):y∈X\/y=x:=by
 rcases List.mem_append.1 h with h|h
 ·exact .inl h
 ·exact .inr (List.mem_singleton.1 h)
end Go.Xw
namespace Go.Proofs
open Go.Xw
set_option maxRecDepth 100000
set_option maxHeartbeats 4000000
attribute [local irreducible] ax aE
theorem zm (D:ku)(hOk:∀k,k<D.ms.length->Xv D.ms k)(hO:Ed D.ms):∀K k:Nat,k<K->k<D.ms.length->∀{w0 w:World} {L:List bh} (p:Int) (SB:Bool) (Hn:List Int) (pa:Option Addr) (pc:Nat) (f:bm),(0<=p/\p<=15)->(SB=true->Hn.length=(gS (D.ms.getD k default).n).length)->zQ Hn f.sg.length->Ek f->[qW w0 L D]->[gm w0 L pa 1 eI Hn]->Hp w0 w (mS f::L)->
  bN Tryz.prog 159 [D.v,.int .i64 ((k:Nat):Int),.int .i64 p,.bool SB,.slice pa Hn.length pc,f.v] w (fun r w'=>∃(y:bm) (b:Bool),r= .tuple ⟨[y.v,.bool b]⟩/\((b=true/\(Ek y/\f.sg.length<=y.sg.length)/\Hp w0 w' (mS y::L))\/(b=false/\Hp w0 w' L)))
 |0,k,hk,_,_,_,_,_,_,_,_,_,_,_,_,_,_,_,_,_=>absurd hk (Nat.not_lt_zero _)
 |K+1,k,hkK,lk,w0,w,L,p,SB,Hn,pa,pc,f,IQ,Ti,MR,hf,_,_,hp=>by
  have hM:=hOk k lk
  have ldk:Ln k D.ms:=⟨lk⟩
  have q1:=hM.ct.sg k lk
  have q2:=hM.ct.aP k lk
  have q3:=hM.ct.il k lk
  have q4:=hM.ct.ms k lk
  have q0:=hM.ct.len
  have l1:=hf.l1
  have l2:=hf.l2
  have l3:=hf.l3
  have hW:=hf.w
  have hp:=AA hp
  refine vJ Tryz.QV ?_;intro C
  refine bP hp ?_;intro w b6 hx hp;refine az ?_
  refine bP hp ?_;intro w wX hx hp;refine az ?_
  refine bP hp ?_;intro w ti hx hp;refine az ?_;(repeat(refine ah ?_;first|refine aI hp ?_|refine bb hp ?_))
  have ePL:gS (D.ms.getD k default).n=fN (D.ms.getD k default).n (D.ms.getD k default).sg.length:=if_pos q1
  refine bP hp ?_;intro w Cd hx hp;refine az ?_;(repeat(first|(refine aH ?_;refine aW hp ?_;intro w hp;refine az ?_)|(refine bK ?_;refine gG hp ?_;intro w _ hx hp;refine az ?_)))
  refine lU [2,3,4,6,11,12,14,15,16,17] (fun(i:Nat) (n:Nat) (I:List Int) (ia:Option Addr) (ic:Nat)=>[(2,.int .i64 p),(3,.bool SB),(4,.slice pa Hn.length pc),(6,.pointer (some ⟨b6,0,none⟩)),(11,.pointer (some ⟨wX,0,none⟩)),(12,.pointer (some ⟨ti,0,none⟩)),(14,.pointer (some ⟨Cd,0,none⟩)),(15,.slice ia I.length ic),(16,.int .i64 (n:Int)),(17,.int .i64 (i:Int))])
   (fun i n I ia ic w'=>(i<=(D.ms.getD k default).sg.length/\I.length=i/\(SB=true->n=(fN (D.ms.getD k default).n i).length))/\∃(S:List pQ) (sa:Option Addr) (sc:Nat),(zQ I S.length/\(f.sg.length<=S.length/\S.length<=30+i)/\∀s,s∈S->Fk s)/\Hp w0 w' (rO 3 1 eI ia ic I::rO 66 3 n7 sa sc S::rB Cd 41 (D.ms.getD k default).cs::rB ti 41 (aL Tryz.np.zero)::rB wX 41 [.slice sa S.length sc,.slice f.aa f.aP.length f.ac,.slice f.ia f.ins.length f.ic,.slice f.ma f.ms.length f.mc]::rB b6 136 D.cs::wy f.aa f.ac f.aP::kP f.ia f.ic f.ins::rO 70 4 p9 f.ma f.mc f.ms::L)) (fun i _ _ _ _=>(D.ms.getD k default).sg.length-i) 0 0 [] _ _ rfl ⟨⟨by omega,rfl,fun _=>rfl⟩,f.sg,f.sa,f.sc,⟨fun j hj=>absurd hj (Nat.not_lt_zero _),⟨by omega,by omega⟩,hW.sg⟩,?_⟩ ?_
  ·exact hp.f4.f4.f4.f4.f5.f5
  clear hp
  rintro i n I ia ic w1 ⟨⟨hi,Lo,hn⟩,S,sa,sc,⟨hI,⟨AI,zy⟩,Nx⟩,hp⟩ IH C
  refine bL ?_;refine aI hp ?_
  apply ae<;>intro bD
  ·have aF:i<(D.ms.getD k default).sg.length:=by omega
   have zM:=hM.sg i aF
   refine aN ?_;(repeat(refine ah ?_;first|refine aI hp ?_|refine bb hp ?_))
   refine bP hp ?_;intro w b18 hx hp;refine az ?_;(repeat(first|(refine ah ?_;refine aI hp ?_)|(refine aH ?_;refine aW hp ?_;intro w hp;refine az ?_)))
   apply ae<;>intro hw
   ·refine aN ?_;refine iE hp ?_;intro w hp;refine az ?_
    obtain⟨x',IP⟩:∃x':pQ,x'=⟨((D.ms.getD k default).sg.getD i default).kind,p,((D.ms.getD k default).sg.getD i default).init⟩:=⟨_,rfl⟩
    have e1:x'.kind=((D.ms.getD k default).sg.getD i default).kind:=by rw[IP]
    have e2:x'.width=p:=by rw[IP]
    have e3:x'.init=((D.ms.getD k default).sg.getD i default).init:=by rw[IP]
    have hp:Hp w0 w (rB b18 66 [.int .i64 x'.kind,.int .i64 x'.width,.int .i64 x'.init]::rO 3 1 eI ia ic I::rO 66 3 n7 sa sc S::rB Cd 41 (D.ms.getD k default).cs::rB ti 41 (aL Tryz.np.zero)::rB wX 41 [.slice sa S.length sc,.slice f.aa f.aP.length f.ac,.slice f.ia f.ins.length f.ic,.slice f.ma f.ms.length f.mc]::rB b6 136 D.cs::wy f.aa f.ac f.aP::kP f.ia f.ic f.ins::rO 70 4 p9 f.ma f.mc f.ms::L):=by rw[e1,e2,e3];exact hp
    have WD:Fk x':=by unfold Fk da;omega
    have SC:¬(((D.ms.getD k default).sg.getD i default).kind=0\/((D.ms.getD k default).sg.getD i default).kind=1)->fN (D.ms.getD k default).n (i+1)=fN (D.ms.getD k default).n i:=fun h=>by rw[fN,if_neg (by rw[bG];exact h)]
    have Em:(((D.ms.getD k default).sg.getD i default).kind=0\/((D.ms.getD k default).sg.getD i default).kind=1)->fN (D.ms.getD k default).n (i+1)=fN (D.ms.getD k default).n i++[((i:Nat):Int)]/\(fN (D.ms.getD k default).n i).length<(fN (D.ms.getD k default).n (D.ms.getD k default).sg.length).length:=fun h=>⟨by rw[fN,if_pos (by rw[bG];exact h)],Hm (D.ms.getD k default).n aF (by rw[bG];exact h)⟩
    clear IP
    cases SB with
    |true=>
     have hn:=hn rfl
     have Ti:=Ti rfl
     rw[ePL] at Ti
     (repeat(first|(refine aG ?_;refine aO ?_)|(refine ah ?_;refine aI hp ?_)))
     (first|apply fx|apply cf)<;>intro g1 e<;>rw[e]<;>clear e;all_goals((repeat(first|(refine aG ?_;first|refine aO ?_|refine ba ?_)|(refine ah ?_;refine aI hp ?_))))
     ·refine aN ?_
      obtain⟨eT,hlp⟩:=Em (.inl (by omega))
      have Fw:n<Hn.length:=by omega
      have hpn:=MR n Fw
      have HN:n<=30:=by have:=nf (D.ms.getD k default).n i;omega
      refine j7 hp ?_;intro w hx hp;have hs:=hp;(repeat(refine ah ?_;first|refine dN ?_|refine fc ?_|refine iC rfl (by omega) (by omega) rfl rfl rfl ?_))
      skip
      apply ae<;>intro g3
      ·refine aN ?_;(repeat(first|(refine ah ?_;refine aI hp ?_)|(refine aH ?_;refine aW hp ?_;intro w hp;refine az ?_)|(refine dA ?_;refine bg hp rfl ?_)))
       exact⟨⟨S,sa,sc,f.aP,f.aa,f.ac,f.ins,f.ia,f.ic,f.ms,f.ma,f.mc⟩,false,rfl,.inr ⟨rfl,hp.drop.drop.drop.drop.drop.drop.drop.drop.drop.drop⟩⟩
      ·refine aM ?_;(repeat(first|(refine ah ?_;refine bb hp ?_)|(refine bK ?_;refine gG hp ?_;intro w _ hx hp;refine az ?_)))
       refine gT hp ?_;intro i2 j2 w hp bZ;refine az ?_
       have hp:=hp.drop.drop
       refine IH (i+1) (n+1) (I++[Hn.getD n default]) i2 j2 _ _ _ (by omega) rfl ⟨⟨by omega,by rw[List.length_append,Lo];rfl,fun _=>by rw[eT,List.length_append,<-hn];rfl⟩,S,sa,sc,⟨hI.snoc (by omega),⟨by omega,by omega⟩,Nx⟩,hp⟩
     ·apply ae<;>intro g2
      ·refine aN ?_
       obtain⟨eT,hlp⟩:=Em (.inr (by omega))
       have Fw:n<Hn.length:=by omega
       have hpn:=MR n Fw
       have HN:n<=30:=by have:=nf (D.ms.getD k default).n i;omega
       refine j7 hp ?_;intro w hx hp;have hs:=hp;(repeat(refine ah ?_;first|refine dN ?_|refine fc ?_|refine iC rfl (by omega) (by omega) rfl rfl rfl ?_))
       skip
       apply ae<;>intro g3
       ·refine aN ?_;(repeat(first|(refine ah ?_;refine aI hp ?_)|(refine aH ?_;refine aW hp ?_;intro w hp;refine az ?_)|(refine dA ?_;refine bg hp rfl ?_)))
        exact⟨⟨S,sa,sc,f.aP,f.aa,f.ac,f.ins,f.ia,f.ic,f.ms,f.ma,f.mc⟩,false,rfl,.inr ⟨rfl,hp.drop.drop.drop.drop.drop.drop.drop.drop.drop.drop⟩⟩
       ·refine aM ?_;(repeat(first|(refine ah ?_;refine bb hp ?_)|(refine bK ?_;refine gG hp ?_;intro w _ hx hp;refine az ?_)))
        refine gT hp ?_;intro i2 j2 w hp bZ;refine az ?_
        have hp:=hp.drop.drop
        refine IH (i+1) (n+1) (I++[Hn.getD n default]) i2 j2 _ _ _ (by omega) rfl ⟨⟨by omega,by rw[List.length_append,Lo];rfl,fun _=>by rw[eT,List.length_append,<-hn];rfl⟩,S,sa,sc,⟨hI.snoc (by omega),⟨by omega,by omega⟩,Nx⟩,hp⟩
      ·have eT:=SC (by omega)
       refine aM ?_;(repeat(first|(refine ah ?_;refine aI hp ?_)|(refine bK ?_;refine gG hp ?_;intro w _ hx hp;refine az ?_)))
       refine gT hp ?_;intro i2 j2 w hp bZ;refine az ?_;(repeat(refine aI hp ?_))
       refine lX hp n7 [x'] ?_;intro w bl hx hp;refine az ?_
       refine gT hp ?_;intro s2 t2 w hp bZ;refine az ?_;refine iE hp ?_;intro w hp;refine az ?_
       have hp:=hp.drop.drop.drop
       have sb:(S++[x']).length=S.length+1:=by rw[List.length_append];rfl
       refine IH (i+1) n (I++[((S.length:Nat):Int)]) i2 j2 _ _ _ (by omega) rfl ⟨⟨by omega,by rw[List.length_append,Lo];rfl,by first|exact eT|(intro _;rw[eT];exact hn)⟩,S++[x'],s2,t2,⟨(hI.mono (by omega)).snoc (by omega),⟨by omega,by omega⟩,fun s hs=> ?_⟩,hp⟩
       rcases fY hs with hs|rfl
       ·exact Nx s hs
       ·exact WD
    |false=>
     have eT:(false=true->n=(fN (D.ms.getD k default).n (i+1)).length):=fun h=>Bool.noConfusion h
     (repeat(refine ba ?_))
     refine aM ?_;(repeat(first|(refine ah ?_;refine aI hp ?_)|(refine bK ?_;refine gG hp ?_;intro w _ hx hp;refine az ?_)))
     refine gT hp ?_;intro i2 j2 w hp bZ;refine az ?_;(repeat(refine aI hp ?_))
     refine lX hp n7 [x'] ?_;intro w bl hx hp;refine az ?_
     refine gT hp ?_;intro s2 t2 w hp bZ;refine az ?_;refine iE hp ?_;intro w hp;refine az ?_
     have hp:=hp.drop.drop.drop
     have sb:(S++[x']).length=S.length+1:=by rw[List.length_append];rfl
     refine IH (i+1) n (I++[((S.length:Nat):Int)]) i2 j2 _ _ _ (by omega) rfl ⟨⟨by omega,by rw[List.length_append,Lo];rfl,by first|exact eT|(intro _;rw[eT];exact hn)⟩,S++[x'],s2,t2,⟨(hI.mono (by omega)).snoc (by omega),⟨by omega,by omega⟩,fun s hs=> ?_⟩,hp⟩
     rcases fY hs with hs|rfl
     ·exact Nx s hs
     ·exact WD
   ·refine aM ?_
    obtain⟨x',IP⟩:∃x':pQ,x'=(D.ms.getD k default).sg.getD i default:=⟨_,rfl⟩
    have e1:x'.kind=((D.ms.getD k default).sg.getD i default).kind:=by rw[IP]
    have e2:x'.width=((D.ms.getD k default).sg.getD i default).width:=by rw[IP]
    have e3:x'.init=((D.ms.getD k default).sg.getD i default).init:=by rw[IP]
    have hp:Hp w0 w (rB b18 66 [.int .i64 x'.kind,.int .i64 x'.width,.int .i64 x'.init]::rO 3 1 eI ia ic I::rO 66 3 n7 sa sc S::rB Cd 41 (D.ms.getD k default).cs::rB ti 41 (aL Tryz.np.zero)::rB wX 41 [.slice sa S.length sc,.slice f.aa f.aP.length f.ac,.slice f.ia f.ins.length f.ic,.slice f.ma f.ms.length f.mc]::rB b6 136 D.cs::wy f.aa f.ac f.aP::kP f.ia f.ic f.ins::rO 70 4 p9 f.ma f.mc f.ms::L):=by rw[e1,e2,e3];exact hp
    have WD:Fk x':=by unfold Fk da;omega
    have SC:¬(((D.ms.getD k default).sg.getD i default).kind=0\/((D.ms.getD k default).sg.getD i default).kind=1)->fN (D.ms.getD k default).n (i+1)=fN (D.ms.getD k default).n i:=fun h=>by rw[fN,if_neg (by rw[bG];exact h)]
    have Em:(((D.ms.getD k default).sg.getD i default).kind=0\/((D.ms.getD k default).sg.getD i default).kind=1)->fN (D.ms.getD k default).n (i+1)=fN (D.ms.getD k default).n i++[((i:Nat):Int)]/\(fN (D.ms.getD k default).n i).length<(fN (D.ms.getD k default).n (D.ms.getD k default).sg.length).length:=fun h=>⟨by rw[fN,if_pos (by rw[bG];exact h)],Hm (D.ms.getD k default).n aF (by rw[bG];exact h)⟩
    clear IP
    cases SB with
    |true=>
     have hn:=hn rfl
     have Ti:=Ti rfl
     rw[ePL] at Ti
     (repeat(first|(refine aG ?_;refine aO ?_)|(refine ah ?_;refine aI hp ?_)))
     (first|apply fx|apply cf)<;>intro g1 e<;>rw[e]<;>clear e;all_goals((repeat(first|(refine aG ?_;first|refine aO ?_|refine ba ?_)|(refine ah ?_;refine aI hp ?_))))
     ·refine aN ?_
      obtain⟨eT,hlp⟩:=Em (.inl (by omega))
      have Fw:n<Hn.length:=by omega
      have hpn:=MR n Fw
      have HN:n<=30:=by have:=nf (D.ms.getD k default).n i;omega
      refine j7 hp ?_;intro w hx hp;have hs:=hp;(repeat(refine ah ?_;first|refine dN ?_|refine fc ?_|refine iC rfl (by omega) (by omega) rfl rfl rfl ?_))
      skip
      apply ae<;>intro g3
      ·refine aN ?_;(repeat(first|(refine ah ?_;refine aI hp ?_)|(refine aH ?_;refine aW hp ?_;intro w hp;refine az ?_)|(refine dA ?_;refine bg hp rfl ?_)))
       exact⟨⟨S,sa,sc,f.aP,f.aa,f.ac,f.ins,f.ia,f.ic,f.ms,f.ma,f.mc⟩,false,rfl,.inr ⟨rfl,hp.drop.drop.drop.drop.drop.drop.drop.drop.drop.drop⟩⟩
      ·refine aM ?_;(repeat(first|(refine ah ?_;refine bb hp ?_)|(refine bK ?_;refine gG hp ?_;intro w _ hx hp;refine az ?_)))
       refine gT hp ?_;intro i2 j2 w hp bZ;refine az ?_
       have hp:=hp.drop.drop
       refine IH (i+1) (n+1) (I++[Hn.getD n default]) i2 j2 _ _ _ (by omega) rfl ⟨⟨by omega,by rw[List.length_append,Lo];rfl,fun _=>by rw[eT,List.length_append,<-hn];rfl⟩,S,sa,sc,⟨hI.snoc (by omega),⟨by omega,by omega⟩,Nx⟩,hp⟩
     ·apply ae<;>intro g2
      ·refine aN ?_
       obtain⟨eT,hlp⟩:=Em (.inr (by omega))
       have Fw:n<Hn.length:=by omega
       have hpn:=MR n Fw
       have HN:n<=30:=by have:=nf (D.ms.getD k default).n i;omega
       refine j7 hp ?_;intro w hx hp;have hs:=hp;(repeat(refine ah ?_;first|refine dN ?_|refine fc ?_|refine iC rfl (by omega) (by omega) rfl rfl rfl ?_))
       skip
       apply ae<;>intro g3
       ·refine aN ?_;(repeat(first|(refine ah ?_;refine aI hp ?_)|(refine aH ?_;refine aW hp ?_;intro w hp;refine az ?_)|(refine dA ?_;refine bg hp rfl ?_)))
        exact⟨⟨S,sa,sc,f.aP,f.aa,f.ac,f.ins,f.ia,f.ic,f.ms,f.ma,f.mc⟩,false,rfl,.inr ⟨rfl,hp.drop.drop.drop.drop.drop.drop.drop.drop.drop.drop⟩⟩
       ·refine aM ?_;(repeat(first|(refine ah ?_;refine bb hp ?_)|(refine bK ?_;refine gG hp ?_;intro w _ hx hp;refine az ?_)))
        refine gT hp ?_;intro i2 j2 w hp bZ;refine az ?_
        have hp:=hp.drop.drop
        refine IH (i+1) (n+1) (I++[Hn.getD n default]) i2 j2 _ _ _ (by omega) rfl ⟨⟨by omega,by rw[List.length_append,Lo];rfl,fun _=>by rw[eT,List.length_append,<-hn];rfl⟩,S,sa,sc,⟨hI.snoc (by omega),⟨by omega,by omega⟩,Nx⟩,hp⟩
      ·have eT:=SC (by omega)
       refine aM ?_;(repeat(first|(refine ah ?_;refine aI hp ?_)|(refine bK ?_;refine gG hp ?_;intro w _ hx hp;refine az ?_)))
       refine gT hp ?_;intro i2 j2 w hp bZ;refine az ?_;(repeat(refine aI hp ?_))
       refine lX hp n7 [x'] ?_;intro w bl hx hp;refine az ?_
       refine gT hp ?_;intro s2 t2 w hp bZ;refine az ?_;refine iE hp ?_;intro w hp;refine az ?_
       have hp:=hp.drop.drop.drop
       have sb:(S++[x']).length=S.length+1:=by rw[List.length_append];rfl
       refine IH (i+1) n (I++[((S.length:Nat):Int)]) i2 j2 _ _ _ (by omega) rfl ⟨⟨by omega,by rw[List.length_append,Lo];rfl,by first|exact eT|(intro _;rw[eT];exact hn)⟩,S++[x'],s2,t2,⟨(hI.mono (by omega)).snoc (by omega),⟨by omega,by omega⟩,fun s hs=> ?_⟩,hp⟩
       rcases fY hs with hs|rfl
       ·exact Nx s hs
       ·exact WD
    |false=>
     have eT:(false=true->n=(fN (D.ms.getD k default).n (i+1)).length):=fun h=>Bool.noConfusion h
     (repeat(refine ba ?_))
     refine aM ?_;(repeat(first|(refine ah ?_;refine aI hp ?_)|(refine bK ?_;refine gG hp ?_;intro w _ hx hp;refine az ?_)))
     refine gT hp ?_;intro i2 j2 w hp bZ;refine az ?_;(repeat(refine aI hp ?_))
     refine lX hp n7 [x'] ?_;intro w bl hx hp;refine az ?_
     refine gT hp ?_;intro s2 t2 w hp bZ;refine az ?_;refine iE hp ?_;intro w hp;refine az ?_
     have hp:=hp.drop.drop.drop
     have sb:(S++[x']).length=S.length+1:=by rw[List.length_append];rfl
     refine IH (i+1) n (I++[((S.length:Nat):Int)]) i2 j2 _ _ _ (by omega) rfl ⟨⟨by omega,by rw[List.length_append,Lo];rfl,by first|exact eT|(intro _;rw[eT];exact hn)⟩,S++[x'],s2,t2,⟨(hI.mono (by omega)).snoc (by omega),⟨by omega,by omega⟩,fun s hs=> ?_⟩,hp⟩
     rcases fY hs with hs|rfl
     ·exact Nx s hs
     ·exact WD
  ·refine aM ?_
   obtain rfl:i=(D.ms.getD k default).sg.length:=by omega
   clear IH hn
   have hS3:S.length<=60:=by omega
   have hp:=DC hp.f6
   refine aR [2,6,11,12,14,15,19] (fun(i:Nat)=>[(2,.int .i64 p),(6,.pointer (some ⟨b6,0,none⟩)),(11,.pointer (some ⟨wX,0,none⟩)),(12,.pointer (some ⟨ti,0,none⟩)),(14,.pointer (some ⟨Cd,0,none⟩)),(15,.slice ia I.length ic),(19,.int .i64 (i:Int))])
    (fun i w'=>i<=(D.ms.getD k default).aP.length/\∃(A:List qJ) (aa:Option Addr) (ac:Nat),(A.length<=30+i/\∀y,y∈A->AsW y)/\Hp w0 w' (rO 75 2 BN aa ac A::tY A::rO 3 1 eI ia ic I::rO 66 3 n7 sa sc S::rB Cd 41 (D.ms.getD k default).cs::rB ti 41 (aL Tryz.np.zero)::rB wX 41 [.slice sa S.length sc,.slice aa A.length ac,.slice f.ia f.ins.length f.ic,.slice f.ma f.ms.length f.mc]::rB b6 136 D.cs::kP f.ia f.ic f.ins::rO 70 4 p9 f.ma f.mc f.ms::L)) (fun i=>(D.ms.getD k default).aP.length-i) 0 rfl ⟨by omega,f.aP,f.aa,f.ac,⟨by omega,hW.aP⟩,hp⟩ ?_
   clear hp
   rintro i w1 ⟨mh,A,aa,ac,⟨hA1,Xc⟩,hp⟩ IH C
   refine bL ?_;refine aI hp ?_
   apply ae<;>intro jK
   ·have aF:i<(D.ms.getD k default).aP.length:=by omega
    have la:Lf i (D.ms.getD k default).aP:=⟨aF⟩
    have htg:=hM.tg i aF
    have HH:=hM.ops i aF
    have jL:=HH.len
    have zv:=(hO k lk i aF).2
    unfold dr at htg
    change 0<=((D.ms.getD k default).aP.getD i default).tg/\((D.ms.getD k default).aP.getD i default).tg<(D.ms.getD k default).sg.length at htg
    have htI:=hI ((D.ms.getD k default).aP.getD i default).tg.toNat (by omega)
    refine aN ?_;(repeat(refine ah ?_;first|refine aI hp ?_|refine dg hp ?_|refine ik hp ?_))
    refine bP hp ?_;intro w b20 hx hp;refine az ?_;refine aW hp ?_;intro w hp;refine az ?_
    obtain⟨z,hz⟩:∃z,z=I.getD ((D.ms.getD k default).aP.getD i default).tg.toNat default:=⟨_,rfl⟩
    rw[<-hz] at htI
    refine aR [2,6,11,12,14,15,19,20,21] (fun(j:Nat)=>[(2,.int .i64 p),(6,.pointer (some ⟨b6,0,none⟩)),(11,.pointer (some ⟨wX,0,none⟩)),(12,.pointer (some ⟨ti,0,none⟩)),(14,.pointer (some ⟨Cd,0,none⟩)),(15,.slice ia I.length ic),(19,.int .i64 (i:Int)),(20,.pointer (some ⟨b20,0,none⟩)),(21,.int .i64 (j:Int))])
     (fun j w'=>j<=((D.ms.getD k default).aP.getD i default).ops.length/\∃(O:List dK) (oa:Option Addr) (oc:Nat),(O.length=j/\∀o,o∈O->sU o)/\Hp w0 w' (rO 132 3 kf oa oc O::rB b20 75 [.int .i64 z,.slice oa O.length oc]::rO 75 2 BN aa ac A::tY A::rO 3 1 eI ia ic I::rO 66 3 n7 sa sc S::rB Cd 41 (D.ms.getD k default).cs::rB ti 41 (aL Tryz.np.zero)::rB wX 41 [.slice sa S.length sc,.slice aa A.length ac,.slice f.ia f.ins.length f.ic,.slice f.ma f.ms.length f.mc]::rB b6 136 D.cs::kP f.ia f.ic f.ins::rO 70 4 p9 f.ma f.mc f.ms::L)) (fun j=>((D.ms.getD k default).aP.getD i default).ops.length-j) 0 rfl ⟨by omega,[],none,0,⟨rfl,fun o ho=>by cases ho⟩,?_⟩ ?_
    ·subst hz
     exact hp.eH (Ext.refl _) (dk.nil _ _ _ _ _)
    clear hp
    rintro j w1 ⟨hj,O,oa,oc,⟨Fv,yP⟩,hp⟩ kE C
    refine bL ?_;(repeat(refine ah ?_;first|refine aI hp ?_|refine dg hp ?_))
    apply ae<;>intro Ks
    ·have zf:j<((D.ms.getD k default).aP.getD i default).ops.length:=by omega
     have rP:=(HH.each j zf).2
     have kc:=zv j zf
     refine aN ?_;(repeat(refine ah ?_;first|refine aI hp ?_|refine bb hp ?_|refine dg hp ?_))
     refine bP hp ?_;intro w b22 hx hp;refine az ?_;(repeat(first|(refine ah ?_;refine aI hp ?_)|(refine aH ?_;refine aW hp ?_;intro w hp;refine az ?_)))
     obtain⟨o,hoe⟩:∃o,o=((D.ms.getD k default).aP.getD i default).ops.getD j default:=⟨_,rfl⟩
     rw[<-hoe] at hp rP kc⊢
     unfold u6 at kc
     apply ae<;>intro k1
     ·refine aN ?_;(repeat(first|(refine ah ?_;refine aI hp ?_)|(refine aH ?_;refine aW hp ?_;intro w hp;refine az ?_)))
      refine lX hp kf [(⟨0,p,0⟩:dK)] ?_;intro w bl hx hp;refine az ?_
      refine gT hp ?_;intro o2 c2 w hp bZ;refine az ?_;refine iE hp ?_;intro w hp;refine az ?_
      refine kE (j+1) _ _ _ (by omega) rfl ⟨by omega,O++[(⟨0,p,0⟩:dK)],o2,c2,⟨by rw[List.length_append,Fv];rfl,fun q hq=> ?_⟩,(hp.drop.drop).f1.f1⟩
      rcases fY hq with hq|rfl
      ·exact yP q hq
      ·unfold sU da at*
       try dsimp only
       omega
     ·refine aM ?_
      apply ae<;>intro k2
      ·refine aN ?_
       apply ae<;>intro WE
       ·have Nh:=(yj k2).1 rP
        have hIa:=hI o.a.toNat (by omega)
        refine aN ?_;(repeat(first|(refine ah ?_;first|refine aI hp ?_|refine ik hp ?_)|(refine aH ?_;refine iE hp ?_;intro w hp;refine az ?_)))
        refine lX hp kf [(⟨o.kind,I.getD o.a.toNat default,o.b⟩:dK)] ?_;intro w bl hx hp;refine az ?_
        refine gT hp ?_;intro o2 c2 w hp bZ;refine az ?_;refine iE hp ?_;intro w hp;refine az ?_
        refine kE (j+1) _ _ _ (by omega) rfl ⟨by omega,O++[(⟨o.kind,I.getD o.a.toNat default,o.b⟩:dK)],o2,c2,⟨by rw[List.length_append,Fv];rfl,fun q hq=> ?_⟩,(hp.drop.drop).f1.f1⟩
        rcases fY hq with hq|rfl
        ·exact yP q hq
        ·unfold sU da at*
         try dsimp only
         omega
       ·exact absurd k2 WE
      ·refine aM ?_
       apply ae<;>intro k3
       ·have Nh:=(yk k3).1 rP
        have hIa:=hI o.a.toNat (by omega)
        refine aN ?_;(repeat(first|(refine ah ?_;first|refine aI hp ?_|refine ik hp ?_)|(refine aH ?_;refine iE hp ?_;intro w hp;refine az ?_)))
        refine lX hp kf [(⟨o.kind,I.getD o.a.toNat default,o.b⟩:dK)] ?_;intro w bl hx hp;refine az ?_
        refine gT hp ?_;intro o2 c2 w hp bZ;refine az ?_;refine iE hp ?_;intro w hp;refine az ?_
        refine kE (j+1) _ _ _ (by omega) rfl ⟨by omega,O++[(⟨o.kind,I.getD o.a.toNat default,o.b⟩:dK)],o2,c2,⟨by rw[List.length_append,Fv];rfl,fun q hq=> ?_⟩,(hp.drop.drop).f1.f1⟩
        rcases fY hq with hq|rfl
        ·exact yP q hq
        ·unfold sU da at*
         try dsimp only
         omega
       ·refine aM ?_;(repeat(refine aI hp ?_))
        refine lX hp kf [o] ?_;intro w bl hx hp;refine az ?_
        refine gT hp ?_;intro o2 c2 w hp bZ;refine az ?_;refine iE hp ?_;intro w hp;refine az ?_
        refine kE (j+1) _ _ _ (by omega) rfl ⟨by omega,O++[o],o2,c2,⟨by rw[List.length_append,Fv];rfl,fun q hq=> ?_⟩,(hp.drop.drop).f1.f1⟩
        rcases fY hq with hq|rfl
        ·exact yP q hq
        ·unfold sU da at*
         try dsimp only
         omega
    ·refine aM ?_;(repeat(refine aI hp ?_))
     obtain rfl:j=((D.ms.getD k default).aP.getD i default).ops.length:=by omega
     refine lX hp BN [(⟨z,O,oa,oc⟩:qJ)] ?_;intro w bl hx hp;refine az ?_
     refine gT hp ?_;intro a2 c2 w hp bZ;refine az ?_;refine iE hp ?_;intro w hp;refine az ?_
     have hp:=(El (R:=A) (y:=(⟨z,O,oa,oc⟩:qJ)) ((hp.drop.f1.drop).f1.f2.f2)).f1
     have sb:(A++[(⟨z,O,oa,oc⟩:qJ)]).length=A.length+1:=by rw[List.length_append];rfl
     refine IH (i+1) _ _ _ (by omega) rfl ⟨by omega,A++[(⟨z,O,oa,oc⟩:qJ)],a2,c2,⟨by omega,fun y hy=> ?_⟩,hp⟩
     rcases fY hy with hy|rfl
     ·exact Xc y hy
     ·exact⟨by unfold da;dsimp only;omega,by dsimp only;omega,yP⟩
   ·refine aM ?_
    obtain rfl:i=(D.ms.getD k default).aP.length:=by omega
    clear IH
    refine aR [2,6,11,12,14,15,23] (fun(i:Nat)=>[(2,.int .i64 p),(6,.pointer (some ⟨b6,0,none⟩)),(11,.pointer (some ⟨wX,0,none⟩)),(12,.pointer (some ⟨ti,0,none⟩)),(14,.pointer (some ⟨Cd,0,none⟩)),(15,.slice ia I.length ic),(23,.int .i64 (i:Int))])
     (fun i w'=>i<=(D.ms.getD k default).ms.length/\∃(Q:List yh) (ma:Option Addr) (mc:Nat),(Q.length<=2+i/\∀y,y∈Q->JW y)/\Hp w0 w' (rO 75 2 BN aa ac A::tY A::rO 3 1 eI ia ic I::rO 66 3 n7 sa sc S::rB Cd 41 (D.ms.getD k default).cs::rB ti 41 (aL Tryz.np.zero)::rB wX 41 [.slice sa S.length sc,.slice aa A.length ac,.slice f.ia f.ins.length f.ic,.slice ma Q.length mc]::rB b6 136 D.cs::kP f.ia f.ic f.ins::rO 70 4 p9 ma mc Q::L)) (fun i=>(D.ms.getD k default).ms.length-i) 0 rfl ⟨by omega,f.ms,f.ma,f.mc,⟨by omega,hW.ms⟩,hp⟩ ?_
    clear hp
    rintro i w1 ⟨S0,Q,ma,mc,⟨hQ1,hQ2⟩,hp⟩ IH C
    refine bL ?_;refine aI hp ?_
    apply ae<;>intro Ks
    ·have aF:i<(D.ms.getD k default).ms.length:=by omega
     obtain⟨m1,m2,m3,m4⟩:=hM.ms i aF
     unfold dr at m1 m2 m3 m4
     change 0<=((D.ms.getD k default).ms.getD i default).addr/\((D.ms.getD k default).ms.getD i default).addr<(D.ms.getD k default).sg.length at m1
     change 0<=((D.ms.getD k default).ms.getD i default).data/\((D.ms.getD k default).ms.getD i default).data<(D.ms.getD k default).sg.length at m2
     change 0<=((D.ms.getD k default).ms.getD i default).write/\((D.ms.getD k default).ms.getD i default).write<(D.ms.getD k default).sg.length at m3
     change 0<=((D.ms.getD k default).ms.getD i default).out/\((D.ms.getD k default).ms.getD i default).out<(D.ms.getD k default).sg.length at m4
     have j1:=hI ((D.ms.getD k default).ms.getD i default).addr.toNat (by omega)
     have j2:=hI ((D.ms.getD k default).ms.getD i default).data.toNat (by omega)
     have j3:=hI ((D.ms.getD k default).ms.getD i default).write.toNat (by omega)
     have j4:=hI ((D.ms.getD k default).ms.getD i default).out.toNat (by omega)
     obtain⟨q,hq⟩:∃q:yh,q=⟨I.getD ((D.ms.getD k default).ms.getD i default).addr.toNat default,I.getD ((D.ms.getD k default).ms.getD i default).data.toNat default,I.getD ((D.ms.getD k default).ms.getD i default).write.toNat default,I.getD ((D.ms.getD k default).ms.getD i default).out.toNat default⟩:=⟨_,rfl⟩
     have hqw:JW q:=by rw[hq];unfold JW da;dsimp only;omega
     refine aN ?_;(repeat(refine ah ?_;first|refine aI hp ?_|refine bb hp ?_))
     refine bP hp ?_;intro w Tj hx hp;refine az ?_;refine aW hp ?_;intro w hp;refine az ?_
     refine j7 hp ?_;intro w hx hp;have hs:=hp;(repeat(refine ah ?_;first|refine dN ?_|refine jb rfl (by omega) (by omega) rfl rfl rfl ?_))
     refine CZ (fun _ hx=>hs.ext hx) hp p9 [(⟨I.getD ((D.ms.getD k default).ms.getD i default).addr.toNat default,I.getD ((D.ms.getD k default).ms.getD i default).data.toNat default,I.getD ((D.ms.getD k default).ms.getD i default).write.toNat default,I.getD ((D.ms.getD k default).ms.getD i default).out.toNat default⟩:yh)] rfl rfl rfl rfl (s:=4) rfl (by decide) (by infer_instance) (by rfl) (by rfl) (by rfl) (by decide) ?_;intro w bl hx hp;have hs:=hs.ext hx;refine fO ?_
     refine gW hp rfl rfl rfl rfl rfl rfl rfl (by decide) rfl (zl) rfl rfl (by kernel_rfl) ?_;intro m2 c2 w hp bZ;refine fO ?_;refine Ah hp rfl rfl rfl rfl (by kernel_rfl) ?_;intro w hp;refine fO ?_
     rw[<-hq] at hp
     skip
     have sb:(Q++[q]).length=Q.length+1:=by rw[List.length_append];rfl
     refine IH (i+1) _ _ _ (by omega) rfl ⟨by omega,Q++[q],m2,c2,⟨by omega,fun y hy=> ?_⟩,hp.drop.drop⟩
     rcases fY hy with hy|rfl
     ·exact hQ2 y hy
     ·exact hqw
    ·refine aM ?_;refine aI hp ?_
     obtain rfl:i=(D.ms.getD k default).ms.length:=by omega
     clear IH
     (first|apply fx|apply cf)<;>intro g1 e<;>rw[e]<;>clear e;all_goals((repeat(first|(refine aG ?_;first|refine aO ?_|refine ba ?_)|(refine ah ?_;refine aI hp ?_))))
     ·refine aN ?_;(repeat(first|(refine ah ?_;refine aI hp ?_)|(refine aH ?_;refine aW hp ?_;intro w hp;refine az ?_)|(refine dA ?_;refine bg hp rfl ?_)))
      exact⟨⟨S,sa,sc,A,aa,ac,f.ins,f.ia,f.ic,Q,ma,mc⟩,false,rfl,.inr ⟨rfl,hp.drop.drop.drop.drop.drop.drop.drop.drop.drop.drop⟩⟩
     ·(first|apply fx|apply cf)<;>intro g2 e<;>rw[e]<;>clear e;all_goals((repeat(first|(refine aG ?_;first|refine aO ?_|refine ba ?_)|(refine ah ?_;refine aI hp ?_))))
      ·refine aN ?_;(repeat(first|(refine ah ?_;refine aI hp ?_)|(refine aH ?_;refine aW hp ?_;intro w hp;refine az ?_)|(refine dA ?_;refine bg hp rfl ?_)))
       exact⟨⟨S,sa,sc,A,aa,ac,f.ins,f.ia,f.ic,Q,ma,mc⟩,false,rfl,.inr ⟨rfl,hp.drop.drop.drop.drop.drop.drop.drop.drop.drop.drop⟩⟩
      ·apply ae<;>intro g3
       ·refine aN ?_;(repeat(first|(refine ah ?_;refine aI hp ?_)|(refine aH ?_;refine aW hp ?_;intro w hp;refine az ?_)|(refine dA ?_;refine bg hp rfl ?_)))
        exact⟨⟨S,sa,sc,A,aa,ac,f.ins,f.ia,f.ic,Q,ma,mc⟩,false,rfl,.inr ⟨rfl,hp.drop.drop.drop.drop.drop.drop.drop.drop.drop.drop⟩⟩
       ·refine aM ?_
        have hp:=(qK hp).f6.f6.f6.f6.f5.f8.f8.f7.f8
        have hp:=oH (x:=⟨S,sa,sc,A,aa,ac,f.ins,f.ia,f.ic,Q,ma,mc⟩) hp
        have hg:Ek ⟨S,sa,sc,A,aa,ac,f.ins,f.ia,f.ic,Q,ma,mc⟩:=⟨⟨Nx,Xc,hW.ins,hQ2⟩,by show S.length<=30;omega,by show A.length<=30;omega,by show Q.length<=2;omega⟩
        refine aR [2,6,11,12,14,15,25] (fun(i:Nat)=>[(2,.int .i64 p),(6,.pointer (some ⟨b6,0,none⟩)),(11,.pointer (some ⟨wX,0,none⟩)),(12,.pointer (some ⟨ti,0,none⟩)),(14,.pointer (some ⟨Cd,0,none⟩)),(15,.slice ia I.length ic),(25,.int .i64 (i:Int))])
         (fun i w'=>i<=(D.ms.getD k default).ins.length/\∃(g:bm),(Ek g/\S.length<=g.sg.length)/\Hp w0 w' (mS g::rO 3 1 eI ia ic I::rB Cd 41 (D.ms.getD k default).cs::rB ti 41 (aL Tryz.np.zero)::rB wX 41 g.cs::rB b6 136 D.cs::L)) (fun i=>(D.ms.getD k default).ins.length-i) 0 rfl ⟨by omega,_,⟨hg,Nat.le_refl _⟩,hp⟩ ?_
        clear hp hg
        rintro i w1 ⟨hi4,g,⟨hg,hgl⟩,hp⟩ IH C
        refine bL ?_;refine aI hp ?_
        apply ae<;>intro hlt4
        ·have aF:i<(D.ms.getD k default).ins.length:=by omega
         have lii:Xu i (D.ms.getD k default).ins:=⟨aF⟩
         refine aN ?_;(repeat(refine ah ?_;first|refine aI hp ?_|refine bb hp ?_))
         refine bP hp ?_;intro w Tk hx hp;refine az ?_;(repeat(first|(refine aH ?_;refine aW hp ?_;intro w hp;refine az ?_)|(refine bK ?_;refine gG hp ?_;intro w _ hx hp;refine az ?_)))
         have HV:=hM.ct.im i aF
         have St:=hM.ct.ip i aF
         have hprm:=hM.prm i aF
         have hprt:=hM.prt i aF
         obtain⟨q,hq⟩:=Int.eq_ofNat_of_zero_le HV.1
         rw[hq,Int.toNat_natCast] at St
         rw[hq] at HV hp
         have AL:=uu (D.ms.getD q default).n
         have hIl2:zQ I g.sg.length:=hI.mono hgl
         refine jv [2,6,11,12,14,15,25,26,27,28] (fun(j:Nat) (N:List Int) (na:Option Addr) (nc:Nat)=>[(2,.int .i64 p),(6,.pointer (some ⟨b6,0,none⟩)),(11,.pointer (some ⟨wX,0,none⟩)),(12,.pointer (some ⟨ti,0,none⟩)),(14,.pointer (some ⟨Cd,0,none⟩)),(15,.slice ia I.length ic),(25,.int .i64 (i:Int)),(26,.pointer (some ⟨Tk,0,none⟩)),(27,.slice na N.length nc),(28,.int .i64 (j:Int))])
          (fun j N na nc w'=>(j<=((D.ms.getD k default).ins.getD i default).ins.length/\N.length=j/\zQ N g.sg.length)/\Hp w0 w' (rO 3 1 eI na nc N::rB Tk 150 [.int .i64 ((q:Nat):Int),.int .i64 ((D.ms.getD k default).ins.getD i default).init,.slice ((D.ms.getD k default).ins.getD i default).ia ((D.ms.getD k default).ins.getD i default).ins.length ((D.ms.getD k default).ins.getD i default).ic]::mS g::rO 3 1 eI ia ic I::rB Cd 41 (D.ms.getD k default).cs::rB ti 41 (aL Tryz.np.zero)::rB wX 41 g.cs::rB b6 136 D.cs::L)) (fun j _ _ _=>((D.ms.getD k default).ins.getD i default).ins.length-j) 0 [] _ _ rfl ⟨⟨by omega,rfl,fun j hj=>absurd hj (Nat.not_lt_zero _)⟩,hp⟩ ?_
         clear hp
         rintro j N na nc w1 ⟨⟨hj,Tl,hNb⟩,hp⟩ kE C
         refine bL ?_;refine aI hp ?_
         apply ae<;>intro hlt5
         ·have zf:j<((D.ms.getD k default).ins.getD i default).ins.length:=by omega
          have hpj:=hprt j zf
          unfold dr at hpj
          change 0<=((D.ms.getD k default).ins.getD i default).ins.getD j default/\((D.ms.getD k default).ins.getD i default).ins.getD j default<(D.ms.getD k default).sg.length at hpj
          have hIj:=hIl2 (((D.ms.getD k default).ins.getD i default).ins.getD j default).toNat (by omega)
          refine aN ?_;(repeat(first|(refine ah ?_;first|refine aI hp ?_|refine bb hp ?_|refine ik hp ?_)|(refine bK ?_;refine gG hp ?_;intro w _ hx hp;refine az ?_)))
          refine gT hp ?_;intro n2 c2 w hp bZ;refine az ?_
          refine kE (j+1) (N++[I.getD (((D.ms.getD k default).ins.getD i default).ins.getD j default).toNat default]) n2 c2 _ _ _ (by omega) rfl ⟨⟨by omega,by rw[List.length_append,Tl];rfl,hNb.snoc hIj⟩,hp.drop⟩
         ·refine aM ?_;refine aI hp ?_
          obtain rfl:j=((D.ms.getD k default).ins.getD i default).ins.length:=by omega
          clear kE
          apply ae<;>intro hz
          ·refine aN ?_;(repeat(refine aI hp ?_))
           refine cy Tryz.func159 (zm D hOk hO K q (by omega) (by omega) (p) true N na nc g (by omega) (fun _=>by rw[Tl];exact St) hNb hg hp.f2) ?_
           rintro _ w ⟨y,b,rfl,h⟩
           rcases h with⟨rfl,⟨hy,th⟩,hp⟩|⟨rfl,hp⟩
           ·refine az ?_
            refine bP hp ?_;intro w b30 hx hp;refine az ?_;refine aW hp ?_;intro w hp;refine az ?_
            refine aM ?_;(repeat(first|(refine ah ?_;refine aI hp ?_)|(refine aH ?_;refine aW hp ?_;intro w hp;refine az ?_)))
            exact IH (i+1) _ _ _ (by omega) rfl ⟨by omega,y,⟨hy,by omega⟩,hp.drop.f1.drop.f1.drop⟩
           ·refine az ?_
            refine bP hp ?_;intro w b30 hx hp;refine az ?_;refine aW hp ?_;intro w hp;refine az ?_
            refine aN ?_;(repeat(first|(refine ah ?_;refine aI hp ?_)|(refine aH ?_;refine aW hp ?_;intro w hp;refine az ?_)|(refine dA ?_;refine bg hp rfl ?_)))
            exact⟨g,false,rfl,.inr ⟨rfl,hp.drop.drop.drop.drop.drop.drop.drop.drop⟩⟩
          ·refine aM ?_;(repeat(refine aI hp ?_))
           refine cy Tryz.func159 (zm D hOk hO K q (by omega) (by omega) (((D.ms.getD k default).ins.getD i default).init) true N na nc g (by omega) (fun _=>by rw[Tl];exact St) hNb hg hp.f2) ?_
           rintro _ w ⟨y,b,rfl,h⟩
           rcases h with⟨rfl,⟨hy,th⟩,hp⟩|⟨rfl,hp⟩
           ·refine az ?_
            refine bP hp ?_;intro w b30 hx hp;refine az ?_;refine aW hp ?_;intro w hp;refine az ?_
            refine aM ?_;(repeat(first|(refine ah ?_;refine aI hp ?_)|(refine aH ?_;refine aW hp ?_;intro w hp;refine az ?_)))
            exact IH (i+1) _ _ _ (by omega) rfl ⟨by omega,y,⟨hy,by omega⟩,hp.drop.f1.drop.f1.drop⟩
           ·refine az ?_
            refine bP hp ?_;intro w b30 hx hp;refine az ?_;refine aW hp ?_;intro w hp;refine az ?_
            refine aN ?_;(repeat(first|(refine ah ?_;refine aI hp ?_)|(refine aH ?_;refine aW hp ?_;intro w hp;refine az ?_)|(refine dA ?_;refine bg hp rfl ?_)))
            exact⟨g,false,rfl,.inr ⟨rfl,hp.drop.drop.drop.drop.drop.drop.drop.drop⟩⟩
        ·refine aM ?_;(repeat(first|(refine ah ?_;refine aI hp ?_)|(refine aH ?_;refine aW hp ?_;intro w hp;refine az ?_)|(refine dA ?_;refine bg hp rfl ?_)))
         exact⟨g,true,rfl,.inl ⟨rfl,⟨hg,by omega⟩,hp.f1.drop.f1.drop.f1.drop.f1.drop.f1.drop⟩⟩
end Go.Proofs
