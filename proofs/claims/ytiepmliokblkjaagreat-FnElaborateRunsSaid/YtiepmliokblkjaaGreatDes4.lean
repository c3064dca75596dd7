/- A flat module that grows by a module of a design; under its stated conditions. Printed by wip/gen_des4.py. -/
import Derived.Test.YtiepmliokblkjaaGreatBrf
import Derived.Test.YtiepmliokblkjaaGreatDes3
import Derived.Test.YtiepmliokblkjaaGreatElabM
set_option linter.all false
namespace Go.Xw
def AsW (y:qI):Prop:=da y.tg/\y.ops.length<=15/\∀o,o∈y.ops->sU o
structure FlW (f:bm):Prop where
 sg:∀s,s∈f.sg->Fj s
 aP:∀y,y∈f.aP->AsW y
 ins:f.ins=[]
 ms:∀m,m∈f.ms->JV m
structure Ei (f:bm):Prop where
 w:FlW f
 l1:f.sg.length<=30
 l2:f.aP.length<=30
 l3:f.ms.length<=2
def zN (I:List Int)(n:Nat):Prop:=∀j,j<I.length->0<=I.getD j default/\I.getD j default<n
theorem zN.mono {I:List Int}{m n:Nat}(h:zN I m)(hmn:m<=n):zN I n:=fun j hj=>⟨(h j hj).1,by have:=(h j hj).2;omega⟩
theorem zN.snoc {I:List Int}{n:Nat}(h:zN I n){z:Int}(hz:0<=z/\z<n):zN (I++[z]) n:=fun j hj=>by
 by_cases dA:j<I.length
 ·rw[du dA];exact h j dA
 ·rw[List.length_append,List.length_singleton] at hj
  rw[show j=I.length by omega,List.getD_eq_getElem?_getD,List.getElem?_concat_length]
  exact hz
theorem Ej {w0 w:World}{L:List bg}{R:List qI}{y:qI}(h:Hp w0 w (rO 132 3 kg y.oa y.oc y.ops::tZ R::L)):Hp w0 w (tZ (R++[y])::L):=by
 have h1:Hp w0 w (R.map (fun s=>rO 132 3 kg s.oa s.oc s.ops)++(rO 132 3 kg y.oa y.oc y.ops::L)):=h.f1.unpack
 refine Hp.pack (Hp.perm h1 ?_)
 simp only[List.map_append,List.map_cons,List.map_nil,List.append_assoc]
 exact .refl _
theorem fY {α:Type}{X:List α}{x y:α}(h:y∈X++[x]):y∈X\/y=x:=by
 rcases List.mem_append.1 h with h|h
 ·exact .inl h
 ·exact .inr (List.mem_singleton.1 h)
end Go.Xw
namespace Go.Proofs
open Go.Xw
set_option maxRecDepth 100000
set_option maxHeartbeats 4000000
attribute [local irreducible] ax aE
theorem zj (D:kv)(hOk:∀k,k<D.ms.length->Xs D.ms k)(hO:Eb D.ms):∀K k:Nat,k<K->k<D.ms.length->∀{w0 w:World} {L:List bg} (p:Int) (Sy:Bool) (Hm:List Int) (pa:Option Addr) (pc:Nat) (f:bm),(0<=p/\p<=15)->(Sy=true->Hm.length=(gS (D.ms.getD k default).n).length)->zN Hm f.sg.length->Ei f->[qV w0 L D]->[gm w0 L pa 1 eI Hm]->Hp w0 w (mS f::L)->
  bN Tryz.prog 159 [D.v,.int .i64 ((k:Nat):Int),.int .i64 p,.bool Sy,.slice pa Hm.length pc,f.v] w (fun r w'=>∃(y:bm) (b:Bool),r= .tuple ⟨[y.v,.bool b]⟩/\((b=true/\(Ei y/\f.sg.length<=y.sg.length)/\Hp w0 w' (mS y::L))\/(b=false/\Hp w0 w' L)))
 |0,k,hk,_,_,_,_,_,_,_,_,_,_,_,_,_,_,_,_,_=>absurd hk (Nat.not_lt_zero _)
 |K+1,k,hkK,lk,w0,w,L,p,Sy,Hm,pa,pc,f,IP,Tf,MQ,hf,_,_,hp=>by
  have hM:=hOk k lk
  have ldk:Lm k D.ms:=⟨lk⟩
  have q1:=hM.ct.sg k lk
  have q2:=hM.ct.aP k lk
  have q3:=hM.ct.il k lk
  have q4:=hM.ct.ms k lk
  have q0:=hM.ct.len
  have l1:=hf.l1
  have l2:=hf.l2
  have l3:=hf.l3
  have hW:=hf.w
  have hp:=Aw hp
  refine vI Tryz.QS ?_;intro C
  refine bP hp ?_;intro w b6 hx hp;refine az ?_
  refine bP hp ?_;intro w wV hx hp;refine az ?_
  refine bP hp ?_;intro w ti hx hp;refine az ?_;(repeat(refine ah ?_;first|refine aH hp ?_|refine bb hp ?_))
  have ePL:gS (D.ms.getD k default).n=fN (D.ms.getD k default).n (D.ms.getD k default).sg.length:=if_pos q1
  refine bP hp ?_;intro w B8 hx hp;refine az ?_;(repeat(first|(refine aI ?_;refine aW hp ?_;intro w hp;refine az ?_)|(refine bK ?_;refine gG hp ?_;intro w _ hx hp;refine az ?_)))
  refine lU [2,3,4,6,11,12,14,15,16,17] (fun(i:Nat) (n:Nat) (I:List Int) (ia:Option Addr) (ic:Nat)=>[(2,.int .i64 p),(3,.bool Sy),(4,.slice pa Hm.length pc),(6,.pointer (some ⟨b6,0,none⟩)),(11,.pointer (some ⟨wV,0,none⟩)),(12,.pointer (some ⟨ti,0,none⟩)),(14,.pointer (some ⟨B8,0,none⟩)),(15,.slice ia I.length ic),(16,.int .i64 (n:Int)),(17,.int .i64 (i:Int))])
   (fun i n I ia ic w'=>(i<=(D.ms.getD k default).sg.length/\I.length=i/\(Sy=true->n=(fN (D.ms.getD k default).n i).length))/\∃(S:List pQ) (sa:Option Addr) (sc:Nat),(zN I S.length/\(f.sg.length<=S.length/\S.length<=30+i)/\∀s,s∈S->Fj s)/\Hp w0 w' (rO 3 1 eI ia ic I::rO 66 3 n7 sa sc S::rB B8 41 (D.ms.getD k default).cs::rB ti 41 (aL Tryz.np.zero)::rB wV 41 [.slice sa S.length sc,.slice f.aa f.aP.length f.ac,.slice f.ia f.ins.length f.ic,.slice f.ma f.ms.length f.mc]::rB b6 136 D.cs::wm f.aa f.ac f.aP::kQ f.ia f.ic f.ins::rO 70 4 p9 f.ma f.mc f.ms::L)) (fun i _ _ _ _=>(D.ms.getD k default).sg.length-i) 0 0 [] _ _ rfl ⟨⟨by omega,rfl,fun _=>rfl⟩,f.sg,f.sa,f.sc,⟨fun j hj=>absurd hj (Nat.not_lt_zero _),⟨by omega,by omega⟩,hW.sg⟩,?_⟩ ?_
  ·exact hp.f4.f4.f4.f4.f5.f5
  clear hp
  rintro i n I ia ic w1 ⟨⟨hi,Ln,hn⟩,S,sa,sc,⟨hI,⟨AE,zw⟩,Nw⟩,hp⟩ IH C
  refine bL ?_;refine aH hp ?_
  apply ae<;>intro bD
  ·have aF:i<(D.ms.getD k default).sg.length:=by omega
   have zJ:=hM.sg i aF
   refine aN ?_;(repeat(refine ah ?_;first|refine aH hp ?_|refine bb hp ?_))
   refine bP hp ?_;intro w b18 hx hp;refine az ?_;(repeat(first|(refine ah ?_;refine aH hp ?_)|(refine aI ?_;refine aW hp ?_;intro w hp;refine az ?_)))
   apply ae<;>intro hw
   ·refine aN ?_;refine iC hp ?_;intro w hp;refine az ?_
    obtain⟨x',IN⟩:∃x':pQ,x'=⟨((D.ms.getD k default).sg.getD i default).kind,p,((D.ms.getD k default).sg.getD i default).init⟩:=⟨_,rfl⟩
    have e1:x'.kind=((D.ms.getD k default).sg.getD i default).kind:=by rw[IN]
    have e2:x'.width=p:=by rw[IN]
    have e3:x'.init=((D.ms.getD k default).sg.getD i default).init:=by rw[IN]
    have hp:Hp w0 w (rB b18 66 [.int .i64 x'.kind,.int .i64 x'.width,.int .i64 x'.init]::rO 3 1 eI ia ic I::rO 66 3 n7 sa sc S::rB B8 41 (D.ms.getD k default).cs::rB ti 41 (aL Tryz.np.zero)::rB wV 41 [.slice sa S.length sc,.slice f.aa f.aP.length f.ac,.slice f.ia f.ins.length f.ic,.slice f.ma f.ms.length f.mc]::rB b6 136 D.cs::wm f.aa f.ac f.aP::kQ f.ia f.ic f.ins::rO 70 4 p9 f.ma f.mc f.ms::L):=by rw[e1,e2,e3];exact hp
    have WA:Fj x':=by unfold Fj da;omega
    have Sz:¬(((D.ms.getD k default).sg.getD i default).kind=0\/((D.ms.getD k default).sg.getD i default).kind=1)->fN (D.ms.getD k default).n (i+1)=fN (D.ms.getD k default).n i:=fun h=>by rw[fN,if_neg (by rw[bG];exact h)]
    have Ek:(((D.ms.getD k default).sg.getD i default).kind=0\/((D.ms.getD k default).sg.getD i default).kind=1)->fN (D.ms.getD k default).n (i+1)=fN (D.ms.getD k default).n i++[((i:Nat):Int)]/\(fN (D.ms.getD k default).n i).length<(fN (D.ms.getD k default).n (D.ms.getD k default).sg.length).length:=fun h=>⟨by rw[fN,if_pos (by rw[bG];exact h)],Hl (D.ms.getD k default).n aF (by rw[bG];exact h)⟩
    clear IN
    cases Sy with
    |true=>
     have hn:=hn rfl
     have Tf:=Tf rfl
     rw[ePL] at Tf
     (repeat(first|(refine aG ?_;refine aO ?_)|(refine ah ?_;refine aH hp ?_)))
     (first|apply fx|apply cf)<;>intro g1 e<;>rw[e]<;>clear e;all_goals((repeat(first|(refine aG ?_;first|refine aO ?_|refine ba ?_)|(refine ah ?_;refine aH hp ?_))))
     ·refine aN ?_
      obtain⟨eT,hlp⟩:=Ek (.inl (by omega))
      have Fv:n<Hm.length:=by omega
      have hpn:=MQ n Fv
      have HM:n<=30:=by have:=nf (D.ms.getD k default).n i;omega
      refine j8 hp ?_;intro w hx hp;have hs:=hp;(repeat(refine ah ?_;first|refine dQ ?_|refine fo ?_|refine iZ rfl (by omega) (by omega) rfl rfl rfl ?_))
      skip
      apply ae<;>intro g3
      ·refine aN ?_;(repeat(first|(refine ah ?_;refine aH hp ?_)|(refine aI ?_;refine aW hp ?_;intro w hp;refine az ?_)|(refine dD ?_;refine bh hp rfl ?_)))
       exact⟨⟨S,sa,sc,f.aP,f.aa,f.ac,f.ins,f.ia,f.ic,f.ms,f.ma,f.mc⟩,false,rfl,.inr ⟨rfl,hp.drop.drop.drop.drop.drop.drop.drop.drop.drop.drop⟩⟩
      ·refine aM ?_;(repeat(first|(refine ah ?_;refine bb hp ?_)|(refine bK ?_;refine gG hp ?_;intro w _ hx hp;refine az ?_)))
       refine gT hp ?_;intro i2 j2 w hp bZ;refine az ?_
       have hp:=hp.drop.drop
       refine IH (i+1) (n+1) (I++[Hm.getD n default]) i2 j2 _ _ _ (by omega) rfl ⟨⟨by omega,by rw[List.length_append,Ln];rfl,fun _=>by rw[eT,List.length_append,<-hn];rfl⟩,S,sa,sc,⟨hI.snoc (by omega),⟨by omega,by omega⟩,Nw⟩,hp⟩
     ·apply ae<;>intro g2
      ·refine aN ?_
       obtain⟨eT,hlp⟩:=Ek (.inr (by omega))
       have Fv:n<Hm.length:=by omega
       have hpn:=MQ n Fv
       have HM:n<=30:=by have:=nf (D.ms.getD k default).n i;omega
       refine j8 hp ?_;intro w hx hp;have hs:=hp;(repeat(refine ah ?_;first|refine dQ ?_|refine fo ?_|refine iZ rfl (by omega) (by omega) rfl rfl rfl ?_))
       skip
       apply ae<;>intro g3
       ·refine aN ?_;(repeat(first|(refine ah ?_;refine aH hp ?_)|(refine aI ?_;refine aW hp ?_;intro w hp;refine az ?_)|(refine dD ?_;refine bh hp rfl ?_)))
        exact⟨⟨S,sa,sc,f.aP,f.aa,f.ac,f.ins,f.ia,f.ic,f.ms,f.ma,f.mc⟩,false,rfl,.inr ⟨rfl,hp.drop.drop.drop.drop.drop.drop.drop.drop.drop.drop⟩⟩
       ·refine aM ?_;(repeat(first|(refine ah ?_;refine bb hp ?_)|(refine bK ?_;refine gG hp ?_;intro w _ hx hp;refine az ?_)))
        refine gT hp ?_;intro i2 j2 w hp bZ;refine az ?_
        have hp:=hp.drop.drop
        refine IH (i+1) (n+1) (I++[Hm.getD n default]) i2 j2 _ _ _ (by omega) rfl ⟨⟨by omega,by rw[List.length_append,Ln];rfl,fun _=>by rw[eT,List.length_append,<-hn];rfl⟩,S,sa,sc,⟨hI.snoc (by omega),⟨by omega,by omega⟩,Nw⟩,hp⟩
      ·have eT:=Sz (by omega)
       refine aM ?_;(repeat(first|(refine ah ?_;refine aH hp ?_)|(refine bK ?_;refine gG hp ?_;intro w _ hx hp;refine az ?_)))
       refine gT hp ?_;intro i2 j2 w hp bZ;refine az ?_;(repeat(refine aH hp ?_))
       refine lW hp n7 [x'] ?_;intro w bl hx hp;refine az ?_
       refine gT hp ?_;intro s2 t2 w hp bZ;refine az ?_;refine iC hp ?_;intro w hp;refine az ?_
       have hp:=hp.drop.drop.drop
       have r7:(S++[x']).length=S.length+1:=by rw[List.length_append];rfl
       refine IH (i+1) n (I++[((S.length:Nat):Int)]) i2 j2 _ _ _ (by omega) rfl ⟨⟨by omega,by rw[List.length_append,Ln];rfl,by first|exact eT|(intro _;rw[eT];exact hn)⟩,S++[x'],s2,t2,⟨(hI.mono (by omega)).snoc (by omega),⟨by omega,by omega⟩,fun s hs=> ?_⟩,hp⟩
       rcases fY hs with hs|rfl
       ·exact Nw s hs
       ·exact WA
    |false=>
     have eT:(false=true->n=(fN (D.ms.getD k default).n (i+1)).length):=fun h=>Bool.noConfusion h
     (repeat(refine ba ?_))
     refine aM ?_;(repeat(first|(refine ah ?_;refine aH hp ?_)|(refine bK ?_;refine gG hp ?_;intro w _ hx hp;refine az ?_)))
     refine gT hp ?_;intro i2 j2 w hp bZ;refine az ?_;(repeat(refine aH hp ?_))
     refine lW hp n7 [x'] ?_;intro w bl hx hp;refine az ?_
     refine gT hp ?_;intro s2 t2 w hp bZ;refine az ?_;refine iC hp ?_;intro w hp;refine az ?_
     have hp:=hp.drop.drop.drop
     have r7:(S++[x']).length=S.length+1:=by rw[List.length_append];rfl
     refine IH (i+1) n (I++[((S.length:Nat):Int)]) i2 j2 _ _ _ (by omega) rfl ⟨⟨by omega,by rw[List.length_append,Ln];rfl,by first|exact eT|(intro _;rw[eT];exact hn)⟩,S++[x'],s2,t2,⟨(hI.mono (by omega)).snoc (by omega),⟨by omega,by omega⟩,fun s hs=> ?_⟩,hp⟩
     rcases fY hs with hs|rfl
     ·exact Nw s hs
     ·exact WA
   ·refine aM ?_
    obtain⟨x',IN⟩:∃x':pQ,x'=(D.ms.getD k default).sg.getD i default:=⟨_,rfl⟩
    have e1:x'.kind=((D.ms.getD k default).sg.getD i default).kind:=by rw[IN]
    have e2:x'.width=((D.ms.getD k default).sg.getD i default).width:=by rw[IN]
    have e3:x'.init=((D.ms.getD k default).sg.getD i default).init:=by rw[IN]
    have hp:Hp w0 w (rB b18 66 [.int .i64 x'.kind,.int .i64 x'.width,.int .i64 x'.init]::rO 3 1 eI ia ic I::rO 66 3 n7 sa sc S::rB B8 41 (D.ms.getD k default).cs::rB ti 41 (aL Tryz.np.zero)::rB wV 41 [.slice sa S.length sc,.slice f.aa f.aP.length f.ac,.slice f.ia f.ins.length f.ic,.slice f.ma f.ms.length f.mc]::rB b6 136 D.cs::wm f.aa f.ac f.aP::kQ f.ia f.ic f.ins::rO 70 4 p9 f.ma f.mc f.ms::L):=by rw[e1,e2,e3];exact hp
    have WA:Fj x':=by unfold Fj da;omega
    have Sz:¬(((D.ms.getD k default).sg.getD i default).kind=0\/((D.ms.getD k default).sg.getD i default).kind=1)->fN (D.ms.getD k default).n (i+1)=fN (D.ms.getD k default).n i:=fun h=>by rw[fN,if_neg (by rw[bG];exact h)]
    have Ek:(((D.ms.getD k default).sg.getD i default).kind=0\/((D.ms.getD k default).sg.getD i default).kind=1)->fN (D.ms.getD k default).n (i+1)=fN (D.ms.getD k default).n i++[((i:Nat):Int)]/\(fN (D.ms.getD k default).n i).length<(fN (D.ms.getD k default).n (D.ms.getD k default).sg.length).length:=fun h=>⟨by rw[fN,if_pos (by rw[bG];exact h)],Hl (D.ms.getD k default).n aF (by rw[bG];exact h)⟩
    clear IN
    cases Sy with
    |true=>
     have hn:=hn rfl
     have Tf:=Tf rfl
     rw[ePL] at Tf
     (repeat(first|(refine aG ?_;refine aO ?_)|(refine ah ?_;refine aH hp ?_)))
     (first|apply fx|apply cf)<;>intro g1 e<;>rw[e]<;>clear e;all_goals((repeat(first|(refine aG ?_;first|refine aO ?_|refine ba ?_)|(refine ah ?_;refine aH hp ?_))))
     ·refine aN ?_
      obtain⟨eT,hlp⟩:=Ek (.inl (by omega))
      have Fv:n<Hm.length:=by omega
      have hpn:=MQ n Fv
      have HM:n<=30:=by have:=nf (D.ms.getD k default).n i;omega
      refine j8 hp ?_;intro w hx hp;have hs:=hp;(repeat(refine ah ?_;first|refine dQ ?_|refine fo ?_|refine iZ rfl (by omega) (by omega) rfl rfl rfl ?_))
      skip
      apply ae<;>intro g3
      ·refine aN ?_;(repeat(first|(refine ah ?_;refine aH hp ?_)|(refine aI ?_;refine aW hp ?_;intro w hp;refine az ?_)|(refine dD ?_;refine bh hp rfl ?_)))
       exact⟨⟨S,sa,sc,f.aP,f.aa,f.ac,f.ins,f.ia,f.ic,f.ms,f.ma,f.mc⟩,false,rfl,.inr ⟨rfl,hp.drop.drop.drop.drop.drop.drop.drop.drop.drop.drop⟩⟩
      ·refine aM ?_;(repeat(first|(refine ah ?_;refine bb hp ?_)|(refine bK ?_;refine gG hp ?_;intro w _ hx hp;refine az ?_)))
       refine gT hp ?_;intro i2 j2 w hp bZ;refine az ?_
       have hp:=hp.drop.drop
       refine IH (i+1) (n+1) (I++[Hm.getD n default]) i2 j2 _ _ _ (by omega) rfl ⟨⟨by omega,by rw[List.length_append,Ln];rfl,fun _=>by rw[eT,List.length_append,<-hn];rfl⟩,S,sa,sc,⟨hI.snoc (by omega),⟨by omega,by omega⟩,Nw⟩,hp⟩
     ·apply ae<;>intro g2
      ·refine aN ?_
       obtain⟨eT,hlp⟩:=Ek (.inr (by omega))
       have Fv:n<Hm.length:=by omega
       have hpn:=MQ n Fv
       have HM:n<=30:=by have:=nf (D.ms.getD k default).n i;omega
       refine j8 hp ?_;intro w hx hp;have hs:=hp;(repeat(refine ah ?_;first|refine dQ ?_|refine fo ?_|refine iZ rfl (by omega) (by omega) rfl rfl rfl ?_))
       skip
       apply ae<;>intro g3
       ·refine aN ?_;(repeat(first|(refine ah ?_;refine aH hp ?_)|(refine aI ?_;refine aW hp ?_;intro w hp;refine az ?_)|(refine dD ?_;refine bh hp rfl ?_)))
        exact⟨⟨S,sa,sc,f.aP,f.aa,f.ac,f.ins,f.ia,f.ic,f.ms,f.ma,f.mc⟩,false,rfl,.inr ⟨rfl,hp.drop.drop.drop.drop.drop.drop.drop.drop.drop.drop⟩⟩
       ·refine aM ?_;(repeat(first|(refine ah ?_;refine bb hp ?_)|(refine bK ?_;refine gG hp ?_;intro w _ hx hp;refine az ?_)))
        refine gT hp ?_;intro i2 j2 w hp bZ;refine az ?_
        have hp:=hp.drop.drop
        refine IH (i+1) (n+1) (I++[Hm.getD n default]) i2 j2 _ _ _ (by omega) rfl ⟨⟨by omega,by rw[List.length_append,Ln];rfl,fun _=>by rw[eT,List.length_append,<-hn];rfl⟩,S,sa,sc,⟨hI.snoc (by omega),⟨by omega,by omega⟩,Nw⟩,hp⟩
      ·have eT:=Sz (by omega)
       refine aM ?_;(repeat(first|(refine ah ?_;refine aH hp ?_)|(refine bK ?_;refine gG hp ?_;intro w _ hx hp;refine az ?_)))
       refine gT hp ?_;intro i2 j2 w hp bZ;refine az ?_;(repeat(refine aH hp ?_))
       refine lW hp n7 [x'] ?_;intro w bl hx hp;refine az ?_
       refine gT hp ?_;intro s2 t2 w hp bZ;refine az ?_;refine iC hp ?_;intro w hp;refine az ?_
       have hp:=hp.drop.drop.drop
       have r7:(S++[x']).length=S.length+1:=by rw[List.length_append];rfl
       refine IH (i+1) n (I++[((S.length:Nat):Int)]) i2 j2 _ _ _ (by omega) rfl ⟨⟨by omega,by rw[List.length_append,Ln];rfl,by first|exact eT|(intro _;rw[eT];exact hn)⟩,S++[x'],s2,t2,⟨(hI.mono (by omega)).snoc (by omega),⟨by omega,by omega⟩,fun s hs=> ?_⟩,hp⟩
       rcases fY hs with hs|rfl
       ·exact Nw s hs
       ·exact WA
    |false=>
     have eT:(false=true->n=(fN (D.ms.getD k default).n (i+1)).length):=fun h=>Bool.noConfusion h
     (repeat(refine ba ?_))
     refine aM ?_;(repeat(first|(refine ah ?_;refine aH hp ?_)|(refine bK ?_;refine gG hp ?_;intro w _ hx hp;refine az ?_)))
     refine gT hp ?_;intro i2 j2 w hp bZ;refine az ?_;(repeat(refine aH hp ?_))
     refine lW hp n7 [x'] ?_;intro w bl hx hp;refine az ?_
     refine gT hp ?_;intro s2 t2 w hp bZ;refine az ?_;refine iC hp ?_;intro w hp;refine az ?_
     have hp:=hp.drop.drop.drop
     have r7:(S++[x']).length=S.length+1:=by rw[List.length_append];rfl
     refine IH (i+1) n (I++[((S.length:Nat):Int)]) i2 j2 _ _ _ (by omega) rfl ⟨⟨by omega,by rw[List.length_append,Ln];rfl,by first|exact eT|(intro _;rw[eT];exact hn)⟩,S++[x'],s2,t2,⟨(hI.mono (by omega)).snoc (by omega),⟨by omega,by omega⟩,fun s hs=> ?_⟩,hp⟩
     rcases fY hs with hs|rfl
     ·exact Nw s hs
     ·exact WA
  ·refine aM ?_
   obtain rfl:i=(D.ms.getD k default).sg.length:=by omega
   clear IH hn
   have hS3:S.length<=60:=by omega
   have hp:=DA hp.f6
   refine aR [2,6,11,12,14,15,19] (fun(i:Nat)=>[(2,.int .i64 p),(6,.pointer (some ⟨b6,0,none⟩)),(11,.pointer (some ⟨wV,0,none⟩)),(12,.pointer (some ⟨ti,0,none⟩)),(14,.pointer (some ⟨B8,0,none⟩)),(15,.slice ia I.length ic),(19,.int .i64 (i:Int))])
    (fun i w'=>i<=(D.ms.getD k default).aP.length/\∃(A:List qI) (aa:Option Addr) (ac:Nat),(A.length<=30+i/\∀y,y∈A->AsW y)/\Hp w0 w' (rO 75 2 BI aa ac A::tZ A::rO 3 1 eI ia ic I::rO 66 3 n7 sa sc S::rB B8 41 (D.ms.getD k default).cs::rB ti 41 (aL Tryz.np.zero)::rB wV 41 [.slice sa S.length sc,.slice aa A.length ac,.slice f.ia f.ins.length f.ic,.slice f.ma f.ms.length f.mc]::rB b6 136 D.cs::kQ f.ia f.ic f.ins::rO 70 4 p9 f.ma f.mc f.ms::L)) (fun i=>(D.ms.getD k default).aP.length-i) 0 rfl ⟨by omega,f.aP,f.aa,f.ac,⟨by omega,hW.aP⟩,hp⟩ ?_
   clear hp
   rintro i w1 ⟨mg,A,aa,ac,⟨hA1,W9⟩,hp⟩ IH C
   refine bL ?_;refine aH hp ?_
   apply ae<;>intro jK
   ·have aF:i<(D.ms.getD k default).aP.length:=by omega
    have la:Le i (D.ms.getD k default).aP:=⟨aF⟩
    have htg:=hM.tg i aF
    have HG:=hM.ops i aF
    have jL:=HG.len
    have zt:=(hO k lk i aF).2
    unfold dr at htg
    change 0<=((D.ms.getD k default).aP.getD i default).tg/\((D.ms.getD k default).aP.getD i default).tg<(D.ms.getD k default).sg.length at htg
    have htI:=hI ((D.ms.getD k default).aP.getD i default).tg.toNat (by omega)
    refine aN ?_;(repeat(refine ah ?_;first|refine aH hp ?_|refine dg hp ?_|refine ik hp ?_))
    refine bP hp ?_;intro w b20 hx hp;refine az ?_;refine aW hp ?_;intro w hp;refine az ?_
    obtain⟨z,hz⟩:∃z,z=I.getD ((D.ms.getD k default).aP.getD i default).tg.toNat default:=⟨_,rfl⟩
    rw[<-hz] at htI
    refine aR [2,6,11,12,14,15,19,20,21] (fun(j:Nat)=>[(2,.int .i64 p),(6,.pointer (some ⟨b6,0,none⟩)),(11,.pointer (some ⟨wV,0,none⟩)),(12,.pointer (some ⟨ti,0,none⟩)),(14,.pointer (some ⟨B8,0,none⟩)),(15,.slice ia I.length ic),(19,.int .i64 (i:Int)),(20,.pointer (some ⟨b20,0,none⟩)),(21,.int .i64 (j:Int))])
     (fun j w'=>j<=((D.ms.getD k default).aP.getD i default).ops.length/\∃(O:List dJ) (oa:Option Addr) (oc:Nat),(O.length=j/\∀o,o∈O->sU o)/\Hp w0 w' (rO 132 3 kg oa oc O::rB b20 75 [.int .i64 z,.slice oa O.length oc]::rO 75 2 BI aa ac A::tZ A::rO 3 1 eI ia ic I::rO 66 3 n7 sa sc S::rB B8 41 (D.ms.getD k default).cs::rB ti 41 (aL Tryz.np.zero)::rB wV 41 [.slice sa S.length sc,.slice aa A.length ac,.slice f.ia f.ins.length f.ic,.slice f.ma f.ms.length f.mc]::rB b6 136 D.cs::kQ f.ia f.ic f.ins::rO 70 4 p9 f.ma f.mc f.ms::L)) (fun j=>((D.ms.getD k default).aP.getD i default).ops.length-j) 0 rfl ⟨by omega,[],none,0,⟨rfl,fun o ho=>by cases ho⟩,?_⟩ ?_
    ·subst hz
     exact hp.eH (Ext.refl _) (dk.nil _ _ _ _ _)
    clear hp
    rintro j w1 ⟨hj,O,oa,oc,⟨Fu,yN⟩,hp⟩ kF C
    refine bL ?_;(repeat(refine ah ?_;first|refine aH hp ?_|refine dg hp ?_))
    apply ae<;>intro Kr
    ·have zd:j<((D.ms.getD k default).aP.getD i default).ops.length:=by omega
     have rL:=(HG.each j zd).2
     have kd:=zt j zd
     refine aN ?_;(repeat(refine ah ?_;first|refine aH hp ?_|refine bb hp ?_|refine dg hp ?_))
     refine bP hp ?_;intro w b22 hx hp;refine az ?_;(repeat(first|(refine ah ?_;refine aH hp ?_)|(refine aI ?_;refine aW hp ?_;intro w hp;refine az ?_)))
     obtain⟨o,hoe⟩:∃o,o=((D.ms.getD k default).aP.getD i default).ops.getD j default:=⟨_,rfl⟩
     rw[<-hoe] at hp rL kd⊢
     unfold u5 at kd
     apply ae<;>intro k1
     ·refine aN ?_;(repeat(first|(refine ah ?_;refine aH hp ?_)|(refine aI ?_;refine aW hp ?_;intro w hp;refine az ?_)))
      refine lW hp kg [(⟨0,p,0⟩:dJ)] ?_;intro w bl hx hp;refine az ?_
      refine gT hp ?_;intro o2 c2 w hp bZ;refine az ?_;refine iC hp ?_;intro w hp;refine az ?_
      refine kF (j+1) _ _ _ (by omega) rfl ⟨by omega,O++[(⟨0,p,0⟩:dJ)],o2,c2,⟨by rw[List.length_append,Fu];rfl,fun q hq=> ?_⟩,(hp.drop.drop).f1.f1⟩
      rcases fY hq with hq|rfl
      ·exact yN q hq
      ·unfold sU da at*
       try dsimp only
       omega
     ·refine aM ?_
      apply ae<;>intro k2
      ·refine aN ?_
       apply ae<;>intro WB
       ·have Ng:=(yh k2).1 rL
        have hIa:=hI o.a.toNat (by omega)
        refine aN ?_;(repeat(first|(refine ah ?_;first|refine aH hp ?_|refine ik hp ?_)|(refine aI ?_;refine iC hp ?_;intro w hp;refine az ?_)))
        refine lW hp kg [(⟨o.kind,I.getD o.a.toNat default,o.b⟩:dJ)] ?_;intro w bl hx hp;refine az ?_
        refine gT hp ?_;intro o2 c2 w hp bZ;refine az ?_;refine iC hp ?_;intro w hp;refine az ?_
        refine kF (j+1) _ _ _ (by omega) rfl ⟨by omega,O++[(⟨o.kind,I.getD o.a.toNat default,o.b⟩:dJ)],o2,c2,⟨by rw[List.length_append,Fu];rfl,fun q hq=> ?_⟩,(hp.drop.drop).f1.f1⟩
        rcases fY hq with hq|rfl
        ·exact yN q hq
        ·unfold sU da at*
         try dsimp only
         omega
       ·exact absurd k2 WB
      ·refine aM ?_
       apply ae<;>intro k3
       ·have Ng:=(yi k3).1 rL
        have hIa:=hI o.a.toNat (by omega)
        refine aN ?_;(repeat(first|(refine ah ?_;first|refine aH hp ?_|refine ik hp ?_)|(refine aI ?_;refine iC hp ?_;intro w hp;refine az ?_)))
        refine lW hp kg [(⟨o.kind,I.getD o.a.toNat default,o.b⟩:dJ)] ?_;intro w bl hx hp;refine az ?_
        refine gT hp ?_;intro o2 c2 w hp bZ;refine az ?_;refine iC hp ?_;intro w hp;refine az ?_
        refine kF (j+1) _ _ _ (by omega) rfl ⟨by omega,O++[(⟨o.kind,I.getD o.a.toNat default,o.b⟩:dJ)],o2,c2,⟨by rw[List.length_append,Fu];rfl,fun q hq=> ?_⟩,(hp.drop.drop).f1.f1⟩
        rcases fY hq with hq|rfl
        ·exact yN q hq
        ·unfold sU da at*
         try dsimp only
         omega
       ·refine aM ?_;(repeat(refine aH hp ?_))
        refine lW hp kg [o] ?_;intro w bl hx hp;refine az ?_
        refine gT hp ?_;intro o2 c2 w hp bZ;refine az ?_;refine iC hp ?_;intro w hp;refine az ?_
        refine kF (j+1) _ _ _ (by omega) rfl ⟨by omega,O++[o],o2,c2,⟨by rw[List.length_append,Fu];rfl,fun q hq=> ?_⟩,(hp.drop.drop).f1.f1⟩
        rcases fY hq with hq|rfl
        ·exact yN q hq
        ·unfold sU da at*
         try dsimp only
         omega
    ·refine aM ?_;(repeat(refine aH hp ?_))
     obtain rfl:j=((D.ms.getD k default).aP.getD i default).ops.length:=by omega
     refine lW hp BI [(⟨z,O,oa,oc⟩:qI)] ?_;intro w bl hx hp;refine az ?_
     refine gT hp ?_;intro a2 c2 w hp bZ;refine az ?_;refine iC hp ?_;intro w hp;refine az ?_
     have hp:=(Ej (R:=A) (y:=(⟨z,O,oa,oc⟩:qI)) ((hp.drop.f1.drop).f1.f2.f2)).f1
     have r7:(A++[(⟨z,O,oa,oc⟩:qI)]).length=A.length+1:=by rw[List.length_append];rfl
     refine IH (i+1) _ _ _ (by omega) rfl ⟨by omega,A++[(⟨z,O,oa,oc⟩:qI)],a2,c2,⟨by omega,fun y hy=> ?_⟩,hp⟩
     rcases fY hy with hy|rfl
     ·exact W9 y hy
     ·exact⟨by unfold da;dsimp only;omega,by dsimp only;omega,yN⟩
   ·refine aM ?_
    obtain rfl:i=(D.ms.getD k default).aP.length:=by omega
    clear IH
    refine aR [2,6,11,12,14,15,23] (fun(i:Nat)=>[(2,.int .i64 p),(6,.pointer (some ⟨b6,0,none⟩)),(11,.pointer (some ⟨wV,0,none⟩)),(12,.pointer (some ⟨ti,0,none⟩)),(14,.pointer (some ⟨B8,0,none⟩)),(15,.slice ia I.length ic),(23,.int .i64 (i:Int))])
     (fun i w'=>i<=(D.ms.getD k default).ms.length/\∃(Q:List yf) (ma:Option Addr) (mc:Nat),(Q.length<=2+i/\∀y,y∈Q->JV y)/\Hp w0 w' (rO 75 2 BI aa ac A::tZ A::rO 3 1 eI ia ic I::rO 66 3 n7 sa sc S::rB B8 41 (D.ms.getD k default).cs::rB ti 41 (aL Tryz.np.zero)::rB wV 41 [.slice sa S.length sc,.slice aa A.length ac,.slice f.ia f.ins.length f.ic,.slice ma Q.length mc]::rB b6 136 D.cs::kQ f.ia f.ic f.ins::rO 70 4 p9 ma mc Q::L)) (fun i=>(D.ms.getD k default).ms.length-i) 0 rfl ⟨by omega,f.ms,f.ma,f.mc,⟨by omega,hW.ms⟩,hp⟩ ?_
    clear hp
    rintro i w1 ⟨SX,Q,ma,mc,⟨hQ1,hQ2⟩,hp⟩ IH C
    refine bL ?_;refine aH hp ?_
    apply ae<;>intro Kr
    ·have aF:i<(D.ms.getD k default).ms.length:=by omega
     obtain⟨m1,m2,m3,m4⟩:=hM.ms i aF
     unfold dr at m1 m2 m3 m4
     change 0<=((D.ms.getD k default).ms.getD i default).addr/\((D.ms.getD k default).ms.getD i default).addr<(D.ms.getD k default).sg.length at m1
     change 0<=((D.ms.getD k default).ms.getD i default).data/\((D.ms.getD k default).ms.getD i default).data<(D.ms.getD k default).sg.length at m2
     change 0<=((D.ms.getD k default).ms.getD i default).write/\((D.ms.getD k default).ms.getD i default).write<(D.ms.getD k default).sg.length at m3
     change 0<=((D.ms.getD k default).ms.getD i default).out/\((D.ms.getD k default).ms.getD i default).out<(D.ms.getD k default).sg.length at m4
     have j1:=hI ((D.ms.getD k default).ms.getD i default).addr.toNat (by omega)
     have j2:=hI ((D.ms.getD k default).ms.getD i default).data.toNat (by omega)
     have j3:=hI ((D.ms.getD k default).ms.getD i default).write.toNat (by omega)
     have j4:=hI ((D.ms.getD k default).ms.getD i default).out.toNat (by omega)
     obtain⟨q,hq⟩:∃q:yf,q=⟨I.getD ((D.ms.getD k default).ms.getD i default).addr.toNat default,I.getD ((D.ms.getD k default).ms.getD i default).data.toNat default,I.getD ((D.ms.getD k default).ms.getD i default).write.toNat default,I.getD ((D.ms.getD k default).ms.getD i default).out.toNat default⟩:=⟨_,rfl⟩
     have hqw:JV q:=by rw[hq];unfold JV da;dsimp only;omega
     refine aN ?_;(repeat(refine ah ?_;first|refine aH hp ?_|refine bb hp ?_))
     refine bP hp ?_;intro w Tg hx hp;refine az ?_;refine aW hp ?_;intro w hp;refine az ?_
     refine j8 hp ?_;intro w hx hp;have hs:=hp;(repeat(refine ah ?_;first|refine dQ ?_|refine jr rfl (by omega) (by omega) rfl rfl rfl ?_))
     refine CU (fun _ hx=>hs.ext hx) hp p9 [(⟨I.getD ((D.ms.getD k default).ms.getD i default).addr.toNat default,I.getD ((D.ms.getD k default).ms.getD i default).data.toNat default,I.getD ((D.ms.getD k default).ms.getD i default).write.toNat default,I.getD ((D.ms.getD k default).ms.getD i default).out.toNat default⟩:yf)] rfl rfl rfl rfl (s:=4) rfl (by decide) (by infer_instance) (by rfl) (by rfl) (by rfl) (by decide) ?_;intro w bl hx hp;have hs:=hs.ext hx;refine fW ?_
     refine gW hp rfl rfl rfl rfl rfl rfl rfl (by decide) rfl (zl) rfl rfl (by kernel_rfl) ?_;intro m2 c2 w hp bZ;refine fW ?_;refine CX hp rfl rfl rfl rfl (by kernel_rfl) ?_;intro w hp;refine fW ?_
     rw[<-hq] at hp
     skip
     have r7:(Q++[q]).length=Q.length+1:=by rw[List.length_append];rfl
     refine IH (i+1) _ _ _ (by omega) rfl ⟨by omega,Q++[q],m2,c2,⟨by omega,fun y hy=> ?_⟩,hp.drop.drop⟩
     rcases fY hy with hy|rfl
     ·exact hQ2 y hy
     ·exact hqw
    ·refine aM ?_;refine aH hp ?_
     obtain rfl:i=(D.ms.getD k default).ms.length:=by omega
     clear IH
     (first|apply fx|apply cf)<;>intro g1 e<;>rw[e]<;>clear e;all_goals((repeat(first|(refine aG ?_;first|refine aO ?_|refine ba ?_)|(refine ah ?_;refine aH hp ?_))))
     ·refine aN ?_;(repeat(first|(refine ah ?_;refine aH hp ?_)|(refine aI ?_;refine aW hp ?_;intro w hp;refine az ?_)|(refine dD ?_;refine bh hp rfl ?_)))
      exact⟨⟨S,sa,sc,A,aa,ac,f.ins,f.ia,f.ic,Q,ma,mc⟩,false,rfl,.inr ⟨rfl,hp.drop.drop.drop.drop.drop.drop.drop.drop.drop.drop⟩⟩
     ·(first|apply fx|apply cf)<;>intro g2 e<;>rw[e]<;>clear e;all_goals((repeat(first|(refine aG ?_;first|refine aO ?_|refine ba ?_)|(refine ah ?_;refine aH hp ?_))))
      ·refine aN ?_;(repeat(first|(refine ah ?_;refine aH hp ?_)|(refine aI ?_;refine aW hp ?_;intro w hp;refine az ?_)|(refine dD ?_;refine bh hp rfl ?_)))
       exact⟨⟨S,sa,sc,A,aa,ac,f.ins,f.ia,f.ic,Q,ma,mc⟩,false,rfl,.inr ⟨rfl,hp.drop.drop.drop.drop.drop.drop.drop.drop.drop.drop⟩⟩
      ·apply ae<;>intro g3
       ·refine aN ?_;(repeat(first|(refine ah ?_;refine aH hp ?_)|(refine aI ?_;refine aW hp ?_;intro w hp;refine az ?_)|(refine dD ?_;refine bh hp rfl ?_)))
        exact⟨⟨S,sa,sc,A,aa,ac,f.ins,f.ia,f.ic,Q,ma,mc⟩,false,rfl,.inr ⟨rfl,hp.drop.drop.drop.drop.drop.drop.drop.drop.drop.drop⟩⟩
       ·refine aM ?_
        have hp:=(qJ hp).f6.f6.f6.f6.f5.f8.f8.f7.f8
        have hp:=oH (x:=⟨S,sa,sc,A,aa,ac,f.ins,f.ia,f.ic,Q,ma,mc⟩) hp
        have hg:Ei ⟨S,sa,sc,A,aa,ac,f.ins,f.ia,f.ic,Q,ma,mc⟩:=⟨⟨Nw,W9,hW.ins,hQ2⟩,by show S.length<=30;omega,by show A.length<=30;omega,by show Q.length<=2;omega⟩
        refine aR [2,6,11,12,14,15,25] (fun(i:Nat)=>[(2,.int .i64 p),(6,.pointer (some ⟨b6,0,none⟩)),(11,.pointer (some ⟨wV,0,none⟩)),(12,.pointer (some ⟨ti,0,none⟩)),(14,.pointer (some ⟨B8,0,none⟩)),(15,.slice ia I.length ic),(25,.int .i64 (i:Int))])
         (fun i w'=>i<=(D.ms.getD k default).ins.length/\∃(g:bm),(Ei g/\S.length<=g.sg.length)/\Hp w0 w' (mS g::rO 3 1 eI ia ic I::rB B8 41 (D.ms.getD k default).cs::rB ti 41 (aL Tryz.np.zero)::rB wV 41 g.cs::rB b6 136 D.cs::L)) (fun i=>(D.ms.getD k default).ins.length-i) 0 rfl ⟨by omega,_,⟨hg,Nat.le_refl _⟩,hp⟩ ?_
        clear hp hg
        rintro i w1 ⟨hi4,g,⟨hg,hgl⟩,hp⟩ IH C
        refine bL ?_;refine aH hp ?_
        apply ae<;>intro hlt4
        ·have aF:i<(D.ms.getD k default).ins.length:=by omega
         have lii:Xr i (D.ms.getD k default).ins:=⟨aF⟩
         refine aN ?_;(repeat(refine ah ?_;first|refine aH hp ?_|refine bb hp ?_))
         refine bP hp ?_;intro w Th hx hp;refine az ?_;(repeat(first|(refine aI ?_;refine aW hp ?_;intro w hp;refine az ?_)|(refine bK ?_;refine gG hp ?_;intro w _ hx hp;refine az ?_)))
         have HU:=hM.ct.im i aF
         have Sq:=hM.ct.ip i aF
         have hprm:=hM.prm i aF
         have hprt:=hM.prt i aF
         obtain⟨q,hq⟩:=Int.eq_ofNat_of_zero_le HU.1
         rw[hq,Int.toNat_natCast] at Sq
         rw[hq] at HU hp
         have AH:=uv (D.ms.getD q default).n
         have hIl2:zN I g.sg.length:=hI.mono hgl
         refine jv [2,6,11,12,14,15,25,26,27,28] (fun(j:Nat) (N:List Int) (na:Option Addr) (nc:Nat)=>[(2,.int .i64 p),(6,.pointer (some ⟨b6,0,none⟩)),(11,.pointer (some ⟨wV,0,none⟩)),(12,.pointer (some ⟨ti,0,none⟩)),(14,.pointer (some ⟨B8,0,none⟩)),(15,.slice ia I.length ic),(25,.int .i64 (i:Int)),(26,.pointer (some ⟨Th,0,none⟩)),(27,.slice na N.length nc),(28,.int .i64 (j:Int))])
          (fun j N na nc w'=>(j<=((D.ms.getD k default).ins.getD i default).ins.length/\N.length=j/\zN N g.sg.length)/\Hp w0 w' (rO 3 1 eI na nc N::rB Th 150 [.int .i64 ((q:Nat):Int),.int .i64 ((D.ms.getD k default).ins.getD i default).init,.slice ((D.ms.getD k default).ins.getD i default).ia ((D.ms.getD k default).ins.getD i default).ins.length ((D.ms.getD k default).ins.getD i default).ic]::mS g::rO 3 1 eI ia ic I::rB B8 41 (D.ms.getD k default).cs::rB ti 41 (aL Tryz.np.zero)::rB wV 41 g.cs::rB b6 136 D.cs::L)) (fun j _ _ _=>((D.ms.getD k default).ins.getD i default).ins.length-j) 0 [] _ _ rfl ⟨⟨by omega,rfl,fun j hj=>absurd hj (Nat.not_lt_zero _)⟩,hp⟩ ?_
         clear hp
         rintro j N na nc w1 ⟨⟨hj,Ti,hNb⟩,hp⟩ kF C
         refine bL ?_;refine aH hp ?_
         apply ae<;>intro hlt5
         ·have zd:j<((D.ms.getD k default).ins.getD i default).ins.length:=by omega
          have hpj:=hprt j zd
          unfold dr at hpj
          change 0<=((D.ms.getD k default).ins.getD i default).ins.getD j default/\((D.ms.getD k default).ins.getD i default).ins.getD j default<(D.ms.getD k default).sg.length at hpj
          have hIj:=hIl2 (((D.ms.getD k default).ins.getD i default).ins.getD j default).toNat (by omega)
          refine aN ?_;(repeat(first|(refine ah ?_;first|refine aH hp ?_|refine bb hp ?_|refine ik hp ?_)|(refine bK ?_;refine gG hp ?_;intro w _ hx hp;refine az ?_)))
          refine gT hp ?_;intro n2 c2 w hp bZ;refine az ?_
          refine kF (j+1) (N++[I.getD (((D.ms.getD k default).ins.getD i default).ins.getD j default).toNat default]) n2 c2 _ _ _ (by omega) rfl ⟨⟨by omega,by rw[List.length_append,Ti];rfl,hNb.snoc hIj⟩,hp.drop⟩
         ·refine aM ?_;refine aH hp ?_
          obtain rfl:j=((D.ms.getD k default).ins.getD i default).ins.length:=by omega
          clear kF
          apply ae<;>intro hz
          ·refine aN ?_;(repeat(refine aH hp ?_))
           refine cx Tryz.func159 (zj D hOk hO K q (by omega) (by omega) (p) true N na nc g (by omega) (fun _=>by rw[Ti];exact Sq) hNb hg hp.f2) ?_
           rintro _ w ⟨y,b,rfl,h⟩
           rcases h with⟨rfl,⟨hy,th⟩,hp⟩|⟨rfl,hp⟩
           ·refine az ?_
            refine bP hp ?_;intro w b30 hx hp;refine az ?_;refine aW hp ?_;intro w hp;refine az ?_
            refine aM ?_;(repeat(first|(refine ah ?_;refine aH hp ?_)|(refine aI ?_;refine aW hp ?_;intro w hp;refine az ?_)))
            exact IH (i+1) _ _ _ (by omega) rfl ⟨by omega,y,⟨hy,by omega⟩,hp.drop.f1.drop.f1.drop⟩
           ·refine az ?_
            refine bP hp ?_;intro w b30 hx hp;refine az ?_;refine aW hp ?_;intro w hp;refine az ?_
            refine aN ?_;(repeat(first|(refine ah ?_;refine aH hp ?_)|(refine aI ?_;refine aW hp ?_;intro w hp;refine az ?_)|(refine dD ?_;refine bh hp rfl ?_)))
            exact⟨g,false,rfl,.inr ⟨rfl,hp.drop.drop.drop.drop.drop.drop.drop.drop⟩⟩
          ·refine aM ?_;(repeat(refine aH hp ?_))
           refine cx Tryz.func159 (zj D hOk hO K q (by omega) (by omega) (((D.ms.getD k default).ins.getD i default).init) true N na nc g (by omega) (fun _=>by rw[Ti];exact Sq) hNb hg hp.f2) ?_
           rintro _ w ⟨y,b,rfl,h⟩
           rcases h with⟨rfl,⟨hy,th⟩,hp⟩|⟨rfl,hp⟩
           ·refine az ?_
            refine bP hp ?_;intro w b30 hx hp;refine az ?_;refine aW hp ?_;intro w hp;refine az ?_
            refine aM ?_;(repeat(first|(refine ah ?_;refine aH hp ?_)|(refine aI ?_;refine aW hp ?_;intro w hp;refine az ?_)))
            exact IH (i+1) _ _ _ (by omega) rfl ⟨by omega,y,⟨hy,by omega⟩,hp.drop.f1.drop.f1.drop⟩
           ·refine az ?_
            refine bP hp ?_;intro w b30 hx hp;refine az ?_;refine aW hp ?_;intro w hp;refine az ?_
            refine aN ?_;(repeat(first|(refine ah ?_;refine aH hp ?_)|(refine aI ?_;refine aW hp ?_;intro w hp;refine az ?_)|(refine dD ?_;refine bh hp rfl ?_)))
            exact⟨g,false,rfl,.inr ⟨rfl,hp.drop.drop.drop.drop.drop.drop.drop.drop⟩⟩
        ·refine aM ?_;(repeat(first|(refine ah ?_;refine aH hp ?_)|(refine aI ?_;refine aW hp ?_;intro w hp;refine az ?_)|(refine dD ?_;refine bh hp rfl ?_)))
         exact⟨g,true,rfl,.inl ⟨rfl,⟨hg,by omega⟩,hp.f1.drop.f1.drop.f1.drop.f1.drop.f1.drop⟩⟩
end Go.Proofs
