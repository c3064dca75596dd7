/- The contract of the program's push along a way that was found; under its stated conditions. -/
import Derived.Test.YtbjgekllkfnjnaaLblW
set_option linter.all false
namespace Go.Proofs
open Go.Xw
set_option maxRecDepth 100000
set_option maxHeartbeats 4000000
attribute [local irreducible] Holds elemAddr
theorem push_h (x : NetA) (hok : NetOkP x.n) (k0 : Nat) (hkf : fst_ x.n ≤ k0) (hk2 : k0 < nds x.n) (Lb : List Int) (h : Int) (hh : 1 ≤ h) (hL : LblOk x.n Lb k0) (B F : List Bool) (I0 : List Int) (E0 : Nat × Nat → Int) (f : Flo) (hF : FlwP x.n k0 Lb h B F I0 E0 f) (bb : Int) (hb : BndP I0 E0 bb) (hb0 : 0 ≤ bb ∧ bb ≤ 1000000) (bF be bm : Nat) (ca fa ia : Option Addr) (cc fc ic : Nat)
  (FR : Fr) (q l : Nat) (hP : PSr (lgG x.n k0 Lb h) f k0 FR q) (hq : q < FR.length) (hxq : (FR.getD q default).1 = (l, false)) (hl : 0 < l ∧ l < fst_ x.n) (w0 w1 : World) (L : List Res) (hp1 : Hp w0 w1 (rMF eSt eSt dSt bm FR :: rB bF 101 [.int .i64 x.inputs, .slice x.sa x.seqs.length x.sc, .slice x.aa x.ands.length x.ac, .slice x.oa x.outs.length x.oc, .int .i64 (k0 : Int), .slice ca (nds x.n) cc, .slice fa (nds x.n) fc, .slice ia (nds x.n) ic, .map (some be)] :: rO 4 1 eB ca cc B :: rO 4 1 eB fa fc F :: rO 3 1 eI ia ic I0 :: rMZ ePr eIV dPr 0 be E0 :: L)) :
  Ret Try.prog 95 [.pointer (some ⟨bF, 0, none⟩), .map (some bm), .agg ⟨[.int .i64 (l : Int), .bool false]⟩] w1 (fun v w' => ∃ I E f', v = .tuple ⟨[]⟩ ∧ FlwP x.n k0 Lb h B F I E f' ∧ f'.tot (lgG x.n k0 Lb h) = f.tot (lgG x.n k0 Lb h) + 1 ∧ BndP I E (bb + 2 * nds x.n) ∧ Hp w0 w' (rB bF 101 [.int .i64 x.inputs, .slice x.sa x.seqs.length x.sc, .slice x.aa x.ands.length x.ac, .slice x.oa x.outs.length x.oc, .int .i64 (k0 : Int), .slice ca (nds x.n) cc, .slice fa (nds x.n) fc, .slice ia (nds x.n) ic, .map (some be)] :: rO 4 1 eB ca cc B :: rO 4 1 eB fa fc F :: rO 3 1 eI ia ic I :: rMZ ePr eIV dPr 0 be E :: L)) := by
 have hn := hok.nums
 obtain ⟨n1, n2, n3, n4, n5, n6⟩ := hn
 have hn := hok.nums
 have hG := lgG_ok (h := h) hn hL hk2
 have hnd := hok.nodes
 have hsz := hok.size'
 have hPl : FR.length ≤ 2 * nds x.n := hP.len
 have hst := PushP.start hF.fp hq hxq hl (lgLeaf hL hkf hh hl) (by omega)
 refine enter Try.S95ok _ _ rfl rfl (by show _ ≤ _; simp only [List.length]; decide) (fun C => ?_); have hp := hp1; refine h_run rfl ?_
 skip
 (first | refine H_box hp ?_ | refine H_alloc hp rfl ?_); intro w b5 hx hp; refine ops_run nopre rfl ?_; (repeat (refine H_ldB hp rfl rfl ?_))
 (first | refine H_box hp ?_ | refine H_alloc hp rfl ?_); intro w b6 hx hp; refine ops_run nopre rfl ?_; (repeat (refine U_stBN hp rfl rfl rfl rfl ?_; intro w hp; refine ops_run nopre rfl ?_))
 have hp := (hp.f1).drop
 have e0 : [Value.int .i64 (l : Int), .bool false] = eS2 (FR.getD q default).1 := by rw [hxq]; rfl
 have hp : Hp w0 _ (rB b6 108 [.int .i64 (l : Int), .bool false] :: rMF eSt eSt dSt bm FR :: rB bF 101 [.int .i64 x.inputs, .slice x.sa x.seqs.length x.sc, .slice x.aa x.ands.length x.ac, .slice x.oa x.outs.length x.oc, .int .i64 (k0 : Int), .slice ca (nds x.n) cc, .slice fa (nds x.n) fc, .slice ia (nds x.n) ic, .map (some be)] :: rO 4 1 eB ca cc B :: rO 4 1 eB fa fc F :: rO 3 1 eI ia ic I0 :: rMZ ePr eIV dPr 0 be E0 :: L) := hp
 rw [e0] at hp
 refine h_loop5 [0, 1, 6] (fun (_ b6 : Nat) (_ : List Int) (_ : Nat × Nat → Int) (_ : Flo) => [(0, .pointer (some ⟨bF, 0, none⟩)), (1, .map (some bm)), (6, .pointer (some ⟨b6, 0, none⟩))])
  (fun j b6 I E f' w' => (j ≤ q ∧ PushP (lgG x.n k0 Lb h) f FR j f' ∧ RepP (nds x.n) I E f' ∧ BndP I E (bb + (q - j : Int))) ∧ Hp w0 w' (rB b6 108 (eS2 (FR.getD j default).1) :: rMF eSt eSt dSt bm FR :: rB bF 101 [.int .i64 x.inputs, .slice x.sa x.seqs.length x.sc, .slice x.aa x.ands.length x.ac, .slice x.oa x.outs.length x.oc, .int .i64 (k0 : Int), .slice ca (nds x.n) cc, .slice fa (nds x.n) fc, .slice ia (nds x.n) ic, .map (some be)] :: rO 4 1 eB ca cc B :: rO 4 1 eB fa fc F :: rO 3 1 eI ia ic I :: rMZ ePr eIV dPr 0 be E :: L)) (fun j _ _ _ _ => j) q b6 I0 E0 f rfl ⟨⟨by omega, hst, hF.rep, hb.le (by omega)⟩, hp⟩ ?_
 clear hp
 rintro j b6 I E f' w1 ⟨⟨hj, hpu, hR, hbn⟩, hp⟩ IH C
 have hjl : j < FR.length := by omega
 have hm := mget_at hP.nd hjl
 have hkN : (FR.getD j default).1.1 < nds x.n := by
  have := hP.dom (FR[j]) (List.getElem_mem hjl)
  rw [List.getD_eq_getElem?_getD, List.getElem?_eq_getElem hjl]
  exact this
 have hyN : (FR.getD j default).2.1 < nds x.n := by
  by_cases h0 : j = 0
  ·subst h0; rw [hP.st]; exact hk2
  ·obtain ⟨i, hi, he, _⟩ := hP.frm j (by omega) hjl hpu.n0
   have hil : i < FR.length := by omega
   have := hP.dom (FR[i]) (List.getElem_mem hil)
   rw [← he, List.getD_eq_getElem?_getD, List.getElem?_eq_getElem hil]
   exact this
 have hIl := hR.len
 obtain ⟨⟨⟨k, o⟩, ⟨k', o'⟩⟩, hz⟩ : ∃ z, z = FR.getD j default := ⟨_, rfl⟩
 rw [← hz] at hm hkN hyN hp
 have hkN : k < nds x.n := hkN
 have hyN : k' < nds x.n := hyN
 have hm : mget FR (k, o) = some (k', o') := hm
 have hp : Hp w0 _ (rB b6 108 [.int .i64 (k : Int), .bool o] :: rMF eSt eSt dSt bm FR :: rB bF 101 [.int .i64 x.inputs, .slice x.sa x.seqs.length x.sc, .slice x.aa x.ands.length x.ac, .slice x.oa x.outs.length x.oc, .int .i64 (k0 : Int), .slice ca (nds x.n) cc, .slice fa (nds x.n) fc, .slice ia (nds x.n) ic, .map (some be)] :: rO 4 1 eB ca cc B :: rO 4 1 eB fa fc F :: rO 3 1 eI ia ic I :: rMZ ePr eIV dPr 0 be E :: L) := hp
 refine h_run rfl ?_; (repeat (refine H_ldB hp rfl rfl ?_))
 have hdk : dSt (k, o) := show k < 1000000 by omega
 have hdy : dSt (k', o') := show k' < 1000000 by omega
 refine H_look (F := FR) (x := (k, o)) hp step_key hdk rfl rfl rfl rfl rfl rfl rfl rfl ?_
 rw [hm]
 refine ops_run nopre rfl ?_; skip
 (first | refine H_box hp ?_ | refine H_alloc hp rfl ?_); intro w b7 hx hp; refine ops_run nopre rfl ?_; (repeat (first | (refine gLoad ?_; refine H_ldB hp rfl rfl ?_) | (refine gStore ?_; refine U_stBN hp rfl rfl rfl rfl ?_; intro w hp; refine ops_run nopre rfl ?_)))
 have hp : Hp w0 _ (rB b7 108 [.int .i64 (k' : Int), .bool o'] :: rB b6 108 [.int .i64 (k : Int), .bool o] :: rMF eSt eSt dSt bm FR :: rB bF 101 [.int .i64 x.inputs, .slice x.sa x.seqs.length x.sc, .slice x.aa x.ands.length x.ac, .slice x.oa x.outs.length x.oc, .int .i64 (k0 : Int), .slice ca (nds x.n) cc, .slice fa (nds x.n) fc, .slice ia (nds x.n) ic, .map (some be)] :: rO 4 1 eB ca cc B :: rO 4 1 eB fa fc F :: rO 3 1 eI ia ic I :: rMZ ePr eIV dPr 0 be E :: L) := hp
 by_cases hj0 : j = 0
 ·subst hj0
  have e1 : (k, o) = (k', o') := by
   rw [hP.st] at hz
   injection hz with h1 h2
   exact h1.trans h2.symm
  injection e1 with e1 e2
  subst e1; subst e2
  refine h_cond_t (by simp) rfl ?_
  (repeat (refine R_ret ?_))
  exact ⟨I, E, f', rfl, ⟨hF.cl, hF.cone, hF.fl, hF.free, hR, (hpu.done hP (.inl rfl)).1⟩, (hpu.done hP (.inl rfl)).2, hbn.le (by omega), hp.drop.drop.drop⟩
 ·obtain ⟨i, hi, hie, hne, hstp, hpu2⟩ := hpu.step hG hP (by omega)
  rw [← hz] at hie hne hstp hpu2
  have hie : (FR.getD i default).1 = (k', o') := hie
  have hne : (k', o') ≠ (k, o) := hne
  have hstp : Stp (lgG x.n k0 Lb h) f (k', o') (k, o) := hstp
  have hpu2 : PushP (lgG x.n k0 Lb h) f FR i (bump f' (k', o') (k, o)) := hpu2
  have hdp1 : dPr (k, k') := ⟨by show k < 1000000; omega, by show k' < 1000000; omega⟩
  have hdp2 : dPr (k', k) := ⟨by show k' < 1000000; omega, by show k < 1000000; omega⟩
  have hbk := hbn.i k
  have hb1 := hbn.e (k, k')
  have hb2 := hbn.e (k', k)
  refine h_cond_f (by
   refine Bool.eq_false_iff.2 fun hh => hne ?_
   simp at hh
   rw [Prod.mk.injEq]
   exact ⟨by omega, hh.2.symm⟩) rfl ?_
  (repeat (refine H_ldB hp rfl rfl ?_))
  rcases push_case hG hstp hR hkN with ⟨c1, c2, c3, c4⟩ | ⟨c1, c2, c3, c4⟩ | ⟨c1, c2, c4⟩ | ⟨c1, c2, c4⟩
  ·have c1 : k = k' := c1
   subst c1
   obtain rfl : o = false := c2
   obtain rfl : o' = true := c3
   refine h_guard_by (fun hg => ?_) (fun hg => False.elim (by have hg := of_decide_eq_false hg; omega)); rw [hg]; clear hg; (repeat (first | (refine gGuard ?_; refine h_guard_y rfl nopre rfl ?_) | (refine gLoad ?_; refine H_ldB hp rfl rfl ?_)))
   refine h_cond_t rfl rfl ?_; skip
   refine D_draw hp (by kernel_rfl) (by kernel_rfl) rfl rfl ?_; intro w hx hp; have hs := hp; (repeat (first | (refine gLoad ?_; first | refine D_ldB rfl rfl rfl ?_ | refine D_ldEN rfl (by omega) rfl rfl rfl ?_) | (refine gStore ?_; refine V_st0N hp rfl rfl rfl (by omega) (by decide) rfl rfl (by kernel_rfl) ?_; intro w hp; refine D_ops rfl rfl ?_)))
   (repeat (first | (refine gLoad ?_; refine H_ldB hp rfl rfl ?_) | (refine gStore ?_; refine U_stBN hp rfl rfl rfl rfl ?_; intro w hp; refine ops_run nopre rfl ?_)))
   (first | refine H_box hp ?_ | refine H_alloc hp rfl ?_); intro w b9 hx hp; refine ops_run nopre rfl ?_; (repeat (refine U_stBN hp rfl rfl rfl rfl ?_; intro w hp; refine ops_run nopre rfl ?_))
   refine IH i b9 _ E _ _ _ _ hi rfl ⟨⟨by omega, hpu2, c4, (hbn.set (b' := bb + (q - j : Int) + 1) rfl (by omega)).le (by omega)⟩, ?_⟩
   rw [hie]
   exact (hp.f2.f2).drop.drop
  ·have c1 : k = k' := c1
   subst c1
   obtain rfl : o = true := c2
   obtain rfl : o' = false := c3
   refine h_guard_by (fun hg => ?_) (fun hg => False.elim (by have hg := of_decide_eq_false hg; omega)); rw [hg]; clear hg; (repeat (first | (refine gGuard ?_; refine h_guard_y rfl nopre rfl ?_) | (refine gLoad ?_; refine H_ldB hp rfl rfl ?_)))
   refine h_cond_f rfl rfl ?_; (repeat (refine H_ldB hp rfl rfl ?_))
   refine h_cond_dec (fun _ => ?_) (fun hg => False.elim (by omega)); refine h_cond_t rfl rfl ?_; skip
   refine D_draw hp (by kernel_rfl) (by kernel_rfl) rfl rfl ?_; intro w hx hp; have hs := hp; (repeat (first | (refine gLoad ?_; first | refine D_ldB rfl rfl rfl ?_ | refine D_ldEN rfl (by omega) rfl rfl rfl ?_) | (refine gStore ?_; refine V_st0N hp rfl rfl rfl (by omega) (by decide) rfl rfl (by kernel_rfl) ?_; intro w hp; refine D_ops rfl rfl ?_)))
   (repeat (first | (refine gLoad ?_; refine H_ldB hp rfl rfl ?_) | (refine gStore ?_; refine U_stBN hp rfl rfl rfl rfl ?_; intro w hp; refine ops_run nopre rfl ?_)))
   (first | refine H_box hp ?_ | refine H_alloc hp rfl ?_); intro w b9 hx hp; refine ops_run nopre rfl ?_; (repeat (refine U_stBN hp rfl rfl rfl rfl ?_; intro w hp; refine ops_run nopre rfl ?_))
   refine IH i b9 _ E _ _ _ _ hi rfl ⟨⟨by omega, hpu2, c4, (hbn.set (b' := bb + (q - j : Int) + 1) rfl (by omega)).le (by omega)⟩, ?_⟩
   rw [hie]
   exact (hp.f2.f2).drop.drop
  ·have c1 : k ≠ k' := c1
   obtain rfl : o = true := c2
   refine h_guard_by (fun hg => False.elim (by have hg := of_decide_eq_true hg; omega)) (fun hg => ?_); rw [hg]; clear hg; (repeat (refine h_guard_n rfl nopre rfl ?_))
   refine h_cond_f rfl rfl ?_; (repeat (refine H_ldB hp rfl rfl ?_))
   refine h_cond_dec (fun hg => False.elim (by omega)) (fun _ => ?_); refine h_cond_f rfl rfl ?_; (repeat (refine H_ldB hp rfl rfl ?_))
   refine h_cond_t rfl rfl ?_; skip
   have hp := hp.f6.f6.f6.f6.f6.f6.f6.f7
   refine D_draw hp (by kernel_rfl) (by kernel_rfl) rfl rfl ?_; intro w hx hp; have hs := hp; (repeat (refine D_ldB rfl rfl rfl ?_))
   show Holds _ _ _ _ _ (G.opx _ _ _ _ _ _)
   refine V_look (x := (k, k')) (e := E) pair_key hdp1 rfl rfl rfl rfl rfl rfl rfl rfl rfl rfl ?_
   refine D_ops rfl rfl ?_
   show Holds _ _ _ _ _ (G.opx _ _ _ _ _ _)
   refine V_ent (x := (k, k')) hp pair_key hdp1 rfl rfl rfl rfl rfl rfl rfl rfl rfl rfl (fun _ hq => hq) ?_
   intro w F' m hp hfm
   refine D_ops rfl rfl ?_
   show Holds _ _ _ _ _ (G.opx _ _ _ _ _ _)
   refine V_est (v := E (k, k') + 1) hp hfm rfl rfl rfl rfl rfl rfl rfl ?_
   intro w hp
   refine D_ops rfl rfl ?_; skip
   (repeat (first | (refine gLoad ?_; refine H_ldB hp rfl rfl ?_) | (refine gStore ?_; refine U_stBN hp rfl rfl rfl rfl ?_; intro w hp; refine ops_run nopre rfl ?_)))
   (first | refine H_box hp ?_ | refine H_alloc hp rfl ?_); intro w b9 hx hp; refine ops_run nopre rfl ?_; (repeat (refine U_stBN hp rfl rfl rfl rfl ?_; intro w hp; refine ops_run nopre rfl ?_))
   refine IH i b9 _ _ _ _ _ _ hi rfl ⟨⟨by omega, hpu2, c4, (hbn.upd (b' := bb + (q - j : Int) + 1) rfl (by omega)).le (by omega)⟩, ?_⟩
   rw [hie]
   exact ((hp.f1.f1.f3.f3).drop.drop).f1.f6.f6.f6.f6.f6.f6
  ·have c1 : k ≠ k' := c1
   obtain rfl : o = false := c2
   refine h_guard_by (fun hg => False.elim (by have hg := of_decide_eq_true hg; omega)) (fun hg => ?_); rw [hg]; clear hg; (repeat (refine h_guard_n rfl nopre rfl ?_))
   refine h_cond_f rfl rfl ?_; (repeat (refine H_ldB hp rfl rfl ?_))
   refine h_cond_dec (fun hg => False.elim (by omega)) (fun _ => ?_); refine h_cond_f rfl rfl ?_; (repeat (refine H_ldB hp rfl rfl ?_))
   refine h_cond_f rfl rfl ?_; skip
   have hp := hp.f6.f6.f6.f6.f6.f6.f6.f7
   refine D_draw hp (by kernel_rfl) (by kernel_rfl) rfl rfl ?_; intro w hx hp; have hs := hp; (repeat (refine D_ldB rfl rfl rfl ?_))
   show Holds _ _ _ _ _ (G.opx _ _ _ _ _ _)
   refine V_look (x := (k', k)) (e := E) pair_key hdp2 rfl rfl rfl rfl rfl rfl rfl rfl rfl rfl ?_
   refine D_ops rfl rfl ?_
   show Holds _ _ _ _ _ (G.opx _ _ _ _ _ _)
   refine V_ent (x := (k', k)) hp pair_key hdp2 rfl rfl rfl rfl rfl rfl rfl rfl rfl rfl (fun _ hq => hq) ?_
   intro w F' m hp hfm
   refine D_ops rfl rfl ?_
   show Holds _ _ _ _ _ (G.opx _ _ _ _ _ _)
   refine V_est (v := E (k', k) - 1) hp hfm rfl rfl rfl rfl rfl rfl rfl ?_
   intro w hp
   refine D_ops rfl rfl ?_; skip
   (repeat (first | (refine gLoad ?_; refine H_ldB hp rfl rfl ?_) | (refine gStore ?_; refine U_stBN hp rfl rfl rfl rfl ?_; intro w hp; refine ops_run nopre rfl ?_)))
   (first | refine H_box hp ?_ | refine H_alloc hp rfl ?_); intro w b9 hx hp; refine ops_run nopre rfl ?_; (repeat (refine U_stBN hp rfl rfl rfl rfl ?_; intro w hp; refine ops_run nopre rfl ?_))
   refine IH i b9 _ _ _ _ _ _ hi rfl ⟨⟨by omega, hpu2, c4, (hbn.upd (b' := bb + (q - j : Int) + 1) rfl (by omega)).le (by omega)⟩, ?_⟩
   rw [hie]
   exact ((hp.f1.f1.f3.f3).drop.drop).f1.f6.f6.f6.f6.f6.f6
end Go.Proofs
