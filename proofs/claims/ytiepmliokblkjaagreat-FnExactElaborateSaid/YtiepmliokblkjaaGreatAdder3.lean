/- Texts that belong together; each under its stated conditions. -/
import Derived.Test.YtiepmliokblkjaaGreatAdder
import Derived.Test.YtiepmliokblkjaaGreatOpsOk
import Derived.Test.YtiepmliokblkjaaGreatMapLaw
set_option linter.all false
section
namespace Go.Xw
theorem leP.look {y : NetL} {s s' : NetL × Bool} (h : leP s s') (hs : s.1 = { y with ands := s.1.ands }) : s'.1 = { y with ands := s'.1.ands } := by
 rw [h.1.2, hs]
end Go.Xw
namespace Go.Proofs
open Go.Xw
set_option maxRecDepth 100000
set_option maxHeartbeats 4000000
attribute [local irreducible] Holds elemAddr
theorem complements_h (a : Option Addr) (c n : Nat) (X : List Int) (hn : X.length = n) (w0 : World) (hR : Rd w0 a 1 eI X) (hl : X.length ≤ 1000) (hx : ∀ i, i < X.length → 0 ≤ X.getD i default ∧ X.getD i default ≤ 1000000) :
  Ret Tryz.prog 97 [.slice a n c] w0 (fun v w => ∃ b c', v = .slice b n c' ∧ Hp w0 w [rO 3 1 eI b c' (X.map notL)]) := by
 subst hn
 refine enter Tryz.S97ok _ _ rfl rfl (by show _ ≤ _; simp only [List.length]; decide) (fun C => ?_); have hp := Hp.nil w0; refine h_run rfl ?_; skip
 refine h_loop3 [3, 6, 7, 8] (fun (i : Nat) (b : Option Addr) (c' : Nat) => [(3, .slice b ((X.take i).map notL).length c'), (6, .slice a X.length c), (7, .int .i64 X.length), (8, .int .i64 (i : Int))])
  (fun i b c' w' => i ≤ X.length ∧ Hp w0 w' [rO 3 1 eI b c' ((X.take i).map notL)]) (fun i _ _ => X.length - i) 0 none 0 rfl ⟨by omega, hp.ownN (Ext.refl _) (Own.nil _ _ _ _ _)⟩ ?_
 clear hp
 rintro i b c' w1 ⟨hi, hp⟩ IH C
 have hml : ((X.take i).map notL).length = i := by simp; omega
 refine h_run rfl ?_; skip
 refine h_cond_dec (fun hlt => ?_) (fun hlt => ?_)
 ·have hlt' : i < X.length := by omega
  have hxi := hx i hlt'
  have e : (X.take (i + 1)).map notL = (X.take i).map notL ++ [notL (X.getD i default)] := by rw [take_snocC hlt', List.map_append]; rfl
  have en : bits .xor .i64 (X.getD i default) 1 = notL (X.getD i default) := rfl
  refine h_cond_t rfl rfl ?_; (repeat (first | (refine gLoad ?_; refine H_ldEN hp rfl (by omega) rfl rfl ?_) | (refine gBuild ?_; refine U_litI hp rfl rfl rfl rfl rfl rfl rfl rfl rfl rfl ?_; intro w _ hx hp; refine ops_run nopre rfl ?_)))
  refine U_append hp rfl rfl rfl rfl rfl rfl rfl (by decide) rfl (by first | omega | (simp only [List.length_append, List.length_cons, List.length_nil, List.length_take, List.length_drop, List.length_set, List.length_replicate, List.length_map]; omega)) rfl rfl ?_; intro b' c'' w hp hnil; refine ops_run nopre rfl ?_; skip
  refine IH (i + 1) b' c'' _ _ _ (by omega) (by rw [e]; rfl) ⟨by omega, ?_⟩
  rw [e]
  exact hp.drop
 ·refine h_cond_f rfl rfl ?_; (repeat (refine R_ret ?_))
  obtain rfl : i = X.length := by omega
  rw [List.take_length] at hp
  exact ⟨b, c', by rw [hml], hp⟩
theorem lone_h (y : NetA) (s : NetL × Bool) (z : Int) (bx p wd : Nat) (hw : 1 ≤ wd ∧ wd ≤ 4) (sv : Value) (aa : Option Addr) (ac : Nat) {w0 w1 : World} {L : List Res} (hp1 : Hp w0 w1 (rB bx 88 [.pointer (some ⟨p, 0, none⟩), sv, .int .i64 (wd : Int), .bool s.2] :: rB p 33 (y.wA aa ac s.1.ands).cs :: rO 120 2 eII aa ac s.1.ands :: L)) :
  Ret Tryz.prog 155 [.pointer (some ⟨bx, 0, none⟩), .int .i64 z] w1 (fun v w' => ∃ b c, v = .slice b wd c ∧ Hp w0 w' (rO 3 1 eI b c (loneL wd z) :: rB bx 88 [.pointer (some ⟨p, 0, none⟩), sv, .int .i64 (wd : Int), .bool s.2] :: rB p 33 (y.wA aa ac s.1.ands).cs :: rO 120 2 eII aa ac s.1.ands :: L)) := by
 refine enter Tryz.S155ok _ _ rfl rfl (by show _ ≤ _; simp only [List.length]; decide) (fun C => ?_); have hp := hp1; refine h_run rfl ?_
 (repeat (refine H_ldB hp rfl rfl ?_))
 refine H_make hp eI 0 rfl rfl rfl rfl (s := 1) rfl (by decide) rfl (by unfold maxLen; omega) (by show 8 * _ ≤ _; omega) ?_; intro w b hx hp; refine ops_run nopre rfl ?_; skip
 have hrl : (List.replicate wd (0 : Int)).length = wd := by simp
 first | refine U_st0N hp (y := z) rfl rfl rfl (by omega) (by decide) (rfl) rfl ?_ | refine U_st0 hp (y := z) rfl rfl rfl (by omega) (by decide) (rfl) rfl ?_
 intro w hp; refine ops_run nopre rfl ?_; (repeat (refine R_ret ?_))
 exact ⟨_, _, rfl, hp⟩
theorem signalBit_h (R : List (RowA Int)) (sa : Option Addr) (sc : Nat) (i k : Nat) (hi : i < R.length) (hk : k ≤ 1000) (bx p wd : Nat) (bad : Bool) {w0 w1 : World} {L : List Res} (hl : R.length ≤ 1000) [hS : RdH w0 L sa 1 eRo R] [hQ : RowsH w0 L 1 eI R] (hg : (R.getD i default).ins.length ≤ 1000)
  (hp1 : Hp w0 w1 (rB bx 88 [.pointer (some ⟨p, 0, none⟩), .slice sa R.length sc, .int .i64 (wd : Int), .bool bad] :: L)) :
  Ret Tryz.prog 151 [.pointer (some ⟨bx, 0, none⟩), .int .i64 (i : Int), .int .i64 (k : Int)] w1 (fun v w' => v = .int .i64 (pickL (R.getD i default).ins k) ∧ Ext w1 w') := by
 have hri := hQ.at_ hi
 refine enter Tryz.S151ok _ _ rfl rfl (by show _ ≤ _; simp only [List.length]; decide) (fun C => ?_); have hp := hp1; refine h_run rfl ?_
 (repeat (refine gLoad ?_; first | refine H_ldB hp rfl rfl ?_ | refine H_ldEN hp rfl (by omega) rfl rfl ?_))
 refine h_cond_dec (fun h => ?_) (fun h => ?_)
 ·refine h_cond_t rfl rfl ?_; (repeat (first | (refine gLoad ?_; first | refine H_ldB hp rfl rfl ?_ | refine H_ldEN hp rfl (by omega) rfl rfl ?_) | refine R_ret ?_))
  exact ⟨rfl, Ext.refl _⟩
 ·refine h_cond_f rfl rfl ?_; (repeat (refine R_ret ?_))
  refine ⟨?_, Ext.refl _⟩
  unfold pickL
  rw [List.getD_eq_getElem?_getD, List.getElem?_eq_none (by omega)]
  rfl
theorem sum_h (y : NetA) (s0 : NetL × Bool) (hs : s0.1 = { y.n with ands := s0.1.ands }) (hok : NetOkP s0.1) (aA bA : Option Addr) (cA cB wd : Nat) (hw : 1 ≤ wd ∧ wd ≤ 4) (a b : List Int) (ci : Int) (hla : a.length = wd) (hlb : b.length = wd) (ha : ∀ z, z ∈ a → litP z (nodesL s0.1)) (hb : ∀ z, z ∈ b → litP z (nodesL s0.1)) (hc : litP ci (nodesL s0.1)) (bx p : Nat) (sv : Value) (aa : Option Addr) (ac : Nat) {w0 w1 : World} {L : List Res} [hA : RdH w0 L aA 1 eI a] [hB : RdH w0 L bA 1 eI b] (hp1 : Hp w0 w1 (rB bx 88 [.pointer (some ⟨p, 0, none⟩), sv, .int .i64 (wd : Int), .bool s0.2] :: rB p 33 (y.wA aa ac s0.1.ands).cs :: rO 120 2 eII aa ac s0.1.ands :: L)) :
  Ret Tryz.prog 101 [.pointer (some ⟨bx, 0, none⟩), .slice aA wd cA, .slice bA wd cB, .int .i64 ci] w1 (fun v w' => ∃ b' c' aa' ac', v = .slice b' wd c' ∧ Hp w0 w' (rO 3 1 eI b' c' (sumA adP s0 a b ci).2 :: rB bx 88 [.pointer (some ⟨p, 0, none⟩), sv, .int .i64 (wd : Int), .bool (sumA adP s0 a b ci).1.2] :: rB p 33 (y.wA aa' ac' (sumA adP s0 a b ci).1.1.ands).cs :: rO 120 2 eII aa' ac' (sumA adP s0 a b ci).1.1.ands :: L)) := by
 refine enter Tryz.S101ok _ _ rfl rfl (by show _ ≤ _; simp only [List.length]; decide) (fun C => ?_); have hp := hp1; refine h_run rfl ?_
 skip
 refine h_loop5 [0, 1, 2, 3, 9, 15, 16] (fun (k : Nat) (o : Option Addr) (oc : Nat) (_ : Option Addr) (_ : Nat) => [(0, .pointer (some ⟨bx, 0, none⟩)), (1, .slice aA wd cA), (2, .slice bA wd cB), (3, .int .i64 (sumTo adP s0 a b ci k).2.2), (9, .slice o (sumTo adP s0 a b ci k).2.1.length oc), (15, .int .i64 (wd : Int)), (16, .int .i64 (k : Int))])
  (fun k o oc aa ac w' => k ≤ wd ∧ Hp w0 w' (rO 3 1 eI o oc (sumTo adP s0 a b ci k).2.1 :: rB bx 88 [.pointer (some ⟨p, 0, none⟩), sv, .int .i64 (wd : Int), .bool (sumTo adP s0 a b ci k).1.2] :: rB p 33 (y.wA aa ac (sumTo adP s0 a b ci k).1.1.ands).cs :: rO 120 2 eII aa ac (sumTo adP s0 a b ci k).1.1.ands :: L)) (fun k _ _ _ _ => wd - k) 0 none 0 aa ac rfl ⟨by omega, hp.ownN (Ext.refl _) (Own.nil _ _ _ _ _)⟩ ?_
 clear hp
 rintro k o oc aa ac w1 ⟨hk, hp⟩ IH C
 obtain ⟨g, gc⟩ := sum_good adP_ok hok ha hb hc k
 have hlo := sumTo_len adP s0 a b ci k
 obtain ⟨r, hr⟩ : ∃ r, r = sumTo adP s0 a b ci k := ⟨_, rfl⟩
 rw [← hr] at g gc hlo hp ⊢
 have hi : NetOkP r.1.1 := g.i
 have hlk := g.le_.look hs
 have hlk : r.1.1 = { y.n with ands := r.1.1.ands } := hlk
 refine h_run rfl ?_; skip
 refine h_cond_dec (fun hlt => ?_) (fun hlt => ?_)
 ·have hkw : k < wd := by omega
  have va : litP (a.getD k default) (nodesL r.1.1) := (ha _ (getD_mem (by omega))).mono g.le_.1.1
  have vb : litP (b.getD k default) (nodesL r.1.1) := (hb _ (getD_mem (by omega))).mono g.le_.1.1
  have vc : litP r.2.2 (nodesL r.1.1) := gc
  refine h_cond_t rfl rfl ?_; skip
  have hp := hp.f3.f3.f3
  obtain ⟨u, hu⟩ : ∃ u, u = a.getD k default := ⟨_, rfl⟩
  obtain ⟨v, hv⟩ : ∃ v, v = b.getD k default := ⟨_, rfl⟩
  rw [← hu] at va
  rw [← hv] at vb
  obtain ⟨x1, x2, x3⟩ := adP_ok.xor hi va vb
  obtain ⟨y1, y2, y3⟩ := adP_ok.xor x1 x2 (vc.mono x3.1.1)
  have l1 := adP_ok.trans x3 y3
  have hX : sumX adP r u v = adP.xor r.1 u v := rfl
  have hY : sumY adP r u v = adP.xor (adP.xor r.1 u v).1 (adP.xor r.1 u v).2 r.2.2 := rfl
  refine D_draw hp (by kernel_rfl) (by kernel_rfl) rfl rfl ?_; intro w hx hp; have hs := hp; (repeat (refine D_ldEN rfl (by omega) rfl rfl rfl ?_))
  refine gCall ?_
  rw [← hu, ← hv]
  refine h_callq rfl Tryz.func100 (by kernel_rfl) rfl (adXor_h y r.1 hlk hi u v va vb bx p wd sv aa ac hp) ?_; rintro _ w ⟨a1, c1, rfl, hp⟩; refine ⟨fun hq => Bool.noConfusion (hq.symm.trans (by kernel_rfl : flagAt _ _ = false)), ?_⟩; refine D_ops rfl rfl ?_; skip
  skip
  refine h_call rfl Tryz.func100 (by kernel_rfl) rfl (adXor_h y (adP.xor r.1 u v).1 (x3.look hlk) x1 (adP.xor r.1 u v).2 r.2.2 x2 (vc.mono x3.1.1) bx p wd sv a1 c1 hp) ?_; rintro _ w ⟨a2, c2, rfl, hp⟩; refine ops_run nopre rfl ?_; (repeat (refine U_litI hp rfl rfl rfl rfl rfl rfl rfl rfl rfl rfl ?_; intro w _ hx hp; refine ops_run nopre rfl ?_))
  rw [← hY] at hp ⊢ y1 y2 y3 l1
  refine U_append hp rfl rfl rfl rfl rfl rfl rfl (by decide) rfl (by first | omega | (simp only [List.length_append, List.length_cons, List.length_nil, List.length_take, List.length_drop, List.length_set, List.length_replicate, List.length_map]; omega)) rfl rfl ?_; intro o' oc' w hp hnil; refine ops_run nopre rfl ?_; skip
  have hp := hp.drop
  refine h_cond_dec (fun h2 => ?_) (fun h2 => ?_)
  ·have hk1 : k + 1 < a.length := by omega
   have eK : sumTo adP s0 a b ci (k + 1) = ((sumC adP r u v).1, r.2.1 ++ [(sumY adP r u v).2], (sumC adP r u v).2) := by rw [sumTo, if_pos hk1, ← hr, ← hu, ← hv]
   obtain ⟨p1, p2, p3⟩ := adP_ok.and y1 (va.mono l1.1.1) (vb.mono l1.1.1)
   have l2 := adP_ok.trans l1 p3
   obtain ⟨q1, q2, q3⟩ := adP_ok.and p1 (x2.mono (adP_ok.trans y3 p3).1.1) (vc.mono l2.1.1)
   obtain ⟨z1, z2, z3⟩ := adP_ok.or q1 (p2.mono q3.1.1) q2
   refine h_cond_t rfl rfl ?_; skip
   refine D_draw hp (by kernel_rfl) (by kernel_rfl) rfl rfl ?_; intro w hx hp; have hs := hp; (repeat (refine D_ldEN rfl (by omega) rfl rfl rfl ?_))
   refine gCall ?_
   rw [← hu, ← hv]
   refine h_callq rfl Tryz.func98 (by kernel_rfl) rfl (adAnd_h y (sumY adP r u v).1 (l1.look hlk) y1 u v (va.mono l1.1.1) (vb.mono l1.1.1) bx p wd sv a2 c2 hp) ?_; rintro _ w ⟨a3, c3, rfl, hp⟩; refine ⟨fun hq => Bool.noConfusion (hq.symm.trans (by kernel_rfl : flagAt _ _ = false)), ?_⟩; refine D_ops rfl rfl ?_; skip
   skip
   refine h_call rfl Tryz.func98 (by kernel_rfl) rfl (adAnd_h y (sumP adP r u v).1 (l2.look hlk) p1 (adP.xor r.1 u v).2 r.2.2 (x2.mono (adP_ok.trans y3 p3).1.1) (vc.mono l2.1.1) bx p wd sv a3 c3 hp) ?_; rintro _ w ⟨a4, c4, rfl, hp⟩; refine ops_run nopre rfl ?_; skip
   refine h_call rfl Tryz.func99 (by kernel_rfl) rfl (adOr_h y (sumQ adP r u v).1 ((adP_ok.trans l2 q3).look hlk) q1 (sumP adP r u v).2 (sumQ adP r u v).2 (p2.mono q3.1.1) q2 bx p wd sv a4 c4 hp) ?_; rintro _ w ⟨a5, c5, rfl, hp⟩; refine ops_run nopre rfl ?_; skip
   refine IH (k + 1) o' oc' a5 c5 _ _ _ (by omega) (by rw [eK]; rfl) ⟨by omega, ?_⟩
   rw [eK]
   exact hp.f2.f2.f2.f3
  ·have hk1 : ¬ k + 1 < a.length := by omega
   have eK : sumTo adP s0 a b ci (k + 1) = ((sumY adP r u v).1, r.2.1 ++ [(sumY adP r u v).2], r.2.2) := by rw [sumTo, if_neg hk1, ← hr, ← hu, ← hv]
   refine h_cond_f rfl rfl ?_; skip
   refine IH (k + 1) o' oc' a2 c2 _ _ _ (by omega) (by rw [eK]; rfl) ⟨by omega, ?_⟩
   rw [eK]
   exact hp.f2.f2.f2.f3
 ·refine h_cond_f rfl rfl ?_; (repeat (refine R_ret ?_))
  obtain rfl : k = wd := by omega
  have e : sumTo adP s0 a b ci k = sumTo adP s0 a b ci a.length := by rw [hla]
  rw [hr, e] at hp
  exact ⟨o, oc, aa, ac, by rw [hlo], hp⟩
theorem compare_h (y : NetA) (kind : Int) (s0 : NetL × Bool) (hs : s0.1 = { y.n with ands := s0.1.ands }) (hok : NetOkP s0.1) (aA bA : Option Addr) (cA cB wd : Nat) (hw : 1 ≤ wd ∧ wd ≤ 4) (a b : List Int) (hla : a.length = wd) (hlb : b.length = wd) (ha : ∀ z, z ∈ a → litP z (nodesL s0.1)) (hb : ∀ z, z ∈ b → litP z (nodesL s0.1)) (bx p : Nat) (sv : Value) (aa : Option Addr) (ac : Nat) {w0 w1 : World} {L : List Res} [hA : RdH w0 L aA 1 eI a] [hB : RdH w0 L bA 1 eI b] (hp1 : Hp w0 w1 (rB bx 88 [.pointer (some ⟨p, 0, none⟩), sv, .int .i64 (wd : Int), .bool s0.2] :: rB p 33 (y.wA aa ac s0.1.ands).cs :: rO 120 2 eII aa ac s0.1.ands :: L)) :
  Ret Tryz.prog 102 [.pointer (some ⟨bx, 0, none⟩), .int .i64 kind, .slice aA wd cA, .slice bA wd cB] w1 (fun v w' => ∃ b' c' aa' ac', v = .slice b' wd c' ∧ Hp w0 w' (rO 3 1 eI b' c' (loneL wd (cmpTo adP (decide (kind = 10)) s0 a b wd).2) :: rB bx 88 [.pointer (some ⟨p, 0, none⟩), sv, .int .i64 (wd : Int), .bool (cmpTo adP (decide (kind = 10)) s0 a b wd).1.2] :: rB p 33 (y.wA aa' ac' (cmpTo adP (decide (kind = 10)) s0 a b wd).1.1.ands).cs :: rO 120 2 eII aa' ac' (cmpTo adP (decide (kind = 10)) s0 a b wd).1.1.ands :: L)) := by
 obtain ⟨eq, heq⟩ : ∃ eq, eq = decide (kind = 10) := ⟨_, rfl⟩
 rw [← heq]
 refine enter Tryz.S102ok _ _ rfl rfl (by show _ ≤ _; simp only [List.length]; decide) (fun C => ?_); have hp := hp1; refine h_run rfl ?_
 skip
 refine h_cond_dec (fun hkd => ?_) (fun hkd => ?_)
 ·have hbv : eq = true := by rw [heq]; exact decide_eq_true hkd
  refine h_cond_t rfl rfl ?_; skip
  refine h_loop3 [0, 1, 2, 3, 9, 15, 16] (fun (k : Nat) (_ : Option Addr) (_ : Nat) => [(0, .pointer (some ⟨bx, 0, none⟩)), (1, .int .i64 kind), (2, .slice aA wd cA), (3, .slice bA wd cB), (9, .int .i64 (cmpTo adP eq s0 a b k).2), (15, .int .i64 (wd : Int)), (16, .int .i64 (k : Int))])
   (fun k aa ac w' => k ≤ wd ∧ Hp w0 w' (rB bx 88 [.pointer (some ⟨p, 0, none⟩), sv, .int .i64 (wd : Int), .bool (cmpTo adP eq s0 a b k).1.2] :: rB p 33 (y.wA aa ac (cmpTo adP eq s0 a b k).1.1.ands).cs :: rO 120 2 eII aa ac (cmpTo adP eq s0 a b k).1.1.ands :: L)) (fun k _ _ => wd - k) 0 aa ac (by subst hbv; rfl) ⟨by omega, hp⟩ ?_
  clear hp
  rintro k aa ac w1 ⟨hk, hp⟩ IH C
  obtain ⟨hi, hv0, hle⟩ := cmp_good adP_ok eq hok ha hb k
  obtain ⟨r, hr⟩ : ∃ r, r = cmpTo adP eq s0 a b k := ⟨_, rfl⟩
  rw [← hr] at hi hv0 hle hp ⊢
  have hi : NetOkP r.1.1 := hi
  have hlk := hle.look hs
  have hlk : r.1.1 = { y.n with ands := r.1.1.ands } := hlk
  have hv0 : litP r.2 (nodesL r.1.1) := hv0
  refine h_run rfl ?_; skip
  refine h_cond_dec (fun hlt => ?_) (fun hlt => ?_)
  ·have hkw : k < wd := by omega
   have va : litP (a.getD k default) (nodesL r.1.1) := (ha _ (getD_mem (by omega))).mono hle.1.1
   have vb : litP (b.getD k default) (nodesL r.1.1) := (hb _ (getD_mem (by omega))).mono hle.1.1
   obtain ⟨u, hu⟩ : ∃ u, u = a.getD k default := ⟨_, rfl⟩
   obtain ⟨v, hv⟩ : ∃ v, v = b.getD k default := ⟨_, rfl⟩
   rw [← hu] at va
   rw [← hv] at vb
   obtain ⟨x1, x2, x3⟩ := adP_ok.xor hi va vb
   refine h_cond_t rfl rfl ?_; skip
   refine D_draw hp (by kernel_rfl) (by kernel_rfl) rfl rfl ?_; intro w hx hp; have hs := hp; (repeat (refine D_ldEN rfl (by omega) rfl rfl rfl ?_))
   refine gCall ?_
   rw [← hu, ← hv]
   refine h_callq rfl Tryz.func100 (by kernel_rfl) rfl (adXor_h y r.1 hlk hi u v va vb bx p wd sv aa ac hp) ?_; rintro _ w ⟨a1, c1, rfl, hp⟩; refine ⟨fun hq => Bool.noConfusion (hq.symm.trans (by kernel_rfl : flagAt _ _ = false)), ?_⟩; refine D_ops rfl rfl ?_; skip
   skip
   by_cases hk10 : kind = 10
   ·have het : eq = true := by rw [heq]; exact decide_eq_true hk10
    have eK : cmpTo adP eq s0 a b (k + 1) = adP.and (adP.xor r.1 u v).1 r.2 (adP.not (adP.xor r.1 u v).2) := by rw [cmpTo, if_pos het, ← hr, ← hu, ← hv]
    have hcnt := NetOkP.count x1
    have en : bits .xor .i64 (adP.xor r.1 u v).2 1 = adP.not (adP.xor r.1 u v).2 := rfl
    have hx2 := x2
    unfold litP at hx2
    refine h_cond_dec (fun _ => ?_) (fun hg => False.elim (by omega)); refine h_cond_t rfl rfl ?_; skip
    rw [en]
    refine h_call rfl Tryz.func98 (by kernel_rfl) rfl (adAnd_h y (adP.xor r.1 u v).1 (x3.look hlk) x1 r.2 (adP.not (adP.xor r.1 u v).2) (hv0.mono x3.1.1) (adP_ok.not x1 x2) bx p wd sv a1 c1 hp) ?_; rintro _ w ⟨a2, c2, rfl, hp⟩; refine ops_run nopre rfl ?_; skip
    refine IH (k + 1) a2 c2 _ _ _ (by omega) (by rw [eK]; rfl) ⟨by omega, ?_⟩
    rw [eK]
    exact hp
   ·have het : eq = false := by rw [heq]; exact decide_eq_false hk10
    have eK : cmpTo adP eq s0 a b (k + 1) = adP.mux (adP.xor r.1 u v).1 (adP.xor r.1 u v).2 v r.2 := by rw [cmpTo, if_neg (by rw [het]; decide), ← hr, ← hu, ← hv]
    refine h_cond_dec (fun hg => False.elim (by omega)) (fun _ => ?_); refine h_cond_f rfl rfl ?_; (repeat (refine H_ldEN hp rfl (by omega) rfl rfl ?_))
    rw [← hv]
    refine h_call rfl Tryz.func103 (by kernel_rfl) rfl (adMux_h y (adP.xor r.1 u v).1 (x3.look hlk) x1 (adP.xor r.1 u v).2 v r.2 x2 (vb.mono x3.1.1) (hv0.mono x3.1.1) bx p wd sv a1 c1 hp) ?_; rintro _ w ⟨a2, c2, rfl, hp⟩; refine ops_run nopre rfl ?_; skip
    refine IH (k + 1) a2 c2 _ _ _ (by omega) (by rw [eK]; rfl) ⟨by omega, ?_⟩
    rw [eK]
    exact hp
  ·refine h_cond_f rfl rfl ?_; skip
   obtain rfl : k = wd := by omega
   refine h_call rfl Tryz.func155 (by kernel_rfl) rfl (lone_h y r.1 r.2 bx p k hw sv aa ac hp) ?_; rintro _ w ⟨b', c', rfl, hp⟩; refine ops_run nopre rfl ?_; (repeat (refine R_ret ?_))
   rw [← hr]
   exact ⟨b', c', aa, ac, rfl, hp⟩
 ·have hbv : eq = false := by rw [heq]; exact decide_eq_false hkd
  refine h_cond_f rfl rfl ?_; skip
  refine h_loop3 [0, 1, 2, 3, 9, 15, 16] (fun (k : Nat) (_ : Option Addr) (_ : Nat) => [(0, .pointer (some ⟨bx, 0, none⟩)), (1, .int .i64 kind), (2, .slice aA wd cA), (3, .slice bA wd cB), (9, .int .i64 (cmpTo adP eq s0 a b k).2), (15, .int .i64 (wd : Int)), (16, .int .i64 (k : Int))])
   (fun k aa ac w' => k ≤ wd ∧ Hp w0 w' (rB bx 88 [.pointer (some ⟨p, 0, none⟩), sv, .int .i64 (wd : Int), .bool (cmpTo adP eq s0 a b k).1.2] :: rB p 33 (y.wA aa ac (cmpTo adP eq s0 a b k).1.1.ands).cs :: rO 120 2 eII aa ac (cmpTo adP eq s0 a b k).1.1.ands :: L)) (fun k _ _ => wd - k) 0 aa ac (by subst hbv; rfl) ⟨by omega, hp⟩ ?_
  clear hp
  rintro k aa ac w1 ⟨hk, hp⟩ IH C
  obtain ⟨hi, hv0, hle⟩ := cmp_good adP_ok eq hok ha hb k
  obtain ⟨r, hr⟩ : ∃ r, r = cmpTo adP eq s0 a b k := ⟨_, rfl⟩
  rw [← hr] at hi hv0 hle hp ⊢
  have hi : NetOkP r.1.1 := hi
  have hlk := hle.look hs
  have hlk : r.1.1 = { y.n with ands := r.1.1.ands } := hlk
  have hv0 : litP r.2 (nodesL r.1.1) := hv0
  refine h_run rfl ?_; skip
  refine h_cond_dec (fun hlt => ?_) (fun hlt => ?_)
  ·have hkw : k < wd := by omega
   have va : litP (a.getD k default) (nodesL r.1.1) := (ha _ (getD_mem (by omega))).mono hle.1.1
   have vb : litP (b.getD k default) (nodesL r.1.1) := (hb _ (getD_mem (by omega))).mono hle.1.1
   obtain ⟨u, hu⟩ : ∃ u, u = a.getD k default := ⟨_, rfl⟩
   obtain ⟨v, hv⟩ : ∃ v, v = b.getD k default := ⟨_, rfl⟩
   rw [← hu] at va
   rw [← hv] at vb
   obtain ⟨x1, x2, x3⟩ := adP_ok.xor hi va vb
   refine h_cond_t rfl rfl ?_; skip
   refine D_draw hp (by kernel_rfl) (by kernel_rfl) rfl rfl ?_; intro w hx hp; have hs := hp; (repeat (refine D_ldEN rfl (by omega) rfl rfl rfl ?_))
   refine gCall ?_
   rw [← hu, ← hv]
   refine h_callq rfl Tryz.func100 (by kernel_rfl) rfl (adXor_h y r.1 hlk hi u v va vb bx p wd sv aa ac hp) ?_; rintro _ w ⟨a1, c1, rfl, hp⟩; refine ⟨fun hq => Bool.noConfusion (hq.symm.trans (by kernel_rfl : flagAt _ _ = false)), ?_⟩; refine D_ops rfl rfl ?_; skip
   skip
   by_cases hk10 : kind = 10
   ·have het : eq = true := by rw [heq]; exact decide_eq_true hk10
    have eK : cmpTo adP eq s0 a b (k + 1) = adP.and (adP.xor r.1 u v).1 r.2 (adP.not (adP.xor r.1 u v).2) := by rw [cmpTo, if_pos het, ← hr, ← hu, ← hv]
    have hcnt := NetOkP.count x1
    have en : bits .xor .i64 (adP.xor r.1 u v).2 1 = adP.not (adP.xor r.1 u v).2 := rfl
    have hx2 := x2
    unfold litP at hx2
    refine h_cond_dec (fun _ => ?_) (fun hg => False.elim (by omega)); refine h_cond_t rfl rfl ?_; skip
    rw [en]
    refine h_call rfl Tryz.func98 (by kernel_rfl) rfl (adAnd_h y (adP.xor r.1 u v).1 (x3.look hlk) x1 r.2 (adP.not (adP.xor r.1 u v).2) (hv0.mono x3.1.1) (adP_ok.not x1 x2) bx p wd sv a1 c1 hp) ?_; rintro _ w ⟨a2, c2, rfl, hp⟩; refine ops_run nopre rfl ?_; skip
    refine IH (k + 1) a2 c2 _ _ _ (by omega) (by rw [eK]; rfl) ⟨by omega, ?_⟩
    rw [eK]
    exact hp
   ·have het : eq = false := by rw [heq]; exact decide_eq_false hk10
    have eK : cmpTo adP eq s0 a b (k + 1) = adP.mux (adP.xor r.1 u v).1 (adP.xor r.1 u v).2 v r.2 := by rw [cmpTo, if_neg (by rw [het]; decide), ← hr, ← hu, ← hv]
    refine h_cond_dec (fun hg => False.elim (by omega)) (fun _ => ?_); refine h_cond_f rfl rfl ?_; (repeat (refine H_ldEN hp rfl (by omega) rfl rfl ?_))
    rw [← hv]
    refine h_call rfl Tryz.func103 (by kernel_rfl) rfl (adMux_h y (adP.xor r.1 u v).1 (x3.look hlk) x1 (adP.xor r.1 u v).2 v r.2 x2 (vb.mono x3.1.1) (hv0.mono x3.1.1) bx p wd sv a1 c1 hp) ?_; rintro _ w ⟨a2, c2, rfl, hp⟩; refine ops_run nopre rfl ?_; skip
    refine IH (k + 1) a2 c2 _ _ _ (by omega) (by rw [eK]; rfl) ⟨by omega, ?_⟩
    rw [eK]
    exact hp
  ·refine h_cond_f rfl rfl ?_; skip
   obtain rfl : k = wd := by omega
   refine h_call rfl Tryz.func155 (by kernel_rfl) rfl (lone_h y r.1 r.2 bx p k hw sv aa ac hp) ?_; rintro _ w ⟨b', c', rfl, hp⟩; refine ops_run nopre rfl ?_; (repeat (refine R_ret ?_))
   rw [← hr]
   exact ⟨b', c', aa, ac, rfl, hp⟩
end Go.Proofs
end
section
namespace Go.Xw
def leafB (sig : List (List Int)) (o : OpL) (k : Nat) : Int := if o.kind = 0 then o.a / 2 ^ k % 2 else if o.kind = 2 then pickL (sig.getD o.a.toNat default) k else if k = 0 then pickL (sig.getD o.a.toNat default) o.b.toNat else 0
theorem leafL_eq (sig : List (List Int)) (w : Nat) (o : OpL) : leafE sig w o = (List.range w).map (leafB sig o) := rfl
end Go.Xw
namespace Go.Proofs
open Go.Xw
set_option maxRecDepth 100000
set_option maxHeartbeats 4000000
attribute [local irreducible] Holds elemAddr
theorem leaf_h (R : List (RowA Int)) (sa : Option Addr) (sc : Nat) (hl : R.length ≤ 1000) (o : OpL) (ho : opOkP o R.length) (hkd : o.kind = 0 ∨ o.kind = 2 ∨ o.kind = 3) (hg : ∀ i, i < R.length → (R.getD i default).ins.length ≤ 1000) (bx p wd : Nat) (hw : 1 ≤ wd ∧ wd ≤ 4) (bad : Bool) {w0 w1 : World} {L : List Res} [hS : RdH w0 L sa 1 eRo R] [hQ : RowsH w0 L 1 eI R]
  (hp1 : Hp w0 w1 (rB bx 88 [.pointer (some ⟨p, 0, none⟩), .slice sa R.length sc, .int .i64 (wd : Int), .bool bad] :: L)) :
  Ret Tryz.prog 96 [.pointer (some ⟨bx, 0, none⟩), .agg ⟨eOp o⟩] w1 (fun v w' => ∃ b c, v = .slice b wd c ∧ Hp w0 w' (rO 3 1 eI b c (leafE (insOf R) wd o) :: rB bx 88 [.pointer (some ⟨p, 0, none⟩), .slice sa R.length sc, .int .i64 (wd : Int), .bool bad] :: L)) := by
 refine enter Tryz.S96ok _ _ rfl rfl (by show _ ≤ _; simp only [List.length]; decide) (fun C => ?_); have hp := hp1; refine h_run rfl ?_
 (first | refine H_box hp ?_ | refine H_alloc hp rfl ?_); intro w b3 hx hp; refine ops_run nopre rfl ?_; (repeat (refine H_ldB hp rfl rfl ?_))
 refine H_make hp eI 0 rfl rfl rfl rfl (s := 1) rfl (by decide) rfl (by unfold maxLen; omega) (by show 8 * _ ≤ _; omega) ?_; intro w b hx hp; refine ops_run nopre rfl ?_; (repeat (refine H_ldB hp rfl rfl ?_))
 have hrl : (List.replicate wd (0 : Int)).length = wd := by simp
 have hp : Hp w0 _ (rO 3 1 eI (some ⟨b, 0, none⟩) wd (List.replicate wd 0) :: rB b3 132 [.int .i64 o.kind, .int .i64 o.a, .int .i64 o.b] :: rB bx 88 [.pointer (some ⟨p, 0, none⟩), .slice sa R.length sc, .int .i64 (wd : Int), .bool bad] :: L) := hp
 rw [leafL_eq]
 rcases hkd with h0 | h2 | h3
 ·have hoa := (opOk_0 h0).1 ho
  refine h_cond_dec (fun _ => ?_) (fun hg => False.elim (by omega)); refine h_cond_t rfl rfl ?_; skip
  rw [← upTo_zero (leafB (insOf R) o) (List.replicate wd (0 : Int))] at hp
  refine h_loop [3, 5, 18, 19] (fun (i : Nat) => [(3, .pointer (some ⟨b3, 0, none⟩)), (5, .slice (some ⟨b, 0, none⟩) wd wd), (18, .int .i64 (wd : Int)), (19, .int .i64 (i : Int))])
   (fun i w' => i ≤ wd ∧ Hp w0 w' (rO 3 1 eI (some ⟨b, 0, none⟩) wd (upTo (leafB (insOf R) o) i (List.replicate wd 0)) :: rB b3 132 [.int .i64 o.kind, .int .i64 o.a, .int .i64 o.b] :: rB bx 88 [.pointer (some ⟨p, 0, none⟩), .slice sa R.length sc, .int .i64 (wd : Int), .bool bad] :: L)) (fun i => wd - i) 0 rfl ⟨by omega, hp⟩ ?_
  clear hp
  rintro k w1 ⟨hk, hp⟩ IH C
  have hul := upTo_len (f := leafB (insOf R) o) (X := List.replicate wd (0 : Int)) (i := k) (by omega)
  refine h_run rfl ?_; skip
  refine h_cond_dec (fun hlt => ?_) (fun hlt => ?_)
  ·have hk2 : k < wd := by omega
   have hbk : ((k : Nat) : Int) ≤ ((IntKind.i64.bits : Nat) : Int) := by show ((k : Nat) : Int) ≤ 64; omega
   have ef : leafB (insOf R) o k = bits .and .i64 (o.a / 2 ^ k) 1 := by rw [bits_and_one]; unfold leafB; rw [if_pos h0]
   refine h_cond_t rfl rfl ?_; (repeat (first | (refine gLoad ?_; refine H_ldB hp rfl rfl ?_) | (refine gStore ?_; refine U_st0N hp rfl rfl rfl (by omega) (by decide) rfl rfl ?_; intro w hp; refine ops_run nopre rfl ?_)))
   refine IH (k + 1) _ _ _ (by omega) rfl ⟨by omega, ?_⟩
   rw [← upTo_set (f := leafB (insOf R) o) (by omega), ef]
   exact hp
  ·refine h_cond_f rfl rfl ?_; (repeat (refine R_ret ?_))
   obtain rfl : k = wd := by omega
   have hall := upTo_all (leafB (insOf R) o) (List.replicate k (0 : Int))
   rw [hrl] at hall
   rw [hall] at hp
   exact ⟨_, _, rfl, (hp.f1).drop⟩
 ·obtain ⟨hoa, hob⟩ := (opOk_2 h2).1 ho
  refine h_cond_dec (fun hg => False.elim (by omega)) (fun _ => ?_); refine h_cond_f rfl rfl ?_; skip
  refine h_cond_dec (fun _ => ?_) (fun hg => False.elim (by omega)); refine h_cond_t rfl rfl ?_; skip
  rw [← upTo_zero (leafB (insOf R) o) (List.replicate wd (0 : Int))] at hp
  refine h_loop [0, 3, 5, 35, 36] (fun (i : Nat) => [(0, .pointer (some ⟨bx, 0, none⟩)), (3, .pointer (some ⟨b3, 0, none⟩)), (5, .slice (some ⟨b, 0, none⟩) wd wd), (35, .int .i64 (wd : Int)), (36, .int .i64 (i : Int))])
   (fun i w' => i ≤ wd ∧ Hp w0 w' (rO 3 1 eI (some ⟨b, 0, none⟩) wd (upTo (leafB (insOf R) o) i (List.replicate wd 0)) :: rB b3 132 [.int .i64 o.kind, .int .i64 o.a, .int .i64 o.b] :: rB bx 88 [.pointer (some ⟨p, 0, none⟩), .slice sa R.length sc, .int .i64 (wd : Int), .bool bad] :: L)) (fun i => wd - i) 0 rfl ⟨by omega, hp⟩ ?_
  clear hp
  rintro k w1 ⟨hk, hp⟩ IH C
  have hul := upTo_len (f := leafB (insOf R) o) (X := List.replicate wd (0 : Int)) (i := k) (by omega)
  obtain ⟨ia, hia⟩ := Int.eq_ofNat_of_zero_le hoa.1
  refine h_run rfl ?_; skip
  refine h_cond_dec (fun hlt => ?_) (fun hlt => ?_)
  ·have hk2 : k < wd := by omega
   have ef : leafB (insOf R) o k = pickL (R.getD ia default).ins k := by
    unfold leafB; rw [if_neg (by omega), if_pos h2, hia, Int.toNat_natCast, insOf_get]
   refine h_cond_t rfl rfl ?_; (repeat (refine H_ldB hp rfl rfl ?_))
   rw [hia]
   refine h_call rfl Tryz.func151 (by kernel_rfl) rfl (signalBit_h R sa sc ia k (by omega) (by omega) bx p wd bad hl (hg ia (by omega)) (hp.f1.f1.f2)) ?_; rintro _ w ⟨rfl, hx⟩; have hp := hp.ext hx; refine ops_run nopre rfl ?_; (repeat (refine U_st0N hp rfl rfl rfl (by omega) (by decide) rfl rfl ?_; intro w hp; refine ops_run nopre rfl ?_))
   refine IH (k + 1) _ _ _ (by omega) rfl ⟨by omega, ?_⟩
   rw [← upTo_set (f := leafB (insOf R) o) (by omega), ef]
   exact hp
  ·refine h_cond_f rfl rfl ?_; (repeat (refine R_ret ?_))
   obtain rfl : k = wd := by omega
   have hall := upTo_all (leafB (insOf R) o) (List.replicate k (0 : Int))
   rw [hrl] at hall
   rw [hall] at hp
   exact ⟨_, _, rfl, (hp.f1).drop⟩
 ·obtain ⟨hoa, hob⟩ := (opOk_3 h3).1 ho
  obtain ⟨ia, hia⟩ := Int.eq_ofNat_of_zero_le hoa.1
  obtain ⟨ib, hib⟩ := Int.eq_ofNat_of_zero_le hob.1
  refine h_cond_dec (fun hg => False.elim (by omega)) (fun _ => ?_); refine h_cond_f rfl rfl ?_; skip
  refine h_cond_dec (fun hg => False.elim (by omega)) (fun _ => ?_); refine h_cond_f rfl rfl ?_; skip
  refine h_cond_dec (fun _ => ?_) (fun hg => False.elim (by omega)); refine h_cond_t rfl rfl ?_; (repeat (refine H_ldB hp rfl rfl ?_))
  rw [hia, hib]
  refine h_call rfl Tryz.func151 (by kernel_rfl) rfl (signalBit_h R sa sc ia ib (by omega) (by omega) bx p wd bad hl (hg ia (by omega)) (hp.f1.f1.f2)) ?_; rintro _ w ⟨rfl, hx⟩; have hp := hp.ext hx; refine ops_run nopre rfl ?_; (repeat (first | (refine gStore ?_; refine U_st0 hp rfl rfl rfl (by omega) (by decide) rfl rfl ?_; intro w hp; refine ops_run nopre rfl ?_) | refine R_ret ?_))
  have e : (List.range wd).map (leafB (insOf R) o) = (List.replicate wd (0 : Int)).set 0 (pickL (R.getD ia default).ins ib) := by
   refine List.ext_getElem (by simp) fun j h1 h2' => ?_
   simp only [List.getElem_map, List.getElem_range]
   unfold leafB
   rw [if_neg (by omega), if_neg (by omega)]
   by_cases hj : j = 0
   ·subst hj
    rw [if_pos rfl, hia, hib, Int.toNat_natCast, Int.toNat_natCast, insOf_get]; simp
   ·rw [if_neg hj, List.getElem_set_ne (fun h => hj h.symm)]; simp
  rw [e]
  exact ⟨_, _, rfl, (hp.f1).drop⟩
end Go.Proofs
end
