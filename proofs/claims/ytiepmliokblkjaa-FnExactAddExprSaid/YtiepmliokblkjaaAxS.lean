/- The contracts of the reference's helpers on expressions; each under its stated conditions. -/
import Derived.Test.YtiepmliokblkjaaExprA
import Derived.Test.YtiepmliokblkjaaOpsOk
import Derived.Test.YtiepmliokblkjaaTwo
import Derived.Test.YtiepmliokblkjaaIntSS
import Derived.Test.YtiepmliokblkjaaCopy
set_option linter.all false
namespace Go.Xw
theorem litR.i64 {n : NetL} (h : NetOkP n) {z : Int} (hz : litR n z) : i64R z := by
 have := NetOkP.count h
 unfold i64R
 rcases hz with hz | hz | hz
 ·unfold litP at hz; omega
 ·omega
 ·omega
end Go.Xw
namespace Go.Proofs
open Go.Xw
set_option maxRecDepth 100000
set_option maxHeartbeats 2000000
attribute [local irreducible] Holds elemAddr
theorem l11Pick_h (a : Option Addr) (c n : Nat) (X : List Int) (hn : X.length = n) (k : Nat) (hk : k ≤ 1000) (w0 : World) (hR : Rd w0 a 1 eI X) (hl : X.length ≤ 1048576) :
  Ret Try.prog 57 [.slice a n c, .int .i64 (k : Int)] w0 (fun v w => v = .int .i64 (pickL X k) ∧ Ext w0 w) := by
 subst hn
 refine enter Try.S57ok _ _ rfl rfl (by show _ ≤ _; simp only [List.length]; decide) (fun C => ?_); have hp := Hp.nil w0; refine h_run rfl ?_; skip
 refine h_cond_dec (fun h => ?_) (fun h => ?_)
 ·refine h_cond_t rfl rfl ?_; (repeat (first | (refine gLoad ?_; refine H_ldEN hp rfl (by omega) rfl rfl ?_) | refine R_ret ?_))
  exact ⟨rfl, hp.x⟩
 ·refine h_cond_f rfl rfl ?_; (repeat (refine R_ret ?_))
  refine ⟨?_, hp.x⟩
  unfold pickL
  rw [List.getD_eq_getElem?_getD, List.getElem?_eq_none (by omega)]
  rfl
theorem l11Not_h (a : Option Addr) (c n : Nat) (X : List Int) (hn : X.length = n) (w0 : World) (hR : Rd w0 a 1 eI X) (hl : X.length ≤ 1000) (hxv : ∀ i, i < X.length → i64R (X.getD i default)) :
  Ret Try.prog 58 [.slice a n c] w0 (fun v w => ∃ b c', v = .slice b n c' ∧ Hp w0 w [rO 3 1 eI b c' (X.map lNot)]) := by
 subst hn
 refine enter Try.S58ok _ _ rfl rfl (by show _ ≤ _; simp only [List.length]; decide) (fun C => ?_); have hp := Hp.nil w0; refine h_run rfl ?_; (repeat (refine U_litI hp rfl rfl rfl rfl rfl rfl rfl rfl rfl rfl ?_; intro w _ hx hp; refine ops_run nopre rfl ?_))
 refine h_loop3 [0, 3, 4] (fun (i : Nat) (b : Option Addr) (c' : Nat) => [(0, .slice a X.length c), (3, .slice b ((X.take i).map lNot).length c'), (4, .int .i64 (i : Int))])
  (fun i b c' w' => i ≤ X.length ∧ Hp w0 w' [rO 3 1 eI b c' ((X.take i).map lNot)]) (fun i _ _ => X.length - i) 0 _ _ rfl ⟨by omega, hp⟩ ?_
 clear hp
 rintro i b c' w1 ⟨hi, hp⟩ IH C
 have hml : ((X.take i).map lNot).length = i := by simp; omega
 refine h_run rfl ?_; skip
 refine h_cond_dec (fun hlt => ?_) (fun hlt => ?_)
 ·have hlt' : i < X.length := by omega
  have hxi := hxv i hlt'
  have e : (X.take (i + 1)).map lNot = (X.take i).map lNot ++ [lNot (X.getD i default)] := by rw [take_snocC hlt', List.map_append]; rfl
  refine h_cond_t rfl rfl ?_; (repeat (refine H_ldEN hp rfl (by omega) rfl rfl ?_))
  refine h_call rfl Try.func82 (by kernel_rfl) rfl (l10Not_h (X.getD i default) _) ?_; rintro _ w ⟨rfl, hx⟩; have hp := hp.ext hx; refine ops_run nopre rfl ?_; (repeat (refine U_litI hp rfl rfl rfl rfl rfl rfl rfl rfl rfl rfl ?_; intro w _ hx hp; refine ops_run nopre rfl ?_))
  refine U_append hp rfl rfl rfl rfl rfl rfl rfl (by decide) rfl (by first | omega | (simp only [List.length_append, List.length_cons, List.length_nil, List.length_take, List.length_drop, List.length_set, List.length_replicate, List.length_map]; omega)) rfl rfl ?_; intro b' c'' w hp hnil; refine ops_run nopre rfl ?_; skip
  refine IH (i + 1) b' c'' _ _ _ (by omega) (by rw [e]; rfl) ⟨by omega, ?_⟩
  rw [e]
  exact hp.drop
 ·refine h_cond_f rfl rfl ?_; (repeat (refine R_ret ?_))
  obtain rfl : i = X.length := by omega
  rw [List.take_length] at hp
  exact ⟨b, c', by rw [hml], hp⟩
theorem l11Right_h (a : Option Addr) (c n : Nat) (X : List Int) (hn : X.length = n) (w0 : World) (hR : Rd w0 a 1 eI X) (hl : X.length ≤ 1000) :
  Ret Try.prog 32 [.slice a n c] w0 (fun v w => v = .bool (decide (∀ z, z ∈ X → 0 ≤ z)) ∧ Ext w0 w) := by
 subst hn
 refine enter Try.S32ok _ _ rfl rfl (by show _ ≤ _; simp only [List.length]; decide) (fun C => ?_); have hp := Hp.nil w0; refine h_run rfl ?_; skip
 refine h_loop [0, 3] (fun (i : Nat) => [(0, .slice a X.length c), (3, .int .i64 (i : Int))])
  (fun i w' => (i ≤ X.length ∧ ∀ j, j < i → 0 ≤ X.getD j default) ∧ Hp w0 w' []) (fun i => X.length - i) 0 rfl ⟨⟨by omega, fun j hj => by omega⟩, hp⟩ ?_
 clear hp
 rintro i w1 ⟨⟨hi, hall⟩, hp⟩ IH C
 refine h_run rfl ?_; skip
 refine h_cond_dec (fun hlt => ?_) (fun hlt => ?_)
 ·have hlt' : i < X.length := by omega
  refine h_cond_t rfl rfl ?_; (repeat (refine H_ldEN hp rfl (by omega) rfl rfl ?_))
  refine h_cond_dec (fun h0 => ?_) (fun h0 => ?_)
  ·refine h_cond_t rfl rfl ?_; (repeat (refine R_ret ?_))
   rw [decide_eq_false (fun h => by have := h _ (getD_mem hlt'); omega)]
   exact ⟨rfl, hp.x⟩
  ·refine h_cond_f rfl rfl ?_; skip
   refine IH (i + 1) _ _ _ (by omega) rfl ⟨⟨by omega, fun j hj => ?_⟩, hp⟩
   by_cases hji : j = i
   ·subst hji; omega
   ·exact hall j (by omega)
 ·refine h_cond_f rfl rfl ?_; (repeat (refine R_ret ?_))
  obtain rfl : i = X.length := by omega
  rw [decide_eq_true (mem_iff_getD.2 hall)]
  exact ⟨rfl, hp.x⟩
theorem l11Sum_h (x : NetA) (aA bA : Option Addr) (cA cB wd : Nat) (hw : 1 ≤ wd ∧ wd ≤ 4) (a b : List Int) (ci : Int) (hla : a.length = wd) (hlb : b.length = wd) (w0 : World) (hX : NetR w0 x) (hok : NetOkP x.n) (hA : Rd w0 aA 1 eI a) (hB : Rd w0 bA 1 eI b) (ha : ∀ z, z ∈ a → litR x.n z) (hb : ∀ z, z ∈ b → litR x.n z) (hc : litR x.n ci) :
  Ret Try.prog 83 [x.v, .slice aA wd cA, .slice bA wd cB, .int .i64 ci] w0 (fun v w => ∃ y b' c', (y.n = (sumA adR x.n a b ci).1 ∧ v = .tuple ⟨[y.v, .slice b' wd c']⟩) ∧ Hp w0 w [rNet y, rO 3 1 eI b' c' (sumA adR x.n a b ci).2]) := by
 have hfin : sumA adR x.n a b ci = ((sumTo adR x.n a b ci wd).1, (sumTo adR x.n a b ci wd).2.1) := by unfold sumA; rw [hla]
 refine enter Try.S83ok _ _ rfl rfl (by show _ ≤ _; simp only [List.length]; decide) (fun C => ?_); have hp := Hp.nil w0; refine h_run rfl ?_; skip; (first | refine H_box hp ?_ | refine H_alloc hp rfl ?_); intro w b4 hx hp; refine ops_run nopre rfl ?_; skip; (first | refine H_box hp ?_ | refine H_alloc hp rfl ?_); intro w b8 hx hp; refine ops_run nopre rfl ?_; (repeat (refine U_litI hp rfl rfl rfl rfl rfl rfl rfl rfl rfl rfl ?_; intro w _ hx hp; refine ops_run nopre rfl ?_))
 refine h_loop6 [1, 2, 3, 4, 8, 10, 11] (fun (k : Nat) (_ : NetA) (_ : List Res) (o : Option Addr) (oc : Nat) (_ : Unit) => [(1, .slice aA wd cA), (2, .slice bA wd cB), (3, .int .i64 (sumTo adR x.n a b ci k).2.2), (4, .pointer (some ⟨b4, 0, none⟩)), (8, .pointer (some ⟨b8, 0, none⟩)), (10, .slice o (sumTo adR x.n a b ci k).2.1.length oc), (11, .int .i64 (k : Int))])
  (fun k y N o oc _ w' => (k < wd ∧ y.n = (sumTo adR x.n a b ci k).1 ∧ NetH w0 N y) ∧ Hp w0 w' (rO 3 1 eI o oc (sumTo adR x.n a b ci k).2.1 :: rB b8 35 (cellsV Try.ti35.zero) :: rB b4 35 y.cs :: N)) (fun k _ _ _ _ _ => wd - k) 0 x [] _ _ () rfl ⟨⟨by omega, rfl, inferInstance⟩, hp⟩ ?_
 clear hp
 rintro k y N o oc _ w1 ⟨⟨hk, hy, hN⟩, hp⟩ IH C
 obtain ⟨g, gc⟩ := sum_good adR_ok hok ha hb hc k
 have hlo := sumTo_len adR x.n a b ci k
 obtain ⟨r, hr⟩ : ∃ r, r = sumTo adR x.n a b ci k := ⟨_, rfl⟩
 rw [← hr] at g gc hlo hp hy ⊢
 have hi : NetOkP r.1 := g.i
 have hiy : NetOkP y.n := by rw [hy]; exact hi
 have va := adR_ok.mono g.le_ (getD_V adR_ok hok ha k)
 have vb := adR_ok.mono g.le_ (getD_V adR_ok hok hb k)
 obtain ⟨u, hu⟩ : ∃ u, u = a.getD k default := ⟨_, rfl⟩
 obtain ⟨v, hv⟩ : ∃ v, v = b.getD k default := ⟨_, rfl⟩
 rw [← hu] at va
 rw [← hv] at vb
 obtain ⟨x1, x2, x3⟩ := adR_ok.xor hi va vb
 obtain ⟨y1, y2, y3⟩ := adR_ok.xor x1 x2 (adR_ok.mono x3 gc)
 have l1 := adR_ok.trans x3 y3
 have hX' : sumX adR r u v = adR.xor r.1 u v := rfl
 have hY' : sumY adR r u v = adR.xor (adR.xor r.1 u v).1 (adR.xor r.1 u v).2 r.2.2 := rfl
 refine h_run rfl ?_; skip
 refine h_cond_dec (fun _ => ?_) (fun hg => False.elim (by omega)); refine h_cond_t rfl rfl ?_; skip
 refine N_draw hp (by kernel_rfl) (by kernel_rfl) rfl rfl ?_; (repeat (refine nLoad ?_; first | refine N_ldB rfl rfl rfl ?_ | refine N_ldEN rfl (by omega) rfl rfl rfl ?_))
 rw [← hu, ← hv]
 refine N_call Try.func85 (by kernel_rfl) rfl (fun F w hp => ?_); refine Ret.mono (specAddXor_x y u v _ hp.pre.net hiy.S' hiy.W (va.i64 hi) (vb.i64 hi)) ?_; rintro _ w ⟨z1, ⟨ez1, rfl⟩, hq⟩; have hp := hp.callF1 hq; refine ⟨fun _ => hp.sub (by (repeat (first | exact List.sublist_append_left _ _ | apply List.Sublist.cons))), _, hp, ?_⟩; clear hp; refine N_ops rfl rfl ?_; skip
 (first | refine N_box ?_ | refine N_alloc rfl ?_); intro b12; refine N_ops rfl rfl ?_; (repeat (refine N_stBN rfl rfl rfl rfl (by kernel_rfl) ?_; refine N_ops rfl rfl ?_))
 refine N_end ?_; intro w hp C; refine h_run rfl ?_; (repeat (refine H_ldB hp rfl rfl ?_))
 have eX : addF y.n [u, v] (addXorL y.n u v) = adR.xor r.1 u v := by rw [hy]; rfl
 rw [eX] at ez1 ⊢
 have hz1 : NetOkP z1.n := by rw [ez1]; exact x1
 refine h_call rfl Try.func85 (by kernel_rfl) rfl (specAddXor_x z1 (adR.xor r.1 u v).2 r.2.2 _ hp.net hz1.S' hz1.W (x2.i64 x1) ((adR_ok.mono x3 gc).i64 x1)) ?_; rintro _ w ⟨z2, ⟨ez2, rfl⟩, hq⟩; have hx := hq.x; have hp := hp.call1 hq; refine ops_run nopre rfl ?_; (repeat (first | (refine gStore ?_; refine U_stBN hp rfl rfl rfl rfl ?_; intro w hp; refine ops_run nopre rfl ?_) | (refine gBuild ?_; refine U_litI hp rfl rfl rfl rfl rfl rfl rfl rfl rfl rfl ?_; intro w _ hx hp; refine ops_run nopre rfl ?_)))
 have eY : addF z1.n [(adR.xor r.1 u v).2, r.2.2] (addXorL z1.n (adR.xor r.1 u v).2 r.2.2) = sumY adR r u v := by rw [ez1]; rfl
 rw [eY] at ez2 hp ⊢
 rw [← hY'] at y1 y2 y3 l1
 have hz2 : NetOkP z2.n := by rw [ez2]; exact y1
 refine U_append hp rfl rfl rfl rfl rfl rfl rfl (by decide) rfl (by first | omega | (simp only [List.length_append, List.length_cons, List.length_nil, List.length_take, List.length_drop, List.length_set, List.length_replicate, List.length_map]; omega)) rfl rfl ?_; intro o' oc' w hp hnil; refine ops_run nopre rfl ?_; (repeat (first | (refine gLoad ?_; refine H_ldB hp rfl rfl ?_) | (refine gStore ?_; refine U_stBN hp rfl rfl rfl rfl ?_; intro w hp; refine ops_run nopre rfl ?_)))
 have hp := hp.drop
 refine h_cond_dec (fun hk1 => ?_) (fun hk1 => ?_)
 ·have eK : sumTo adR x.n a b ci wd = ((sumY adR r u v).1, r.2.1 ++ [(sumY adR r u v).2], r.2.2) := by
   rw [show wd = k + 1 by omega, sumTo, if_neg (by omega), ← hr, ← hu, ← hv]
  have hlen : (r.2.1 ++ [(sumY adR r u v).2]).length = wd := by rw [List.length_append, hlo]; show k + 1 = wd; omega
  refine h_cond_t rfl rfl ?_; (repeat (first | (refine gLoad ?_; refine H_ldB hp rfl rfl ?_) | (refine gStore ?_; refine U_stBN hp rfl rfl rfl rfl ?_; intro w hp; refine ops_run nopre rfl ?_) | (refine gRetc ?_; refine R_ret2v hp rfl ?_)))
  rw [hfin, eK]
  exact ⟨z2, o', oc', ⟨ez2, by rw [hlen]; rfl⟩, (hp.f3.f1).tk 2⟩
 ·have hk2 : k + 1 < wd := by omega
  have eK : sumTo adR x.n a b ci (k + 1) = ((sumC adR r u v).1, r.2.1 ++ [(sumY adR r u v).2], (sumC adR r u v).2) := by
   rw [sumTo, if_pos (by omega), ← hr, ← hu, ← hv]
  obtain ⟨p1, p2, p3⟩ := adR_ok.and y1 (adR_ok.mono l1 va) (adR_ok.mono l1 vb)
  have l2 := adR_ok.trans l1 p3
  obtain ⟨q1, q2, q3⟩ := adR_ok.and p1 (adR_ok.mono (adR_ok.trans y3 p3) x2) (adR_ok.mono l2 gc)
  obtain ⟨z1', z2', z3'⟩ := adR_ok.or q1 (adR_ok.mono q3 p2) q2
  refine h_cond_f rfl rfl ?_; skip
  refine N_draw hp (by kernel_rfl) (by kernel_rfl) rfl rfl ?_; (repeat (refine nLoad ?_; first | refine N_ldB rfl rfl rfl ?_ | refine N_ldEN rfl (by omega) rfl rfl rfl ?_))
  rw [← hu, ← hv]
  refine N_call Try.func86 (by kernel_rfl) rfl (fun F w hp => ?_); refine Ret.mono (specAddAnd_x z2 u v _ hp.pre.net hz2.S' hz2.W (va.i64 hi) (vb.i64 hi)) ?_; rintro _ w ⟨z3, ⟨ez3, rfl⟩, hq⟩; have hp := hp.callF1 hq; refine ⟨fun _ => hp.sub (by (repeat (first | exact List.sublist_append_left _ _ | apply List.Sublist.cons))), _, hp, ?_⟩; clear hp; refine N_ops rfl rfl ?_; (repeat (refine N_stBN rfl rfl rfl rfl (by kernel_rfl) ?_; refine N_ops rfl rfl ?_))
  refine N_end ?_; intro w hp C; refine h_run rfl ?_; (repeat (refine H_ldB hp rfl rfl ?_))
  have eP : addF z2.n [u, v] (addAndL z2.n u v) = sumP adR r u v := by rw [ez2]; rfl
  rw [eP] at ez3 ⊢
  have p1 : NetOkP (sumP adR r u v).1 := p1
  have hz3 : NetOkP z3.n := by rw [ez3]; exact p1
  refine h_call rfl Try.func86 (by kernel_rfl) rfl (specAddAnd_x z3 (adR.xor r.1 u v).2 r.2.2 _ hp.net hz3.S' hz3.W (x2.i64 x1) ((adR_ok.mono x3 gc).i64 x1)) ?_; rintro _ w ⟨z4, ⟨ez4, rfl⟩, hq⟩; have hx := hq.x; have hp := hp.call1 hq; refine ops_run nopre rfl ?_; (repeat (first | (refine gLoad ?_; refine H_ldB hp rfl rfl ?_) | (refine gStore ?_; refine U_stBN hp rfl rfl rfl rfl ?_; intro w hp; refine ops_run nopre rfl ?_)))
  have eQ : addF z3.n [(adR.xor r.1 u v).2, r.2.2] (addAndL z3.n (adR.xor r.1 u v).2 r.2.2) = sumQ adR r u v := by rw [ez3]; rfl
  rw [eQ] at ez4 ⊢
  have q1 : NetOkP (sumQ adR r u v).1 := q1
  have hz4 : NetOkP z4.n := by rw [ez4]; exact q1
  refine h_call rfl Try.func60 (by kernel_rfl) rfl (specAddOr_x z4 (sumP adR r u v).2 (sumQ adR r u v).2 _ hp.net hz4.S' hz4.W (litR.i64 p1 p2) (litR.i64 q1 q2)) ?_; rintro _ w ⟨z5, ⟨ez5, rfl⟩, hq⟩; have hx := hq.x; have hp := hp.call1 hq; refine ops_run nopre rfl ?_; (repeat (refine U_stBN hp rfl rfl rfl rfl ?_; intro w hp; refine ops_run nopre rfl ?_))
  have eC : addF z4.n [(sumP adR r u v).2, (sumQ adR r u v).2] (addOrL z4.n (sumP adR r u v).2 (sumQ adR r u v).2) = sumC adR r u v := by rw [ez4]; rfl
  rw [eC] at ez5 ⊢
  have hp := (hp.f3.f3.f3).drop.drop.drop
  have hp := (hp.f5.f5.f5).tk 4
  refine IH (k + 1) z5 [rNet z5] o' oc' () _ _ _ (by omega) (by rw [eK]; rfl) ⟨⟨hk2, by rw [eK]; exact ez5, inferInstance⟩, ?_⟩
  rw [eK]
  exact hp
end Go.Proofs
