/- The contracts of the reference's labels, cuts by label and heights of cuts; each under its stated conditions. -/
import Derived.Test.YtbjgekllkfnjnaaLblT
set_option linter.all false
namespace Go.Xw
set_option maxHeartbeats 1000000
theorem lgG_self {n : NetL} {k0 : Nat} {L L' : List Int} {h : Int} (he : ∀ k, k ≠ k0 → L.getD k default = L'.getD k default) : lgG n k0 L h = lgG n k0 L' h := by
 have : lgFree n k0 L h = lgFree n k0 L' h := by
  funext k
  unfold lgFree
  by_cases hk : k = k0
  ·simp [hk]
  ·rw [he k hk]
 unfold lgG
 rw [this]
theorem hcP_self {n : NetL} {k0 : Nat} {L L' : List Int} {h : Int} (he : ∀ k, k ≠ k0 → L.getD k default = L'.getD k default) : hcP n k0 L h ↔ hcP n k0 L' h := by
 unfold hcP
 rw [lgG_self he]
theorem intset_ne {V : List Int} {k j : Nat} {z : Int} (h : j ≠ k) : (V.set k z).getD j default = V.getD j default := by
 rw [List.getD_eq_getElem?_getD, List.getElem?_set_ne (fun h2 => h h2.symm), ← List.getD_eq_getElem?_getD]
theorem LblOk.self {n : NetL} {L : List Int} {k0 : Nat} (h : LblOk n L k0) (hf : fst_ n ≤ k0) (hn : Nums n) (z : Int) : LblOk n (L.set k0 z) k0 where
 len := by rw [List.length_set]; exact h.len
 leaf k hk := by rw [intset_ne (by omega)]; exact h.leaf k hk
 mono i hi hik := by
  have ka := hn.ka i hi
  have kb := hn.kb i hi
  rw [intset_ne (by omega), intset_ne (by omega), intset_ne (by omega)]
  exact h.mono i hi hik
theorem lbV_pos {n : NetL} {L : List Int} {i : Nat} {p : Int} (hp : p = max (L.getD (kA n i) default) (L.getD (kB n i) default)) (h0 : 0 < p) : lbH n L i = p := by unfold lbH; omega
theorem lbV_zero {n : NetL} (hn : Nums n) {i : Nat} (hi : i < n.ands.length) {p : Int} (hp : p = max ((lbTo n i).getD (kA n i) default) ((lbTo n i).getD (kB n i) default)) (h0 : ¬ 0 < p) : lbV n (lbTo n i) i = p + 1 := by
 have ha := lb_b hn i (by omega) (kA n i)
 have hb := lb_b hn i (by omega) (kB n i)
 have h1 : lbH n (lbTo n i) i = 1 := by unfold lbH; omega
 have h2 := hc_kids hn hi ⟨by omega, by omega⟩
 rw [lbV_yes (by rw [h1]; exact h2), h1]
 omega
theorem lb_len (n : NetL) : (lblL n).length = nds n := lbTo_len n _
def lcP (n : NetL) (k : Int) : Prop := NetOkP n ∧ (fst_ n : Int) ≤ k ∧ k < (nds n : Int)
noncomputable def hgtF (n : NetL) (k h : Int) : List Int := @ite _ (lcP n k ∧ 1 ≤ h) (Classical.propDecidable _) (hcO n k.toNat (lblL n) h) []
noncomputable def hgtB (n : NetL) (k h : Int) : Bool := @ite _ (lcP n k ∧ 1 ≤ h) (Classical.propDecidable _) (hcB n k.toNat (lblL n) h) false
theorem hgt_yes {n : NetL} {k h : Int} (hc : lcP n k ∧ 1 ≤ h) : hgtF n k h = hcO n k.toNat (lblL n) h ∧ hgtB n k h = hcB n k.toNat (lblL n) h := by unfold hgtF hgtB; rw [if_pos hc, if_pos hc]; exact ⟨rfl, rfl⟩
theorem hgt_no {n : NetL} {k h : Int} (hc : ¬ (lcP n k ∧ 1 ≤ h)) : hgtF n k h = [] ∧ hgtB n k h = false := by unfold hgtF hgtB; rw [if_neg hc, if_neg hc]; exact ⟨rfl, rfl⟩
end Go.Xw
namespace Go.Proofs
open Go.Xw
set_option maxRecDepth 100000
set_option maxHeartbeats 2000000
attribute [local irreducible] Holds elemAddr
theorem specLabels_x (x : NetA) (w0 : World) (hX : NetR w0 x) (hS : NetS x.n) (hW : NetW x.n) :
  Ret Try.prog 25 [x.v] w0 (fun v w => ∃ b c, v = .slice b (ifOk x.n (lblL x.n)).length c ∧ Hp w0 w [rO 3 1 eI b c (ifOk x.n (lblL x.n))]) := by
 refine enter Try.S25ok _ _ rfl rfl (by show _ ≤ _; simp only [List.length]; decide) (fun C => ?_); have hp := Hp.nil w0; refine h_run rfl ?_; skip; (first | refine H_box hp ?_ | refine H_alloc hp rfl ?_); intro w b1 hx hp; refine ops_run nopre rfl ?_; (repeat (refine H_ldB hp rfl rfl ?_))
 by_cases hok : NetOkP x.n
 ·rw [ifOk_yes hok]
  have hn := hok.nums
  obtain ⟨n1, n2, n3, n4, n5, n6⟩ := hn
  have hn := hok.nums
  have hnd := hok.nodes
  have hsz := hok.size'
  have hal : x.n.ands.length = x.ands.length := rfl
  have hcnt : nodeCountL x.n = (nds x.n : Int) := by rw [nodeCountL, if_pos hok.size, n4]
  refine h_call rfl Try.func56 (by kernel_rfl) rfl ((specNetOk_h x _ hp.net hS hW).tt (netOkB_yes hok)) ?_; rintro _ w ⟨rfl, hx⟩; have hp := hp.ext hx; refine ops_run nopre rfl ?_; skip
  refine h_cond_f rfl rfl ?_; (repeat (refine H_ldB hp rfl rfl ?_))
  refine h_call rfl Try.func13 (by kernel_rfl) rfl (specNodeCount_h x _) ?_; rintro _ w ⟨rfl, hx⟩; have hp := hp.ext hx; refine ops_run nopre rfl ?_; skip
  rw [hcnt]
  refine H_make hp eI 0 rfl rfl rfl rfl (s := 1) rfl (by decide) rfl (by unfold maxLen; omega) (by show 8 * _ ≤ _; omega) ?_; intro w b3 hx hp; refine ops_run nopre rfl ?_; (repeat (refine H_ldB hp rfl rfl ?_))
  refine h_call rfl Try.func61 (by kernel_rfl) rfl (l08First_h x _ hok.b) ?_; rintro _ w ⟨rfl, hx⟩; have hp := hp.ext hx; refine ops_run nopre rfl ?_; skip
  rw [← n2]
  have e0 : lbTo x.n (fst_ x.n - fst_ x.n) = List.replicate (nds x.n) 0 := by rw [Nat.sub_self]; rfl
  rw [← e0] at hp
  refine h_loop [1, 3, 4] (fun (k : Nat) => [(1, .pointer (some ⟨b1, 0, none⟩)), (3, .slice (some ⟨b3, 0, none⟩) (nds x.n) (nds x.n)), (4, .int .i64 (k : Int))])
   (fun k w' => (fst_ x.n ≤ k ∧ k ≤ nds x.n) ∧ Hp w0 w' [rO 3 1 eI (some ⟨b3, 0, none⟩) (nds x.n) (lbTo x.n (k - fst_ x.n)), rB b1 28 x.cs]) (fun k => nds x.n - k) (fst_ x.n) rfl ⟨⟨by omega, by omega⟩, hp⟩ ?_
  clear hp
  rintro k w1 ⟨⟨hk1, hk2⟩, hp⟩ IH C
  refine h_run rfl ?_; (repeat (refine H_ldB hp rfl rfl ?_))
  refine h_call rfl Try.func13 (by kernel_rfl) rfl (specNodeCount_h x _) ?_; rintro _ w ⟨rfl, hx⟩; have hp := hp.ext hx; refine ops_run nopre rfl ?_; skip
  rw [hcnt]
  refine h_cond_dec (fun hlt => ?_) (fun hlt => ?_)
  ·have hkN : k < nds x.n := by omega
   have hi : k - fst_ x.n < x.ands.length := by omega
   have hki : fst_ x.n + (k - fst_ x.n) = k := by omega
   have ez : ((k : Int) - firstAndL x.n).toNat = k - fst_ x.n := by omega
   obtain ⟨i, hidef⟩ : ∃ i, i = k - fst_ x.n := ⟨_, rfl⟩
   rw [← hidef] at hi hki ez hp
   obtain ⟨q1, q2, q3, q4⟩ := hok.and_ hi
   have ka := n5 i hi
   have kb := n6 i hi
   have hLl := lbTo_len x.n i
   have hba := lb_b hn i (by omega) (kA x.n i)
   have hbb := lb_b hn i (by omega) (kB x.n i)
   have eA : kA x.n i = ((x.ands.getD i default).1 / 2).toNat := rfl
   have eB' : kB x.n i = ((x.ands.getD i default).2 / 2).toNat := rfl
   have hLk := lb_ok hn (i := i) (by omega) (k0 := k) (by omega)
   rw [eA] at hba
   rw [eB'] at hbb
   have hIH : lbTo x.n (k + 1 - fst_ x.n) = (lbTo x.n i).set k (lbV x.n (lbTo x.n i) i) := by
    rw [show k + 1 - fst_ x.n = i + 1 by omega, lbTo, hki]
   refine h_cond_t rfl rfl ?_; skip
   refine N_draw hp (by kernel_rfl) (by kernel_rfl) rfl rfl ?_; (repeat (refine N_ldB rfl rfl rfl ?_))
   refine N_call Try.func61 (by kernel_rfl) rfl (fun F w hp => ?_); refine Ret.mono (l08First_h x _ hok.b) ?_; rintro _ w ⟨rfl, hx⟩; have hp := hp.ext hx; refine ⟨fun _ => hp.sub (by (repeat (first | exact List.sublist_append_left _ _ | apply List.Sublist.cons))), _, hp, ?_⟩; clear hp; refine N_ops rfl rfl ?_; (repeat (refine N_ldE rfl (by omega) (by omega) rfl rfl rfl ?_))
   (first | refine N_box ?_ | refine N_alloc rfl ?_); intro b5; refine N_ops rfl rfl ?_; (repeat (refine N_stBN rfl rfl rfl rfl (by kernel_rfl) ?_; refine N_ops rfl rfl ?_))
   refine N_end ?_; intro w hp C; refine h_run rfl ?_; skip
   rw [ez] at hp
   have hp : Hp w0 _ [rB b5 79 (eII (x.ands.getD i default)), rO 3 1 eI (some ⟨b3, 0, none⟩) (nds x.n) (lbTo x.n i), rB b1 28 x.cs] := hp
   obtain ⟨p, hpd⟩ : ∃ p, p = max ((lbTo x.n i).getD ((x.ands.getD i default).1 / 2).toNat default) ((lbTo x.n i).getD ((x.ands.getD i default).2 / 2).toNat default) := ⟨_, rfl⟩
   have hpb : 0 ≤ p ∧ p ≤ 1 + i := by omega
   refine D_draw hp (by kernel_rfl) (by kernel_rfl) rfl rfl ?_; intro w hx hp; have hs := hp; (repeat (refine gLoad ?_; first | refine D_ldB rfl rfl rfl ?_ | refine D_ldE rfl (by omega) (by omega) rfl rfl rfl ?_))
   (repeat (refine U_st0N hp rfl rfl rfl (by omega) (by decide) rfl rfl ?_; intro w hp; refine ops_run nopre rfl ?_))
   have hself : ∀ z, LblOk x.n ((lbTo x.n i).set k z) k := fun z => hLk.self (by omega) hn z
   have hse : ∀ z j, j ≠ k → ((lbTo x.n i).set k z).getD j default = (lbTo x.n i).getD j default := fun z j hj => intset_ne hj
   refine h_cond_dec (fun hp0 => ?_) (fun hp0 => ?_)
   ·have hlh := lbV_pos (n := x.n) (L := lbTo x.n i) (i := i) (p := p) hpd (by omega)
    have hPi : hcP x.n k ((lbTo x.n i).set k (p + 1)) p ↔ hcP x.n (fst_ x.n + i) (lbTo x.n i) (lbH x.n (lbTo x.n i) i) := by rw [hlh, hki]; exact hcP_self (hse _)
    rw [← hpd] at hp ⊢
    refine h_cond_t rfl rfl ?_; (repeat (refine H_ldB hp rfl rfl ?_))
    have hsl : ((lbTo x.n i).set k (p + 1)).length = nds x.n := by rw [List.length_set]; exact hLl
    refine h_call rfl Try.func62 (by kernel_rfl) rfl (l17Cut_h x ((lbTo x.n i).set k (p + 1)) k p _ _ _ hp.net hS hW hok hp.rd (hself _) (by omega) hkN (by omega)) ?_; rintro _ w ⟨bc, cc, rfl, hq⟩; have hx := hq.x; have hp := hp.call1 hq; refine ops_run nopre rfl ?_; skip
    refine h_cond_b (fun hb => ?_) (fun hb => ?_)
    ·have hP := hPi.1 (pB_iff.1 hb)
     rw [lbV_yes hP, hlh] at hIH
     refine h_cond_t rfl rfl ?_; (repeat (refine U_st0N hp rfl rfl rfl (by omega) (by decide) rfl rfl ?_; intro w hp; refine ops_run nopre rfl ?_))
     refine IH (k + 1) _ _ _ (by omega) rfl ⟨⟨by omega, by omega⟩, ?_⟩
     rw [hIH]
     rw [List.set_set] at hp
     exact (hp.f3.f3).tk 2
    ·have hP : ¬ hcP x.n (fst_ x.n + i) (lbTo x.n i) (lbH x.n (lbTo x.n i) i) := fun h => by
      rw [hcB_yes (hPi.2 h)] at hb; cases hb
     rw [lbV_no hP, hlh] at hIH
     refine h_cond_f rfl rfl ?_; skip
     refine IH (k + 1) _ _ _ (by omega) rfl ⟨⟨by omega, by omega⟩, ?_⟩
     rw [hIH]
     exact (hp.f3.f3).tk 2
   ·have hv := lbV_zero (p := p) hn hi hpd (by omega)
    rw [hv] at hIH
    refine h_cond_f rfl rfl ?_; skip
    refine IH (k + 1) _ _ _ (by omega) rfl ⟨⟨by omega, by omega⟩, ?_⟩
    rw [hIH, hpd]
    exact (hp.f2.f2).tk 2
  ·obtain rfl : k = nds x.n := by omega
   clear IH
   refine h_cond_f rfl rfl ?_; (repeat (refine R_ret ?_))
   have e : lbTo x.n (nds x.n - fst_ x.n) = lblL x.n := by rw [show nds x.n - fst_ x.n = x.n.ands.length by omega]; rfl
   have hl : (lblL x.n).length = nds x.n := lbTo_len _ _
   rw [e] at hp
   exact ⟨some ⟨b3, 0, none⟩, nds x.n, by rw [hl], hp.sub (by simp)⟩
 ·rw [ifOk_no hok]
  refine h_call rfl Try.func56 (by kernel_rfl) rfl ((specNetOk_h x _ hp.net hS hW).ff (netOkB_no hok)) ?_; rintro _ w ⟨rfl, hx⟩; have hp := hp.ext hx; refine ops_run nopre rfl ?_; skip
  refine h_cond_t rfl rfl ?_; (repeat (first | (refine gBuild ?_; refine U_litI hp rfl rfl rfl rfl rfl rfl rfl rfl rfl rfl ?_; intro w _ hx hp; refine ops_run nopre rfl ?_) | refine R_ret ?_))
  exact ⟨_, _, rfl, hp.sub (by simp)⟩
theorem specLabels_n (x : NetA) (w0 : World) (hX : NetR w0 x) (hS : NetS x.n) (hW : NetW x.n) (hok : NetOkP x.n) :
  Ret Try.prog 25 [x.v] w0 (fun v w => ∃ b c, v = .slice b (nds x.n) c ∧ Hp w0 w [rO 3 1 eI b c (lblL x.n)]) := by
 have h := specLabels_x x w0 hX hS hW
 rw [ifOk_yes hok, lb_len] at h
 exact h
theorem specHeightCut_x (x : NetA) (k h : Int) (w0 : World) (hX : NetR w0 x) (hS : NetS x.n) (hW : NetW x.n) (hK : i64R k) (hH : i64R h) :
  Ret Try.prog 30 [x.v, .int .i64 k, .int .i64 h] w0 (fun v w => ∃ b c, v = .tuple ⟨[.slice b (hgtF x.n k h).length c, .bool (hgtB x.n k h)]⟩ ∧ Hp w0 w [rO 3 1 eI b c (hgtF x.n k h)]) := by
 unfold i64R at hK hH
 refine enter Try.S30ok _ _ rfl rfl (by show _ ≤ _; simp only [List.length]; decide) (fun C => ?_); have hp := Hp.nil w0; refine h_run rfl ?_; skip; (first | refine H_box hp ?_ | refine H_alloc hp rfl ?_); intro w b3 hx hp; refine ops_run nopre rfl ?_; (repeat (refine H_ldB hp rfl rfl ?_))
 by_cases hok : NetOkP x.n
 ·have hn := hok.nums
  obtain ⟨n1, n2, n3, n4, n5, n6⟩ := hn
  have hnd := hok.nodes
  have hcnt : nodeCountL x.n = (nds x.n : Int) := by rw [nodeCountL, if_pos hok.size, n4]
  refine h_call rfl Try.func56 (by kernel_rfl) rfl ((specNetOk_h x _ hp.net hS hW).tt (netOkB_yes hok)) ?_; rintro _ w ⟨rfl, hx⟩; have hp := hp.ext hx; refine ops_run nopre rfl ?_; (repeat (first | (refine gGuard ?_; refine h_guard_y rfl nopre rfl ?_) | (refine gLoad ?_; refine H_ldB hp rfl rfl ?_)))
  refine h_call rfl Try.func61 (by kernel_rfl) rfl (l08First_h x _ hok.b) ?_; rintro _ w ⟨rfl, hx⟩; have hp := hp.ext hx; refine ops_run nopre rfl ?_; (repeat (refine h_guard_y rfl nopre rfl ?_))
  refine h_guard_by (fun h1 => ?_) (fun h1 => ?_); all_goals (rw [h1]; (first | replace h1 := of_decide_eq_true h1 | replace h1 := of_decide_eq_false h1 | skip); (repeat (first | (refine gGuard ?_; first | refine h_guard_y rfl nopre rfl ?_ | refine h_guard_n rfl nopre rfl ?_) | (refine gLoad ?_; refine H_ldB hp rfl rfl ?_))))
  ·refine h_cond_t rfl rfl ?_; (repeat (first | (refine gBuild ?_; refine U_litI hp rfl rfl rfl rfl rfl rfl rfl rfl rfl rfl ?_; intro w _ hx hp; refine ops_run nopre rfl ?_) | refine R_ret ?_))
   obtain ⟨e1, e2⟩ := hgt_no (n := x.n) (k := k) (h := h) (fun hc => by have := hc.1.2.1; omega)
   rw [e1, e2]
   exact ⟨_, _, rfl, hp.sub (by simp)⟩
  ·refine h_call rfl Try.func13 (by kernel_rfl) rfl (specNodeCount_h x _) ?_; rintro _ w ⟨rfl, hx⟩; have hp := hp.ext hx; refine ops_run nopre rfl ?_; (repeat (refine h_guard_y rfl nopre rfl ?_))
   rw [hcnt]
   refine h_guard_by (fun h2 => ?_) (fun h2 => ?_); all_goals (rw [h2]; (first | replace h2 := of_decide_eq_true h2 | replace h2 := of_decide_eq_false h2 | skip); (repeat (refine gGuard ?_; first | refine h_guard_y rfl nopre rfl ?_ | refine h_guard_n rfl nopre rfl ?_)))
   ·refine h_cond_t rfl rfl ?_; (repeat (first | (refine gBuild ?_; refine U_litI hp rfl rfl rfl rfl rfl rfl rfl rfl rfl rfl ?_; intro w _ hx hp; refine ops_run nopre rfl ?_) | refine R_ret ?_))
    obtain ⟨e1, e2⟩ := hgt_no (n := x.n) (k := k) (h := h) (fun hc => by have := hc.1.2.2; omega)
    rw [e1, e2]
    exact ⟨_, _, rfl, hp.sub (by simp)⟩
   ·refine h_cond_dec (fun h3 => ?_) (fun h3 => ?_)
    ·refine h_cond_t rfl rfl ?_; (repeat (first | (refine gBuild ?_; refine U_litI hp rfl rfl rfl rfl rfl rfl rfl rfl rfl rfl ?_; intro w _ hx hp; refine ops_run nopre rfl ?_) | refine R_ret ?_))
     obtain ⟨e1, e2⟩ := hgt_no (n := x.n) (k := k) (h := h) (fun hc => by have := hc.2; omega)
     rw [e1, e2]
     exact ⟨_, _, rfl, hp.sub (by simp)⟩
    ·obtain ⟨m, rfl⟩ := Int.eq_ofNat_of_zero_le (show 0 ≤ k by omega)
     obtain ⟨e1, e2⟩ := hgt_yes (n := x.n) (k := (m : Int)) (h := h) ⟨⟨hok, by omega, by omega⟩, by omega⟩
     have em : ((m : Nat) : Int).toNat = m := by omega
     rw [em] at e1 e2
     have hlo := lbl_ok hok.nums (k0 := m) (by omega)
     have hll := lb_len x.n
     rw [e1, e2]
     refine h_cond_f rfl rfl ?_; skip
     refine N_draw hp (by kernel_rfl) (by kernel_rfl) rfl rfl ?_; (repeat (refine N_ldB rfl rfl rfl ?_))
     refine N_call Try.func25 (by kernel_rfl) rfl (fun F w hp => ?_); refine Ret.mono (specLabels_n x _ hp.pre.net hS hW hok) ?_; rintro _ w ⟨bl, cl, rfl, hq⟩; have hp := hp.callF1 hq; refine ⟨fun _ => hp.sub (by (repeat (first | exact List.sublist_append_left _ _ | apply List.Sublist.cons))), _, hp, ?_⟩; clear hp; refine N_ops rfl rfl ?_; skip
     refine N_call Try.func62 (by kernel_rfl) rfl (fun F w hp => ?_); refine Ret.mono (l17Cut_h x (lblL x.n) m h _ _ _ hp.pre.net hS hW hok hp.pre.rd hlo (by omega) (by omega) (by omega)) ?_; rintro _ w ⟨bc, cc, rfl, hq⟩; have hp := hp.callF1 hq; refine ⟨fun _ => hp.sub (by (repeat (first | exact List.sublist_append_left _ _ | apply List.Sublist.cons))), _, hp, ?_⟩; clear hp; refine N_ops rfl rfl ?_; skip
     refine N_end ?_; intro w hp C; refine h_run rfl ?_; skip
     refine h_cond_b (fun hb => ?_) (fun hb => ?_)
     ·have hP : ¬ hcP x.n m (lblL x.n) h := fun h => by
       rw [hcB_yes h] at hb; cases hb
      rw [hcB_no hP, hcO_no hP]
      refine h_cond_t rfl rfl ?_; (repeat (first | (refine gBuild ?_; refine U_litI hp rfl rfl rfl rfl rfl rfl rfl rfl rfl rfl ?_; intro w _ hx hp; refine ops_run nopre rfl ?_) | refine R_ret ?_))
      exact ⟨_, _, rfl, hp.sub (by simp)⟩
     ·have hb' : hcB x.n m (lblL x.n) h = true := by simpa using hb
      rw [hb']
      refine h_cond_f rfl rfl ?_; (repeat (refine R_ret ?_))
      exact ⟨bc, cc, rfl, hp.sub (by simp)⟩
 ·obtain ⟨e1, e2⟩ := hgt_no (n := x.n) (k := k) (h := h) (fun hc => hok hc.1.1)
  rw [e1, e2]
  refine h_call rfl Try.func56 (by kernel_rfl) rfl ((specNetOk_h x _ hp.net hS hW).ff (netOkB_no hok)) ?_; rintro _ w ⟨rfl, hx⟩; have hp := hp.ext hx; refine ops_run nopre rfl ?_; (repeat (refine h_guard_n rfl nopre rfl ?_))
  refine h_cond_t rfl rfl ?_; (repeat (first | (refine gBuild ?_; refine U_litI hp rfl rfl rfl rfl rfl rfl rfl rfl rfl rfl ?_; intro w _ hx hp; refine ops_run nopre rfl ?_) | refine R_ret ?_))
  exact ⟨_, _, rfl, hp.sub (by simp)⟩
end Go.Proofs
