/- The contracts of the program's labels, cuts by label and heights of cuts; each under its stated conditions. -/
import Derived.Test.YtbjgekllkfnjnaaLblX
import Derived.Test.YtbjgekllkfnjnaaCutLess
set_option linter.all false
namespace Go.Xw
def kmx (L X : List Int) : Nat → Int
 | 0 => 1
 | i + 1 => max (kmx L X i) (L.getD (X.getD i default).toNat default)
theorem kmx_kid {n : NetL} {L : List Int} (hn : Nums n) {i : Nat} (hi : i < n.ands.length) : kmx L (kidL n (fst_ n + i)) (kidL n (fst_ n + i)).length = lbH n L i := by
 have e : ∀ X : List Int, X = kidL n (fst_ n + i) → kmx L X X.length = lbH n L i := fun X hX => by
  unfold kidL at hX
  rw [if_neg (by omega), Nat.add_sub_cancel_left] at hX
  by_cases he : (n.ands.getD i default).1 / 2 = (n.ands.getD i default).2 / 2
  ·rw [if_pos he] at hX
   have hab : kA n i = kB n i := by unfold kA kB; rw [he]
   rw [hX]
   show max 1 (L.getD (kA n i) default) = _
   unfold lbH
   rw [← hab]; omega
  ·rw [if_neg he] at hX
   rw [hX]
   show max (max 1 (L.getD (kA n i) default)) (L.getD (kB n i) default) = _
   unfold lbH
   omega
 exact e _ rfl
end Go.Xw
namespace Go.Proofs
open Go.Xw
set_option maxRecDepth 100000
set_option maxHeartbeats 4000000
attribute [local irreducible] Holds elemAddr
theorem allLabels_h (x : NetA) (w0 : World) (hX : NetR w0 x) (hok : NetOkP x.n) :
  Ret Try.prog 44 [x.v] w0 (fun v w => ∃ b c, v = .slice b (nds x.n) c ∧ Hp w0 w [rO 3 1 eI b c (lblL x.n)]) := by
 have hn := hok.nums
 obtain ⟨n1, n2, n3, n4, n5, n6⟩ := hn
 have hn := hok.nums
 have hnd := hok.nodes
 have hsz := hok.size'
 have hcnt : nodesL x.n = (nds x.n : Int) := by omega
 have hal : x.n.ands.length = x.ands.length := rfl
 refine enter Try.S44ok _ _ rfl rfl (by show _ ≤ _; simp only [List.length]; decide) (fun C => ?_); have hp := Hp.nil w0; refine h_run rfl ?_; skip; (first | refine H_box hp ?_ | refine H_alloc hp rfl ?_); intro w b1 hx hp; refine ops_run nopre rfl ?_; (repeat (refine H_ldB hp rfl rfl ?_))
 refine h_call rfl Try.func49 (by kernel_rfl) rfl (nodeCount_h x _ hok.b) ?_; rintro _ w ⟨rfl, hx⟩; have hp := hp.ext hx; refine ops_run nopre rfl ?_; skip
 rw [hcnt]
 refine H_make hp eI 0 rfl rfl rfl rfl (s := 1) rfl (by decide) rfl (by unfold maxLen; omega) (by show 8 * _ ≤ _; omega) ?_; intro w b3 hx hp; refine ops_run nopre rfl ?_; (repeat (refine H_ldB hp rfl rfl ?_))
 refine h_call rfl Try.func91 (by kernel_rfl) rfl (firstAnd_h x _ hok.b) ?_; rintro _ w ⟨rfl, hx⟩; have hp := hp.ext hx; refine ops_run nopre rfl ?_; skip
 rw [← n2]
 have e0 : lbTo x.n (fst_ x.n - fst_ x.n) = List.replicate (nds x.n) 0 := by rw [Nat.sub_self]; rfl
 rw [← e0] at hp
 refine h_loop [1, 3, 4] (fun (k : Nat) => [(1, .pointer (some ⟨b1, 0, none⟩)), (3, .slice (some ⟨b3, 0, none⟩) (nds x.n) (nds x.n)), (4, .int .i64 (k : Int))])
  (fun k w' => (fst_ x.n ≤ k ∧ k ≤ nds x.n) ∧ Hp w0 w' [rO 3 1 eI (some ⟨b3, 0, none⟩) (nds x.n) (lbTo x.n (k - fst_ x.n)), rB b1 28 x.cs]) (fun k => nds x.n - k) (fst_ x.n) rfl ⟨⟨by omega, by omega⟩, hp⟩ ?_
 clear hp
 rintro k w1 ⟨⟨hk1, hk2⟩, hp⟩ IH C
 refine h_run rfl ?_; (repeat (refine H_ldB hp rfl rfl ?_))
 refine h_call rfl Try.func49 (by kernel_rfl) rfl (nodeCount_h x _ hok.b) ?_; rintro _ w ⟨rfl, hx⟩; have hp := hp.ext hx; refine ops_run nopre rfl ?_; skip
 rw [hcnt]
 refine h_cond_dec (fun hlt => ?_) (fun hlt => ?_)
 ·have hkN : k < nds x.n := by omega
  have hi : k - fst_ x.n < x.ands.length := by omega
  have hki : fst_ x.n + (k - fst_ x.n) = k := by omega
  obtain ⟨i, hidef⟩ : ∃ i, i = k - fst_ x.n := ⟨_, rfl⟩
  rw [← hidef] at hi hki hp
  have hLl := lbTo_len x.n i
  have hLk := lb_ok hn (i := i) (by omega) (k0 := k) (by omega)
  have hlb := lb_b hn i (by omega)
  have hIH : lbTo x.n (k + 1 - fst_ x.n) = (lbTo x.n i).set k (lbV x.n (lbTo x.n i) i) := by
   rw [show k + 1 - fst_ x.n = i + 1 by omega, lbTo, hki]
  have hkm := kmx_kid (L := lbTo x.n i) hn hi
  rw [hki] at hkm
  have hkl : (kidL x.n k).length ≤ 2 := by unfold kidL; repeat' split <;> simp
  have hlh := lbH_1 x.n (lbTo x.n i) i
  refine h_cond_t rfl rfl ?_; (repeat (refine H_ldB hp rfl rfl ?_))
  refine h_call rfl Try.func92 (by kernel_rfl) rfl (kidsOf_h x k _ hp.net hok hkN) ?_; rintro _ w ⟨kb, kc, rfl, hq⟩; have hx := hq.x; have hp := hp.call1 hq; refine ops_run nopre rfl ?_; skip
  refine h_loop [1, 3, 4, 5, 23, 24, 25] (fun (j : Nat) => [(1, .pointer (some ⟨b1, 0, none⟩)), (3, .slice (some ⟨b3, 0, none⟩) (nds x.n) (nds x.n)), (4, .int .i64 (k : Int)), (5, .int .i64 (kmx (lbTo x.n i) (kidL x.n k) j)), (23, .slice kb (kidL x.n k).length kc), (24, .int .i64 (kidL x.n k).length), (25, .int .i64 (j : Int))])
   (fun j w' => j ≤ (kidL x.n k).length ∧ Hp w0 w' [rO 3 1 eI kb kc (kidL x.n k), rO 3 1 eI (some ⟨b3, 0, none⟩) (nds x.n) (lbTo x.n i), rB b1 28 x.cs]) (fun j => (kidL x.n k).length - j) 0 rfl ⟨by omega, hp⟩ ?_
  clear hp
  rintro j w1 ⟨hj, hp⟩ IH2 C
  refine h_run rfl ?_; skip
  refine h_cond_dec (fun hlt2 => ?_) (fun hlt2 => ?_)
  ·have hjl : j < (kidL x.n k).length := by omega
   obtain ⟨c, i', hc, hi', hki', hcc⟩ := kidL_mem hok hkN (getD_mem hjl)
   have ka := n5 i' hi'
   have kb' := n6 i' hi'
   have hcN : c < nds x.n := by rcases hcc with rfl | rfl <;> omega
   have e : kmx (lbTo x.n i) (kidL x.n k) (j + 1) = max (kmx (lbTo x.n i) (kidL x.n k) j) ((lbTo x.n i).getD ((kidL x.n k).getD j default).toNat default) := rfl
   refine h_cond_t rfl rfl ?_; (repeat (refine gLoad ?_; first | refine H_ldEN hp rfl (by omega) rfl rfl ?_ | refine H_ldE hp rfl (by omega) (by omega) rfl rfl ?_))
   refine IH2 (j + 1) _ _ _ (by omega) (by rw [e]; rfl) ⟨by omega, hp⟩
  ·obtain rfl : j = (kidL x.n k).length := by omega
   clear IH2
   rw [hkm]
   have hp := hp.drop
   refine h_cond_f rfl rfl ?_; (repeat (refine H_ldB hp rfl rfl ?_))
   obtain ⟨hh, hhd⟩ : ∃ hh, hh = lbH x.n (lbTo x.n i) i := ⟨_, rfl⟩
   have hbb := hlb (kA x.n i)
   have hbb2 := hlb (kB x.n i)
   have hhb : hh ≤ 302 := by rw [hhd]; unfold lbH; omega
   rw [← hhd] at hlh ⊢
   by_cases hP : hcP x.n k (lbTo x.n i) hh
   ·rw [lbV_yes (by rw [hki, ← hhd]; exact hP), ← hhd] at hIH
    refine h_call rfl Try.func47 (by kernel_rfl) rfl (heightCut_h x _ hp.net hok k (by omega) hkN (lbTo x.n i) hh (by omega) hLk _ _ hp.rd) ?_; rintro _ w ⟨bc, cc, rfl, hq⟩; have hx := hq.x; have hp := hp.call1 hq; refine ops_run nopre rfl ?_; skip
    rw [hcB_yes hP]
    refine h_cond_f rfl rfl ?_; (repeat (refine U_st0N hp rfl rfl rfl (by omega) (by decide) rfl rfl ?_; intro w hp; refine ops_run nopre rfl ?_))
    refine IH (k + 1) _ _ _ (by omega) rfl ⟨⟨by omega, by omega⟩, ?_⟩
    rw [hIH]
    exact hp.drop
   ·rw [lbV_no (by rw [hki, ← hhd]; exact hP), ← hhd] at hIH
    refine h_call rfl Try.func47 (by kernel_rfl) rfl (heightCut_h x _ hp.net hok k (by omega) hkN (lbTo x.n i) hh (by omega) hLk _ _ hp.rd) ?_; rintro _ w ⟨bc, cc, rfl, hq⟩; have hx := hq.x; have hp := hp.call1 hq; refine ops_run nopre rfl ?_; skip
    rw [hcB_no hP]
    refine h_cond_t rfl rfl ?_; (repeat (refine U_st0N hp rfl rfl rfl (by omega) (by decide) rfl rfl ?_; intro w hp; refine ops_run nopre rfl ?_))
    refine IH (k + 1) _ _ _ (by omega) rfl ⟨⟨by omega, by omega⟩, ?_⟩
    rw [hIH]
    exact hp.drop
 ·obtain rfl : k = nds x.n := by omega
  clear IH
  refine h_cond_f rfl rfl ?_; (repeat (refine R_ret ?_))
  have e : lbTo x.n (nds x.n - fst_ x.n) = lblL x.n := by rw [show nds x.n - fst_ x.n = x.n.ands.length by omega]; rfl
  rw [e] at hp
  exact ⟨_, _, rfl, hp.sub (by simp)⟩
theorem implLabels_x (x : NetA) (w0 : World) (hX : NetR w0 x) (hS : NetS x.n) (hW : NetW x.n) :
  Ret Try.prog 12 [x.v] w0 (fun v w => ∃ b c, v = .slice b (ifOk x.n (lblL x.n)).length c ∧ Hp w0 w [rO 3 1 eI b c (ifOk x.n (lblL x.n))]) := by
 refine enter Try.S12ok _ _ rfl rfl (by show _ ≤ _; simp only [List.length]; decide) (fun C => ?_); have hp := Hp.nil w0; refine h_run rfl ?_; skip; (first | refine H_box hp ?_ | refine H_alloc hp rfl ?_); intro w b1 hx hp; refine ops_run nopre rfl ?_; (repeat (refine H_ldB hp rfl rfl ?_))
 by_cases hok : NetOkP x.n
 ·rw [ifOk_yes hok]
  have hl := lb_len x.n
  refine h_call rfl Try.func43 (by kernel_rfl) rfl ((implNetOk_h x _ hp.net hS).tt (netOkB_yes hok)) ?_; rintro _ w ⟨rfl, hx⟩; have hp := hp.ext hx; refine ops_run nopre rfl ?_; skip
  refine h_cond_f rfl rfl ?_; (repeat (refine H_ldB hp rfl rfl ?_))
  refine h_call rfl Try.func44 (by kernel_rfl) rfl (allLabels_h x _ hp.net hok) ?_; rintro _ w ⟨b, c, rfl, hq⟩; have hx := hq.x; have hp := hp.call1 hq; refine ops_run nopre rfl ?_; (repeat (refine R_ret ?_))
  exact ⟨b, c, by rw [hl], hp.sub (by simp)⟩
 ·rw [ifOk_no hok]
  refine h_call rfl Try.func43 (by kernel_rfl) rfl ((implNetOk_h x _ hp.net hS).ff (netOkB_no hok)) ?_; rintro _ w ⟨rfl, hx⟩; have hp := hp.ext hx; refine ops_run nopre rfl ?_; skip
  refine h_cond_t rfl rfl ?_; (repeat (refine R_ret ?_))
  exact ⟨none, 0, rfl, (Hp.of_ext hp.x).ownN (Ext.refl _) (Own.nil _ _ _ _ _)⟩
theorem implLabelCut_x (x : NetA) (k : Int) (w0 : World) (hX : NetR w0 x) (hS : NetS x.n) (hW : NetW x.n) (hK : i64R k) :
  Ret Try.prog 14 [x.v, .int .i64 k] w0 (fun v w => ∃ b c, v = .slice b (lctF x.n k).length c ∧ Hp w0 w [rO 3 1 eI b c (lctF x.n k)]) := by
 unfold i64R at hK
 refine enter Try.S14ok _ _ rfl rfl (by show _ ≤ _; simp only [List.length]; decide) (fun C => ?_); have hp := Hp.nil w0; refine h_run rfl ?_; skip; (first | refine H_box hp ?_ | refine H_alloc hp rfl ?_); intro w b2 hx hp; refine ops_run nopre rfl ?_; (repeat (refine H_ldB hp rfl rfl ?_))
 by_cases hok : NetOkP x.n
 ·have hn := hok.nums
  obtain ⟨n1, n2, n3, n4, n5, n6⟩ := hn
  have hnd := hok.nodes
  have hll := lb_len x.n
  refine h_call rfl Try.func43 (by kernel_rfl) rfl ((implNetOk_h x _ hp.net hS).tt (netOkB_yes hok)) ?_; rintro _ w ⟨rfl, hx⟩; have hp := hp.ext hx; refine ops_run nopre rfl ?_; (repeat (first | (refine gGuard ?_; refine h_guard_y rfl nopre rfl ?_) | (refine gLoad ?_; refine H_ldB hp rfl rfl ?_)))
  by_cases hc : lcP x.n k
  ·have hc2 := hc.2
   refine h_call rfl Try.func46 (by kernel_rfl) rfl ((isAnd_h x k _ hok.b).tt (decide_eq_true (by omega))) ?_; rintro _ w ⟨rfl, hx⟩; have hp := hp.ext hx; refine ops_run nopre rfl ?_; (repeat (refine h_guard_y rfl nopre rfl ?_))
   rw [lct_yes hc]
   obtain ⟨m, rfl⟩ := Int.eq_ofNat_of_zero_le (show 0 ≤ k by omega)
   have em : ((m : Nat) : Int).toNat = m := by omega
   rw [em]
   have hlo := lbl_ok hok.nums (k0 := m) (by omega)
   have hpos : 1 ≤ (lblL x.n).getD m default := by
    have := lb_and hok.nums (i := x.n.ands.length) (j := m - fst_ x.n) (Nat.le_refl _) (by omega)
    rw [show fst_ x.n + (m - fst_ x.n) = m by omega] at this
    exact this
   refine h_cond_f rfl rfl ?_; (repeat (refine H_ldB hp rfl rfl ?_))
   refine h_call rfl Try.func44 (by kernel_rfl) rfl (allLabels_h x _ hp.net hok) ?_; rintro _ w ⟨bl, cl, rfl, hq⟩; have hx := hq.x; have hp := hp.call1 hq; refine ops_run nopre rfl ?_; skip
   refine D_draw hp (by kernel_rfl) (by kernel_rfl) rfl rfl ?_; intro w hx hp; have hs := hp; (repeat (refine gLoad ?_; first | refine D_ldB rfl rfl rfl ?_ | refine D_ldEN rfl (by omega) rfl rfl rfl ?_))
   refine h_callq rfl Try.func47 (by kernel_rfl) rfl (heightCut_h x _ hp.net hok m (by omega) (by omega) (lblL x.n) ((lblL x.n).getD m default) hpos hlo _ _ hp.rd) ?_; rintro _ w ⟨bc, cc, rfl, hq⟩; have hx := hq.x; have hp := hp.call1 hq; have hs := hs.ext hx; refine ⟨fun _ => hs, ?_⟩; refine D_ops rfl rfl ?_; (repeat (refine R_ret ?_))
   skip
   exact ⟨bc, cc, rfl, hp.sub (by simp)⟩
  ·rw [lct_no hc]
   refine h_call rfl Try.func46 (by kernel_rfl) rfl ((isAnd_h x k _ hok.b).ff (decide_eq_false (fun hh => hc ⟨hok, by omega, by omega⟩))) ?_; rintro _ w ⟨rfl, hx⟩; have hp := hp.ext hx; refine ops_run nopre rfl ?_; (repeat (refine h_guard_y rfl nopre rfl ?_))
   refine h_cond_t rfl rfl ?_; (repeat (refine R_ret ?_))
   exact ⟨none, 0, rfl, (Hp.of_ext hp.x).ownN (Ext.refl _) (Own.nil _ _ _ _ _)⟩
 ·rw [lct_no (fun hc => hok hc.1)]
  refine h_call rfl Try.func43 (by kernel_rfl) rfl ((implNetOk_h x _ hp.net hS).ff (netOkB_no hok)) ?_; rintro _ w ⟨rfl, hx⟩; have hp := hp.ext hx; refine ops_run nopre rfl ?_; (repeat (refine h_guard_n rfl nopre rfl ?_))
  refine h_cond_t rfl rfl ?_; (repeat (refine R_ret ?_))
  exact ⟨none, 0, rfl, (Hp.of_ext hp.x).ownN (Ext.refl _) (Own.nil _ _ _ _ _)⟩
theorem implCutHeight_x (x : NetA) (Xa : Option Addr) (n : Nat) (Xc : Nat) (X : List Int) (hn : X.length = n) (w0 : World) (hX : NetR w0 x) (hS : NetS x.n) (hW : NetW x.n) (hR : Rd w0 Xa 1 eI X) (hL : n ≤ 1048576) (hV : ∀ i, i < X.length → i64R (X.getD i default)) :
  Ret Try.prog 17 [x.v, .slice Xa n Xc] w0 (fun v w => v = .int .i64 (chtF x.n X) ∧ Ext w0 w) := by
 subst hn
 refine enter Try.S17ok _ _ rfl rfl (by show _ ≤ _; simp only [List.length]; decide) (fun C => ?_); have hp := Hp.nil w0; refine h_run rfl ?_; skip; (first | refine H_box hp ?_ | refine H_alloc hp rfl ?_); intro w b2 hx hp; refine ops_run nopre rfl ?_; (repeat (refine H_ldB hp rfl rfl ?_))
 by_cases hok : NetOkP x.n
 ·have hnn := hok.nums
  obtain ⟨n1, n2, n3, n4, n5, n6⟩ := hnn
  have hnd := hok.nodes
  have hll := lb_len x.n
  refine h_call rfl Try.func43 (by kernel_rfl) rfl ((implNetOk_h x _ hp.net hS).tt (netOkB_yes hok)) ?_; rintro _ w ⟨rfl, hx⟩; have hp := hp.ext hx; refine ops_run nopre rfl ?_; skip
  refine h_cond_f rfl rfl ?_; (repeat (refine H_ldB hp rfl rfl ?_))
  refine h_call rfl Try.func44 (by kernel_rfl) rfl (allLabels_h x _ hp.net hok) ?_; rintro _ w ⟨bl, cl, rfl, hq⟩; have hx := hq.x; have hp := hp.call1 hq; refine ops_run nopre rfl ?_; skip
  have hp : Hp w0 _ [rO 3 1 eI bl cl (lblL x.n), rB b2 28 x.cs] := hp
  refine h_loop [2, 5, 6, 14, 15, 16] (fun (i : Nat) => [(2, .pointer (some ⟨b2, 0, none⟩)), (5, .slice bl (nds x.n) cl), (6, .int .i64 (mxL (lblL x.n) X i + 1)), (14, .slice Xa X.length Xc), (15, .int .i64 X.length), (16, .int .i64 (i : Int))])
   (fun i w' => (i ≤ X.length ∧ ∀ j, j < i → 0 ≤ X.getD j default ∧ X.getD j default < (nds x.n : Int)) ∧ Hp w0 w' [rO 3 1 eI bl cl (lblL x.n), rB b2 28 x.cs]) (fun i => X.length - i) 0 rfl ⟨⟨by omega, fun j hj => by omega⟩, hp⟩ ?_
  clear hp
  rintro i w1 ⟨⟨hi, hall⟩, hp⟩ IH C
  have hmb := mxL_b hok X i
  refine h_run rfl ?_; skip
  refine h_cond_dec (fun hlt => ?_) (fun hlt => ?_)
  ·have hlt' : i < X.length := by omega
   have hv := hV i hlt'
   unfold i64R at hv
   refine h_cond_t rfl rfl ?_; (repeat (refine gLoad ?_; first | refine H_ldB hp rfl rfl ?_ | refine H_ldEN hp rfl (by omega) rfl rfl ?_))
   refine h_call rfl Try.func49 (by kernel_rfl) rfl (nodeCount_h x _ hok.b) ?_; rintro _ w ⟨rfl, hx⟩; have hp := hp.ext hx; refine ops_run nopre rfl ?_; skip
   by_cases hin : 0 ≤ X.getD i default ∧ X.getD i default ≤ nodesL x.n - 1
   ·have hlb := lb_i64 hok (X.getD i default).toNat
    have e : max (mxL (lblL x.n) X i + 1) (1 + (lblL x.n).getD (X.getD i default).toNat default) = mxL (lblL x.n) X (i + 1) + 1 := by
     show _ = max (mxL (lblL x.n) X i) ((lblL x.n).getD (X.getD i default).toNat default) + 1
     omega
    refine h_call rfl Try.func48 (by kernel_rfl) rfl ((inRange_h (X.getD i default) 0 (nodesL x.n - 1) _).yes hin) ?_; rintro _ w ⟨rfl, hx⟩; have hp := hp.ext hx; refine ops_run nopre rfl ?_; skip
    refine h_cond_f rfl rfl ?_; (repeat (refine H_ldE hp rfl (by omega) (by omega) rfl rfl ?_))
    refine IH (i + 1) _ _ _ (by omega) (by rw [← e]; rfl) ⟨⟨by omega, fun j hj => ?_⟩, hp⟩
    by_cases hji : j = i
    ·subst hji; omega
    ·exact hall j (by omega)
   ·refine h_call rfl Try.func48 (by kernel_rfl) rfl ((inRange_h (X.getD i default) 0 (nodesL x.n - 1) _).no hin) ?_; rintro _ w ⟨rfl, hx⟩; have hp := hp.ext hx; refine ops_run nopre rfl ?_; skip
    refine h_cond_t rfl rfl ?_; (repeat (refine R_ret ?_))
    rw [cht_no (fun hc => hin (by have := hc.2 i hlt'; omega))]
    exact ⟨rfl, hp.x⟩
  ·obtain rfl : i = X.length := by omega
   clear IH
   refine h_cond_f rfl rfl ?_; (repeat (refine R_ret ?_))
   rw [cht_yes ⟨hok, hall⟩]
   exact ⟨rfl, hp.x⟩
 ·rw [cht_no (fun hc => hok hc.1)]
  refine h_call rfl Try.func43 (by kernel_rfl) rfl ((implNetOk_h x _ hp.net hS).ff (netOkB_no hok)) ?_; rintro _ w ⟨rfl, hx⟩; have hp := hp.ext hx; refine ops_run nopre rfl ?_; skip
  refine h_cond_t rfl rfl ?_; (repeat (refine R_ret ?_))
  exact ⟨rfl, hp.x⟩
theorem implCutHeight_y (x : NetA) (Xa : Option Addr) (Xc : Nat) (X : List Int) (w0 : World) (hX : NetR w0 x) (hS : NetS x.n) (hW : NetW x.n) (hR : Rd w0 Xa 1 eI X) (hL : X.length ≤ 1048576) (hV : ∀ i, i < X.length → i64R (X.getD i default)) :
  Ret Try.prog 17 [x.v, .slice Xa X.length Xc] w0 (fun v w => v = .int .i64 (chtF x.n X) ∧ Ext w0 w) := implCutHeight_x x Xa X.length Xc X rfl w0 hX hS hW hR hL hV
end Go.Proofs
