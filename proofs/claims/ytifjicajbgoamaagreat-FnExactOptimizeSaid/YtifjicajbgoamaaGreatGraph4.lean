/- Texts that belong together; each under its stated conditions. -/
import Derived.Test.YtifjicajbgoamaaGreatGraph1
set_option linter.all false
section
namespace Go.Proofs
open Go.Xw
set_option maxRecDepth 100000
set_option maxHeartbeats 1000000
attribute [local irreducible] Holds elemAddr
noncomputable def ifOk (n : NetL) (l : List Int) : List Int := if netOkB n = true then l else []
theorem ifOk_yes {n : NetL} {l : List Int} (h : NetOkP n) : ifOk n l = l := by rw [ifOk, if_pos (netOkB_iff.2 h)]
theorem ifOk_no {n : NetL} {l : List Int} (h : ¬ NetOkP n) : ifOk n l = [] := by rw [ifOk, if_neg (fun hh => h (netOkB_iff.1 hh))]
end Go.Proofs
end
section
namespace Go.Xw
theorem NetOkP.nodes {x : NetA} (h : NetOkP x.n) : 1 ≤ firstAndL x.n ∧ firstAndL x.n + x.ands.length = nodesL x.n ∧ nodesL x.n ≤ 333 := by
 have h1 := h.size'
 have h2 := nodesL_eq x
 have h3 := firstAndL_eq x
 omega
theorem NetOkP.and_ {x : NetA} (h : NetOkP x.n) {i : Nat} (hi : i < x.ands.length) : 0 ≤ (x.ands.getD i default).1 ∧ (x.ands.getD i default).1 / 2 < firstAndL x.n + i ∧ 0 ≤ (x.ands.getD i default).2 ∧ (x.ands.getD i default).2 / 2 < firstAndL x.n + i := by
 have h1 := h.ands i hi
 unfold litP at h1
 exact ⟨h1.1.1, h1.1.2, h1.2.1, h1.2.2⟩
end Go.Xw
namespace Go.Proofs
open Go.Xw
set_option maxRecDepth 100000
set_option maxHeartbeats 1000000
attribute [local irreducible] Holds elemAddr
theorem implLevels_h (x : NetA) (w0 : World) (hX : NetR w0 x) (hok : NetOkP x.n) :
  Ret Tryz.prog 109 [x.v] w0 (fun v w => ∃ b c, v = .slice b (levelsL x.n).length c ∧ Hp w0 w [rO 3 1 eI b c (levelsL x.n)]) := by
 have hn := hok.nodes
 have hsz := hok.size'
 have hN : ((nodesL x.n).toNat : Int) = nodesL x.n := by omega
 refine enter Tryz.S109ok _ _ rfl rfl (by show _ ≤ _; simp only [List.length]; decide) (fun C => ?_); have hp := Hp.nil w0; refine h_run rfl ?_; skip; (first | refine H_box hp ?_ | refine H_alloc hp rfl ?_); intro w b1 hx hp; refine ops_run nopre rfl ?_; (repeat (refine H_ldB hp rfl rfl ?_))
 refine h_call rfl Tryz.func78 (by kernel_rfl) rfl (nodeCount_h x _ hok.b) ?_; rintro _ w ⟨rfl, hx⟩; have hp := hp.ext hx; refine ops_run nopre rfl ?_; skip
 rw [← hN]
 refine H_make hp eI 0 rfl rfl rfl rfl (s := 1) rfl (by decide) rfl (by unfold maxLen; omega) (by show 8 * _ ≤ _; omega) ?_; intro w b3 hx hp; refine ops_run nopre rfl ?_; (repeat (refine H_ldB hp rfl rfl ?_))
 refine h_loop [1, 3, 10, 11, 12] (fun (i : Nat) => [(1, .pointer (some ⟨b1, 0, none⟩)), (3, .slice (some ⟨b3, 0, none⟩) (nodesL x.n).toNat (nodesL x.n).toNat), (10, .slice x.aa x.ands.length x.ac), (11, .int .i64 x.ands.length), (12, .int .i64 (i : Int))])
  (fun i w' => i ≤ x.ands.length ∧ Hp w0 w' [rO 3 1 eI (some ⟨b3, 0, none⟩) (nodesL x.n).toNat (levelsTo x.n i), rB b1 31 x.cs]) (fun i => x.ands.length - i) 0 rfl ⟨by omega, hp⟩ ?_
 rintro i w1 ⟨hi, hp⟩ IH C
 have hlen := levelsTo_len x.n i
 refine h_run rfl ?_; skip
 refine h_cond_dec (fun hlt => ?_) (fun hlt => ?_)
 ·have hlt' : i < x.ands.length := by omega
  obtain ⟨q1, q2, q3, q4⟩ := hok.and_ hlt'
  have l1 := levelsTo_le x.n i ((x.ands.getD i default).1 / 2).toNat
  have l2 := levelsTo_le x.n i ((x.ands.getD i default).2 / 2).toNat
  refine h_cond_t rfl rfl ?_; (repeat (refine H_ldEN hp rfl (by omega) rfl rfl ?_))
  (first | refine H_box hp ?_ | refine H_alloc hp rfl ?_); intro w b5 hx hp; refine ops_run nopre rfl ?_; (repeat (refine U_stBN hp rfl rfl rfl rfl ?_; intro w hp; refine ops_run nopre rfl ?_))
  refine D_draw hp (by kernel_rfl) (by kernel_rfl) rfl rfl ?_; intro w hx hp; have hs := hp; (repeat (refine D_ldB rfl rfl rfl ?_))
  refine h_callq rfl Tryz.func55 (by kernel_rfl) rfl (firstAnd_h x _ hok.b) ?_; rintro _ w ⟨rfl, hx⟩; have hp := hp.ext hx; have hs := hs.ext hx; refine ⟨fun _ => hs, ?_⟩; refine D_ops rfl rfl ?_; (repeat (first | (refine gLoad ?_; first | refine D_ldB rfl rfl rfl ?_ | refine D_ldE rfl (by omega) (by omega) rfl rfl rfl ?_) | (refine gStore ?_; refine V_st0 hp rfl rfl rfl (by omega) (by decide) rfl rfl (by kernel_rfl) ?_; intro w hp; refine D_ops rfl rfl ?_)))
  exact IH (i + 1) _ _ _ (by omega) rfl ⟨by omega, hp.drop⟩
 ·refine h_cond_f rfl rfl ?_; (repeat (refine R_ret ?_))
  obtain rfl : i = x.ands.length := by omega
  refine ⟨some ⟨b3, 0, none⟩, (nodesL x.n).toNat, by rw [levelsL, levelsTo_len], hp.sub (by simp; exact .inl rfl)⟩
theorem specLevelsF_h (x : NetA) (w0 : World) (hX : NetR w0 x) (hS : NetS x.n) (hW : NetW x.n) :
  Ret Tryz.prog 103 [x.v] w0 (fun v w => ∃ b c, v = .slice b (ifOk x.n (levelsL x.n)).length c ∧ Hp w0 w [rO 3 1 eI b c (ifOk x.n (levelsL x.n))]) := by
 refine enter Tryz.S103ok _ _ rfl rfl (by show _ ≤ _; simp only [List.length]; decide) (fun C => ?_); have hp := Hp.nil w0; refine h_run rfl ?_; skip; (first | refine H_box hp ?_ | refine H_alloc hp rfl ?_); intro w b1 hx hp; refine ops_run nopre rfl ?_; (repeat (refine H_ldB hp rfl rfl ?_))
 by_cases hok : NetOkP x.n
 ·refine h_call rfl Tryz.func50 (by kernel_rfl) rfl ((specNetOk_h x _ hp.net hS hW).tt (netOkB_yes hok)) ?_; rintro _ w ⟨rfl, hx⟩; have hp := hp.ext hx; refine ops_run nopre rfl ?_; skip
  refine h_cond_f rfl rfl ?_; (repeat (refine H_ldB hp rfl rfl ?_))
  have hn := hok.nodes
  have hsz := hok.size'
  have hN : ((nodesL x.n).toNat : Int) = nodesL x.n := by omega
  refine h_call rfl Tryz.func62 (by kernel_rfl) rfl (specNodeCount_h x _) ?_; rintro _ w ⟨rfl, hx⟩; have hp := hp.ext hx; refine ops_run nopre rfl ?_; skip
  rw [show nodeCountL x.n = nodesL x.n from if_pos hok.size, ← hN]
  refine H_make hp eI 0 rfl rfl rfl rfl (s := 1) rfl (by decide) rfl (by unfold maxLen; omega) (by show 8 * _ ≤ _; omega) ?_; intro w b3 hx hp; refine ops_run nopre rfl ?_; skip
  refine h_loop [1, 3, 4] (fun (i : Nat) => [(1, .pointer (some ⟨b1, 0, none⟩)), (3, .slice (some ⟨b3, 0, none⟩) (nodesL x.n).toNat (nodesL x.n).toNat), (4, .int .i64 (i : Int))])
   (fun i w' => i ≤ x.ands.length ∧ Hp w0 w' [rO 3 1 eI (some ⟨b3, 0, none⟩) (nodesL x.n).toNat (levelsTo x.n i), rB b1 31 x.cs]) (fun i => x.ands.length - i) 0 rfl ⟨by omega, hp⟩ ?_
  rintro i w1 ⟨hi, hp⟩ IH C
  have hlen := levelsTo_len x.n i
  refine h_run rfl ?_; (repeat (refine H_ldB hp rfl rfl ?_))
  refine h_cond_dec (fun hlt => ?_) (fun hlt => ?_)
  ·have hlt' : i < x.ands.length := by omega
   obtain ⟨q1, q2, q3, q4⟩ := hok.and_ hlt'
   have l1 := levelsTo_le x.n i ((x.ands.getD i default).1 / 2).toNat
   have l2 := levelsTo_le x.n i ((x.ands.getD i default).2 / 2).toNat
   refine h_cond_t rfl rfl ?_; skip
   refine D_draw hp (by kernel_rfl) (by kernel_rfl) rfl rfl ?_; intro w hx hp; have hs := hp; (repeat (refine D_ldB rfl rfl rfl ?_))
   refine h_callq rfl Tryz.func24 (by kernel_rfl) rfl (l08First_h x _ hok.b) ?_; rintro _ w ⟨rfl, hx⟩; have hp := hp.ext hx; have hs := hs.ext hx; refine ⟨fun _ => hs, ?_⟩; refine D_ops rfl rfl ?_; (repeat (first | (refine gLoad ?_; first | refine D_ldB rfl rfl rfl ?_ | refine D_ldFN rfl (by omega) rfl rfl rfl ?_ | refine D_ldE rfl (by omega) (by omega) rfl rfl rfl ?_) | (refine gStore ?_; refine V_st0 hp rfl rfl rfl (by omega) (by decide) rfl rfl (by kernel_rfl) ?_; intro w hp; refine D_ops rfl rfl ?_)))
   exact IH (i + 1) _ _ _ (by omega) rfl ⟨by omega, hp⟩
  ·refine h_cond_f rfl rfl ?_; (repeat (refine R_ret ?_))
   obtain rfl : i = x.ands.length := by omega
   rw [ifOk_yes hok]
   refine ⟨some ⟨b3, 0, none⟩, (nodesL x.n).toNat, by rw [levelsL, levelsTo_len], hp.sub (by simp; exact .inl rfl)⟩
 ·refine h_call rfl Tryz.func50 (by kernel_rfl) rfl ((specNetOk_h x _ hp.net hS hW).ff (netOkB_no hok)) ?_; rintro _ w ⟨rfl, hx⟩; have hp := hp.ext hx; refine ops_run nopre rfl ?_; skip
  refine h_cond_t rfl rfl ?_; (repeat (first | (refine gBuild ?_; refine U_litI hp rfl rfl rfl rfl rfl rfl rfl rfl rfl rfl ?_; intro w _ hx hp; refine ops_run nopre rfl ?_) | refine R_ret ?_))
  rw [ifOk_no hok]
  exact ⟨_, _, rfl, hp.sub (by simp)⟩
theorem rootsP {x : NetA} (hok : NetOkP x.n) {i : Nat} (hi : i < (rootsL x.n).length) : 0 ≤ (rootsL x.n).getD i default ∧ (rootsL x.n).getD i default / 2 < nodesL x.n := by
 have := hok.roots i hi
 exact this
theorem rootsB {x : NetA} (hok : NetOkP x.n) : (rootsL x.n).length ≤ 100 := by
 rw [rootsL, x.slen]; exact hok.bound _ (Nat.le_refl _)
theorem implDepthF_h (x : NetA) (w0 : World) (hX : NetR w0 x) (hS : NetS x.n) :
  Ret Tryz.prog 60 [x.v] w0 (fun v w => v = .int .i64 (depthL x.n) ∧ Ext w0 w) := by
 refine enter Tryz.S60ok _ _ rfl rfl (by show _ ≤ _; simp only [List.length]; decide) (fun C => ?_); have hp := Hp.nil w0; refine h_run rfl ?_; skip; (first | refine H_box hp ?_ | refine H_alloc hp rfl ?_); intro w b1 hx hp; refine ops_run nopre rfl ?_; (repeat (refine H_ldB hp rfl rfl ?_))
 by_cases hok : NetOkP x.n
 ·refine h_call rfl Tryz.func53 (by kernel_rfl) rfl ((implNetOk_h x _ hp.net hS).tt (netOkB_yes hok)) ?_; rintro _ w ⟨rfl, hx⟩; have hp := hp.ext hx; refine ops_run nopre rfl ?_; skip
  refine h_cond_f rfl rfl ?_; (repeat (refine H_ldB hp rfl rfl ?_))
  have hd : depthL x.n = depthTo x.n (rootsL x.n).length := by rw [depthL, if_pos (netOkB_yes hok)]
  have hn := hok.nodes
  have hrB := rootsB hok
  have hlen := levelsTo_len x.n x.n.ands.length
  have hlen : (levelsL x.n).length = (nodesL x.n).toNat := hlen
  refine h_call rfl Tryz.func109 (by kernel_rfl) rfl (implLevels_h x _ hp.net hok) ?_; rintro _ w ⟨b3, c3, rfl, hq⟩; have hx := hq.x; have hp := hp.call1 hq; refine ops_run nopre rfl ?_; (repeat (refine H_ldB hp rfl rfl ?_))
  refine h_call rfl Tryz.func100 (by kernel_rfl) rfl (implRoots_ok x _ hp.net hok) ?_; rintro _ w ⟨b2, c2, rfl, hq⟩; have hx := hq.x; have hp := hp.call1 hq; refine ops_run nopre rfl ?_; skip
  refine h_loop [3, 4, 13, 14, 15] (fun (i : Nat) => [(3, .slice b3 (levelsL x.n).length c3), (4, .int .i64 (depthTo x.n i)), (13, .slice b2 (rootsL x.n).length c2), (14, .int .i64 (rootsL x.n).length), (15, .int .i64 (i : Int))])
   (fun i w' => i ≤ (rootsL x.n).length ∧ Hp w0 w' [rO 3 1 eI b2 c2 (rootsL x.n), rO 3 1 eI b3 c3 (levelsL x.n)]) (fun i => (rootsL x.n).length - i) 0 rfl ⟨by omega, hp.sub (by simp)⟩ ?_
  rintro i w1 ⟨hi, hp⟩ IH C
  refine h_run rfl ?_; skip
  refine h_cond_dec (fun hlt => ?_) (fun hlt => ?_)
  ·have hlt' : i < (rootsL x.n).length := by omega
   have hr := rootsP hok hlt'
   refine h_cond_t rfl rfl ?_; (repeat (refine gLoad ?_; first | refine H_ldEN hp rfl (by omega) rfl rfl ?_ | refine H_ldE hp rfl (by omega) (by omega) rfl rfl ?_))
   exact IH (i + 1) _ _ _ (by omega) rfl ⟨by omega, hp⟩
  ·refine h_cond_f rfl rfl ?_; (repeat (refine R_ret ?_))
   obtain rfl : i = (rootsL x.n).length := by omega
   exact ⟨by rw [hd], hp.x⟩
 ·refine h_call rfl Tryz.func53 (by kernel_rfl) rfl ((implNetOk_h x _ hp.net hS).ff (netOkB_no hok)) ?_; rintro _ w ⟨rfl, hx⟩; have hp := hp.ext hx; refine ops_run nopre rfl ?_; skip
  refine h_cond_t rfl rfl ?_; (repeat (refine R_ret ?_))
  exact ⟨by rw [depthL, if_neg (fun h => hok (netOkB_iff.1 h))], hp.x⟩
theorem specDepthF_h (x : NetA) (w0 : World) (hX : NetR w0 x) (hS : NetS x.n) (hW : NetW x.n) :
  Ret Tryz.prog 58 [x.v] w0 (fun v w => v = .int .i64 (depthL x.n) ∧ Ext w0 w) := by
 refine enter Tryz.S58ok _ _ rfl rfl (by show _ ≤ _; simp only [List.length]; decide) (fun C => ?_); have hp := Hp.nil w0; refine h_run rfl ?_; skip; (first | refine H_box hp ?_ | refine H_alloc hp rfl ?_); intro w b1 hx hp; refine ops_run nopre rfl ?_; (repeat (refine H_ldB hp rfl rfl ?_))
 by_cases hok : NetOkP x.n
 ·refine h_call rfl Tryz.func50 (by kernel_rfl) rfl ((specNetOk_h x _ hp.net hS hW).tt (netOkB_yes hok)) ?_; rintro _ w ⟨rfl, hx⟩; have hp := hp.ext hx; refine ops_run nopre rfl ?_; skip
  refine h_cond_f rfl rfl ?_; (repeat (refine H_ldB hp rfl rfl ?_))
  have hd : depthL x.n = depthTo x.n (rootsL x.n).length := by rw [depthL, if_pos (netOkB_yes hok)]
  have hn := hok.nodes
  have hrB := rootsB hok
  have hlen := levelsTo_len x.n x.n.ands.length
  have hlen : (levelsL x.n).length = (nodesL x.n).toNat := hlen
  refine h_call rfl Tryz.func103 (by kernel_rfl) rfl (specLevelsF_h x _ hp.net hS hW) ?_; rintro _ w ⟨b3, c3, rfl, hq⟩; have hx := hq.x; have hp := hp.call1 hq; refine ops_run nopre rfl ?_; (repeat (refine H_ldB hp rfl rfl ?_))
  rw [ifOk_yes hok]
  rw [ifOk_yes hok] at hp
  refine h_call rfl Tryz.func96 (by kernel_rfl) rfl (specRoots_ok x _ hp.net hok) ?_; rintro _ w ⟨b2, c2, rfl, hq⟩; have hx := hq.x; have hp := hp.call1 hq; refine ops_run nopre rfl ?_; skip
  refine h_loop [3, 4, 5, 6] (fun (i : Nat) => [(3, .slice b3 (levelsL x.n).length c3), (4, .slice b2 (rootsL x.n).length c2), (5, .int .i64 (depthTo x.n i)), (6, .int .i64 (i : Int))])
   (fun i w' => i ≤ (rootsL x.n).length ∧ Hp w0 w' [rO 3 1 eI b2 c2 (rootsL x.n), rO 3 1 eI b3 c3 (levelsL x.n)]) (fun i => (rootsL x.n).length - i) 0 rfl ⟨by omega, hp.sub (by simp)⟩ ?_
  rintro i w1 ⟨hi, hp⟩ IH C
  refine h_run rfl ?_; skip
  refine h_cond_dec (fun hlt => ?_) (fun hlt => ?_)
  ·have hlt' : i < (rootsL x.n).length := by omega
   have hr := rootsP hok hlt'
   refine h_cond_t rfl rfl ?_; (repeat (refine gLoad ?_; first | refine H_ldEN hp rfl (by omega) rfl rfl ?_ | refine H_ldE hp rfl (by omega) (by omega) rfl rfl ?_))
   exact IH (i + 1) _ _ _ (by omega) rfl ⟨by omega, hp⟩
  ·refine h_cond_f rfl rfl ?_; (repeat (refine R_ret ?_))
   obtain rfl : i = (rootsL x.n).length := by omega
   exact ⟨by rw [hd], hp.x⟩
 ·refine h_call rfl Tryz.func50 (by kernel_rfl) rfl ((specNetOk_h x _ hp.net hS hW).ff (netOkB_no hok)) ?_; rintro _ w ⟨rfl, hx⟩; have hp := hp.ext hx; refine ops_run nopre rfl ?_; skip
  refine h_cond_t rfl rfl ?_; (repeat (refine R_ret ?_))
  exact ⟨by rw [depthL, if_neg (fun h => hok (netOkB_iff.1 h))], hp.x⟩
end Go.Proofs
end
section
namespace Go.Proofs
open Go.Xw
set_option maxRecDepth 100000
theorem markNet_u {w0 w : World} {L : List Res} {x : NetA} {f : Res → List Res} (hp : Hp w0 w L) [hu : Upd L (rNet x) f] (k : Int) (hs : NetS x.n) (hk : 0 ≤ k) (hk2 : k < 1000000000000) :
  Ret Tryz.prog 13 [x.v, .int .i64 k] w (fun v w' => v = .int .i64 (kNet k x) ∧ Hp w0 w' (f (rNet (mNet k x)))) := by
 obtain ⟨M, h1, h2⟩ := hu.h
 exact (markNet_h (hp.perm h1) k hs hk hk2).mono fun _ _ ⟨q1, q2⟩ => ⟨q1, q2.perm (h2 _).symm⟩
theorem specDepth_x (x : NetA) (w0 : World) (hX : NetR w0 x) (hS : NetS x.n) (hW : NetW x.n) : Ret Tryz.prog 58 [x.v] w0 (fun v w => v = .int .i64 (depthL x.n) ∧ Ext w0 w) := specDepthF_h x w0 hX hS hW
theorem implDepth_x (x : NetA) (w0 : World) (hX : NetR w0 x) (hS : NetS x.n) (hW : NetW x.n) : Ret Tryz.prog 60 [x.v] w0 (fun v w => v = .int .i64 (depthL x.n) ∧ Ext w0 w) := implDepthF_h x w0 hX hS
theorem okOf {n : NetL} (h : netOkB n = true) : n.seqs.length ≤ 12 ∧ nodesL n ≤ 333 ∧ (rootsL n).length ≤ 100 := by
 have h := netOkB_iff.1 h
 have h1 := h.size
 have h2 := rootsTo_len (n := n) (i := n.seqs.length) fun j hj => h.seqs j hj
 unfold sizeOk at h1
 unfold nodesL rootsL
 omega
end Go.Proofs
end
