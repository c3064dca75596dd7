/- The law that the label of a node is certified by its cut, and that no enumerated cut is lower; no condition but the stated ones. -/
import Derived.Test.YtbjgekllkfnjnaaMergeLaw
import Derived.Test.YtbjgekllkfnjnaaLblCut
import Derived.Test.YtbjgekllkfnjnaaLblY
import Derived.Test.YtbjgekllkfnjnaaCut
import Derived.Test.YtbjgekllkfnjnaaEnumA
set_option linter.all false
namespace Go.Proofs
open Go.Xw
set_option maxRecDepth 100000
set_option maxHeartbeats 4000000
attribute [local irreducible] Holds elemAddr
theorem has_h (a : Option Addr) (c : Nat) (X : List Int) (z : Int) (w0 : World) (hR : Rd w0 a 1 eI X) (hl : X.length ≤ 1000000) :
  Ret Try.prog 16 [.slice a X.length c, .int .i64 z] w0 (fun v w => v = .bool (decide (z ∈ X)) ∧ Ext w0 w) := by
 refine enter Try.S16ok _ _ rfl rfl (by show _ ≤ _; simp only [List.length]; decide) (fun C => ?_); have hp := Hp.nil w0; refine h_run rfl ?_; skip
 refine h_loop [0, 1, 5] (fun (i : Nat) => [(0, .slice a X.length c), (1, .int .i64 z), (5, .int .i64 (i : Int))])
  (fun i w' => i ≤ X.length ∧ (∀ j, j < i → X.getD j default ≠ z) ∧ Hp w0 w' []) (fun i => X.length - i) 0 rfl ⟨by omega, fun j hj => by omega, hp⟩ ?_
 rintro i w1 ⟨hi, hall, hp⟩ IH C
 refine h_run rfl ?_; skip
 refine h_cond_dec (fun hlt => ?_) (fun hlt => ?_)
 ·have hlt' : i < X.length := by omega
  refine h_cond_t rfl rfl ?_; (repeat (refine H_ldEN hp rfl (by omega) rfl rfl ?_))
  refine h_cond_dec (fun he => ?_) (fun he => ?_)
  ·refine h_cond_t rfl rfl ?_; (repeat (refine R_ret ?_))
   rw [decide_eq_true (show z ∈ X by rw [← he]; exact getD_mem hlt')]
   exact ⟨rfl, hp.x⟩
  ·refine h_cond_f rfl rfl ?_; skip
   refine IH (i + 1) _ _ _ (by omega) rfl ⟨by omega, fun j hj => ?_, hp⟩
   by_cases hji : j = i
   ·subst hji; exact he
   ·exact hall j (by omega)
 ·refine h_cond_f rfl rfl ?_; (repeat (refine R_ret ?_))
  rw [decide_eq_false (fun hm => by
   obtain ⟨j, hj, he⟩ := List.getElem_of_mem hm
   refine hall j (by omega) ?_
   rw [List.getD_eq_getElem?_getD, List.getElem?_eq_getElem hj]
   exact he)]
  exact ⟨rfl, hp.x⟩
theorem implLabels_n (x : NetA) (w0 : World) (hX : NetR w0 x) (hS : NetS x.n) (hW : NetW x.n) (hok : NetOkP x.n) :
  Ret Try.prog 12 [x.v] w0 (fun v w => ∃ b c, v = .slice b (nds x.n) c ∧ Hp w0 w [rO 3 1 eI b c (lblL x.n)]) := by
 have h := implLabels_x x w0 hX hS hW
 rw [ifOk_yes hok, lb_len] at h
 exact h
theorem FnLabelCut_h (w0 : World) (a : Option Addr) (c : Nat) (code : List Int) (hR : Rd w0 a 1 eU8 code) (hM : code.length ≤ maxLen) (hB : AllB code) :
  Ret Try.prog 3 [.slice a code.length c] w0 (fun v w => v = .bool true ∧ Ext w0 w) := by
 have hM' : (code.length : Int) ≤ 9223372036854775807 := by unfold maxLen at hM; omega
 refine enter Try.S3ok _ _ rfl rfl (by show _ ≤ _; simp only [List.length]; decide) (fun C => ?_); have hp := Hp.nil w0; refine h_run rfl ?_; skip
 refine h_call rfl Try.func10 (by kernel_rfl) rfl (big_h a code.length c _) ?_; rintro _ w ⟨rfl, hx⟩; have hp := hp.ext hx; refine ops_run nopre rfl ?_; skip
 refine h_cond_dec (fun hbig => ?_) (fun hbig => ?_)
 ·refine h_cond_t rfl rfl ?_; (repeat (refine R_ret ?_))
  exact ⟨rfl, hp.x⟩
 ·refine h_cond_f rfl rfl ?_; skip
  refine h_call rfl Try.func11 (by kernel_rfl) rfl (DrawNode_h a c code _ hp.rd hB (by omega)) ?_; rintro _ w ⟨x, k, ⟨hok, hk, rfl⟩, hq⟩; have hx := hq.x; have hp := hp.call1 hq; refine ops_run nopre rfl ?_; skip
  (first | refine H_box hp ?_ | refine H_alloc hp rfl ?_); intro w b3 hx hp; refine ops_run nopre rfl ?_; (repeat (first | (refine gLoad ?_; refine H_ldB hp rfl rfl ?_) | (refine gStore ?_; refine U_stBN hp rfl rfl rfl rfl ?_; intro w hp; refine ops_run nopre rfl ?_)))
  have hn := hok.nums
  obtain ⟨n1, n2, n3, n4, n5, n6⟩ := hn
  have hn := hok.nums
  have hnd := hok.nodes
  have hsz := hok.size'
  have hal : x.n.ands.length = x.ands.length := rfl
  have hcnt : nodeCountL x.n = (nds x.n : Int) := by rw [nodeCountL, if_pos hok.size, n4]
  have hll := lb_len x.n
  have hlb := lb_i64 hok
  refine h_call rfl Try.func12 (by kernel_rfl) rfl (implLabels_n x _ (rNet_r (hp.take (rNet x))) hok.S' hok.W hok) ?_; rintro _ w ⟨bl, cl, rfl, hq⟩; have hx := hq.x; have hp := hp.call1 hq; refine ops_run nopre rfl ?_; skip
  refine D_draw hp (by kernel_rfl) (by kernel_rfl) rfl rfl ?_; intro w hx hp; have hs := hp; (repeat (refine D_ldB rfl rfl rfl ?_))
  refine h_callq rfl Try.func13 (by kernel_rfl) rfl (specNodeCount_h x _) ?_; rintro _ w ⟨rfl, hx⟩; have hp := hp.ext hx; have hs := hs.ext hx; refine ⟨fun _ => hs, ?_⟩; refine D_ops rfl rfl ?_; (repeat (refine D_ldB rfl rfl rfl ?_))
  rw [hcnt]
  (repeat (refine H_ldB hp rfl rfl ?_))
  refine h_call rfl Try.func13 (by kernel_rfl) rfl (specNodeCount_h x _) ?_; rintro _ w ⟨rfl, hx⟩; have hp := hp.ext hx; refine ops_run nopre rfl ?_; skip
  rw [hcnt]
  refine h_cond_dec (fun hg => False.elim (by omega)) (fun _ => ?_); refine h_cond_f rfl rfl ?_; skip
  refine h_cond_dec (fun hlf => ?_) (fun hlf => ?_)
  ·refine h_cond_t rfl rfl ?_; (repeat (first | (refine gLoad ?_; refine H_ldEN hp rfl (by omega) rfl rfl ?_) | refine R_ret ?_))
   have hL0 := (lbl_ok hn (k0 := nds x.n) (Nat.le_refl _)).leaf k (by omega)
   rw [hL0]
   exact ⟨rfl, hp.x⟩
  ·have hkf : fst_ x.n ≤ k := by omega
   obtain ⟨hc1, hc2, hc3⟩ := lct_cut hok hkf hk
   obtain ⟨S, z, hS, hS0, hS7, hz4, hSu⟩ := enum_lbl hok hkf hk
   have hcr : ∀ i, i < (lctF x.n (k : Int)).length → i64R ((lctF x.n (k : Int)).getD i default) := fun i hi => by
    obtain ⟨j, hj, he, _⟩ := coneL_in.1 (hc1.2.1 _ (getD_mem hi))
    unfold i64R; omega
   have hc4 := hc1.1.1
   refine h_cond_f rfl rfl ?_; (repeat (refine H_ldB hp rfl rfl ?_))
   refine h_call rfl Try.func14 (by kernel_rfl) rfl (implLabelCut_x x (k : Int) _ (rNet_r (hp.take (rNet x))) hok.S' hok.W (by unfold i64R; omega)) ?_; rintro _ w ⟨bc, cc, rfl, hq⟩; have hx := hq.x; have hp := hp.call1 hq; refine ops_run nopre rfl ?_; skip
   refine D_draw hp (by kernel_rfl) (by kernel_rfl) rfl rfl ?_; intro w hx hp; have hs := hp; (repeat (refine D_ldB rfl rfl rfl ?_))
   refine h_callq rfl Try.func15 (by kernel_rfl) rfl ((implCutOk_x x (k : Int) _ _ (lctF x.n (k : Int)) _ (rNet_r (hp.take (rNet x))) hok.S' hok.W (by unfold i64R; omega) hp.rd (by omega) hcr).tt (cutOkB_yes ⟨hok, ⟨by omega, by omega⟩, by rw [Int.toNat_natCast]; exact hc1⟩)) ?_; rintro _ w ⟨rfl, hx⟩; have hp := hp.ext hx; have hs := hs.ext hx; refine ⟨fun _ => hs, ?_⟩; refine D_ops rfl rfl ?_; (repeat (refine h_guard_yd rfl rfl rfl ?_))
   skip
   refine h_callq rfl Try.func16 (by kernel_rfl) rfl ((has_h _ _ (lctF x.n (k : Int)) (k : Int) _ hp.rd (by omega)).ff (decide_eq_false hc2)) ?_; rintro _ w ⟨rfl, hx⟩; have hp := hp.ext hx; have hs := hs.ext hx; refine ⟨fun _ => hs, ?_⟩; refine D_ops rfl rfl ?_; (repeat (first | (refine gGuard ?_; refine h_guard_yd rfl rfl rfl ?_) | (refine gLoad ?_; refine D_ldB rfl rfl rfl ?_)))
   skip
   refine h_callq rfl Try.func17 (by kernel_rfl) rfl (implCutHeight_y x _ _ (lctF x.n (k : Int)) _ (rNet_r (hp.take (rNet x))) hok.S' hok.W hp.rd (by omega) hcr) ?_; rintro _ w ⟨rfl, hx⟩; have hp := hp.ext hx; have hs := hs.ext hx; refine ⟨fun _ => hs, ?_⟩; refine D_ops rfl rfl ?_; (repeat (first | (refine gGuard ?_; refine h_guard_yd rfl rfl rfl ?_) | (refine gLoad ?_; refine D_ldEN rfl (by omega) rfl rfl rfl ?_)))
   rw [hc3]
   skip
   refine h_cond_dec (fun hg => False.elim (by omega)) (fun _ => ?_); refine h_cond_f rfl rfl ?_; (repeat (refine H_ldB hp rfl rfl ?_))
   refine h_call rfl Try.func18 (by kernel_rfl) rfl (implEnumCuts_x x (k : Int) _ (rNet_r (hp.take (rNet x))) hok.S' hok.W (by unfold i64R; omega)) ?_; rintro _ w ⟨bR, cR, R, ⟨rfl, hRe⟩, hq⟩; have hx := hq.x; have hp := hp.call2 hq; refine ops_run nopre rfl ?_; skip
   rw [enumF_yes ⟨hok, by omega, by omega⟩, show ((k : Nat) : Int).toNat = k by omega, hS] at hRe
   have hRl : R.length = S.length + 1 := by rw [← insOf_len, hRe, List.length_append]; rfl
   have hget : ∀ i, i < S.length → (R.getD i default).ins ∈ S := fun i hi => by
    rw [← insOf_get, hRe, snoc_lt hi]; exact getD_mem hi
   have hp : Hp w0 _ [rO 26 1 eRo bR cR R, rRows 3 1 eI R, rO 3 1 eI bc cc (lctF x.n (k : Int)), rO 3 1 eI bl cl (lblL x.n), rB b3 28 x.cs, rNet x] := hp
   have hp := (hp.f5.f5.f5.f4.f4.f5).drop
   refine h_loop [3, 4, 5, 8, 9] (fun (i : Nat) => [(3, .pointer (some ⟨b3, 0, none⟩)), (4, .int .i64 (k : Int)), (5, .slice bl (nds x.n) cl), (8, .slice bR R.length cR), (9, .int .i64 (i : Int))])
    (fun i w' => i ≤ S.length ∧ Hp w0 w' [rO 26 1 eRo bR cR R, rRows 3 1 eI R, rO 3 1 eI bl cl (lblL x.n), rB b3 28 x.cs, rNet x]) (fun i => S.length - i) 0 rfl ⟨by omega, hp⟩ ?_
   clear hp
   rintro i w1 ⟨hi, hp⟩ IH C
   have hrow : ∀ q, q < R.length → RdH w0 [rO 26 1 eRo bR cR R, rRows 3 1 eI R, rO 3 1 eI bl cl (lblL x.n), rB b3 28 x.cs, rNet x] (R.getD q default).ia 1 eI (R.getD q default).ins := fun q hq => RowsH.mem_ inferInstance (getD_memR hq)
   refine h_run rfl ?_; skip
   refine h_cond_dec (fun hlt => ?_) (fun hlt => ?_)
   ·have hlt' : i < S.length := by omega
    have hri := hrow i (by omega)
    obtain ⟨hu4, hul, hur⟩ := hSu _ (hget i hlt')
    have hlk := hlb k
    refine h_cond_t rfl rfl ?_; skip
    refine D_draw hp (by kernel_rfl) (by kernel_rfl) rfl rfl ?_; intro w hx hp; have hs := hp; (repeat (refine gLoad ?_; first | refine D_ldB rfl rfl rfl ?_ | refine D_ldEN rfl (by omega) rfl rfl rfl ?_))
    refine h_callq rfl Try.func17 (by kernel_rfl) rfl (implCutHeight_y x _ _ (R.getD i default).ins _ (rNet_r (hp.take (rNet x))) hok.S' hok.W hp.rd (by omega) (fun j hj => by have := hur _ (getD_mem hj); unfold i64R; omega)) ?_; rintro _ w ⟨rfl, hx⟩; have hp := hp.ext hx; have hs := hs.ext hx; refine ⟨fun _ => hs, ?_⟩; refine D_ops rfl rfl ?_; (repeat (refine D_ldEN rfl (by omega) rfl rfl rfl ?_))
    skip
    refine h_cond_dec (fun hg => False.elim (by omega)) (fun _ => ?_); refine h_cond_f rfl rfl ?_; skip
    exact IH (i + 1) _ _ _ (by omega) rfl ⟨by omega, hp⟩
   ·refine h_cond_f rfl rfl ?_; (repeat (refine R_ret ?_))
    rw [decide_eq_true (show (1 : Int) < (R.length : Int) by omega)]
    exact ⟨rfl, hp.x⟩
end Go.Proofs
