/- Texts that belong together; each under its stated conditions. -/
import Derived.Test.YtiepmliokblkjaaGreatNet
set_option linter.all false
section
namespace Go.Proofs
open Go.Xw
set_option maxRecDepth 100000
set_option maxHeartbeats 1000000
attribute [local irreducible] Holds elemAddr
theorem nodeCount_h (x : NetA) (w0 : World) (hb : NetB x) : Ret Tryz.prog 128 [x.v] w0 (fun v w' => v = .int .i64 (nodesL x.n) ∧ Ext w0 w') := by
 obtain ⟨h1, h2, h3⟩ := hb
 rw [nodesL_eq]
 refine enter Tryz.S128ok _ _ rfl rfl (by show _ ≤ _; simp only [List.length]; decide) (fun C => ?_); have hp := Hp.nil w0; refine h_run rfl ?_; skip; (first | refine H_box hp ?_ | refine H_alloc hp rfl ?_); intro w b1 hx hp; refine ops_run nopre rfl ?_; (repeat (first | (refine gLoad ?_; refine H_ldB hp rfl rfl ?_) | refine R_ret ?_))
 exact ⟨rfl, hp.x⟩
theorem firstAnd_h (x : NetA) (w0 : World) (hb : NetB x) : Ret Tryz.prog 70 [x.v] w0 (fun v w' => v = .int .i64 (firstAndL x.n) ∧ Ext w0 w') := by
 obtain ⟨h1, h2, h3⟩ := hb
 rw [firstAndL_eq]
 refine enter Tryz.S70ok _ _ rfl rfl (by show _ ≤ _; simp only [List.length]; decide) (fun C => ?_); have hp := Hp.nil w0; refine h_run rfl ?_; skip; (first | refine H_box hp ?_ | refine H_alloc hp rfl ?_); intro w b1 hx hp; refine ops_run nopre rfl ?_; (repeat (first | (refine gLoad ?_; refine H_ldB hp rfl rfl ?_) | refine R_ret ?_))
 exact ⟨rfl, hp.x⟩
theorem l08First_h (x : NetA) (w0 : World) (hb : NetB x) : Ret Tryz.prog 137 [x.v] w0 (fun v w' => v = .int .i64 (firstAndL x.n) ∧ Ext w0 w') := by
 obtain ⟨h1, h2, h3⟩ := hb
 rw [firstAndL_eq]
 refine enter Tryz.S137ok _ _ rfl rfl (by show _ ≤ _; simp only [List.length]; decide) (fun C => ?_); have hp := Hp.nil w0; refine h_run rfl ?_; skip; (first | refine H_box hp ?_ | refine H_alloc hp rfl ?_); intro w b1 hx hp; refine ops_run nopre rfl ?_; (repeat (first | (refine gLoad ?_; refine H_ldB hp rfl rfl ?_) | refine R_ret ?_))
 exact ⟨rfl, hp.x⟩
theorem specNodeCount_h (x : NetA) (w0 : World) : Ret Tryz.prog 82 [x.v] w0 (fun v w' => v = .int .i64 (nodeCountL x.n) ∧ Ext w0 w') := by
 have hs := sizeOk_iff x
 have hnd := nodesL_eq x
 refine enter Tryz.S82ok _ _ rfl rfl (by show _ ≤ _; simp only [List.length]; decide) (fun C => ?_); have hp := Hp.nil w0; refine h_run rfl ?_; skip; (first | refine H_box hp ?_ | refine H_alloc hp rfl ?_); intro w b1 hx hp; refine ops_run nopre rfl ?_; (repeat (refine H_ldB hp rfl rfl ?_))
 by_cases h1 : 0 ≤ x.inputs ∧ x.inputs ≤ 20
 ·refine h_call rfl Tryz.func79 (by kernel_rfl) rfl ((l01In_h x.inputs 0 20 _).yes h1) ?_; rintro _ w ⟨rfl, hx⟩; have hp := hp.ext hx; refine ops_run nopre rfl ?_; (repeat (first | (refine gGuard ?_; refine h_guard_y rfl nopre rfl ?_) | (refine gLoad ?_; refine H_ldB hp rfl rfl ?_)))
  refine h_guard_by (fun h2 => ?_) (fun h2 => ?_); all_goals (rw [h2]; (first | replace h2 := of_decide_eq_true h2 | replace h2 := of_decide_eq_false h2 | skip); (repeat (first | (refine gGuard ?_; first | refine h_guard_y rfl nopre rfl ?_ | refine h_guard_n rfl nopre rfl ?_) | (refine gLoad ?_; refine H_ldB hp rfl rfl ?_))))
  ·refine h_cond_t rfl rfl ?_; (repeat (refine R_ret ?_))
   exact ⟨by rw [nodeCountL, if_neg (fun hh => by have := hs.1 hh; omega)], hp.x⟩
  ·refine h_guard_by (fun h3 => ?_) (fun h3 => ?_); all_goals (rw [h3]; (first | replace h3 := of_decide_eq_true h3 | replace h3 := of_decide_eq_false h3 | skip); (repeat (first | (refine gGuard ?_; first | refine h_guard_y rfl nopre rfl ?_ | refine h_guard_n rfl nopre rfl ?_) | (refine gLoad ?_; refine H_ldB hp rfl rfl ?_))))
   ·refine h_cond_t rfl rfl ?_; (repeat (refine R_ret ?_))
    exact ⟨by rw [nodeCountL, if_neg (fun hh => by have := hs.1 hh; omega)], hp.x⟩
   ·refine h_cond_dec (fun h4 => ?_) (fun h4 => ?_)
    ·refine h_cond_t rfl rfl ?_; (repeat (refine R_ret ?_))
     exact ⟨by rw [nodeCountL, if_neg (fun hh => by have := hs.1 hh; omega)], hp.x⟩
    ·have hok : sizeOk x.n := hs.2 ⟨h1, by omega, by omega, by omega⟩
     refine h_cond_f rfl rfl ?_; (repeat (first | (refine gLoad ?_; refine H_ldB hp rfl rfl ?_) | refine R_ret ?_))
     exact ⟨by rw [nodeCountL, if_pos hok, hnd], hp.x⟩
 ·refine h_call rfl Tryz.func79 (by kernel_rfl) rfl ((l01In_h x.inputs 0 20 _).no h1) ?_; rintro _ w ⟨rfl, hx⟩; have hp := hp.ext hx; refine ops_run nopre rfl ?_; (repeat (refine h_guard_n rfl nopre rfl ?_))
  refine h_cond_t rfl rfl ?_; (repeat (refine R_ret ?_))
  exact ⟨by rw [nodeCountL, if_neg (fun hh => by have := hs.1 hh; omega)], hp.x⟩
theorem copyInts_h (a : Option Addr) (c : Nat) (xs : List Int) (w0 : World) (ha : Rd w0 a 1 eI xs) (hl : xs.length ≤ 100000000) :
  Ret Tryz.prog 163 [.slice a xs.length c] w0 (fun v w => ∃ b c, v = .slice b xs.length c ∧ Hp w0 w [rO 3 1 eI b c xs]) := by
 refine enter Tryz.S163ok _ _ rfl rfl (by show _ ≤ _; simp only [List.length]; decide) (fun C => ?_); have hp := Hp.nil w0; refine h_run rfl ?_; (repeat (refine U_litI hp rfl rfl rfl rfl rfl rfl rfl rfl rfl rfl ?_; intro w _ hx hp; refine ops_run nopre rfl ?_))
 refine U_append hp rfl rfl rfl rfl rfl rfl rfl (by decide) rfl (by first | omega | (simp only [List.length_append, List.length_cons, List.length_nil, List.length_take, List.length_drop, List.length_set, List.length_replicate, List.length_map]; omega)) rfl rfl ?_; intro b c w hp hnil; refine ops_run nopre rfl ?_; (repeat (refine R_ret ?_))
 exact ⟨b, c, rfl, hp⟩
theorem implRoots_h (x : NetA) (w0 : World) (hX : NetR w0 x) (hn : x.seqs.length ≤ 1000000000) (hl : ∀ i, i ≤ x.seqs.length → (rootsTo x.n i).length ≤ 100000000) :
  Ret Tryz.prog 127 [x.v] w0 (fun v w => ∃ b c, v = .slice b (rootsL x.n).length c ∧ Hp w0 w [rO 3 1 eI b c (rootsL x.n)]) := by
 have h0 := hl 0 (by omega)
 simp only [rootsTo] at h0
 have h0 : x.outs.length ≤ 100000000 := h0
 refine enter Tryz.S127ok _ _ rfl rfl (by show _ ≤ _; simp only [List.length]; decide) (fun C => ?_); have hp := Hp.nil w0; refine h_run rfl ?_; skip; (first | refine H_box hp ?_ | refine H_alloc hp rfl ?_); intro w b1 hx hp; refine ops_run nopre rfl ?_; (repeat (refine H_ldB hp rfl rfl ?_))
 refine h_call rfl Tryz.func163 (by kernel_rfl) rfl (copyInts_h _ _ x.outs _ hp.rd (by omega)) ?_; rintro _ w ⟨a3, c3, rfl, hq⟩; have hx := hq.x; have hp := hp.call1 hq; refine ops_run nopre rfl ?_; (repeat (refine H_ldB hp rfl rfl ?_))
 refine h_loop3 [3, 10, 11, 12] (fun (i : Nat) (a : Option Addr) (c : Nat) => [(3, .slice a (rootsTo x.n i).length c), (10, .slice x.sa x.seqs.length x.sc), (11, .int .i64 x.seqs.length), (12, .int .i64 (i : Int))])
  (fun i a c w' => i ≤ x.seqs.length ∧ Hp w0 w' [rO 3 1 eI a c (rootsTo x.n i)]) (fun i _ _ => x.seqs.length - i) 0 a3 c3 rfl ⟨by omega, hp.sub (by simp; exact .inl rfl)⟩ ?_
 rintro i a c w1 ⟨hi, hp⟩ IH C
 refine h_run rfl ?_; skip
 refine h_cond_dec (fun hlt => ?_) (fun hlt => ?_)
 ·have hlt' : i < x.seqs.length := by omega
  have hl1 := hl (i + 1) (by omega)
  simp only [rootsTo, List.length_append, x.sins] at hl1
  have hin := hX.seqs.at_ hlt'
  refine h_cond_t rfl rfl ?_; (repeat (refine H_ldEN hp rfl (by omega) rfl rfl ?_))
  (first | refine H_box hp ?_ | refine H_alloc hp rfl ?_); intro w b5 hx hp; refine ops_run nopre rfl ?_; (repeat (first | (refine gLoad ?_; refine H_ldB hp rfl rfl ?_) | (refine gStore ?_; refine U_stBN hp rfl rfl rfl rfl ?_; intro w hp; refine ops_run nopre rfl ?_)))
  refine U_append hp rfl rfl rfl rfl rfl rfl rfl (by decide) rfl (by first | omega | (simp only [List.length_append, List.length_cons, List.length_nil, List.length_take, List.length_drop, List.length_set, List.length_replicate, List.length_map]; omega)) rfl rfl ?_; intro a' c' w hp hnil; refine ops_run nopre rfl ?_; skip
  refine IH (i + 1) a' c' _ _ _ (by omega) (by rw [show rootsTo x.n (i + 1) = rootsTo x.n i ++ (x.seqs.getD i default).ins by rw [rootsTo, x.sins]]; rfl) ⟨by omega, ?_⟩
  rw [show rootsTo x.n (i + 1) = rootsTo x.n i ++ (x.seqs.getD i default).ins by rw [rootsTo, x.sins]]
  exact hp.drop
 ·refine h_cond_f rfl rfl ?_; (repeat (refine R_ret ?_))
  obtain rfl : i = x.seqs.length := by omega
  exact ⟨a, c, by rw [rootsL, x.slen], by rw [rootsL, x.slen]; exact hp⟩
theorem specRoots_h (x : NetA) (w0 : World) (hX : NetR w0 x) (hn : x.seqs.length ≤ 1000000000) (hl : ∀ i, i ≤ x.seqs.length → (rootsTo x.n i).length ≤ 100000000) :
  Ret Tryz.prog 136 [x.v] w0 (fun v w => ∃ b c, v = .slice b (rootsL x.n).length c ∧ Hp w0 w [rO 3 1 eI b c (rootsL x.n)]) := by
 have h0 := hl 0 (by omega)
 simp only [rootsTo] at h0
 have h0 : x.outs.length ≤ 100000000 := h0
 refine enter Tryz.S136ok _ _ rfl rfl (by show _ ≤ _; simp only [List.length]; decide) (fun C => ?_); have hp := Hp.nil w0; refine h_run rfl ?_; skip; (first | refine H_box hp ?_ | refine H_alloc hp rfl ?_); intro w b1 hx hp; refine ops_run nopre rfl ?_; (repeat (first | (refine gLoad ?_; refine H_ldB hp rfl rfl ?_) | (refine gBuild ?_; refine U_litI hp rfl rfl rfl rfl rfl rfl rfl rfl rfl rfl ?_; intro w _ hx hp; refine ops_run nopre rfl ?_)))
 refine U_append hp rfl rfl rfl rfl rfl rfl rfl (by decide) rfl (by first | omega | (simp only [List.length_append, List.length_cons, List.length_nil, List.length_take, List.length_drop, List.length_set, List.length_replicate, List.length_map]; omega)) rfl rfl ?_; intro a3 c3 w hp hnil; refine ops_run nopre rfl ?_; skip
 refine h_loop3 [1, 3, 4] (fun (i : Nat) (a : Option Addr) (c : Nat) => [(1, .pointer (some ⟨b1, 0, none⟩)), (3, .slice a (rootsTo x.n i).length c), (4, .int .i64 (i : Int))])
  (fun i a c w' => i ≤ x.seqs.length ∧ Hp w0 w' [rO 3 1 eI a c (rootsTo x.n i), rB b1 33 x.cs]) (fun i _ _ => x.seqs.length - i) 0 a3 c3 rfl ⟨by omega, hp⟩ ?_
 rintro i a c w1 ⟨hi, hp⟩ IH C
 refine h_run rfl ?_; (repeat (refine H_ldB hp rfl rfl ?_))
 refine h_cond_dec (fun hlt => ?_) (fun hlt => ?_)
 ·have hlt' : i < x.seqs.length := by omega
  have hl1 := hl (i + 1) (by omega)
  simp only [rootsTo, List.length_append, x.sins] at hl1
  have hin := hX.seqs.at_ hlt'
  refine h_cond_t rfl rfl ?_; (repeat (refine gLoad ?_; first | refine H_ldB hp rfl rfl ?_ | refine H_ldFN hp rfl (by omega) rfl rfl ?_))
  refine U_append hp rfl rfl rfl rfl rfl rfl rfl (by decide) rfl (by first | omega | (simp only [List.length_append, List.length_cons, List.length_nil, List.length_take, List.length_drop, List.length_set, List.length_replicate, List.length_map]; omega)) rfl rfl ?_; intro a' c' w hp hnil; refine ops_run nopre rfl ?_; skip
  refine IH (i + 1) a' c' _ _ _ (by omega) (by rw [show rootsTo x.n (i + 1) = rootsTo x.n i ++ (x.seqs.getD i default).ins by rw [rootsTo, x.sins]]; rfl) ⟨by omega, ?_⟩
  rw [show rootsTo x.n (i + 1) = rootsTo x.n i ++ (x.seqs.getD i default).ins by rw [rootsTo, x.sins]]
  exact hp
 ·refine h_cond_f rfl rfl ?_; (repeat (refine R_ret ?_))
  obtain rfl : i = x.seqs.length := by omega
  exact ⟨a, c, by rw [rootsL, x.slen], by rw [rootsL, x.slen]; exact hp.sub (by simp)⟩
theorem implRoots_ok (x : NetA) (w0 : World) (hX : NetR w0 x) (hok : NetOkP x.n) :
  Ret Tryz.prog 127 [x.v] w0 (fun v w => ∃ b c, v = .slice b (rootsL x.n).length c ∧ Hp w0 w [rO 3 1 eI b c (rootsL x.n)]) :=
 implRoots_h x w0 hX (by have := hok.size'; omega) fun i hi => by have := hok.bound i hi; omega
theorem specRoots_ok (x : NetA) (w0 : World) (hX : NetR w0 x) (hok : NetOkP x.n) :
  Ret Tryz.prog 136 [x.v] w0 (fun v w => ∃ b c, v = .slice b (rootsL x.n).length c ∧ Hp w0 w [rO 3 1 eI b c (rootsL x.n)]) :=
 specRoots_h x w0 hX (by have := hok.size'; omega) fun i hi => by have := hok.bound i hi; omega
theorem l08Lit_h (x k : Int) (w0 : World) (hx : i64R x) : Ret Tryz.prog 81 [.int .i64 x, .int .i64 k] w0 (fun v w' => v = .bool (decide (litP x k)) ∧ Ext w0 w') := by
 unfold i64R at hx
 refine enter Tryz.S81ok _ _ rfl rfl (by show _ ≤ _; simp only [List.length]; decide) (fun C => ?_); have hp := Hp.nil w0; refine h_run rfl ?_; skip
 refine h_guard_by (fun h => ?_) (fun h => ?_); all_goals (rw [h]; (first | replace h := of_decide_eq_true h | replace h := of_decide_eq_false h | skip); (repeat (first | (refine gGuard ?_; first | refine h_guard_y rfl nopre rfl ?_ | refine h_guard_n rfl nopre rfl ?_) | refine R_ret ?_)))
 ·exact ⟨by simp [litP, h], hp.x⟩
 ·exact ⟨by simp [litP, h], hp.x⟩
theorem rootsTo_R {n : NetL} (hW : NetW n) : ∀ m, m ≤ n.seqs.length → ∀ i, i < (rootsTo n m).length → i64R ((rootsTo n m).getD i default)
 | 0, _, i, hi => hW.outs i hi
 | m + 1, hm, i, hi => by
  have ih := rootsTo_R hW m (by omega)
  simp only [rootsTo, List.length_append] at hi
  simp only [rootsTo, List.getD_eq_getElem?_getD]
  rcases Nat.lt_or_ge i (rootsTo n m).length with h | h
  ·rw [List.getElem?_append_left h]
   have := ih i h
   rwa [List.getD_eq_getElem?_getD] at this
  ·rw [List.getElem?_append_right h]
   have := hW.ins m (by omega) (i - (rootsTo n m).length) (by omega)
   rwa [List.getD_eq_getElem?_getD] at this
theorem specNetOk_h (x : NetA) (w0 : World) (hX : NetR w0 x) (hS : NetS x.n) (hW : NetW x.n) : Ret Tryz.prog 77 [x.v] w0 (fun v w' => v = .bool (netOkB x.n) ∧ Ext w0 w') := by
 have hk := sizeOk_iff x
 have hnd := nodesL_eq x
 have hfd := firstAndL_eq x
 refine enter Tryz.S77ok _ _ rfl rfl (by show _ ≤ _; simp only [List.length]; decide) (fun C => ?_); have hp := Hp.nil w0; refine h_run rfl ?_; skip; (first | refine H_box hp ?_ | refine H_alloc hp rfl ?_); intro w b1 hx hp; refine ops_run nopre rfl ?_; (repeat (refine H_ldB hp rfl rfl ?_))
 refine h_call rfl Tryz.func82 (by kernel_rfl) rfl (specNodeCount_h x _) ?_; rintro _ w ⟨rfl, hx⟩; have hp := hp.ext hx; refine ops_run nopre rfl ?_; skip
 refine h_cond_dec (fun h0 => ?_) (fun h0 => ?_)
 ·refine h_cond_t rfl rfl ?_; (repeat (refine R_ret ?_))
  have hno : ¬ NetOkP x.n := fun h => by have := nodeCountL_ne.2 h.size; exact this h0
  exact ⟨by rw [netOkB_no hno], hp.x⟩
 ·have hsz := nodeCountL_ne.1 h0
  have hs1 := hk.1 hsz
  have hcnt : nodeCountL x.n = nodesL x.n := if_pos hsz
  rw [hcnt]
  refine h_cond_f rfl rfl ?_; skip
  refine h_loop [1, 3, 4] (fun (i : Nat) => [(1, .pointer (some ⟨b1, 0, none⟩)), (3, .int .i64 (nodesL x.n)), (4, .int .i64 (i : Int))])
   (fun i w' => i ≤ x.seqs.length ∧ (∀ j, j < i → seqOkP (x.seqs.getD j default).s) ∧ Hp w0 w' [rB b1 33 x.cs]) (fun i => x.seqs.length - i) 0 rfl ⟨by omega, fun j hj => by omega, hp⟩ ?_
  rintro i w1 ⟨hi, hall, hp⟩ IH C
  refine h_run rfl ?_; (repeat (refine H_ldB hp rfl rfl ?_))
  refine h_cond_dec (fun hlt => ?_) (fun hlt => ?_)
  ·have hlt' : i < x.seqs.length := by omega
   have hkey : seqOkP (x.seqs.getD i default).s ↔ ((x.seqs.getD i default).kind = 0 ∧ (0 ≤ (x.seqs.getD i default).init ∧ (x.seqs.getD i default).init ≤ 1) ∧ (x.seqs.getD i default).ins.length = 1) ∨ ((x.seqs.getD i default).kind = 1 ∧ (0 ≤ (x.seqs.getD i default).init ∧ (x.seqs.getD i default).init ≤ 31) ∧ (x.seqs.getD i default).ins.length = 4) := .rfl
   refine h_cond_t rfl rfl ?_; (repeat (refine gLoad ?_; first | refine H_ldB hp rfl rfl ?_ | refine H_ldEN hp rfl (by omega) rfl rfl ?_))
   (first | refine H_box hp ?_ | refine H_alloc hp rfl ?_); intro w b5 hx hp; refine ops_run nopre rfl ?_; (repeat (first | (refine gLoad ?_; refine H_ldB hp rfl rfl ?_) | (refine gStore ?_; refine U_stBN hp rfl rfl rfl rfl ?_; intro w hp; refine ops_run nopre rfl ?_)))
   refine h_guard_by (fun h1 => ?_) (fun h1 => ?_); all_goals (rw [h1]; (first | replace h1 := of_decide_eq_true h1 | replace h1 := of_decide_eq_false h1 | skip); (repeat (first | (refine gGuard ?_; first | refine h_guard_y rfl nopre rfl ?_ | refine h_guard_n rfl nopre rfl ?_) | (refine gLoad ?_; refine H_ldB hp rfl rfl ?_))))
   ·by_cases h2 : 0 ≤ (x.seqs.getD i default).init ∧ (x.seqs.getD i default).init ≤ 1
    ·refine h_call rfl Tryz.func79 (by kernel_rfl) rfl ((l01In_h _ 0 1 _).yes h2) ?_; rintro _ w ⟨rfl, hx⟩; have hp := hp.ext hx; refine ops_run nopre rfl ?_; (repeat (first | (refine gGuard ?_; refine h_guard_y rfl nopre rfl ?_) | (refine gLoad ?_; refine H_ldB hp rfl rfl ?_)))
     refine h_guard_by (fun h3 => ?_) (fun h3 => ?_); all_goals (rw [h3]; (first | replace h3 := of_decide_eq_true h3 | replace h3 := of_decide_eq_false h3 | skip); (repeat (first | (refine gGuard ?_; first | refine h_guard_y rfl nopre rfl ?_ | refine h_guard_n rfl nopre rfl ?_) | (refine gLoad ?_; refine H_ldB hp rfl rfl ?_))))
     ·refine h_cond_f rfl rfl ?_; skip
      refine IH (i + 1) _ _ _ (by omega) rfl ⟨by omega, fun j hj => ?_, hp.drop⟩
      by_cases hj2 : j < i
      ·exact hall j hj2
      ·obtain rfl : j = i := by omega
       exact hkey.2 (by omega)
     ·refine h_guard_by (fun h4 => ?_) (fun h4 => ?_); all_goals (rw [h4]; (first | replace h4 := of_decide_eq_true h4 | replace h4 := of_decide_eq_false h4 | skip); (repeat (first | (refine gGuard ?_; first | refine h_guard_y rfl nopre rfl ?_ | refine h_guard_n rfl nopre rfl ?_) | (refine gLoad ?_; refine H_ldB hp rfl rfl ?_))))
      ·exact absurd h1 (by omega)
      ·refine h_cond_t rfl rfl ?_; (repeat (refine R_ret ?_))
       have hno : ¬ NetOkP x.n := fun h => by have := h.seqs i (by rw [x.slen]; exact hlt'); rw [x.sget] at this; replace this := hkey.1 this; omega
       exact ⟨by rw [netOkB_no hno], hp.x⟩
    ·refine h_call rfl Tryz.func79 (by kernel_rfl) rfl ((l01In_h _ 0 1 _).no h2) ?_; rintro _ w ⟨rfl, hx⟩; have hp := hp.ext hx; refine ops_run nopre rfl ?_; (repeat (first | (refine gGuard ?_; first | refine h_guard_y rfl nopre rfl ?_ | refine h_guard_n rfl nopre rfl ?_) | (refine gLoad ?_; refine H_ldB hp rfl rfl ?_)))
     refine h_guard_by (fun h4 => ?_) (fun h4 => ?_); all_goals (rw [h4]; (first | replace h4 := of_decide_eq_true h4 | replace h4 := of_decide_eq_false h4 | skip); (repeat (first | (refine gGuard ?_; first | refine h_guard_y rfl nopre rfl ?_ | refine h_guard_n rfl nopre rfl ?_) | (refine gLoad ?_; refine H_ldB hp rfl rfl ?_))))
     ·exact absurd h1 (by omega)
     ·refine h_cond_t rfl rfl ?_; (repeat (refine R_ret ?_))
      have hno : ¬ NetOkP x.n := fun h => by have := h.seqs i (by rw [x.slen]; exact hlt'); rw [x.sget] at this; replace this := hkey.1 this; omega
      exact ⟨by rw [netOkB_no hno], hp.x⟩
   ·refine h_guard_by (fun h4 => ?_) (fun h4 => ?_); all_goals (rw [h4]; (first | replace h4 := of_decide_eq_true h4 | replace h4 := of_decide_eq_false h4 | skip); (repeat (first | (refine gGuard ?_; first | refine h_guard_y rfl nopre rfl ?_ | refine h_guard_n rfl nopre rfl ?_) | (refine gLoad ?_; refine H_ldB hp rfl rfl ?_))))
    ·by_cases h2 : 0 ≤ (x.seqs.getD i default).init ∧ (x.seqs.getD i default).init ≤ 31
     ·refine h_call rfl Tryz.func79 (by kernel_rfl) rfl ((l01In_h _ 0 31 _).yes h2) ?_; rintro _ w ⟨rfl, hx⟩; have hp := hp.ext hx; refine ops_run nopre rfl ?_; (repeat (first | (refine gGuard ?_; refine h_guard_y rfl nopre rfl ?_) | (refine gLoad ?_; refine H_ldB hp rfl rfl ?_)))
      refine h_cond_ndec (fun h5 => ?_) (fun h5 => ?_)
      ·refine h_cond_t rfl rfl ?_; (repeat (refine R_ret ?_))
       have hno : ¬ NetOkP x.n := fun h => by have := h.seqs i (by rw [x.slen]; exact hlt'); rw [x.sget] at this; replace this := hkey.1 this; omega
       exact ⟨by rw [netOkB_no hno], hp.x⟩
      ·refine h_cond_f rfl rfl ?_; skip
       refine IH (i + 1) _ _ _ (by omega) rfl ⟨by omega, fun j hj => ?_, hp.drop⟩
       by_cases hj2 : j < i
       ·exact hall j hj2
       ·obtain rfl : j = i := by omega
        exact hkey.2 (by omega)
     ·refine h_call rfl Tryz.func79 (by kernel_rfl) rfl ((l01In_h _ 0 31 _).no h2) ?_; rintro _ w ⟨rfl, hx⟩; have hp := hp.ext hx; refine ops_run nopre rfl ?_; (repeat (refine gGuard ?_; first | refine h_guard_y rfl nopre rfl ?_ | refine h_guard_n rfl nopre rfl ?_))
      refine h_cond_t rfl rfl ?_; (repeat (refine R_ret ?_))
      have hno : ¬ NetOkP x.n := fun h => by have := h.seqs i (by rw [x.slen]; exact hlt'); rw [x.sget] at this; replace this := hkey.1 this; omega
      exact ⟨by rw [netOkB_no hno], hp.x⟩
    ·refine h_cond_t rfl rfl ?_; (repeat (refine R_ret ?_))
     have hno : ¬ NetOkP x.n := fun h => by have := h.seqs i (by rw [x.slen]; exact hlt'); rw [x.sget] at this; replace this := hkey.1 this; omega
     exact ⟨by rw [netOkB_no hno], hp.x⟩
  ·refine h_cond_f rfl rfl ?_; (repeat (refine H_ldB hp rfl rfl ?_))
   obtain rfl : i = x.seqs.length := by omega
   have hbd := rootsTo_bound hsz (Nat.le_refl _) hall
   have hbL : (rootsL x.n).length ≤ 100 := by rw [rootsL, x.slen]; exact hbd _ (Nat.le_refl _)
   have hRR := rootsTo_R hW _ (Nat.le_refl _)
   refine h_call rfl Tryz.func136 (by kernel_rfl) rfl (specRoots_h x _ hp.net (by omega) (fun i hi => by have := hbd i hi; omega)) ?_; rintro _ w ⟨a2, c2, rfl, hq⟩; have hx := hq.x; have hp := hp.call1 hq; refine ops_run nopre rfl ?_; skip
   refine h_loop [1, 3, 6, 7] (fun (i : Nat) => [(1, .pointer (some ⟨b1, 0, none⟩)), (3, .int .i64 (nodesL x.n)), (6, .slice a2 (rootsL x.n).length c2), (7, .int .i64 (i : Int))])
    (fun i w' => i ≤ (rootsL x.n).length ∧ (∀ j, j < i → litP ((rootsL x.n).getD j default) (nodesL x.n)) ∧ Hp w0 w' [rO 3 1 eI a2 c2 (rootsL x.n), rB b1 33 x.cs]) (fun i => (rootsL x.n).length - i) 0 rfl ⟨by omega, fun j hj => by omega, hp⟩ ?_
   rintro i w1 ⟨hi, hroots, hp⟩ IH C
   refine h_run rfl ?_; skip
   refine h_cond_dec (fun hlt => ?_) (fun hlt => ?_)
   ·have hlt' : i < (rootsL x.n).length := by omega
    refine h_cond_t rfl rfl ?_; (repeat (refine H_ldEN hp rfl (by omega) rfl rfl ?_))
    by_cases hok : litP ((rootsL x.n).getD i default) (nodesL x.n)
    ·refine h_call rfl Tryz.func81 (by kernel_rfl) rfl ((l08Lit_h _ _ _ (hRR i hlt')).yes hok) ?_; rintro _ w ⟨rfl, hx⟩; have hp := hp.ext hx; refine ops_run nopre rfl ?_; skip
     refine h_cond_f rfl rfl ?_; skip
     refine IH (i + 1) _ _ _ (by omega) rfl ⟨by omega, fun j hj => ?_, hp⟩
     by_cases hj2 : j < i
     ·exact hroots j hj2
     ·obtain rfl : j = i := by omega
      exact hok
    ·refine h_call rfl Tryz.func81 (by kernel_rfl) rfl ((l08Lit_h _ _ _ (hRR i hlt')).no hok) ?_; rintro _ w ⟨rfl, hx⟩; have hp := hp.ext hx; refine ops_run nopre rfl ?_; skip
     refine h_cond_t rfl rfl ?_; (repeat (refine R_ret ?_))
     have hno : ¬ NetOkP x.n := fun h => hok (h.roots i hlt')
     exact ⟨by rw [netOkB_no hno], hp.x⟩
   ·refine h_cond_f rfl rfl ?_; skip
    obtain rfl : i = (rootsL x.n).length := by omega
    refine h_loop [1, 8] (fun (i : Nat) => [(1, .pointer (some ⟨b1, 0, none⟩)), (8, .int .i64 (i : Int))])
     (fun i w' => i ≤ x.ands.length ∧ (∀ j, j < i → litP (x.ands.getD j default).1 (firstAndL x.n + j) ∧ litP (x.ands.getD j default).2 (firstAndL x.n + j)) ∧ Hp w0 w' [rB b1 33 x.cs]) (fun i => x.ands.length - i) 0 rfl ⟨by omega, fun j hj => by omega, hp.drop⟩ ?_
    rintro i w1 ⟨hi, hands, hp⟩ IH C
    refine h_run rfl ?_; (repeat (refine H_ldB hp rfl rfl ?_))
    refine h_cond_dec (fun hlt => ?_) (fun hlt => ?_)
    ·have hlt' : i < x.ands.length := by omega
     have hR2 := hW.ands i hlt'
     refine h_cond_t rfl rfl ?_; skip
     refine D_draw hp (by kernel_rfl) (by kernel_rfl) rfl rfl ?_; intro w hx hp; have hs := hp; (repeat (refine gLoad ?_; first | refine D_ldB rfl rfl rfl ?_ | refine D_ldFN rfl (by omega) rfl rfl rfl ?_))
     refine h_callq rfl Tryz.func137 (by kernel_rfl) rfl (l08First_h x _ (sizeOk_b hsz)) ?_; rintro _ w ⟨rfl, hx⟩; have hp := hp.ext hx; have hs := hs.ext hx; refine ⟨fun _ => hs, ?_⟩; refine D_ops rfl rfl ?_; skip
     by_cases hok1 : litP (x.ands.getD i default).1 (firstAndL x.n + i)
     ·refine h_callq rfl Tryz.func81 (by kernel_rfl) rfl ((l08Lit_h _ _ _ hR2.1).yes hok1) ?_; rintro _ w ⟨rfl, hx⟩; have hp := hp.ext hx; have hs := hs.ext hx; refine ⟨fun _ => hs, ?_⟩; refine D_ops rfl rfl ?_; (repeat (first | (refine gGuard ?_; refine h_guard_yd rfl rfl rfl ?_) | (refine gLoad ?_; first | refine D_ldB rfl rfl rfl ?_ | refine D_ldFN rfl (by omega) rfl rfl rfl ?_)))
      refine h_callq rfl Tryz.func137 (by kernel_rfl) rfl (l08First_h x _ (sizeOk_b hsz)) ?_; rintro _ w ⟨rfl, hx⟩; have hp := hp.ext hx; have hs := hs.ext hx; refine ⟨fun _ => hs, ?_⟩; refine D_ops rfl rfl ?_; (repeat (refine h_guard_yd rfl rfl rfl ?_))
      by_cases hok : litP (x.ands.getD i default).2 (firstAndL x.n + i)
      ·refine h_callq rfl Tryz.func81 (by kernel_rfl) rfl ((l08Lit_h _ _ _ hR2.2).yes hok) ?_; rintro _ w ⟨rfl, hx⟩; have hp := hp.ext hx; have hs := hs.ext hx; refine ⟨fun _ => hs, ?_⟩; refine D_ops rfl rfl ?_; (repeat (refine h_guard_yd rfl rfl rfl ?_))
       refine h_cond_f rfl rfl ?_; skip
       refine IH (i + 1) _ _ _ (by omega) rfl ⟨by omega, fun j hj => ?_, hp⟩
       by_cases hj2 : j < i
       ·exact hands j hj2
       ·obtain rfl : j = i := by omega
        exact ⟨hok1, hok⟩
      ·refine h_callq rfl Tryz.func81 (by kernel_rfl) rfl ((l08Lit_h _ _ _ hR2.2).no hok) ?_; rintro _ w ⟨rfl, hx⟩; have hp := hp.ext hx; have hs := hs.ext hx; refine ⟨fun _ => hs, ?_⟩; refine D_ops rfl rfl ?_; (repeat (refine h_guard_yd rfl rfl rfl ?_))
       refine h_cond_t rfl rfl ?_; (repeat (refine R_ret ?_))
       have hno : ¬ NetOkP x.n := fun h => hok (h.ands i hlt').2
       exact ⟨by rw [netOkB_no hno], hp.x⟩
     ·refine h_callq rfl Tryz.func81 (by kernel_rfl) rfl ((l08Lit_h _ _ _ hR2.1).no hok1) ?_; rintro _ w ⟨rfl, hx⟩; have hp := hp.ext hx; have hs := hs.ext hx; refine ⟨fun _ => hs, ?_⟩; refine D_ops rfl rfl ?_; (repeat (refine h_guard_nd rfl rfl rfl ?_))
      refine h_cond_t rfl rfl ?_; (repeat (refine R_ret ?_))
      have hno : ¬ NetOkP x.n := fun h => hok1 (h.ands i hlt').1
      exact ⟨by rw [netOkB_no hno], hp.x⟩
    ·refine h_cond_f rfl rfl ?_; (repeat (refine R_ret ?_))
     obtain rfl : i = x.ands.length := by omega
     have hyes : NetOkP x.n := ⟨hsz, fun j hj => by rw [x.sget]; exact hall j (by rw [x.slen] at hj; exact hj), hroots, hands⟩
     exact ⟨by rw [netOkB_yes hyes], hp.x⟩
end Go.Proofs
end
section
namespace Go.Proofs
open Go.Xw
set_option maxRecDepth 100000
set_option maxHeartbeats 1000000
attribute [local irreducible] Holds elemAddr
end Go.Proofs
end
section
namespace Go.Xw
theorem NetOkP.nodes {x : NetA} (h : NetOkP x.n) : 1 ≤ firstAndL x.n ∧ firstAndL x.n + x.ands.length = nodesL x.n ∧ nodesL x.n ≤ 333 := by
 have h1 := h.size'
 have h2 := nodesL_eq x
 have h3 := firstAndL_eq x
 omega
theorem NetOkP.and_ {x : NetA} (h : NetOkP x.n) {i : Nat} (hi : i < x.ands.length) : 0 ≤ (x.ands.getD i default).1 ∧ (x.ands.getD i default).1 / 2 < firstAndL x.n + i ∧ 0 ≤ (x.ands.getD i default).2 ∧ (x.ands.getD i default).2 / 2 < firstAndL x.n + i := by
 have h1 := h.ands i hi
 unfold litP at h1
 exact ⟨h1.1.1, h1.1.2, h1.2.1, h1.2.2⟩
end Go.Xw
namespace Go.Proofs
open Go.Xw
set_option maxRecDepth 100000
set_option maxHeartbeats 1000000
attribute [local irreducible] Holds elemAddr
theorem rootsP {x : NetA} (hok : NetOkP x.n) {i : Nat} (hi : i < (rootsL x.n).length) : 0 ≤ (rootsL x.n).getD i default ∧ (rootsL x.n).getD i default / 2 < nodesL x.n := by
 have := hok.roots i hi
 exact this
theorem rootsB {x : NetA} (hok : NetOkP x.n) : (rootsL x.n).length ≤ 100 := by
 rw [rootsL, x.slen]; exact hok.bound _ (Nat.le_refl _)
end Go.Proofs
end
section
namespace Go.Proofs
open Go.Xw
set_option maxRecDepth 100000
theorem markNet_u {w0 w : World} {L : List Res} {x : NetA} {f : Res → List Res} (hp : Hp w0 w L) [hu : Upd L (rNet x) f] (k : Int) (hs : NetS x.n) (hk : 0 ≤ k) (hk2 : k < 1000000000000) :
  Ret Tryz.prog 12 [x.v, .int .i64 k] w (fun v w' => v = .int .i64 (kNet k x) ∧ Hp w0 w' (f (rNet (mNet k x)))) := by
 obtain ⟨M, h1, h2⟩ := hu.h
 exact (markNet_h (hp.perm h1) k hs hk hk2).mono fun _ _ ⟨q1, q2⟩ => ⟨q1, q2.perm (h2 _).symm⟩
end Go.Proofs
end
