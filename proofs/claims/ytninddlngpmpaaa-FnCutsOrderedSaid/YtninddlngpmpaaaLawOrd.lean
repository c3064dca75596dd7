/- The law that enumerated cuts are ordered; no condition but the stated ones. -/
import Derived.Test.YtninddlngpmpaaaDrawNode
import Derived.Test.YtninddlngpmpaaaOrdLaw
import Derived.Test.YtninddlngpmpaaaEnumA
set_option linter.all false
namespace Go.Proofs
open Go.Xw
set_option maxRecDepth 100000
set_option maxHeartbeats 4000000
attribute [local irreducible] Holds elemAddr
theorem lawSame_h (a b : Option Addr) (c d : Nat) (X Y : List Int) (w0 : World) (hA : Rd w0 a 1 eI X) (hB : Rd w0 b 1 eI Y) (hl : X.length ≤ 1000000) (hl2 : Y.length ≤ 1000000) :
    Ret Try.prog 35 [.slice a X.length c, .slice b Y.length d] w0 (fun v w => v = .bool (decide (X = Y)) ∧ Ext w0 w) := by
  refine enter Try.S35ok _ _ rfl rfl (by show _ ≤ _; simp only [List.length]; decide) (fun C => ?_); have hp := Hp.nil w0; refine h_run rfl ?_; skip
  refine h_cond_dec (fun hne => ?_) (fun hne => ?_)
  · refine h_cond_t rfl rfl ?_; (repeat (refine R_ret ?_))
    have : X ≠ Y := fun e => hne (by rw [e])
    exact ⟨by simp [this], hp.x⟩
  · refine h_cond_f rfl rfl ?_; skip
    have hlen : X.length = Y.length := by omega
    refine h_loop [0, 1, 5] (fun (i : Nat) => [(0, .slice a X.length c), (1, .slice b Y.length d), (5, .int .i64 (i : Int))])
      (fun i w' => i ≤ X.length ∧ (∀ j, j < i → X.getD j default = Y.getD j default) ∧ Hp w0 w' []) (fun i => X.length - i) 0 rfl ⟨by omega, fun j hj => by omega, hp⟩ ?_
    rintro i w1 ⟨hi, hall, hp⟩ IH C
    refine h_run rfl ?_; skip
    refine h_cond_dec (fun hlt => ?_) (fun hlt => ?_)
    · have hlt' : i < X.length := by omega
      refine h_cond_t rfl rfl ?_; skip
      refine N_draw hp (by kernel_rfl) (by kernel_rfl) rfl rfl ?_; (repeat (refine N_ldEN rfl (by omega) rfl rfl rfl ?_))
      refine N_end ?_; intro w hp C; refine h_run rfl ?_; skip
      refine h_cond_dec (fun hd => ?_) (fun hd => ?_)
      · refine h_cond_t rfl rfl ?_; (repeat (refine R_ret ?_))
        have : X ≠ Y := fun e => hd (by rw [e])
        exact ⟨by simp [this], hp.x⟩
      · refine h_cond_f rfl rfl ?_; skip
        refine IH (i + 1) _ _ _ (by omega) rfl ⟨by omega, fun j hj => ?_, hp⟩
        by_cases hj2 : j < i
        · exact hall j hj2
        · obtain rfl : j = i := by omega
          omega
    · refine h_cond_f rfl rfl ?_; (repeat (refine R_ret ?_))
      have : X = Y := list_eq hlen fun j hj => hall j (by omega)
      exact ⟨by simp [this], hp.x⟩
theorem FnCutsOrdered_h (w0 : World) (a : Option Addr) (c : Nat) (code : List Int) (hR : Rd w0 a 1 eU8 code) (hM : code.length ≤ maxLen) (hB : AllB code) :
    Ret Try.prog 6 [.slice a code.length c] w0 (fun v w => v = .bool true ∧ Ext w0 w) := by
  have hM' : (code.length : Int) ≤ 9223372036854775807 := by unfold maxLen at hM; omega
  refine enter Try.S6ok _ _ rfl rfl (by show _ ≤ _; simp only [List.length]; decide) (fun C => ?_); have hp := Hp.nil w0; refine h_run rfl ?_; skip
  refine h_call rfl Try.func15 (by kernel_rfl) rfl (big_h a code.length c _) ?_; rintro _ w ⟨rfl, hx⟩; have hp := hp.ext hx; refine ops_run nopre rfl ?_; skip
  refine h_cond_dec (fun hbig => ?_) (fun hbig => ?_)
  · refine h_cond_t rfl rfl ?_; (repeat (refine R_ret ?_))
    exact ⟨rfl, hp.x⟩
  · refine h_cond_f rfl rfl ?_; skip
    refine h_call rfl Try.func20 (by kernel_rfl) rfl (DrawNode_h a c code _ hp.rd hB (by omega)) ?_; rintro _ w ⟨x, k, ⟨hok, hk, rfl⟩, hq⟩; have hx := hq.x; have hp := hp.call1 hq; refine ops_run nopre rfl ?_; skip
    (first | (refine H_box hp ?_; intro w b3 hx hp) | (refine H_alloc hp rfl ?_; intro w b3 hx hp)); refine ops_run nopre rfl ?_; (repeat (first | (refine gLoad ?_; refine H_ldB hp rfl rfl ?_) | (refine gStore ?_; refine U_stBN hp rfl rfl rfl rfl ?_; intro w hp; refine ops_run nopre rfl ?_)))
    have hn2 := hok.nums.n2
    have hnd := hok.nodes
    refine h_call rfl Try.func27 (by kernel_rfl) rfl (implEnumCuts_x x (k : Int) _ (rNet_r (hp.take (rNet x))) hok.S' hok.W (by unfold i64R; omega)) ?_; rintro _ w ⟨bR, cR, R, ⟨rfl, hRe⟩, hq⟩; have hx := hq.x; have hp := hp.call2 hq; refine ops_run nopre rfl ?_; skip
    rw [enumF_yes ⟨hok, by omega, by omega⟩, show ((k : Nat) : Int).toNat = k by omega] at hRe
    obtain ⟨S, z, hS, hS7, hsrt, hap, hz0, hz1⟩ := ord_cuts hok hk
    rw [hS] at hRe
    have hRl : R.length = S.length + 1 := by rw [← insOf_len, hRe, List.length_append]; rfl
    have hR4 : ∀ r, r ∈ R → r.ins.length ≤ 4 := fun r hr => cutsOf_four hok hk _ (by rw [hS, ← hRe]; exact List.mem_map.2 ⟨r, hr, rfl⟩)
    have hget : ∀ i, (R.getD i default).ins = (S ++ [z]).getD i default := fun i => by rw [← insOf_get, hRe]
    refine h_guard_by (fun h1 => ?_) (fun h1 => ?_); all_goals (rw [h1]; (first | replace h1 := of_decide_eq_true h1 | replace h1 := of_decide_eq_false h1 | skip); (repeat (refine gGuard ?_; first | refine h_guard_y rfl nopre rfl ?_ | refine h_guard_n rfl nopre rfl ?_)))
    · exact absurd h1 (by omega)
    · refine h_cond_dec (fun h2 => ?_) (fun h2 => ?_)
      · exact absurd h2 (by omega)
      · refine h_cond_f rfl rfl ?_; skip
        refine h_loop [4, 5, 6, 7] (fun (i : Nat) => [(4, .int .i64 (k : Int)), (5, .slice bR R.length cR), (6, .int .i64 (S.length : Int)), (7, .int .i64 (i : Int))])
          (fun i w' => i ≤ S.length ∧ Hp w0 w' [rO 24 1 eRo bR cR R, rRows 3 1 eI R]) (fun i => S.length - i) 0 (by rw [show (R.length : Int) - 1 = (S.length : Int) by omega]; rfl) ⟨by omega, hp.tk 2⟩ ?_
        clear hp
        rintro i w1 ⟨hi, hp⟩ IH C
        have hrow : ∀ q, q < R.length → RdH w0 [rO 24 1 eRo bR cR R, rRows 3 1 eI R] (R.getD q default).ia 1 eI (R.getD q default).ins := fun q hq => RowsH.mem_ inferInstance (getD_memR hq)
        refine h_run rfl ?_; skip
        refine h_cond_dec (fun hlt => ?_) (fun hlt => ?_)
        · have hlt' : i < S.length := by omega
          have hri := hrow i (by omega)
          have hgi := hR4 _ (getD_memR (show i < R.length by omega))
          refine h_cond_t rfl rfl ?_; skip
          refine D_draw hp (by kernel_rfl) (by kernel_rfl) rfl rfl ?_; intro w hx hp; have hs := hp; skip
          refine h_guard_by (fun h3 => ?_) (fun h3 => ?_); all_goals (rw [h3]; (first | replace h3 := of_decide_eq_true h3 | replace h3 := of_decide_eq_false h3 | skip); (repeat (first | (refine gGuard ?_; first | refine h_guard_yd rfl rfl rfl ?_ | refine h_guard_nd rfl rfl rfl ?_) | (refine gLoad ?_; first | refine D_ldEN rfl (by omega) rfl rfl rfl ?_ | refine D_ldE rfl (by omega) (by omega) rfl rfl rfl ?_))))
          · have hprev : RdH w0 [rO 24 1 eRo bR cR R, rRows 3 1 eI R] (R.getD ((i : Int) - 1).toNat default).ia 1 eI (R.getD ((i : Int) - 1).toNat default).ins := hrow _ (by omega)
            have hgp := hR4 _ (getD_memR (show ((i : Int) - 1).toNat < R.length by omega))
            have hlt2 : cutLt (R.getD ((i : Int) - 1).toNat default).ins (R.getD i default).ins = true := by
              rw [show ((i : Int) - 1).toNat = i - 1 by omega, hget, hget]
              exact ord_next hsrt (by omega) hlt'
            refine h_callq rfl Try.func36 (by kernel_rfl) rfl ((cutLess_h _ _ _ _ (R.getD ((i : Int) - 1).toNat default).ins (R.getD i default).ins _ hp.rd hp.rd (by omega)).tt hlt2) ?_; rintro _ w ⟨rfl, hx⟩; have hp := hp.ext hx; have hs := hs.ext hx; refine ⟨fun _ => hs, ?_⟩; refine D_ops rfl rfl ?_; (repeat (refine h_guard_yd rfl rfl rfl ?_))
            skip
            refine h_cond_f rfl rfl ?_; skip
            refine h_loop [4, 5, 6, 7, 8] (fun (j : Nat) => [(4, .int .i64 (k : Int)), (5, .slice bR R.length cR), (6, .int .i64 (S.length : Int)), (7, .int .i64 (i : Int)), (8, .int .i64 (j : Int))])
              (fun j w' => j ≤ S.length ∧ Hp w0 w' [rO 24 1 eRo bR cR R, rRows 3 1 eI R]) (fun j => S.length - j) 0 rfl ⟨by omega, hp⟩ ?_
            clear hp
            rintro j w1 ⟨hj, hp⟩ IH2 C
            refine h_run rfl ?_; skip
            refine h_cond_dec (fun hltj => ?_) (fun hltj => ?_)
            · have hltj' : j < S.length := by omega
              have hrj := hrow j (by omega)
              have hgj := hR4 _ (getD_memR (show j < R.length by omega))
              have hxy : (mergeL (R.getD i default).ins (R.getD j default).ins).length ≤ 4 := mergeL_len _ _
              refine h_cond_t rfl rfl ?_; skip
              refine D_draw hp (by kernel_rfl) (by kernel_rfl) rfl rfl ?_; intro w hx hp; have hs := hp; (repeat (refine D_ldEN rfl (by omega) rfl rfl rfl ?_))
              refine h_callq rfl Try.func37 (by kernel_rfl) rfl (mergeI_h _ _ _ _ (R.getD i default).ins (R.getD j default).ins _ hp.rd hp.rd (by omega) (by omega)) ?_; rintro _ w ⟨au, cu, rfl, hq⟩; have hx := hq.x; have hp := hp.call1 hq; have hs := hs.ext hx; refine ⟨fun _ => hs, ?_⟩; refine D_ops rfl rfl ?_; skip
              have hfin : ∀ w, Hp w0 w [rO 3 1 eI au cu (mergeL (R.getD i default).ins (R.getD j default).ins), rO 24 1 eRo bR cR R, rRows 3 1 eI R] → Hp w0 w [rO 24 1 eRo bR cR R, rRows 3 1 eI R] := fun _ h => h.drop
              by_cases ho : mergeOk (R.getD i default).ins (R.getD j default).ins = true
              · have hne : j ≠ i → mergeL (R.getD i default).ins (R.getD j default).ins ≠ (R.getD j default).ins := fun hji => by
                  rw [hget, hget] at ho ⊢
                  exact ord_apart hsrt hap hlt' hltj' hji ho
                rw [ho]
                skip
                refine h_guard_by (fun h6 => ?_) (fun h6 => ?_); all_goals (rw [h6]; (first | replace h6 := of_decide_eq_true h6 | replace h6 := of_decide_eq_false h6 | skip); (repeat (first | (refine gGuard ?_; first | refine h_guard_y rfl nopre rfl ?_ | refine h_guard_n rfl nopre rfl ?_) | (refine gLoad ?_; refine H_ldEN hp rfl (by omega) rfl rfl ?_))))
                · refine h_call rfl Try.func35 (by kernel_rfl) rfl ((lawSame_h _ _ _ _ (mergeL (R.getD i default).ins (R.getD j default).ins) (R.getD j default).ins _ hp.rd hp.rd (by omega) (by omega)).no (hne (by omega))) ?_; rintro _ w ⟨rfl, hx⟩; have hp := hp.ext hx; refine ops_run nopre rfl ?_; skip
                  refine h_cond_f rfl rfl ?_; skip
                  exact IH2 (j + 1) _ _ _ (by omega) rfl ⟨by omega, hfin _ hp⟩
                · refine h_cond_f rfl rfl ?_; skip
                  exact IH2 (j + 1) _ _ _ (by omega) rfl ⟨by omega, hfin _ hp⟩
              · have ho : mergeOk (R.getD i default).ins (R.getD j default).ins = false := by simpa using ho
                rw [ho]
                skip
                refine h_guard_by (fun h6 => ?_) (fun h6 => ?_); all_goals (rw [h6]; (first | replace h6 := of_decide_eq_true h6 | replace h6 := of_decide_eq_false h6 | skip); (repeat (refine gGuard ?_; first | refine h_guard_y rfl nopre rfl ?_ | refine h_guard_n rfl nopre rfl ?_)))
                · refine h_cond_f rfl rfl ?_; skip
                  exact IH2 (j + 1) _ _ _ (by omega) rfl ⟨by omega, hfin _ hp⟩
                · refine h_cond_f rfl rfl ?_; skip
                  exact IH2 (j + 1) _ _ _ (by omega) rfl ⟨by omega, hfin _ hp⟩
            · refine h_cond_f rfl rfl ?_; skip
              exact IH (i + 1) _ _ _ (by omega) rfl ⟨by omega, hp⟩
          · skip
            refine h_cond_f rfl rfl ?_; skip
            refine h_loop [4, 5, 6, 7, 8] (fun (j : Nat) => [(4, .int .i64 (k : Int)), (5, .slice bR R.length cR), (6, .int .i64 (S.length : Int)), (7, .int .i64 (i : Int)), (8, .int .i64 (j : Int))])
              (fun j w' => j ≤ S.length ∧ Hp w0 w' [rO 24 1 eRo bR cR R, rRows 3 1 eI R]) (fun j => S.length - j) 0 rfl ⟨by omega, hp⟩ ?_
            clear hp
            rintro j w1 ⟨hj, hp⟩ IH2 C
            refine h_run rfl ?_; skip
            refine h_cond_dec (fun hltj => ?_) (fun hltj => ?_)
            · have hltj' : j < S.length := by omega
              have hrj := hrow j (by omega)
              have hgj := hR4 _ (getD_memR (show j < R.length by omega))
              have hxy : (mergeL (R.getD i default).ins (R.getD j default).ins).length ≤ 4 := mergeL_len _ _
              refine h_cond_t rfl rfl ?_; skip
              refine D_draw hp (by kernel_rfl) (by kernel_rfl) rfl rfl ?_; intro w hx hp; have hs := hp; (repeat (refine D_ldEN rfl (by omega) rfl rfl rfl ?_))
              refine h_callq rfl Try.func37 (by kernel_rfl) rfl (mergeI_h _ _ _ _ (R.getD i default).ins (R.getD j default).ins _ hp.rd hp.rd (by omega) (by omega)) ?_; rintro _ w ⟨au, cu, rfl, hq⟩; have hx := hq.x; have hp := hp.call1 hq; have hs := hs.ext hx; refine ⟨fun _ => hs, ?_⟩; refine D_ops rfl rfl ?_; skip
              have hfin : ∀ w, Hp w0 w [rO 3 1 eI au cu (mergeL (R.getD i default).ins (R.getD j default).ins), rO 24 1 eRo bR cR R, rRows 3 1 eI R] → Hp w0 w [rO 24 1 eRo bR cR R, rRows 3 1 eI R] := fun _ h => h.drop
              by_cases ho : mergeOk (R.getD i default).ins (R.getD j default).ins = true
              · have hne : j ≠ i → mergeL (R.getD i default).ins (R.getD j default).ins ≠ (R.getD j default).ins := fun hji => by
                  rw [hget, hget] at ho ⊢
                  exact ord_apart hsrt hap hlt' hltj' hji ho
                rw [ho]
                skip
                refine h_guard_by (fun h6 => ?_) (fun h6 => ?_); all_goals (rw [h6]; (first | replace h6 := of_decide_eq_true h6 | replace h6 := of_decide_eq_false h6 | skip); (repeat (first | (refine gGuard ?_; first | refine h_guard_y rfl nopre rfl ?_ | refine h_guard_n rfl nopre rfl ?_) | (refine gLoad ?_; refine H_ldEN hp rfl (by omega) rfl rfl ?_))))
                · refine h_call rfl Try.func35 (by kernel_rfl) rfl ((lawSame_h _ _ _ _ (mergeL (R.getD i default).ins (R.getD j default).ins) (R.getD j default).ins _ hp.rd hp.rd (by omega) (by omega)).no (hne (by omega))) ?_; rintro _ w ⟨rfl, hx⟩; have hp := hp.ext hx; refine ops_run nopre rfl ?_; skip
                  refine h_cond_f rfl rfl ?_; skip
                  exact IH2 (j + 1) _ _ _ (by omega) rfl ⟨by omega, hfin _ hp⟩
                · refine h_cond_f rfl rfl ?_; skip
                  exact IH2 (j + 1) _ _ _ (by omega) rfl ⟨by omega, hfin _ hp⟩
              · have ho : mergeOk (R.getD i default).ins (R.getD j default).ins = false := by simpa using ho
                rw [ho]
                skip
                refine h_guard_by (fun h6 => ?_) (fun h6 => ?_); all_goals (rw [h6]; (first | replace h6 := of_decide_eq_true h6 | replace h6 := of_decide_eq_false h6 | skip); (repeat (refine gGuard ?_; first | refine h_guard_y rfl nopre rfl ?_ | refine h_guard_n rfl nopre rfl ?_)))
                · refine h_cond_f rfl rfl ?_; skip
                  exact IH2 (j + 1) _ _ _ (by omega) rfl ⟨by omega, hfin _ hp⟩
                · refine h_cond_f rfl rfl ?_; skip
                  exact IH2 (j + 1) _ _ _ (by omega) rfl ⟨by omega, hfin _ hp⟩
            · refine h_cond_f rfl rfl ?_; skip
              exact IH (i + 1) _ _ _ (by omega) rfl ⟨by omega, hp⟩
        · refine h_cond_f rfl rfl ?_; skip
          obtain rfl : i = S.length := by omega
          by_cases hk0 : k = 0
          · obtain ⟨hS0, hz⟩ := hz0 hk0
            subst hk0
            subst hS0
            have e0 : (R.getD (Int.toNat 0) default).ins.length = 0 := by
              rw [show (Int.toNat 0) = 0 from rfl, hget, hz]; rfl
            refine h_guard_by (fun h7 => ?_) (fun h7 => ?_); all_goals (rw [h7]; (first | replace h7 := of_decide_eq_true h7 | replace h7 := of_decide_eq_false h7 | skip); (repeat (first | (refine gGuard ?_; first | refine h_guard_y rfl nopre rfl ?_ | refine h_guard_n rfl nopre rfl ?_) | (refine gLoad ?_; refine H_ldE hp rfl (by omega) (by omega) rfl rfl ?_) | refine R_ret ?_)))
            · refine h_guard_by (fun h8 => ?_) (fun h8 => ?_); all_goals (rw [h8]; (first | replace h8 := of_decide_eq_true h8 | replace h8 := of_decide_eq_false h8 | skip); (repeat (first | (refine gGuard ?_; first | refine h_guard_y rfl nopre rfl ?_ | refine h_guard_n rfl nopre rfl ?_) | refine R_ret ?_)))
              · exact ⟨rfl, hp.x⟩
              · exact absurd (by omega) h8
            · exact absurd rfl h7
          · refine h_guard_by (fun h7 => ?_) (fun h7 => ?_); all_goals (rw [h7]; (first | replace h7 := of_decide_eq_true h7 | replace h7 := of_decide_eq_false h7 | skip); (repeat (first | (refine gGuard ?_; first | refine h_guard_y rfl nopre rfl ?_ | refine h_guard_n rfl nopre rfl ?_) | (refine gLoad ?_; refine H_ldEN hp rfl (by omega) rfl rfl ?_))))
            · exact absurd h7 (by omega)
            · have hlast : RdH w0 [rO 24 1 eRo bR cR R, rRows 3 1 eI R] (R.getD S.length default).ia 1 eI (R.getD S.length default).ins := hrow _ (by omega)
              have hgl := hR4 _ (getD_memR (show S.length < R.length by omega))
              have hel : (R.getD S.length default).ins = [(k : Int)] := by
                rw [hget, snoc_eq]; exact hz1 (by omega)
              refine h_guard_by (fun h8 => ?_) (fun h8 => ?_); all_goals (rw [h8]; (first | replace h8 := of_decide_eq_true h8 | replace h8 := of_decide_eq_false h8 | skip); (repeat (first | (refine gGuard ?_; first | refine h_guard_y rfl nopre rfl ?_ | refine h_guard_n rfl nopre rfl ?_) | (refine gLoad ?_; refine H_ldEN hp rfl (by omega) rfl rfl ?_) | (refine gBuild ?_; refine U_litI hp rfl rfl rfl rfl rfl rfl rfl rfl rfl rfl ?_; intro w _ hx hp; refine ops_run nopre rfl ?_) | refine R_ret ?_)))
              · rename_i bk
                refine h_call rfl Try.func35 (by kernel_rfl) rfl ((lawSame_h _ _ _ _ (R.getD S.length default).ins [(k : Int)] _ hp.rd hp.rd (by omega) (by simp)).yes hel) ?_; rintro _ w ⟨rfl, hx⟩; have hp := hp.ext hx; refine ops_run nopre rfl ?_; (repeat (first | (refine gGuard ?_; refine h_guard_y rfl nopre rfl ?_) | refine R_ret ?_))
                exact ⟨rfl, hp.x⟩
              · exact absurd (by omega) h8
end Go.Proofs
