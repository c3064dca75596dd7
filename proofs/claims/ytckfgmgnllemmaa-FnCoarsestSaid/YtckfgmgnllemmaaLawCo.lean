/- The law that the classes that are found hold and that no partition that holds is coarser; no condition but the stated ones. -/
import Derived.Test.YtckfgmgnllemmaaDrawCls
import Derived.Test.YtckfgmgnllemmaaClsCo
import Derived.Test.YtckfgmgnllemmaaClsI
set_option linter.all false
namespace Go.Proofs
open Go.Xw
set_option maxRecDepth 100000
set_option maxHeartbeats 1500000
attribute [local irreducible] Holds elemAddr
theorem FnCoarsest_h (w0 : World) (a : Option Addr) (c : Nat) (code : List Int) (hR : Rd w0 a 1 eU8 code) (hM : code.length ≤ maxLen) (hB : AllB code) :
    Ret Try.prog 9 [.slice a code.length c] w0 (fun v w => v = .bool true ∧ Ext w0 w) := by
  have hM' : (code.length : Int) ≤ 9223372036854775807 := by unfold maxLen at hM; omega
  refine enter Try.S9ok _ _ rfl rfl (by show _ ≤ _; simp only [List.length]; decide) (fun C => ?_); have hp := Hp.nil w0; refine h_run rfl ?_; skip
  refine h_call rfl Try.func32 (by kernel_rfl) rfl (big_h a code.length c _) ?_; rintro _ w ⟨rfl, hx⟩; have hp := hp.ext hx; refine ops_run nopre rfl ?_; skip
  refine h_cond_dec (fun hbig => ?_) (fun hbig => ?_)
  · refine h_cond_t rfl rfl ?_; (repeat (refine R_ret ?_))
    exact ⟨rfl, hp.x⟩
  · refine h_cond_f rfl rfl ?_; skip
    refine h_call rfl Try.func41 (by kernel_rfl) rfl (DrawClasses_h a c code _ hp.rd hB (by omega)) ?_; rintro _ w ⟨x, bX, cX, X, ⟨hok, hsm, rfl, hXl, hXi⟩, hq⟩; have hx := hq.x; have hp := hp.call2 hq; refine ops_run nopre rfl ?_; skip
    (first | (refine H_box hp ?_; intro w b3 hx hp) | (refine H_alloc hp rfl ?_; intro w b3 hx hp)); refine ops_run nopre rfl ?_; (repeat (first | (refine gLoad ?_; refine H_ldB hp rfl rfl ?_) | (refine gStore ?_; refine U_stBN hp rfl rfl rfl rfl ?_; intro w hp; refine ops_run nopre rfl ?_)))
    have hsz := hok.size'
    have hxs := x.slen
    have hin : x.n.inputs = x.inputs := rfl
    obtain ⟨hh, hcr⟩ := regL_hld hok (by omega)
    have hrl : (regL x.n).length = x.seqs.length := by rw [regL_len, hxs]
    have hri : ∀ i, i < (regL x.n).length → i64R ((regL x.n).getD i default) := fun i hi => by
      have := (regL_P x.n).2 i hi
      unfold i64R
      omega
    refine h_call rfl Try.func42 (by kernel_rfl) rfl (implRegisterClasses_x x _ hp.net hok.S' hok.W) ?_; rintro _ w ⟨bf, cf, rfl, hq⟩; have hx := hq.x; have hp := hp.call1 hq; refine ops_run nopre rfl ?_; (repeat (refine H_ldB hp rfl rfl ?_))
    rw [ifOk_yes hok] at hp ⊢
    refine h_call rfl Try.func43 (by kernel_rfl) rfl ((implClassesOk_x x bf cf (regL x.n) _ hp.net hok.S' hok.W hp.rd (by omega) hri).tt (clOkB_yes ⟨hok, regL_P x.n⟩)) ?_; rintro _ w ⟨rfl, hx⟩; have hp := hp.ext hx; refine ops_run nopre rfl ?_; (repeat (first | (refine gGuard ?_; refine h_guard_y rfl nopre rfl ?_) | (refine gLoad ?_; refine H_ldB hp rfl rfl ?_)))
    refine h_call rfl Try.func19 (by kernel_rfl) rfl ((implClassesHold_x x bf cf (regL x.n) _ hp.net hok.S' hok.W hp.rd (by omega) hri).tt (hldB_yes hh)) ?_; rintro _ w ⟨rfl, hx⟩; have hp := hp.ext hx; refine ops_run nopre rfl ?_; (repeat (first | (refine gGuard ?_; refine h_guard_y rfl nopre rfl ?_) | (refine gLoad ?_; refine H_ldB hp rfl rfl ?_)))
    refine h_cond_f (decide_eq_false (by omega)) rfl ?_; (repeat (refine H_ldB hp rfl rfl ?_))
    by_cases hX : hldP x.n X
    · refine h_call rfl Try.func16 (by kernel_rfl) rfl ((specClassesHold_x x bX cX X _ hp.net hok.S' hok.W hp.rd (by omega) hXi).tt (hldB_yes hX)) ?_; rintro _ w ⟨rfl, hx⟩; have hp := hp.ext hx; refine ops_run nopre rfl ?_; skip
      refine h_cond_t rfl rfl ?_; skip
      have hXc := hX.1.2
      have hXl2 : X.length = x.seqs.length := by rw [hXc.1, hxs]
      refine h_loop [4, 5, 6] (fun (i : Nat) => [(4, .slice bX X.length cX), (5, .slice bf (regL x.n).length cf), (6, .int .i64 (i : Int))])
        (fun i w' => i ≤ X.length ∧ Hp w0 w' [rO 3 1 eI bf cf (regL x.n), rO 3 1 eI bX cX X]) (fun i => X.length - i) 0 rfl ⟨by omega, ?_⟩ ?_
      · exact (hp.f2.f2.f3.f3).tk 2
      clear hp
      rintro i w1 ⟨hi, hp⟩ IH C
      refine h_run rfl ?_; skip
      refine h_cond_dec (fun hlt => ?_) (fun hlt => ?_)
      · have hlt' : i < X.length := by omega
        have hXr := hXc.2 i hlt'
        have he := hcr X hX i hlt'
        refine h_cond_t rfl rfl ?_; skip
        refine D_draw hp (by kernel_rfl) (by kernel_rfl) rfl rfl ?_; intro w hx hp; have hs := hp; (repeat (refine gLoad ?_; first | refine D_ldEN rfl (by omega) rfl rfl rfl ?_ | refine D_ldE rfl (by omega) (by omega) rfl rfl rfl ?_))
        refine h_cond_f (decide_eq_false (by omega)) rfl ?_; skip
        exact IH (i + 1) _ _ _ (by omega) rfl ⟨by omega, hp⟩
      · refine h_cond_f rfl rfl ?_; (repeat (refine R_ret ?_))
        exact ⟨rfl, hp.x⟩
    · refine h_call rfl Try.func16 (by kernel_rfl) rfl ((specClassesHold_x x bX cX X _ hp.net hok.S' hok.W hp.rd (by omega) hXi).ff (hldB_no hX)) ?_; rintro _ w ⟨rfl, hx⟩; have hp := hp.ext hx; refine ops_run nopre rfl ?_; skip
      refine h_cond_f rfl rfl ?_; (repeat (refine R_ret ?_))
      exact ⟨rfl, hp.x⟩
end Go.Proofs
