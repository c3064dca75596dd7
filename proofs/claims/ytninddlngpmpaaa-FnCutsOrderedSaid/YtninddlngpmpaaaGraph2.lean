/- The contracts of the functions that give a net's roots, levels and depth; each under its stated conditions. -/
import Derived.Test.YtninddlngpmpaaaGraph1
set_option linter.all false
namespace Go.Proofs
open Go.Xw
set_option maxRecDepth 100000
set_option maxHeartbeats 1000000
attribute [local irreducible] Holds elemAddr

/-- what a function answers for a net: the answer for a valid one, nothing for another -/
noncomputable def ifOk (n : NetL) (l : List Int) : List Int := if netOkB n = true then l else []
theorem ifOk_yes {n : NetL} {l : List Int} (h : NetOkP n) : ifOk n l = l := by rw [ifOk, if_pos (netOkB_iff.2 h)]
theorem ifOk_no {n : NetL} {l : List Int} (h : ¬ NetOkP n) : ifOk n l = [] := by rw [ifOk, if_neg (fun hh => h (netOkB_iff.1 hh))]

theorem implRootsF_h (x : NetA) (w0 : World) (hX : NetR w0 x) (hS : NetS x.n) :
    Ret Try.prog 55 [x.v] w0 (fun v w => ∃ b c, v = .slice b (ifOk x.n (rootsL x.n)).length c ∧ Hp w0 w [rO 3 1 eI b c (ifOk x.n (rootsL x.n))]) := by
  refine enter Try.S55ok _ _ rfl rfl (by show _ ≤ _; simp only [List.length]; decide) (fun C => ?_); have hp := Hp.nil w0; refine h_run rfl ?_; skip; (first | (refine H_box hp ?_; intro w b1 hx hp) | (refine H_alloc hp rfl ?_; intro w b1 hx hp)); refine ops_run nopre rfl ?_; (repeat (refine H_ldB hp rfl rfl ?_))
  by_cases hok : NetOkP x.n
  · refine h_call rfl Try.func47 (by kernel_rfl) rfl ((implNetOk_h x _ hp.net hS).tt (netOkB_yes hok)) ?_; rintro _ w ⟨rfl, hx⟩; have hp := hp.ext hx; refine ops_run nopre rfl ?_; skip
    refine h_cond_f rfl rfl ?_; (repeat (refine H_ldB hp rfl rfl ?_))
    refine h_call rfl Try.func101 (by kernel_rfl) rfl (implRoots_ok x _ hp.net hok) ?_; rintro _ w ⟨b, c, rfl, hq⟩; have hx := hq.x; have hp := hp.call1 hq; refine ops_run nopre rfl ?_; (repeat (refine R_ret ?_))
    rw [ifOk_yes hok]
    exact ⟨b, c, rfl, hp.sub (by simp)⟩
  · refine h_call rfl Try.func47 (by kernel_rfl) rfl ((implNetOk_h x _ hp.net hS).ff (netOkB_no hok)) ?_; rintro _ w ⟨rfl, hx⟩; have hp := hp.ext hx; refine ops_run nopre rfl ?_; skip
    refine h_cond_t rfl rfl ?_; (repeat (refine R_ret ?_))
    rw [ifOk_no hok]
    exact ⟨none, 0, rfl, (Hp.of_ext hp.x).ownN (Ext.refl _) (Own.nil _ _ _ _ _)⟩
theorem specRootsF_h (x : NetA) (w0 : World) (hX : NetR w0 x) (hS : NetS x.n) (hW : NetW x.n) :
    Ret Try.prog 54 [x.v] w0 (fun v w => ∃ b c, v = .slice b (ifOk x.n (rootsL x.n)).length c ∧ Hp w0 w [rO 3 1 eI b c (ifOk x.n (rootsL x.n))]) := by
  refine enter Try.S54ok _ _ rfl rfl (by show _ ≤ _; simp only [List.length]; decide) (fun C => ?_); have hp := Hp.nil w0; refine h_run rfl ?_; skip; (first | (refine H_box hp ?_; intro w b1 hx hp) | (refine H_alloc hp rfl ?_; intro w b1 hx hp)); refine ops_run nopre rfl ?_; (repeat (refine H_ldB hp rfl rfl ?_))
  by_cases hok : NetOkP x.n
  · refine h_call rfl Try.func91 (by kernel_rfl) rfl ((specNetOk_h x _ hp.net hS hW).tt (netOkB_yes hok)) ?_; rintro _ w ⟨rfl, hx⟩; have hp := hp.ext hx; refine ops_run nopre rfl ?_; skip
    refine h_cond_f rfl rfl ?_; (repeat (refine H_ldB hp rfl rfl ?_))
    refine h_call rfl Try.func107 (by kernel_rfl) rfl (specRoots_ok x _ hp.net hok) ?_; rintro _ w ⟨b, c, rfl, hq⟩; have hx := hq.x; have hp := hp.call1 hq; refine ops_run nopre rfl ?_; (repeat (refine R_ret ?_))
    rw [ifOk_yes hok]
    exact ⟨b, c, rfl, hp.sub (by simp)⟩
  · refine h_call rfl Try.func91 (by kernel_rfl) rfl ((specNetOk_h x _ hp.net hS hW).ff (netOkB_no hok)) ?_; rintro _ w ⟨rfl, hx⟩; have hp := hp.ext hx; refine ops_run nopre rfl ?_; skip
    refine h_cond_t rfl rfl ?_; (repeat (first | (refine gBuild ?_; refine U_litI hp rfl rfl rfl rfl rfl rfl rfl rfl rfl rfl ?_; intro w _ hx hp; refine ops_run nopre rfl ?_) | refine R_ret ?_))
    rw [ifOk_no hok]
    exact ⟨_, _, rfl, hp.sub (by simp)⟩
end Go.Proofs
