/- The contracts of the program's exported functions that refactor; each under its stated conditions. -/
import Derived.Test.YtifjicajbgoamaaGreatRefI
import Derived.Test.YtifjicajbgoamaaGreatGraph4
set_option linter.all false
namespace Go.Proofs
open Go.Xw
set_option maxRecDepth 100000
set_option maxHeartbeats 4000000
attribute [local irreducible] Holds elemAddr
theorem implRefactorAt_x (x : NetA) (k : Int) (a : Option Addr) (c : Nat) (cut : List Int) (w0 : World) (hX : NetR w0 x) (hS : NetS x.n) (hW : NetW x.n) (hK : i64R k) (hR : Rd w0 a 1 eI cut) (hL : cut.length ≤ 1048576) (hV : ∀ i, i < cut.length → i64R (cut.getD i default)) :
    Ret Tryz.prog 10 [x.v, .int .i64 k, .slice a cut.length c] w0 (fun v w => ∃ y, (y.n = (rfF x.n k cut).1 ∧ v = .tuple ⟨[y.v, .bool (rfF x.n k cut).2]⟩) ∧ Hp w0 w [rNet y]) := by
  refine enter Tryz.S10ok _ _ rfl rfl (by show _ ≤ _; simp only [List.length]; decide) (fun C => ?_); have hp := Hp.nil w0; refine h_run rfl ?_; skip; (first | (refine H_box hp ?_; intro w b3 hx hp) | (refine H_alloc hp rfl ?_; intro w b3 hx hp)); refine ops_run nopre rfl ?_; skip; (first | (refine H_box hp ?_; intro w b6 hx hp) | (refine H_alloc hp rfl ?_; intro w b6 hx hp)); refine ops_run nopre rfl ?_; (repeat (refine H_ldB hp rfl rfl ?_))
  by_cases h1 : NetOkP x.n ∧ (0 ≤ k ∧ k < nodesL x.n) ∧ cutP x.n k.toNat cut
  · have hok := h1.1
    have hn := hok.nums
    have n1 := hn.n1
    have n4 := hn.n2
    have f2 := hn.f2
    have hc4 := h1.2.2.1.1
    refine h_call rfl Tryz.func38 (by kernel_rfl) rfl ((implCutOk_x x k a c cut _ hp.net hS hW hK hp.rd hL hV).tt (cutOkB_yes h1)) ?_; rintro _ w ⟨rfl, hx⟩; have hp := hp.ext hx; refine ops_run nopre rfl ?_; (repeat (first | (refine gGuard ?_; refine h_guard_y rfl nopre rfl ?_) | (refine gLoad ?_; refine H_ldB hp rfl rfl ?_)))
    by_cases h2 : firstAndL x.n ≤ k ∧ k < nodesL x.n
    · refine h_call rfl Tryz.func39 (by kernel_rfl) rfl ((isAnd_h x k _ hok.b).yes h2) ?_; rintro _ w ⟨rfl, hx⟩; have hp := hp.ext hx; refine ops_run nopre rfl ?_; (repeat (refine h_guard_y rfl nopre rfl ?_))
      by_cases h3 : k ∈ cut
      · have hbad : ¬ rfP x.n k cut := fun h => h.2.2 h3
        refine h_call rfl Tryz.func40 (by kernel_rfl) rfl ((hasInt_h a c _ cut rfl k _ hp.rd (by omega)).yes h3) ?_; rintro _ w ⟨rfl, hx⟩; have hp := hp.ext hx; refine ops_run nopre rfl ?_; skip
        refine h_cond_t rfl rfl ?_; (repeat (refine H_ldB hp rfl rfl ?_))
        rw [rfF_bad hbad]
        refine h_call rfl Tryz.func41 (by kernel_rfl) rfl (implCopyNet_h x _ hp.net hS) ?_; rintro _ w ⟨z, ⟨hz, rfl⟩, hq⟩; have hx := hq.x; have hp := hp.call1 hq; refine ops_run nopre rfl ?_; (repeat (first | (refine gStore ?_; refine U_stBN hp rfl rfl rfl rfl ?_; intro w hp; refine ops_run nopre rfl ?_) | (refine gRetc ?_; refine R_ret2v hp rfl ?_)))
        exact ⟨z, ⟨hz, rfl⟩, Hp.tk hp 1⟩
      · have hP : rfP x.n k cut := ⟨h1, by omega, h3⟩
        obtain ⟨q, rfl⟩ : ∃ q : Nat, k = ((fst_ x.n + q : Nat) : Int) := ⟨k.toNat - fst_ x.n, by omega⟩
        have hqq : ((fst_ x.n + q : Nat) : Int).toNat - fst_ x.n = q := by omega
        refine h_call rfl Tryz.func40 (by kernel_rfl) rfl ((hasInt_h a c _ cut rfl ((fst_ x.n + q : Nat) : Int) _ hp.rd (by omega)).no h3) ?_; rintro _ w ⟨rfl, hx⟩; have hp := hp.ext hx; refine ops_run nopre rfl ?_; skip
        refine h_cond_f rfl rfl ?_; (repeat (refine H_ldB hp rfl rfl ?_))
        refine h_call rfl Tryz.func42 (by kernel_rfl) rfl (refactorAt_h x q a c cut _ hp.net hp.rd hP) ?_; rintro _ w ⟨y, ⟨rfl, hy⟩, hq⟩; have hx := hq.x; have hp := hp.call1 hq; refine ops_run nopre rfl ?_; skip
        (first | (refine H_box hp ?_; intro w b8 hx hp) | (refine H_alloc hp rfl ?_; intro w b8 hx hp)); refine ops_run nopre rfl ?_; (repeat (refine U_stBN hp rfl rfl rfl rfl ?_; intro w hp; refine ops_run nopre rfl ?_))
        cases hN : rfN x.n q cut with
        | none =>
          rw [rfF_no hP (by rw [hqq]; exact hN)]
          refine h_cond_t rfl rfl ?_; (repeat (refine H_ldB hp rfl rfl ?_))
          refine h_call rfl Tryz.func41 (by kernel_rfl) rfl (implCopyNet_h x _ hp.net hS) ?_; rintro _ w ⟨z, ⟨hz, rfl⟩, hq⟩; have hx := hq.x; have hp := hp.call1 hq; refine ops_run nopre rfl ?_; (repeat (first | (refine gStore ?_; refine U_stBN hp rfl rfl rfl rfl ?_; intro w hp; refine ops_run nopre rfl ?_) | (refine gRetc ?_; refine R_ret2v hp rfl ?_)))
          exact ⟨z, ⟨hz, rfl⟩, Hp.tk hp 1⟩
        | some m =>
          rw [rfF_yes hP (by rw [hqq]; exact hN)]
          rw [hN] at hy
          refine h_cond_f rfl rfl ?_; (repeat (first | (refine gLoad ?_; refine H_ldB hp rfl rfl ?_) | (refine gStore ?_; refine U_stBN hp rfl rfl rfl rfl ?_; intro w hp; refine ops_run nopre rfl ?_) | (refine gRetc ?_; refine R_ret2v hp rfl ?_)))
          exact ⟨y, ⟨hy, rfl⟩, (hp.f1).tk 1⟩
    · have hbad : ¬ rfP x.n k cut := fun h => by have h3 := h.2.1; omega
      refine h_call rfl Tryz.func39 (by kernel_rfl) rfl ((isAnd_h x k _ hok.b).no h2) ?_; rintro _ w ⟨rfl, hx⟩; have hp := hp.ext hx; refine ops_run nopre rfl ?_; (repeat (refine gGuard ?_; first | refine h_guard_y rfl nopre rfl ?_ | refine h_guard_n rfl nopre rfl ?_))
      refine h_cond_t rfl rfl ?_; (repeat (refine H_ldB hp rfl rfl ?_))
      rw [rfF_bad hbad]
      refine h_call rfl Tryz.func41 (by kernel_rfl) rfl (implCopyNet_h x _ hp.net hS) ?_; rintro _ w ⟨z, ⟨hz, rfl⟩, hq⟩; have hx := hq.x; have hp := hp.call1 hq; refine ops_run nopre rfl ?_; (repeat (first | (refine gStore ?_; refine U_stBN hp rfl rfl rfl rfl ?_; intro w hp; refine ops_run nopre rfl ?_) | (refine gRetc ?_; refine R_ret2v hp rfl ?_)))
      exact ⟨z, ⟨hz, rfl⟩, Hp.tk hp 1⟩
  · have hbad : ¬ rfP x.n k cut := fun h => h1 h.1
    refine h_call rfl Tryz.func38 (by kernel_rfl) rfl ((implCutOk_x x k a c cut _ hp.net hS hW hK hp.rd hL hV).ff (cutOkB_no h1)) ?_; rintro _ w ⟨rfl, hx⟩; have hp := hp.ext hx; refine ops_run nopre rfl ?_; (repeat (refine h_guard_n rfl nopre rfl ?_))
    refine h_cond_t rfl rfl ?_; (repeat (refine H_ldB hp rfl rfl ?_))
    rw [rfF_bad hbad]
    refine h_call rfl Tryz.func41 (by kernel_rfl) rfl (implCopyNet_h x _ hp.net hS) ?_; rintro _ w ⟨z, ⟨hz, rfl⟩, hq⟩; have hx := hq.x; have hp := hp.call1 hq; refine ops_run nopre rfl ?_; (repeat (first | (refine gStore ?_; refine U_stBN hp rfl rfl rfl rfl ?_; intro w hp; refine ops_run nopre rfl ?_) | (refine gRetc ?_; refine R_ret2v hp rfl ?_)))
    exact ⟨z, ⟨hz, rfl⟩, Hp.tk hp 1⟩
end Go.Proofs
