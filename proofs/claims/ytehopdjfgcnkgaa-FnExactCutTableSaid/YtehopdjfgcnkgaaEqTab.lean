/- The contract of the law's comparison of tables; each under its stated conditions. -/
import Derived.Test.YtehopdjfgcnkgaaNet
set_option linter.all false
namespace Go.Proofs
open Go.Xw
set_option maxRecDepth 100000
set_option maxHeartbeats 1000000
attribute [local irreducible] Holds elemAddr
theorem eqTable_h (p q : Int × Int) (w0 : World) :
    Ret Try.prog 47 [.agg ⟨eII p⟩, .agg ⟨eII q⟩] w0 (fun v w' => v = .bool (decide (p = q)) ∧ Ext w0 w') := by
  have key : p = q ↔ p.1 = q.1 ∧ p.2 = q.2 := Prod.ext_iff
  refine enter Try.S47ok _ _ rfl rfl (by show _ ≤ _; simp only [List.length]; decide) (fun C => ?_); have hp := Hp.nil w0; refine h_run rfl ?_; skip; (first | (refine H_box hp ?_; intro w b1 hx hp) | (refine H_alloc hp rfl ?_; intro w b1 hx hp)); refine ops_run nopre rfl ?_; skip; (first | (refine H_box hp ?_; intro w b2 hx hp) | (refine H_alloc hp rfl ?_; intro w b2 hx hp)); refine ops_run nopre rfl ?_; (repeat (refine H_ldB hp rfl rfl ?_))
  refine h_cond_dec (fun h => ?_) (fun h => ?_)
  · refine h_cond_t rfl rfl ?_; (repeat (refine R_ret ?_))
    exact ⟨by simp [key, h], hp.x⟩
  · refine h_cond_f rfl rfl ?_; (repeat (refine H_ldB hp rfl rfl ?_))
    refine h_cond_dec (fun h2 => ?_) (fun h2 => ?_)
    · refine h_cond_t rfl rfl ?_; (repeat (refine R_ret ?_))
      exact ⟨by simp [key, h2], hp.x⟩
    · refine h_cond_f rfl rfl ?_; (repeat (refine R_ret ?_))
      exact ⟨by simp [key, Decidable.not_not.1 h, Decidable.not_not.1 h2], hp.x⟩
end Go.Proofs
