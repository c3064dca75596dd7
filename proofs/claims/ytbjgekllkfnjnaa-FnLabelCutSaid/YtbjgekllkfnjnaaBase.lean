/- The contracts of the small functions on ints and slices of ints; each under its stated conditions. -/
import Derived.Test.YtbjgekllkfnjnaaTab
import Derived.Test.YtbjgekllkfnjnaaStep
set_option linter.all false
namespace Go.Proofs
open Go.Xw
set_option maxRecDepth 100000
theorem inRange_ok (x a b : Int) (w : World) : Ret Try.prog 48 [.int .i64 x, .int .i64 a, .int .i64 b] w (fun v w' => v = .bool (decide (a ≤ x ∧ x ≤ b)) ∧ w' = w) := by
 refine enter Try.S48ok _ _ rfl rfl (by show _ ≤ _; simp only [List.length]; decide) (fun C => ?_); refine h_run rfl ?_; (repeat (first | refine h_guard_y rfl nopre rfl ?_ | refine h_guard_n rfl nopre rfl ?_))
 refine h_guard_by (fun h => ?_) (fun h => ?_); all_goals (rw [h]; (first | replace h := of_decide_eq_true h | replace h := of_decide_eq_false h | skip); repeat (first | refine h_guard_y rfl nopre rfl ?_ | refine h_guard_n rfl nopre rfl ?_))
 ·exact ⟨by simp [h], rfl⟩
 ·exact ⟨by simp [h], rfl⟩
theorem l01In_ok (x a b : Int) (w : World) : Ret Try.prog 45 [.int .i64 x, .int .i64 a, .int .i64 b] w (fun v w' => v = .bool (decide (a ≤ x ∧ x ≤ b)) ∧ w' = w) := by
 refine enter Try.S45ok _ _ rfl rfl (by show _ ≤ _; simp only [List.length]; decide) (fun C => ?_); refine h_run rfl ?_; (repeat (first | refine h_guard_y rfl nopre rfl ?_ | refine h_guard_n rfl nopre rfl ?_))
 refine h_guard_by (fun h => ?_) (fun h => ?_); all_goals (rw [h]; (first | replace h := of_decide_eq_true h | replace h := of_decide_eq_false h | skip); repeat (first | refine h_guard_y rfl nopre rfl ?_ | refine h_guard_n rfl nopre rfl ?_))
 ·exact ⟨by simp [h], rfl⟩
 ·exact ⟨by simp [h], rfl⟩
end Go.Proofs
