/- The contract of the comparison of two lists of integers; under its stated conditions. -/
import Derived.Test.YtbjgekllkfnjnaaFam
import Derived.Test.YtbjgekllkfnjnaaBase
set_option linter.all false
namespace Go.Proofs
open Go.Xw
set_option maxRecDepth 100000
set_option maxHeartbeats 1000000
attribute [local irreducible] Holds elemAddr
theorem getD_ext {X Y : List Int} (hl : X.length = Y.length) (h : ∀ j, j < X.length → X.getD j default = Y.getD j default) : X = Y :=
  List.ext_getElem hl fun j h1 h2 => by
    have := h j h1
    rwa [List.getD_eq_getElem?_getD, List.getD_eq_getElem?_getD, List.getElem?_eq_getElem h1, List.getElem?_eq_getElem h2] at this
theorem implSameInts_h (a b : Option Addr) (c d : Nat) (X Y : List Int) (w0 : World) (hA : Rd w0 a 1 eI X) (hB : Rd w0 b 1 eI Y) (hl : X.length ≤ 1000000) (hl2 : Y.length ≤ 1000000) :
    Ret Try.prog 119 [.slice a X.length c, .slice b Y.length d] w0 (fun v w => v = .bool (decide (X = Y)) ∧ Ext w0 w) := by
  refine enter Try.S119ok _ _ rfl rfl (by show _ ≤ _; simp only [List.length]; decide) (fun C => ?_); have hp := Hp.nil w0; refine h_run rfl ?_; skip
  refine h_cond_dec (fun hne => ?_) (fun hne => ?_)
  · refine h_cond_t rfl rfl ?_; (repeat (refine R_ret ?_))
    have : X ≠ Y := fun e => hne (by rw [e])
    exact ⟨by simp [this], hp.x⟩
  · refine h_cond_f rfl rfl ?_; skip
    have hlen : X.length = Y.length := by omega
    refine h_loop [0, 1, 12, 13] (fun (i : Nat) => [(0, .slice a X.length c), (1, .slice b Y.length d), (12, .int .i64 X.length), (13, .int .i64 (i : Int))])
      (fun i w' => i ≤ X.length ∧ (∀ j, j < i → X.getD j default = Y.getD j default) ∧ Hp w0 w' []) (fun i => X.length - i) 0 rfl ⟨by omega, fun j hj => by omega, hp⟩ ?_
    rintro i w1 ⟨hi, hall, hp⟩ IH C
    refine h_run rfl ?_; skip
    refine h_cond_dec (fun hlt => ?_) (fun hlt => ?_)
    · have hlt' : i < X.length := by omega
      refine h_cond_t rfl rfl ?_; skip
      refine N_draw hp (by kernel_rfl) (by kernel_rfl) rfl rfl ?_; (repeat (refine N_ldEN rfl (by omega) rfl rfl rfl ?_))
      refine N_end ?_; intro w hp C; refine h_run rfl ?_; skip
      refine h_cond_dec (fun hd => ?_) (fun hd => ?_)
      · refine h_cond_t rfl rfl ?_; (repeat (refine R_ret ?_))
        have : X ≠ Y := fun e => hd (by rw [e])
        exact ⟨by simp [this], hp.x⟩
      · refine h_cond_f rfl rfl ?_; skip
        refine IH (i + 1) _ _ _ (by omega) rfl ⟨by omega, fun j hj => ?_, hp⟩
        by_cases hj2 : j < i
        · exact hall j hj2
        · obtain rfl : j = i := by omega
          omega
    · refine h_cond_f rfl rfl ?_; (repeat (refine R_ret ?_))
      have : X = Y := getD_ext hlen fun j hj => hall j (by omega)
      exact ⟨by simp [this], hp.x⟩
end Go.Proofs
