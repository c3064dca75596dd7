/- The contract of the program's RetimeForward; each under its stated conditions. -/
import Derived.Test.YtckfgmgnllemmaaRet
set_option linter.all false
namespace Go.Proofs
open Go.Xw
set_option maxRecDepth 100000
set_option maxHeartbeats 1000000
attribute [local irreducible] Holds elemAddr
theorem rfL_no {n : NetL} {k : Int} (h : fwO n k = none) : rfL n k = (n, false) := by unfold rfL; rw [h]
theorem rfL_yes {n m : NetL} {k : Int} (h : fwO n k = some m) : rfL n k = (pruneL m, true) := by unfold rfL; rw [h]
theorem sRetF {n : NetL} (h : NetS n) (k : Int) : NetS (rfL n k).1 := by
  cases hf : fwO n k with
  | none => rw [rfL_no hf]; exact h
  | some m => rw [rfL_yes hf]; exact (pruneL_ok (fwO_ok hf)).S'
theorem implRetimeForward_x (x : NetA) (k : Int) (w0 : World) (hX : NetR w0 x) (hS : NetS x.n) (hW : NetW x.n) (hK : i64R k) :
    Ret Try.prog 113 [x.v, .int .i64 k] w0 (fun v w => ∃ y, (y.n = (rfL x.n k).1 ∧ v = .tuple ⟨[y.v, .bool (rfL x.n k).2]⟩) ∧ Hp w0 w [rNet y]) := by
  refine enter Try.S113ok _ _ rfl rfl (by show _ ≤ _; simp only [List.length]; decide) (fun C => ?_); have hp := Hp.nil w0; refine h_run rfl ?_; skip; (first | (refine H_box hp ?_; intro w b2 hx hp) | (refine H_alloc hp rfl ?_; intro w b2 hx hp)); refine ops_run nopre rfl ?_; skip; (first | (refine H_box hp ?_; intro w b4 hx hp) | (refine H_alloc hp rfl ?_; intro w b4 hx hp)); refine ops_run nopre rfl ?_; (repeat (refine H_ldB hp rfl rfl ?_))
  cases hf : fwO x.n k with
  | none =>
    rw [rfL_no hf]
    have e := fwF_no hf
    refine h_call rfl Try.func159 (by kernel_rfl) rfl (forward_h x k _ hp.net hS hK) ?_; rintro _ w ⟨y, ⟨hy, rfl⟩, hq⟩; have hx := hq.x; have hp := hp.call1 hq; refine ops_run nopre rfl ?_; skip
    rw [e] at hy ⊢
    (first | (refine H_box hp ?_; intro w b6 hx hp) | (refine H_alloc hp rfl ?_; intro w b6 hx hp)); refine ops_run nopre rfl ?_; (repeat (refine U_stBN hp rfl rfl rfl rfl ?_; intro w hp; refine ops_run nopre rfl ?_))
    refine h_cond_t rfl rfl ?_; (repeat (refine H_ldB hp rfl rfl ?_))
    refine h_call rfl Try.func130 (by kernel_rfl) rfl (implCopyNet_h x _ hp.net hS) ?_; rintro _ w ⟨z, ⟨hz, rfl⟩, hq⟩; have hx := hq.x; have hp := hp.call1 hq; refine ops_run nopre rfl ?_; (repeat (first | (refine gStore ?_; refine U_stBN hp rfl rfl rfl rfl ?_; intro w hp; refine ops_run nopre rfl ?_) | (refine gRetc ?_; refine R_ret2v hp rfl ?_)))
    exact ⟨z, ⟨hz, rfl⟩, Hp.tk hp 1⟩
  | some m =>
    rw [rfL_yes hf]
    have e := fwF_yes hf
    refine h_call rfl Try.func159 (by kernel_rfl) rfl (forward_h x k _ hp.net hS hK) ?_; rintro _ w ⟨y, ⟨hy, rfl⟩, hq⟩; have hx := hq.x; have hp := hp.call1 hq; refine ops_run nopre rfl ?_; skip
    rw [e] at hy ⊢
    have hy : y.n = m := hy
    (first | (refine H_box hp ?_; intro w b6 hx hp) | (refine H_alloc hp rfl ?_; intro w b6 hx hp)); refine ops_run nopre rfl ?_; (repeat (refine U_stBN hp rfl rfl rfl rfl ?_; intro w hp; refine ops_run nopre rfl ?_))
    refine h_cond_f rfl rfl ?_; (repeat (refine H_ldB hp rfl rfl ?_))
    refine h_call rfl Try.func83 (by kernel_rfl) rfl (prune_h y _ hp.net (by rw [hy]; exact fwO_ok hf)) ?_; rintro _ w ⟨z, ⟨hz, rfl⟩, hq⟩; have hx := hq.x; have hp := hp.call1 hq; refine ops_run nopre rfl ?_; (repeat (first | (refine gStore ?_; refine U_stBN hp rfl rfl rfl rfl ?_; intro w hp; refine ops_run nopre rfl ?_) | (refine gRetc ?_; refine R_ret2v hp rfl ?_)))
    rw [hy] at hz
    exact ⟨z, ⟨hz, rfl⟩, Hp.tk hp 1⟩
end Go.Proofs
