/- The contracts of UnpackBits on both sides; under the stated conditions. -/
import Derived.Test.YtninddlngpmpaaaPack
set_option linter.all false
namespace Go.Proofs
open Go.Xw
set_option maxRecDepth 100000

/-- the first i words unpacked -/
def upk (xs : List Int) (b : Int) : Nat → List Int
  | 0 => []
  | i + 1 => upk xs b i ++ [b / 2 ^ (psum xs i).toNat % 2 ^ (xs.getD i default).toNat]
theorem upk_len (xs : List Int) (b : Int) (i : Nat) : (upk xs b i).length = i := by
  induction i with
  | zero => rfl
  | succ i ih => simp [upk, ih]
noncomputable def unpackV (xs : List Int) (b : Int) : List Int := if widB xs = true then upk xs b xs.length else []

theorem implUnpackBits_ok (a : Option Addr) (ca : Nat) (xs : List Int) (b : Int) (w : World) (ha : Sl w a xs.length 1 (fL eI xs)) (hl : xs.length < 1000000000) :
    Ret Try.prog 19 [.slice a xs.length ca, .int .i64 b] w (fun v w' => ∃ a' c', v = .slice a' (unpackV xs b).length c' ∧ Own w' w.heap.size 3 1 eI a' c' (unpackV xs b) ∧ Ext w w') := by
  refine enter Try.S19ok _ _ rfl rfl (by show _ ≤ _; simp only [List.length]; decide) (fun C => ?_); refine h_run rfl ?_; (repeat (first | refine h_guard_y rfl nopre rfl ?_ | refine h_guard_n rfl nopre rfl ?_))
  refine h_call rfl Try.func68 (by kernel_rfl) rfl (widthsOk_ok _ _ _ _ ha hl) ?_
  rintro _ w ⟨rfl, rfl⟩
  refine ops_run nopre rfl ?_; (repeat (first | refine h_guard_y rfl nopre rfl ?_ | refine h_guard_n rfl nopre rfl ?_))
  cases hw : widB xs
  · refine h_cond_t rfl rfl ?_; (repeat (first | refine h_guard_y rfl nopre rfl ?_ | refine h_guard_n rfl nopre rfl ?_))
    exact ⟨none, 0, by simp [unpackV, hw], by simp [unpackV, hw]; exact Own.nil _ _ _ _ _, Ext.refl _⟩
  · have hok := widB_iff.1 hw
    refine h_cond_f rfl rfl ?_; (repeat (first | refine h_guard_y rfl nopre rfl ?_ | refine h_guard_n rfl nopre rfl ?_))
    refine h_loop3 [1, 5, 11, 12, 13] (fun (i : Nat) (a5 : Option Addr) (c5 : Nat) => [(1, .int .i64 (b / 2 ^ (psum xs i).toNat)), (5, .slice a5 (upk xs b i).length c5), (11, .slice a xs.length ca), (12, .int .i64 (xs.length : Int)), (13, .int .i64 (i : Int))])
      (fun i a5 c5 w' => i ≤ xs.length ∧ Own w' w.heap.size 3 1 eI a5 c5 (upk xs b i) ∧ Ext w w') (fun i _ _ => xs.length - i) 0 none 0 (by simp [psum]; rfl) ⟨by omega, Own.nil _ _ _ _ _, Ext.refl _⟩ ?_
    rintro i a5 c5 w1 ⟨hi, ho, hx⟩ IH C
    have ha1 := ha.ext hx
    have hlu := upk_len xs b i
    have h64 : (IntKind.i64.bits : Int) = 64 := rfl
    have hsz := hx.size
    refine h_run rfl ?_; (repeat (first | refine h_guard_y rfl nopre rfl ?_ | refine h_guard_n rfl nopre rfl ?_))
    refine h_cond_dec (fun hlt => ?_) (fun hlt => ?_)
    · have hlt' : i < xs.length := by omega
      have hw4 := hok.1 i hlt'
      have hs0 := psum_le (xs := xs) (i := i) fun j hj => hok.1 j (by omega)
      have hm := bits_and_mask (b / 2 ^ (psum xs i).toNat) (xs.getD i default).toNat (by omega)
      have hq : b / 2 ^ (psum xs (i + 1)).toNat = b / 2 ^ (psum xs i).toNat / 2 ^ (xs.getD i default).toNat := by
        rw [pow_psum fun j hj => hok.1 j (by omega), Int.mul_comm, Int.ediv_ediv_of_nonneg (Int.le_of_lt (pow_pos_ _))]
      refine h_cond_t rfl rfl ?_; (repeat (first | refine h_guard_y rfl nopre rfl ?_ | refine h_guard_n rfl nopre rfl ?_))
      refine h_load (ld_elN Try.ttOk rfl ha1 hlt' (by decide)) rfl ?_; (repeat (first | refine h_guard_y rfl nopre rfl ?_ | refine h_guard_n rfl nopre rfl ?_))
      refine h_call rfl Try.func69 (by kernel_rfl) rfl (widthMask_ok _ _ hw4) ?_
      rintro _ w1 ⟨rfl, rfl⟩
      refine ops_run nopre rfl ?_; (repeat (first | refine h_guard_y rfl nopre rfl ?_ | refine h_guard_n rfl nopre rfl ?_))
      refine h_lit eI [bits .and .i64 (b / 2 ^ (psum xs i).toNat) (2 ^ (xs.getD i default).toNat - 1)] rfl rfl rfl rfl (s := 1) rfl (by decide) eI_ok rfl rfl rfl (by decide) ?_; intro w2 b2 hb2 hx2 ho2
      have hsz2 := hx2.size
      refine ops_run nopre rfl ?_; (repeat (first | refine h_guard_y rfl nopre rfl ?_ | refine h_guard_n rfl nopre rfl ?_))
      refine h_append (enc := eI) [bits .and .i64 (b / 2 ^ (psum xs i).toNat) (2 ^ (xs.getD i default).toNat - 1)] (rfl) rfl rfl rfl rfl (s := 1) rfl (by decide) rfl eI_ok (ho.ext hx2) ((ho2.sl eI_ok.len)) (by unfold maxLen; simp only [List.length_cons, List.length_nil, List.length_append, List.length_take, List.length_drop]; omega) (by show _ * 8 ≤ _; simp only [List.length_cons, List.length_nil, List.length_append, List.length_take, List.length_drop]; omega) (by omega) ?_; intro a3 c3 w3 ho3 hg3 hn3
      refine ops_run nopre rfl ?_; (repeat (first | refine h_guard_y rfl nopre rfl ?_ | refine h_guard_n rfl nopre rfl ?_))
      have hupk : upk xs b i ++ [bits .and .i64 (b / 2 ^ (psum xs i).toNat) (2 ^ (xs.getD i default).toNat - 1)] = upk xs b (i + 1) := by rw [hm]; rfl
      rw [hupk] at ho3
      exact IH (i + 1) a3 c3 _ _ _ (by omega) (by rw [hq, ← hupk]; rfl) ⟨by omega, ho3, (hx.trans hx2).own (ho.ext hx2) (Nat.le_refl _) hg3⟩
    · refine h_cond_f rfl rfl ?_; (repeat (first | refine h_guard_y rfl nopre rfl ?_ | refine h_guard_n rfl nopre rfl ?_))
      obtain rfl : i = xs.length := by omega
      exact ⟨a5, c5, by simp only [unpackV, hw, if_true], by simp only [unpackV, hw, if_true]; exact ho, hx⟩
end Go.Proofs
