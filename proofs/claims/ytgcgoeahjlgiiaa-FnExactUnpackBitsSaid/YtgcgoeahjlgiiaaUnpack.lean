/- The contracts of UnpackBits on both sides; under the stated conditions. -/
import Derived.Test.YtgcgoeahjlgiiaaPack
namespace Go.Proofs
open Go.Xw
set_option maxRecDepth 100000

/-- the first i words unpacked -/
def upk (xs : List Int) (b : Int) : Nat → List Int
  | 0 => []
  | i + 1 => upk xs b i ++ [b / 2 ^ (psum xs i).toNat % 2 ^ (xs.getD i default).toNat]
theorem upk_len (xs : List Int) (b : Int) (i : Nat) : (upk xs b i).length = i := by
  induction i with
  | zero => rfl
  | succ i ih => simp [upk, ih]
noncomputable def unpackV (xs : List Int) (b : Int) : List Int := if widB xs = true then upk xs b xs.length else []

theorem implUnpackBits_ok (a : Option Addr) (ca : Nat) (xs : List Int) (b : Int) (w : World) (ha : Sl w a xs.length 1 (fL eI xs)) (hl : xs.length < 1000000000) :
    Ret Try.prog 20 [.slice a xs.length ca, .int .i64 b] w (fun v w' => ∃ a' c', v = .slice a' (unpackV xs b).length c' ∧ Own w' w.heap.size 3 1 eI a' c' (unpackV xs b) ∧ Ext w w') := by
  refine enter Try.S20ok _ _ rfl rfl (by show _ ≤ _; simp only [List.length]; decide) (fun C => ?_); refine h_run rfl ?_; (repeat (first | refine h_guard_y rfl nopre rfl ?_ | refine h_guard_n rfl nopre rfl ?_))
  refine h_call rfl Try.func31 (by kernel_rfl) rfl (widthsOk_ok _ _ _ _ ha hl) ?_
  rintro _ w ⟨rfl, rfl⟩
  refine ops_run nopre rfl ?_; (repeat (first | refine h_guard_y rfl nopre rfl ?_ | refine h_guard_n rfl nopre rfl ?_))
  cases hw : widB xs
  · refine h_cond_t rfl rfl ?_; (repeat (first | refine h_guard_y rfl nopre rfl ?_ | refine h_guard_n rfl nopre rfl ?_))
    exact ⟨none, 0, by simp [unpackV, hw], by simp [unpackV, hw]; exact Own.nil _ _ _ _ _, Ext.refl _⟩
  · have hok := widB_iff.1 hw
    refine h_cond_f rfl rfl ?_; (repeat (first | refine h_guard_y rfl nopre rfl ?_ | refine h_guard_n rfl nopre rfl ?_))
    refine h_loop3 [1, 5, 11, 12, 13] (fun (i : Nat) (a5 : Option Addr) (c5 : Nat) => [(1, .int .i64 (b / 2 ^ (psum xs i).toNat)), (5, .slice a5 (upk xs b i).length c5), (11, .slice a xs.length ca), (12, .int .i64 (xs.length : Int)), (13, .int .i64 (i : Int))])
      (fun i a5 c5 w' => i ≤ xs.length ∧ Own w' w.heap.size 3 1 eI a5 c5 (upk xs b i) ∧ Ext w w') (fun i _ _ => xs.length - i) 0 none 0 (by simp [psum]; rfl) ⟨by omega, Own.nil _ _ _ _ _, Ext.refl _⟩ ?_
    rintro i a5 c5 w1 ⟨hi, ho, hx⟩ IH C
    have ha1 := ha.ext hx
    have hlu := upk_len xs b i
    have h64 : (IntKind.i64.bits : Int) = 64 := rfl
    have hsz := hx.size
    refine h_run rfl ?_; (repeat (first | refine h_guard_y rfl nopre rfl ?_ | refine h_guard_n rfl nopre rfl ?_))
    refine h_cond_dec (fun hlt => ?_) (fun hlt => ?_)
    · have hlt' : i < xs.length := by omega
      have hw4 := hok.1 i hlt'
      have hs0 := psum_le (xs := xs) (i := i) fun j hj => hok.1 j (by omega)
      have hm := bits_and_mask (b / 2 ^ (psum xs i).toNat) (xs.getD i default).toNat (by omega)
      have hq : b / 2 ^ (psum xs (i + 1)).toNat = b / 2 ^ (psum xs i).toNat / 2 ^ (xs.getD i default).toNat := by
        rw [pow_psum fun j hj => hok.1 j (by omega), Int.mul_comm, Int.ediv_ediv_of_nonneg (Int.le_of_lt (pow_pos_ _))]
      refine h_cond_t rfl rfl ?_; (repeat (first | refine h_guard_y rfl nopre rfl ?_ | refine h_guard_n rfl nopre rfl ?_))
      refine h_load (ld_elN Try.ttOk rfl ha1 hlt' (by decide)) rfl ?_; (repeat (first | refine h_guard_y rfl nopre rfl ?_ | refine h_guard_n rfl nopre rfl ?_))
      refine h_call rfl Try.func32 (by kernel_rfl) rfl (widthMask_ok _ _ hw4) ?_
      rintro _ w1 ⟨rfl, rfl⟩
      refine ops_run nopre rfl ?_; (repeat (first | refine h_guard_y rfl nopre rfl ?_ | refine h_guard_n rfl nopre rfl ?_))
      refine h_lit eI [bits .and .i64 (b / 2 ^ (psum xs i).toNat) (2 ^ (xs.getD i default).toNat - 1)] rfl rfl rfl rfl (s := 1) rfl (by decide) eI_ok rfl rfl rfl (by decide) ?_; intro w2 b2 hb2 hx2 ho2
      have hsz2 := hx2.size
      refine ops_run nopre rfl ?_; (repeat (first | refine h_guard_y rfl nopre rfl ?_ | refine h_guard_n rfl nopre rfl ?_))
      refine h_append (enc := eI) [bits .and .i64 (b / 2 ^ (psum xs i).toNat) (2 ^ (xs.getD i default).toNat - 1)] rfl rfl rfl rfl (s := 1) rfl (by decide) rfl eI_ok (ho.ext hx2) ((ho2.sl eI_ok.len)) (by unfold maxLen; simp only [List.length_cons, List.length_nil]; omega) (by show _ * 8 ≤ _; simp only [List.length_cons, List.length_nil]; omega) (by omega) ?_; intro a3 c3 w3 ho3 hg3 hn3
      refine ops_run nopre rfl ?_; (repeat (first | refine h_guard_y rfl nopre rfl ?_ | refine h_guard_n rfl nopre rfl ?_))
      have hupk : upk xs b i ++ [bits .and .i64 (b / 2 ^ (psum xs i).toNat) (2 ^ (xs.getD i default).toNat - 1)] = upk xs b (i + 1) := by rw [hm]; rfl
      rw [hupk] at ho3
      exact IH (i + 1) a3 c3 _ _ _ (by omega) (by rw [hq, ← hupk]; rfl) ⟨by omega, ho3, (hx.trans hx2).own (ho.ext hx2) (Nat.le_refl _) hg3⟩
    · refine h_cond_f rfl rfl ?_; (repeat (first | refine h_guard_y rfl nopre rfl ?_ | refine h_guard_n rfl nopre rfl ?_))
      obtain rfl : i = xs.length := by omega
      exact ⟨a5, c5, by simp only [unpackV, hw, if_true], by simp only [unpackV, hw, if_true]; exact ho, hx⟩
theorem specUnpackBits_ok (a : Option Addr) (ca : Nat) (xs : List Int) (b : Int) (w : World) (ha : Sl w a xs.length 1 (fL eI xs)) (hl : xs.length < 1000000000) :
    Ret Try.prog 19 [.slice a xs.length ca, .int .i64 b] w (fun v w' => ∃ a' c', v = .slice a' (unpackV xs b).length c' ∧ Own w' w.heap.size 3 1 eI a' c' (unpackV xs b) ∧ Ext w w') := by
  refine enter Try.S19ok _ _ rfl rfl (by show _ ≤ _; simp only [List.length]; decide) (fun C => ?_); refine h_run rfl ?_; (repeat (first | refine h_guard_y rfl nopre rfl ?_ | refine h_guard_n rfl nopre rfl ?_))
  refine h_lit eI [] rfl rfl rfl rfl (s := 1) rfl (by decide) eI_ok rfl rfl rfl (by decide) ?_; intro w0 b0 hb0 hx0 ho0
  refine ops_run nopre rfl ?_; (repeat (first | refine h_guard_y rfl nopre rfl ?_ | refine h_guard_n rfl nopre rfl ?_))
  refine h_call rfl Try.func30 (by kernel_rfl) rfl (l11Widths_ok _ _ _ _ (ha.ext hx0) hl) ?_
  rintro _ w0 ⟨rfl, rfl⟩
  refine ops_run nopre rfl ?_; (repeat (first | refine h_guard_y rfl nopre rfl ?_ | refine h_guard_n rfl nopre rfl ?_))
  cases hw : widB xs
  · refine h_cond_t rfl rfl ?_; (repeat (first | refine h_guard_y rfl nopre rfl ?_ | refine h_guard_n rfl nopre rfl ?_))
    exact ⟨_, _, by simp only [unpackV, hw]; rfl, by simp only [unpackV, hw]; exact ho0, hx0⟩
  · have hok := widB_iff.1 hw
    refine h_cond_f rfl rfl ?_; (repeat (first | refine h_guard_y rfl nopre rfl ?_ | refine h_guard_n rfl nopre rfl ?_))
    refine h_loop3 [0, 1, 5, 6, 7] (fun (i : Nat) (a5 : Option Addr) (c5 : Nat) => [(0, .slice a xs.length ca), (1, .int .i64 b), (5, .slice a5 (upk xs b i).length c5), (6, .int .i64 (psum xs i)), (7, .int .i64 (i : Int))])
      (fun i a5 c5 w' => i ≤ xs.length ∧ Own w' w.heap.size 3 1 eI a5 c5 (upk xs b i) ∧ Ext w w') (fun i _ _ => xs.length - i) 0 _ _ rfl ⟨by omega, ho0, hx0⟩ ?_
    rintro i a5 c5 w1 ⟨hi, ho, hx⟩ IH C
    have ha1 := ha.ext hx
    have hlu := upk_len xs b i
    have h64 : (IntKind.i64.bits : Int) = 64 := rfl
    have hsz := hx.size
    refine h_run rfl ?_; (repeat (first | refine h_guard_y rfl nopre rfl ?_ | refine h_guard_n rfl nopre rfl ?_))
    refine h_cond_dec (fun hlt => ?_) (fun hlt => ?_)
    · have hlt' : i < xs.length := by omega
      have hw4 := hok.1 i hlt'
      have hs0 := psum_le (xs := xs) (i := i) fun j hj => hok.1 j (by omega)
      have hs1 := Int.le_trans (psum_mono hok.1 (i := i + 1) (by omega)) hok.2
      have h3 : psum xs (i + 1) = psum xs i + xs.getD i default := rfl
      have hp : (2 : Int) ≤ 2 ^ (xs.getD i default).toNat ∧ (2 : Int) ^ (xs.getD i default).toNat ≤ 16 := by
        have : xs.getD i default = 1 ∨ xs.getD i default = 2 ∨ xs.getD i default = 3 ∨ xs.getD i default = 4 := by omega
        rcases this with h | h | h | h <;> rw [h] <;> decide
      have hm := bits_and_mask (b / 2 ^ (psum xs i).toNat) (xs.getD i default).toNat (by omega)
      have hupk : upk xs b i ++ [bits .and .i64 (b / 2 ^ (psum xs i).toNat) (1 * 2 ^ (xs.getD i default).toNat - 1)] = upk xs b (i + 1) := by rw [Int.one_mul, hm]; rfl
      refine h_cond_t rfl rfl ?_; (repeat (first | refine h_guard_y rfl nopre rfl ?_ | refine h_guard_n rfl nopre rfl ?_))
      refine h_drawE (by kernel_rfl) (by kernel_rfl) rfl rfl (fun w2 hd => ?_); (repeat (first | refine h_guard_yd rfl rfl rfl ?_ | refine h_guard_nd rfl rfl rfl ?_))
      refine h_loadd (fun wx hwx => ld_elN Try.ttOk rfl (ha1.ext hwx) (by omega) (by decide)) rfl rfl ?_; (repeat (first | refine h_guard_yd rfl rfl rfl ?_ | refine h_guard_nd rfl rfl rfl ?_))
      have hsz2 := hd.size
      refine h_litd eI [bits .and .i64 (b / 2 ^ (psum xs i).toNat) (1 * 2 ^ (xs.getD i default).toNat - 1)] rfl rfl rfl rfl (s := 1) rfl (by decide) eI_ok rfl rfl rfl (by decide) ?_; intro w3 b3 hb3 hx3 ho3
      refine ⟨fun _ => hd.trans hx3, ?_⟩
      have hsz3 := hx3.size
      refine ops_rund rfl rfl ?_; (repeat (first | refine h_guard_yd rfl rfl rfl ?_ | refine h_guard_nd rfl rfl rfl ?_))
      refine h_appendd (enc := eI) [bits .and .i64 (b / 2 ^ (psum xs i).toNat) (1 * 2 ^ (xs.getD i default).toNat - 1)] rfl rfl rfl rfl (s := 1) rfl (by decide) rfl eI_ok ((ho.ext hd).ext hx3) ((ho3.sl eI_ok.len)) (by unfold maxLen; simp only [List.length_cons, List.length_nil]; omega) (by show _ * 8 ≤ _; simp only [List.length_cons, List.length_nil]; omega) (by omega) ?_; intro a4 c4 w4 ho4 hg4 hn4
      rw [hupk] at ho4
      have hx4 := (hx.trans (hd.trans hx3)).own ((ho.ext hd).ext hx3) (Nat.le_refl _) hg4
      refine ⟨fun h => absurd h (by decide), ?_⟩
      refine ops_rund rfl rfl ?_; (repeat (first | refine h_guard_yd rfl rfl rfl ?_ | refine h_guard_nd rfl rfl rfl ?_))
      refine h_load (ld_elN Try.ttOk rfl (ha.ext hx4) (by omega) (by decide)) rfl ?_; (repeat (first | refine h_guard_y rfl nopre rfl ?_ | refine h_guard_n rfl nopre rfl ?_))
      exact IH (i + 1) a4 c4 _ _ _ (by omega) (by rw [← hupk]; rfl) ⟨by omega, ho4, hx4⟩
    · refine h_cond_f rfl rfl ?_; (repeat (first | refine h_guard_y rfl nopre rfl ?_ | refine h_guard_n rfl nopre rfl ?_))
      obtain rfl : i = xs.length := by omega
      exact ⟨a5, c5, by simp only [unpackV, hw, if_true], by simp only [unpackV, hw, if_true]; exact ho, hx⟩

theorem unpackV_len (xs : List Int) (b : Int) : (unpackV xs b).length ≤ xs.length := by
  unfold unpackV
  split
  · rw [upk_len]; exact Nat.le_refl _
  · simp

theorem FnExactUnpackBits_ok (a : Option Addr) (ca : Nat) (xs : List Int) (b : Int) (w : World) (ha : Sl w a xs.length 1 (fL eI xs)) :
    Ret Try.prog 7 [.slice a xs.length ca, .int .i64 b] w (fun v w' => v = .bool true ∧ Ext w w') := by
  have hr := unpackV_len xs b
  refine enter Try.S7ok _ _ rfl rfl (by show _ ≤ _; simp only [List.length]; decide) (fun C => ?_); refine h_run rfl ?_; (repeat (first | refine h_guard_y rfl nopre rfl ?_ | refine h_guard_n rfl nopre rfl ?_))
  refine h_cond_dec (fun hbig => ?_) (fun hbig => ?_)
  · refine h_cond_t rfl rfl ?_; (repeat (first | refine h_guard_y rfl nopre rfl ?_ | refine h_guard_n rfl nopre rfl ?_))
    exact ⟨rfl, Ext.refl _⟩
  · have hl : xs.length < 1000000000 := by omega
    have hl2 : (unpackV xs b).length < 1000000000 := by omega
    refine h_cond_f rfl rfl ?_; (repeat (first | refine h_guard_y rfl nopre rfl ?_ | refine h_guard_n rfl nopre rfl ?_))
    refine h_call rfl Try.func10 (by kernel_rfl) rfl (toIntS_ok _ _ _ _ ha hl) ?_
    rintro _ w1 ⟨t1, rfl, ot, hx⟩
    have X := hx
    refine ops_run nopre rfl ?_; (repeat (first | refine h_guard_y rfl nopre rfl ?_ | refine h_guard_n rfl nopre rfl ?_))
    refine h_call rfl Try.func19 (by kernel_rfl) rfl (specUnpackBits_ok _ _ _ _ _ (ot.sl eI_ok.len) hl) ?_
    rintro _ w2 ⟨aS, cS, rfl, oS, hx⟩
    have X := X.trans hx
    refine ops_run nopre rfl ?_; (repeat (first | refine h_guard_y rfl nopre rfl ?_ | refine h_guard_n rfl nopre rfl ?_))
    refine h_call rfl Try.func10 (by kernel_rfl) rfl (toIntS_ok _ _ _ _ (ha.ext X) hl) ?_
    rintro _ w3 ⟨t3, rfl, oX, hx⟩
    have bX := X.size
    have X := X.trans hx
    have pXS := oS.apart oX (Nat.le_refl _)
    have oS := oS.ext hx
    refine ops_run nopre rfl ?_; (repeat (first | refine h_guard_y rfl nopre rfl ?_ | refine h_guard_n rfl nopre rfl ?_))
    refine h_call rfl Try.func20 (by kernel_rfl) rfl (implUnpackBits_ok _ _ _ _ _ (oX.sl eI_ok.len) hl) ?_
    rintro _ w4 ⟨aG, cG, rfl, oG, hx⟩
    have bG := X.size
    have X := X.trans hx
    have pGS := oS.apart oG (Nat.le_refl _)
    have pGX := oX.apart oG (Nat.le_refl _)
    have oS := oS.ext hx
    have oX := oX.ext hx
    refine ops_run nopre rfl ?_; (repeat (first | refine h_guard_y rfl nopre rfl ?_ | refine h_guard_n rfl nopre rfl ?_))
    refine h_call rfl Try.func12 (by kernel_rfl) rfl (eqIntS_ok _ _ _ _ _ _ _ (oG.sl eI_ok.len) (oS.sl eI_ok.len) hl2 hl2) ?_
    rintro _ w5 ⟨rfl, hx⟩
    have X := X.trans hx
    have oS := oS.ext hx
    have oX := oX.ext hx
    have oG := oG.ext hx
    refine ops_run nopre rfl ?_; (repeat (first | refine h_guard_y rfl nopre rfl ?_ | refine h_guard_n rfl nopre rfl ?_))
    refine h_cond_f (by first | (simp; done) | (simp; omega) | exact decide_eq_false (by omega)) rfl ?_; (repeat (first | refine h_guard_y rfl nopre rfl ?_ | refine h_guard_n rfl nopre rfl ?_))
    refine h_call rfl Try.func10 (by kernel_rfl) rfl (toIntS_ok _ _ _ _ (ha.ext X) hl) ?_
    rintro _ w6 ⟨t6, rfl, oT, hx⟩
    have X := X.trans hx
    have oS := oS.ext hx
    have oX := oX.ext hx
    have oG := oG.ext hx
    refine ops_run nopre rfl ?_; (repeat (first | refine h_guard_y rfl nopre rfl ?_ | refine h_guard_n rfl nopre rfl ?_))
    refine h_call rfl Try.func12 (by kernel_rfl) rfl (eqIntS_ok _ _ _ _ _ _ _ (oX.sl eI_ok.len) (oT.sl eI_ok.len) hl hl) ?_
    rintro _ w7 ⟨rfl, hx⟩
    have X := X.trans hx
    have oS := oS.ext hx
    have oX := oX.ext hx
    have oG := oG.ext hx
    refine ops_run nopre rfl ?_; (repeat (first | refine h_guard_y rfl nopre rfl ?_ | refine h_guard_n rfl nopre rfl ?_))
    refine h_cond_f (by first | (simp; done) | (simp; omega) | exact decide_eq_false (by omega)) rfl ?_; (repeat (first | refine h_guard_y rfl nopre rfl ?_ | refine h_guard_n rfl nopre rfl ?_))
    refine h_call rfl Try.func21 (by kernel_rfl) rfl (markIntS_ok _ _ _ _ _ oX hl (by decide) (by decide)) ?_
    rintro _ w8 ⟨rfl, oX', hg⟩
    have X := X.own oX bX hg
    have oS := oS.kept hg pXS.1
    have oG := oG.kept hg pGX.2
    refine ops_run nopre rfl ?_; (repeat (first | refine h_guard_y rfl nopre rfl ?_ | refine h_guard_n rfl nopre rfl ?_))
    try (refine h_guard_by (fun h => ?_) (fun h => ?_); (exfalso; replace h := of_decide_eq_true h; omega); rw [h]; clear h; (repeat (first | refine h_guard_y rfl nopre rfl ?_ | refine h_guard_n rfl nopre rfl ?_)))
    refine h_call rfl Try.func12 (by kernel_rfl) rfl (eqIntS_ok _ _ _ _ _ _ _ (oG.sl eI_ok.len) (oS.sl eI_ok.len) hl2 hl2) ?_
    rintro _ w9 ⟨rfl, hx⟩
    have X := X.trans hx
    have oS := oS.ext hx
    have oG := oG.ext hx
    refine ops_run nopre rfl ?_; (repeat (first | refine h_guard_y rfl nopre rfl ?_ | refine h_guard_n rfl nopre rfl ?_))
    refine h_cond_f (by first | (simp; done) | (simp; omega) | exact decide_eq_false (by omega)) rfl ?_; (repeat (first | refine h_guard_y rfl nopre rfl ?_ | refine h_guard_n rfl nopre rfl ?_))
    refine h_call rfl Try.func21 (by kernel_rfl) rfl (markIntS_ok _ _ _ _ _ oG hl2 (by decide) (by decide)) ?_
    rintro _ w10 ⟨rfl, oG', hg⟩
    have X := X.own oG bG hg
    have oS := oS.kept hg pGS.1
    have oG := oG'
    refine ops_run nopre rfl ?_; (repeat (first | refine h_guard_y rfl nopre rfl ?_ | refine h_guard_n rfl nopre rfl ?_))
    have sG := oG.sl eI_ok.len
    rw [marks_len] at sG
    refine h_call rfl Try.func22 (by kernel_rfl) rfl (heldIntS_ok _ _ _ _ _ sG hl2 (by decide) (by decide)) ?_
    rintro _ w11 ⟨rfl, hx⟩
    have X := X.trans hx
    have oS := oS.ext hx
    have oG := oG.ext hx
    refine ops_run nopre rfl ?_; (repeat (first | refine h_guard_y rfl nopre rfl ?_ | refine h_guard_n rfl nopre rfl ?_))
    refine h_cond_f (by first | (simp; done) | (simp; omega) | exact decide_eq_false (by omega)) rfl ?_; (repeat (first | refine h_guard_y rfl nopre rfl ?_ | refine h_guard_n rfl nopre rfl ?_))
    refine h_cond_f (by first | (simp; done) | (simp; omega) | exact decide_eq_false (by omega)) rfl ?_; (repeat (first | refine h_guard_y rfl nopre rfl ?_ | refine h_guard_n rfl nopre rfl ?_))
    refine h_call rfl Try.func10 (by kernel_rfl) rfl (toIntS_ok _ _ _ _ (ha.ext X) hl) ?_
    rintro _ w12 ⟨t12, rfl, oT, hx⟩
    have X := X.trans hx
    have oS := oS.ext hx
    have oG := oG.ext hx
    refine ops_run nopre rfl ?_; (repeat (first | refine h_guard_y rfl nopre rfl ?_ | refine h_guard_n rfl nopre rfl ?_))
    refine h_call rfl Try.func20 (by kernel_rfl) rfl (implUnpackBits_ok _ _ _ _ _ (oT.sl eI_ok.len) hl) ?_
    rintro _ w13 ⟨aH, cH, rfl, oH, hx⟩
    have X := X.trans hx
    have oS := oS.ext hx
    have oG := oG.ext hx
    refine ops_run nopre rfl ?_; (repeat (first | refine h_guard_y rfl nopre rfl ?_ | refine h_guard_n rfl nopre rfl ?_))
    refine h_call rfl Try.func12 (by kernel_rfl) rfl (eqIntS_ok _ _ _ _ _ _ _ (oH.sl eI_ok.len) (oS.sl eI_ok.len) hl2 hl2) ?_
    rintro _ w14 ⟨rfl, hx⟩
    have X := X.trans hx
    have oG := oG.ext hx
    refine ops_run nopre rfl ?_; (repeat (first | refine h_guard_y rfl nopre rfl ?_ | refine h_guard_n rfl nopre rfl ?_))
    refine h_cond_f (by first | (simp; done) | (simp; omega) | exact decide_eq_false (by omega)) rfl ?_; (repeat (first | refine h_guard_y rfl nopre rfl ?_ | refine h_guard_n rfl nopre rfl ?_))
    have sG := oG.sl eI_ok.len
    rw [marks_len] at sG
    refine h_call rfl Try.func22 (by kernel_rfl) rfl (heldIntS_ok _ _ _ _ _ sG hl2 (by decide) (by decide)) ?_
    rintro _ w15 ⟨rfl, hx⟩
    have X := X.trans hx
    refine ops_run nopre rfl ?_; (repeat (first | refine h_guard_y rfl nopre rfl ?_ | refine h_guard_n rfl nopre rfl ?_))
    refine h_cond_f (by first | (simp; done) | (simp; omega) | exact decide_eq_false (by omega)) rfl ?_; (repeat (first | refine h_guard_y rfl nopre rfl ?_ | refine h_guard_n rfl nopre rfl ?_))
    refine h_cond_f (by first | (simp; done) | (simp; omega) | exact decide_eq_false (by omega)) rfl ?_; (repeat (first | refine h_guard_y rfl nopre rfl ?_ | refine h_guard_n rfl nopre rfl ?_))
    exact ⟨rfl, X⟩
end Go.Proofs
