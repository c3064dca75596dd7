/- The contracts of LitValue, SeqNext, CutLess, PackBits, UnpackBits and MergeCuts on both sides; each under its stated conditions. -/
import Derived.Test.YtgcgoeahjlgiiaaBase
import Derived.Test.YtgcgoeahjlgiiaaBits
namespace Go.Proofs
open Go.Xw
set_option maxRecDepth 100000

/-- the value of a literal -/
def litV (xs : List Int) (lit : Int) : Int := bits .xor .i64 (xs.getD (lit / 2).toNat default) (bits .and .i64 lit 1)

theorem litValue_ok (a : Option Addr) (c : Nat) (xs : List Int) (lit : Int) (w : World) (ha : Sl w a xs.length 1 (fL eI xs)) (hl : xs.length < 1000000000) (h0 : 0 ≤ lit) (h1 : lit / 2 < xs.length) :
    Ret Try.prog 28 [.slice a xs.length c, .int .i64 lit] w (fun v w' => v = .int .i64 (litV xs lit) ∧ Ext w w') := by
  refine enter Try.S28ok _ _ rfl rfl (by show _ ≤ _; simp only [List.length]; decide) (fun C => ?_); refine h_run rfl ?_; (repeat (first | refine h_guard_y rfl nopre rfl ?_ | refine h_guard_n rfl nopre rfl ?_))
  refine h_load (ld_el Try.ttOk rfl ha (by omega) h1 (by decide)) rfl ?_; (repeat (first | refine h_guard_y rfl nopre rfl ?_ | refine h_guard_n rfl nopre rfl ?_))
  exact ⟨rfl, Ext.refl _⟩
theorem l09Bit_ok (a : Option Addr) (c : Nat) (xs : List Int) (lit : Int) (w : World) (ha : Sl w a xs.length 1 (fL eI xs)) (hl : xs.length < 1000000000) (h0 : 0 ≤ lit) (h1 : lit / 2 < xs.length) :
    Ret Try.prog 26 [.slice a xs.length c, .int .i64 lit] w (fun v w' => v = .int .i64 (litV xs lit) ∧ Ext w w') := by
  refine enter Try.S26ok _ _ rfl rfl (by show _ ≤ _; simp only [List.length]; decide) (fun C => ?_); refine h_run rfl ?_; (repeat (first | refine h_guard_y rfl nopre rfl ?_ | refine h_guard_n rfl nopre rfl ?_))
  refine h_load (ld_el Try.ttOk rfl ha (by omega) h1 (by decide)) rfl ?_; (repeat (first | refine h_guard_y rfl nopre rfl ?_ | refine h_guard_n rfl nopre rfl ?_))
  exact ⟨rfl, Ext.refl _⟩

/-- LitValue -/
def litValL (xs : List Int) (lit : Int) : Int :=
  if 0 ≤ lit ∧ lit / 2 < xs.length ∧ 0 ≤ xs.getD (lit / 2).toNat default ∧ xs.getD (lit / 2).toNat default ≤ 1 then litV xs lit else -1

theorem implLitValue_ok (a : Option Addr) (c : Nat) (xs : List Int) (lit : Int) (w : World) (ha : Sl w a xs.length 1 (fL eI xs)) (hl : xs.length < 1000000000) (hlit : lit ≤ 9223372036854775807) :
    Ret Try.prog 11 [.slice a xs.length c, .int .i64 lit] w (fun v w' => v = .int .i64 (litValL xs lit) ∧ Ext w w') := by
  refine enter Try.S11ok _ _ rfl rfl (by show _ ≤ _; simp only [List.length]; decide) (fun C => ?_); refine h_run rfl ?_; (repeat (first | refine h_guard_y rfl nopre rfl ?_ | refine h_guard_n rfl nopre rfl ?_))
  refine h_guard_by (fun h1 => ?_) (fun h1 => ?_); all_goals (rw [h1]; (first | replace h1 := of_decide_eq_true h1 | replace h1 := of_decide_eq_false h1 | skip); repeat (first | refine h_guard_y rfl nopre rfl ?_ | refine h_guard_n rfl nopre rfl ?_))
  · refine h_cond_t rfl rfl ?_; (repeat (first | refine h_guard_y rfl nopre rfl ?_ | refine h_guard_n rfl nopre rfl ?_))
    exact ⟨by unfold litValL; rw [if_neg (by omega)], Ext.refl _⟩
  · refine h_guard_by (fun h2 => ?_) (fun h2 => ?_); all_goals (rw [h2]; (first | replace h2 := of_decide_eq_true h2 | replace h2 := of_decide_eq_false h2 | skip); repeat (first | refine h_guard_y rfl nopre rfl ?_ | refine h_guard_n rfl nopre rfl ?_))
    · refine h_cond_t rfl rfl ?_; (repeat (first | refine h_guard_y rfl nopre rfl ?_ | refine h_guard_n rfl nopre rfl ?_))
      exact ⟨by unfold litValL; rw [if_neg (by omega)], Ext.refl _⟩
    · refine h_load (ld_el Try.ttOk rfl ha (by omega) (by omega) (by decide)) rfl ?_; (repeat (first | refine h_guard_y rfl nopre rfl ?_ | refine h_guard_n rfl nopre rfl ?_))
      refine h_call rfl Try.func27 (by kernel_rfl) rfl (inRange_ok _ _ _ _) ?_
      rintro v w' ⟨rfl, rfl⟩
      refine ops_run nopre rfl ?_; (repeat (first | refine h_guard_y rfl nopre rfl ?_ | refine h_guard_n rfl nopre rfl ?_))
      refine h_cond_ndec (fun h3 => ?_) (fun h3 => ?_)
      · refine h_cond_t rfl rfl ?_; (repeat (first | refine h_guard_y rfl nopre rfl ?_ | refine h_guard_n rfl nopre rfl ?_))
        exact ⟨by unfold litValL; rw [if_neg (by omega)], Ext.refl _⟩
      · refine h_cond_f rfl rfl ?_; (repeat (first | refine h_guard_y rfl nopre rfl ?_ | refine h_guard_n rfl nopre rfl ?_))
        refine h_call rfl Try.func28 (by kernel_rfl) rfl (litValue_ok _ _ _ _ _ ha hl (by omega) (by omega)) ?_
        rintro v w' ⟨rfl, hx⟩
        refine ops_run nopre rfl ?_; (repeat (first | refine h_guard_y rfl nopre rfl ?_ | refine h_guard_n rfl nopre rfl ?_))
        exact ⟨by unfold litValL; rw [if_pos (by omega)], hx⟩
theorem specLitValue_ok (a : Option Addr) (c : Nat) (xs : List Int) (lit : Int) (w : World) (ha : Sl w a xs.length 1 (fL eI xs)) (hl : xs.length < 1000000000) (hlit : lit ≤ 9223372036854775807) :
    Ret Try.prog 9 [.slice a xs.length c, .int .i64 lit] w (fun v w' => v = .int .i64 (litValL xs lit) ∧ Ext w w') := by
  refine enter Try.S9ok _ _ rfl rfl (by show _ ≤ _; simp only [List.length]; decide) (fun C => ?_); refine h_run rfl ?_; (repeat (first | refine h_guard_y rfl nopre rfl ?_ | refine h_guard_n rfl nopre rfl ?_))
  refine h_guard_by (fun h1 => ?_) (fun h1 => ?_); all_goals (rw [h1]; (first | replace h1 := of_decide_eq_true h1 | replace h1 := of_decide_eq_false h1 | skip); repeat (first | refine h_guard_y rfl nopre rfl ?_ | refine h_guard_n rfl nopre rfl ?_))
  · refine h_cond_t rfl rfl ?_; (repeat (first | refine h_guard_y rfl nopre rfl ?_ | refine h_guard_n rfl nopre rfl ?_))
    exact ⟨by unfold litValL; rw [if_neg (by omega)], Ext.refl _⟩
  · refine h_guard_by (fun h2 => ?_) (fun h2 => ?_); all_goals (rw [h2]; (first | replace h2 := of_decide_eq_true h2 | replace h2 := of_decide_eq_false h2 | skip); repeat (first | refine h_guard_y rfl nopre rfl ?_ | refine h_guard_n rfl nopre rfl ?_))
    · refine h_cond_t rfl rfl ?_; (repeat (first | refine h_guard_y rfl nopre rfl ?_ | refine h_guard_n rfl nopre rfl ?_))
      exact ⟨by unfold litValL; rw [if_neg (by omega)], Ext.refl _⟩
    · refine h_load (ld_el Try.ttOk rfl ha (by omega) (by omega) (by decide)) rfl ?_; (repeat (first | refine h_guard_y rfl nopre rfl ?_ | refine h_guard_n rfl nopre rfl ?_))
      refine h_call rfl Try.func25 (by kernel_rfl) rfl (l01In_ok _ _ _ _) ?_
      rintro v w' ⟨rfl, rfl⟩
      refine ops_run nopre rfl ?_; (repeat (first | refine h_guard_y rfl nopre rfl ?_ | refine h_guard_n rfl nopre rfl ?_))
      refine h_cond_ndec (fun h3 => ?_) (fun h3 => ?_)
      · refine h_cond_t rfl rfl ?_; (repeat (first | refine h_guard_y rfl nopre rfl ?_ | refine h_guard_n rfl nopre rfl ?_))
        exact ⟨by unfold litValL; rw [if_neg (by omega)], Ext.refl _⟩
      · refine h_cond_f rfl rfl ?_; (repeat (first | refine h_guard_y rfl nopre rfl ?_ | refine h_guard_n rfl nopre rfl ?_))
        refine h_call rfl Try.func26 (by kernel_rfl) rfl (l09Bit_ok _ _ _ _ _ ha hl (by omega) (by omega)) ?_
        rintro v w' ⟨rfl, hx⟩
        refine ops_run nopre rfl ?_; (repeat (first | refine h_guard_y rfl nopre rfl ?_ | refine h_guard_n rfl nopre rfl ?_))
        exact ⟨by unfold litValL; rw [if_pos (by omega)], hx⟩

theorem FnExactLitValue_ok (a : Option Addr) (c : Nat) (xs : List Int) (lit : Int) (w : World) (ha : Sl w a xs.length 1 (fL eI xs)) (hlit : lit ≤ 9223372036854775807) :
    Ret Try.prog 3 [.slice a xs.length c, .int .i64 lit] w (fun v w' => v = .bool true ∧ Ext w w') := by
  refine enter Try.S3ok _ _ rfl rfl (by show _ ≤ _; simp only [List.length]; decide) (fun C => ?_); refine h_run rfl ?_; (repeat (first | refine h_guard_y rfl nopre rfl ?_ | refine h_guard_n rfl nopre rfl ?_))
  refine h_cond_dec (fun hbig => ?_) (fun hbig => ?_)
  · refine h_cond_t rfl rfl ?_; (repeat (first | refine h_guard_y rfl nopre rfl ?_ | refine h_guard_n rfl nopre rfl ?_))
    exact ⟨rfl, Ext.refl _⟩
  · have hl : xs.length < 1000000000 := by omega
    refine h_cond_f rfl rfl ?_; (repeat (first | refine h_guard_y rfl nopre rfl ?_ | refine h_guard_n rfl nopre rfl ?_))
    refine h_call rfl Try.func10 (by kernel_rfl) rfl (toIntS_ok _ _ _ _ ha hl) ?_
    rintro v w1 ⟨b1, rfl, ho1, hx1⟩
    have ha1 := ha.ext hx1
    refine ops_run nopre rfl ?_; (repeat (first | refine h_guard_y rfl nopre rfl ?_ | refine h_guard_n rfl nopre rfl ?_))
    refine h_call rfl Try.func9 (by kernel_rfl) rfl (specLitValue_ok _ _ _ _ _ (ho1.sl eI_ok.len) hl hlit) ?_
    rintro v w2 ⟨rfl, hx2⟩
    have ha2 := ha1.ext hx2
    refine ops_run nopre rfl ?_; (repeat (first | refine h_guard_y rfl nopre rfl ?_ | refine h_guard_n rfl nopre rfl ?_))
    refine h_call rfl Try.func10 (by kernel_rfl) rfl (toIntS_ok _ _ _ _ ha2 hl) ?_
    rintro v w3 ⟨b3, rfl, ho3, hx3⟩
    have ha3 := ha2.ext hx3
    refine ops_run nopre rfl ?_; (repeat (first | refine h_guard_y rfl nopre rfl ?_ | refine h_guard_n rfl nopre rfl ?_))
    refine h_call rfl Try.func11 (by kernel_rfl) rfl (implLitValue_ok _ _ _ _ _ (ho3.sl eI_ok.len) hl hlit) ?_
    rintro v w4 ⟨rfl, hx4⟩
    have ha4 := ha3.ext hx4
    refine ops_run nopre rfl ?_; (repeat (first | refine h_guard_y rfl nopre rfl ?_ | refine h_guard_n rfl nopre rfl ?_))
    refine h_cond_dec (fun hne => ?_) (fun hne => ?_)
    · exact absurd rfl hne
    · refine h_cond_f rfl rfl ?_; (repeat (first | refine h_guard_y rfl nopre rfl ?_ | refine h_guard_n rfl nopre rfl ?_))
      refine h_call rfl Try.func10 (by kernel_rfl) rfl (toIntS_ok _ _ _ _ ha4 hl) ?_
      rintro v w5 ⟨b5, rfl, ho5, hx5⟩
      refine ops_run nopre rfl ?_; (repeat (first | refine h_guard_y rfl nopre rfl ?_ | refine h_guard_n rfl nopre rfl ?_))
      refine h_call rfl Try.func12 (by kernel_rfl) rfl (eqIntS_ok _ _ _ _ _ _ _ (((ho3.ext hx4).ext hx5).sl eI_ok.len) (ho5.sl eI_ok.len) hl hl) ?_
      rintro v w6 ⟨rfl, hx6⟩
      refine ops_run nopre rfl ?_; (repeat (first | refine h_guard_y rfl nopre rfl ?_ | refine h_guard_n rfl nopre rfl ?_))
      refine h_cond_ndec (fun h3 => ?_) (fun h3 => ?_)
      · exact absurd rfl h3
      · refine h_cond_f rfl rfl ?_; (repeat (first | refine h_guard_y rfl nopre rfl ?_ | refine h_guard_n rfl nopre rfl ?_))
        exact ⟨rfl, hx1.trans (hx2.trans (hx3.trans (hx4.trans (hx5.trans hx6))))⟩
end Go.Proofs
