/- The contracts of CutLess on both sides; under the stated conditions. -/
import Derived.Test.YtbjgekllkfnjnaaBase
set_option linter.all false
namespace Go.Proofs
open Go.Xw
set_option maxRecDepth 100000
def lexLt : List Int → List Int → Bool
 | x :: xs, y :: ys => if x ≠ y then decide (x < y) else lexLt xs ys
 | _, _ => false
def cutLt (xs ys : List Int) : Bool := if xs.length ≠ ys.length then decide (xs.length < ys.length) else lexLt xs ys
theorem lexLt_at : ∀ {i : Nat} {xs ys : List Int}, xs.length = ys.length → i < xs.length → (∀ j, j < i → xs.getD j default = ys.getD j default) → xs.getD i default ≠ ys.getD i default →
  lexLt xs ys = decide (xs.getD i default < ys.getD i default) := by
 intro i
 induction i with
 | zero =>
  intro xs ys hl hi _ hne
  cases xs with
  | nil => simp at hi
  | cons x xs => cases ys with
   | nil => simp at hl
   | cons y ys => simp at hne ⊢; simp [lexLt, hne]
 | succ i ih =>
  intro xs ys hl hi hall hne
  cases xs with
  | nil => simp at hi
  | cons x xs => cases ys with
   | nil => simp at hl
   | cons y ys =>
    have h0 := hall 0 (by omega)
    simp at h0
    simp only [lexLt, h0, ne_eq, not_true, if_false, List.getD_cons_succ] at *
    exact ih (by simpa using hl) (by simpa using hi) (fun j hj => by simpa using hall (j + 1) (by omega)) hne
theorem lexLt_self (xs : List Int) : lexLt xs xs = false := by
 induction xs with
 | nil => rfl
 | cons x xs ih => simp [lexLt, ih]
theorem all_eq {xs ys : List Int} (hlen : xs.length = ys.length) (hall : ∀ j, j < xs.length → xs.getD j default = ys.getD j default) : xs = ys :=
 List.ext_getElem hlen fun j h1 h2 => by
  have := hall j (by omega)
  simpa [List.getD_eq_getElem?_getD, h1, h2] using this
theorem implCutLess_ok (a b : Option Addr) (ca cb : Nat) (xs ys : List Int) (w : World) (ha : Sl w a xs.length 1 (fL eI xs)) (hb : Sl w b ys.length 1 (fL eI ys)) (hl : xs.length < 1000000000) :
  Ret Try.prog 144 [.slice a xs.length ca, .slice b ys.length cb] w (fun v w' => v = .bool (cutLt xs ys) ∧ Ext w w') := by
 refine enter Try.S144ok _ _ rfl rfl (by show _ ≤ _; simp only [List.length]; decide) (fun C => ?_); refine h_run rfl ?_; (repeat (first | refine h_guard_y rfl nopre rfl ?_ | refine h_guard_n rfl nopre rfl ?_))
 refine h_cond_dec (fun h => ?_) (fun h => ?_)
 ·refine h_cond_t rfl rfl ?_; (repeat (first | refine h_guard_y rfl nopre rfl ?_ | refine h_guard_n rfl nopre rfl ?_))
  have hne : xs.length ≠ ys.length := by omega
  exact ⟨by unfold cutLt; rw [if_pos hne]; simp, Ext.refl _⟩
 ·refine h_cond_f rfl rfl ?_; (repeat (first | refine h_guard_y rfl nopre rfl ?_ | refine h_guard_n rfl nopre rfl ?_))
  have hlen : xs.length = ys.length := by omega
  refine h_loop [0, 1, 17, 18] (fun i : Nat => [(0, .slice a xs.length ca), (1, .slice b ys.length cb), (17, .int .i64 (xs.length : Int)), (18, .int .i64 (i : Int))])
   (fun i w' => i ≤ xs.length ∧ (∀ j, j < i → xs.getD j default = ys.getD j default) ∧ Ext w w') (fun i => xs.length - i) 0 rfl ⟨by omega, fun j hj => by omega, Ext.refl _⟩ ?_
  rintro i w1 ⟨hi, hall, hx⟩ IH C
  have ha1 := ha.ext hx
  have hb1 := hb.ext hx
  refine h_run rfl ?_; (repeat (first | refine h_guard_y rfl nopre rfl ?_ | refine h_guard_n rfl nopre rfl ?_))
  refine h_cond_dec (fun hlt => ?_) (fun hlt => ?_)
  ·refine h_cond_t rfl rfl ?_; (repeat (first | refine h_guard_y rfl nopre rfl ?_ | refine h_guard_n rfl nopre rfl ?_))
   have hlt' : i < xs.length := by omega
   refine h_drawE (by kernel_rfl) (by kernel_rfl) rfl rfl (fun w2 hd => ?_); (repeat (first | refine h_guard_yd rfl rfl rfl ?_ | refine h_guard_nd rfl rfl rfl ?_))
   refine h_loadd (fun wx hwx => ld_elN Try.ttOk rfl (ha1.ext hwx) hlt' (by decide)) rfl rfl ?_; (repeat (first | refine h_guard_yd rfl rfl rfl ?_ | refine h_guard_nd rfl rfl rfl ?_))
   refine h_loadd (fun wx hwx => ld_elN Try.ttOk rfl (hb1.ext hwx) (by omega) (by decide)) rfl rfl ?_; (repeat (first | refine h_guard_yd rfl rfl rfl ?_ | refine h_guard_nd rfl rfl rfl ?_))
   refine h_cond_dec (fun hne => ?_) (fun hne => ?_)
   ·refine h_cond_t rfl rfl ?_; (repeat (first | refine h_guard_y rfl nopre rfl ?_ | refine h_guard_n rfl nopre rfl ?_))
    refine h_drawE (by kernel_rfl) (by kernel_rfl) rfl rfl (fun w3 hd3 => ?_); (repeat (first | refine h_guard_yd rfl rfl rfl ?_ | refine h_guard_nd rfl rfl rfl ?_))
    refine h_loadd (fun wx hwx => ld_elN Try.ttOk rfl ((ha1.ext hd).ext hwx) hlt' (by decide)) rfl rfl ?_; (repeat (first | refine h_guard_yd rfl rfl rfl ?_ | refine h_guard_nd rfl rfl rfl ?_))
    refine h_loadd (fun wx hwx => ld_elN Try.ttOk rfl ((hb1.ext hd).ext hwx) (by omega) (by decide)) rfl rfl ?_; (repeat (first | refine h_guard_yd rfl rfl rfl ?_ | refine h_guard_nd rfl rfl rfl ?_))
    refine ⟨?_, (hx.trans hd).trans hd3⟩
    unfold cutLt
    rw [if_neg (by omega), lexLt_at hlen hlt' hall hne]
   ·refine h_cond_f rfl rfl ?_; (repeat (first | refine h_guard_y rfl nopre rfl ?_ | refine h_guard_n rfl nopre rfl ?_))
    refine IH (i + 1) _ _ _ (by omega) rfl ⟨by omega, fun j hj => ?_, hx.trans hd⟩
    by_cases hj2 : j < i
    ·exact hall j hj2
    ·obtain rfl : j = i := by omega
     exact Decidable.not_not.1 hne
  ·refine h_cond_f rfl rfl ?_; (repeat (first | refine h_guard_y rfl nopre rfl ?_ | refine h_guard_n rfl nopre rfl ?_))
   refine ⟨?_, hx⟩
   have : xs = ys := all_eq hlen fun j hj => hall j (by omega)
   unfold cutLt
   rw [if_neg (by omega), this, lexLt_self]
end Go.Proofs
