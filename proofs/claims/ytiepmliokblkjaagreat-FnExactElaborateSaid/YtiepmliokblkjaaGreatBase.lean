/- The contracts of the small functions on ints and slices of ints; each under its stated conditions. -/
import Derived.Test.YtiepmliokblkjaaGreatTab
import Derived.Test.YtiepmliokblkjaaGreatStep
set_option linter.all false
namespace Go.Proofs
open Go.Xw
set_option maxRecDepth 100000
theorem inRange_ok (x a b : Int) (w : World) : Ret Tryz.prog 124 [.int .i64 x, .int .i64 a, .int .i64 b] w (fun v w' => v = .bool (decide (a ≤ x ∧ x ≤ b)) ∧ w' = w) := by
 refine enter Tryz.S124ok _ _ rfl rfl (by show _ ≤ _; simp only [List.length]; decide) (fun C => ?_); refine h_run rfl ?_; (repeat (first | refine h_guard_y rfl nopre rfl ?_ | refine h_guard_n rfl nopre rfl ?_))
 refine h_guard_by (fun h => ?_) (fun h => ?_); all_goals (rw [h]; (first | replace h := of_decide_eq_true h | replace h := of_decide_eq_false h | skip); repeat (first | refine h_guard_y rfl nopre rfl ?_ | refine h_guard_n rfl nopre rfl ?_))
 ·exact ⟨by simp [h], rfl⟩
 ·exact ⟨by simp [h], rfl⟩
theorem l01In_ok (x a b : Int) (w : World) : Ret Tryz.prog 79 [.int .i64 x, .int .i64 a, .int .i64 b] w (fun v w' => v = .bool (decide (a ≤ x ∧ x ≤ b)) ∧ w' = w) := by
 refine enter Tryz.S79ok _ _ rfl rfl (by show _ ≤ _; simp only [List.length]; decide) (fun C => ?_); refine h_run rfl ?_; (repeat (first | refine h_guard_y rfl nopre rfl ?_ | refine h_guard_n rfl nopre rfl ?_))
 refine h_guard_by (fun h => ?_) (fun h => ?_); all_goals (rw [h]; (first | replace h := of_decide_eq_true h | replace h := of_decide_eq_false h | skip); repeat (first | refine h_guard_y rfl nopre rfl ?_ | refine h_guard_n rfl nopre rfl ?_))
 ·exact ⟨by simp [h], rfl⟩
 ·exact ⟨by simp [h], rfl⟩
theorem eqIntS_ok (a b : Option Addr) (ca cb : Nat) (xs ys : List Int) (w : World) (ha : Sl w a xs.length 1 (fL eI xs)) (hb : Sl w b ys.length 1 (fL eI ys)) (hl : xs.length < 1000000000) (hl2 : ys.length < 1000000000) :
  Ret Tryz.prog 44 [.slice a xs.length ca, .slice b ys.length cb] w (fun v w' => v = .bool (decide (xs = ys)) ∧ Ext w w') := by
 refine enter Tryz.S44ok _ _ rfl rfl (by show _ ≤ _; simp only [List.length]; decide) (fun C => ?_); refine h_run rfl ?_; (repeat (first | refine h_guard_y rfl nopre rfl ?_ | refine h_guard_n rfl nopre rfl ?_))
 refine h_cond_dec (fun h => ?_) (fun h => ?_)
 ·refine h_cond_t rfl rfl ?_; (repeat (first | refine h_guard_y rfl nopre rfl ?_ | refine h_guard_n rfl nopre rfl ?_))
  have hne : xs ≠ ys := fun e => h (by rw [e])
  exact ⟨by simp [hne], Ext.refl _⟩
 ·refine h_cond_f rfl rfl ?_; (repeat (first | refine h_guard_y rfl nopre rfl ?_ | refine h_guard_n rfl nopre rfl ?_))
  have hlen : xs.length = ys.length := by omega
  refine h_loop [0, 1, 5] (fun i : Nat => [(0, .slice a xs.length ca), (1, .slice b ys.length cb), (5, .int .i64 (i : Int))])
   (fun i w' => i ≤ xs.length ∧ (∀ j, j < i → xs.getD j default = ys.getD j default) ∧ Ext w w') (fun i => xs.length - i) 0 rfl ⟨by omega, fun j hj => by omega, Ext.refl _⟩ ?_
  rintro i w1 ⟨hi, hall, hx⟩ IH C
  have ha1 := ha.ext hx
  have hb1 := hb.ext hx
  refine h_run rfl ?_; (repeat (first | refine h_guard_y rfl nopre rfl ?_ | refine h_guard_n rfl nopre rfl ?_))
  refine h_cond_dec (fun hlt => ?_) (fun hlt => ?_)
  ·refine h_cond_t rfl rfl ?_; (repeat (first | refine h_guard_y rfl nopre rfl ?_ | refine h_guard_n rfl nopre rfl ?_))
   have hlt' : i < xs.length := by omega
   refine h_drawE (by kernel_rfl) (by kernel_rfl) rfl rfl (fun w2 hd => ?_); (repeat (first | refine h_guard_yd rfl rfl rfl ?_ | refine h_guard_nd rfl rfl rfl ?_))
   refine h_loadd (fun wx hwx => ld_elN Tryz.ttOk rfl (ha1.ext hwx) hlt' (by decide)) rfl rfl ?_; (repeat (first | refine h_guard_yd rfl rfl rfl ?_ | refine h_guard_nd rfl rfl rfl ?_))
   refine h_loadd (fun wx hwx => ld_elN Tryz.ttOk rfl (hb1.ext hwx) (by omega) (by decide)) rfl rfl ?_; (repeat (first | refine h_guard_yd rfl rfl rfl ?_ | refine h_guard_nd rfl rfl rfl ?_))
   refine h_cond_dec (fun hne => ?_) (fun hne => ?_)
   ·refine h_cond_t rfl rfl ?_; (repeat (first | refine h_guard_y rfl nopre rfl ?_ | refine h_guard_n rfl nopre rfl ?_))
    refine ⟨?_, hx.trans hd⟩
    have : xs ≠ ys := fun e => hne (by subst e; rfl)
    simp [this]
   ·refine h_cond_f rfl rfl ?_; (repeat (first | refine h_guard_y rfl nopre rfl ?_ | refine h_guard_n rfl nopre rfl ?_))
    refine IH (i + 1) _ _ _ (by omega) rfl ⟨by omega, fun j hj => ?_, hx.trans hd⟩
    by_cases hj2 : j < i
    ·exact hall j hj2
    ·obtain rfl : j = i := by omega
     exact Decidable.not_not.1 hne
  ·refine h_cond_f rfl rfl ?_; (repeat (first | refine h_guard_y rfl nopre rfl ?_ | refine h_guard_n rfl nopre rfl ?_))
   refine ⟨?_, hx⟩
   have : xs = ys := List.ext_getElem hlen fun j h1 h2 => by
    have := hall j (by omega)
    simpa [List.getD_eq_getElem?_getD, h1, h2] using this
   simp [this]
theorem toIntS_ok (a : Option Addr) (c : Nat) (xs : List Int) (w : World) (ha : Sl w a xs.length 1 (fL eI xs)) (hl : xs.length < 1000000000) :
  Ret Tryz.prog 149 [.slice a xs.length c] w (fun v w' => ∃ b, v = .slice (some ⟨b, 0, none⟩) xs.length xs.length ∧ Own w' w.heap.size 3 1 eI (some ⟨b, 0, none⟩) xs.length xs ∧ Ext w w') := by
 refine enter Tryz.S149ok _ _ rfl rfl (by show _ ≤ _; simp only [List.length]; decide) (fun C => ?_); refine h_run rfl ?_; (repeat (first | refine h_guard_y rfl nopre rfl ?_ | refine h_guard_n rfl nopre rfl ?_))
 refine h_make eI 0 rfl rfl rfl rfl (s := 1) rfl (by decide) rfl (by unfold maxLen; omega) (by show 8 * _ ≤ _; omega) ?_
 intro w1 b hb hx1 ho1
 refine ops_run nopre rfl ?_; (repeat (first | refine h_guard_y rfl nopre rfl ?_ | refine h_guard_n rfl nopre rfl ?_))
 refine h_loop [0, 3, 4] (fun i : Nat => [(0, .slice a xs.length c), (3, .slice (some ⟨b, 0, none⟩) xs.length xs.length), (4, .int .i64 (i : Int))])
  (fun i w' => i ≤ xs.length ∧ Own w' w.heap.size 3 1 eI (some ⟨b, 0, none⟩) xs.length (fillUp 0 xs i) ∧ Ext w w') (fun i => xs.length - i) 0 rfl ⟨by omega, by rw [fillUp_zero]; exact ho1, hx1⟩ ?_
 rintro i w2 ⟨hi, ho2, hx2⟩ IH C
 have ha2 := ha.ext hx2
 refine h_run rfl ?_; (repeat (first | refine h_guard_y rfl nopre rfl ?_ | refine h_guard_n rfl nopre rfl ?_))
 refine h_cond_dec (fun hlt => ?_) (fun hlt => ?_)
 ·have hlt' : i < xs.length := by omega
  refine h_cond_t rfl rfl ?_; (repeat (first | refine h_guard_y rfl nopre rfl ?_ | refine h_guard_n rfl nopre rfl ?_))
  refine h_load (ld_elN Tryz.ttOk rfl ha2 hlt' (by decide)) rfl ?_; (repeat (first | refine h_guard_y rfl nopre rfl ?_ | refine h_guard_n rfl nopre rfl ?_))
  obtain ⟨q1, q2, q3, q4⟩ := ho2.store0 (z := (i : Int)) (y := xs.getD i default) eI_ok (by simpa using fillUp_get 0 xs hlt') (by decide) rfl
  refine h_store rfl rfl rfl q1 q2 rfl ?_; (repeat (first | refine h_guard_y rfl nopre rfl ?_ | refine h_guard_n rfl nopre rfl ?_))
  refine IH (i + 1) _ _ _ (by omega) rfl ⟨by omega, ?_, hx2.own ho2 (Nat.le_refl _) q4⟩
  rw [← fillUp_set 0 xs hlt' (getD_some hlt')]
  exact q3
 ·refine h_cond_f rfl rfl ?_; (repeat (first | refine h_guard_y rfl nopre rfl ?_ | refine h_guard_n rfl nopre rfl ?_))
  obtain rfl : i = xs.length := by omega
  rw [fillUp_all] at ho2
  exact ⟨b, rfl, ho2, hx2⟩
theorem markIntS_ok {B : Nat} (a : Option Addr) (c : Nat) (xs : List Int) (k : Int) (w : World) (ha : Own w B 3 1 eI a c xs) (hl : xs.length < 1000000000) (hk : 0 ≤ k) (hk2 : k < 1000000000000000) :
  Ret Tryz.prog 55 [.slice a xs.length c, .int .i64 k] w (fun v w' => v = .int .i64 (k + xs.length) ∧ Own w' B 3 1 eI a c (marks k xs.length) ∧ w.grownBy w' (blk a)) := by
 refine enter Tryz.S55ok _ _ rfl rfl (by show _ ≤ _; simp only [List.length]; decide) (fun C => ?_); refine h_run rfl ?_; (repeat (first | refine h_guard_y rfl nopre rfl ?_ | refine h_guard_n rfl nopre rfl ?_))
 refine h_loop [0, 1, 5] (fun i : Nat => [(0, .slice a xs.length c), (1, .int .i64 (k + i)), (5, .int .i64 (i : Int))])
  (fun i w' => i ≤ xs.length ∧ Own w' B 3 1 eI a c (markUp k i xs) ∧ w.grownBy w' (blk a)) (fun i => xs.length - i) 0 (by rw [show k + ((0 : Nat) : Int) = k by omega]; rfl) ⟨by omega, by rw [markUp_zero]; exact ha, grown_refl _ _⟩ ?_
 rintro i w2 ⟨hi, ho2, hx2⟩ IH C
 have hlen := markUp_len (k := k) hi
 have hs2 := ho2.sl eI_ok.len
 rw [hlen] at hs2
 refine h_run rfl ?_; (repeat (first | refine h_guard_y rfl nopre rfl ?_ | refine h_guard_n rfl nopre rfl ?_))
 refine h_cond_dec (fun hlt => ?_) (fun hlt => ?_)
 ·have hlt' : i < xs.length := by omega
  refine h_cond_t rfl rfl ?_; (repeat (first | refine h_guard_y rfl nopre rfl ?_ | refine h_guard_n rfl nopre rfl ?_))
  obtain ⟨q1, q2, q3, q4⟩ := ho2.store0 (z := (i : Int)) (y := k + i) eI_ok (by simpa using getD_some (by omega)) (by decide) rfl
  refine h_store rfl rfl rfl q1 q2 rfl ?_; (repeat (first | refine h_guard_y rfl nopre rfl ?_ | refine h_guard_n rfl nopre rfl ?_))
  refine IH (i + 1) _ _ _ (by omega) (by rw [show k + ((i + 1 : Nat) : Int) = k + i + 1 by omega]; rfl) ⟨by omega, ?_, grown_trans hx2 q4⟩
  rw [← markUp_succ hlt']
  exact q3
 ·refine h_cond_f rfl rfl ?_; (repeat (first | refine h_guard_y rfl nopre rfl ?_ | refine h_guard_n rfl nopre rfl ?_))
  obtain rfl : i = xs.length := by omega
  rw [markUp_all] at ho2
  exact ⟨rfl, ho2, hx2⟩
theorem heldIntS_ok (a : Option Addr) (c n : Nat) (k : Int) (w : World) (ha : Sl w a n 1 (fL eI (marks k n))) (hl : n < 1000000000) (hk : 0 ≤ k) (hk2 : k < 1000000000000000) :
  Ret Tryz.prog 58 [.slice a n c, .int .i64 k] w (fun v w' => v = .int .i64 (k + n) ∧ Ext w w') := by
 refine enter Tryz.S58ok _ _ rfl rfl (by show _ ≤ _; simp only [List.length]; decide) (fun C => ?_); refine h_run rfl ?_; (repeat (first | refine h_guard_y rfl nopre rfl ?_ | refine h_guard_n rfl nopre rfl ?_))
 refine h_loop [0, 1, 5] (fun i : Nat => [(0, .slice a n c), (1, .int .i64 (k + i)), (5, .int .i64 (i : Int))])
  (fun i w' => i ≤ n ∧ Ext w w') (fun i => n - i) 0 (by rw [show k + ((0 : Nat) : Int) = k by omega]; rfl) ⟨by omega, Ext.refl _⟩ ?_
 rintro i w2 ⟨hi, hx2⟩ IH C
 have ha2 := ha.ext hx2
 refine h_run rfl ?_; (repeat (first | refine h_guard_y rfl nopre rfl ?_ | refine h_guard_n rfl nopre rfl ?_))
 refine h_cond_dec (fun hlt => ?_) (fun hlt => ?_)
 ·have hlt' : i < n := by omega
  refine h_cond_t rfl rfl ?_; (repeat (first | refine h_guard_y rfl nopre rfl ?_ | refine h_guard_n rfl nopre rfl ?_))
  refine h_load (ld_elN Tryz.ttOk rfl ha2 hlt' (by decide)) rfl ?_; (repeat (first | refine h_guard_y rfl nopre rfl ?_ | refine h_guard_n rfl nopre rfl ?_))
  refine h_cond_dec (fun hne => ?_) (fun hne => ?_)
  ·exact absurd (marks_get hlt') hne
  ·refine h_cond_f rfl rfl ?_; (repeat (first | refine h_guard_y rfl nopre rfl ?_ | refine h_guard_n rfl nopre rfl ?_))
   exact IH (i + 1) _ _ _ (by omega) (by rw [show k + ((i + 1 : Nat) : Int) = k + i + 1 by omega]; rfl) ⟨by omega, hx2⟩
 ·refine h_cond_f rfl rfl ?_; (repeat (first | refine h_guard_y rfl nopre rfl ?_ | refine h_guard_n rfl nopre rfl ?_))
  obtain rfl : i = n := by omega
  exact ⟨rfl, hx2⟩
end Go.Proofs
