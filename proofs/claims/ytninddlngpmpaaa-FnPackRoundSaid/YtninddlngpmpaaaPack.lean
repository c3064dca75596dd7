/- The contracts of PackBits and UnpackBits on both sides; under the stated conditions. -/
import Derived.Test.YtninddlngpmpaaaBase
set_option linter.all false
namespace Go.Proofs
open Go.Xw
set_option maxRecDepth 100000

/-- the sum of the first i -/
def psum (xs : List Int) : Nat → Int
  | 0 => 0
  | i + 1 => psum xs i + xs.getD i default
def widRow (xs : List Int) (i : Nat) : Prop := ∀ j, j < i → 1 ≤ xs.getD j default ∧ xs.getD j default ≤ 4
def widOk (xs : List Int) : Prop := widRow xs xs.length ∧ psum xs xs.length ≤ 20
noncomputable def widB (xs : List Int) : Bool := @decide (widOk xs) (Classical.propDecidable _)

theorem widB_pos {xs : List Int} (h : widOk xs) : widB xs = true := by unfold widB; simp [h]
theorem widB_neg {xs : List Int} (h : ¬ widOk xs) : widB xs = false := by unfold widB; simp [h]
theorem widB_iff {xs : List Int} : widB xs = true ↔ widOk xs := by unfold widB; simp

theorem psum_le {xs : List Int} {i : Nat} (h : widRow xs i) : (i : Int) ≤ psum xs i ∧ psum xs i ≤ 4 * i := by
  induction i with
  | zero => simp [psum]
  | succ i ih =>
    have h1 := ih fun j hj => h j (by omega)
    have h2 := h i (by omega)
    simp only [psum]
    omega
theorem psum_mono {xs : List Int} {n : Nat} (h : widRow xs n) : ∀ {i : Nat}, i ≤ n → psum xs i ≤ psum xs n := by
  intro i hi
  induction n with
  | zero => obtain rfl : i = 0 := by omega
            exact Int.le_refl _
  | succ n ih =>
    rcases Nat.lt_or_ge n i with h1 | h1
    · obtain rfl : i = n + 1 := by omega
      exact Int.le_refl _
    · have h2 := ih (fun j hj => h j (by omega)) h1
      have h3 := h n (by omega)
      simp only [psum]
      omega

theorem widthsOk_ok (a : Option Addr) (c : Nat) (xs : List Int) (w : World) (ha : Sl w a xs.length 1 (fL eI xs)) (hl : xs.length < 1000000000) :
    Ret Try.prog 68 [.slice a xs.length c] w (fun v w' => v = .bool (widB xs) ∧ w' = w) := by
  refine enter Try.S68ok _ _ rfl rfl (by show _ ≤ _; simp only [List.length]; decide) (fun C => ?_); refine h_run rfl ?_; (repeat (first | refine h_guard_y rfl nopre rfl ?_ | refine h_guard_n rfl nopre rfl ?_))
  refine h_loop [0, 3, 6, 7, 8] (fun i : Nat => [(0, .slice a xs.length c), (3, .int .i64 (psum xs i)), (6, .slice a xs.length c), (7, .int .i64 (xs.length : Int)), (8, .int .i64 (i : Int))])
    (fun i w' => i ≤ xs.length ∧ widRow xs i ∧ w' = w) (fun i => xs.length - i) 0 rfl ⟨by omega, fun j hj => by omega, rfl⟩ ?_
  rintro i w1 ⟨hi, hall, rfl⟩ IH C
  have hb := psum_le hall
  refine h_run rfl ?_; (repeat (first | refine h_guard_y rfl nopre rfl ?_ | refine h_guard_n rfl nopre rfl ?_))
  refine h_cond_dec (fun hlt => ?_) (fun hlt => ?_)
  · refine h_cond_t rfl rfl ?_; (repeat (first | refine h_guard_y rfl nopre rfl ?_ | refine h_guard_n rfl nopre rfl ?_))
    have hlt' : i < xs.length := by omega
    refine h_load (ld_elN Try.ttOk rfl ha hlt' (by decide)) rfl ?_; (repeat (first | refine h_guard_y rfl nopre rfl ?_ | refine h_guard_n rfl nopre rfl ?_))
    refine h_call rfl Try.func75 (by kernel_rfl) rfl (inRange_ok _ _ _ _) ?_
    rintro _ w' ⟨rfl, rfl⟩
    refine ops_run nopre rfl ?_; (repeat (first | refine h_guard_y rfl nopre rfl ?_ | refine h_guard_n rfl nopre rfl ?_))
    refine h_cond_ndec (fun h3 => ?_) (fun h3 => ?_)
    · refine h_cond_t rfl rfl ?_; (repeat (first | refine h_guard_y rfl nopre rfl ?_ | refine h_guard_n rfl nopre rfl ?_))
      refine ⟨?_, rfl⟩
      rw [widB_neg fun h => h3 (h.1 i hlt')]
    · have h4 : 1 ≤ xs.getD i default ∧ xs.getD i default ≤ 4 := h3
      have h5 : fL eI xs i 0 = .int .i64 (xs.getD i default) := rfl
      refine h_cond_f rfl rfl ?_; (repeat (first | refine h_guard_y rfl nopre rfl ?_ | refine h_guard_n rfl nopre rfl ?_))
      exact IH (i + 1) _ _ _ (by omega) rfl ⟨by omega, fun j hj => by
        rcases Nat.lt_or_ge j i with h | h
        · exact hall j h
        · obtain rfl : j = i := by omega
          exact h3, rfl⟩
  · refine h_cond_f rfl rfl ?_; (repeat (first | refine h_guard_y rfl nopre rfl ?_ | refine h_guard_n rfl nopre rfl ?_))
    obtain rfl : i = xs.length := by omega
    refine ⟨?_, rfl⟩
    unfold widB
    congr 1
    simp [widOk, hall]
theorem l11Widths_ok (a : Option Addr) (c : Nat) (xs : List Int) (w : World) (ha : Sl w a xs.length 1 (fL eI xs)) (hl : xs.length < 1000000000) :
    Ret Try.prog 67 [.slice a xs.length c] w (fun v w' => v = .bool (widB xs) ∧ w' = w) := by
  refine enter Try.S67ok _ _ rfl rfl (by show _ ≤ _; simp only [List.length]; decide) (fun C => ?_); refine h_run rfl ?_; (repeat (first | refine h_guard_y rfl nopre rfl ?_ | refine h_guard_n rfl nopre rfl ?_))
  refine h_loop [0, 3, 4] (fun i : Nat => [(0, .slice a xs.length c), (3, .int .i64 (psum xs i)), (4, .int .i64 (i : Int))])
    (fun i w' => i ≤ xs.length ∧ widRow xs i ∧ psum xs i ≤ 20 ∧ w' = w) (fun i => xs.length - i) 0 rfl ⟨by omega, fun j hj => by omega, by simp [psum], rfl⟩ ?_
  rintro i w1 ⟨hi, hall, hsum, rfl⟩ IH C
  have hb := psum_le hall
  refine h_run rfl ?_; (repeat (first | refine h_guard_y rfl nopre rfl ?_ | refine h_guard_n rfl nopre rfl ?_))
  refine h_cond_dec (fun hlt => ?_) (fun hlt => ?_)
  · refine h_cond_t rfl rfl ?_; (repeat (first | refine h_guard_y rfl nopre rfl ?_ | refine h_guard_n rfl nopre rfl ?_))
    have hlt' : i < xs.length := by omega
    refine h_load (ld_elN Try.ttOk rfl ha hlt' (by decide)) rfl ?_; (repeat (first | refine h_guard_y rfl nopre rfl ?_ | refine h_guard_n rfl nopre rfl ?_))
    refine h_call rfl Try.func72 (by kernel_rfl) rfl (l01In_ok _ _ _ _) ?_
    rintro _ w' ⟨rfl, rfl⟩
    refine ops_run nopre rfl ?_; (repeat (first | refine h_guard_y rfl nopre rfl ?_ | refine h_guard_n rfl nopre rfl ?_))
    refine h_cond_ndec (fun h3 => ?_) (fun h3 => ?_)
    · refine h_cond_t rfl rfl ?_; (repeat (first | refine h_guard_y rfl nopre rfl ?_ | refine h_guard_n rfl nopre rfl ?_))
      refine ⟨?_, rfl⟩
      rw [widB_neg fun h => h3 (h.1 i hlt')]
    · have hall' : widRow xs (i + 1) := fun j hj => by
        rcases Nat.lt_or_ge j i with h | h
        · exact hall j h
        · obtain rfl : j = i := by omega
          exact h3
      have h4 : 1 ≤ xs.getD i default ∧ xs.getD i default ≤ 4 := h3
      refine h_cond_f rfl rfl ?_; (repeat (first | refine h_guard_y rfl nopre rfl ?_ | refine h_guard_n rfl nopre rfl ?_))
      refine h_load (ld_elN Try.ttOk rfl ha hlt' (by decide)) rfl ?_; (repeat (first | refine h_guard_y rfl nopre rfl ?_ | refine h_guard_n rfl nopre rfl ?_))
      refine h_cond_dec (fun h6 => ?_) (fun h6 => ?_)
      · refine h_cond_t rfl rfl ?_; (repeat (first | refine h_guard_y rfl nopre rfl ?_ | refine h_guard_n rfl nopre rfl ?_))
        refine ⟨?_, rfl⟩
        rw [widB_neg fun h => ?_]
        have := psum_mono h.1 (i := i + 1) (by omega)
        have h7 := h.2
        simp only [psum] at this
        omega
      · refine h_cond_f rfl rfl ?_; (repeat (first | refine h_guard_y rfl nopre rfl ?_ | refine h_guard_n rfl nopre rfl ?_))
        exact IH (i + 1) _ _ _ (by omega) rfl ⟨by omega, hall', by simp only [psum]; omega, rfl⟩
  · refine h_cond_f rfl rfl ?_; (repeat (first | refine h_guard_y rfl nopre rfl ?_ | refine h_guard_n rfl nopre rfl ?_))
    obtain rfl : i = xs.length := by omega
    refine ⟨?_, rfl⟩
    rw [widB_pos ⟨hall, hsum⟩]

theorem widthMask_ok (x : Int) (w : World) (h : 1 ≤ x ∧ x ≤ 4) : Ret Try.prog 69 [.int .i64 x] w (fun v w' => v = .int .i64 (2 ^ x.toNat - 1) ∧ w' = w) := by
  have hp : (2 : Int) ≤ 2 ^ x.toNat ∧ (2 : Int) ^ x.toNat ≤ 16 := by
    have : x = 1 ∨ x = 2 ∨ x = 3 ∨ x = 4 := by omega
    rcases this with rfl | rfl | rfl | rfl <;> decide
  have h64 : (IntKind.i64.bits : Int) = 64 := rfl
  refine enter Try.S69ok _ _ rfl rfl (by show _ ≤ _; simp only [List.length]; decide) (fun C => ?_); refine h_run rfl ?_; (repeat (first | refine h_guard_y rfl nopre rfl ?_ | refine h_guard_n rfl nopre rfl ?_))
  exact ⟨by rw [Int.one_mul], rfl⟩

/-- the first i words packed -/
def pk (xs ys : List Int) : Nat → Int
  | 0 => 0
  | i + 1 => pk xs ys i + ys.getD i default % 2 ^ (xs.getD i default).toNat * 2 ^ (psum xs i).toNat

theorem pow_psum {xs : List Int} {i : Nat} (h : widRow xs (i + 1)) : (2 : Int) ^ (psum xs (i + 1)).toNat = 2 ^ (xs.getD i default).toNat * 2 ^ (psum xs i).toNat := by
  have h1 := psum_le (xs := xs) (i := i) fun j hj => h j (by omega)
  have h2 := h i (by omega)
  rw [← Int.pow_add]
  congr 1
  simp only [psum]
  omega
theorem pow_pos_ (n : Nat) : (0 : Int) < 2 ^ n := Int.pow_pos (by decide)

theorem pk_lt {xs ys : List Int} {i : Nat} (h : widRow xs i) : 0 ≤ pk xs ys i ∧ pk xs ys i < 2 ^ (psum xs i).toNat := by
  induction i with
  | zero => simp [pk, psum]
  | succ i ih =>
    have h1 := ih fun j hj => h j (by omega)
    rw [pow_psum h]
    simp only [pk]
    have hp := pow_pos_ (psum xs i).toNat
    have hq := pow_pos_ (xs.getD i default).toNat
    have hm0 : 0 ≤ ys.getD i default % 2 ^ (xs.getD i default).toNat := Int.emod_nonneg _ (by omega)
    have hm1 : ys.getD i default % 2 ^ (xs.getD i default).toNat < 2 ^ (xs.getD i default).toNat := Int.emod_lt_of_pos _ hq
    generalize (2 : Int) ^ (psum xs i).toNat = P at *
    generalize (2 : Int) ^ (xs.getD i default).toNat = Q at *
    generalize ys.getD i default % Q = m at *
    have h2 : m * P ≤ (Q - 1) * P := Int.mul_le_mul_of_nonneg_right (by omega) (by omega)
    have h3 : 0 ≤ m * P := Int.mul_nonneg hm0 (by omega)
    rw [Int.sub_mul, Int.one_mul] at h2
    omega

theorem pow_le20 {z : Int} (h0 : 0 ≤ z) (h : z ≤ 20) : (2 : Int) ^ z.toNat ≤ 1048576 := by
  have : (2 : Nat) ^ z.toNat ≤ 2 ^ 20 := Nat.pow_le_pow_right (by decide) (by omega)
  have h2 : ((2 ^ z.toNat : Nat) : Int) ≤ ((2 ^ 20 : Nat) : Int) := Int.ofNat_le.2 this
  simpa using h2

theorem or_add {p m : Int} {s : Nat} (h0 : 0 ≤ p) (h1 : p < 2 ^ s) (hm : 0 ≤ m) (hb : m * 2 ^ s ≤ 1048576) (hs : (2 : Int) ^ s ≤ 1048576) : bits .or .i64 p (m * 2 ^ s) = p + m * 2 ^ s := by
  obtain ⟨p', rfl⟩ := Int.eq_ofNat_of_zero_le h0
  obtain ⟨m', rfl⟩ := Int.eq_ofNat_of_zero_le hm
  have e : (m' : Int) * 2 ^ s = ((2 ^ s * m' : Nat) : Int) := by rw [Nat.mul_comm]; simp
  have e2 : (2 : Int) ^ s = ((2 ^ s : Nat) : Int) := by simp
  rw [e] at hb ⊢
  rw [e2] at h1 hs
  rw [bits_or_nat _ _ (by omega) (by omega), Nat.or_comm, ← Nat.two_pow_add_eq_or_of_lt (by omega)]
  omega

/-- what a round adds -/
theorem pk_step {xs ys : List Int} {i : Nat} (h : widRow xs (i + 1)) (hs : psum xs (i + 1) ≤ 20) :
    bits .and .i64 (ys.getD i default) (2 ^ (xs.getD i default).toNat - 1) = ys.getD i default % 2 ^ (xs.getD i default).toNat ∧ 0 ≤ psum xs i ∧ psum xs i ≤ 20 ∧
    0 ≤ ys.getD i default % 2 ^ (xs.getD i default).toNat * 2 ^ (psum xs i).toNat ∧ 0 ≤ pk xs ys i ∧ pk xs ys (i + 1) ≤ 1048576 ∧
    bits .or .i64 (pk xs ys i) (ys.getD i default % 2 ^ (xs.getD i default).toNat * 2 ^ (psum xs i).toNat) = pk xs ys (i + 1) := by
  have hi : widRow xs i := fun j hj => h j (by omega)
  have h1 := psum_le hi
  have h2 := h i (by omega)
  have h3 : psum xs (i + 1) = psum xs i + xs.getD i default := rfl
  have h4 := pk_lt (ys := ys) hi
  have h5 := pk_lt (ys := ys) h
  have h6 := pow_le20 (z := psum xs (i + 1)) (by omega) hs
  have h7 := pow_le20 (z := psum xs i) (by omega) (by omega)
  have hm0 : 0 ≤ ys.getD i default % 2 ^ (xs.getD i default).toNat := Int.emod_nonneg _ (by have := pow_pos_ (xs.getD i default).toNat; omega)
  have hp : 0 ≤ ys.getD i default % 2 ^ (xs.getD i default).toNat * 2 ^ (psum xs i).toNat := Int.mul_nonneg hm0 (by have := pow_pos_ (psum xs i).toNat; omega)
  have h8 : pk xs ys (i + 1) = pk xs ys i + ys.getD i default % 2 ^ (xs.getD i default).toNat * 2 ^ (psum xs i).toNat := rfl
  refine ⟨bits_and_mask _ _ (by omega), by omega, by omega, hp, h4.1, by omega, ?_⟩
  rw [or_add h4.1 h4.2 hm0 (by omega) h7, h8]

noncomputable def packV (xs ys : List Int) : Int := if xs.length = ys.length ∧ widB xs = true then pk xs ys xs.length else -1

theorem implPackBits_ok (a b : Option Addr) (ca cb : Nat) (xs ys : List Int) (w : World) (ha : Sl w a xs.length 1 (fL eI xs)) (hb : Sl w b ys.length 1 (fL eI ys)) (hl : xs.length < 1000000000) :
    Ret Try.prog 18 [.slice a xs.length ca, .slice b ys.length cb] w (fun v w' => v = .int .i64 (packV xs ys) ∧ Ext w w') := by
  refine enter Try.S18ok _ _ rfl rfl (by show _ ≤ _; simp only [List.length]; decide) (fun C => ?_); refine h_run rfl ?_; (repeat (first | refine h_guard_y rfl nopre rfl ?_ | refine h_guard_n rfl nopre rfl ?_))
  refine h_guard_by (fun h1 => ?_) (fun h1 => ?_); all_goals (rw [h1]; (first | replace h1 := of_decide_eq_true h1 | replace h1 := of_decide_eq_false h1 | skip); repeat (first | refine h_guard_y rfl nopre rfl ?_ | refine h_guard_n rfl nopre rfl ?_))
  · refine h_cond_t rfl rfl ?_; (repeat (first | refine h_guard_y rfl nopre rfl ?_ | refine h_guard_n rfl nopre rfl ?_))
    exact ⟨by unfold packV; rw [if_neg (by omega)], Ext.refl _⟩
  · have hlen : xs.length = ys.length := by omega
    refine h_call rfl Try.func68 (by kernel_rfl) rfl (widthsOk_ok _ _ _ _ ha hl) ?_
    rintro _ w ⟨rfl, rfl⟩
    refine ops_run nopre rfl ?_; (repeat (first | refine h_guard_y rfl nopre rfl ?_ | refine h_guard_n rfl nopre rfl ?_))
    cases hw : widB xs
    · refine h_cond_t rfl rfl ?_; (repeat (first | refine h_guard_y rfl nopre rfl ?_ | refine h_guard_n rfl nopre rfl ?_))
      exact ⟨by unfold packV; rw [if_neg (by simp [hw])], Ext.refl _⟩
    · have hok := widB_iff.1 hw
      refine h_cond_f rfl rfl ?_; (repeat (first | refine h_guard_y rfl nopre rfl ?_ | refine h_guard_n rfl nopre rfl ?_))
      refine h_loop [0, 1, 5, 6, 19, 20, 21] (fun i : Nat => [(0, .slice a xs.length ca), (1, .slice b ys.length cb), (5, .int .i64 (pk xs ys i)), (6, .int .i64 (psum xs i)), (19, .slice a xs.length ca), (20, .int .i64 (xs.length : Int)), (21, .int .i64 (i : Int))])
        (fun i w' => i ≤ xs.length ∧ Ext w w') (fun i => xs.length - i) 0 rfl ⟨by omega, Ext.refl _⟩ ?_
      rintro i w1 ⟨hi, hx⟩ IH C
      have ha1 := ha.ext hx
      have hb1 := hb.ext hx
      refine h_run rfl ?_; (repeat (first | refine h_guard_y rfl nopre rfl ?_ | refine h_guard_n rfl nopre rfl ?_))
      refine h_cond_dec (fun hlt => ?_) (fun hlt => ?_)
      · have hlt' : i < xs.length := by omega
        have hst := pk_step (ys := ys) (i := i) (fun j hj => hok.1 j (by omega)) (Int.le_trans (psum_mono hok.1 (by omega)) hok.2)
        have hw4 := hok.1 i hlt'
        have h3 : psum xs (i + 1) = psum xs i + xs.getD i default := rfl
        refine h_cond_t rfl rfl ?_; (repeat (first | refine h_guard_y rfl nopre rfl ?_ | refine h_guard_n rfl nopre rfl ?_))
        refine h_load (ld_elN Try.ttOk rfl ha1 hlt' (by decide)) rfl ?_; (repeat (first | refine h_guard_y rfl nopre rfl ?_ | refine h_guard_n rfl nopre rfl ?_))
        refine h_drawE (by kernel_rfl) (by kernel_rfl) rfl rfl (fun w2 hd => ?_); (repeat (first | refine h_guard_yd rfl rfl rfl ?_ | refine h_guard_nd rfl rfl rfl ?_))
        refine h_loadd (fun wx hwx => ld_elN Try.ttOk rfl (hb1.ext hwx) (by omega) (by decide)) rfl rfl ?_; (repeat (first | refine h_guard_yd rfl rfl rfl ?_ | refine h_guard_nd rfl rfl rfl ?_))
        refine h_callq rfl Try.func69 (by kernel_rfl) rfl (widthMask_ok _ _ hw4) ?_
        rintro _ w2 ⟨rfl, rfl⟩
        refine ⟨fun _ => hd, ?_⟩
        have key : bits .or .i64 (pk xs ys i) (bits .and .i64 (ys.getD i default) (2 ^ (xs.getD i default).toNat - 1) * 2 ^ (psum xs i).toNat) = pk xs ys (i + 1) := by rw [hst.1, hst.2.2.2.2.2.2]
        have h8 : pk xs ys (i + 1) = pk xs ys i + ys.getD i default % 2 ^ (xs.getD i default).toNat * 2 ^ (psum xs i).toNat := rfl
        have h64 : (IntKind.i64.bits : Int) = 64 := rfl
        have e1 := hst.1
        rw [← e1] at hst h8
        refine ops_rund rfl rfl ?_; (repeat (first | refine h_guard_yd rfl rfl rfl ?_ | refine h_guard_nd rfl rfl rfl ?_))
        exact IH (i + 1) _ _ _ (by omega) (by rw [← key]; rfl) ⟨by omega, hx.trans hd⟩
      · obtain rfl : i = xs.length := by omega
        refine h_cond_f rfl rfl ?_; (repeat (first | refine h_guard_y rfl nopre rfl ?_ | refine h_guard_n rfl nopre rfl ?_))
        exact ⟨by unfold packV; rw [if_pos ⟨hlen, hw⟩], hx⟩
theorem specPackBits_ok (a b : Option Addr) (ca cb : Nat) (xs ys : List Int) (w : World) (ha : Sl w a xs.length 1 (fL eI xs)) (hb : Sl w b ys.length 1 (fL eI ys)) (hl : xs.length < 1000000000) :
    Ret Try.prog 17 [.slice a xs.length ca, .slice b ys.length cb] w (fun v w' => v = .int .i64 (packV xs ys) ∧ Ext w w') := by
  refine enter Try.S17ok _ _ rfl rfl (by show _ ≤ _; simp only [List.length]; decide) (fun C => ?_); refine h_run rfl ?_; (repeat (first | refine h_guard_y rfl nopre rfl ?_ | refine h_guard_n rfl nopre rfl ?_))
  refine h_guard_by (fun h1 => ?_) (fun h1 => ?_); all_goals (rw [h1]; (first | replace h1 := of_decide_eq_true h1 | replace h1 := of_decide_eq_false h1 | skip); repeat (first | refine h_guard_y rfl nopre rfl ?_ | refine h_guard_n rfl nopre rfl ?_))
  · refine h_cond_t rfl rfl ?_; (repeat (first | refine h_guard_y rfl nopre rfl ?_ | refine h_guard_n rfl nopre rfl ?_))
    exact ⟨by unfold packV; rw [if_neg (by omega)], Ext.refl _⟩
  · have hlen : xs.length = ys.length := by omega
    refine h_call rfl Try.func67 (by kernel_rfl) rfl (l11Widths_ok _ _ _ _ ha hl) ?_
    rintro _ w ⟨rfl, rfl⟩
    refine ops_run nopre rfl ?_; (repeat (first | refine h_guard_y rfl nopre rfl ?_ | refine h_guard_n rfl nopre rfl ?_))
    cases hw : widB xs
    · refine h_cond_t rfl rfl ?_; (repeat (first | refine h_guard_y rfl nopre rfl ?_ | refine h_guard_n rfl nopre rfl ?_))
      exact ⟨by unfold packV; rw [if_neg (by simp [hw])], Ext.refl _⟩
    · have hok := widB_iff.1 hw
      refine h_cond_f rfl rfl ?_; (repeat (first | refine h_guard_y rfl nopre rfl ?_ | refine h_guard_n rfl nopre rfl ?_))
      refine h_loop [0, 1, 5, 6, 7] (fun i : Nat => [(0, .slice a xs.length ca), (1, .slice b ys.length cb), (5, .int .i64 (pk xs ys i)), (6, .int .i64 (psum xs i)), (7, .int .i64 (i : Int))])
        (fun i w' => i ≤ xs.length ∧ Ext w w') (fun i => xs.length - i) 0 rfl ⟨by omega, Ext.refl _⟩ ?_
      rintro i w1 ⟨hi, hx⟩ IH C
      have ha1 := ha.ext hx
      have hb1 := hb.ext hx
      refine h_run rfl ?_; (repeat (first | refine h_guard_y rfl nopre rfl ?_ | refine h_guard_n rfl nopre rfl ?_))
      refine h_cond_dec (fun hlt => ?_) (fun hlt => ?_)
      · have hlt' : i < xs.length := by omega
        have hst := pk_step (ys := ys) (i := i) (fun j hj => hok.1 j (by omega)) (Int.le_trans (psum_mono hok.1 (by omega)) hok.2)
        have hw4 := hok.1 i hlt'
        have h3 : psum xs (i + 1) = psum xs i + xs.getD i default := rfl
        have hp : (2 : Int) ≤ 2 ^ (xs.getD i default).toNat ∧ (2 : Int) ^ (xs.getD i default).toNat ≤ 16 := by
          have : xs.getD i default = 1 ∨ xs.getD i default = 2 ∨ xs.getD i default = 3 ∨ xs.getD i default = 4 := by omega
          rcases this with h | h | h | h <;> rw [h] <;> decide
        have key : pk xs ys i + bits .and .i64 (ys.getD i default) (1 * 2 ^ (xs.getD i default).toNat - 1) * 2 ^ (psum xs i).toNat = pk xs ys (i + 1) := by rw [Int.one_mul, hst.1]; rfl
        have h8 : pk xs ys (i + 1) = pk xs ys i + ys.getD i default % 2 ^ (xs.getD i default).toNat * 2 ^ (psum xs i).toNat := rfl
        have h64 : (IntKind.i64.bits : Int) = 64 := rfl
        have e1 : bits .and .i64 (ys.getD i default) (1 * 2 ^ (xs.getD i default).toNat - 1) = ys.getD i default % 2 ^ (xs.getD i default).toNat := by rw [Int.one_mul, hst.1]
        have hst2 := hst.2
        rw [← e1] at hst2 h8
        refine h_cond_t rfl rfl ?_; (repeat (first | refine h_guard_y rfl nopre rfl ?_ | refine h_guard_n rfl nopre rfl ?_))
        refine h_drawE (by kernel_rfl) (by kernel_rfl) rfl rfl (fun w2 hd => ?_); (repeat (first | refine h_guard_yd rfl rfl rfl ?_ | refine h_guard_nd rfl rfl rfl ?_))
        refine h_loadd (fun wx hwx => ld_elN Try.ttOk rfl (hb1.ext hwx) (by omega) (by decide)) rfl rfl ?_; (repeat (first | refine h_guard_yd rfl rfl rfl ?_ | refine h_guard_nd rfl rfl rfl ?_))
        refine h_loadd (fun wx hwx => ld_elN Try.ttOk rfl (ha1.ext hwx) (by omega) (by decide)) rfl rfl ?_; (repeat (first | refine h_guard_yd rfl rfl rfl ?_ | refine h_guard_nd rfl rfl rfl ?_))
        refine h_load (ld_elN Try.ttOk rfl (ha1.ext hd) (by omega) (by decide)) rfl ?_; (repeat (first | refine h_guard_y rfl nopre rfl ?_ | refine h_guard_n rfl nopre rfl ?_))
        exact IH (i + 1) _ _ _ (by omega) (by rw [← key]; rfl) ⟨by omega, hx.trans hd⟩
      · obtain rfl : i = xs.length := by omega
        refine h_cond_f rfl rfl ?_; (repeat (first | refine h_guard_y rfl nopre rfl ?_ | refine h_guard_n rfl nopre rfl ?_))
        exact ⟨by unfold packV; rw [if_pos ⟨hlen, hw⟩], hx⟩

end Go.Proofs
