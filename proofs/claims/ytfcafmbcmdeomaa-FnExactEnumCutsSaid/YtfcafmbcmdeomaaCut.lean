/- The contracts of the functions that tell whether a list is a cut of a node; each under its stated conditions. -/
import Derived.Test.YtfcafmbcmdeomaaCone
import Derived.Test.YtfcafmbcmdeomaaFam
import Derived.Test.YtfcafmbcmdeomaaCutLaw
set_option linter.all false
namespace Go.Proofs
open Go.Xw
set_option maxRecDepth 100000
set_option maxHeartbeats 1000000
attribute [local irreducible] Holds elemAddr
theorem bset_mono' {B : List Bool} {i k : Nat} (h : B.getD k default = true) : (B.set i true).getD k default = true := by
  by_cases hi : i < B.length
  · exact (bget_set hi).2 (.inr h)
  · rw [List.set_eq_of_length_le (by omega)]; exact h

theorem mem_getD_iff {xs : List Int} {x : Int} : x ∈ xs ↔ ∃ i, i < xs.length ∧ xs.getD i default = x := by
  constructor
  · intro h
    obtain ⟨i, hi, rfl⟩ := List.mem_iff_getElem.1 h
    exact ⟨i, hi, by simp [List.getD_eq_getElem?_getD, hi]⟩
  · rintro ⟨i, hi, rfl⟩; exact getD_mem hi
theorem hasInt_h (a : Option Addr) (c m : Nat) (xs : List Int) (hm : xs.length = m) (x : Int) (w0 : World) (hR : Rd w0 a 1 eI xs) (hl : m ≤ 1000000000) :
    Ret Try.prog 209 [.slice a m c, .int .i64 x] w0 (fun v w' => v = .bool (decide (x ∈ xs)) ∧ Ext w0 w') := by
  subst hm
  refine enter Try.S209ok _ _ rfl rfl (by show _ ≤ _; simp only [List.length]; decide) (fun C => ?_); have hp := Hp.nil w0; refine h_run rfl ?_; skip
  refine h_loop [1, 7, 8, 9] (fun i : Nat => [(1, .int .i64 x), (7, .slice a xs.length c), (8, .int .i64 xs.length), (9, .int .i64 (i : Int))])
    (fun i w' => i ≤ xs.length ∧ (∀ j, j < i → xs.getD j default ≠ x) ∧ Hp w0 w' []) (fun i => xs.length - i) 0 rfl ⟨by omega, fun j hj => by omega, hp⟩ ?_
  rintro i w1 ⟨hi, hne, hp⟩ IH C
  refine h_run rfl ?_; skip
  refine h_cond_dec (fun hlt => ?_) (fun hlt => ?_)
  · have hlt' : i < xs.length := by omega
    refine h_cond_t rfl rfl ?_; (repeat (refine H_ldEN hp rfl (by omega) rfl rfl ?_))
    refine h_cond_dec (fun he => ?_) (fun he => ?_)
    · refine h_cond_t rfl rfl ?_; (repeat (refine R_ret ?_))
      exact ⟨by rw [decide_eq_true (mem_getD_iff.2 ⟨i, hlt', by first | exact he | exact he.symm⟩)], hp.x⟩
    · refine h_cond_f rfl rfl ?_; skip
      refine IH (i + 1) _ _ _ (by omega) rfl ⟨by omega, fun j hj => ?_, hp⟩
      by_cases hj2 : j < i
      · exact hne j hj2
      · obtain rfl : j = i := by omega
        first | exact he | exact fun h => he h.symm
  · refine h_cond_f rfl rfl ?_; (repeat (refine R_ret ?_))
    exact ⟨by rw [decide_eq_false (fun h => by obtain ⟨j, h1, h2⟩ := mem_getD_iff.1 h; exact hne j (by omega) h2)], hp.x⟩
theorem l13Has_h (a : Option Addr) (c m : Nat) (xs : List Int) (hm : xs.length = m) (x : Int) (w0 : World) (hR : Rd w0 a 1 eI xs) (hl : m ≤ 1000000000) :
    Ret Try.prog 207 [.slice a m c, .int .i64 x] w0 (fun v w' => v = .bool (decide (x ∈ xs)) ∧ Ext w0 w') := by
  subst hm
  refine enter Try.S207ok _ _ rfl rfl (by show _ ≤ _; simp only [List.length]; decide) (fun C => ?_); have hp := Hp.nil w0; refine h_run rfl ?_; skip
  refine h_loop [0, 1, 5] (fun i : Nat => [(0, .slice a xs.length c), (1, .int .i64 x), (5, .int .i64 (i : Int))])
    (fun i w' => i ≤ xs.length ∧ (∀ j, j < i → xs.getD j default ≠ x) ∧ Hp w0 w' []) (fun i => xs.length - i) 0 rfl ⟨by omega, fun j hj => by omega, hp⟩ ?_
  rintro i w1 ⟨hi, hne, hp⟩ IH C
  refine h_run rfl ?_; skip
  refine h_cond_dec (fun hlt => ?_) (fun hlt => ?_)
  · have hlt' : i < xs.length := by omega
    refine h_cond_t rfl rfl ?_; (repeat (refine H_ldEN hp rfl (by omega) rfl rfl ?_))
    refine h_cond_dec (fun he => ?_) (fun he => ?_)
    · refine h_cond_t rfl rfl ?_; (repeat (refine R_ret ?_))
      exact ⟨by rw [decide_eq_true (mem_getD_iff.2 ⟨i, hlt', by first | exact he | exact he.symm⟩)], hp.x⟩
    · refine h_cond_f rfl rfl ?_; skip
      refine IH (i + 1) _ _ _ (by omega) rfl ⟨by omega, fun j hj => ?_, hp⟩
      by_cases hj2 : j < i
      · exact hne j hj2
      · obtain rfl : j = i := by omega
        first | exact he | exact fun h => he h.symm
  · refine h_cond_f rfl rfl ?_; (repeat (refine R_ret ?_))
    exact ⟨by rw [decide_eq_false (fun h => by obtain ⟨j, h1, h2⟩ := mem_getD_iff.1 h; exact hne j (by omega) h2)], hp.x⟩
theorem strictlyAscending_h (a : Option Addr) (c m : Nat) (xs : List Int) (hm : xs.length = m) (w0 : World) (hR : Rd w0 a 1 eI xs) (hl : m ≤ 1000000000) :
    Ret Try.prog 208 [.slice a m c] w0 (fun v w' => v = .bool (pB (Asc xs)) ∧ Ext w0 w') := by
  subst hm
  refine enter Try.S208ok _ _ rfl rfl (by show _ ≤ _; simp only [List.length]; decide) (fun C => ?_); have hp := Hp.nil w0; refine h_run rfl ?_; skip
  refine h_loop [0, 3] (fun i : Nat => [(0, .slice a xs.length c), (3, .int .i64 (i : Int))])
    (fun i w' => 1 ≤ i ∧ (∀ j, 1 ≤ j → j < i → j < xs.length → xs.getD (j - 1) default < xs.getD j default) ∧ Hp w0 w' []) (fun i => xs.length - i) 1 rfl ⟨by omega, fun j h1 hj => by omega, hp⟩ ?_
  rintro i w1 ⟨hi, hall, hp⟩ IH C
  have hz : ((i : Int) - 1).toNat = i - 1 := by omega
  refine h_run rfl ?_; skip
  refine h_cond_dec (fun hlt => ?_) (fun hlt => ?_)
  · have hlt' : i < xs.length := by omega
    refine h_cond_t rfl rfl ?_; skip
    refine D_draw hp (by kernel_rfl) (by kernel_rfl) rfl rfl ?_; intro w hx hp; have hs := hp; (repeat (refine gLoad ?_; first | refine D_ldEN rfl (by omega) rfl rfl rfl ?_ | refine D_ldE rfl (by omega) (by omega) rfl rfl rfl ?_))
    refine h_cond_dec (fun he => ?_) (fun he => ?_)
    · rw [hz] at he
      refine h_cond_t rfl rfl ?_; (repeat (refine R_ret ?_))
      exact ⟨by rw [pB_no' (fun h => by have := asc_get.2 h i hi hlt'; omega)], hp.x⟩
    · rw [hz] at he
      refine h_cond_f rfl rfl ?_; skip
      refine IH (i + 1) _ _ _ (by omega) rfl ⟨by omega, fun j h1 hj h2 => ?_, hp⟩
      by_cases hj2 : j < i
      · exact hall j h1 hj2 h2
      · obtain rfl : j = i := by omega
        omega
  · refine h_cond_f rfl rfl ?_; (repeat (refine R_ret ?_))
    exact ⟨by rw [pB_iff.2 (asc_get.1 fun j h1 h2 => hall j h1 (by omega) h2)], hp.x⟩

end Go.Proofs
