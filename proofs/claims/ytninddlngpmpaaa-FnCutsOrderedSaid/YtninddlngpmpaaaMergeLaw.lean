/- Sorted lists: insertion and merge; no condition but the stated ones. -/
import Derived.Test.YtninddlngpmpaaaStep
set_option linter.all false
namespace Go.Xw

/-- x put at its place, once -/
def insL : List Int → Int → List Int
  | [], x => [x]
  | y :: ys, x => if y < x then y :: insL ys x else if y = x then y :: ys else x :: y :: ys

theorem insL_at : ∀ {i : Nat} {xs : List Int} {x : Int}, i ≤ xs.length → (∀ j, j < i → xs.getD j default < x) → ¬ (i < xs.length ∧ xs.getD i default < x) →
    insL xs x = if i < xs.length ∧ xs.getD i default = x then xs else xs.take i ++ x :: xs.drop i := by
  intro i
  induction i with
  | zero =>
    intro xs x _ _ hn
    cases xs with
    | nil => simp [insL]
    | cons y ys =>
      simp at hn
      simp only [insL, List.length_cons, List.getD_cons_zero, List.take_zero, List.drop_zero, List.nil_append]
      rw [if_neg (by omega)]
      simp
  | succ i ih =>
    intro xs x hi hall hn
    cases xs with
    | nil => simp at hi
    | cons y ys =>
      have h0 : y < x := by simpa using hall 0 (by omega)
      have h1 := ih (xs := ys) (x := x) (by simpa using hi) (fun j hj => by simpa using hall (j + 1) (by omega)) (by simpa using hn)
      simp only [insL, if_pos h0, h1, List.length_cons, List.getD_cons_succ, List.take_succ_cons, List.drop_succ_cons, Nat.add_lt_add_iff_right, List.cons_append]
      split <;> rfl

theorem insL_len (xs : List Int) (x : Int) : (insL xs x).length ≤ xs.length + 1 := by
  induction xs with
  | nil => simp [insL]
  | cons y ys ih =>
    simp only [insL]
    split
    · simpa using ih
    · split <;> simp

def Asc (xs : List Int) : Prop := xs.Pairwise (· < ·)

theorem asc_get {xs : List Int} : (∀ i, 1 ≤ i → i < xs.length → xs.getD (i - 1) default < xs.getD i default) ↔ Asc xs := by
  constructor
  · intro h
    induction xs with
    | nil => exact List.Pairwise.nil
    | cons x xs ih =>
      have h2 : Asc xs := ih fun i h1 h2 => by
        have := h (i + 1) (by omega) (by simpa using h2)
        rw [List.getD_cons_succ, show i + 1 - 1 = (i - 1) + 1 by omega, List.getD_cons_succ] at this
        exact this
      refine List.Pairwise.cons ?_ h2
      cases xs with
      | nil => simp
      | cons y ys =>
        have h3 : x < y := by simpa using h 1 (by omega) (by simp)
        intro z hz
        rcases List.mem_cons.1 hz with rfl | hz
        · exact h3
        · have := (List.pairwise_cons.1 h2).1 z hz
          omega
  · intro h i h1 h2
    have := List.pairwise_iff_getElem.1 h (i - 1) i (by omega) h2 (by omega)
    simpa [List.getD_eq_getElem?_getD, h2, show i - 1 < xs.length by omega] using this

/-- the union of two ascending lists -/
def mrg : List Int → List Int → List Int
  | [], ys => ys
  | x :: xs, [] => x :: xs
  | x :: xs, y :: ys => if x < y then x :: mrg xs (y :: ys) else if y < x then y :: mrg (x :: xs) ys else x :: mrg xs ys
termination_by xs ys => xs.length + ys.length

theorem mrg_nil (xs : List Int) : mrg xs [] = xs := by cases xs <;> simp [mrg]

theorem fold_cons {ys : List Int} : ∀ {x : Int} {xs : List Int}, (∀ y ∈ ys, x < y) → ys.foldl insL (x :: xs) = x :: ys.foldl insL xs := by
  induction ys with
  | nil => intros; rfl
  | cons y ys ih =>
    intro x xs h
    have h0 := h y (by simp)
    simp only [List.foldl_cons, insL, if_pos h0]
    exact ih fun z hz => h z (by simp [hz])

theorem fold_mrg : ∀ (n : Nat) {xs ys : List Int}, xs.length + ys.length ≤ n → Asc xs → Asc ys → ys.foldl insL xs = mrg xs ys := by
  intro n
  induction n with
  | zero =>
    intro xs ys hn _ _
    have h1 : xs = [] := List.length_eq_zero_iff.1 (by omega)
    have h2 : ys = [] := List.length_eq_zero_iff.1 (by omega)
    subst h1; subst h2
    simp [mrg]
  | succ n ih =>
    intro xs ys hn hx hy
    cases ys with
    | nil => rw [mrg_nil]; rfl
    | cons y ys =>
      have hy1 := (List.pairwise_cons.1 hy).1
      have hy2 : Asc ys := (List.pairwise_cons.1 hy).2
      cases xs with
      | nil =>
        simp only [mrg, List.foldl_cons, insL]
        rw [fold_cons hy1, ih (by simp at hn ⊢; omega) List.Pairwise.nil hy2]
        cases ys <;> simp [mrg]
      | cons x xs =>
        have hx2 : Asc xs := (List.pairwise_cons.1 hx).2
        have hx1 := (List.pairwise_cons.1 hx).1
        simp only [List.length_cons] at hn
        rcases Int.lt_trichotomy x y with h | h | h
        · have : ∀ z ∈ y :: ys, x < z := fun z hz => by
            rcases List.mem_cons.1 hz with rfl | hz
            · exact h
            · have := hy1 z hz; omega
          rw [fold_cons this, ih (by simp; omega) hx2 hy]
          simp [mrg, h]
        · subst h
          simp only [List.foldl_cons, insL]
          rw [if_neg (by omega), if_pos trivial, fold_cons hy1, ih (by omega) hx2 hy2]
          simp [mrg]
        · simp only [List.foldl_cons, insL]
          rw [if_neg (by omega), if_neg (by omega), fold_cons hy1, ih (by simp; omega) hx hy2]
          simp [mrg, h, show ¬ x < y by omega]

theorem mrg_pos {xs ys : List Int} (h : 0 < xs.length ∨ 0 < ys.length) : 0 < (mrg xs ys).length := by
  cases xs with
  | nil => simpa [mrg] using h
  | cons x xs =>
    cases ys with
    | nil => simp [mrg]
    | cons y ys =>
      simp only [mrg]
      split
      · simp
      · split <;> simp

theorem drop_at {xs : List Int} {i : Nat} (h : i < xs.length) : xs.drop i = xs.getD i default :: xs.drop (i + 1) := by
  rw [List.drop_eq_getElem_cons h]
  simp [List.getD_eq_getElem?_getD, h]
theorem mrg1 {xs ys : List Int} {i j : Nat} (hi : i < xs.length) (h : j = ys.length ∨ (j < ys.length ∧ xs.getD i default < ys.getD j default)) :
    mrg (xs.drop i) (ys.drop j) = xs.getD i default :: mrg (xs.drop (i + 1)) (ys.drop j) := by
  rcases h with h | ⟨hj, h⟩
  · subst h
    rw [List.drop_length, mrg_nil, mrg_nil, drop_at hi]
  · rw [drop_at hi, drop_at hj]
    simp only [mrg, if_pos h]
theorem mrg2 {xs ys : List Int} {i j : Nat} (hj : j < ys.length) (h : i = xs.length ∨ (i < xs.length ∧ ys.getD j default < xs.getD i default)) :
    mrg (xs.drop i) (ys.drop j) = ys.getD j default :: mrg (xs.drop i) (ys.drop (j + 1)) := by
  rcases h with h | ⟨hi, h⟩
  · subst h
    rw [List.drop_length, drop_at hj]
    simp only [mrg]
  · rw [drop_at hi, drop_at hj]
    simp only [mrg]
    rw [if_neg (by omega), if_pos h]
theorem mrg3 {xs ys : List Int} {i j : Nat} (hi : i < xs.length) (hj : j < ys.length) (h : xs.getD i default = ys.getD j default) :
    mrg (xs.drop i) (ys.drop j) = xs.getD i default :: mrg (xs.drop (i + 1)) (ys.drop (j + 1)) := by
  rw [drop_at hi, drop_at hj]
  simp only [mrg]
  rw [if_neg (by omega), if_neg (by omega)]

end Go.Xw
