/- Texts that belong together; each under its stated conditions. -/
import Derived.Test.YtifjicajbgoamaaGreatCov2
import Derived.Test.YtifjicajbgoamaaGreatHash
import Derived.Test.YtifjicajbgoamaaGreatStep
import Derived.Test.YtifjicajbgoamaaGreatGraph1
import Derived.Test.YtifjicajbgoamaaGreatFam
set_option linter.all false
section
/- The contracts of the reference's functions on covers; each under its stated conditions. -/
namespace Go.Proofs
open Go.Xw
set_option maxRecDepth 100000
set_option maxHeartbeats 4000000
attribute [local irreducible] Holds elemAddr
theorem specCubeOk_h (m : Int) (c : Int × Int) (w0 : World) (hm : i64R m) (hc : i64R c.1 ∧ i64R c.2) : Ret Tryz.prog 112 [.int .i64 m, .agg ⟨eII c⟩] w0 (fun v w => v = .bool (cubeOkB m c) ∧ Ext w0 w) := by
  refine enter Tryz.S112ok _ _ rfl rfl (by show _ ≤ _; simp only [List.length]; decide) (fun C => ?_); have hp := Hp.nil w0; refine h_run rfl ?_; skip; (first | (refine H_box hp ?_; intro w b3 hx hp) | (refine H_alloc hp rfl ?_; intro w b3 hx hp)); refine ops_run nopre rfl ?_; skip
  refine N_draw hp (by kernel_rfl) (by kernel_rfl) rfl rfl ?_; skip
  by_cases h0 : 0 ≤ m ∧ m ≤ 4
  · have h2 := pow_small h0
    have hbk : m ≤ ((IntKind.i64.bits : Nat) : Int) := by show m ≤ 64; omega
    refine N_call Tryz.func95 (by kernel_rfl) rfl (fun F w hp => ?_); refine Ret.mono ((l01In_h m 0 4 _).yes h0) ?_; rintro _ w ⟨rfl, hx⟩; have hp := hp.ext hx; refine ⟨fun _ => hp.sub (by (repeat (first | exact List.sublist_append_left _ _ | apply List.Sublist.cons))), _, hp, ?_⟩; clear hp; refine N_ops rfl rfl ?_; (repeat (first | (refine nGuard ?_; refine N_guard_y rfl rfl rfl ?_) | (refine nLoad ?_; refine N_ldB rfl rfl rfl ?_)))
    by_cases h1 : 0 ≤ c.1 ∧ c.1 ≤ 1 * 2 ^ m.toNat - 1
    · refine N_call Tryz.func95 (by kernel_rfl) rfl (fun F w hp => ?_); refine Ret.mono ((l01In_h c.1 0 (1 * 2 ^ m.toNat - 1) _).yes h1) ?_; rintro _ w ⟨rfl, hx⟩; have hp := hp.ext hx; refine ⟨fun _ => hp.sub (by (repeat (first | exact List.sublist_append_left _ _ | apply List.Sublist.cons))), _, hp, ?_⟩; clear hp; refine N_ops rfl rfl ?_; (repeat (first | (refine nGuard ?_; refine N_guard_y rfl rfl rfl ?_) | (refine nLoad ?_; refine N_ldB rfl rfl rfl ?_)))
      by_cases h3 : 0 ≤ c.2 ∧ c.2 ≤ 1 * 2 ^ m.toNat - 1
      · refine N_call Tryz.func95 (by kernel_rfl) rfl (fun F w hp => ?_); refine Ret.mono ((l01In_h c.2 0 (1 * 2 ^ m.toNat - 1) _).yes h3) ?_; rintro _ w ⟨rfl, hx⟩; have hp := hp.ext hx; refine ⟨fun _ => hp.sub (by (repeat (first | exact List.sublist_append_left _ _ | apply List.Sublist.cons))), _, hp, ?_⟩; clear hp; refine N_ops rfl rfl ?_; (repeat (first | (refine nGuard ?_; refine N_guard_y rfl rfl rfl ?_) | (refine nLoad ?_; refine N_ldB rfl rfl rfl ?_)))
        refine N_end ?_; intro w hp C; refine h_run rfl ?_; (repeat (refine R_ret ?_))
        refine ⟨?_, hp.x⟩
        by_cases h4 : bits .andNot .i64 c.2 c.1 = 0
        · rw [decide_eq_true h4, cubeOkB_yes ⟨h0, by omega, by omega, h4⟩]
        · rw [decide_eq_false h4, cubeOkB_no (fun h => h4 h.2.2.2)]
      · refine N_call Tryz.func95 (by kernel_rfl) rfl (fun F w hp => ?_); refine Ret.mono ((l01In_h c.2 0 (1 * 2 ^ m.toNat - 1) _).no h3) ?_; rintro _ w ⟨rfl, hx⟩; have hp := hp.ext hx; refine ⟨fun _ => hp.sub (by (repeat (first | exact List.sublist_append_left _ _ | apply List.Sublist.cons))), _, hp, ?_⟩; clear hp; refine N_ops rfl rfl ?_; (repeat (refine N_guard_n rfl rfl rfl ?_))
        refine N_end ?_; intro w hp C; refine h_run rfl ?_; (repeat (refine R_ret ?_))
        exact ⟨by rw [cubeOkB_no (fun h => h3 (by have := h.2.2.1; omega))], hp.x⟩
    · refine N_call Tryz.func95 (by kernel_rfl) rfl (fun F w hp => ?_); refine Ret.mono ((l01In_h c.1 0 (1 * 2 ^ m.toNat - 1) _).no h1) ?_; rintro _ w ⟨rfl, hx⟩; have hp := hp.ext hx; refine ⟨fun _ => hp.sub (by (repeat (first | exact List.sublist_append_left _ _ | apply List.Sublist.cons))), _, hp, ?_⟩; clear hp; refine N_ops rfl rfl ?_; (repeat (refine N_guard_n rfl rfl rfl ?_))
      refine N_end ?_; intro w hp C; refine h_run rfl ?_; (repeat (refine R_ret ?_))
      exact ⟨by rw [cubeOkB_no (fun h => h1 (by have := h.2.1; omega))], hp.x⟩
  · refine N_call Tryz.func95 (by kernel_rfl) rfl (fun F w hp => ?_); refine Ret.mono ((l01In_h m 0 4 _).no h0) ?_; rintro _ w ⟨rfl, hx⟩; have hp := hp.ext hx; refine ⟨fun _ => hp.sub (by (repeat (first | exact List.sublist_append_left _ _ | apply List.Sublist.cons))), _, hp, ?_⟩; clear hp; refine N_ops rfl rfl ?_; (repeat (refine N_guard_n rfl rfl rfl ?_))
    refine N_end ?_; intro w hp C; refine h_run rfl ?_; (repeat (refine R_ret ?_))
    exact ⟨by rw [cubeOkB_no (fun h => h0 h.1)], hp.x⟩
theorem l03Ok_h (m : Int) (ca : Option Addr) (cc q : Nat) (K : List (Int × Int)) (hq : K.length = q) (w0 : World) (hm : i64R m) (hR : Rd w0 ca 2 eII K) (hK : ∀ i, i < K.length → i64R (K.getD i default).1 ∧ i64R (K.getD i default).2) (hb : q ≤ 1048576) : Ret Tryz.prog 70 [.int .i64 m, .slice ca q cc] w0 (fun v w => v = .bool (coverOkB m K) ∧ Ext w0 w) := by
  subst hq
  refine enter Tryz.S70ok _ _ rfl rfl (by show _ ≤ _; simp only [List.length]; decide) (fun C => ?_); have hp := Hp.nil w0; refine h_run rfl ?_; skip
  by_cases h0 : 0 ≤ m ∧ m ≤ 4
  · refine h_call rfl Tryz.func95 (by kernel_rfl) rfl ((l01In_h m 0 4 _).yes h0) ?_; rintro _ w ⟨rfl, hx⟩; have hp := hp.ext hx; refine ops_run nopre rfl ?_; (repeat (refine h_guard_y rfl nopre rfl ?_))
    refine h_cond_dec (fun h1 => ?_) (fun h1 => ?_)
    · refine h_cond_t rfl rfl ?_; (repeat (refine R_ret ?_))
      exact ⟨by rw [coverOkB_no (fun h => by have := h.2.1; omega)], hp.x⟩
    · refine h_cond_f rfl rfl ?_; skip
      refine h_loop [0, 1, 5] (fun (i : Nat) => [(0, .int .i64 m), (1, .slice ca K.length cc), (5, .int .i64 (i : Int))])
        (fun i w' => (i ≤ K.length ∧ ∀ c, c ∈ K.take i → cubeOkP m c) ∧ Hp w0 w' []) (fun i => K.length - i) 0 rfl ⟨⟨by omega, fun c hc => by simp at hc⟩, hp⟩ ?_
      clear hp
      rintro i w1 ⟨⟨hi, hall⟩, hp⟩ IH C
      refine h_run rfl ?_; skip
      refine h_cond_dec (fun hlt => ?_) (fun hlt => ?_)
      · have hlt' : i < K.length := by omega
        have hci := hK i hlt'
        have hne : ca ≠ none := nn_of hp (X := K) (by omega)
        refine h_cond_t rfl rfl ?_; (repeat (refine H_ldEN hp rfl (by omega) rfl rfl ?_))
        by_cases h2 : cubeOkP m (K.getD i default)
        · refine h_call rfl Tryz.func112 (by kernel_rfl) rfl ((specCubeOk_h m (K.getD i default) _ hm hci).tt (cubeOkB_yes h2)) ?_; rintro _ w ⟨rfl, hx⟩; have hp := hp.ext hx; refine ops_run nopre rfl ?_; skip
          refine h_cond_f rfl rfl ?_; skip
          refine IH (i + 1) _ _ _ (by omega) rfl ⟨⟨by omega, fun c hc => ?_⟩, hp⟩
          rw [take_snoc hlt'] at hc
          rcases List.mem_append.1 hc with hc | hc
          · exact hall c hc
          · simp only [List.mem_singleton] at hc
            subst hc
            exact h2
        · refine h_call rfl Tryz.func112 (by kernel_rfl) rfl ((specCubeOk_h m (K.getD i default) _ hm hci).ff (cubeOkB_no h2)) ?_; rintro _ w ⟨rfl, hx⟩; have hp := hp.ext hx; refine ops_run nopre rfl ?_; skip
          refine h_cond_t rfl rfl ?_; (repeat (refine R_ret ?_))
          exact ⟨by rw [coverOkB_no (fun h => h2 (h.2.2 _ (getD_mem hlt')))], Hp.x hp⟩
      · obtain rfl : i = K.length := by omega
        refine h_cond_f rfl rfl ?_; (repeat (refine R_ret ?_))
        rw [List.take_length] at hall
        exact ⟨by rw [coverOkB_yes ⟨h0, by omega, hall⟩], hp.x⟩
  · refine h_call rfl Tryz.func95 (by kernel_rfl) rfl ((l01In_h m 0 4 _).no h0) ?_; rintro _ w ⟨rfl, hx⟩; have hp := hp.ext hx; refine ops_run nopre rfl ?_; (repeat (refine h_guard_n rfl nopre rfl ?_))
    refine h_cond_t rfl rfl ?_; (repeat (refine R_ret ?_))
    exact ⟨by rw [coverOkB_no (fun h => h0 h.1)], hp.x⟩
end Go.Proofs
end
section
/- Sorted lists: insertion and merge; no condition but the stated ones. -/
namespace Go.Xw

/-- x put at its place, once -/
def insL : List Int → Int → List Int
  | [], x => [x]
  | y :: ys, x => if y < x then y :: insL ys x else if y = x then y :: ys else x :: y :: ys

theorem insL_at : ∀ {i : Nat} {xs : List Int} {x : Int}, i ≤ xs.length → (∀ j, j < i → xs.getD j default < x) → ¬ (i < xs.length ∧ xs.getD i default < x) →
    insL xs x = if i < xs.length ∧ xs.getD i default = x then xs else xs.take i ++ x :: xs.drop i := by
  intro i
  induction i with
  | zero =>
    intro xs x _ _ hn
    cases xs with
    | nil => simp [insL]
    | cons y ys =>
      simp at hn
      simp only [insL, List.length_cons, List.getD_cons_zero, List.take_zero, List.drop_zero, List.nil_append]
      rw [if_neg (by omega)]
      simp
  | succ i ih =>
    intro xs x hi hall hn
    cases xs with
    | nil => simp at hi
    | cons y ys =>
      have h0 : y < x := by simpa using hall 0 (by omega)
      have h1 := ih (xs := ys) (x := x) (by simpa using hi) (fun j hj => by simpa using hall (j + 1) (by omega)) (by simpa using hn)
      simp only [insL, if_pos h0, h1, List.length_cons, List.getD_cons_succ, List.take_succ_cons, List.drop_succ_cons, Nat.add_lt_add_iff_right, List.cons_append]
      split <;> rfl

theorem insL_len (xs : List Int) (x : Int) : (insL xs x).length ≤ xs.length + 1 := by
  induction xs with
  | nil => simp [insL]
  | cons y ys ih =>
    simp only [insL]
    split
    · simpa using ih
    · split <;> simp

def Asc (xs : List Int) : Prop := xs.Pairwise (· < ·)

theorem asc_get {xs : List Int} : (∀ i, 1 ≤ i → i < xs.length → xs.getD (i - 1) default < xs.getD i default) ↔ Asc xs := by
  constructor
  · intro h
    induction xs with
    | nil => exact List.Pairwise.nil
    | cons x xs ih =>
      have h2 : Asc xs := ih fun i h1 h2 => by
        have := h (i + 1) (by omega) (by simpa using h2)
        rw [List.getD_cons_succ, show i + 1 - 1 = (i - 1) + 1 by omega, List.getD_cons_succ] at this
        exact this
      refine List.Pairwise.cons ?_ h2
      cases xs with
      | nil => simp
      | cons y ys =>
        have h3 : x < y := by simpa using h 1 (by omega) (by simp)
        intro z hz
        rcases List.mem_cons.1 hz with rfl | hz
        · exact h3
        · have := (List.pairwise_cons.1 h2).1 z hz
          omega
  · intro h i h1 h2
    have := List.pairwise_iff_getElem.1 h (i - 1) i (by omega) h2 (by omega)
    simpa [List.getD_eq_getElem?_getD, h2, show i - 1 < xs.length by omega] using this

/-- the union of two ascending lists -/
def mrg : List Int → List Int → List Int
  | [], ys => ys
  | x :: xs, [] => x :: xs
  | x :: xs, y :: ys => if x < y then x :: mrg xs (y :: ys) else if y < x then y :: mrg (x :: xs) ys else x :: mrg xs ys
termination_by xs ys => xs.length + ys.length

theorem mrg_nil (xs : List Int) : mrg xs [] = xs := by cases xs <;> simp [mrg]

theorem fold_cons {ys : List Int} : ∀ {x : Int} {xs : List Int}, (∀ y ∈ ys, x < y) → ys.foldl insL (x :: xs) = x :: ys.foldl insL xs := by
  induction ys with
  | nil => intros; rfl
  | cons y ys ih =>
    intro x xs h
    have h0 := h y (by simp)
    simp only [List.foldl_cons, insL, if_pos h0]
    exact ih fun z hz => h z (by simp [hz])

theorem fold_mrg : ∀ (n : Nat) {xs ys : List Int}, xs.length + ys.length ≤ n → Asc xs → Asc ys → ys.foldl insL xs = mrg xs ys := by
  intro n
  induction n with
  | zero =>
    intro xs ys hn _ _
    have h1 : xs = [] := List.length_eq_zero_iff.1 (by omega)
    have h2 : ys = [] := List.length_eq_zero_iff.1 (by omega)
    subst h1; subst h2
    simp [mrg]
  | succ n ih =>
    intro xs ys hn hx hy
    cases ys with
    | nil => rw [mrg_nil]; rfl
    | cons y ys =>
      have hy1 := (List.pairwise_cons.1 hy).1
      have hy2 : Asc ys := (List.pairwise_cons.1 hy).2
      cases xs with
      | nil =>
        simp only [mrg, List.foldl_cons, insL]
        rw [fold_cons hy1, ih (by simp at hn ⊢; omega) List.Pairwise.nil hy2]
        cases ys <;> simp [mrg]
      | cons x xs =>
        have hx2 : Asc xs := (List.pairwise_cons.1 hx).2
        have hx1 := (List.pairwise_cons.1 hx).1
        simp only [List.length_cons] at hn
        rcases Int.lt_trichotomy x y with h | h | h
        · have : ∀ z ∈ y :: ys, x < z := fun z hz => by
            rcases List.mem_cons.1 hz with rfl | hz
            · exact h
            · have := hy1 z hz; omega
          rw [fold_cons this, ih (by simp; omega) hx2 hy]
          simp [mrg, h]
        · subst h
          simp only [List.foldl_cons, insL]
          rw [if_neg (by omega), if_pos trivial, fold_cons hy1, ih (by omega) hx2 hy2]
          simp [mrg]
        · simp only [List.foldl_cons, insL]
          rw [if_neg (by omega), if_neg (by omega), fold_cons hy1, ih (by simp; omega) hx hy2]
          simp [mrg, h, show ¬ x < y by omega]

theorem mrg_pos {xs ys : List Int} (h : 0 < xs.length ∨ 0 < ys.length) : 0 < (mrg xs ys).length := by
  cases xs with
  | nil => simpa [mrg] using h
  | cons x xs =>
    cases ys with
    | nil => simp [mrg]
    | cons y ys =>
      simp only [mrg]
      split
      · simp
      · split <;> simp

theorem drop_at {xs : List Int} {i : Nat} (h : i < xs.length) : xs.drop i = xs.getD i default :: xs.drop (i + 1) := by
  rw [List.drop_eq_getElem_cons h]
  simp [List.getD_eq_getElem?_getD, h]
theorem mrg1 {xs ys : List Int} {i j : Nat} (hi : i < xs.length) (h : j = ys.length ∨ (j < ys.length ∧ xs.getD i default < ys.getD j default)) :
    mrg (xs.drop i) (ys.drop j) = xs.getD i default :: mrg (xs.drop (i + 1)) (ys.drop j) := by
  rcases h with h | ⟨hj, h⟩
  · subst h
    rw [List.drop_length, mrg_nil, mrg_nil, drop_at hi]
  · rw [drop_at hi, drop_at hj]
    simp only [mrg, if_pos h]
theorem mrg2 {xs ys : List Int} {i j : Nat} (hj : j < ys.length) (h : i = xs.length ∨ (i < xs.length ∧ ys.getD j default < xs.getD i default)) :
    mrg (xs.drop i) (ys.drop j) = ys.getD j default :: mrg (xs.drop i) (ys.drop (j + 1)) := by
  rcases h with h | ⟨hi, h⟩
  · subst h
    rw [List.drop_length, drop_at hj]
    simp only [mrg]
  · rw [drop_at hi, drop_at hj]
    simp only [mrg]
    rw [if_neg (by omega), if_pos h]
theorem mrg3 {xs ys : List Int} {i j : Nat} (hi : i < xs.length) (hj : j < ys.length) (h : xs.getD i default = ys.getD j default) :
    mrg (xs.drop i) (ys.drop j) = xs.getD i default :: mrg (xs.drop (i + 1)) (ys.drop (j + 1)) := by
  rw [drop_at hi, drop_at hj]
  simp only [mrg]
  rw [if_neg (by omega), if_neg (by omega)]

end Go.Xw
end
section
/- The contracts of the functions on lists of numbers; each under its stated conditions. -/
namespace Go.Xw
theorem own_take {w0 : World} {L : List Res} {a : Option Addr} {e : TypeId} {α : Type} [Inhabited α] {enc : α → List Value} {s c j : Nat} {X : List α} [he : EncOk enc s] (hj : j ≤ X.length) : RdH w0 (rO e s enc a c X :: L) (subA a c s 0) s enc (X.take j) :=
  ⟨fun w hp => Sl.takeL (hp.sl he) hj hp.own.cap⟩
theorem own_drop {w0 : World} {L : List Res} {a : Option Addr} {e : TypeId} {α : Type} [Inhabited α] {enc : α → List Value} {s c j : Nat} {X : List α} [he : EncOk enc s] (hj : j ≤ X.length) : RdH w0 (rO e s enc a c X :: L) (subA a c s j) s enc (X.drop j) :=
  ⟨fun w hp => Sl.dropL (hp.sl he) hj hp.own.cap⟩
end Go.Xw
namespace Go.Proofs
open Go.Xw
set_option maxRecDepth 100000
set_option maxHeartbeats 1000000
attribute [local irreducible] Holds elemAddr
end Go.Proofs
end
