/- Texts that belong together; each under its stated conditions. -/
import Derived.Test.YtbjgekllkfnjnaaDrawNet
import Derived.Test.YtbjgekllkfnjnaaStep
set_option linter.all false
section
namespace Go.Proofs
open Go.Xw
set_option maxRecDepth 100000
set_option maxHeartbeats 4000000
attribute [local irreducible] Holds elemAddr
theorem nodeCount_N (x : NetA) (N : Int) (h : nodeCountL x.n = N) (w0 : World) : Ret Try.prog 13 [x.v] w0 (fun v w => v = .int .i64 N ∧ Ext w0 w) := by rw [← h]; exact specNodeCount_h x w0
theorem l08Net_h {w0 w : World} {L : List Res} {p : Nat} {a : Option Addr} {n c : Nat} {code : List Int} (hR : Rd w0 a 1 eU8 code) (hn : code.length = n) (hp : Hp w0 w (rCur p a n c :: L)) :
  Ret Try.prog 41 [.pointer (some ⟨p, 0, none⟩)] w (fun v w' => ∃ y, (NetOkP y.n ∧ v = y.v) ∧ Hp w0 w' (rNet y :: rCur p a n c :: L)) := by
 refine enter Try.S41ok _ _ rfl rfl (by show _ ≤ _; simp only [List.length]; decide) (fun C => ?_); refine h_run rfl ?_; skip
 (first | refine H_box hp ?_ | refine H_alloc hp rfl ?_); intro w b2 hx hp; refine ops_run nopre rfl ?_; skip
 refine h_call rfl Try.func86 (by kernel_rfl) rfl (l08Sized_h hR hn hp.f1 4 3 14 (by decide) (by decide) (by decide)) ?_; rintro _ w ⟨y, ⟨hok, _, rfl⟩, hp⟩; refine ops_run nopre rfl ?_; (repeat (first | (refine gStore ?_; refine U_stBN hp rfl rfl rfl rfl ?_; intro w hp; refine ops_run nopre rfl ?_) | (refine gRetc ?_; refine R_ret1 hp rfl ?_)))
 exact ⟨y, ⟨hok, rfl⟩, hp.f2.drop⟩
end Go.Proofs
end
section
namespace Go.Proofs
open Go.Xw
set_option maxRecDepth 100000
set_option maxHeartbeats 2000000
attribute [local irreducible] Holds elemAddr
theorem DrawNode_h (a : Option Addr) (c : Nat) (code : List Int) (w0 : World) (hR : Rd w0 a 1 eU8 code) (hB : AllB code) (hl : code.length ≤ 1048576) :
  Ret Try.prog 11 [.slice a code.length c] w0 (fun v w => ∃ y k, (NetOkP y.n ∧ k < nds y.n ∧ v = .tuple ⟨[y.v, .int .i64 (k : Int)]⟩) ∧ Hp w0 w [rNet y]) := by
 refine enter Try.S11ok _ _ rfl rfl (by show _ ≤ _; simp only [List.length]; decide) (fun C => ?_); have hp := Hp.nil w0; refine h_run rfl ?_; skip; (first | refine H_box hp ?_ | refine H_alloc hp rfl ?_); intro w b2 hx hp; refine ops_run nopre rfl ?_; skip
 refine h_call rfl Try.func40 (by kernel_rfl) rfl (l01New_h a c code _ hp.rd hB hl) ?_; rintro _ w ⟨p, rfl, hq⟩; have hx := hq.x; have hp := hp.call1 hq; refine ops_run nopre rfl ?_; skip
 refine h_call rfl Try.func41 (by kernel_rfl) rfl (l08Net_h hR rfl hp) ?_; rintro _ w ⟨y, ⟨hok, rfl⟩, hp⟩; refine ops_run nopre rfl ?_; skip
 (first | refine H_box hp ?_ | refine H_alloc hp rfl ?_); intro w b5 hx hp; refine ops_run nopre rfl ?_; (repeat (refine U_stBN hp rfl rfl rfl rfl ?_; intro w hp; refine ops_run nopre rfl ?_))
 have hnd := hok.nums.n2
 have hN : nodeCountL y.n = (nds y.n : Int) := by unfold nodeCountL; rw [if_pos hok.size, hnd]
 have hp0 : 0 < nds y.n := by have := hok.nums.n1; have := hok.count; omega
 have hp := hp.f3.f2.f2.f3
 refine N_draw hp (by kernel_rfl) (by kernel_rfl) rfl rfl ?_; (repeat (refine N_ldB rfl rfl rfl ?_))
 refine N_call Try.func13 (by kernel_rfl) rfl (fun F w hp => ?_); refine Ret.mono (nodeCount_N y (nds y.n : Int) hN _) ?_; rintro _ w ⟨rfl, hx⟩; have hp := hp.ext hx; refine ⟨fun _ => hp.sub (by (repeat (first | exact List.sublist_append_left _ _ | apply List.Sublist.cons))), _, hp, ?_⟩; clear hp; refine N_ops rfl rfl ?_; skip
 refine N_call Try.func42 (by kernel_rfl) rfl (fun F w hp => ?_); refine Ret.mono (l01Below_F hR rfl hp (nds y.n : Int)) ?_; rintro _ w ⟨z, ⟨rfl, _, hz⟩, hp⟩; refine ⟨fun _ => hp.pre, _, hp, ?_⟩; clear hp; refine N_ops rfl rfl ?_; (repeat (refine N_stBN rfl rfl rfl rfl (by kernel_rfl) ?_; refine N_ops rfl rfl ?_))
 refine N_end ?_; intro w hp C; refine h_run rfl ?_; (repeat (refine R_ret2v hp rfl ?_))
 have hz2 := hz (by omega)
 obtain ⟨k, rfl⟩ := Int.eq_ofNat_of_zero_le hz2.1
 exact ⟨y, k, ⟨hok, by omega, rfl⟩, (hp.f1.f1.f2).tk 1⟩
end Go.Proofs
end
section
namespace Go.Xw
def insL : List Int → Int → List Int
 | [], x => [x]
 | y :: ys, x => if y < x then y :: insL ys x else if y = x then y :: ys else x :: y :: ys
theorem insL_at : ∀ {i : Nat} {xs : List Int} {x : Int}, i ≤ xs.length → (∀ j, j < i → xs.getD j default < x) → ¬ (i < xs.length ∧ xs.getD i default < x) →
  insL xs x = if i < xs.length ∧ xs.getD i default = x then xs else xs.take i ++ x :: xs.drop i := by
 intro i
 induction i with
 | zero =>
  intro xs x _ _ hn
  cases xs with
  | nil => simp [insL]
  | cons y ys =>
   simp at hn
   simp only [insL, List.length_cons, List.getD_cons_zero, List.take_zero, List.drop_zero, List.nil_append]
   rw [if_neg (by omega)]
   simp
 | succ i ih =>
  intro xs x hi hall hn
  cases xs with
  | nil => simp at hi
  | cons y ys =>
   have h0 : y < x := by simpa using hall 0 (by omega)
   have h1 := ih (xs := ys) (x := x) (by simpa using hi) (fun j hj => by simpa using hall (j + 1) (by omega)) (by simpa using hn)
   simp only [insL, if_pos h0, h1, List.length_cons, List.getD_cons_succ, List.take_succ_cons, List.drop_succ_cons, Nat.add_lt_add_iff_right, List.cons_append]
   split <;> rfl
theorem insL_len (xs : List Int) (x : Int) : (insL xs x).length ≤ xs.length + 1 := by
 induction xs with
 | nil => simp [insL]
 | cons y ys ih =>
  simp only [insL]
  split
  ·simpa using ih
  ·split <;> simp
def Asc (xs : List Int) : Prop := xs.Pairwise (· < ·)
theorem asc_get {xs : List Int} : (∀ i, 1 ≤ i → i < xs.length → xs.getD (i - 1) default < xs.getD i default) ↔ Asc xs := by
 constructor
 ·intro h
  induction xs with
  | nil => exact List.Pairwise.nil
  | cons x xs ih =>
   have h2 : Asc xs := ih fun i h1 h2 => by
    have := h (i + 1) (by omega) (by simpa using h2)
    rw [List.getD_cons_succ, show i + 1 - 1 = (i - 1) + 1 by omega, List.getD_cons_succ] at this
    exact this
   refine List.Pairwise.cons ?_ h2
   cases xs with
   | nil => simp
   | cons y ys =>
    have h3 : x < y := by simpa using h 1 (by omega) (by simp)
    intro z hz
    rcases List.mem_cons.1 hz with rfl | hz
    ·exact h3
    ·have := (List.pairwise_cons.1 h2).1 z hz
     omega
 ·intro h i h1 h2
  have := List.pairwise_iff_getElem.1 h (i - 1) i (by omega) h2 (by omega)
  simpa [List.getD_eq_getElem?_getD, h2, show i - 1 < xs.length by omega] using this
def mrg : List Int → List Int → List Int
 | [], ys => ys
 | x :: xs, [] => x :: xs
 | x :: xs, y :: ys => if x < y then x :: mrg xs (y :: ys) else if y < x then y :: mrg (x :: xs) ys else x :: mrg xs ys
termination_by xs ys => xs.length + ys.length
theorem mrg_nil (xs : List Int) : mrg xs [] = xs := by cases xs <;> simp [mrg]
theorem fold_cons {ys : List Int} : ∀ {x : Int} {xs : List Int}, (∀ y ∈ ys, x < y) → ys.foldl insL (x :: xs) = x :: ys.foldl insL xs := by
 induction ys with
 | nil => intros; rfl
 | cons y ys ih =>
  intro x xs h
  have h0 := h y (by simp)
  simp only [List.foldl_cons, insL, if_pos h0]
  exact ih fun z hz => h z (by simp [hz])
theorem fold_mrg : ∀ (n : Nat) {xs ys : List Int}, xs.length + ys.length ≤ n → Asc xs → Asc ys → ys.foldl insL xs = mrg xs ys := by
 intro n
 induction n with
 | zero =>
  intro xs ys hn _ _
  have h1 : xs = [] := List.length_eq_zero_iff.1 (by omega)
  have h2 : ys = [] := List.length_eq_zero_iff.1 (by omega)
  subst h1; subst h2
  simp [mrg]
 | succ n ih =>
  intro xs ys hn hx hy
  cases ys with
  | nil => rw [mrg_nil]; rfl
  | cons y ys =>
   have hy1 := (List.pairwise_cons.1 hy).1
   have hy2 : Asc ys := (List.pairwise_cons.1 hy).2
   cases xs with
   | nil =>
    simp only [mrg, List.foldl_cons, insL]
    rw [fold_cons hy1, ih (by simp at hn ⊢; omega) List.Pairwise.nil hy2]
    cases ys <;> simp [mrg]
   | cons x xs =>
    have hx2 : Asc xs := (List.pairwise_cons.1 hx).2
    have hx1 := (List.pairwise_cons.1 hx).1
    simp only [List.length_cons] at hn
    rcases Int.lt_trichotomy x y with h | h | h
    ·have : ∀ z ∈ y :: ys, x < z := fun z hz => by
      rcases List.mem_cons.1 hz with rfl | hz
      ·exact h
      ·have := hy1 z hz; omega
     rw [fold_cons this, ih (by simp; omega) hx2 hy]
     simp [mrg, h]
    ·subst h
     simp only [List.foldl_cons, insL]
     rw [if_neg (by omega), if_pos trivial, fold_cons hy1, ih (by omega) hx2 hy2]
     simp [mrg]
    ·simp only [List.foldl_cons, insL]
     rw [if_neg (by omega), if_neg (by omega), fold_cons hy1, ih (by simp; omega) hx hy2]
     simp [mrg, h, show ¬ x < y by omega]
end Go.Xw
end
