/- Texts that belong together; each under its stated conditions. -/
import Derived.Test.YtifjicajbgoamaaReach
import Derived.Test.YtifjicajbgoamaaStep
set_option linter.all false
section
/- The contracts of Reached and Cone on both sides; each under its stated conditions. -/
namespace Go.Proofs
open Go.Xw
set_option maxRecDepth 100000
set_option maxHeartbeats 1000000
attribute [local irreducible] Holds elemAddr

theorem reachedL_len' (n : NetL) : (reachedL n).length = nds n := listB_len _ _

theorem coneL_len (n : NetL) (k : Nat) : (coneL n k).length ≤ nds n := by
  unfold coneL markedL
  have := markedTo_len (listB (nds n) (InCone n k)) (listB (nds n) (InCone n k)).length
  rw [listB_len] at this ⊢
  exact this
theorem marked_h (a : Option Addr) (c : Nat) (B : List Bool) (m : Nat) (hm : B.length = m) (w0 : World) (hR : Rd w0 a 1 eB B) (hb : m ≤ 1000000) :
    Ret Try.prog 114 [.slice a m c] w0 (fun v w => ∃ b c', v = .slice b (markedL B).length c' ∧ Hp w0 w [rO 3 1 eI b c' (markedL B)]) := by
  subst hm
  refine enter Try.S114ok _ _ rfl rfl (by show _ ≤ _; simp only [List.length]; decide) (fun C => ?_); have hp := Hp.nil w0; refine h_run rfl ?_; skip
  refine h_loop3 [3, 6, 7, 8] (fun (i : Nat) (b : Option Addr) (c' : Nat) => [(3, .slice b (markedTo B i).length c'), (6, .slice a B.length c), (7, .int .i64 B.length), (8, .int .i64 (i : Int))])
    (fun i b c' w' => i ≤ B.length ∧ Hp w0 w' [rO 3 1 eI b c' (markedTo B i)]) (fun i _ _ => B.length - i) 0 none 0 rfl ⟨by omega, hp.ownN (Ext.refl _) (Own.nil _ _ _ _ _)⟩ ?_
  rintro i b c' w1 ⟨hi, hp⟩ IH C
  have hml := markedTo_len B i
  refine h_run rfl ?_; skip
  refine h_cond_dec (fun hlt => ?_) (fun hlt => ?_)
  · refine h_cond_t rfl rfl ?_; (repeat (refine H_ldEN hp rfl (by omega) rfl rfl ?_))
    refine h_cond_b (fun hb2 => ?_) (fun hb2 => ?_)
    · refine h_cond_t rfl rfl ?_; (repeat (refine U_litI hp rfl rfl rfl rfl rfl rfl rfl rfl rfl rfl ?_; intro w _ hx hp; refine ops_run nopre rfl ?_))
      refine U_append hp rfl rfl rfl rfl rfl rfl rfl (by decide) rfl (by first | omega | (simp only [List.length_append, List.length_cons, List.length_nil, List.length_take, List.length_drop, List.length_set, List.length_replicate, List.length_map]; omega)) rfl rfl ?_; intro b' c'' w hp hnil; refine ops_run nopre rfl ?_; skip
      have e : markedTo B (i + 1) = markedTo B i ++ [(i : Int)] := by rw [markedTo, if_pos hb2]
      refine IH (i + 1) b' c'' _ _ _ (by omega) (by rw [e]; rfl) ⟨by omega, ?_⟩
      rw [e]
      exact hp.drop
    · refine h_cond_f rfl rfl ?_; skip
      have e : markedTo B (i + 1) = markedTo B i := by rw [markedTo, if_neg (by rw [hb2]; decide)]
      refine IH (i + 1) b c' _ _ _ (by omega) (by rw [e]; rfl) ⟨by omega, ?_⟩
      rw [e]
      exact hp
  · refine h_cond_f rfl rfl ?_; (repeat (refine R_ret ?_))
    obtain rfl : i = B.length := by omega
    exact ⟨b, c', rfl, hp⟩
theorem cone_h (x : NetA) (k : Nat) (w0 : World) (hX : NetR w0 x) (hok : NetOkP x.n) (hk : k < nds x.n) :
    Ret Try.prog 86 [x.v, .int .i64 (k : Int)] w0 (fun v w => ∃ b c, v = .slice b (coneL x.n k).length c ∧ Hp w0 w [rO 3 1 eI b c (coneL x.n k)]) := by
  have n4 := hok.nums.n2
  have hnd := hok.nodes
  refine enter Try.S86ok _ _ rfl rfl (by show _ ≤ _; simp only [List.length]; decide) (fun C => ?_); have hp := Hp.nil w0; refine h_run rfl ?_; skip; (first | (refine H_box hp ?_; intro w b2 hx hp) | (refine H_alloc hp rfl ?_; intro w b2 hx hp)); refine ops_run nopre rfl ?_; (repeat (refine H_ldB hp rfl rfl ?_))
  refine h_call rfl Try.func56 (by kernel_rfl) rfl (nodeCount_h x _ hok.b) ?_; rintro _ w ⟨rfl, hx⟩; have hp := hp.ext hx; refine ops_run nopre rfl ?_; skip
  rw [← n4]
  refine H_make hp eB false rfl rfl rfl rfl (s := 1) rfl (by decide) rfl (by unfold maxLen; omega) (by show 1 * _ ≤ _; omega) ?_; intro w b5 hx hp; refine ops_run nopre rfl ?_; (repeat (refine H_ldB hp rfl rfl ?_))
  refine h_call rfl Try.func113 (by kernel_rfl) rfl (markCone_h x hX hok _ _ k hk _ _ _ hp (by simp) (fun i hi _ h => by simp [List.getD_eq_getElem?_getD, List.getElem?_replicate] at h; split at h <;> simp at h)) ?_; rintro _ w ⟨B', rfl, hm, hp⟩; refine ops_run nopre rfl ?_; skip
  have hBl : B'.length = nds x.n := by rw [hm.len]; simp
  have e : B' = listB (nds x.n) (InCone x.n k) := listB_eq hBl fun j hj => by
    rw [hm.iff j (by simpa using hj)]
    simp [List.getD_eq_getElem?_getD, List.getElem?_replicate, hj]
  subst e
  refine h_call rfl Try.func114 (by kernel_rfl) rfl (marked_h _ _ _ (nds x.n) hBl _ hp.rd (by omega)) ?_; rintro _ w ⟨b, c, rfl, hq⟩; have hx := hq.x; have hp := hp.call1 hq; refine ops_run nopre rfl ?_; (repeat (refine R_ret ?_))
  exact ⟨b, c, rfl, hp.sub (by simp; exact .inl rfl)⟩
end Go.Proofs
end
section
/- Sorted lists: insertion and merge; no condition but the stated ones. -/
namespace Go.Xw

/-- x put at its place, once -/
def insL : List Int → Int → List Int
  | [], x => [x]
  | y :: ys, x => if y < x then y :: insL ys x else if y = x then y :: ys else x :: y :: ys

def Asc (xs : List Int) : Prop := xs.Pairwise (· < ·)

theorem asc_get {xs : List Int} : (∀ i, 1 ≤ i → i < xs.length → xs.getD (i - 1) default < xs.getD i default) ↔ Asc xs := by
  constructor
  · intro h
    induction xs with
    | nil => exact List.Pairwise.nil
    | cons x xs ih =>
      have h2 : Asc xs := ih fun i h1 h2 => by
        have := h (i + 1) (by omega) (by simpa using h2)
        rw [List.getD_cons_succ, show i + 1 - 1 = (i - 1) + 1 by omega, List.getD_cons_succ] at this
        exact this
      refine List.Pairwise.cons ?_ h2
      cases xs with
      | nil => simp
      | cons y ys =>
        have h3 : x < y := by simpa using h 1 (by omega) (by simp)
        intro z hz
        rcases List.mem_cons.1 hz with rfl | hz
        · exact h3
        · have := (List.pairwise_cons.1 h2).1 z hz
          omega
  · intro h i h1 h2
    have := List.pairwise_iff_getElem.1 h (i - 1) i (by omega) h2 (by omega)
    simpa [List.getD_eq_getElem?_getD, h2, show i - 1 < xs.length by omega] using this

/-- the union of two ascending lists -/
def mrg : List Int → List Int → List Int
  | [], ys => ys
  | x :: xs, [] => x :: xs
  | x :: xs, y :: ys => if x < y then x :: mrg xs (y :: ys) else if y < x then y :: mrg (x :: xs) ys else x :: mrg xs ys
termination_by xs ys => xs.length + ys.length

theorem mrg_nil (xs : List Int) : mrg xs [] = xs := by cases xs <;> simp [mrg]

theorem mrg_pos {xs ys : List Int} (h : 0 < xs.length ∨ 0 < ys.length) : 0 < (mrg xs ys).length := by
  cases xs with
  | nil => simpa [mrg] using h
  | cons x xs =>
    cases ys with
    | nil => simp [mrg]
    | cons y ys =>
      simp only [mrg]
      split
      · simp
      · split <;> simp

theorem drop_at {xs : List Int} {i : Nat} (h : i < xs.length) : xs.drop i = xs.getD i default :: xs.drop (i + 1) := by
  rw [List.drop_eq_getElem_cons h]
  simp [List.getD_eq_getElem?_getD, h]
theorem mrg1 {xs ys : List Int} {i j : Nat} (hi : i < xs.length) (h : j = ys.length ∨ (j < ys.length ∧ xs.getD i default < ys.getD j default)) :
    mrg (xs.drop i) (ys.drop j) = xs.getD i default :: mrg (xs.drop (i + 1)) (ys.drop j) := by
  rcases h with h | ⟨hj, h⟩
  · subst h
    rw [List.drop_length, mrg_nil, mrg_nil, drop_at hi]
  · rw [drop_at hi, drop_at hj]
    simp only [mrg, if_pos h]
theorem mrg2 {xs ys : List Int} {i j : Nat} (hj : j < ys.length) (h : i = xs.length ∨ (i < xs.length ∧ ys.getD j default < xs.getD i default)) :
    mrg (xs.drop i) (ys.drop j) = ys.getD j default :: mrg (xs.drop i) (ys.drop (j + 1)) := by
  rcases h with h | ⟨hi, h⟩
  · subst h
    rw [List.drop_length, drop_at hj]
    simp only [mrg]
  · rw [drop_at hi, drop_at hj]
    simp only [mrg]
    rw [if_neg (by omega), if_pos h]
theorem mrg3 {xs ys : List Int} {i j : Nat} (hi : i < xs.length) (hj : j < ys.length) (h : xs.getD i default = ys.getD j default) :
    mrg (xs.drop i) (ys.drop j) = xs.getD i default :: mrg (xs.drop (i + 1)) (ys.drop (j + 1)) := by
  rw [drop_at hi, drop_at hj]
  simp only [mrg]
  rw [if_neg (by omega), if_neg (by omega)]

end Go.Xw
end
