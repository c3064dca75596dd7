/- Texts that belong together; each under its stated conditions. -/
import Derived.Test.YtbjgekllkfnjnaaHashed
import Derived.Test.YtbjgekllkfnjnaaConjLaw
import Derived.Test.YtbjgekllkfnjnaaBase
set_option linter.all false
section
namespace Go.Xw
set_option maxHeartbeats 1000000
theorem coneL_memL {n : NetL} {k : Nat} {z : Int} : z ∈ coneL n k ↔ ∃ c : Nat, c < nds n ∧ z = (c : Int) ∧ InCone n k c := by
 unfold coneL markedL
 rw [marked_mem, listB_len]
 constructor
 ·rintro ⟨c, h1, h2, h3⟩; exact ⟨c, h1, h2, (listB_get h1).1 h3⟩
 ·rintro ⟨c, h1, h2, h3⟩; exact ⟨c, h1, h2, (listB_get h1).2 h3⟩
def UpTo (X : List Int) (P : Nat → Prop) (i N : Nat) (UP : List Bool) : Prop := ∀ k, k < N → (UP.getD k default = true ↔ P k ∧ ∃ j, j < i ∧ X.getD j default = (k : Int))
theorem UpTo.zero (X : List Int) (P : Nat → Prop) (N : Nat) : UpTo X P 0 N (List.replicate N false) := fun k hk => by
 rw [List.getD_eq_getElem?_getD, List.getElem?_replicate, if_pos hk]
 constructor
 ·intro h; cases h
 ·rintro ⟨_, j, h, _⟩; omega
theorem UpTo.set {X : List Int} {P : Nat → Prop} {i N : Nat} {UP : List Bool} (h : UpTo X P i N UP) {c : Nat} {v : Bool} (hc : X.getD i default = (c : Int)) (hl : c < UP.length) (hv : v = true ↔ P c) : UpTo X P (i + 1) N (UP.set c v) := fun k hk => by
 rw [boolset hl]
 by_cases hkc : k = c
 ·subst hkc
  rw [if_pos rfl, hv]
  exact ⟨fun h1 => ⟨h1, i, by omega, hc⟩, fun h1 => h1.1⟩
 ·rw [if_neg hkc, h k hk]
  constructor
  ·rintro ⟨h1, j, h2, h3⟩; exact ⟨h1, j, by omega, h3⟩
  ·rintro ⟨h1, j, h2, h3⟩
   refine ⟨h1, j, ?_, h3⟩
   have : j ≠ i := fun he => by subst he; omega
   omega
theorem UpTo.free {n : NetL} {k0 : Nat} {L : List Int} {h : Int} {UP : List Bool} {N : Nat} (hu : UpTo (coneL n k0) (fun k => k = k0 ∨ h ≤ L.getD k default) (coneL n k0).length N UP) (hN : N = nds n) : ∀ k, k < nds n → (UP.getD k default = true ↔ lgFree n k0 L h k) := fun k hk => by
 rw [hu k (by omega)]
 constructor
 ·rintro ⟨h1, j, h2, h3⟩
  obtain ⟨c, _, h4, h5⟩ := coneL_memL.1 (getD_mem h2)
  obtain rfl : c = k := by omega
  rcases h1 with h1 | h1
  ·exact .inl h1
  ·exact .inr ⟨h5, h1⟩
 ·intro h1
  have hc : InCone n k0 k := by
   rcases h1 with rfl | h1
   ·exact .refl _
   ·exact h1.1
  obtain ⟨j, j1, j2⟩ := mem_getD (coneL_memL.2 ⟨k, hk, rfl, hc⟩)
  exact ⟨h1.imp id (fun h => h.2), j, j1, j2⟩
noncomputable def hcO (n : NetL) (k0 : Nat) (L : List Int) (h : Int) : List Int := @ite _ (hcP n k0 L h) (Classical.propDecidable _) (hcL n k0 L h) []
theorem hcO_yes {n : NetL} {k0 : Nat} {L : List Int} {h : Int} (hp : hcP n k0 L h) : hcO n k0 L h = hcL n k0 L h := by unfold hcO; rw [if_pos hp]
theorem hcO_no {n : NetL} {k0 : Nat} {L : List Int} {h : Int} (hp : ¬ hcP n k0 L h) : hcO n k0 L h = [] := by unfold hcO; rw [if_neg hp]
theorem hcB_yes {n : NetL} {k0 : Nat} {L : List Int} {h : Int} (hp : hcP n k0 L h) : hcB n k0 L h = true := pB_yes hp
theorem hcB_no {n : NetL} {k0 : Nat} {L : List Int} {h : Int} (hp : ¬ hcP n k0 L h) : hcB n k0 L h = false := pB_no hp
theorem hcL_to (n : NetL) (k0 : Nat) (L : List Int) (h : Int) : hcL n k0 L h = markedTo (listB (nds n) (hcN n k0 L h)) (nds n) := by
 unfold hcL markedL
 rw [listB_len]
end Go.Xw
namespace Go.Proofs
open Go.Xw
set_option maxRecDepth 100000
set_option maxHeartbeats 2000000
attribute [local irreducible] Holds elemAddr
end Go.Proofs
end
section
namespace Go.Xw
set_option maxHeartbeats 1000000
theorem lb_len (n : NetL) : (lblL n).length = nds n := lbTo_len n _
theorem lb_i64 {n : NetL} (hok : NetOkP n) (k : Nat) : 0 ≤ (lblL n).getD k default ∧ (lblL n).getD k default ≤ 301 := by
 have h := lb_b hok.nums n.ands.length (Nat.le_refl _) k
 have hs := hok.size
 unfold sizeOk at hs
 unfold lblL
 omega
def lcP (n : NetL) (k : Int) : Prop := NetOkP n ∧ (fst_ n : Int) ≤ k ∧ k < (nds n : Int)
noncomputable def lctF (n : NetL) (k : Int) : List Int := @ite _ (lcP n k) (Classical.propDecidable _) (hcO n k.toNat (lblL n) ((lblL n).getD k.toNat default)) []
theorem lct_yes {n : NetL} {k : Int} (hc : lcP n k) : lctF n k = hcO n k.toNat (lblL n) ((lblL n).getD k.toNat default) := by unfold lctF; rw [if_pos hc]
theorem lct_no {n : NetL} {k : Int} (hc : ¬ lcP n k) : lctF n k = [] := by unfold lctF; rw [if_neg hc]
def mxL (L : List Int) (X : List Int) : Nat → Int
 | 0 => 0
 | i + 1 => max (mxL L X i) (L.getD (X.getD i default).toNat default)
noncomputable def chtF (n : NetL) (X : List Int) : Int := @ite _ (NetOkP n ∧ ∀ i, i < X.length → 0 ≤ X.getD i default ∧ X.getD i default < (nds n : Int)) (Classical.propDecidable _) (mxL (lblL n) X X.length + 1) (-1)
theorem cht_yes {n : NetL} {X : List Int} (h : NetOkP n ∧ ∀ i, i < X.length → 0 ≤ X.getD i default ∧ X.getD i default < (nds n : Int)) : chtF n X = mxL (lblL n) X X.length + 1 := by unfold chtF; rw [if_pos h]
theorem cht_no {n : NetL} {X : List Int} (h : ¬ (NetOkP n ∧ ∀ i, i < X.length → 0 ≤ X.getD i default ∧ X.getD i default < (nds n : Int))) : chtF n X = -1 := by unfold chtF; rw [if_neg h]
theorem mxL_b {n : NetL} (hok : NetOkP n) (X : List Int) : ∀ i, 0 ≤ mxL (lblL n) X i ∧ mxL (lblL n) X i ≤ 301
 | 0 => by unfold mxL; omega
 | i + 1 => by
  have h1 := mxL_b hok X i
  have h2 := lb_i64 hok (X.getD i default).toNat
  unfold mxL
  omega
end Go.Xw
namespace Go.Proofs
open Go.Xw
set_option maxRecDepth 100000
set_option maxHeartbeats 2000000
attribute [local irreducible] Holds elemAddr
end Go.Proofs
end
section
namespace Go.Proofs
open Go.Xw
set_option maxRecDepth 100000
def lexLt : List Int → List Int → Bool
 | x :: xs, y :: ys => if x ≠ y then decide (x < y) else lexLt xs ys
 | _, _ => false
def cutLt (xs ys : List Int) : Bool := if xs.length ≠ ys.length then decide (xs.length < ys.length) else lexLt xs ys
theorem lexLt_at : ∀ {i : Nat} {xs ys : List Int}, xs.length = ys.length → i < xs.length → (∀ j, j < i → xs.getD j default = ys.getD j default) → xs.getD i default ≠ ys.getD i default →
  lexLt xs ys = decide (xs.getD i default < ys.getD i default) := by
 intro i
 induction i with
 | zero =>
  intro xs ys hl hi _ hne
  cases xs with
  | nil => simp at hi
  | cons x xs => cases ys with
   | nil => simp at hl
   | cons y ys => simp at hne ⊢; simp [lexLt, hne]
 | succ i ih =>
  intro xs ys hl hi hall hne
  cases xs with
  | nil => simp at hi
  | cons x xs => cases ys with
   | nil => simp at hl
   | cons y ys =>
    have h0 := hall 0 (by omega)
    simp at h0
    simp only [lexLt, h0, ne_eq, not_true, if_false, List.getD_cons_succ] at *
    exact ih (by simpa using hl) (by simpa using hi) (fun j hj => by simpa using hall (j + 1) (by omega)) hne
theorem lexLt_self (xs : List Int) : lexLt xs xs = false := by
 induction xs with
 | nil => rfl
 | cons x xs ih => simp [lexLt, ih]
theorem all_eq {xs ys : List Int} (hlen : xs.length = ys.length) (hall : ∀ j, j < xs.length → xs.getD j default = ys.getD j default) : xs = ys :=
 List.ext_getElem hlen fun j h1 h2 => by
  have := hall j (by omega)
  simpa [List.getD_eq_getElem?_getD, h1, h2] using this
theorem implCutLess_ok (a b : Option Addr) (ca cb : Nat) (xs ys : List Int) (w : World) (ha : Sl w a xs.length 1 (fL eI xs)) (hb : Sl w b ys.length 1 (fL eI ys)) (hl : xs.length < 1000000000) :
  Ret Try.prog 144 [.slice a xs.length ca, .slice b ys.length cb] w (fun v w' => v = .bool (cutLt xs ys) ∧ Ext w w') := by
 refine enter Try.S144ok _ _ rfl rfl (by show _ ≤ _; simp only [List.length]; decide) (fun C => ?_); refine h_run rfl ?_; (repeat (first | refine h_guard_y rfl nopre rfl ?_ | refine h_guard_n rfl nopre rfl ?_))
 refine h_cond_dec (fun h => ?_) (fun h => ?_)
 ·refine h_cond_t rfl rfl ?_; (repeat (first | refine h_guard_y rfl nopre rfl ?_ | refine h_guard_n rfl nopre rfl ?_))
  have hne : xs.length ≠ ys.length := by omega
  exact ⟨by unfold cutLt; rw [if_pos hne]; simp, Ext.refl _⟩
 ·refine h_cond_f rfl rfl ?_; (repeat (first | refine h_guard_y rfl nopre rfl ?_ | refine h_guard_n rfl nopre rfl ?_))
  have hlen : xs.length = ys.length := by omega
  refine h_loop [0, 1, 17, 18] (fun i : Nat => [(0, .slice a xs.length ca), (1, .slice b ys.length cb), (17, .int .i64 (xs.length : Int)), (18, .int .i64 (i : Int))])
   (fun i w' => i ≤ xs.length ∧ (∀ j, j < i → xs.getD j default = ys.getD j default) ∧ Ext w w') (fun i => xs.length - i) 0 rfl ⟨by omega, fun j hj => by omega, Ext.refl _⟩ ?_
  rintro i w1 ⟨hi, hall, hx⟩ IH C
  have ha1 := ha.ext hx
  have hb1 := hb.ext hx
  refine h_run rfl ?_; (repeat (first | refine h_guard_y rfl nopre rfl ?_ | refine h_guard_n rfl nopre rfl ?_))
  refine h_cond_dec (fun hlt => ?_) (fun hlt => ?_)
  ·refine h_cond_t rfl rfl ?_; (repeat (first | refine h_guard_y rfl nopre rfl ?_ | refine h_guard_n rfl nopre rfl ?_))
   have hlt' : i < xs.length := by omega
   refine h_drawE (by kernel_rfl) (by kernel_rfl) rfl rfl (fun w2 hd => ?_); (repeat (first | refine h_guard_yd rfl rfl rfl ?_ | refine h_guard_nd rfl rfl rfl ?_))
   refine h_loadd (fun wx hwx => ld_elN Try.ttOk rfl (ha1.ext hwx) hlt' (by decide)) rfl rfl ?_; (repeat (first | refine h_guard_yd rfl rfl rfl ?_ | refine h_guard_nd rfl rfl rfl ?_))
   refine h_loadd (fun wx hwx => ld_elN Try.ttOk rfl (hb1.ext hwx) (by omega) (by decide)) rfl rfl ?_; (repeat (first | refine h_guard_yd rfl rfl rfl ?_ | refine h_guard_nd rfl rfl rfl ?_))
   refine h_cond_dec (fun hne => ?_) (fun hne => ?_)
   ·refine h_cond_t rfl rfl ?_; (repeat (first | refine h_guard_y rfl nopre rfl ?_ | refine h_guard_n rfl nopre rfl ?_))
    refine h_drawE (by kernel_rfl) (by kernel_rfl) rfl rfl (fun w3 hd3 => ?_); (repeat (first | refine h_guard_yd rfl rfl rfl ?_ | refine h_guard_nd rfl rfl rfl ?_))
    refine h_loadd (fun wx hwx => ld_elN Try.ttOk rfl ((ha1.ext hd).ext hwx) hlt' (by decide)) rfl rfl ?_; (repeat (first | refine h_guard_yd rfl rfl rfl ?_ | refine h_guard_nd rfl rfl rfl ?_))
    refine h_loadd (fun wx hwx => ld_elN Try.ttOk rfl ((hb1.ext hd).ext hwx) (by omega) (by decide)) rfl rfl ?_; (repeat (first | refine h_guard_yd rfl rfl rfl ?_ | refine h_guard_nd rfl rfl rfl ?_))
    refine ⟨?_, (hx.trans hd).trans hd3⟩
    unfold cutLt
    rw [if_neg (by omega), lexLt_at hlen hlt' hall hne]
   ·refine h_cond_f rfl rfl ?_; (repeat (first | refine h_guard_y rfl nopre rfl ?_ | refine h_guard_n rfl nopre rfl ?_))
    refine IH (i + 1) _ _ _ (by omega) rfl ⟨by omega, fun j hj => ?_, hx.trans hd⟩
    by_cases hj2 : j < i
    ·exact hall j hj2
    ·obtain rfl : j = i := by omega
     exact Decidable.not_not.1 hne
  ·refine h_cond_f rfl rfl ?_; (repeat (first | refine h_guard_y rfl nopre rfl ?_ | refine h_guard_n rfl nopre rfl ?_))
   refine ⟨?_, hx⟩
   have : xs = ys := all_eq hlen fun j hj => hall j (by omega)
   unfold cutLt
   rw [if_neg (by omega), this, lexLt_self]
end Go.Proofs
end
