/- Cuts of a node, as plain data; no condition. -/
import Derived.Test.YtbjgekllkfnjnaaMap
import Derived.Test.YtbjgekllkfnjnaaConjLaw
set_option linter.all false
namespace Go.Xw
inductive Opn (n : NetL) (cut : List Int) (r : Nat) : Nat → Prop where
 | refl : Opn n cut r r
 | left {i : Nat} (hi : i < n.ands.length) (h : Opn n cut r (fst_ n + i)) (hc : ((fst_ n + i : Nat) : Int) ∉ cut) : Opn n cut r (kA n i)
 | right {i : Nat} (hi : i < n.ands.length) (h : Opn n cut r (fst_ n + i)) (hc : ((fst_ n + i : Nat) : Int) ∉ cut) : Opn n cut r (kB n i)
theorem Opn.trans {n : NetL} {cut : List Int} {a b c : Nat} (h : Opn n cut a b) (k : Opn n cut b c) : Opn n cut a c := by
 induction k with
 | refl => exact h
 | left hi _ hc ih => exact .left hi ih hc
 | right hi _ hc ih => exact .right hi ih hc
theorem Opn.le {n : NetL} (hn : Nums n) {cut : List Int} {a b : Nat} (h : Opn n cut a b) : b ≤ a := by
 induction h with
 | refl => exact Nat.le_refl _
 | left hi _ _ ih => have := hn.ka _ hi; omega
 | right hi _ _ ih => have := hn.kb _ hi; omega
def Esc (n : NetL) (cut : List Int) (r : Nat) : Prop := ∃ k, Opn n cut r k ∧ (k : Int) ∉ cut ∧ 0 < k ∧ k < fst_ n
theorem Esc.trans {n : NetL} {cut : List Int} {a b : Nat} (h : Opn n cut a b) (k : Esc n cut b) : Esc n cut a := by
 obtain ⟨j, h1, h2⟩ := k
 exact ⟨j, h.trans h1, h2⟩
def cutP (n : NetL) (r : Nat) (cut : List Int) : Prop := (cut.length ≤ 4 ∧ Asc cut) ∧ (∀ c, c ∈ cut → c ∈ coneL n r) ∧ ¬ Esc n cut r
noncomputable def cutOkB (n : NetL) (k : Int) (cut : List Int) : Bool := pB (NetOkP n ∧ (0 ≤ k ∧ k < nodesL n) ∧ cutP n k.toNat cut)
theorem cutOkB_yes {n : NetL} {k : Int} {cut : List Int} (h : NetOkP n ∧ (0 ≤ k ∧ k < nodesL n) ∧ cutP n k.toNat cut) : cutOkB n k cut = true := pB_iff.2 h
theorem cutOkB_no {n : NetL} {k : Int} {cut : List Int} (h : ¬ (NetOkP n ∧ (0 ≤ k ∧ k < nodesL n) ∧ cutP n k.toNat cut)) : cutOkB n k cut = false := by
 cases hb : cutOkB n k cut with
 | false => rfl
 | true => exact absurd (pB_iff.1 hb) h
structure OTop (n : NetL) (cut : List Int) (r : Nat) (B : List Bool) (k : Nat) : Prop where
 len : B.length = nds n
 root : B.getD r default = true
 sd : ∀ j, j < nds n → B.getD j default = true → Opn n cut r j
 dn : ∀ j, k ≤ j → j < nds n → B.getD j default = true → (j : Int) ∉ cut → 0 < j → fst_ n ≤ j ∧ (∀ i, j = fst_ n + i → B.getD (kA n i) default = true ∧ B.getD (kB n i) default = true)
theorem OTop.start {n : NetL} {cut : List Int} {r : Nat} (hr : r < nds n) : OTop n cut r ((List.replicate (nds n) false).set r true) (r + 1) := by
 have hb : ∀ l, ((List.replicate (nds n) false).set r true).getD l default = true ↔ l = r := fun l => by
  rw [bget_set (by simp; omega)]
  constructor
  ·rintro (h | h)
   ·exact h
   ·simp only [List.getD_eq_getElem?_getD, List.getElem?_replicate] at h; split at h <;> simp at h
  ·exact .inl
 exact ⟨by simp, (hb r).2 rfl, fun j _ h => by rw [(hb j).1 h]; exact .refl, fun j h1 _ h _ _ => by have := (hb j).1 h; omega⟩
theorem OTop.skip {n : NetL} {cut : List Int} {r : Nat} {B : List Bool} {k : Nat} (h : OTop n cut r B (k + 1)) (hs : ¬ B.getD k default = true ∨ (k : Int) ∈ cut) : OTop n cut r B k :=
 ⟨h.len, h.root, h.sd, fun j h1 h2 h3 h4 h5 => by
  by_cases hj : j = k
  ·subst hj
   rcases hs with hs | hs
   ·exact absurd h3 hs
   ·exact absurd hs h4
  ·exact h.dn j (by omega) h2 h3 h4 h5⟩
theorem OTop.down {n : NetL} (hn : Nums n) {cut : List Int} {r : Nat} {B : List Bool} {i : Nat} (hi : i < n.ands.length) (h : OTop n cut r B (fst_ n + i + 1)) (hm : B.getD (fst_ n + i) default = true) (hc : ((fst_ n + i : Nat) : Int) ∉ cut) :
  OTop n cut r ((B.set (kA n i) true).set (kB n i) true) (fst_ n + i) := by
 have ka := hn.ka i hi
 have kb := hn.kb i hi
 have n1 := hn.n1
 have hlen := h.len
 have hb : ∀ l, ((B.set (kA n i) true).set (kB n i) true).getD l default = true ↔ l = kB n i ∨ l = kA n i ∨ B.getD l default = true := fun l => by
  rw [bget_set (by simp; omega), bget_set (by omega)]
 have ho := h.sd _ (by omega) hm
 refine ⟨by simp; exact hlen, (hb r).2 (.inr (.inr h.root)), fun j hj hm2 => ?_, fun j h1 h2 h3 h4 h5 => ?_⟩
 ·rcases (hb j).1 hm2 with rfl | rfl | h2
  ·exact .right hi ho hc
  ·exact .left hi ho hc
  ·exact h.sd j hj h2
 ·by_cases hj : j = fst_ n + i
  ·subst hj
   refine ⟨by omega, fun i' he => ?_⟩
   obtain rfl : i' = i := by omega
   exact ⟨(hb _).2 (.inr (.inl rfl)), (hb _).2 (.inl rfl)⟩
  ·rcases (hb j).1 h3 with h6 | h6 | h6
   ·omega
   ·omega
   ·obtain ⟨g1, g2⟩ := h.dn j (by omega) h2 h6 h4 h5
    exact ⟨g1, fun i' he => ⟨(hb _).2 (.inr (.inr (g2 i' he).1)), (hb _).2 (.inr (.inr (g2 i' he).2))⟩⟩
theorem OTop.done {n : NetL} (hn : Nums n) {cut : List Int} {r : Nat} (hr : r < nds n) {B : List Bool} (h : OTop n cut r B 1) : ¬ Esc n cut r := by
 have key : ∀ k, Opn n cut r k → B.getD k default = true := fun k ho => by
  induction ho with
  | refl => exact h.root
  | left hi ho hc ih =>
   have := hn.n1; have := hn.f1
   exact ((h.dn _ (by omega) (by omega) ih hc (by omega)).2 _ rfl).1
  | right hi ho hc ih =>
   have := hn.n1; have := hn.f1
   exact ((h.dn _ (by omega) (by omega) ih hc (by omega)).2 _ rfl).2
 rintro ⟨k, h1, h2, h3, h4⟩
 have := h1.le hn
 have := (h.dn k (by omega) (by omega) (key k h1) h2 h3).1
 omega
def ECl (n : NetL) (cut : List Int) (B : List Bool) (m : Nat) : Prop := ∀ k, k ≤ m → k < nds n → B.getD k default = true → fst_ n ≤ k ∧ (k : Int) ∉ cut ∧ ∀ i, k = fst_ n + i → (kA n i = 0 ∨ ((kA n i : Nat) : Int) ∈ cut ∨ B.getD (kA n i) default = true) ∧ (kB n i = 0 ∨ ((kB n i : Nat) : Int) ∈ cut ∨ B.getD (kB n i) default = true)
structure EOut (n : NetL) (cut : List Int) (B : List Bool) (r : Nat) (b : Bool) (B' : List Bool) : Prop where
 len : B'.length = B.length
 yes : b = true → Esc n cut r
 up : b = false → ∀ k, B.getD k default = true → B'.getD k default = true
 ab : b = false → ∀ k, r < k → B'.getD k default = true → B.getD k default = true
 cl : b = false → ECl n cut B' r
 root : b = false → r = 0 ∨ (r : Int) ∈ cut ∨ B'.getD r default = true
theorem EOut.stop {n : NetL} {cut : List Int} {B : List Bool} {r : Nat} (h : ECl n cut B r) (hr : r = 0 ∨ (r : Int) ∈ cut ∨ B.getD r default = true) : EOut n cut B r false B :=
 ⟨rfl, fun h => (by cases h), fun _ _ h => h, fun _ _ _ h => h, fun _ => h, fun _ => hr⟩
theorem ECl.mark {n : NetL} {cut : List Int} {B : List Bool} {r m : Nat} (h : ECl n cut B r) (hr : r < B.length) (hm : m < r) : ECl n cut (B.set r true) m := fun k hk hkn hb => by
 have h2 := h k (by omega) hkn (((bget_set hr).1 hb).resolve_left (by omega))
 exact ⟨h2.1, h2.2.1, fun i he => ⟨((h2.2.2 i he).1).imp id (fun h => h.imp id fun h => (bget_set hr).2 (.inr h)), ((h2.2.2 i he).2).imp id (fun h => h.imp id fun h => (bget_set hr).2 (.inr h))⟩⟩
theorem ECl.after {n : NetL} {cut : List Int} {B B' : List Bool} {r m : Nat} (h : ECl n cut B m) (o : EOut n cut B r false B') : ECl n cut B' m := fun k hk hkn hb => by
 by_cases hkr : k ≤ r
 ·exact o.cl rfl k hkr hkn hb
 ·have h2 := h k hk hkn (o.ab rfl k (by omega) hb)
  exact ⟨h2.1, h2.2.1, fun i he => ⟨((h2.2.2 i he).1).imp id (fun h => h.imp id fun h => o.up rfl _ h), ((h2.2.2 i he).2).imp id (fun h => h.imp id fun h => o.up rfl _ h)⟩⟩
theorem EOut.done {n : NetL} (hn : Nums n) {cut : List Int} {B : List Bool} {r : Nat} (hr : r < nds n) (o : EOut n cut (List.replicate (nds n) false) r false B) : ¬ Esc n cut r := by
 have key : ∀ k, Opn n cut r k → k = 0 ∨ (k : Int) ∈ cut ∨ B.getD k default = true := fun k ho => by
  induction ho with
  | refl => exact o.root rfl
  | left hi ho hc ih =>
   have := hn.n1; have := hn.f1; have := ho.le hn
   rcases ih with h | h | h
   ·omega
   ·exact absurd h hc
   ·exact ((o.cl rfl _ (by omega) (by omega) h).2.2 _ rfl).1
  | right hi ho hc ih =>
   have := hn.n1; have := hn.f1; have := ho.le hn
   rcases ih with h | h | h
   ·omega
   ·exact absurd h hc
   ·exact ((o.cl rfl _ (by omega) (by omega) h).2.2 _ rfl).2
 rintro ⟨k, h1, h2, h3, h4⟩
 have := h1.le hn
 rcases key k h1 with h | h | h
 ·omega
 ·exact h2 h
 ·have := (o.cl rfl k (by omega) (by omega) h).1
  omega
end Go.Xw
