/- Texts that belong together; each under its stated conditions. -/
import Derived.Test.YtifjicajbgoamaaGreatAddLaw
import Derived.Test.YtifjicajbgoamaaGreatConjLaw
import Derived.Test.YtifjicajbgoamaaGreatMapLaw
set_option linter.all false
section
/- Cuts of a node, as plain data; no condition. -/
namespace Go.Xw

/-- k is met on the way down from r, which ends at the cut -/
inductive Opn (n : NetL) (cut : List Int) (r : Nat) : Nat → Prop where
  | refl : Opn n cut r r
  | left {i : Nat} (hi : i < n.ands.length) (h : Opn n cut r (fst_ n + i)) (hc : ((fst_ n + i : Nat) : Int) ∉ cut) : Opn n cut r (kA n i)
  | right {i : Nat} (hi : i < n.ands.length) (h : Opn n cut r (fst_ n + i)) (hc : ((fst_ n + i : Nat) : Int) ∉ cut) : Opn n cut r (kB n i)
theorem Opn.trans {n : NetL} {cut : List Int} {a b c : Nat} (h : Opn n cut a b) (k : Opn n cut b c) : Opn n cut a c := by
  induction k with
  | refl => exact h
  | left hi _ hc ih => exact .left hi ih hc
  | right hi _ hc ih => exact .right hi ih hc
theorem Opn.le {n : NetL} (hn : Nums n) {cut : List Int} {a b : Nat} (h : Opn n cut a b) : b ≤ a := by
  induction h with
  | refl => exact Nat.le_refl _
  | left hi _ _ ih => have := hn.ka _ hi; omega
  | right hi _ _ ih => have := hn.kb _ hi; omega
/-- a leaf is met that is not in the cut -/
def Esc (n : NetL) (cut : List Int) (r : Nat) : Prop := ∃ k, Opn n cut r k ∧ (k : Int) ∉ cut ∧ 0 < k ∧ k < fst_ n
theorem Esc.trans {n : NetL} {cut : List Int} {a b : Nat} (h : Opn n cut a b) (k : Esc n cut b) : Esc n cut a := by
  obtain ⟨j, h1, h2⟩ := k
  exact ⟨j, h.trans h1, h2⟩
/-- node k is a cut of four at most, ascending, in the cone, and nothing gets by it -/
def cutP (n : NetL) (r : Nat) (cut : List Int) : Prop := (cut.length ≤ 4 ∧ Asc cut) ∧ (∀ c, c ∈ cut → c ∈ coneL n r) ∧ ¬ Esc n cut r
noncomputable def cutOkB (n : NetL) (k : Int) (cut : List Int) : Bool := pB (NetOkP n ∧ (0 ≤ k ∧ k < nodesL n) ∧ cutP n k.toNat cut)
theorem cutOkB_yes {n : NetL} {k : Int} {cut : List Int} (h : NetOkP n ∧ (0 ≤ k ∧ k < nodesL n) ∧ cutP n k.toNat cut) : cutOkB n k cut = true := pB_iff.2 h
theorem cutOkB_no {n : NetL} {k : Int} {cut : List Int} (h : ¬ (NetOkP n ∧ (0 ≤ k ∧ k < nodesL n) ∧ cutP n k.toNat cut)) : cutOkB n k cut = false := by
  cases hb : cutOkB n k cut with
  | false => rfl
  | true => exact absurd (pB_iff.1 hb) h

/-- the search from above -/
structure OTop (n : NetL) (cut : List Int) (r : Nat) (B : List Bool) (k : Nat) : Prop where
  len : B.length = nds n
  root : B.getD r default = true
  sd : ∀ j, j < nds n → B.getD j default = true → Opn n cut r j
  dn : ∀ j, k ≤ j → j < nds n → B.getD j default = true → (j : Int) ∉ cut → 0 < j → fst_ n ≤ j ∧ (∀ i, j = fst_ n + i → B.getD (kA n i) default = true ∧ B.getD (kB n i) default = true)
theorem OTop.start {n : NetL} {cut : List Int} {r : Nat} (hr : r < nds n) : OTop n cut r ((List.replicate (nds n) false).set r true) (r + 1) := by
  have hb : ∀ l, ((List.replicate (nds n) false).set r true).getD l default = true ↔ l = r := fun l => by
    rw [bget_set (by simp; omega)]
    constructor
    · rintro (h | h)
      · exact h
      · simp only [List.getD_eq_getElem?_getD, List.getElem?_replicate] at h; split at h <;> simp at h
    · exact .inl
  exact ⟨by simp, (hb r).2 rfl, fun j _ h => by rw [(hb j).1 h]; exact .refl, fun j h1 _ h _ _ => by have := (hb j).1 h; omega⟩
theorem OTop.skip {n : NetL} {cut : List Int} {r : Nat} {B : List Bool} {k : Nat} (h : OTop n cut r B (k + 1)) (hs : ¬ B.getD k default = true ∨ (k : Int) ∈ cut) : OTop n cut r B k :=
  ⟨h.len, h.root, h.sd, fun j h1 h2 h3 h4 h5 => by
    by_cases hj : j = k
    · subst hj
      rcases hs with hs | hs
      · exact absurd h3 hs
      · exact absurd hs h4
    · exact h.dn j (by omega) h2 h3 h4 h5⟩
theorem OTop.bad {n : NetL} {cut : List Int} {r : Nat} {B : List Bool} {k : Nat} (h : OTop n cut r B (k + 1)) (hk : k < nds n) (hm : B.getD k default = true) (hc : (k : Int) ∉ cut) (h0 : 0 < k) (hf : k < fst_ n) : Esc n cut r :=
  ⟨k, h.sd k hk hm, hc, h0, hf⟩
theorem OTop.down {n : NetL} (hn : Nums n) {cut : List Int} {r : Nat} {B : List Bool} {i : Nat} (hi : i < n.ands.length) (h : OTop n cut r B (fst_ n + i + 1)) (hm : B.getD (fst_ n + i) default = true) (hc : ((fst_ n + i : Nat) : Int) ∉ cut) :
    OTop n cut r ((B.set (kA n i) true).set (kB n i) true) (fst_ n + i) := by
  have ka := hn.ka i hi
  have kb := hn.kb i hi
  have n1 := hn.n1
  have hlen := h.len
  have hb : ∀ l, ((B.set (kA n i) true).set (kB n i) true).getD l default = true ↔ l = kB n i ∨ l = kA n i ∨ B.getD l default = true := fun l => by
    rw [bget_set (by simp; omega), bget_set (by omega)]
  have ho := h.sd _ (by omega) hm
  refine ⟨by simp; exact hlen, (hb r).2 (.inr (.inr h.root)), fun j hj hm2 => ?_, fun j h1 h2 h3 h4 h5 => ?_⟩
  · rcases (hb j).1 hm2 with rfl | rfl | h2
    · exact .right hi ho hc
    · exact .left hi ho hc
    · exact h.sd j hj h2
  · by_cases hj : j = fst_ n + i
    · subst hj
      refine ⟨by omega, fun i' he => ?_⟩
      obtain rfl : i' = i := by omega
      exact ⟨(hb _).2 (.inr (.inl rfl)), (hb _).2 (.inl rfl)⟩
    · rcases (hb j).1 h3 with h6 | h6 | h6
      · omega
      · omega
      · obtain ⟨g1, g2⟩ := h.dn j (by omega) h2 h6 h4 h5
        exact ⟨g1, fun i' he => ⟨(hb _).2 (.inr (.inr (g2 i' he).1)), (hb _).2 (.inr (.inr (g2 i' he).2))⟩⟩
theorem OTop.done {n : NetL} (hn : Nums n) {cut : List Int} {r : Nat} (hr : r < nds n) {B : List Bool} (h : OTop n cut r B 1) : ¬ Esc n cut r := by
  have key : ∀ k, Opn n cut r k → B.getD k default = true := fun k ho => by
    induction ho with
    | refl => exact h.root
    | left hi ho hc ih =>
      have := hn.n1; have := hn.f1
      exact ((h.dn _ (by omega) (by omega) ih hc (by omega)).2 _ rfl).1
    | right hi ho hc ih =>
      have := hn.n1; have := hn.f1
      exact ((h.dn _ (by omega) (by omega) ih hc (by omega)).2 _ rfl).2
  rintro ⟨k, h1, h2, h3, h4⟩
  have := h1.le hn
  have := (h.dn k (by omega) (by omega) (key k h1) h2 h3).1
  omega

/-- the program's search: up to m what is seen leads to what is seen, to the cut or to 0 -/
def ECl (n : NetL) (cut : List Int) (B : List Bool) (m : Nat) : Prop := ∀ k, k ≤ m → k < nds n → B.getD k default = true → fst_ n ≤ k ∧ (k : Int) ∉ cut ∧ ∀ i, k = fst_ n + i → (kA n i = 0 ∨ ((kA n i : Nat) : Int) ∈ cut ∨ B.getD (kA n i) default = true) ∧ (kB n i = 0 ∨ ((kB n i : Nat) : Int) ∈ cut ∨ B.getD (kB n i) default = true)
/-- what the search from r leaves -/
structure EOut (n : NetL) (cut : List Int) (B : List Bool) (r : Nat) (b : Bool) (B' : List Bool) : Prop where
  len : B'.length = B.length
  yes : b = true → Esc n cut r
  up : b = false → ∀ k, B.getD k default = true → B'.getD k default = true
  ab : b = false → ∀ k, r < k → B'.getD k default = true → B.getD k default = true
  cl : b = false → ECl n cut B' r
  root : b = false → r = 0 ∨ (r : Int) ∈ cut ∨ B'.getD r default = true
/-- what was closed up to m and is untouched above r stays closed -/
theorem ECl.after {n : NetL} {cut : List Int} {B B' : List Bool} {r m : Nat} (h : ECl n cut B m) (o : EOut n cut B r false B') : ECl n cut B' m := fun k hk hkn hb => by
  by_cases hkr : k ≤ r
  · exact o.cl rfl k hkr hkn hb
  · have h2 := h k hk hkn (o.ab rfl k (by omega) hb)
    exact ⟨h2.1, h2.2.1, fun i he => ⟨((h2.2.2 i he).1).imp id (fun h => h.imp id fun h => o.up rfl _ h), ((h2.2.2 i he).2).imp id (fun h => h.imp id fun h => o.up rfl _ h)⟩⟩
theorem EOut.done {n : NetL} (hn : Nums n) {cut : List Int} {B : List Bool} {r : Nat} (hr : r < nds n) (o : EOut n cut (List.replicate (nds n) false) r false B) : ¬ Esc n cut r := by
  have key : ∀ k, Opn n cut r k → k = 0 ∨ (k : Int) ∈ cut ∨ B.getD k default = true := fun k ho => by
    induction ho with
    | refl => exact o.root rfl
    | left hi ho hc ih =>
      have := hn.n1; have := hn.f1; have := ho.le hn
      rcases ih with h | h | h
      · omega
      · exact absurd h hc
      · exact ((o.cl rfl _ (by omega) (by omega) h).2.2 _ rfl).1
    | right hi ho hc ih =>
      have := hn.n1; have := hn.f1; have := ho.le hn
      rcases ih with h | h | h
      · omega
      · exact absurd h hc
      · exact ((o.cl rfl _ (by omega) (by omega) h).2.2 _ rfl).2
  rintro ⟨k, h1, h2, h3, h4⟩
  have := h1.le hn
  rcases key k h1 with h | h | h
  · omega
  · exact h2 h
  · have := (o.cl rfl k (by omega) (by omega) h).1
    omega
end Go.Xw
end
section
/- The table of a node over a cut, as plain data; no condition. -/
namespace Go.Xw
/-- the value of node k, if those below have the values V and those of the cut the bits of i -/
def cvAt (n : NetL) (cut : List Int) (i : Int) (V : List Int) (k : Nat) : Int :=
  if (k : Int) ∈ cut then bitI i (cut.idxOf (k : Int)) else if fst_ n ≤ k then bits .and .i64 (litV V (n.ands.getD (k - fst_ n) default).1) (litV V (n.ands.getD (k - fst_ n) default).2) else 0
def cvTo (n : NetL) (cut : List Int) (i : Int) : Nat → List Int
  | 0 => []
  | k + 1 => cvTo n cut i k ++ [cvAt n cut i (cvTo n cut i k) k]
theorem cvTo_len (n : NetL) (cut : List Int) (i : Int) : ∀ k, (cvTo n cut i k).length = k
  | 0 => rfl
  | k + 1 => by rw [cvTo, List.length_append, cvTo_len n cut i k]; rfl
theorem cvTo_pre (n : NetL) (cut : List Int) (i : Int) (k : Nat) : ∀ d, ∃ T, cvTo n cut i (k + d) = cvTo n cut i k ++ T
  | 0 => ⟨[], by simp⟩
  | d + 1 => by
    obtain ⟨T, h⟩ := cvTo_pre n cut i k d
    exact ⟨T ++ [cvAt n cut i (cvTo n cut i (k + d)) (k + d)], by rw [show k + (d + 1) = k + d + 1 by omega, cvTo, h, List.append_assoc]⟩
theorem get_left {α : Type} [Inhabited α] {A B : List α} {i : Nat} (h : i < A.length) : (A ++ B).getD i default = A.getD i default := by
  simp [List.getD_eq_getElem?_getD, List.getElem?_append_left h]
theorem cvTo_get {n : NetL} {cut : List Int} {i : Int} {k m : Nat} (h : k < m) : (cvTo n cut i m).getD k default = cvAt n cut i (cvTo n cut i k) k := by
  obtain ⟨T, e⟩ := cvTo_pre n cut i (k + 1) (m - (k + 1))
  rw [show k + 1 + (m - (k + 1)) = m by omega] at e
  rw [e, get_left (by rw [cvTo_len]; omega), cvTo]
  have := snoc_eq (R := cvTo n cut i k) (y := cvAt n cut i (cvTo n cut i k) k)
  rw [cvTo_len] at this
  exact this
theorem cvTo_lit {n : NetL} {cut : List Int} {i : Int} {k m : Nat} (h : k ≤ m) {l : Int} (hl : (l / 2).toNat < k) : litV (cvTo n cut i m) l = litV (cvTo n cut i k) l := by
  obtain ⟨T, e⟩ := cvTo_pre n cut i k (m - k)
  rw [show k + (m - k) = m by omega] at e
  rw [e]
  exact litV_congr (get_left (by rw [cvTo_len]; exact hl))
theorem cvTo_01 (n : NetL) (cut : List Int) (i : Int) : ∀ k, All01 (cvTo n cut i k)
  | 0 => fun j => by simp only [cvTo, List.getD_eq_getElem?_getD]; exact .inl rfl
  | k + 1 => fun j => by
    have ih := cvTo_01 n cut i k
    rw [cvTo]
    by_cases h1 : j < (cvTo n cut i k).length
    · rw [snoc_lt h1]; exact ih j
    · by_cases h2 : j = (cvTo n cut i k).length
      · subst h2
        rw [snoc_eq]
        unfold cvAt
        split
        · exact and1_01 _
        · split
          · exact and_is01 (litV_01 ih _) (litV_01 ih _)
          · exact .inl rfl
      · rw [List.getD_eq_getElem?_getD, List.getElem?_eq_none (by simp; omega)]; exact .inl rfl
/-- the value of a node at index i -/
def cvL (n : NetL) (cut : List Int) (r : Nat) (i : Nat) : Int := (cvTo n cut i (nds n)).getD r default
theorem cvL_01 (n : NetL) (cut : List Int) (r i : Nat) : is01 (cvL n cut r i) := cvTo_01 n cut i (nds n) r
def tbTo (n : NetL) (cut : List Int) (r : Nat) : Nat → Int
  | 0 => 0
  | i + 1 => tbTo n cut r i + cvL n cut r i * 2 ^ i
theorem tbTo_lt (n : NetL) (cut : List Int) (r : Nat) : ∀ i, 0 ≤ tbTo n cut r i ∧ tbTo n cut r i < 2 ^ i
  | 0 => by simp [tbTo]
  | i + 1 => by
    have h1 := tbTo_lt n cut r i
    exact bit_add_lt h1.1 h1.2 (cvL_01 n cut r i)
def tabL (n : NetL) (cut : List Int) (r : Nat) : Int × Int := (cut.length, tbTo n cut r (2 ^ cut.length))
noncomputable def tabF (n : NetL) (k : Int) (cut : List Int) : Int × Int := if cutOkB n k cut = true then tabL n cut k.toNat else (0, 0)
theorem asc_lt {cut : List Int} (h : Asc cut) {a b : Nat} (hab : a < b) (hb : b < cut.length) : cut.getD a default < cut.getD b default := by
  induction hab with
  | refl => exact asc_get.2 h (a + 1) (by omega) hb
  | @step b hab ih => exact Int.lt_trans (ih (by omega)) (asc_get.2 h (b + 1) (by omega) hb)
theorem asc_idx {cut : List Int} (h : Asc cut) {x : Int} {j : Nat} (hj : j < cut.length) (he : cut.getD j default = x) : cut.idxOf x = j := by
  have hm : x ∈ cut := by rw [← he]; exact getD_mem hj
  have h2 : cut.idxOf x < cut.length := List.idxOf_lt_length_iff.2 hm
  have h3 : cut.getD (cut.idxOf x) default = x := by rw [List.getD_eq_getElem?_getD, List.getElem?_eq_getElem h2, Option.getD_some, List.getElem_idxOf]
  rcases Nat.lt_trichotomy (cut.idxOf x) j with h4 | h4 | h4
  · have := asc_lt h h4 hj; omega
  · exact h4
  · have := asc_lt h h4 h2; omega
end Go.Xw
end
