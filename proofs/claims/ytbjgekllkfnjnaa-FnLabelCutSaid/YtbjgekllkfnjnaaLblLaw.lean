/- Labels and cuts by height, as plain data; no condition but the stated ones. -/
import Derived.Test.YtbjgekllkfnjnaaFlowAug
import Derived.Test.YtbjgekllkfnjnaaCutLaw
set_option linter.all false
namespace Go.Xw
set_option maxHeartbeats 1000000
structure LblOk (n : NetL) (L : List Int) (k0 : Nat) : Prop where
 len : L.length = nds n
 leaf : ∀ k, k < fst_ n → L.getD k default = 0
 mono : ∀ i, i < n.ands.length → fst_ n + i < k0 → L.getD (kA n i) default ≤ L.getD (fst_ n + i) default ∧ L.getD (kB n i) default ≤ L.getD (fst_ n + i) default
def lgArc (n : NetL) (k0 p c : Nat) : Prop := InCone n k0 p ∧ c ≠ 0 ∧ ∃ i, i < n.ands.length ∧ p = fst_ n + i ∧ (c = kA n i ∨ c = kB n i)
def lgFree (n : NetL) (k0 : Nat) (L : List Int) (h : Int) (k : Nat) : Prop := k = k0 ∨ (InCone n k0 k ∧ h ≤ L.getD k default)
def lgG (n : NetL) (k0 : Nat) (L : List Int) (h : Int) : GrF := ⟨nds n, lgArc n k0, lgFree n k0 L h, fun k => 0 < k ∧ k < fst_ n⟩
theorem lgArc.lt {n : NetL} (hn : Nums n) {k0 p c : Nat} (h : lgArc n k0 p c) : c < p ∧ fst_ n ≤ p ∧ p ≤ k0 ∧ p < nds n := by
 obtain ⟨h1, h2, i, hi, rfl, hc⟩ := h
 have hle := h1.le hn
 have n1 := hn.n1
 have ka := hn.ka i hi
 have kb := hn.kb i hi
 refine ⟨?_, by omega, hle, by omega⟩
 rcases hc with rfl | rfl <;> omega
theorem lgArc.cone {n : NetL} {k0 p c : Nat} (h : lgArc n k0 p c) : InCone n k0 c := by
 obtain ⟨h1, h2, i, hi, rfl, hc⟩ := h
 rcases hc with rfl | rfl
 ·exact h1.trans (.left hi (.refl _))
 ·exact h1.trans (.right hi (.refl _))
theorem lgG_ok {n : NetL} (hn : Nums n) {k0 : Nat} {L : List Int} {h : Int} (hL : LblOk n L k0) (hk : k0 < nds n) : GrOk (lgG n k0 L h) where
 arcN p c ha := by have := lgArc.lt hn ha; exact ⟨by show p < nds n; omega, by show c < nds n; omega⟩
 arcL p c ha := by have := lgArc.lt hn ha; rintro ⟨_, h2⟩; omega
 arcF p c ha hf := by
  have hlt := lgArc.lt hn ha
  have hcone := ha.1
  rcases hf with rfl | ⟨h1, h2⟩
  ·omega
  ·by_cases hp : p = k0
   ·exact .inl hp
   ·refine .inr ⟨hcone, ?_⟩
    obtain ⟨_, _, i, hi, rfl, hc⟩ := ha
    have hm := hL.mono i hi (by omega)
    rcases hc with rfl | rfl <;> omega
 arcI p c ha := by have := lgArc.lt hn ha; omega
theorem lgFree_lt {n : NetL} (hn : Nums n) {k0 : Nat} (hk : k0 < nds n) {L : List Int} {h : Int} {k : Nat} (hf : lgFree n k0 L h k) : k < nds n := by
 rcases hf with rfl | ⟨h1, _⟩
 ·exact hk
 ·have := h1.le hn; omega
theorem lgLeaf {n : NetL} {k0 : Nat} {L : List Int} {h : Int} (hL : LblOk n L k0) (hk : fst_ n ≤ k0) (hh : 1 ≤ h) {k : Nat} (hl : 0 < k ∧ k < fst_ n) : ¬ lgFree n k0 L h k := fun hf => by
 rcases hf with rfl | ⟨_, h2⟩
 ·omega
 ·rw [hL.leaf k hl.2] at h2; omega
def hcP (n : NetL) (k0 : Nat) (L : List Int) (h : Int) : Prop := ∃ f, FlP (lgG n k0 L h) f ∧ Term (lgG n k0 L h) f ∧ f.tot (lgG n k0 L h) ≤ 4
def hcN (n : NetL) (k0 : Nat) (L : List Int) (h : Int) (k : Nat) : Prop := ∃ f, FlP (lgG n k0 L h) f ∧ Term (lgG n k0 L h) f ∧ f.tot (lgG n k0 L h) ≤ 4 ∧ NrC (lgG n k0 L h) f k
noncomputable def hcL (n : NetL) (k0 : Nat) (L : List Int) (h : Int) : List Int := markedL (listB (nds n) (hcN n k0 L h))
noncomputable def hcB (n : NetL) (k0 : Nat) (L : List Int) (h : Int) : Bool := pB (hcP n k0 L h)
theorem hc_yes {n : NetL} (hn : Nums n) {k0 : Nat} {L : List Int} {h : Int} (hL : LblOk n L k0) (hk : k0 < nds n) {f : Flo} (hf : FlP (lgG n k0 L h) f) (ht : Term (lgG n k0 L h) f) (h4 : f.tot (lgG n k0 L h) ≤ 4) :
  hcP n k0 L h ∧ ∀ k, hcN n k0 L h k ↔ NrC (lgG n k0 L h) f k := by
 refine ⟨⟨f, hf, ht, h4⟩, fun k => ⟨?_, fun hk => ⟨f, hf, ht, h4, hk⟩⟩⟩
 rintro ⟨f', h1, h2, h3, h5⟩
 exact ((near_one (lgG_ok hn hL hk) h1 hf (fun k hk2 => lgFree_lt hn hk hk2) h2 ht).1 k).1 h5
theorem hc_no {n : NetL} (hn : Nums n) {k0 : Nat} {L : List Int} {h : Int} (hL : LblOk n L k0) (hk : k0 < nds n) {f : Flo} (hf : FlP (lgG n k0 L h) f) (h5 : 5 ≤ f.tot (lgG n k0 L h)) : ¬ hcP n k0 L h := by
 rintro ⟨f', h1, h2, h3⟩
 have hG := lgG_ok (h := h) hn hL hk
 have hfr : ∀ k, (lgG n k0 L h).free k → k < (lgG n k0 L h).N := fun k hk2 => lgFree_lt hn hk hk2
 have := flow_le hG hf (near_cut hG h1 hfr h2)
 rw [near_cnt hG h1 hfr h2] at this
 omega
theorem hc_or {n : NetL} (hn : Nums n) {k0 : Nat} {L : List Int} {h : Int} (hL : LblOk n L k0) (hk : k0 < nds n) (hk2 : fst_ n ≤ k0) (hh : 1 ≤ h) : hcP n k0 L h ∨ ∃ f, FlP (lgG n k0 L h) f ∧ f.tot (lgG n k0 L h) = 5 := by
 rcases flow_or (lgG_ok (h := h) hn hL hk) (fun k hk2 => lgFree_lt hn hk hk2) (fun k hk3 => lgLeaf hL hk2 hh hk3) 5 with ⟨f, h1, h2, h3⟩ | ⟨f, h1, h2⟩
 ·exact .inl ⟨f, h1, h2, by have h3 : f.tot (lgG n k0 L h) < 5 := h3; omega⟩
 ·exact .inr ⟨f, h1, h2⟩
theorem hc_cut {n : NetL} (hn : Nums n) {k0 : Nat} {L : List Int} {h : Int} (hL : LblOk n L k0) (hk : k0 < nds n) (hk2 : fst_ n ≤ k0) (hh : 1 ≤ h) {A Y : Nat → Prop} (hc : CutG (lgG n k0 L h) A Y) (h4 : cntN Y (nds n) ≤ 4) : hcP n k0 L h := by
 rcases hc_or hn hL hk hk2 hh with h1 | ⟨f, h1, h2⟩
 ·exact h1
 ·have := flow_le (lgG_ok (h := h) hn hL hk) h1 hc
  have e : cntN Y (lgG n k0 L h).N = cntN Y (nds n) := rfl
  omega
noncomputable def lbH (n : NetL) (L : List Int) (i : Nat) : Int := max 1 (max (L.getD (kA n i) default) (L.getD (kB n i) default))
noncomputable def lbV (n : NetL) (L : List Int) (i : Nat) : Int := @ite _ (hcP n (fst_ n + i) L (lbH n L i)) (Classical.propDecidable _) (lbH n L i) (lbH n L i + 1)
noncomputable def lbTo (n : NetL) : Nat → List Int
 | 0 => List.replicate (nds n) 0
 | i + 1 => (lbTo n i).set (fst_ n + i) (lbV n (lbTo n i) i)
noncomputable def lblL (n : NetL) : List Int := lbTo n n.ands.length
theorem lbTo_len (n : NetL) : ∀ i, (lbTo n i).length = nds n
 | 0 => by simp [lbTo]
 | i + 1 => by rw [lbTo, List.length_set, lbTo_len n i]
theorem lb_set {n : NetL} {i k : Nat} (hi : fst_ n + i < nds n) : (lbTo n (i + 1)).getD k default = if k = fst_ n + i then lbV n (lbTo n i) i else (lbTo n i).getD k default := by
 rw [lbTo]
 by_cases h : k = fst_ n + i
 ·subst h
  rw [if_pos rfl, List.getD_eq_getElem?_getD, List.getElem?_set_self (by rw [lbTo_len]; exact hi), Option.getD_some]
 ·rw [if_neg h, List.getD_eq_getElem?_getD, List.getElem?_set_ne (fun h2 => h h2.symm), ← List.getD_eq_getElem?_getD]
theorem lb_zero {n : NetL} (hn : Nums n) : ∀ i, i ≤ n.ands.length → ∀ k, k < fst_ n ∨ fst_ n + i ≤ k → (lbTo n i).getD k default = 0
 | 0, _, k, _ => by
  rw [lbTo, List.getD_eq_getElem?_getD, List.getElem?_replicate]
  split <;> rfl
 | i + 1, hi, k, hk => by
  have n1 := hn.n1
  rw [lb_set (by omega), if_neg (by omega)]
  exact lb_zero hn i (by omega) k (by omega)
theorem lb_pre {n : NetL} (hn : Nums n) {i j k : Nat} (hij : i ≤ j) (hj : j ≤ n.ands.length) (hk : k < fst_ n + i) : (lbTo n j).getD k default = (lbTo n i).getD k default := by
 induction hij with
 | refl => rfl
 | @step j hij ih =>
  have n1 := hn.n1
  have hij' : i ≤ j := hij
  rw [lb_set (n := n) (i := j) (k := k) (by omega), if_neg (show ¬ k = fst_ n + j by omega)]
  exact ih (by omega)
theorem lbH_1 (n : NetL) (L : List Int) (i : Nat) : 1 ≤ lbH n L i ∧ L.getD (kA n i) default ≤ lbH n L i ∧ L.getD (kB n i) default ≤ lbH n L i := by unfold lbH; omega
theorem lbV_b (n : NetL) (L : List Int) (i : Nat) : lbH n L i ≤ lbV n L i ∧ lbV n L i ≤ lbH n L i + 1 := by unfold lbV; split <;> omega
theorem lbV_yes {n : NetL} {L : List Int} {i : Nat} (h : hcP n (fst_ n + i) L (lbH n L i)) : lbV n L i = lbH n L i := by unfold lbV; rw [if_pos h]
theorem lbV_no {n : NetL} {L : List Int} {i : Nat} (h : ¬ hcP n (fst_ n + i) L (lbH n L i)) : lbV n L i = lbH n L i + 1 := by unfold lbV; rw [if_neg h]
theorem lb_b {n : NetL} (hn : Nums n) : ∀ i, i ≤ n.ands.length → ∀ k, 0 ≤ (lbTo n i).getD k default ∧ (lbTo n i).getD k default ≤ 1 + i
 | 0, _, k => by
  rw [lbTo, List.getD_eq_getElem?_getD, List.getElem?_replicate]
  split
  ·exact ⟨by show (0 : Int) ≤ 0; decide, by show (0 : Int) ≤ _; omega⟩
  ·exact ⟨by show (0 : Int) ≤ 0; decide, by show (0 : Int) ≤ _; omega⟩
 | i + 1, hi, k => by
  have n1 := hn.n1
  have ih := lb_b hn i (by omega)
  rw [lb_set (by omega)]
  split
  ·have h1 := ih (kA n i)
   have h2 := ih (kB n i)
   have h3 := lbV_b n (lbTo n i) i
   have h4 : lbH n (lbTo n i) i = max 1 (max ((lbTo n i).getD (kA n i) default) ((lbTo n i).getD (kB n i) default)) := rfl
   omega
  ·have := ih k; omega
theorem lb_ok {n : NetL} (hn : Nums n) {i : Nat} (hi : i ≤ n.ands.length) {k0 : Nat} (hk : k0 ≤ fst_ n + i) : LblOk n (lbTo n i) k0 where
 len := lbTo_len n i
 leaf k hk := lb_zero hn i hi k (.inl hk)
 mono j hj hjk := by
  have n1 := hn.n1
  have ka := hn.ka j hj
  have kb := hn.kb j hj
  have e := lb_pre hn (i := j + 1) (j := i) (k := fst_ n + j) (by omega) hi (by omega)
  have ea := lb_pre hn (i := j) (j := i) (k := kA n j) (by omega) hi (by omega)
  have eb := lb_pre hn (i := j) (j := i) (k := kB n j) (by omega) hi (by omega)
  rw [e, ea, eb, lb_set (by omega), if_pos rfl]
  have h1 := lbH_1 n (lbTo n j) j
  have h2 := lbV_b n (lbTo n j) j
  omega
theorem lbl_ok {n : NetL} (hn : Nums n) {k0 : Nat} (hk : k0 ≤ nds n) : LblOk n (lblL n) k0 := by
 have n1 := hn.n1
 exact lb_ok hn (Nat.le_refl _) (by omega)
theorem lb_and {n : NetL} (hn : Nums n) {i j : Nat} (hi : i ≤ n.ands.length) (hj : j < i) : 1 ≤ (lbTo n i).getD (fst_ n + j) default := by
 have n1 := hn.n1
 rw [lb_pre hn (i := j + 1) (by omega) hi (by omega), lb_set (by omega), if_pos rfl]
 have h1 := lbH_1 n (lbTo n j) j
 have h2 := lbV_b n (lbTo n j) j
 omega
end Go.Xw
