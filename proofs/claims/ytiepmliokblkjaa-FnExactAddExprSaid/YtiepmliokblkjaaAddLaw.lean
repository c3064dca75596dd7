/- Nets with added AND nodes, as plain data; no condition. -/
import Derived.Test.YtiepmliokblkjaaNetR
import Derived.Test.YtiepmliokblkjaaBits
import Derived.Test.YtiepmliokblkjaaReachLaw
set_option linter.all false
namespace Go.Xw
open Go.RowKit
def notL (a : Int) : Int := bits .xor .i64 a 1
theorem nat_xor_one (n : Nat) : n ^^^ 1 = if n % 2 = 0 then n + 1 else n - 1 := by
 have h1 : (n ^^^ 1) / 2 = n / 2 := by rw [Nat.xor_div_two]; simp
 have h2 : (n ^^^ 1) % 2 = (n + 1) % 2 := by
  have := Nat.xor_mod_two_pow (a := n) (b := 1) (n := 1)
  simp only [Nat.pow_one] at this
  rcases Nat.mod_two_eq_zero_or_one n with h | h
  ·rw [this, h, show 0 ^^^ 1 % 2 = 1 from rfl]; omega
  ·rw [this, h, show 1 ^^^ 1 % 2 = 0 from rfl]; omega
 split <;> omega
theorem xor_one {a : Int} (h : 0 ≤ a) (h2 : a ≤ 9223372036854775807) : bits .xor .i64 a 1 = if a % 2 = 0 then a + 1 else a - 1 := by
 obtain ⟨n, rfl⟩ := Int.eq_ofNat_of_zero_le h
 have := bits_xor_nat n 1 (by omega) (by omega)
 rw [show ((1 : Nat) : Int) = 1 from rfl] at this
 rw [this, nat_xor_one]
 split <;> split <;> omega
theorem notL_eq {a : Int} (h : 0 ≤ a) (h2 : a ≤ 9223372036854775807) : notL a = if a % 2 = 0 then a + 1 else a - 1 := xor_one h h2
theorem notL_b {a : Int} (h : 0 ≤ a) (h2 : a ≤ 9223372036854775807) : 0 ≤ notL a ∧ notL a ≤ 9223372036854775807 ∧ notL a / 2 = a / 2 ∧ notL a ≠ a := by
 rw [notL_eq h h2]; split <;> omega
theorem notL_iff {a b : Int} (h : 0 ≤ a) (h2 : a ≤ 9223372036854775807) (k : 0 ≤ b) (k2 : b ≤ 9223372036854775807) : notL a = b ↔ a = notL b := by
 rw [notL_eq h h2, notL_eq k k2]; split <;> split <;> omega
theorem notL_lit {a k : Int} (ha : i64R a) (h : 0 ≤ a) : litP (notL a) k ↔ litP a k := by
 have := notL_b h ha.2
 unfold litP
 omega
theorem rootsTo_eq (n : NetL) : ∀ i, i ≤ n.seqs.length → rootsTo n i = n.outs ++ (n.seqs.take i).flatMap SeqL.ins
 | 0, _ => by simp [rootsTo]
 | i + 1, h => by
  rw [rootsTo, rootsTo_eq n i (by omega), List.take_succ_eq_append_getElem (by omega), List.flatMap_append, List.append_assoc]
  congr 2
  simp [List.getD_eq_getElem?_getD, List.getElem?_eq_getElem (show i < n.seqs.length by omega)]
theorem rootsL_eq (n : NetL) : rootsL n = n.outs ++ n.seqs.flatMap SeqL.ins := by
 rw [rootsL, rootsTo_eq n _ (Nat.le_refl _), List.take_length]
theorem mem_iff_getD {α : Type} [Inhabited α] {l : List α} {p : α → Prop} : (∀ x, x ∈ l → p x) ↔ ∀ i, i < l.length → p (l.getD i default) := by
 constructor
 ·intro h i hi; exact h _ (getD_mem hi)
 ·intro h x hx
  obtain ⟨i, hi, rfl⟩ := List.mem_iff_getElem.1 hx
  have := h i hi
  rwa [List.getD_eq_getElem?_getD, List.getElem?_eq_getElem hi, Option.getD_some] at this
theorem NetOkP.root {n : NetL} (h : NetOkP n) : ∀ x, x ∈ rootsL n → litP x (nodesL n) := mem_iff_getD.2 h.roots
theorem NetOkP.out {n : NetL} (h : NetOkP n) : ∀ x, x ∈ n.outs → litP x (nodesL n) := fun x hx => h.root x (by rw [rootsL_eq]; exact List.mem_append_left _ hx)
theorem NetOkP.inp {n : NetL} (h : NetOkP n) {s : SeqL} (hs : s ∈ n.seqs) : ∀ x, x ∈ s.ins → litP x (nodesL n) := fun x hx => h.root x (by
 rw [rootsL_eq]; exact List.mem_append_right _ (List.mem_flatMap.2 ⟨s, hs, hx⟩))
theorem NetOkP.count {n : NetL} (h : NetOkP n) : 1 ≤ firstAndL n ∧ firstAndL n + n.ands.length = nodesL n ∧ nodesL n ≤ 333 := by
 have := h.size
 unfold sizeOk at this
 unfold firstAndL nodesL
 omega
theorem litP.i64 {x k : Int} (h : litP x k) (hk : k ≤ 1000000) : i64R x := by unfold litP at h; unfold i64R; omega
theorem NetOkP.W {n : NetL} (h : NetOkP n) : NetW n := by
 have hc := h.count
 refine ⟨fun i hi => (h.out _ (getD_mem hi)).i64 (by omega), fun i hi j hj => (h.inp (getD_mem hi) _ (getD_mem hj)).i64 (by omega), fun i hi => ?_⟩
 have := h.ands i hi
 exact ⟨this.1.i64 (by omega), this.2.i64 (by omega)⟩
theorem NetOkP.S' {n : NetL} (h : NetOkP n) : NetS n := by
 have h1 := h.size
 unfold sizeOk at h1
 refine ⟨by omega, fun i hi => ?_, by omega, by omega⟩
 rcases h.seqs i hi with ⟨_, _, h2⟩ | ⟨_, _, h2⟩ <;> omega
def addAndL (n : NetL) (a b : Int) : NetL × Int :=
 if a = 0 ∨ b = 0 ∨ notL a = b then (n, 0)
 else if a = 1 ∨ a = b then (n, b)
 else if b = 1 then (n, a)
 else if n.ands.idxOf (min a b, max a b) < n.ands.length then (n, 2 * (firstAndL n + (n.ands.idxOf (min a b, max a b) : Nat)))
 else if 300 ≤ n.ands.length then (n, -1)
 else ({ n with ands := n.ands ++ [(min a b, max a b)] }, 2 * nodesL n)
theorem addAndL_n (n : NetL) (a b : Int) : (addAndL n a b).1 = { n with ands := (addAndL n a b).1.ands } := by
 unfold addAndL; (repeat' split) <;> rfl
theorem addAndL_inputs (n : NetL) (a b : Int) : (addAndL n a b).1.inputs = n.inputs := by unfold addAndL; (repeat' split) <;> rfl
theorem addAndL_seqs (n : NetL) (a b : Int) : (addAndL n a b).1.seqs = n.seqs := by unfold addAndL; (repeat' split) <;> rfl
theorem addAndL_ands (n : NetL) (a b : Int) : (addAndL n a b).1 = n ∨ ((addAndL n a b).1.ands = n.ands ++ [(min a b, max a b)] ∧ (addAndL n a b).2 = 2 * nodesL n ∧ n.ands.length < 300) := by
 unfold addAndL
 (repeat' split) <;> first | exact .inl rfl | (exact .inr ⟨rfl, rfl, by omega⟩)
theorem litP.mono {x k k' : Int} (h : litP x k) (hk : k ≤ k') : litP x k' := by unfold litP at h ⊢; omega
theorem NetOkP.snoc {n : NetL} (h : NetOkP n) {x : Int × Int} (h1 : litP x.1 (nodesL n)) (h2 : litP x.2 (nodesL n)) (hl : n.ands.length < 300) : NetOkP { n with ands := n.ands ++ [x] } := by
 obtain ⟨s1, s2, s3, s4⟩ := h.size
 have hc := h.count
 have e : nodesL { n with ands := n.ands ++ [x] } = nodesL n + 1 := by unfold nodesL; simp; omega
 have e2 : firstAndL { n with ands := n.ands ++ [x] } = firstAndL n := rfl
 refine ⟨⟨s1, s2, by simp; omega, s4⟩, h.seqs, fun i hi => ?_, fun i hi => ?_⟩
 ·rw [e]
  have e3 : rootsL { n with ands := n.ands ++ [x] } = rootsL n := by rw [rootsL_eq, rootsL_eq]
  rw [e3] at hi ⊢
  exact (h.roots i hi).mono (by omega)
 ·rw [e2]
  simp only [List.length_append, List.length_cons, List.length_nil] at hi
  show litP ((n.ands ++ [x]).getD i default).1 _ ∧ litP ((n.ands ++ [x]).getD i default).2 _
  by_cases hi2 : i < n.ands.length
  ·rw [snoc_lt hi2]; exact h.ands i hi2
  ·obtain rfl : i = n.ands.length := by omega
   rw [snoc_eq, hc.2.1]; exact ⟨h1, h2⟩
theorem addAndL_ok {n : NetL} (h : NetOkP n) {a b : Int} (ha : litP a (nodesL n)) (hb : litP b (nodesL n)) : NetOkP (addAndL n a b).1 := by
 rcases addAndL_ands n a b with e | ⟨e, _, hl⟩
 ·rw [e]; exact h
 ·rw [addAndL_n, e]
  refine h.snoc ?_ ?_ hl <;> unfold litP at * <;> dsimp only <;> omega
theorem addAndL_nodes (n : NetL) (a b : Int) : nodesL n ≤ nodesL (addAndL n a b).1 := by
 rcases addAndL_ands n a b with e | ⟨e, _, hl⟩
 ·rw [e]; exact Int.le_refl _
 ·unfold nodesL; rw [addAndL_inputs, addAndL_seqs, e]; simp; omega
theorem addAndL_lit {n : NetL} (h : NetOkP n) {a b : Int} (ha : litP a (nodesL n)) (hb : litP b (nodesL n)) : litP (addAndL n a b).2 (nodesL (addAndL n a b).1) ∨ (addAndL n a b) = (n, -1) := by
 have hc := h.count
 unfold addAndL
 unfold litP at *
 repeat' split
 all_goals first | (right; rfl) | (left; dsimp only; first | omega | skip)
 have : nodesL { n with ands := n.ands ++ [(min a b, max a b)] } = nodesL n + 1 := by unfold nodesL; simp; omega
 rw [this]; omega
theorem addAndL_neg {n : NetL} (h : NetOkP n) {a b : Int} (ha : litP a (nodesL n)) (hb : litP b (nodesL n)) (hn : (addAndL n a b).2 < 0) : addAndL n a b = (n, -1) := by
 rcases addAndL_lit h ha hb with h2 | h2
 ·unfold litP at h2; omega
 ·exact h2
theorem idxOf_at {l : List (Int × Int)} {x : Int × Int} {i : Nat} (h : ∀ j, j < i → l.getD j default ≠ x) (hi : i < l.length) (he : l.getD i default = x) : l.idxOf x = i := by
 have h1 : l.idxOf x ≤ i := by
  have := List.getElem?_eq_getElem hi
  rcases Nat.lt_or_ge i (l.idxOf x) with h2 | h2
  ·exfalso
   have h3 := List.not_of_lt_findIdx (p := (· == x)) (xs := l) (i := i) h2
   rw [List.getD_eq_getElem?_getD, this, Option.getD_some] at he
   simp [he] at h3
  ·exact h2
 rcases Nat.lt_or_ge (l.idxOf x) i with h2 | h2
 ·exfalso
  have h3 : l.idxOf x < l.length := by omega
  refine h _ h2 ?_
  rw [List.getD_eq_getElem?_getD, List.getElem?_eq_getElem h3, Option.getD_some]
  exact List.getElem_idxOf h3
 ·omega
theorem idxOf_none {l : List (Int × Int)} {x : Int × Int} (h : ∀ j, j < l.length → l.getD j default ≠ x) : ¬ l.idxOf x < l.length := fun h3 => by
 refine h _ h3 ?_
 rw [List.getD_eq_getElem?_getD, List.getElem?_eq_getElem h3, Option.getD_some]
 exact List.getElem_idxOf h3
def orL (r : NetL × Int) : NetL × Int := if r.2 < 0 then (r.1, -1) else (r.1, notL r.2)
def addOrL (n : NetL) (a b : Int) : NetL × Int := orL (addAndL n (notL a) (notL b))
def addTwoL (n : NetL) (a b c d : Int) : NetL × Int :=
 if (addAndL n a b).2 < 0 then ((addAndL n a b).1, -1)
 else if (addAndL (addAndL n a b).1 c d).2 < 0 then ((addAndL (addAndL n a b).1 c d).1, -1)
 else addOrL (addAndL (addAndL n a b).1 c d).1 (addAndL n a b).2 (addAndL (addAndL n a b).1 c d).2
def addXorL (n : NetL) (a b : Int) : NetL × Int := addTwoL n a (notL b) (notL a) b
def addMuxL (n : NetL) (s a b : Int) : NetL × Int := addTwoL n s a (notL s) b
def finL (n : NetL) (r : NetL × Int) : NetL × Int := if r.2 < 0 then (n, -1) else r
structure GoodN (n : NetL) (r : NetL × Int) : Prop where
 ok : NetOkP r.1
 eq : r.1 = { n with ands := r.1.ands }
 nodes : nodesL n ≤ nodesL r.1
 lit : litP r.2 (nodesL r.1) ∨ r.2 = -1
 neg : r.2 < 0 → r.2 = -1
theorem GoodN.b {n : NetL} {r : NetL × Int} (h : GoodN n r) : -1 ≤ r.2 ∧ r.2 ≤ 1000 := by
 have := h.ok.count
 rcases h.lit with h1 | h1
 ·unfold litP at h1; omega
 ·omega
theorem GoodN.litP {n : NetL} {r : NetL × Int} (h : GoodN n r) (h0 : ¬ r.2 < 0) : litP r.2 (nodesL r.1) := by
 rcases h.lit with h1 | h1
 ·exact h1
 ·omega
theorem GoodN.trans {n : NetL} {r r' : NetL × Int} (h : GoodN n r) (k : GoodN r.1 r') : GoodN n r' := by
 refine ⟨k.ok, ?_, Int.le_trans h.nodes k.nodes, k.lit, k.neg⟩
 rw [k.eq, h.eq]
theorem good_and {n : NetL} (h : NetOkP n) {a b : Int} (ha : litP a (nodesL n)) (hb : litP b (nodesL n)) : GoodN n (addAndL n a b) :=
 ⟨addAndL_ok h ha hb, addAndL_n n a b, addAndL_nodes n a b, (addAndL_lit h ha hb).imp id (fun e => by rw [e]), fun hn => by rw [addAndL_neg h ha hb hn]⟩
theorem litP_not {a k : Int} (h : litP a k) (hk : k ≤ 1000000) : litP (notL a) k := (notL_lit (h.i64 hk) h.1).2 h
theorem GoodN.fail {n : NetL} {r : NetL × Int} (h : GoodN n r) : GoodN n (r.1, -1) := ⟨h.ok, h.eq, h.nodes, .inr rfl, fun _ => rfl⟩
theorem good_or {n : NetL} (h : NetOkP n) {a b : Int} (ha : litP a (nodesL n)) (hb : litP b (nodesL n)) : GoodN n (addOrL n a b) := by
 have hc := h.count
 have g := good_and h (litP_not ha (by omega)) (litP_not hb (by omega))
 unfold addOrL orL
 split
 ·exact g.fail
 ·rename_i h0
  have hc2 := g.ok.count
  have hl := litP_not (g.litP h0) (by omega)
  refine ⟨g.ok, g.eq, g.nodes, .inl hl, fun hn => ?_⟩
  unfold Go.Xw.litP at hl
  dsimp only at hn
  omega
theorem good_two {n : NetL} (h : NetOkP n) {a b c d : Int} (ha : litP a (nodesL n)) (hb : litP b (nodesL n)) (hc : litP c (nodesL n)) (hd : litP d (nodesL n)) : GoodN n (addTwoL n a b c d) := by
 have g1 := good_and h ha hb
 have g2 := good_and g1.ok (hc.mono g1.nodes) (hd.mono g1.nodes)
 unfold addTwoL
 split
 ·exact g1.fail
 ·rename_i h1
  split
  ·exact (g1.trans g2).fail
  ·rename_i h2
   exact (g1.trans g2).trans (good_or g2.ok ((g1.litP h1).mono g2.nodes) (g2.litP h2))
theorem good_xor {n : NetL} (h : NetOkP n) {a b : Int} (ha : litP a (nodesL n)) (hb : litP b (nodesL n)) : GoodN n (addXorL n a b) := by
 have hc := h.count
 exact good_two h ha (litP_not hb (by omega)) (litP_not ha (by omega)) hb
theorem good_mux {n : NetL} (h : NetOkP n) {s a b : Int} (hs : litP s (nodesL n)) (ha : litP a (nodesL n)) (hb : litP b (nodesL n)) : GoodN n (addMuxL n s a b) := by
 have hc := h.count
 exact good_two h hs ha (litP_not hs (by omega)) hb
end Go.Xw
