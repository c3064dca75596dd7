/- Nets built anew from a net, as plain data; no condition. -/
import Derived.Test.YtifjicajbgoamaaGreatAddLaw
import Derived.Test.YtifjicajbgoamaaGreatCov2
set_option linter.all false
namespace Go.Xw
open Go.RowKit

/-! ### literals through a list of literals -/
def mapL (to : List Int) (lits : List Int) : List Int := lits.map (litV to)
theorem mapL_len (to lits : List Int) : (mapL to lits).length = lits.length := by simp [mapL]
theorem litV_eq (to : List Int) {l : Int} (h0 : 0 ≤ to.getD (l / 2).toNat default) (h1 : to.getD (l / 2).toNat default ≤ 9223372036854775807) : litV to l = if l % 2 = 0 then to.getD (l / 2).toNat default else notL (to.getD (l / 2).toNat default) := by
  unfold litV
  rw [bits_and_one]
  have : l % 2 = 0 ∨ l % 2 = 1 := by omega
  rcases this with h | h
  · rw [h, if_pos rfl]; exact xor_zero h0 h1
  · rw [h, if_neg (by decide)]; rfl
theorem litV_litP {to : List Int} {l k : Int} (h : litP (to.getD (l / 2).toNat default) k) (hk : k ≤ 1000000) : litP (litV to l) k := by
  have h' := h
  unfold litP at h'
  rw [litV_eq to h'.1 (by omega)]
  split
  · exact h
  · exact litP_not h hk
theorem litV_congr {to to' : List Int} {l : Int} (h : to.getD (l / 2).toNat default = to'.getD (l / 2).toNat default) : litV to l = litV to' l := by
  unfold litV; rw [h]
theorem pad_get {to : List Int} {m k : Nat} : (to ++ List.replicate m (0 : Int)).getD k default = to.getD k default := by
  simp only [List.getD_eq_getElem?_getD]
  by_cases h : k < to.length
  · rw [List.getElem?_append_left h]
  · rw [List.getElem?_append_right (by omega), List.getElem?_eq_none (by omega : to.length ≤ k), List.getElem?_replicate]
    split <;> rfl
theorem litV_pad {to : List Int} {m : Nat} {l : Int} : litV (to ++ List.replicate m 0) l = litV to l := litV_congr pad_get
theorem pad_set {to : List Int} {m : Nat} {y : Int} : (to ++ List.replicate (m + 1) (0 : Int)).set to.length y = (to ++ [y]) ++ List.replicate m 0 := row_set to m 0 y

/-- the literals of the inputs and sequential elements -/
def leafL (n : NetL) : List Int := (List.range (fst_ n)).map fun k => 2 * ((k : Nat) : Int)
theorem leafL_len (n : NetL) : (leafL n).length = fst_ n := by simp [leafL]
theorem leafL_get {n : NetL} {k : Nat} (h : k < fst_ n) : (leafL n).getD k default = 2 * (k : Int) := range_get (f := fun k => 2 * ((k : Nat) : Int)) h

/-! ### adding to a list of AND nodes alone -/
def addC (f : Int) (A : List (Int × Int)) (a b : Int) : List (Int × Int) × Int :=
  if a = 0 ∨ b = 0 ∨ notL a = b then (A, 0)
  else if a = 1 ∨ a = b then (A, b)
  else if b = 1 then (A, a)
  else if A.idxOf (min a b, max a b) < A.length then (A, 2 * (f + (A.idxOf (min a b, max a b) : Nat)))
  else if 300 ≤ A.length then (A, -1)
  else (A ++ [(min a b, max a b)], 2 * (f + A.length))
theorem addAndL_C (n : NetL) (a b : Int) : addAndL n a b = ({ n with ands := (addC (firstAndL n) n.ands a b).1 }, (addC (firstAndL n) n.ands a b).2) := by
  have e : nodesL n = firstAndL n + n.ands.length := rfl
  unfold addAndL addC
  rw [e]
  repeat' split
  all_goals rfl

/-- the AND nodes and the literals of a net that is being built -/
structure Bld (f : Int) (A : List (Int × Int)) (to : List Int) : Prop where
  f1 : 1 ≤ f ∧ f ≤ 33
  alen : A.length ≤ 300
  aok : ∀ i, i < A.length → litP (A.getD i default).1 (f + i) ∧ litP (A.getD i default).2 (f + i)
  tok : ∀ i, i < to.length → litP (to.getD i default) (f + A.length)
theorem Bld.lit {f : Int} {A : List (Int × Int)} {to : List Int} (h : Bld f A to) {l : Int} (hl : (l / 2).toNat < to.length) : litP (litV to l) (f + A.length) :=
  litV_litP (h.tok _ hl) (by have := h.f1; have := h.alen; omega)
theorem Bld.snoc {f : Int} {A : List (Int × Int)} {to : List Int} (h : Bld f A to) {y : Int} (hy : litP y (f + A.length)) : Bld f A (to ++ [y]) :=
  ⟨h.f1, h.alen, h.aok, fun i hi => by
    simp at hi
    by_cases hi2 : i < to.length
    · rw [snoc_lt hi2]; exact h.tok i hi2
    · obtain rfl : i = to.length := by omega
      rw [snoc_eq]; exact hy⟩
theorem Bld.and_ {f : Int} {A : List (Int × Int)} {to : List Int} (h : Bld f A to) {x : Int × Int} (h1 : litP x.1 (f + A.length)) (h2 : litP x.2 (f + A.length)) (hl : A.length < 300) : Bld f (A ++ [x]) to := by
  refine ⟨h.f1, by simp; omega, fun i hi => ?_, fun i hi => (h.tok i hi).mono (by simp; omega)⟩
  simp at hi
  by_cases hi2 : i < A.length
  · rw [snoc_lt hi2]; exact h.aok i hi2
  · obtain rfl : i = A.length := by omega
    rw [snoc_eq]; exact ⟨h1, h2⟩
theorem addC_cases (f : Int) (A : List (Int × Int)) (a b : Int) : (addC f A a b).1 = A ∨ ((addC f A a b).1 = A ++ [(min a b, max a b)] ∧ A.length < 300) := by
  unfold addC
  (repeat' split) <;> first | exact .inl rfl | (exact .inr ⟨rfl, by omega⟩)
theorem addC_len (f : Int) (A : List (Int × Int)) (a b : Int) : A.length ≤ (addC f A a b).1.length ∧ (addC f A a b).1.length ≤ A.length + 1 := by
  rcases addC_cases f A a b with h | ⟨h, _⟩ <;> rw [h] <;> simp
theorem Bld.add {f : Int} {A : List (Int × Int)} {to : List Int} (h : Bld f A to) {a b : Int} (ha : litP a (f + A.length)) (hb : litP b (f + A.length)) : Bld f (addC f A a b).1 to := by
  rcases addC_cases f A a b with e | ⟨e, hl⟩
  · rw [e]; exact h
  · rw [e]
    refine h.and_ ?_ ?_ hl <;> unfold litP at * <;> dsimp only <;> omega
theorem Bld.addLit {f : Int} {A : List (Int × Int)} {to : List Int} (h : Bld f A to) {a b : Int} (ha : litP a (f + A.length)) (hb : litP b (f + A.length)) : litP (addC f A a b).2 (f + (addC f A a b).1.length) ∨ (addC f A a b = (A, -1) ∧ 300 ≤ A.length) := by
  have hc := h.f1
  unfold addC
  unfold litP at *
  repeat' split
  all_goals first | (right; exact ⟨rfl, by assumption⟩) | (left; dsimp only; first | omega | (simp only [List.length_append, List.length_cons, List.length_nil]; omega))
theorem Bld.step {f : Int} {A : List (Int × Int)} {to : List Int} (h : Bld f A to) {a b : Int} (ha : litP a (f + A.length)) (hb : litP b (f + A.length)) (h0 : 0 ≤ (addC f A a b).2) : Bld f (addC f A a b).1 (to ++ [(addC f A a b).2]) := by
  refine (h.add ha hb).snoc ?_
  rcases h.addLit ha hb with h1 | ⟨h1, _⟩
  · exact h1
  · rw [h1] at h0; exact absurd h0 (by dsimp only; omega)

/-! ### nets out of such lists -/
/-- the inputs and sequential elements of n, whose In are yet to come (or zeros) -/
def begL (n : NetL) (A : List (Int × Int)) : NetL := ⟨n.inputs, n.seqs.map fun s => ⟨s.kind, s.init, []⟩, A, []⟩
def zerL (n : NetL) (A : List (Int × Int)) : NetL := ⟨n.inputs, n.seqs.map fun s => ⟨s.kind, s.init, List.replicate s.ins.length 0⟩, A, []⟩
def finN (n : NetL) (A : List (Int × Int)) (to : List Int) : NetL := ⟨n.inputs, n.seqs.map fun s => ⟨s.kind, s.init, mapL to s.ins⟩, A, mapL to n.outs⟩
theorem firstAndL_zer (n : NetL) (A : List (Int × Int)) : firstAndL (zerL n A) = firstAndL n := by unfold firstAndL zerL; simp
theorem firstAndL_fin (n : NetL) (A : List (Int × Int)) (to : List Int) : firstAndL (finN n A to) = firstAndL n := by unfold firstAndL finN; simp
theorem map_getD {α β : Type} [Inhabited α] [Inhabited β] {f : α → β} {X : List α} {i : Nat} (h : i < X.length) : (X.map f).getD i default = f (X.getD i default) := by
  simp [List.getD_eq_getElem?_getD, h]
theorem NetOkP.mk' {n : NetL} (h1 : sizeOk n) (h2 : ∀ s, s ∈ n.seqs → seqOkP s) (h3 : ∀ o, o ∈ n.outs → litP o (nodesL n)) (h4 : ∀ s, s ∈ n.seqs → ∀ l, l ∈ s.ins → litP l (nodesL n))
    (h5 : ∀ i, i < n.ands.length → litP (n.ands.getD i default).1 (firstAndL n + i) ∧ litP (n.ands.getD i default).2 (firstAndL n + i)) : NetOkP n :=
  ⟨h1, mem_iff_getD.1 h2, (mem_iff_getD (p := fun x => litP x (nodesL n))).1 (by
    intro x hx
    rw [rootsL_eq, List.mem_append, List.mem_flatMap] at hx
    rcases hx with hx | ⟨s, hs, hx⟩
    · exact h3 x hx
    · exact h4 s hs x hx), h5⟩
theorem NetOkP.sq {n : NetL} (h : NetOkP n) : ∀ s, s ∈ n.seqs → seqOkP s := mem_iff_getD.2 h.seqs
theorem zerL_ok {n : NetL} (h : NetOkP n) {A : List (Int × Int)} {to : List Int} (hb : Bld (firstAndL n) A to) : NetOkP (zerL n A) := by
  obtain ⟨s1, s2, s3, s4⟩ := h.size
  refine .mk' ⟨s1, by simp [zerL]; omega, hb.alen, by simp [zerL]⟩ (fun s hs => ?_) (fun o ho => by simp [zerL] at ho) (fun s hs l hl => ?_) (fun i hi => by rw [firstAndL_zer]; exact hb.aok i hi)
  · obtain ⟨t, ht, rfl⟩ := List.mem_map.1 hs
    have := h.sq t ht
    unfold seqOkP at this ⊢
    simpa using this
  · obtain ⟨t, ht, rfl⟩ := List.mem_map.1 hs
    simp at hl
    obtain ⟨_, rfl⟩ := hl
    have : nodesL (zerL n A) = firstAndL n + A.length := by have := firstAndL_zer n A; unfold firstAndL at this; unfold nodesL; rw [this]; rfl
    rw [this]
    have := hb.f1
    unfold litP; omega
theorem finN_nodes (n : NetL) (A : List (Int × Int)) (to : List Int) : nodesL (finN n A to) = firstAndL n + A.length := by
  have := firstAndL_fin n A to; unfold firstAndL at this; unfold nodesL; rw [this]; rfl
theorem finN_ok {n : NetL} (h : NetOkP n) {A : List (Int × Int)} {to : List Int} (hb : Bld (firstAndL n) A to) (ht : nds n ≤ to.length) : NetOkP (finN n A to) := by
  obtain ⟨s1, s2, s3, s4⟩ := h.size
  have hn := h.nums
  have hl : ∀ l, litP l (nodesL n) → litP (litV to l) (firstAndL n + A.length) := fun l hl => hb.lit (by have := hl.nat hn; omega)
  refine .mk' ⟨s1, by simp [finN]; omega, hb.alen, by simp [finN, mapL]; omega⟩ (fun s hs => ?_) (fun o ho => ?_) (fun s hs l hm => ?_) (fun i hi => by rw [firstAndL_fin]; exact hb.aok i hi)
  · obtain ⟨t, ht, rfl⟩ := List.mem_map.1 hs
    have := h.sq t ht
    unfold seqOkP at this ⊢
    simpa [mapL] using this
  · rw [finN_nodes]
    obtain ⟨l, hl1, rfl⟩ := List.mem_map.1 ho
    exact hl l (h.out l hl1)
  · rw [finN_nodes]
    obtain ⟨t, ht, rfl⟩ := List.mem_map.1 hs
    obtain ⟨l, hl1, rfl⟩ := List.mem_map.1 hm
    exact hl l (h.inp ht l hl1)
theorem Bld.leaf {n : NetL} (h : NetOkP n) : Bld (firstAndL n) [] (leafL n) := by
  have hc := h.count
  have hs := h.size
  have h2 := h.nums.f2
  unfold sizeOk at hs
  refine ⟨⟨hc.1, by unfold firstAndL; omega⟩, by simp, fun i hi => by simp at hi, fun i hi => ?_⟩
  rw [leafL_len] at hi
  rw [leafL_get hi]
  unfold litP
  simp
  omega
theorem NetOkP.andP {n : NetL} (h : NetOkP n) {i : Nat} (hi : i < n.ands.length) : litP (n.ands.getD i default).1 (firstAndL n + i) ∧ litP (n.ands.getD i default).2 (firstAndL n + i) := h.ands i hi

/-! ### the AND nodes that are kept -/
def swTo (n : NetL) (K : List Bool) : Nat → List (Int × Int) × List Int
  | 0 => ([], leafL n)
  | i + 1 => if K.getD (fst_ n + i) default = true then ((swTo n K i).1 ++ [(litV (swTo n K i).2 (n.ands.getD i default).1, litV (swTo n K i).2 (n.ands.getD i default).2)], (swTo n K i).2 ++ [2 * (firstAndL n + (swTo n K i).1.length)])
    else ((swTo n K i).1, (swTo n K i).2 ++ [0])
noncomputable def sweepL (n : NetL) : NetL := finN n (swTo n (reachedL n) n.ands.length).1 (swTo n (reachedL n) n.ands.length).2
theorem swTo_len (n : NetL) (K : List Bool) : ∀ i, (swTo n K i).1.length ≤ i ∧ (swTo n K i).2.length = fst_ n + i
  | 0 => by simp [swTo, leafL_len]
  | i + 1 => by
    have := swTo_len n K i
    unfold swTo
    split <;> simp <;> omega
theorem swTo_ok {n : NetL} (h : NetOkP n) (K : List Bool) : ∀ i, i ≤ n.ands.length → Bld (firstAndL n) (swTo n K i).1 (swTo n K i).2
  | 0, _ => .leaf h
  | i + 1, hi => by
    have ih := swTo_ok h K i (by omega)
    have hl := swTo_len n K i
    have hs := h.size
    have hn := h.nums
    have f2 := hn.f2
    unfold sizeOk at hs
    obtain ⟨q1, q2⟩ := h.andP (show i < n.ands.length by omega)
    unfold litP at q1 q2
    unfold swTo
    split
    · refine (ih.and_ (ih.lit (by omega)) (ih.lit (by omega)) (by omega)).snoc ?_
      have := ih.f1
      unfold litP; simp; omega
    · refine ih.snoc ?_
      have := ih.f1
      unfold litP; omega
theorem sweepL_ok {n : NetL} (h : NetOkP n) : NetOkP (sweepL n) := by
  have hl := swTo_len n (reachedL n) n.ands.length
  have := h.nums.n1
  exact finN_ok h (swTo_ok h _ _ (Nat.le_refl _)) (by omega)

/-! ### every node hashed -/
def haTo (n : NetL) : Nat → List (Int × Int) × List Int
  | 0 => ([], leafL n)
  | i + 1 => ((addC (firstAndL n) (haTo n i).1 (litV (haTo n i).2 (n.ands.getD i default).1) (litV (haTo n i).2 (n.ands.getD i default).2)).1,
      (haTo n i).2 ++ [(addC (firstAndL n) (haTo n i).1 (litV (haTo n i).2 (n.ands.getD i default).1) (litV (haTo n i).2 (n.ands.getD i default).2)).2])
theorem haTo_len (n : NetL) : ∀ i, (haTo n i).1.length ≤ i ∧ (haTo n i).2.length = fst_ n + i
  | 0 => by simp [haTo, leafL_len]
  | i + 1 => by
    have := haTo_len n i
    have h2 := addC_len (firstAndL n) (haTo n i).1 (litV (haTo n i).2 (n.ands.getD i default).1) (litV (haTo n i).2 (n.ands.getD i default).2)
    unfold haTo
    simp only [List.length_append, List.length_cons, List.length_nil]
    omega
theorem haTo_lits {n : NetL} (h : NetOkP n) {i : Nat} (hi : i < n.ands.length) (ih : Bld (firstAndL n) (haTo n i).1 (haTo n i).2) :
    litP (litV (haTo n i).2 (n.ands.getD i default).1) (firstAndL n + (haTo n i).1.length) ∧ litP (litV (haTo n i).2 (n.ands.getD i default).2) (firstAndL n + (haTo n i).1.length) := by
  have hl := haTo_len n i
  have f2 := h.nums.f2
  obtain ⟨q1, q2⟩ := h.andP hi
  unfold litP at q1 q2
  exact ⟨ih.lit (by omega), ih.lit (by omega)⟩
theorem haTo_ok {n : NetL} (h : NetOkP n) : ∀ i, i ≤ n.ands.length → Bld (firstAndL n) (haTo n i).1 (haTo n i).2
  | 0, _ => .leaf h
  | i + 1, hi => by
    have ih := haTo_ok h i (by omega)
    have hl := haTo_len n i
    have hs := h.size
    unfold sizeOk at hs
    obtain ⟨l1, l2⟩ := haTo_lits h (by omega) ih
    refine ih.step l1 l2 ?_
    rcases ih.addLit l1 l2 with h1 | ⟨_, h1⟩
    · exact h1.1
    · omega
def preL (n : NetL) : NetL := finN n (haTo n n.ands.length).1 (haTo n n.ands.length).2
noncomputable def hashL (n : NetL) : NetL := sweepL (preL n)
theorem preL_ok {n : NetL} (h : NetOkP n) : NetOkP (preL n) := by
  have hl := haTo_len n n.ands.length
  have := h.nums.n1
  exact finN_ok h (haTo_ok h _ (Nat.le_refl _)) (by omega)
theorem hashL_ok {n : NetL} (h : NetOkP n) : NetOkP (hashL n) := sweepL_ok (preL_ok h)

def nilN : NetL := ⟨0, [], [], []⟩
noncomputable def ifNet (n : NetL) (r : NetL) : NetL := if netOkB n = true then r else nilN
theorem ifNet_yes {n r : NetL} (h : NetOkP n) : ifNet n r = r := by rw [ifNet, if_pos (netOkB_iff.2 h)]
theorem ifNet_no {n r : NetL} (h : ¬ NetOkP n) : ifNet n r = nilN := by rw [ifNet, if_neg (fun hh => h (netOkB_iff.1 hh))]
theorem nilN_S : NetS nilN := ⟨by simp [nilN], fun i hi => by simp [nilN] at hi, by simp [nilN], by simp [nilN]⟩
theorem ifNet_S {n r : NetL} (h : NetOkP n → NetOkP r) : NetS (ifNet n r) := by
  by_cases hok : NetOkP n
  · rw [ifNet_yes hok]; exact (h hok).S'
  · rw [ifNet_no hok]; exact nilN_S
end Go.Xw
