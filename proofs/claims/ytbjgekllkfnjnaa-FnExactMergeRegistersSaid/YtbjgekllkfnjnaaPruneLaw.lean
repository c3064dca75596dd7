/- The net of what can be observed, as plain data; no condition. -/
import Derived.Test.YtbjgekllkfnjnaaMapLaw
import Derived.Test.YtbjgekllkfnjnaaObsLaw
set_option linter.all false
namespace Go.Xw

/-- the nodes that are kept: inputs, and what can be observed -/
def KeptN (n : NetL) (k : Nat) : Prop := k < fsq n ∨ Obs n k
open Classical in
noncomputable def cK (n : NetL) : Nat → Nat
  | 0 => 0
  | k + 1 => cK n k + (if KeptN n k then 1 else 0)
noncomputable def toK (n : NetL) : List Int := (List.range (nds n)).map fun k => 2 * (cK n k : Int)
theorem toK_len (n : NetL) : (toK n).length = nds n := by simp [toK]
theorem toK_get {n : NetL} {k : Nat} (h : k < nds n) : (toK n).getD k default = 2 * (cK n k : Int) := range_get (f := fun k => 2 * (cK n k : Int)) h
theorem cK_mono (n : NetL) {a b : Nat} (h : a ≤ b) : cK n a ≤ cK n b := by
  induction h with
  | refl => exact Nat.le_refl _
  | step _ ih => exact Nat.le_trans ih (Nat.le_add_right _ _)
theorem cK_yes {n : NetL} {k : Nat} (h : KeptN n k) : cK n (k + 1) = cK n k + 1 := by show cK n k + _ = _; rw [if_pos h]
theorem cK_no {n : NetL} {k : Nat} (h : ¬ KeptN n k) : cK n (k + 1) = cK n k := by show cK n k + _ = _; rw [if_neg h]; rfl
theorem cK_lt {n : NetL} {a b : Nat} (ha : KeptN n a) (h : a < b) : cK n a < cK n b := by
  have := cK_mono n (show a + 1 ≤ b from h)
  rw [cK_yes ha] at this
  omega
theorem cK_le (n : NetL) : ∀ k, cK n k ≤ k
  | 0 => Nat.le_refl _
  | k + 1 => by have := cK_le n k; unfold cK; split <;> omega
theorem cK_inp (n : NetL) : ∀ k, k ≤ fsq n → cK n k = k
  | 0, _ => rfl
  | k + 1, h => by rw [cK_yes (.inl (by omega)), cK_inp n k (by omega)]
theorem cK_from (n : NetL) {f m : Nat} (hf : fsq n ≤ f) (hm : f + m ≤ nds n) : ∀ i, i ≤ m → cK n (f + i) = cK n f + (keptTo (obsL n) f i).length
  | 0, _ => by simp [keptTo]
  | i + 1, h => by
    have ih := cK_from n hf hm i (by omega)
    have hg := obsL_get (n := n) (k := f + i) (by omega)
    unfold keptTo
    by_cases ho : Obs n (f + i)
    · rw [if_pos (hg.2 ho), show f + (i + 1) = f + i + 1 by omega, cK_yes (.inr ho), ih]; simp; omega
    · rw [if_neg (fun h => ho (hg.1 h)), show f + (i + 1) = f + i + 1 by omega, cK_no (fun h => h.elim (by omega) ho), ih]
theorem cK_seq {n : NetL} (h : NetOkP n) {i : Nat} (hi : i ≤ n.seqs.length) : cK n (fsq n + i) = fsq n + (keptTo (obsL n) (fsq n) i).length := by
  have hf := h.fsq
  have hn := h.nums.n1
  rw [cK_from n (Nat.le_refl _) (m := n.seqs.length) (by omega) i hi, cK_inp n _ (Nat.le_refl _)]
theorem cK_and {n : NetL} (h : NetOkP n) {i : Nat} (hi : i ≤ n.ands.length) : cK n (fst_ n + i) = fsq n + (keptL n).length + (keptTo (obsL n) (fst_ n) i).length := by
  have hf := h.fsq
  have hn := h.nums.n1
  rw [cK_from n (by omega) (m := n.ands.length) (by omega) i hi, hf.2.2, cK_seq h (Nat.le_refl _)]
  rfl

noncomputable def prSq (n : NetL) (i : Nat) : SeqL := ⟨(n.seqs.getD i default).kind, (n.seqs.getD i default).init, mapL (toK n) (n.seqs.getD i default).ins⟩
noncomputable def prAn (n : NetL) (i : Nat) : Int × Int := (litV (toK n) (n.ands.getD i default).1, litV (toK n) (n.ands.getD i default).2)
noncomputable def prSqs (n : NetL) (i : Nat) : List SeqL := (keptTo (obsL n) (fsq n) i).map fun z => prSq n z.toNat
noncomputable def prAns (n : NetL) (i : Nat) : List (Int × Int) := (keptTo (obsL n) (fst_ n) i).map fun z => prAn n z.toNat
noncomputable def pruneL (n : NetL) : NetL := ⟨n.inputs, prSqs n n.seqs.length, prAns n n.ands.length, mapL (toK n) n.outs⟩
theorem prSqs_len (n : NetL) (i : Nat) : (prSqs n i).length = (keptTo (obsL n) (fsq n) i).length := by simp [prSqs]
theorem prAns_len (n : NetL) (i : Nat) : (prAns n i).length = (keptTo (obsL n) (fst_ n) i).length := by simp [prAns]
theorem keptTo_yes {B : List Bool} {f i : Nat} (h : B.getD (f + i) default = true) : keptTo B f (i + 1) = keptTo B f i ++ [(i : Int)] := by rw [keptTo, if_pos h]
theorem keptTo_no {B : List Bool} {f i : Nat} (h : ¬ B.getD (f + i) default = true) : keptTo B f (i + 1) = keptTo B f i := by rw [keptTo, if_neg h]
theorem prSqs_yes {n : NetL} {i : Nat} (h : (obsL n).getD (fsq n + i) default = true) : prSqs n (i + 1) = prSqs n i ++ [prSq n i] := by
  unfold prSqs; rw [keptTo_yes h, List.map_append]; rfl
theorem prSqs_no {n : NetL} {i : Nat} (h : ¬ (obsL n).getD (fsq n + i) default = true) : prSqs n (i + 1) = prSqs n i := by unfold prSqs; rw [keptTo_no h]
theorem prAns_yes {n : NetL} {i : Nat} (h : (obsL n).getD (fst_ n + i) default = true) : prAns n (i + 1) = prAns n i ++ [prAn n i] := by
  unfold prAns; rw [keptTo_yes h, List.map_append]; rfl
theorem prAns_no {n : NetL} {i : Nat} (h : ¬ (obsL n).getD (fst_ n + i) default = true) : prAns n (i + 1) = prAns n i := by unfold prAns; rw [keptTo_no h]

/-- a kept literal's image -/
theorem toK_lit {n : NetL} (h : NetOkP n) {l : Int} {m : Nat} (hk : KeptN n (l / 2).toNat) (hm : (l / 2).toNat < m) (hmn : m ≤ nds n) : litP (litV (toK n) l) (cK n m : Int) := by
  have := cK_lt hk hm
  have hc := cK_le n m
  have hn := h.count
  have h2 := h.nums.n2
  refine litV_litP ?_ (by omega)
  rw [toK_get (by omega)]
  unfold litP
  omega
theorem pruneL_nodes {n : NetL} (h : NetOkP n) : firstAndL (pruneL n) = (cK n (fst_ n) : Int) ∧ nodesL (pruneL n) = (cK n (nds n) : Int) := by
  have hf := h.fsq
  have hn := h.nums.n1
  have c1 := cK_seq h (Nat.le_refl n.seqs.length)
  have c2 := cK_and h (Nat.le_refl n.ands.length)
  have l1 := prSqs_len n n.seqs.length
  have l2 := prAns_len n n.ands.length
  rw [hf.2.2, hn]
  unfold firstAndL nodesL pruneL
  dsimp only
  unfold keptL at c2
  rw [l1, l2, c1, c2]
  omega
theorem keptTo_at {B : List Bool} {f m j : Nat} (hj : j < (keptTo B f m).length) : ∃ i, i < m ∧ (keptTo B f m).getD j default = (i : Int) ∧ B.getD (f + i) default = true ∧ (keptTo B f i).length = j := by
  induction m with
  | zero => simp [keptTo] at hj
  | succ m ih =>
    by_cases hb : B.getD (f + m) default = true
    · rw [keptTo_yes hb] at hj ⊢
      simp at hj
      by_cases hj2 : j < (keptTo B f m).length
      · obtain ⟨i, h1, h2, h3⟩ := ih hj2
        exact ⟨i, by omega, by rw [snoc_lt hj2]; exact h2, h3⟩
      · have : j = (keptTo B f m).length := by omega
        subst this
        exact ⟨m, by omega, snoc_eq, hb, rfl⟩
    · rw [keptTo_no hb] at hj ⊢
      obtain ⟨i, h1, h2⟩ := ih hj
      exact ⟨i, by omega, h2⟩
theorem pruneL_ok {n : NetL} (h : NetOkP n) : NetOkP (pruneL n) := by
  obtain ⟨s1, s2, s3, s4⟩ := h.size
  have hn := h.nums
  have n1 := hn.n1
  have hf := h.fsq
  obtain ⟨e1, e2⟩ := pruneL_nodes h
  have k1 := keptTo_len (obsL n) (fsq n) n.seqs.length
  have k2 := keptTo_len (obsL n) (fst_ n) n.ands.length
  have hout : ∀ l, litP l (nodesL n) → Obs n (l / 2).toNat → litP (litV (toK n) l) (cK n (nds n) : Int) := fun l hl ho => toK_lit h (.inr ho) (hl.nat hn) (Nat.le_refl _)
  refine .mk' ⟨s1, by show (prSqs n _).length ≤ _; rw [prSqs_len]; omega, by show (prAns n _).length ≤ _; rw [prAns_len]; omega, by show (mapL _ _).length ≤ _; rw [mapL_len]; exact s4⟩ (fun s hs => ?_) (fun o ho => ?_) (fun s hs l hl => ?_) (fun j hj => ?_)
  · obtain ⟨z, hz, rfl⟩ := List.mem_map.1 hs
    obtain ⟨j, hj, rfl⟩ := List.mem_iff_getElem.1 hz
    obtain ⟨i, i1, i2, i3, _⟩ := keptTo_at hj
    rw [List.getD_eq_getElem?_getD, List.getElem?_eq_getElem hj, Option.getD_some] at i2
    rw [i2]
    have := h.seqs i i1
    unfold seqOkP prSq at *
    simpa [mapL] using this
  · rw [e2]
    obtain ⟨l, hl, rfl⟩ := List.mem_map.1 ho
    exact hout l (h.out l hl) (.out hl)
  · rw [e2]
    obtain ⟨z, hz, rfl⟩ := List.mem_map.1 hs
    obtain ⟨j, hj, rfl⟩ := List.mem_iff_getElem.1 hz
    obtain ⟨i, i1, i2, i3, _⟩ := keptTo_at hj
    rw [List.getD_eq_getElem?_getD, List.getElem?_eq_getElem hj, Option.getD_some] at i2
    rw [i2] at hl
    obtain ⟨l', hl', rfl⟩ := List.mem_map.1 hl
    have ho : Obs n (fsq n + i) := (obsL_get (by omega)).1 i3
    exact hout l' (h.inp (getD_mem i1) l' hl') (ho.step (.inr ⟨i, i1, rfl, l', hl', rfl⟩))
  · rw [e1]
    have hj' : j < (keptTo (obsL n) (fst_ n) n.ands.length).length := by rw [← prAns_len]; exact hj
    obtain ⟨i, i1, i2, i3, i4⟩ := keptTo_at hj'
    have e3 : (pruneL n).ands.getD j default = prAn n i := by
      show ((keptTo (obsL n) (fst_ n) n.ands.length).map _).getD j default = _
      rw [map_getD hj', i2]
      rfl
    rw [e3]
    have ho : Obs n (fst_ n + i) := (obsL_get (by omega)).1 i3
    have c1 := cK_and h (show i ≤ n.ands.length by omega)
    have c2 := cK_and h (Nat.zero_le n.ands.length)
    have e4 : (cK n (fst_ n) : Int) + j = (cK n (fst_ n + i) : Int) := by
      rw [Nat.add_zero] at c2
      rw [c1, c2, i4]
      simp [keptTo]
    rw [e4]
    have ka := hn.ka i i1
    have kb := hn.kb i i1
    exact ⟨toK_lit h (.inr (ho.step (.inl ⟨i, i1, rfl, .inl rfl⟩))) ka (by omega), toK_lit h (.inr (ho.step (.inl ⟨i, i1, rfl, .inr rfl⟩))) kb (by omega)⟩
theorem sPrune {n : NetL} (_ : NetS n) : NetS (ifNet n (pruneL n)) := ifNet_S pruneL_ok

/-! ### the program's list: 0 where a node is not kept or yet to come -/
open Classical in
noncomputable def pK (n : NetL) (k : Nat) : Int := if KeptN n k then 2 * (cK n k : Int) else 0
noncomputable def pT (n : NetL) (m : Nat) : List Int := (List.range m).map (pK n)
theorem pT_len (n : NetL) (m : Nat) : (pT n m).length = m := by simp [pT]
theorem pT_succ (n : NetL) (m : Nat) : pT n (m + 1) = pT n m ++ [pK n m] := by unfold pT; rw [List.range_succ, List.map_append]; rfl
theorem pT_get {n : NetL} {m k : Nat} (hk : k < m) (h : KeptN n k) : (pT n m).getD k default = 2 * (cK n k : Int) := by
  unfold pT
  rw [range_get hk, pK, if_pos h]
theorem pT_lit {n : NetL} {m : Nat} {l : Int} (hk : (l / 2).toNat < m) (hm : m ≤ nds n) (h : KeptN n (l / 2).toNat) : litV (pT n m) l = litV (toK n) l :=
  litV_congr (by rw [pT_get hk h, toK_get (by omega)])
theorem pT_map {n : NetL} {m : Nat} {ls : List Int} (h : ∀ l, l ∈ ls → (l / 2).toNat < m ∧ KeptN n (l / 2).toNat) (hm : m ≤ nds n) : mapL (pT n m) ls = mapL (toK n) ls := by
  unfold mapL
  exact List.map_congr_left fun l hl => pT_lit (h l hl).1 hm (h l hl).2
theorem pT_set {n : NetL} {m q : Nat} (h : KeptN n m) {y : Int} (hy : y = 2 * (cK n m : Int)) : (pT n m ++ List.replicate (q + 1) (0 : Int)).set m y = pT n (m + 1) ++ List.replicate q 0 := by
  have := pad_set (to := pT n m) (m := q) (y := y)
  rw [pT_len] at this
  rw [this, pT_succ, pK, if_pos h, hy]
theorem pT_skip {n : NetL} {m q : Nat} (h : ¬ KeptN n m) : pT n m ++ List.replicate (q + 1) (0 : Int) = pT n (m + 1) ++ List.replicate q 0 := by
  rw [pT_succ, pK, if_neg h, List.replicate_succ, List.append_cons]
end Go.Xw
