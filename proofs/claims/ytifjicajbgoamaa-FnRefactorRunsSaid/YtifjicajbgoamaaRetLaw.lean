/- Texts that belong together; each under its stated conditions. -/
import Derived.Test.YtifjicajbgoamaaMapLaw
import Derived.Test.YtifjicajbgoamaaObsLaw
set_option linter.all false
section
/- The net of what can be observed, as plain data; no condition. -/
namespace Go.Xw

/-- the nodes that are kept: inputs, and what can be observed -/
def KeptN (n : NetL) (k : Nat) : Prop := k < fsq n ∨ Obs n k
open Classical in
noncomputable def cK (n : NetL) : Nat → Nat
  | 0 => 0
  | k + 1 => cK n k + (if KeptN n k then 1 else 0)
noncomputable def toK (n : NetL) : List Int := (List.range (nds n)).map fun k => 2 * (cK n k : Int)
theorem toK_len (n : NetL) : (toK n).length = nds n := by simp [toK]
theorem toK_get {n : NetL} {k : Nat} (h : k < nds n) : (toK n).getD k default = 2 * (cK n k : Int) := range_get (f := fun k => 2 * (cK n k : Int)) h
theorem cK_mono (n : NetL) {a b : Nat} (h : a ≤ b) : cK n a ≤ cK n b := by
  induction h with
  | refl => exact Nat.le_refl _
  | step _ ih => exact Nat.le_trans ih (Nat.le_add_right _ _)
theorem cK_yes {n : NetL} {k : Nat} (h : KeptN n k) : cK n (k + 1) = cK n k + 1 := by show cK n k + _ = _; rw [if_pos h]
theorem cK_no {n : NetL} {k : Nat} (h : ¬ KeptN n k) : cK n (k + 1) = cK n k := by show cK n k + _ = _; rw [if_neg h]; rfl
theorem cK_lt {n : NetL} {a b : Nat} (ha : KeptN n a) (h : a < b) : cK n a < cK n b := by
  have := cK_mono n (show a + 1 ≤ b from h)
  rw [cK_yes ha] at this
  omega
theorem cK_le (n : NetL) : ∀ k, cK n k ≤ k
  | 0 => Nat.le_refl _
  | k + 1 => by have := cK_le n k; unfold cK; split <;> omega
theorem cK_inp (n : NetL) : ∀ k, k ≤ fsq n → cK n k = k
  | 0, _ => rfl
  | k + 1, h => by rw [cK_yes (.inl (by omega)), cK_inp n k (by omega)]
theorem cK_from (n : NetL) {f m : Nat} (hf : fsq n ≤ f) (hm : f + m ≤ nds n) : ∀ i, i ≤ m → cK n (f + i) = cK n f + (keptTo (obsL n) f i).length
  | 0, _ => by simp [keptTo]
  | i + 1, h => by
    have ih := cK_from n hf hm i (by omega)
    have hg := obsL_get (n := n) (k := f + i) (by omega)
    unfold keptTo
    by_cases ho : Obs n (f + i)
    · rw [if_pos (hg.2 ho), show f + (i + 1) = f + i + 1 by omega, cK_yes (.inr ho), ih]; simp; omega
    · rw [if_neg (fun h => ho (hg.1 h)), show f + (i + 1) = f + i + 1 by omega, cK_no (fun h => h.elim (by omega) ho), ih]
theorem cK_seq {n : NetL} (h : NetOkP n) {i : Nat} (hi : i ≤ n.seqs.length) : cK n (fsq n + i) = fsq n + (keptTo (obsL n) (fsq n) i).length := by
  have hf := h.fsq
  have hn := h.nums.n1
  rw [cK_from n (Nat.le_refl _) (m := n.seqs.length) (by omega) i hi, cK_inp n _ (Nat.le_refl _)]
theorem cK_and {n : NetL} (h : NetOkP n) {i : Nat} (hi : i ≤ n.ands.length) : cK n (fst_ n + i) = fsq n + (keptL n).length + (keptTo (obsL n) (fst_ n) i).length := by
  have hf := h.fsq
  have hn := h.nums.n1
  rw [cK_from n (by omega) (m := n.ands.length) (by omega) i hi, hf.2.2, cK_seq h (Nat.le_refl _)]
  rfl

noncomputable def prSq (n : NetL) (i : Nat) : SeqL := ⟨(n.seqs.getD i default).kind, (n.seqs.getD i default).init, mapL (toK n) (n.seqs.getD i default).ins⟩
noncomputable def prAn (n : NetL) (i : Nat) : Int × Int := (litV (toK n) (n.ands.getD i default).1, litV (toK n) (n.ands.getD i default).2)
noncomputable def prSqs (n : NetL) (i : Nat) : List SeqL := (keptTo (obsL n) (fsq n) i).map fun z => prSq n z.toNat
noncomputable def prAns (n : NetL) (i : Nat) : List (Int × Int) := (keptTo (obsL n) (fst_ n) i).map fun z => prAn n z.toNat
noncomputable def pruneL (n : NetL) : NetL := ⟨n.inputs, prSqs n n.seqs.length, prAns n n.ands.length, mapL (toK n) n.outs⟩
theorem prSqs_len (n : NetL) (i : Nat) : (prSqs n i).length = (keptTo (obsL n) (fsq n) i).length := by simp [prSqs]
theorem prAns_len (n : NetL) (i : Nat) : (prAns n i).length = (keptTo (obsL n) (fst_ n) i).length := by simp [prAns]
theorem keptTo_yes {B : List Bool} {f i : Nat} (h : B.getD (f + i) default = true) : keptTo B f (i + 1) = keptTo B f i ++ [(i : Int)] := by rw [keptTo, if_pos h]
theorem keptTo_no {B : List Bool} {f i : Nat} (h : ¬ B.getD (f + i) default = true) : keptTo B f (i + 1) = keptTo B f i := by rw [keptTo, if_neg h]
theorem prSqs_yes {n : NetL} {i : Nat} (h : (obsL n).getD (fsq n + i) default = true) : prSqs n (i + 1) = prSqs n i ++ [prSq n i] := by
  unfold prSqs; rw [keptTo_yes h, List.map_append]; rfl
theorem prSqs_no {n : NetL} {i : Nat} (h : ¬ (obsL n).getD (fsq n + i) default = true) : prSqs n (i + 1) = prSqs n i := by unfold prSqs; rw [keptTo_no h]
theorem prAns_yes {n : NetL} {i : Nat} (h : (obsL n).getD (fst_ n + i) default = true) : prAns n (i + 1) = prAns n i ++ [prAn n i] := by
  unfold prAns; rw [keptTo_yes h, List.map_append]; rfl
theorem prAns_no {n : NetL} {i : Nat} (h : ¬ (obsL n).getD (fst_ n + i) default = true) : prAns n (i + 1) = prAns n i := by unfold prAns; rw [keptTo_no h]

/-- a kept literal's image -/
theorem toK_lit {n : NetL} (h : NetOkP n) {l : Int} {m : Nat} (hk : KeptN n (l / 2).toNat) (hm : (l / 2).toNat < m) (hmn : m ≤ nds n) : litP (litV (toK n) l) (cK n m : Int) := by
  have := cK_lt hk hm
  have hc := cK_le n m
  have hn := h.count
  have h2 := h.nums.n2
  refine litV_litP ?_ (by omega)
  rw [toK_get (by omega)]
  unfold litP
  omega
theorem pruneL_nodes {n : NetL} (h : NetOkP n) : firstAndL (pruneL n) = (cK n (fst_ n) : Int) ∧ nodesL (pruneL n) = (cK n (nds n) : Int) := by
  have hf := h.fsq
  have hn := h.nums.n1
  have c1 := cK_seq h (Nat.le_refl n.seqs.length)
  have c2 := cK_and h (Nat.le_refl n.ands.length)
  have l1 := prSqs_len n n.seqs.length
  have l2 := prAns_len n n.ands.length
  rw [hf.2.2, hn]
  unfold firstAndL nodesL pruneL
  dsimp only
  unfold keptL at c2
  rw [l1, l2, c1, c2]
  omega
theorem keptTo_at {B : List Bool} {f m j : Nat} (hj : j < (keptTo B f m).length) : ∃ i, i < m ∧ (keptTo B f m).getD j default = (i : Int) ∧ B.getD (f + i) default = true ∧ (keptTo B f i).length = j := by
  induction m with
  | zero => simp [keptTo] at hj
  | succ m ih =>
    by_cases hb : B.getD (f + m) default = true
    · rw [keptTo_yes hb] at hj ⊢
      simp at hj
      by_cases hj2 : j < (keptTo B f m).length
      · obtain ⟨i, h1, h2, h3⟩ := ih hj2
        exact ⟨i, by omega, by rw [snoc_lt hj2]; exact h2, h3⟩
      · have : j = (keptTo B f m).length := by omega
        subst this
        exact ⟨m, by omega, snoc_eq, hb, rfl⟩
    · rw [keptTo_no hb] at hj ⊢
      obtain ⟨i, h1, h2⟩ := ih hj
      exact ⟨i, by omega, h2⟩
theorem pruneL_ok {n : NetL} (h : NetOkP n) : NetOkP (pruneL n) := by
  obtain ⟨s1, s2, s3, s4⟩ := h.size
  have hn := h.nums
  have n1 := hn.n1
  have hf := h.fsq
  obtain ⟨e1, e2⟩ := pruneL_nodes h
  have k1 := keptTo_len (obsL n) (fsq n) n.seqs.length
  have k2 := keptTo_len (obsL n) (fst_ n) n.ands.length
  have hout : ∀ l, litP l (nodesL n) → Obs n (l / 2).toNat → litP (litV (toK n) l) (cK n (nds n) : Int) := fun l hl ho => toK_lit h (.inr ho) (hl.nat hn) (Nat.le_refl _)
  refine .mk' ⟨s1, by show (prSqs n _).length ≤ _; rw [prSqs_len]; omega, by show (prAns n _).length ≤ _; rw [prAns_len]; omega, by show (mapL _ _).length ≤ _; rw [mapL_len]; exact s4⟩ (fun s hs => ?_) (fun o ho => ?_) (fun s hs l hl => ?_) (fun j hj => ?_)
  · obtain ⟨z, hz, rfl⟩ := List.mem_map.1 hs
    obtain ⟨j, hj, rfl⟩ := List.mem_iff_getElem.1 hz
    obtain ⟨i, i1, i2, i3, _⟩ := keptTo_at hj
    rw [List.getD_eq_getElem?_getD, List.getElem?_eq_getElem hj, Option.getD_some] at i2
    rw [i2]
    have := h.seqs i i1
    unfold seqOkP prSq at *
    simpa [mapL] using this
  · rw [e2]
    obtain ⟨l, hl, rfl⟩ := List.mem_map.1 ho
    exact hout l (h.out l hl) (.out hl)
  · rw [e2]
    obtain ⟨z, hz, rfl⟩ := List.mem_map.1 hs
    obtain ⟨j, hj, rfl⟩ := List.mem_iff_getElem.1 hz
    obtain ⟨i, i1, i2, i3, _⟩ := keptTo_at hj
    rw [List.getD_eq_getElem?_getD, List.getElem?_eq_getElem hj, Option.getD_some] at i2
    rw [i2] at hl
    obtain ⟨l', hl', rfl⟩ := List.mem_map.1 hl
    have ho : Obs n (fsq n + i) := (obsL_get (by omega)).1 i3
    exact hout l' (h.inp (getD_mem i1) l' hl') (ho.step (.inr ⟨i, i1, rfl, l', hl', rfl⟩))
  · rw [e1]
    have hj' : j < (keptTo (obsL n) (fst_ n) n.ands.length).length := by rw [← prAns_len]; exact hj
    obtain ⟨i, i1, i2, i3, i4⟩ := keptTo_at hj'
    have e3 : (pruneL n).ands.getD j default = prAn n i := by
      show ((keptTo (obsL n) (fst_ n) n.ands.length).map _).getD j default = _
      rw [map_getD hj', i2]
      rfl
    rw [e3]
    have ho : Obs n (fst_ n + i) := (obsL_get (by omega)).1 i3
    have c1 := cK_and h (show i ≤ n.ands.length by omega)
    have c2 := cK_and h (Nat.zero_le n.ands.length)
    have e4 : (cK n (fst_ n) : Int) + j = (cK n (fst_ n + i) : Int) := by
      rw [Nat.add_zero] at c2
      rw [c1, c2, i4]
      simp [keptTo]
    rw [e4]
    have ka := hn.ka i i1
    have kb := hn.kb i i1
    exact ⟨toK_lit h (.inr (ho.step (.inl ⟨i, i1, rfl, .inl rfl⟩))) ka (by omega), toK_lit h (.inr (ho.step (.inl ⟨i, i1, rfl, .inr rfl⟩))) kb (by omega)⟩
theorem sPrune {n : NetL} (_ : NetS n) : NetS (ifNet n (pruneL n)) := ifNet_S pruneL_ok

/-! ### the program's list: 0 where a node is not kept or yet to come -/
open Classical in
noncomputable def pK (n : NetL) (k : Nat) : Int := if KeptN n k then 2 * (cK n k : Int) else 0
noncomputable def pT (n : NetL) (m : Nat) : List Int := (List.range m).map (pK n)
theorem pT_len (n : NetL) (m : Nat) : (pT n m).length = m := by simp [pT]
theorem pT_succ (n : NetL) (m : Nat) : pT n (m + 1) = pT n m ++ [pK n m] := by unfold pT; rw [List.range_succ, List.map_append]; rfl
theorem pT_get {n : NetL} {m k : Nat} (hk : k < m) (h : KeptN n k) : (pT n m).getD k default = 2 * (cK n k : Int) := by
  unfold pT
  rw [range_get hk, pK, if_pos h]
theorem pT_lit {n : NetL} {m : Nat} {l : Int} (hk : (l / 2).toNat < m) (hm : m ≤ nds n) (h : KeptN n (l / 2).toNat) : litV (pT n m) l = litV (toK n) l :=
  litV_congr (by rw [pT_get hk h, toK_get (by omega)])
theorem pT_map {n : NetL} {m : Nat} {ls : List Int} (h : ∀ l, l ∈ ls → (l / 2).toNat < m ∧ KeptN n (l / 2).toNat) (hm : m ≤ nds n) : mapL (pT n m) ls = mapL (toK n) ls := by
  unfold mapL
  exact List.map_congr_left fun l hl => pT_lit (h l hl).1 hm (h l hl).2
theorem pT_set {n : NetL} {m q : Nat} (h : KeptN n m) {y : Int} (hy : y = 2 * (cK n m : Int)) : (pT n m ++ List.replicate (q + 1) (0 : Int)).set m y = pT n (m + 1) ++ List.replicate q 0 := by
  have := pad_set (to := pT n m) (m := q) (y := y)
  rw [pT_len] at this
  rw [this, pT_succ, pK, if_pos h, hy]
theorem pT_skip {n : NetL} {m q : Nat} (h : ¬ KeptN n m) : pT n m ++ List.replicate (q + 1) (0 : Int) = pT n (m + 1) ++ List.replicate q 0 := by
  rw [pT_succ, pK, if_neg h, List.replicate_succ, List.append_cons]
end Go.Xw
end
section
/- Retimed nets, as plain data; no condition. -/
namespace Go.Xw

/-- the AND nodes added one by one; the one with index skip is the literal inst instead -/
def raTo (f : Int) (n : NetL) (skip inst : Int) (S : List (Int × Int) × List Int) : Nat → Option (List (Int × Int) × List Int)
  | 0 => some S
  | i + 1 => match raTo f n skip inst S i with
    | none => none
    | some T => if (i : Int) = skip then some (T.1, T.2 ++ [inst])
      else if (addC f T.1 (litV T.2 (n.ands.getD i default).1) (litV T.2 (n.ands.getD i default).2)).2 < 0 then none
      else some ((addC f T.1 (litV T.2 (n.ands.getD i default).1) (litV T.2 (n.ands.getD i default).2)).1, T.2 ++ [(addC f T.1 (litV T.2 (n.ands.getD i default).1) (litV T.2 (n.ands.getD i default).2)).2])
theorem raTo_skip {f : Int} {n : NetL} {skip inst : Int} {S T : List (Int × Int) × List Int} {i : Nat} (h : raTo f n skip inst S i = some T) (hs : (i : Int) = skip) : raTo f n skip inst S (i + 1) = some (T.1, T.2 ++ [inst]) := by
  simp only [raTo, h, if_pos hs]
theorem raTo_no {f : Int} {n : NetL} {skip inst : Int} {S T : List (Int × Int) × List Int} {i : Nat} (h : raTo f n skip inst S i = some T) (hs : ¬ (i : Int) = skip) (hn : (addC f T.1 (litV T.2 (n.ands.getD i default).1) (litV T.2 (n.ands.getD i default).2)).2 < 0) : raTo f n skip inst S (i + 1) = none := by
  simp only [raTo, h, if_neg hs, if_pos hn]
theorem raTo_yes {f : Int} {n : NetL} {skip inst : Int} {S T : List (Int × Int) × List Int} {i : Nat} (h : raTo f n skip inst S i = some T) (hs : ¬ (i : Int) = skip) (hn : ¬ (addC f T.1 (litV T.2 (n.ands.getD i default).1) (litV T.2 (n.ands.getD i default).2)).2 < 0) :
    raTo f n skip inst S (i + 1) = some ((addC f T.1 (litV T.2 (n.ands.getD i default).1) (litV T.2 (n.ands.getD i default).2)).1, T.2 ++ [(addC f T.1 (litV T.2 (n.ands.getD i default).1) (litV T.2 (n.ands.getD i default).2)).2]) := by
  simp only [raTo, h, if_neg hs, if_neg hn]
theorem raTo_none {f : Int} {n : NetL} {skip inst : Int} {S : List (Int × Int) × List Int} {i : Nat} (h : raTo f n skip inst S i = none) : ∀ {j : Nat}, i ≤ j → raTo f n skip inst S j = none := by
  intro j hj
  induction hj with
  | refl => exact h
  | step _ ih => simp only [raTo, ih]
structure RaOk (f : Int) (n : NetL) (S : List (Int × Int) × List Int) (i : Nat) : Prop where
  b : Bld f S.1 S.2
  len : S.2.length = fst_ n + i
theorem RaOk.lits {f : Int} {n : NetL} (h : NetOkP n) {T : List (Int × Int) × List Int} {i : Nat} (r : RaOk f n T i) (hi : i < n.ands.length) :
    litP (litV T.2 (n.ands.getD i default).1) (f + T.1.length) ∧ litP (litV T.2 (n.ands.getD i default).2) (f + T.1.length) := by
  have f2 := h.nums.f2
  have hl := r.len
  obtain ⟨q1, q2⟩ := h.andP hi
  unfold litP at q1 q2
  exact ⟨r.b.lit (by omega), r.b.lit (by omega)⟩
theorem raTo_ok {f : Int} {n : NetL} (h : NetOkP n) {skip inst : Int} {S : List (Int × Int) × List Int} (h0 : RaOk f n S 0) (hinst : litP inst f) : ∀ i, i ≤ n.ands.length → ∀ T, raTo f n skip inst S i = some T → RaOk f n T i
  | 0, _, T, hT => by simp only [raTo, Option.some.injEq] at hT; subst hT; exact h0
  | i + 1, hi, T, hT => by
    cases hp : raTo f n skip inst S i with
    | none => simp only [raTo, hp] at hT; cases hT
    | some P =>
      have ih := raTo_ok h h0 hinst i (by omega) P hp
      obtain ⟨l1, l2⟩ := ih.lits h (by omega)
      have hl := ih.len
      by_cases hs : (i : Int) = skip
      · rw [raTo_skip hp hs] at hT
        injection hT with hT
        subst hT
        exact ⟨ih.b.snoc (hinst.mono (by omega)), by simp; omega⟩
      · by_cases hn : (addC f P.1 (litV P.2 (n.ands.getD i default).1) (litV P.2 (n.ands.getD i default).2)).2 < 0
        · rw [raTo_no hp hs hn] at hT; cases hT
        · rw [raTo_yes hp hs hn] at hT
          injection hT with hT
          subst hT
          exact ⟨ih.b.step l1 l2 (by omega), by simp; omega⟩

/-- a net with more sequential elements at the end -/
def finX (n : NetL) (A : List (Int × Int)) (to : List Int) (S : List SeqL) : NetL := ⟨n.inputs, S, A, mapL to n.outs⟩
def mapS (n : NetL) (to : List Int) : List SeqL := n.seqs.map fun s => ⟨s.kind, s.init, mapL to s.ins⟩
theorem mapS_len (n : NetL) (to : List Int) : (mapS n to).length = n.seqs.length := by simp [mapS]
theorem finX_ok {n : NetL} (h : NetOkP n) {A : List (Int × Int)} {to : List Int} {S : List SeqL} {f : Int} (hb : Bld f A to) (hf : f = 1 + n.inputs + S.length) (ht : nds n ≤ to.length) (hS : S.length ≤ 12)
    (hs : ∀ s, s ∈ S → seqOkP s ∧ ∀ l, l ∈ s.ins → litP l (f + A.length)) : NetOkP (finX n A to S) := by
  obtain ⟨s1, s2, s3, s4⟩ := h.size
  have hn := h.nums
  have hnd : nodesL (finX n A to S) = f + A.length := by unfold nodesL finX; rw [hf]
  refine .mk' ⟨s1, hS, hb.alen, by simp [finX, mapL]; omega⟩ (fun s hm => (hs s hm).1) (fun o ho => ?_) (fun s hm l hl => ?_) (fun i hi => ?_)
  · rw [hnd]
    obtain ⟨l, hl1, rfl⟩ := List.mem_map.1 ho
    exact hb.lit (by have := (h.out l hl1).nat hn; omega)
  · rw [hnd]; exact (hs s hm).2 l hl
  · have : firstAndL (finX n A to S) = f := by unfold firstAndL finX; rw [hf]
    rw [this]; exact hb.aok i hi
theorem mapS_ok {n : NetL} (h : NetOkP n) {A : List (Int × Int)} {to : List Int} {f : Int} (hb : Bld f A to) (ht : nds n ≤ to.length) : ∀ s, s ∈ mapS n to → seqOkP s ∧ ∀ l, l ∈ s.ins → litP l (f + A.length) := fun s hs => by
  have hn := h.nums
  obtain ⟨t, ht1, rfl⟩ := List.mem_map.1 hs
  refine ⟨?_, fun l hl => ?_⟩
  · have := h.sq t ht1
    unfold seqOkP at this ⊢
    simpa [mapL] using this
  · obtain ⟨l', hl1, rfl⟩ := List.mem_map.1 hl
    exact hb.lit (by have := (h.inp ht1 l' hl1).nat hn; omega)

/-! ### forward -/
/-- the flip-flop of a literal, or -1 -/
def flopL (n : NetL) (l : Int) : Int := if 0 ≤ l / 2 - (1 + n.inputs) ∧ l / 2 - (1 + n.inputs) < n.seqs.length ∧ (n.seqs.getD (l / 2 - (1 + n.inputs)).toNat default).kind = 0 then l / 2 - (1 + n.inputs) else -1
def bitX (v l : Int) : Int := bits .xor .i64 v (bits .and .i64 l 1)
theorem bitX_01 {v l : Int} (hv : v = 0 ∨ v = 1) : bitX v l = 0 ∨ bitX v l = 1 := by
  unfold bitX
  rw [bits_and_one]
  have : l % 2 = 0 ∨ l % 2 = 1 := by omega
  rw [xor_01 hv this]
  split <;> omega
theorem bitX_lit {v l k : Int} (hv : litP v k) (hk : k ≤ 1000000) : litP (bitX v l) k := by
  have hv' := hv
  unfold litP at hv'
  unfold bitX
  rw [bits_and_one]
  have : l % 2 = 0 ∨ l % 2 = 1 := by omega
  rcases this with h | h
  · rw [h, xor_zero hv'.1 (by omega)]; exact hv
  · rw [h]; exact litP_not hv hk
def fwOkP (n : NetL) (k : Int) : Prop := NetOkP n ∧ (0 ≤ k ∧ k < n.ands.length) ∧ n.seqs.length < 12 ∧ 0 ≤ flopL n (n.ands.getD k.toNat default).1 ∧ 0 ≤ flopL n (n.ands.getD k.toNat default).2
def fwInit (n : NetL) (a b : Int) : Int := bits .and .i64 (bitX (n.seqs.getD (flopL n a).toNat default).init a) (bitX (n.seqs.getD (flopL n b).toNat default).init b)
def fwA (n : NetL) (to : List Int) (a : Int) : Int := bitX (litV to ((n.seqs.getD (flopL n a).toNat default).ins.getD 0 default)) a
def fwN (n : NetL) (a b : Int) (T : List (Int × Int) × List Int) : Option NetL :=
  if (addC (firstAndL n + 1) T.1 (fwA n T.2 a) (fwA n T.2 b)).2 < 0 then none
  else some (finX n (addC (firstAndL n + 1) T.1 (fwA n T.2 a) (fwA n T.2 b)).1 T.2 (mapS n T.2 ++ [⟨0, fwInit n a b, [(addC (firstAndL n + 1) T.1 (fwA n T.2 a) (fwA n T.2 b)).2]⟩]))
def fwT (n : NetL) (k : Int) (i : Nat) : Option (List (Int × Int) × List Int) := raTo (firstAndL n + 1) n k (2 * firstAndL n) ([], leafL n) i
open Classical in
noncomputable def fwO (n : NetL) (k : Int) : Option NetL := if fwOkP n k then (fwT n k n.ands.length).bind (fwN n (n.ands.getD k.toNat default).1 (n.ands.getD k.toNat default).2) else none
noncomputable def rfL (n : NetL) (k : Int) : NetL × Bool := match fwO n k with
  | some m => (pruneL m, true)
  | none => (n, false)
theorem flopL_yes {n : NetL} {l : Int} (h : 0 ≤ flopL n l) : (flopL n l).toNat < n.seqs.length ∧ ((n.seqs.getD (flopL n l).toNat default).kind = 0) ∧ flopL n l = l / 2 - (1 + n.inputs) := by
  unfold flopL at h ⊢
  split at h
  · rename_i h1
    rw [if_pos h1]
    exact ⟨by omega, h1.2.2, rfl⟩
  · exact absurd h (by decide)
theorem flopL_seq {n : NetL} (hok : NetOkP n) {l : Int} (h : 0 ≤ flopL n l) : (n.seqs.getD (flopL n l).toNat default).ins.length = 1 ∧ ((n.seqs.getD (flopL n l).toNat default).init = 0 ∨ (n.seqs.getD (flopL n l).toNat default).init = 1) := by
  obtain ⟨h1, h2, _⟩ := flopL_yes h
  rcases hok.seqs _ h1 with ⟨k1, k2, k3⟩ | ⟨k1, _⟩
  · exact ⟨k3, by omega⟩
  · rw [h2] at k1; exact absurd k1 (by decide)
theorem fw_start {n : NetL} (h : NetOkP n) (hl : n.seqs.length < 12) : RaOk (firstAndL n + 1) n ([], leafL n) 0 := by
  have hb := Bld.leaf h
  have hs := h.size
  unfold sizeOk at hs
  refine ⟨⟨⟨by have := hb.f1; omega, by unfold firstAndL; omega⟩, by simp, fun i hi => by simp at hi, fun i hi => (hb.tok i hi).mono (by simp; omega)⟩, by simp [leafL_len]⟩
theorem fwT_ok {n : NetL} {k : Int} (h : NetOkP n) (hl : n.seqs.length < 12) {i : Nat} (hi : i ≤ n.ands.length) {T : List (Int × Int) × List Int} (hT : fwT n k i = some T) : RaOk (firstAndL n + 1) n T i :=
  raTo_ok h (fw_start h hl) (by have := h.count; unfold litP; omega) i hi T hT
theorem fwA_lit {n : NetL} (hok : NetOkP n) {a : Int} (ha : 0 ≤ flopL n a) {T : List (Int × Int) × List Int} (r : RaOk (firstAndL n + 1) n T n.ands.length) : litP (fwA n T.2 a) (firstAndL n + 1 + T.1.length) := by
  obtain ⟨h1, _, _⟩ := flopL_yes ha
  obtain ⟨h2, _⟩ := flopL_seq hok ha
  have hn := hok.nums
  have hm : (n.seqs.getD (flopL n a).toNat default).ins.getD 0 default ∈ (n.seqs.getD (flopL n a).toNat default).ins := getD_mem (by omega)
  have hl := (hok.inp (getD_mem h1) _ hm).nat hn
  have := r.len
  have := hn.n1
  have f1 := r.b.f1
  have f2 := r.b.alen
  exact bitX_lit (r.b.lit (by omega)) (by omega)
theorem fwO_ok {n : NetL} {k : Int} {m : NetL} (h : fwO n k = some m) : NetOkP m := by
  unfold fwO at h
  split at h
  · rename_i hc
    obtain ⟨hok, hk, hl, ha, hb⟩ := hc
    cases hT : fwT n k n.ands.length with
    | none => rw [hT] at h; cases h
    | some T =>
      rw [hT] at h
      have r := fwT_ok hok hl (Nat.le_refl _) hT
      have h : fwN n (n.ands.getD k.toNat default).1 (n.ands.getD k.toNat default).2 T = some m := h
      unfold fwN at h
      split at h
      · cases h
      · rename_i hneg
        injection h with h
        subst h
        have la := fwA_lit hok ha r
        have lb := fwA_lit hok hb r
        have hB := r.b.add la lb
        have hn1 := hok.nums.n1
        have hl1 := r.len
        have hlit : litP (addC (firstAndL n + 1) T.1 (fwA n T.2 (n.ands.getD k.toNat default).1) (fwA n T.2 (n.ands.getD k.toNat default).2)).2 (firstAndL n + 1 + (addC (firstAndL n + 1) T.1 (fwA n T.2 (n.ands.getD k.toNat default).1) (fwA n T.2 (n.ands.getD k.toNat default).2)).1.length) := by
          rcases r.b.addLit la lb with h1 | ⟨h1, _⟩
          · exact h1
          · rw [h1] at hneg; exact absurd (by show (-1 : Int) < 0; decide) hneg
        refine finX_ok hok hB (by rw [List.length_append, mapS_len]; unfold firstAndL; simp; omega) (by omega) (by rw [List.length_append, mapS_len]; simp; omega) fun s hs => ?_
        rcases List.mem_append.1 hs with hs | hs
        · exact mapS_ok hok hB (by omega) s hs
        · simp only [List.mem_singleton] at hs
          subst hs
          have i1 := bitX_01 (l := (n.ands.getD k.toNat default).1) (flopL_seq hok ha).2
          have i2 := bitX_01 (l := (n.ands.getD k.toNat default).2) (flopL_seq hok hb).2
          refine ⟨.inl ⟨rfl, ?_, rfl⟩, fun l hl => by simp only [List.mem_singleton] at hl; subst hl; exact hlit⟩
          show 0 ≤ fwInit n _ _ ∧ fwInit n _ _ ≤ 1
          unfold fwInit
          rw [and_01 i1 i2]
          split <;> omega
  · cases h
end Go.Xw
end
