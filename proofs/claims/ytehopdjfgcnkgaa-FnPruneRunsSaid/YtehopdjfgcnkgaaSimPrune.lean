/- What is left after pruning is observable, and pruning it again changes nothing; plain data, no condition. -/
import Derived.Test.YtehopdjfgcnkgaaSimRet
set_option linter.all false
namespace Go.Xw
open Go.Proofs
set_option maxHeartbeats 1000000
theorem toK_node {n : NetL} (h : NetOkP n) {l : Int} (hl : litP l (nodesL n)) : (litV (toK n) l / 2).toNat = cK n (l / 2).toNat := by
  have hlt := hl.nat h.nums
  have hc := h.count
  have hck := cK_le n (l / 2).toNat
  have hn1 := h.nums.n2
  have et := toK_get (n := n) (k := (l / 2).toNat) hlt
  rw [litV_eq (toK n) (by rw [et]; omega) (by rw [et]; omega), et]
  split
  · omega
  · have := (notL_b (a := 2 * (cK n (l / 2).toNat : Int)) (by omega) (by omega)).2.2.1
    rw [this]
    omega
theorem and_prune {n : NetL} {i : Nat} (hi : i < n.ands.length) (hb : (obsL n).getD (fst_ n + i) default = true) : (keptTo (obsL n) (fst_ n) i).length < (pruneL n).ands.length ∧ (pruneL n).ands.getD (keptTo (obsL n) (fst_ n) i).length default = prAn n i := by
  obtain ⟨g1, g2⟩ := keptTo_idx hi hb
  refine ⟨by show _ < (prAns n n.ands.length).length; rw [prAns_len]; exact g1, ?_⟩
  show (prAns n n.ands.length).getD _ default = _
  unfold prAns
  rw [map_getD g1, g2]
  rfl
theorem seq_prune {n : NetL} {i : Nat} (hi : i < n.seqs.length) (hb : (obsL n).getD (fsq n + i) default = true) : (keptTo (obsL n) (fsq n) i).length < (pruneL n).seqs.length ∧ (pruneL n).seqs.getD (keptTo (obsL n) (fsq n) i).length default = prSq n i := by
  obtain ⟨g1, g2⟩ := keptTo_idx hi hb
  refine ⟨by show _ < (prSqs n n.seqs.length).length; rw [prSqs_len]; exact g1, ?_⟩
  show (prSqs n n.seqs.length).getD _ default = _
  unfold prSqs
  rw [map_getD g1, g2]
  rfl
theorem fst_prune {n : NetL} (h : NetOkP n) : fst_ (pruneL n) = cK n (fst_ n) := by
  unfold fst_
  rw [(pruneL_nodes h).1]
  rfl
theorem obs_prune {n : NetL} (h : NetOkP n) {k : Nat} (ho : Obs n k) : Obs (pruneL n) (cK n k) := by
  have hq := h.fsq
  have hn1 := h.nums.n1
  induction ho with
  | @out o hm =>
    rw [← toK_node h (h.out o hm)]
    exact .out (List.mem_map.2 ⟨o, hm, rfl⟩)
  | @step k j hk hs ih =>
    have hkl := hk.lt h
    refine ih.step ?_
    rcases hs with ⟨i, hi, rfl, hj⟩ | ⟨i, hi, rfl, l, hl, rfl⟩
    · have hb := (obsL_get (n := n) (k := fst_ n + i) hkl).2 hk
      obtain ⟨g1, g2⟩ := and_prune hi hb
      refine .inl ⟨_, g1, ?_, ?_⟩
      · rw [cK_and h (by omega), fst_prune h]
        have := cK_seq h (Nat.le_refl n.seqs.length)
        rw [hq.2.2, this]
        rfl
      · obtain ⟨q1, q2⟩ := h.andP hi
        have hc := h.count
        rcases hj with rfl | rfl
        · left
          unfold kA
          rw [g2]
          exact (toK_node h (q1.mono (by omega))).symm
        · right
          unfold kB
          rw [g2]
          exact (toK_node h (q2.mono (by omega))).symm
    · have hb := (obsL_get (n := n) (k := fsq n + i) hkl).2 hk
      obtain ⟨g1, g2⟩ := seq_prune hi hb
      refine .inr ⟨_, g1, ?_, litV (toK n) l, ?_, (toK_node h (h.inp (getD_mem hi) l hl)).symm⟩
      · rw [cK_seq h (by omega)]
        rfl
      · rw [g2]
        exact List.mem_map.2 ⟨l, hl, rfl⟩
theorem kept_prune {n : NetL} (h : NetOkP n) {k : Nat} (hk : k < nds (pruneL n)) : KeptN (pruneL n) k := by
  have hq := h.fsq
  have hn1 := h.nums.n1
  have hm := pruneL_ok h
  have hmq := hm.fsq
  have hmn := hm.nums.n1
  have hfe := fst_prune h
  by_cases h1 : k < fsq (pruneL n)
  · exact .inl h1
  · right
    by_cases h2 : k < fst_ (pruneL n)
    · obtain ⟨j, rfl⟩ : ∃ j, k = fsq (pruneL n) + j := ⟨k - fsq (pruneL n), by omega⟩
      have hj : j < (keptTo (obsL n) (fsq n) n.seqs.length).length := by
        have e : (pruneL n).seqs.length = (prSqs n n.seqs.length).length := rfl
        rw [prSqs_len] at e
        omega
      obtain ⟨i, hi, _, hb, e2⟩ := keptTo_at hj
      have ho := obs_prune h ((obsL_get (n := n) (k := fsq n + i) (by omega)).1 hb)
      rw [cK_seq h (by omega), e2] at ho
      exact ho
    · obtain ⟨j, rfl⟩ : ∃ j, k = fst_ (pruneL n) + j := ⟨k - fst_ (pruneL n), by omega⟩
      have hj : j < (keptTo (obsL n) (fst_ n) n.ands.length).length := by
        have e : (pruneL n).ands.length = (prAns n n.ands.length).length := rfl
        rw [prAns_len] at e
        omega
      obtain ⟨i, hi, _, hb, e2⟩ := keptTo_at hj
      have ho := obs_prune h ((obsL_get (n := n) (k := fst_ n + i) (by omega)).1 hb)
      rw [cK_and h (by omega), e2] at ho
      have := cK_seq h (Nat.le_refl n.seqs.length)
      rw [hfe, hq.2.2, this]
      exact ho
theorem cK_all {n : NetL} (h : ∀ k, k < nds n → KeptN n k) : ∀ k, k ≤ nds n → cK n k = k
  | 0, _ => rfl
  | k + 1, hk => by rw [cK_yes (h k (by omega)), cK_all h k (by omega)]
theorem toK_all {n : NetL} (hn : NetOkP n) (h : ∀ k, k < nds n → KeptN n k) {l : Int} (hl : litP l (nodesL n)) : litV (toK n) l = l := by
  have hlt := hl.nat hn.nums
  have hc := hn.count
  have hl' := hl
  unfold litP at hl'
  have et := toK_get (n := n) (k := (l / 2).toNat) hlt
  rw [cK_all h _ (by omega)] at et
  rw [litV_eq (toK n) (by rw [et]; omega) (by rw [et]; omega), et]
  split
  · omega
  · rw [notL_eq (by omega) (by omega)]
    split <;> omega
theorem keptTo_all {K : List Bool} {f : Nat} : ∀ m, (∀ i, i < m → K.getD (f + i) default = true) → keptTo K f m = (List.range m).map fun i => ((i : Nat) : Int)
  | 0, _ => rfl
  | m + 1, h => by
    rw [keptTo_yes (h m (by omega)), keptTo_all m fun i hi => h i (by omega), List.range_succ, List.map_append]
    rfl
theorem mapL_all {n : NetL} (hn : NetOkP n) (h : ∀ k, k < nds n → KeptN n k) {ls : List Int} (hl : ∀ l, l ∈ ls → litP l (nodesL n)) : mapL (toK n) ls = ls := by
  unfold mapL
  exact (List.map_congr_left fun l hm => toK_all hn h (hl l hm)).trans (List.map_id' ls)
theorem prune_id {n : NetL} (hn : NetOkP n) (h : ∀ k, k < nds n → KeptN n k) : pruneL n = n ∧ (keptL n).length = n.seqs.length := by
  have hq := hn.fsq
  have hn1 := hn.nums.n1
  have hob : ∀ k, fsq n ≤ k → k < nds n → (obsL n).getD k default = true := fun k h1 h2 => (obsL_get h2).2 ((h k h2).resolve_left (by omega))
  have k1 := keptTo_all (K := obsL n) (f := fsq n) n.seqs.length fun i hi => hob _ (by omega) (by omega)
  have k2 := keptTo_all (K := obsL n) (f := fst_ n) n.ands.length fun i hi => hob _ (by omega) (by omega)
  refine ⟨?_, by unfold keptL; rw [k1]; simp⟩
  have e1 : prSqs n n.seqs.length = n.seqs := by
    unfold prSqs
    rw [k1, List.map_map]
    refine list_eq (by simp) fun i hi => ?_
    simp at hi
    rw [range_get hi]
    show prSq n (((i : Nat) : Int)).toNat = _
    rw [Int.toNat_natCast]
    unfold prSq
    rw [mapL_all hn h (hn.inp (getD_mem hi))]
  have e2 : prAns n n.ands.length = n.ands := by
    unfold prAns
    rw [k2, List.map_map]
    refine list_eq (by simp) fun i hi => ?_
    simp at hi
    rw [range_get hi]
    show prAn n (((i : Nat) : Int)).toNat = _
    rw [Int.toNat_natCast]
    unfold prAn
    obtain ⟨q1, q2⟩ := hn.andP hi
    have hc := hn.count
    rw [toK_all hn h (q1.mono (by omega)), toK_all hn h (q2.mono (by omega))]
  unfold pruneL
  rw [e1, e2, mapL_all hn h hn.out]
theorem prune_twice {n : NetL} (h : NetOkP n) : pruneL (pruneL n) = pruneL n ∧ (keptL (pruneL n)).length = (pruneL n).seqs.length := prune_id (pruneL_ok h) fun _ hk => kept_prune h hk
theorem prune_kept (n : NetL) : (pruneL n).seqs.length = (keptL n).length := by
  show (prSqs n n.seqs.length).length = _
  rw [prSqs_len]
  rfl
end Go.Xw
