/- Texts that belong together; each under its stated conditions. -/
import Derived.Test.YtbjgekllkfnjnaaSimRet
import Derived.Test.YtbjgekllkfnjnaaSimLaw
import Derived.Test.YtbjgekllkfnjnaaClsCo
import Derived.Test.YtbjgekllkfnjnaaSimHash2
set_option linter.all false
section
/- What is left after pruning is observable, and pruning it again changes nothing; plain data, no condition. -/
namespace Go.Xw
open Go.Proofs
set_option maxHeartbeats 1000000
theorem toK_node {n : NetL} (h : NetOkP n) {l : Int} (hl : litP l (nodesL n)) : (litV (toK n) l / 2).toNat = cK n (l / 2).toNat := by
  have hlt := hl.nat h.nums
  have hc := h.count
  have hck := cK_le n (l / 2).toNat
  have hn1 := h.nums.n2
  have et := toK_get (n := n) (k := (l / 2).toNat) hlt
  rw [litV_eq (toK n) (by rw [et]; omega) (by rw [et]; omega), et]
  split
  · omega
  · have := (notL_b (a := 2 * (cK n (l / 2).toNat : Int)) (by omega) (by omega)).2.2.1
    rw [this]
    omega
theorem and_prune {n : NetL} {i : Nat} (hi : i < n.ands.length) (hb : (obsL n).getD (fst_ n + i) default = true) : (keptTo (obsL n) (fst_ n) i).length < (pruneL n).ands.length ∧ (pruneL n).ands.getD (keptTo (obsL n) (fst_ n) i).length default = prAn n i := by
  obtain ⟨g1, g2⟩ := keptTo_idx hi hb
  refine ⟨by show _ < (prAns n n.ands.length).length; rw [prAns_len]; exact g1, ?_⟩
  show (prAns n n.ands.length).getD _ default = _
  unfold prAns
  rw [map_getD g1, g2]
  rfl
theorem seq_prune {n : NetL} {i : Nat} (hi : i < n.seqs.length) (hb : (obsL n).getD (fsq n + i) default = true) : (keptTo (obsL n) (fsq n) i).length < (pruneL n).seqs.length ∧ (pruneL n).seqs.getD (keptTo (obsL n) (fsq n) i).length default = prSq n i := by
  obtain ⟨g1, g2⟩ := keptTo_idx hi hb
  refine ⟨by show _ < (prSqs n n.seqs.length).length; rw [prSqs_len]; exact g1, ?_⟩
  show (prSqs n n.seqs.length).getD _ default = _
  unfold prSqs
  rw [map_getD g1, g2]
  rfl
theorem fst_prune {n : NetL} (h : NetOkP n) : fst_ (pruneL n) = cK n (fst_ n) := by
  unfold fst_
  rw [(pruneL_nodes h).1]
  rfl
theorem obs_prune {n : NetL} (h : NetOkP n) {k : Nat} (ho : Obs n k) : Obs (pruneL n) (cK n k) := by
  have hq := h.fsq
  have hn1 := h.nums.n1
  induction ho with
  | @out o hm =>
    rw [← toK_node h (h.out o hm)]
    exact .out (List.mem_map.2 ⟨o, hm, rfl⟩)
  | @step k j hk hs ih =>
    have hkl := hk.lt h
    refine ih.step ?_
    rcases hs with ⟨i, hi, rfl, hj⟩ | ⟨i, hi, rfl, l, hl, rfl⟩
    · have hb := (obsL_get (n := n) (k := fst_ n + i) hkl).2 hk
      obtain ⟨g1, g2⟩ := and_prune hi hb
      refine .inl ⟨_, g1, ?_, ?_⟩
      · rw [cK_and h (by omega), fst_prune h]
        have := cK_seq h (Nat.le_refl n.seqs.length)
        rw [hq.2.2, this]
        rfl
      · obtain ⟨q1, q2⟩ := h.andP hi
        have hc := h.count
        rcases hj with rfl | rfl
        · left
          unfold kA
          rw [g2]
          exact (toK_node h (q1.mono (by omega))).symm
        · right
          unfold kB
          rw [g2]
          exact (toK_node h (q2.mono (by omega))).symm
    · have hb := (obsL_get (n := n) (k := fsq n + i) hkl).2 hk
      obtain ⟨g1, g2⟩ := seq_prune hi hb
      refine .inr ⟨_, g1, ?_, litV (toK n) l, ?_, (toK_node h (h.inp (getD_mem hi) l hl)).symm⟩
      · rw [cK_seq h (by omega)]
        rfl
      · rw [g2]
        exact List.mem_map.2 ⟨l, hl, rfl⟩
theorem kept_prune {n : NetL} (h : NetOkP n) {k : Nat} (hk : k < nds (pruneL n)) : KeptN (pruneL n) k := by
  have hq := h.fsq
  have hn1 := h.nums.n1
  have hm := pruneL_ok h
  have hmq := hm.fsq
  have hmn := hm.nums.n1
  have hfe := fst_prune h
  by_cases h1 : k < fsq (pruneL n)
  · exact .inl h1
  · right
    by_cases h2 : k < fst_ (pruneL n)
    · obtain ⟨j, rfl⟩ : ∃ j, k = fsq (pruneL n) + j := ⟨k - fsq (pruneL n), by omega⟩
      have hj : j < (keptTo (obsL n) (fsq n) n.seqs.length).length := by
        have e : (pruneL n).seqs.length = (prSqs n n.seqs.length).length := rfl
        rw [prSqs_len] at e
        omega
      obtain ⟨i, hi, _, hb, e2⟩ := keptTo_at hj
      have ho := obs_prune h ((obsL_get (n := n) (k := fsq n + i) (by omega)).1 hb)
      rw [cK_seq h (by omega), e2] at ho
      exact ho
    · obtain ⟨j, rfl⟩ : ∃ j, k = fst_ (pruneL n) + j := ⟨k - fst_ (pruneL n), by omega⟩
      have hj : j < (keptTo (obsL n) (fst_ n) n.ands.length).length := by
        have e : (pruneL n).ands.length = (prAns n n.ands.length).length := rfl
        rw [prAns_len] at e
        omega
      obtain ⟨i, hi, _, hb, e2⟩ := keptTo_at hj
      have ho := obs_prune h ((obsL_get (n := n) (k := fst_ n + i) (by omega)).1 hb)
      rw [cK_and h (by omega), e2] at ho
      have := cK_seq h (Nat.le_refl n.seqs.length)
      rw [hfe, hq.2.2, this]
      exact ho
theorem cK_all {n : NetL} (h : ∀ k, k < nds n → KeptN n k) : ∀ k, k ≤ nds n → cK n k = k
  | 0, _ => rfl
  | k + 1, hk => by rw [cK_yes (h k (by omega)), cK_all h k (by omega)]
theorem toK_all {n : NetL} (hn : NetOkP n) (h : ∀ k, k < nds n → KeptN n k) {l : Int} (hl : litP l (nodesL n)) : litV (toK n) l = l := by
  have hlt := hl.nat hn.nums
  have hc := hn.count
  have hl' := hl
  unfold litP at hl'
  have et := toK_get (n := n) (k := (l / 2).toNat) hlt
  rw [cK_all h _ (by omega)] at et
  rw [litV_eq (toK n) (by rw [et]; omega) (by rw [et]; omega), et]
  split
  · omega
  · rw [notL_eq (by omega) (by omega)]
    split <;> omega
theorem keptTo_all {K : List Bool} {f : Nat} : ∀ m, (∀ i, i < m → K.getD (f + i) default = true) → keptTo K f m = (List.range m).map fun i => ((i : Nat) : Int)
  | 0, _ => rfl
  | m + 1, h => by
    rw [keptTo_yes (h m (by omega)), keptTo_all m fun i hi => h i (by omega), List.range_succ, List.map_append]
    rfl
theorem mapL_all {n : NetL} (hn : NetOkP n) (h : ∀ k, k < nds n → KeptN n k) {ls : List Int} (hl : ∀ l, l ∈ ls → litP l (nodesL n)) : mapL (toK n) ls = ls := by
  unfold mapL
  exact (List.map_congr_left fun l hm => toK_all hn h (hl l hm)).trans (List.map_id' ls)
theorem prune_id {n : NetL} (hn : NetOkP n) (h : ∀ k, k < nds n → KeptN n k) : pruneL n = n ∧ (keptL n).length = n.seqs.length := by
  have hq := hn.fsq
  have hn1 := hn.nums.n1
  have hob : ∀ k, fsq n ≤ k → k < nds n → (obsL n).getD k default = true := fun k h1 h2 => (obsL_get h2).2 ((h k h2).resolve_left (by omega))
  have k1 := keptTo_all (K := obsL n) (f := fsq n) n.seqs.length fun i hi => hob _ (by omega) (by omega)
  have k2 := keptTo_all (K := obsL n) (f := fst_ n) n.ands.length fun i hi => hob _ (by omega) (by omega)
  refine ⟨?_, by unfold keptL; rw [k1]; simp⟩
  have e1 : prSqs n n.seqs.length = n.seqs := by
    unfold prSqs
    rw [k1, List.map_map]
    refine list_eq (by simp) fun i hi => ?_
    simp at hi
    rw [range_get hi]
    show prSq n (((i : Nat) : Int)).toNat = _
    rw [Int.toNat_natCast]
    unfold prSq
    rw [mapL_all hn h (hn.inp (getD_mem hi))]
  have e2 : prAns n n.ands.length = n.ands := by
    unfold prAns
    rw [k2, List.map_map]
    refine list_eq (by simp) fun i hi => ?_
    simp at hi
    rw [range_get hi]
    show prAn n (((i : Nat) : Int)).toNat = _
    rw [Int.toNat_natCast]
    unfold prAn
    obtain ⟨q1, q2⟩ := hn.andP hi
    have hc := hn.count
    rw [toK_all hn h (q1.mono (by omega)), toK_all hn h (q2.mono (by omega))]
  unfold pruneL
  rw [e1, e2, mapL_all hn h hn.out]
theorem prune_twice {n : NetL} (h : NetOkP n) : pruneL (pruneL n) = pruneL n ∧ (keptL (pruneL n)).length = (pruneL n).seqs.length := prune_id (pruneL_ok h) fun _ hk => kept_prune h hk
theorem prune_kept (n : NetL) : (pruneL n).seqs.length = (keptL n).length := by
  show (prSqs n n.seqs.length).length = _
  rw [prSqs_len]
  rfl
end Go.Xw
end
section
/- Only the low bits of the inputs count in a run; plain data, no condition. -/
namespace Go.Xw
open Go.Proofs
set_option maxHeartbeats 1000000
theorem low_bit (z : Int) {k m : Nat} (h : k < m) : z % 2 ^ m / 2 ^ k % 2 = z / 2 ^ k % 2 := by
  obtain ⟨d, rfl⟩ : ∃ d, m = k + 1 + d := ⟨m - (k + 1), by omega⟩
  have hp0 : (0 : Int) < 2 ^ k := Int.pow_pos (by decide)
  have hp : (2 : Int) ^ k ≠ 0 := by omega
  have e : (2 : Int) ^ (k + 1 + d) = 2 ^ k * (2 * 2 ^ d) := by rw [Int.pow_add, Int.pow_succ, Int.mul_assoc]
  have h1 := Int.emod_add_mul_ediv z (2 ^ (k + 1 + d))
  obtain ⟨X, hX⟩ : ∃ X, X = z / 2 ^ (k + 1 + d) := ⟨_, rfl⟩
  obtain ⟨Y, hY⟩ : ∃ Y, Y = z % 2 ^ (k + 1 + d) := ⟨_, rfl⟩
  rw [← hX, ← hY, e, Int.mul_assoc, Int.mul_assoc] at h1
  rw [← hY, ← h1, Int.add_mul_ediv_left _ _ hp, Int.add_mul_emod_self_left]
def lowM (n : NetL) (z : Int) : Int := bits .and .i64 z (1 * 2 ^ n.inputs.toNat - 1)
theorem lowM_eq {n : NetL} (h : NetOkP n) (z : Int) : lowM n z = z % 2 ^ n.inputs.toNat := by
  have hs := h.size.1
  have := bits_and_mask z n.inputs.toNat (by omega)
  unfold lowM
  rw [Int.one_mul]
  exact this
theorem low_leaf {n : NetL} (h : NetOkP n) (st : List Int) (z : Int) : leafV n st (lowM n z) = leafV n st z := by
  unfold leafV
  congr 2
  refine List.map_congr_left fun k hk => ?_
  rw [List.mem_range] at hk
  unfold bitI
  rw [bits_and_one, bits_and_one, lowM_eq h, low_bit z hk]
theorem low_vals {n : NetL} (h : NetOkP n) {st : List Int} (hs : st.length = n.seqs.length) (z : Int) : valsL n st (lowM n z) = valsL n st z := by
  rw [valsL_eq h hs, valsL_eq h hs, low_leaf h]
theorem low_st {n : NetL} (h : NetOkP n) (ins : List Int) : ∀ k, k ≤ ins.length → stAt n (ins.map (lowM n)) k = stAt n ins k
  | 0, _ => rfl
  | k + 1, hk => by
    rw [stAt, stAt, low_st h ins k (by omega), map_getD (show k < ins.length by omega)]
    unfold nextL
    rw [low_vals h (stAt_stP h ins k).1]
theorem low_run {n : NetL} (h : NetOkP n) (ins : List Int) : runL n (ins.map (lowM n)) = runL n ins := by
  have : ∀ k, k ≤ ins.length → runTo n (ins.map (lowM n)) k = runTo n ins k := fun k => by
    induction k with
    | zero => intro _; rfl
    | succ k ih =>
      intro hk
      rw [runTo, runTo, ih (by omega), low_st h ins k (by omega), map_getD (show k < ins.length by omega)]
      unfold outL
      rw [low_vals h (stAt_stP h ins k).1]
  unfold runL
  rw [List.length_map]
  exact this _ (Nat.le_refl _)
theorem runTo_get (n : NetL) (ins : List Int) {k m : Nat} (h : k < m) : (runTo n ins m).getD k default = outL n (stAt n ins k) (ins.getD k default) := by
  induction h with
  | refl =>
    rw [runTo]
    have := snoc_eq (R := runTo n ins k) (y := outL n (stAt n ins k) (ins.getD k default))
    rw [runTo_len] at this
    exact this
  | @step m hm ih => rw [runTo, snoc_lt (by rw [runTo_len]; exact hm), ih]
end Go.Xw
end
section
/- Merged registers keep the runs; plain data, no condition but the stated ones. -/
namespace Go.Xw
open Go.Proofs
set_option maxHeartbeats 1000000

/-- alike within the classes -/
def likeP (cl st : List Int) : Prop := ∀ i, i < cl.length → st.getD i default = st.getD (cl.getD i default).toNat default
theorem rep_leaf {n : NetL} (hok : NetOkP n) {cl : List Int} (h : clP n cl) {st : List Int} (hs : st.length = n.seqs.length) (hl : likeP cl st) (inp : Int) (k : Nat) : (leafV n st inp).getD (repN n cl k) default = (leafV n st inp).getD k default := by
  have hcl := h.1
  unfold repN
  split
  · rename_i hk
    obtain ⟨i, rfl⟩ : ∃ i, k = fsq n + i := ⟨k - fsq n, by omega⟩
    have hi : i < cl.length := by omega
    have hc := (h.2 i hi).1
    rw [show fsq n + i - fsq n = i by omega, leafV_seq hok (by omega), leafV_seq hok (by omega), hl i hi]
  · rfl
theorem map_vals {n : NetL} (hok : NetOkP n) {cl : List Int} (h : clP n cl) {st : List Int} (hs : st.length = n.seqs.length) (hl : likeP cl st) (inp : Int) :
    ∀ i, i ≤ n.ands.length → valA (leafV n st inp) (mapA (placeL n cl) (n.ands.take i)) = valA (leafV n st inp) (n.ands.take i)
  | 0, _ => rfl
  | i + 1, hi => by
    have ih := map_vals hok h hs hl inp i (by omega)
    have hU := leafV_len hok hs inp
    have hU1 := leafV_01 n st inp
    have h2 := hok.nums.f2
    have hn1 := hok.nums.n1
    have hn2 := hok.nums.n2
    have hc := hok.count
    have hlen : (valA (leafV n st inp) (n.ands.take i)).length = fst_ n + i := by rw [valA_len, hU, List.length_take]; omega
    have h01 := valA_01 (n.ands.take i) hU1
    obtain ⟨q1, q2⟩ := hok.andP (show i < n.ands.length by omega)
    have hq := hok.fsq
    have key : ∀ l, litP l (firstAndL n + i) → litV (valA (leafV n st inp) (n.ands.take i)) (litV (placeL n cl) l) = litV (valA (leafV n st inp) (n.ands.take i)) l := fun l hl2 => by
      unfold litP at hl2
      have hk : (l / 2).toNat < nds n := by omega
      have hr := repN_le h (l / 2).toNat
      refine litV_comp h01 h01 (k := 1000) (by omega) (by rw [placeL_get h hk]; unfold litP; omega) ?_
      rw [placeL_get h hk, litV_if h01, if_pos (by omega), show (2 * ((repN n cl (l / 2).toNat : Nat) : Int) / 2).toNat = repN n cl (l / 2).toNat by omega]
      by_cases hk2 : (l / 2).toNat < fst_ n
      · rw [valA_low (by omega), valA_low (by omega)]
        exact rep_leaf hok h hs hl inp _
      · have e : repN n cl (l / 2).toNat = (l / 2).toNat := by
          have hcl := h.1
          unfold repN
          rw [if_neg (by omega)]
        rw [e]
    rw [mapA_snoc (show i < n.ands.length by omega), take_snoc (show i < n.ands.length by omega), valA_snoc, valA_snoc, ih]
    dsimp only
    rw [key _ q1, key _ q2]
theorem mrgF_ok {n : NetL} (hok : NetOkP n) {cl : List Int} (h : clP n cl) : NetOkP (finN n (mapA (placeL n cl) n.ands) (placeL n cl)) := finN_ok hok (mrg_bld hok h) (by rw [placeL_len]; exact Nat.le_refl _)
theorem mrg_valsL {n : NetL} (hok : NetOkP n) {cl : List Int} (h : clP n cl) {st : List Int} (hs : st.length = n.seqs.length) (hl : likeP cl st) (inp : Int) : valsL (finN n (mapA (placeL n cl) n.ands) (placeL n cl)) st inp = valsL n st inp := by
  have := map_vals hok h hs hl inp n.ands.length (Nat.le_refl _)
  rw [List.take_length] at this
  rw [fin_vals (mrgF_ok hok h) hs, valsL_eq hok hs, this]
theorem rep_vals {n : NetL} (hok : NetOkP n) {cl : List Int} (h : clP n cl) {st : List Int} (hs : st.length = n.seqs.length) (hl : likeP cl st) (inp : Int) (k : Nat) : (valsL n st inp).getD (repN n cl k) default = (valsL n st inp).getD k default := by
  have hU := leafV_len hok hs inp
  have hr := repN_le h k
  rw [valsL_eq hok hs]
  by_cases hk2 : k < fst_ n
  · rw [valA_low (by omega), valA_low (by omega)]
    exact rep_leaf hok h hs hl inp _
  · have e : repN n cl k = k := by
      have hcl := h.1
      have hq := hok.fsq
      unfold repN
      rw [if_neg (by omega)]
    rw [e]
theorem rep_lit {n : NetL} (hok : NetOkP n) {cl : List Int} (h : clP n cl) {st : List Int} (hs : st.length = n.seqs.length) (hl : likeP cl st) (inp : Int) {l : Int} (hl2 : litP l (nodesL n)) : litV (valsL n st inp) (litV (placeL n cl) l) = litV (valsL n st inp) l := by
  have hk := hl2.nat hok.nums
  have hr := repN_le h (l / 2).toNat
  have hn2 := hok.nums.n2
  have hc := hok.count
  refine litV_comp (valsL_01 _ _ _) (valsL_01 _ _ _) (k := 1000) (by omega) (by rw [placeL_get h hk]; unfold litP; omega) ?_
  rw [placeL_get h hk, litV_if (valsL_01 _ _ _), if_pos (by omega), show (2 * ((repN n cl (l / 2).toNat : Nat) : Int) / 2).toNat = repN n cl (l / 2).toNat by omega]
  exact rep_vals hok h hs hl inp _
theorem leaf_bits (n : NetL) (st : List Int) (inp : Int) : leafV n (st.map fun z => bits .and .i64 z 1) inp = leafV n st inp := by
  unfold leafV
  rw [List.map_map]
  congr 1
  refine List.map_congr_left fun z _ => ?_
  show bits .and .i64 (bits .and .i64 z 1) 1 = _
  rw [bits_and_one, bits_and_one]
  omega
theorem vals_bits {n : NetL} (hok : NetOkP n) {st : List Int} (hs : st.length = n.seqs.length) (inp : Int) : valsL n (st.map fun z => bits .and .i64 z 1) inp = valsL n st inp := by
  rw [valsL_eq hok (by rw [List.length_map]; exact hs), valsL_eq hok hs, leaf_bits]
theorem like_any {n : NetL} {D : List Int} (hD : hldP n D) {st : List Int} (hs : st.length = n.seqs.length) (hl : likeP D st) (inp : Int) {i : Nat} (hi : i < D.length) :
    litV (valsL n st inp) ((n.seqs.getD i default).ins.getD 0 default) = litV (valsL n st inp) ((n.seqs.getD (D.getD i default).toNat default).ins.getD 0 default) := by
  have hok := hD.1.1
  have hcl := hD.1.2
  have hpw := Int.emod_nonneg inp (show (2 : Int) ^ n.inputs.toNat ≠ 0 by have : (0 : Int) < 2 ^ n.inputs.toNat := Int.pow_pos (by decide); omega)
  rw [← low_vals hok hs, ← vals_bits hok hs, lowM_eq hok]
  obtain ⟨x, hx⟩ := Int.eq_ofNat_of_zero_le hpw
  rw [hx]
  refine hld_any hD (by rw [List.length_map]; exact hs) (all01_of fun j hj => ?_) (fun j hj => ?_) x hi
  · rw [List.length_map] at hj
    rw [map_getD hj]
    exact and1_01 _
  · have hc := (hcl.2 j hj).1
    have hll := hcl.1
    rw [map_getD (by omega), map_getD (by omega), hl j hj]
theorem like_start {n : NetL} {D : List Int} (hD : hldP n D) : likeP D (startL n) := fun i hi => by
  have hcl := hD.1.2
  have hc := (hcl.2 i hi).1
  have hll := hcl.1
  unfold startL
  rw [map_getD (by omega), map_getD (by omega)]
  exact hD.2.2.1 i hi
theorem like_next {n : NetL} {D : List Int} (hD : hldP n D) {st : List Int} (hs : stP n st) (hl : likeP D st) (inp : Int) : likeP D (nextL n st inp) := fun i hi => by
  have hcl := hD.1.2
  have hc := (hcl.2 i hi).1
  have hll := hcl.1
  rcases (hcl.2 i hi).2.2 with h1 | ⟨h1, h2⟩
  · rw [h1]; rfl
  · rw [flop_next hD.1.1 hs inp (by omega) h1, flop_next hD.1.1 hs inp (by omega) h2]
    exact like_any hD hs.1 hl inp hi
theorem mrgN_run {n : NetL} (hok : NetOkP n) (hn : n.inputs + n.seqs.length ≤ 10) (ins : List Int) : runL (mrgN n) ins = runL n ins := by
  obtain ⟨hD, _⟩ := regL_hld hok hn
  have hcl := hD.1.2
  refine run_sim (fun st st' => st' = st ∧ stP n st ∧ likeP (regL n) st) ⟨start_fin, start_stP hok, like_start hD⟩ ?_
  rintro st st' inp ⟨rfl, h1, h2⟩
  have h3 := fin_sim (n := n) (A := mapA (placeL n (regL n)) n.ands) (to := placeL n (regL n)) (st := st') (inp := inp) fun x hx => by
    rw [mrg_valsL hok hcl h1.1 h2]
    exact rep_lit hok hcl h1.1 h2 inp (hok.root x hx)
  exact ⟨h3.1, h3.2, next_stP h1 inp, like_next hD h1 h2 inp⟩
theorem mrg_run {n : NetL} (hok : NetOkP n) (hn : n.inputs + n.seqs.length ≤ 10) (ins : List Int) : runL (mrgR n) ins = runL n ins := by
  unfold mrgR
  rw [prune_run (hashL_ok (mrgN_ok hok)), hash_run (mrgN_ok hok), mrgN_run hok hn]
end Go.Xw
end
