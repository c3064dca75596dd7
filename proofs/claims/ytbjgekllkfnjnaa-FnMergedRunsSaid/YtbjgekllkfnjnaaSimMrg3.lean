/- A net whose registers were merged is not changed by merging; plain data, no condition but the stated ones. -/
import Derived.Test.YtbjgekllkfnjnaaSimMrg2
set_option linter.all false
namespace Go.Xw
open Go.Proofs
set_option maxHeartbeats 1000000

theorem place_node {n : NetL} (hok : NetOkP n) {cl : List Int} (h : clP n cl) {l : Int} (hl : litP l (nodesL n)) : (litV (placeL n cl) l / 2).toNat = repN n cl (l / 2).toNat := by
  have hk := hl.nat hok.nums
  have hr := repN_le h (l / 2).toNat
  have hn2 := hok.nums.n2
  have hc := hok.count
  have e := placeL_get h hk
  rw [even_lit (by rw [e]; omega) (by rw [e]; omega) (by rw [e]; omega), e]
  unfold litP at hl
  omega
theorem repN_rep {n : NetL} {cl : List Int} (h : clP n cl) {i : Nat} (hi : i < cl.length) (hne : cl.getD i default ≠ (i : Int)) (k : Nat) : repN n cl k ≠ fsq n + i := by
  unfold repN
  split
  · rename_i hk
    obtain ⟨c, c1, c2, c3⟩ := h.rep (show k - fsq n < cl.length by omega)
    rw [c1, Int.toNat_natCast]
    intro he
    obtain rfl : c = i := by omega
    exact hne c3
  · rename_i hk
    omega
theorem mrgN_unR {n : NetL} (hok : NetOkP n) {i : Nat} (hi : i < n.seqs.length) (hne : (regL n).getD i default ≠ (i : Int)) : UnR (mrgN n) (fsq n + i) := by
  have h := regL_P n
  have hl := regL_len n
  have hc := hok.count
  refine ⟨fun j hj => ?_, fun l hl2 => ?_⟩
  · have hj2 : j < n.ands.length := by
      have e : (mrgN n).ands = mapA (placeL n (regL n)) n.ands := rfl
      rw [e, mapA_len] at hj
      exact hj
    have e : (mrgN n).ands.getD j default = (litV (placeL n (regL n)) (n.ands.getD j default).1, litV (placeL n (regL n)) (n.ands.getD j default).2) := mapA_get hj2
    obtain ⟨q1, q2⟩ := hok.andP hj2
    unfold kA kB
    rw [e]
    refine ⟨?_, ?_⟩
    · show (litV _ _ / 2).toNat ≠ _
      rw [place_node hok h (q1.mono (by omega))]
      exact repN_rep h (by omega) hne _
    · show (litV _ _ / 2).toNat ≠ _
      rw [place_node hok h (q2.mono (by omega))]
      exact repN_rep h (by omega) hne _
  · unfold mrgN at hl2
    rw [roots_fin] at hl2
    obtain ⟨x, hx, rfl⟩ := List.mem_map.1 hl2
    rw [place_node hok h (hok.root x hx)]
    exact repN_rep h (by omega) hne _
noncomputable def mH (n : NetL) : NetL := hashL (mrgN n)
noncomputable def mI (n : NetL) (r : Nat) : Nat := (keptTo (obsL (mH n)) (fsq (mH n)) r).length
def mK (n : NetL) (r : Nat) : Prop := Obs (mH n) (fsq (mH n) + r)
theorem mrgR_H (n : NetL) : mrgR n = pruneL (mH n) := rfl
theorem mH_fsq (n : NetL) : fsq (mH n) = fsq n := rfl
theorem mH_seqs (n : NetL) : (mH n).seqs.length = n.seqs.length := by
  unfold mH
  rw [hash_seqs]
  exact fin_seqs_len _ _ _
theorem mH_ok {n : NetL} (h : NetOkP n) : NetOkP (mH n) := hashL_ok (mrgN_ok h)
theorem mK_rep {n : NetL} (hok : NetOkP n) {i : Nat} (hi : i < n.seqs.length) (h : mK n i) : (regL n).getD i default = (i : Int) := Classical.byContradiction fun hne => by
  have hq := hok.fsq
  have hf : fst_ (mrgN n) = fst_ n := by unfold fst_ mrgN; rw [firstAndL_fin]
  exact (hash_unR (mrgN_ok hok) (k := fsq n + i) (by omega) (by omega) (mrgN_unR hok hi hne)).no h
theorem mK_get {n : NetL} (hok : NetOkP n) {i : Nat} (hi : i < n.seqs.length) (h : mK n i) : (obsL (mH n)).getD (fsq (mH n) + i) default = true :=
  (obsL_get (h.lt (mH_ok hok))).2 h
theorem mI_lt {n : NetL} (hok : NetOkP n) {r : Nat} (hr : r < n.seqs.length) (h : mK n r) : mI n r < (mrgR n).seqs.length ∧ (mrgR n).seqs.getD (mI n r) default = prSq (mH n) r :=
  seq_prune (n := mH n) (by rw [mH_seqs]; exact hr) (mK_get hok hr h)
theorem mI_mono {n : NetL} (hok : NetOkP n) {a b : Nat} (ha : a < n.seqs.length) (h : mK n a) (hab : a < b) : mI n a < mI n b := by
  obtain ⟨T, hT⟩ := keptTo_pre (obsL (mH n)) (fsq (mH n)) (a + 1) (b - (a + 1))
  rw [show a + 1 + (b - (a + 1)) = b by omega, keptTo_yes (mK_get hok ha h)] at hT
  unfold mI
  rw [hT, List.length_append, List.length_append, List.length_singleton]
  omega
theorem mI_inj {n : NetL} (hok : NetOkP n) {a b : Nat} (ha : a < n.seqs.length) (hb : b < n.seqs.length) (h : mK n a) (k : mK n b) (he : mI n a = mI n b) : a = b := by
  rcases Nat.lt_trichotomy a b with h1 | h1 | h1
  · have := mI_mono hok ha h h1; omega
  · exact h1
  · have := mI_mono hok hb k h1; omega
theorem mrgR_len (n : NetL) : (mrgR n).seqs.length = (keptTo (obsL (mH n)) (fsq (mH n)) (mH n).seqs.length).length := prSqs_len _ _
theorem mI_at {n : NetL} (hok : NetOkP n) {j : Nat} (hj : j < (mrgR n).seqs.length) : ∃ t, t < n.seqs.length ∧ mK n t ∧ mI n t = j ∧ (keptL (mH n)).getD j default = (t : Int) := by
  rw [mrgR_len] at hj
  obtain ⟨t, h1, h2, h3, h4⟩ := keptTo_at hj
  rw [mH_seqs] at h1
  have hq := (mH_ok hok).fsq
  have hn1 := (mH_ok hok).nums.n1
  have hs := mH_seqs n
  exact ⟨t, h1, (obsL_get (by omega)).1 h3, h4, h2⟩
theorem mrgR_le (n : NetL) : (mrgR n).seqs.length ≤ n.seqs.length := by
  rw [mrgR_len]
  have := keptTo_len (obsL (mH n)) (fsq (mH n)) (mH n).seqs.length
  rw [mH_seqs] at this
  rw [mH_seqs]
  exact this
theorem mrgR_hld {n : NetL} (hok : NetOkP n) (hn : n.inputs + n.seqs.length ≤ 10) : hldP (mrgR n) (regL (mrgR n)) := by
  have := mrgR_le n
  have e : (mrgR n).inputs = n.inputs := rfl
  exact (regL_hld (mrgR_ok hok) (by omega)).1

/-- the element that stands for class representative c of n, through the classes of the merged net -/
noncomputable def dR (n : NetL) (c : Int) : Int := @ite _ (mK n c.toNat) (Classical.propDecidable _) ((keptL (mH n)).getD ((regL (mrgR n)).getD (mI n c.toNat) default).toNat default) c
noncomputable def dL (n : NetL) : List Int := (List.range n.seqs.length).map fun s => dR n ((regL n).getD s default)
theorem dL_len (n : NetL) : (dL n).length = n.seqs.length := by simp [dL]
theorem dL_get {n : NetL} {s : Nat} (hs : s < n.seqs.length) : (dL n).getD s default = dR n ((regL n).getD s default) := range_get (f := fun s => dR n ((regL n).getD s default)) hs
theorem dR_no {n : NetL} {c : Nat} (h : ¬ mK n c) : dR n (c : Int) = c := by
  unfold dR
  rw [Int.toNat_natCast, if_neg h]
theorem dR_yes {n : NetL} (hok : NetOkP n) {c : Nat} (hc : c < n.seqs.length) (h : mK n c) : ∃ t : Nat, dR n (c : Int) = (t : Int) ∧ t ≤ c ∧ mK n t ∧ (regL (mrgR n)).getD (mI n c) default = (mI n t : Int) := by
  have hM := regL_P (mrgR n)
  have hl := regL_len (mrgR n)
  obtain ⟨i1, i2⟩ := mI_lt hok hc h
  obtain ⟨j, j1, j2, j3⟩ := hM.rep (show mI n c < (regL (mrgR n)).length by omega)
  obtain ⟨t, t1, t2, t3, t4⟩ := mI_at hok (show j < (mrgR n).seqs.length by omega)
  refine ⟨t, ?_, ?_, t2, by rw [j1, t3]⟩
  · unfold dR
    rw [Int.toNat_natCast, if_pos h, j1, Int.toNat_natCast, t4]
  · refine Nat.le_of_not_lt fun hlt => ?_
    have := mI_mono hok hc h hlt
    omega
/-- the class of a kept element stands for itself -/
theorem dR_fix {n : NetL} (hok : NetOkP n) {c t : Nat} (hc : c < n.seqs.length) (h : mK n c) (ht : t ≤ c) (htk : mK n t) (hr : (regL (mrgR n)).getD (mI n c) default = (mI n t : Int)) : dR n (t : Int) = t := by
  have hM := regL_P (mrgR n)
  have hl := regL_len (mrgR n)
  obtain ⟨i1, _⟩ := mI_lt hok hc h
  have h1 := (hM.2 (mI n c) (by omega)).2.1
  rw [hr, Int.toNat_natCast] at h1
  obtain ⟨t', a1, a2, a3, a4⟩ := dR_yes hok (show t < n.seqs.length by omega) htk
  have := mI_inj hok (show t < n.seqs.length by omega) (show t' < n.seqs.length by omega) htk a3 (by omega)
  rw [a1, this]
theorem seq_kind {n : NetL} (hok : NetOkP n) {r : Nat} (hr : r < n.seqs.length) (h : mK n r) : ((mrgR n).seqs.getD (mI n r) default).kind = (n.seqs.getD r default).kind ∧ ((mrgR n).seqs.getD (mI n r) default).init = (n.seqs.getD r default).init := by
  rw [(mI_lt hok hr h).2]
  have e1 := hash_kind (n := mrgN n) (i := r) (by have : (mrgN n).seqs.length = n.seqs.length := fin_seqs_len _ _ _; omega)
  have e2 : (mrgN n).seqs.getD r default = ⟨(n.seqs.getD r default).kind, (n.seqs.getD r default).init, _⟩ := fin_seq hr
  rw [e2] at e1
  exact e1
theorem dL_P {n : NetL} (hok : NetOkP n) : clP n (dL n) := by
  have hcl := regL_P n
  have hl := regL_len n
  refine ⟨dL_len n, fun i hi => ?_⟩
  rw [dL_len] at hi
  obtain ⟨c, c1, c2, c3⟩ := hcl.rep (show i < (regL n).length by omega)
  have hki := (hcl.2 i (by omega)).2.2
  rw [c1, Int.toNat_natCast] at hki
  rw [dL_get hi, c1]
  by_cases hk : mK n c
  · obtain ⟨t, t1, t2, t3, t4⟩ := dR_yes hok (show c < n.seqs.length by omega) hk
    have hf := dR_fix hok (show c < n.seqs.length by omega) hk t2 t3 t4
    rw [t1, Int.toNat_natCast, dL_get (by omega), mK_rep hok (by omega) t3, hf]
    refine ⟨⟨by omega, by omega⟩, rfl, ?_⟩
    by_cases hti : t = i
    · left; rw [hti]
    · right
      have k1 := seq_kind hok (show c < n.seqs.length by omega) hk
      have k2 := seq_kind hok (show t < n.seqs.length by omega) t3
      by_cases htc : t = c
      · subst htc
        exact hki.resolve_left (by omega)
      · have hM := regL_P (mrgR n)
        have hlM := regL_len (mrgR n)
        obtain ⟨i1, _⟩ := mI_lt hok (show c < n.seqs.length by omega) hk
        have hm := (hM.2 (mI n c) (by omega)).2.2
        rw [t4, Int.toNat_natCast] at hm
        have hm2 := hm.resolve_left (fun he => htc (mI_inj hok (by omega) (by omega) t3 hk (by omega)))
        refine ⟨?_, by rw [← k2.1]; exact hm2.2⟩
        rcases hki with h | h
        · have hci : c = i := by omega
          rw [← hci, ← k1.1]; exact hm2.1
        · exact h.1
  · rw [dR_no hk, Int.toNat_natCast, dL_get (by omega), c3, dR_no hk]
    exact ⟨⟨by omega, by omega⟩, rfl, hki⟩
theorem dL_ini {n : NetL} (hok : NetOkP n) (hn : n.inputs + n.seqs.length ≤ 10) {i : Nat} (hi : i < n.seqs.length) : (n.seqs.getD i default).init = (n.seqs.getD ((dL n).getD i default).toNat default).init := by
  have hD := (regL_hld hok hn).1
  have hM := mrgR_hld hok hn
  have hcl := regL_P n
  have hl := regL_len n
  obtain ⟨c, c1, c2, c3⟩ := hcl.rep (show i < (regL n).length by omega)
  have h1 := hD.2.2.1 i (by omega)
  rw [c1, Int.toNat_natCast] at h1
  rw [h1, dL_get hi, c1]
  by_cases hk : mK n c
  · obtain ⟨t, t1, t2, t3, t4⟩ := dR_yes hok (show c < n.seqs.length by omega) hk
    have hlM := regL_len (mrgR n)
    obtain ⟨i1, _⟩ := mI_lt hok (show c < n.seqs.length by omega) hk
    have h2 := hM.2.2.1 (mI n c) (by omega)
    rw [t4, Int.toNat_natCast, (seq_kind hok (show c < n.seqs.length by omega) hk).2, (seq_kind hok (show t < n.seqs.length by omega) t3).2] at h2
    rw [t1, Int.toNat_natCast]
    exact h2
  · rw [dR_no hk, Int.toNat_natCast]
/-- a state that is alike within dL -/
theorem dL_like {n : NetL} (hok : NetOkP n) {st : List Int} (h : likeP (dL n) st) : likeP (regL n) st := fun i hi => by
  have hcl := regL_P n
  have hl := regL_len n
  have hdl := dL_len n
  obtain ⟨c, c1, c2, c3⟩ := hcl.rep hi
  have h1 := h i (by omega)
  have h2 := h c (by omega)
  rw [dL_get (by omega), c1] at h1
  rw [dL_get (by omega), c3] at h2
  rw [c1, Int.toNat_natCast, h1, h2]
theorem dL_pr {n : NetL} (hok : NetOkP n) {st : List Int} (h : likeP (dL n) st) : likeP (regL (mrgR n)) (prSt (mH n) st) := fun j hj => by
  have hM := regL_P (mrgR n)
  have hlM := regL_len (mrgR n)
  have hdl := dL_len n
  obtain ⟨u, u1, u2, u3, u4⟩ := mI_at hok (show j < (mrgR n).seqs.length by omega)
  obtain ⟨j2, a1, a2, a3⟩ := hM.rep hj
  obtain ⟨v, v1, v2, v3, v4⟩ := mI_at hok (show j2 < (mrgR n).seqs.length by omega)
  have g1 := (prSt_get (n := mH n) (st := st) (by rw [mH_seqs]; exact u1) (mK_get hok u1 u2)).2
  have g2 := (prSt_get (n := mH n) (st := st) (by rw [mH_seqs]; exact v1) (mK_get hok v1 v2)).2
  have e1 : (keptTo (obsL (mH n)) (fsq (mH n)) u).length = j := u3
  have e2 : (keptTo (obsL (mH n)) (fsq (mH n)) v).length = j2 := v3
  rw [e1] at g1
  rw [e2] at g2
  rw [a1, Int.toNat_natCast, g1, g2]
  obtain ⟨t, t1, t2, t3, t4⟩ := dR_yes hok u1 u2
  have := h u (by omega)
  rw [dL_get u1, mK_rep hok u1 u2, t1, Int.toNat_natCast] at this
  rw [this]
  rw [u3, a1] at t4
  rw [mI_inj hok (show t < n.seqs.length by omega) v1 t3 v2 (by omega)]
/-- the value of In of a kept element, in the net and in the merged net -/
theorem mrg_in0 {n : NetL} (hok : NetOkP n) {st : List Int} (hs : st.length = n.seqs.length) (hl : likeP (regL n) st) (inp : Int) {c : Nat} (hc : c < n.seqs.length) (hk : mK n c) :
    litV (valsL (mrgR n) (prSt (mH n) st) inp) (in0 (mrgR n) (mI n c)) = litV (valsL n st inp) (in0 n c) := by
  have hcl := regL_P n
  have hH := mH_ok hok
  have hHs := mH_seqs n
  have hNs : (mrgN n).seqs.length = n.seqs.length := fin_seqs_len _ _ _
  have e1 : in0 (mrgR n) (mI n c) = litV (toK (mH n)) (in0 (mH n) c) := by
    unfold in0
    rw [(mI_lt hok hc hk).2]
    exact map_getD (f := litV (toK (mH n))) (ins_pos hH (by omega))
  have hr := in0_root hH (show c < (mH n).seqs.length by omega)
  rw [e1, mrgR_H, prune_lits hH (by omega) inp (hH.root _ hr) (.inr (Obs.step hk (.inr ⟨c, by omega, rfl, _, getD_mem (ins_pos hH (by omega)), rfl⟩)))]
  unfold mH
  rw [hash_in0 (mrgN_ok hok) (by omega) inp (by omega)]
  have e2 : in0 (mrgN n) c = litV (placeL n (regL n)) (in0 n c) := fin_in0 hok hc
  have e3 : valsL (mrgN n) st inp = valsL n st inp := mrg_valsL hok hcl hs hl inp
  rw [e2, e3]
  exact rep_lit hok hcl hs hl inp (hok.root _ (in0_root hok hc))
theorem dL_hld {n : NetL} (hok : NetOkP n) (hn : n.inputs + n.seqs.length ≤ 10) : hldP n (dL n) := by
  have hD := (regL_hld hok hn).1
  have hM := mrgR_hld hok hn
  have hcl := regL_P n
  have hl := regL_len n
  have hdl := dL_len n
  have hP := dL_P hok
  refine ⟨⟨hok, hP⟩, ?_, fun i hi => dL_ini hok hn (by omega), fun i hi x _ => ?_⟩
  · have := clNL_le (dL n); omega
  · obtain ⟨st, hst⟩ : ∃ st, st = stC n (dL n) (x : Int) := ⟨_, rfl⟩
    have hs : st.length = n.seqs.length := by rw [hst, stC_len, hdl]
    have hlike : likeP (dL n) st := fun j hj => by rw [hst]; exact stC_rep hP _ hj
    have hlk := dL_like hok hlike
    unfold kN
    rw [← hst]
    obtain ⟨c, c1, c2, c3⟩ := hcl.rep (show i < (regL n).length by omega)
    have h1 := like_any hD hs hlk (x : Int) (show i < (regL n).length by omega)
    rw [c1, Int.toNat_natCast] at h1
    rw [h1, dL_get (by omega), c1]
    by_cases hk : mK n c
    · obtain ⟨t, t1, t2, t3, t4⟩ := dR_yes hok (show c < n.seqs.length by omega) hk
      have hlM := regL_len (mrgR n)
      obtain ⟨i1, _⟩ := mI_lt hok (show c < n.seqs.length by omega) hk
      have h2 := like_any hM (prSt_len (mH n) st) (dL_pr hok hlike) (x : Int) (show mI n c < (regL (mrgR n)).length by omega)
      rw [t4, Int.toNat_natCast] at h2
      rw [t1, Int.toNat_natCast]
      have h3 := mrg_in0 hok hs hlk (x : Int) (show c < n.seqs.length by omega) hk
      have h4 := mrg_in0 hok hs hlk (x : Int) (show t < n.seqs.length by omega) t3
      exact h3.symm.trans (h2.trans h4)
    · rw [dR_no hk, Int.toNat_natCast]
theorem mrg_own {n : NetL} (hok : NetOkP n) (hn : n.inputs + n.seqs.length ≤ 10) {q : Nat} (hq : q < (mrgR n).seqs.length) : (regL (mrgR n)).getD q default = (q : Int) := by
  obtain ⟨u, u1, u2, u3, u4⟩ := mI_at hok hq
  obtain ⟨t, t1, t2, t3, t4⟩ := dR_yes hok u1 u2
  have hdl := dL_len n
  have := (regL_hld hok hn).2 _ (dL_hld hok hn) u (by omega)
  rw [dL_get u1, mK_rep hok u1 u2, t1, Int.toNat_natCast, mK_rep hok (by omega) t3] at this
  obtain rfl : u = t := by omega
  rw [← u3, t4]
theorem mrg_same {n : NetL} (hok : NetOkP n) (hn : n.inputs + n.seqs.length ≤ 10) : mrgR (mrgR n) = mrgR n := by
  have hp : hashP (mrgR n) := prune_hashP (hash_P (mrgN_ok hok))
  have ho := mrgR_ok hok
  have hl := regL_len (mrgR n)
  have hnn := ho.nums
  have n2 := hnn.n2
  have hc := ho.count
  have e1 : placeL (mrgR n) (regL (mrgR n)) = idL (nds (mrgR n)) := by
    refine list_eq (by rw [placeL_len]; simp [idL]) fun k hk => ?_
    rw [placeL_len] at hk
    rw [placeL_get (regL_P _) hk, idL_get hk]
    unfold repN
    split
    · rename_i h
      rw [mrg_own hok hn (by omega)]
      omega
    · rfl
  have e2 : mrgN (mrgR n) = mrgR n := by
    have e3 : mapA (idL (nds (mrgR n))) (mrgR n).ands = (mrgR n).ands := by
      refine list_eq (mapA_len _ _) fun i hi => ?_
      rw [mapA_len] at hi
      rw [mapA_get hi]
      obtain ⟨q1, q2⟩ := ho.andP hi
      unfold litP at q1 q2
      rw [idL_lit (by omega) (by omega) (by omega), idL_lit (by omega) (by omega) (by omega)]
    have e4 : mrgN (mrgR n) = finN (mrgR n) (mapA (placeL (mrgR n) (regL (mrgR n))) (mrgR n).ands) (placeL (mrgR n) (regL (mrgR n))) := rfl
    rw [e4, e1, e3, fin_id ho rfl]
  have e5 : mrgR (mrgR n) = pruneL (hashL (mrgN (mrgR n))) := rfl
  rw [e5, e2, hash_id hp]
  exact (prune_twice (mH_ok hok)).1
theorem mrgR_outs (n : NetL) : (mrgR n).outs.length = n.outs.length := by
  show (mapL _ (mapL _ (mapL _ (mapL _ n.outs)))).length = _
  rw [mapL_len, mapL_len, mapL_len, mapL_len]
end Go.Xw
