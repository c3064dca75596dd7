/- Pruned and retimed nets have the runs of the net; plain data, no condition. -/
import Derived.Test.YtbjgekllkfnjnaaSimLaw
import Derived.Test.YtbjgekllkfnjnaaPruneLaw
import Derived.Test.YtbjgekllkfnjnaaRetLaw2
set_option linter.all false
namespace Go.Xw
open Go.Proofs
set_option maxHeartbeats 1000000

/-! ### pruning -/
theorem keptTo_pre (K : List Bool) (f m : Nat) : ∀ d, ∃ T, keptTo K f (m + d) = keptTo K f m ++ T
  | 0 => ⟨[], by simp⟩
  | d + 1 => by
    obtain ⟨T, h⟩ := keptTo_pre K f m d
    by_cases hb : K.getD (f + (m + d)) default = true
    · exact ⟨T ++ [((m + d : Nat) : Int)], by rw [show m + (d + 1) = m + d + 1 by omega, keptTo_yes hb, h, List.append_assoc]⟩
    · exact ⟨T, by rw [show m + (d + 1) = m + d + 1 by omega, keptTo_no hb, h]⟩
theorem keptTo_idx {K : List Bool} {f m i : Nat} (hi : i < m) (hb : K.getD (f + i) default = true) : (keptTo K f i).length < (keptTo K f m).length ∧ (keptTo K f m).getD (keptTo K f i).length default = (i : Int) := by
  obtain ⟨T, h⟩ := keptTo_pre K f (i + 1) (m - (i + 1))
  rw [show i + 1 + (m - (i + 1)) = m by omega, keptTo_yes hb, List.append_assoc] at h
  rw [h]
  refine ⟨by simp, ?_⟩
  have := getD_right (A := keptTo K f i) (B := [(i : Int)] ++ T) (i := 0)
  rw [Nat.add_zero] at this
  rw [this]
  rfl
noncomputable def prSt (n : NetL) (st : List Int) : List Int := (keptL n).map fun z => st.getD z.toNat default
theorem prSt_len (n : NetL) (st : List Int) : (prSt n st).length = (pruneL n).seqs.length := by
  show (prSt n st).length = (prSqs n n.seqs.length).length
  rw [prSqs_len]
  simp [prSt, keptL]
theorem prSt_get {n : NetL} {st : List Int} {i : Nat} (hi : i < n.seqs.length) (hb : (obsL n).getD (fsq n + i) default = true) : (keptTo (obsL n) (fsq n) i).length < (prSt n st).length ∧ (prSt n st).getD (keptTo (obsL n) (fsq n) i).length default = st.getD i default := by
  obtain ⟨h1, h2⟩ := keptTo_idx hi hb
  refine ⟨by unfold prSt keptL; rw [List.length_map]; exact h1, ?_⟩
  unfold prSt keptL
  rw [map_getD h1, h2]
  rfl
theorem prune_leaf {n : NetL} (h : NetOkP n) {st : List Int} (hs : st.length = n.seqs.length) (inp : Int) {k : Nat} (hk : k < fst_ n) (hkk : KeptN n k) : (leafV (pruneL n) (prSt n st) inp).getD (cK n k) default = (leafV n st inp).getD k default := by
  have hf := h.fsq
  have hm := pruneL_ok h
  have hn1 := h.nums.n1
  by_cases h0 : k = 0
  · subst h0
    rfl
  · by_cases h1 : k < fsq n
    · obtain ⟨q, rfl⟩ : ∃ q, k = 1 + q := ⟨k - 1, by omega⟩
      rw [cK_inp n _ (by omega)]
      have hq : q < n.inputs.toNat := by unfold fsq at h1 hf; omega
      rw [leafV_in hq, leafV_in (n := pruneL n) hq]
    · obtain ⟨i, rfl⟩ : ∃ i, k = fsq n + i := ⟨k - fsq n, by omega⟩
      have hi : i < n.seqs.length := by omega
      have ho : Obs n (fsq n + i) := hkk.elim (fun h => absurd h h1) id
      have hb := (obsL_get (n := n) (k := fsq n + i) (by omega)).2 ho
      obtain ⟨g1, g2⟩ := prSt_get (st := st) hi hb
      rw [cK_seq h (by omega), leafV_seq h (by omega)]
      have := leafV_seq hm (st := prSt n st) (inp := inp) g1
      rw [g2] at this
      exact this
theorem prune_vals {n : NetL} (h : NetOkP n) {st : List Int} (hs : st.length = n.seqs.length) (inp : Int) :
    ∀ i, i ≤ n.ands.length → ∀ k, k < fst_ n + i → KeptN n k → (valsL (pruneL n) (prSt n st) inp).getD (cK n k) default = (valsL n st inp).getD k default := by
  have hm := pruneL_ok h
  have hf := h.fsq
  have hn := h.nums
  have hn1 := hn.n1
  have hf2 := hn.f2
  have hc := h.count
  have hmn := hm.nums
  have hmc := hm.count
  have hpn := pruneL_nodes h
  have hU := leafV_len h hs inp
  have hU' := leafV_len hm (prSt_len n st) inp
  rw [valsL_eq hm (prSt_len n st), valsL_eq h hs]
  intro i
  induction i with
  | zero =>
    intro _ k hk hkk
    have hlt : cK n k < cK n (fst_ n) := cK_lt hkk (by omega)
    rw [valA_low (by rw [hU']; have := hmn.f2; omega), valA_low (by omega)]
    exact prune_leaf h hs inp (by omega) hkk
  | succ i ih =>
    intro hi k hk hkk
    have ih := ih (by omega)
    by_cases hk2 : k < fst_ n + i
    · exact ih k hk2 hkk
    · obtain rfl : k = fst_ n + i := by omega
      have ho : Obs n (fst_ n + i) := hkk.elim (fun h => by omega) id
      have hb := (obsL_get (n := n) (k := fst_ n + i) (by omega)).2 ho
      obtain ⟨g1, g2⟩ := keptTo_idx (m := n.ands.length) (show i < n.ands.length by omega) hb
      have e1 : (pruneL n).ands.getD (keptTo (obsL n) (fst_ n) i).length default = prAn n i := by
        show (prAns n n.ands.length).getD _ default = _
        unfold prAns
        rw [map_getD g1, g2]
        rfl
      have g1' : (keptTo (obsL n) (fst_ n) i).length < (pruneL n).ands.length := by
        show _ < (prAns n n.ands.length).length
        rw [prAns_len]; exact g1
      obtain ⟨q1, q2⟩ := h.andP (show i < n.ands.length by omega)
      have q1' := q1
      have q2' := q2
      unfold litP at q1' q2'
      have hat := valA_at (U := leafV n st inp) (A := n.ands) (f := firstAndL n) (by omega) (by omega) (i := i) (by omega) ⟨q1, q2⟩
      have hat' := valA_at (U := leafV (pruneL n) (prSt n st) inp) (A := (pruneL n).ands) (f := firstAndL (pruneL n)) (by rw [hU']; have := hmn.f2; omega) (by omega) g1' (hm.andP g1')
      rw [e1] at hat'
      have ka : KeptN n ((n.ands.getD i default).1 / 2).toNat := .inr (ho.step (.inl ⟨i, by omega, rfl, .inl rfl⟩))
      have kb : KeptN n ((n.ands.getD i default).2 / 2).toNat := .inr (ho.step (.inl ⟨i, by omega, rfl, .inr rfl⟩))
      have comp : ∀ l, 0 ≤ l → (l / 2).toNat < fst_ n + i → KeptN n (l / 2).toNat → litV (valA (leafV (pruneL n) (prSt n st) inp) (pruneL n).ands) (litV (toK n) l) = litV (valA (leafV n st inp) n.ands) l := fun l hl0 hl hkl => by
        have hck := cK_le n (l / 2).toNat
        have et := toK_get (n := n) (k := (l / 2).toNat) (by omega)
        refine litV_comp (valA_01 _ (leafV_01 _ _ _)) (valA_01 _ (leafV_01 _ _ _)) (k := 1000) (by omega) (by rw [et]; unfold litP; omega) ?_
        rw [et, litV_if (valA_01 _ (leafV_01 _ _ _)), if_pos (by omega), show (2 * (cK n (l / 2).toNat : Int) / 2).toNat = cK n (l / 2).toNat by omega]
        exact ih _ hl hkl
      have c1 := comp (n.ands.getD i default).1 q1'.1 (by omega) ka
      have c2 := comp (n.ands.getD i default).2 q2'.1 (by omega) kb
      have e3 : cK n (fst_ n + i) = (firstAndL (pruneL n)).toNat + (keptTo (obsL n) (fst_ n) i).length := by
        rw [cK_and h (by omega), hpn.1]
        have := cK_seq h (Nat.le_refl n.seqs.length)
        rw [hf.2.2, this]
        show _ = Int.toNat ((_ : Nat) : Int) + _
        rw [Int.toNat_natCast]
        rfl
      rw [e3, hat', show fst_ n + i = (firstAndL n).toNat + i by omega, hat]
      show bits .and .i64 (litV _ (litV (toK n) (n.ands.getD i default).1)) (litV _ (litV (toK n) (n.ands.getD i default).2)) = _
      rw [c1, c2]
theorem prune_lits {n : NetL} (h : NetOkP n) {st : List Int} (hs : st.length = n.seqs.length) (inp : Int) {l : Int} (hl : litP l (nodesL n)) (hk : KeptN n (l / 2).toNat) : litV (valsL (pruneL n) (prSt n st) inp) (litV (toK n) l) = litV (valsL n st inp) l := by
  have hn := h.nums
  have hn1 := hn.n1
  have hlt := hl.nat hn
  have hc := h.count
  have hn2 := hn.n2
  have hck := cK_le n (l / 2).toNat
  have et := toK_get (n := n) (k := (l / 2).toNat) hlt
  refine litV_comp (valsL_01 _ _ _) (valsL_01 _ _ _) (k := 1000) (by omega) (by rw [et]; unfold litP; omega) ?_
  rw [et, litV_if (valsL_01 _ _ _), if_pos (by omega), show (2 * (cK n (l / 2).toNat : Int) / 2).toNat = cK n (l / 2).toNat by omega]
  exact prune_vals h hs inp n.ands.length (Nat.le_refl _) _ (by omega) hk
theorem prune_run {n : NetL} (h : NetOkP n) (ins : List Int) : runL (pruneL n) ins = runL n ins := by
  have hf := h.fsq
  have hn1 := h.nums.n1
  refine run_sim (fun st st' => st.length = n.seqs.length ∧ st' = prSt n st) ⟨(start_stP h).1, ?_⟩ ?_
  · refine list_eq (by rw [prSt_len]; simp [startL]) fun j hj => ?_
    have hj2 : j < (keptTo (obsL n) (fsq n) n.seqs.length).length := by
      have : (startL (pruneL n)).length = (prSqs n n.seqs.length).length := by simp [startL, pruneL]
      rw [this, prSqs_len] at hj
      exact hj
    obtain ⟨i, hi, e1, hb, e2⟩ := keptTo_at hj2
    subst e2
    rw [(prSt_get hi hb).2]
    unfold startL
    rw [map_getD (by show _ < (prSqs n n.seqs.length).length; rw [prSqs_len]; exact hj2), map_getD hi]
    show ((prSqs n n.seqs.length).getD _ default).init = _
    unfold prSqs
    rw [map_getD hj2, e1]
    rfl
  · rintro st _ inp ⟨hs, rfl⟩
    refine ⟨packL_comp fun l hl => prune_lits h hs inp (h.out l hl) (.inr (.out hl)), nextTo_len _ _ _ _, ?_⟩
    refine list_eq (by rw [prSt_len]; exact nextTo_len _ _ _ _) fun j hj => ?_
    unfold nextL at hj
    rw [nextTo_len] at hj
    have hj2 : j < (keptTo (obsL n) (fsq n) n.seqs.length).length := by
      have : (pruneL n).seqs.length = (prSqs n n.seqs.length).length := rfl
      rw [this, prSqs_len] at hj
      exact hj
    obtain ⟨i, hi, e1, hb, e2⟩ := keptTo_at hj2
    subst e2
    rw [(prSt_get hi hb).2]
    unfold nextL
    rw [nextTo_get _ _ _ hj, nextTo_get _ _ _ hi]
    unfold nextAt
    rw [(prSt_get hi hb).2]
    have e3 : (pruneL n).seqs.getD (keptTo (obsL n) (fsq n) i).length default = prSq n i := by
      show (prSqs n n.seqs.length).getD _ default = _
      unfold prSqs
      rw [map_getD hj2, e1]
      rfl
    rw [e3]
    show seqNextL (n.seqs.getD i default).kind (st.getD i default) (packL _ (mapL (toK n) (n.seqs.getD i default).ins)) = _
    have ho := (obsL_get (n := n) (k := fsq n + i) (by omega)).1 hb
    rw [packL_comp fun l hl => prune_lits h hs inp (h.inp (getD_mem hi) l hl) (.inr (ho.step (.inr ⟨i, hi, rfl, l, hl, rfl⟩)))]

/-! ### retiming -/
theorem and1_of01 {z : Int} (h : is01 z) : bits .and .i64 z 1 = z := by rw [bits_and_one]; unfold is01 at h; omega
theorem litV_bitX {V : List Int} (h : All01 V) {y l : Int} (h0 : 0 ≤ y) (h1 : y ≤ 9223372036854775807) : litV V (bitX y l) = bitX (litV V y) l := by
  unfold bitX
  rw [bits_and_one]
  have hv := litV_01 h y
  unfold is01 at hv
  have hl : l % 2 = 0 ∨ l % 2 = 1 := by omega
  rcases hl with e | e
  · rw [e, xor_zero h0 h1, xor_zero (by omega) (by omega)]
  · rw [e, show bits .xor .i64 y 1 = notL y from rfl, litV_not h h0 h1, xor_01 hv (.inr rfl)]
    rcases hv with g | g <;> rw [g] <;> decide
theorem packL_one {V ls : List Int} (h : ls.length = 1) : packL V ls = litV V (ls.getD 0 default) := by
  unfold packL
  rw [h]
  show 0 + litV V (ls.getD 0 default) * 2 ^ 0 = _
  omega
theorem flop_next {n : NetL} (h : NetOkP n) {st : List Int} (hs : stP n st) (inp : Int) {i : Nat} (hi : i < n.seqs.length) (hk : (n.seqs.getD i default).kind = 0) : (nextL n st inp).getD i default = litV (valsL n st inp) ((n.seqs.getD i default).ins.getD 0 default) := by
  have h1 := h.seqs i hi
  have h2 := hs.2 i (by rw [hs.1]; exact hi)
  rcases h1 with ⟨_, _, h3⟩ | ⟨h3, _⟩
  · unfold nextL
    rw [nextTo_get _ _ _ hi]
    unfold nextAt seqNextL
    rw [hk] at h2 ⊢
    unfold seqMostL at h2
    rw [if_pos rfl] at h2
    rw [if_pos ⟨rfl, h2⟩, packL_one h3]
    have := litV_01 (valsL_01 n st inp) ((n.seqs.getD i default).ins.getD 0 default)
    unfold is01 at this
    omega
  · rw [hk] at h3; exact absurd h3 (by decide)
theorem flop_01 {n : NetL} {st : List Int} (hs : stP n st) {i : Nat} (hi : i < n.seqs.length) (hk : (n.seqs.getD i default).kind = 0) : is01 (st.getD i default) := by
  have h2 := hs.2 i (by rw [hs.1]; exact hi)
  rw [hk] at h2
  unfold seqMostL at h2
  rw [if_pos rfl] at h2
  unfold is01
  omega
/-- the value of a literal of a flip-flop -/
theorem flop_lit {n : NetL} (h : NetOkP n) {st : List Int} (hs : stP n st) (inp : Int) {l : Int} (hf : 0 ≤ flopL n l) : litV (valsL n st inp) l = bitX (st.getD (flopL n l).toNat default) l := by
  obtain ⟨f1, f2, f3⟩ := flopL_yes hf
  have hq := h.fsq
  have hU := leafV_len h hs.1 inp
  unfold litV bitX
  rw [valsL_eq h hs.1, show (l / 2).toNat = fsq n + (flopL n l).toNat by omega, valA_low (by omega), leafV_seq h (by rw [hs.1]; exact f1), and1_of01 (flop_01 hs f1 f2)]
def fwX (n : NetL) (a b : Int) (st : List Int) : Int := bits .and .i64 (bitX (st.getD (flopL n a).toNat default) a) (bitX (st.getD (flopL n b).toNat default) b)
theorem snoc_leaf (n m : NetL) (hi : m.inputs = n.inputs) (st T : List Int) (inp : Int) : leafV m (st ++ T) inp = leafV n st inp ++ T.map (fun z => bits .and .i64 z 1) := by
  unfold leafV
  rw [hi, List.map_append, ← List.append_assoc]
theorem map_snoc_init (n : NetL) (to : List Int) (T : List SeqL) : (mapS n to ++ T).map SeqL.init = startL n ++ T.map SeqL.init := by
  unfold mapS startL
  rw [List.map_append, List.map_map]
  rfl
theorem fw_run {n m : NetL} {k : Int} (h : fwO n k = some m) (ins : List Int) : runL m ins = runL n ins := by
  have hmok := fwO_ok h
  unfold fwO at h
  split at h
  · rename_i hc
    obtain ⟨hok, hk, hl, ha, hb⟩ := hc
    obtain ⟨a, hae⟩ : ∃ a, a = (n.ands.getD k.toNat default).1 := ⟨_, rfl⟩
    obtain ⟨b, hbe⟩ : ∃ b, b = (n.ands.getD k.toNat default).2 := ⟨_, rfl⟩
    rw [← hae, ← hbe] at h
    rw [← hae] at ha
    rw [← hbe] at hb
    cases hT : fwT n k n.ands.length with
    | none => rw [hT] at h; cases h
    | some T =>
      rw [hT] at h
      have r := fwT_ok hok hl (Nat.le_refl _) hT
      have h : fwN n a b T = some m := h
      unfold fwN at h
      split at h
      · cases h
      · rename_i hneg
        injection h with h
        have la := fwA_lit hok ha r
        have lb := fwA_lit hok hb r
        have hn := hok.nums
        have hq := hok.fsq
        have rl := r.len
        have f1 := r.b.f1
        have f2 := r.b.alen
        have hcn := hok.count
        obtain ⟨A', hA'⟩ : ∃ A', A' = (addC (firstAndL n + 1) T.1 (fwA n T.2 a) (fwA n T.2 b)).1 := ⟨_, rfl⟩
        obtain ⟨lt, hlt⟩ : ∃ lt, lt = (addC (firstAndL n + 1) T.1 (fwA n T.2 a) (fwA n T.2 b)).2 := ⟨_, rfl⟩
        obtain ⟨B2, hB2⟩ := addC_pre (f := firstAndL n + 1) (A := T.1) (a := fwA n T.2 a) (b := fwA n T.2 b)
        rw [← hA', ← hlt] at h
        rw [← hlt] at hneg
        rw [← hA'] at hB2
        have hms : m.seqs = mapS n T.2 ++ [⟨0, fwInit n a b, [lt]⟩] := by rw [← h]; rfl
        have hmi : m.inputs = n.inputs := by rw [← h]; rfl
        have hma : m.ands = A' := by rw [← h]; rfl
        have hmo : m.outs = mapL T.2 n.outs := by rw [← h]; rfl
        obtain ⟨fa1, fa2, _⟩ := flopL_yes ha
        obtain ⟨fb1, fb2, _⟩ := flopL_yes hb
        refine run_sim (fun st st' => stP n st ∧ st' = st ++ [fwX n a b st]) ⟨start_stP hok, ?_⟩ ?_
        · show m.seqs.map SeqL.init = _
          rw [hms, map_snoc_init]
          congr 1
          show [fwInit n a b] = [fwX n a b (startL n)]
          unfold fwInit fwX startL
          rw [map_getD fa1, map_getD fb1]
        · rintro st _ inp ⟨hs, rfl⟩
          have hx01 : is01 (fwX n a b st) := and_is01 (bitX_01 (flop_01 hs fa1 fa2)) (bitX_01 (flop_01 hs fb1 fb2))
          have hU := leafV_len hok hs.1 inp
          have hU1 := leafV_01 n st inp
          obtain ⟨U', hU'⟩ : ∃ U', U' = leafV n st inp ++ [fwX n a b st] := ⟨_, rfl⟩
          have hl' : leafV m (st ++ [fwX n a b st]) inp = U' := by
            rw [snoc_leaf n m hmi, hU']
            congr 1
            show [bits .and .i64 (fwX n a b st) 1] = _
            rw [and1_of01 hx01]
          have hU'l : U'.length = (firstAndL n + 1).toNat := by rw [hU']; simp; have := hn.f2; omega
          have hU'1 : All01 U' := by rw [hU']; exact hU1.snoc hx01
          have hU'0 : U'.getD 0 default = 0 := by rw [hU', snoc_lt (by omega)]; exact leafV_0 _ _ _
          have hVa := flop_lit hok hs inp ha
          have hVb := flop_lit hok hs inp hb
          have hinst : litP (2 * firstAndL n) (firstAndL n + 1) := by unfold litP; omega
          have hV : valsL n st inp = valA (leafV n st inp) n.ands := valsL_eq hok hs.1 inp
          have sim := raTo_sim hok hU hU1 hU'l hU'1 hU'0 (fw_start hok hl) hinst (fun q hq2 => by
              show litV U' ((leafL n).getD q default) = _
              rw [leafL_val hU'1 hq2, hU', snoc_lt (by omega)]) (fun i hi he => by
              have hat := valA_at (U := leafV n st inp) (A := n.ands) (f := firstAndL n) (by have := hn.f2; omega) (by omega) (i := i) (by omega) (hok.andP hi)
              rw [show fst_ n + i = (firstAndL n).toNat + i by have := hn.f2; omega, hat, litV_if hU'1, if_pos (by omega), hU', show (2 * firstAndL n / 2).toNat = (leafV n st inp).length by have := hn.f2; omega, snoc_eq, ← hV]
              have hki : k.toNat = i := by omega
              rw [hki] at hae hbe
              rw [← hae, ← hbe, hVa, hVb]
              rfl) n.ands.length (Nat.le_refl _) T hT
          have hV' : valsL m (st ++ [fwX n a b st]) inp = valA U' A' := by
            rw [valsL_eq hmok (by rw [hms]; simp [mapS_len]; exact hs.1), hl', hma]
          have sim' : ∀ i, i < nds n → litP (T.2.getD i default) (firstAndL n + 1 + T.1.length) ∧ litV (valsL m (st ++ [fwX n a b st]) inp) (T.2.getD i default) = (valsL n st inp).getD i default := fun i hi => by
            have ht := r.b.tok i (by have := hn.n1; omega)
            refine ⟨ht, ?_⟩
            unfold litP at ht
            rw [hV', hB2, valA_litlow (U := U') (A := T.1) (B := B2) (l := T.2.getD i default) (by omega), hV]
            exact sim i (by have := hn.n1; omega)
          have hroot := roots_sim hok (valsL_01 n st inp) (valsL_01 m (st ++ [fwX n a b st]) inp) (to := T.2) (k := firstAndL n + 1 + T.1.length) (by omega) sim'
          rw [rootsL_eq] at hroot
          refine ⟨?_, next_stP hs inp, ?_⟩
          · unfold outL
            rw [hmo]
            exact packL_comp fun l hl => hroot l (List.mem_append_left _ hl)
          · have hpin : ∀ i, i < n.seqs.length → packL (valsL m (st ++ [fwX n a b st]) inp) (mapL T.2 (n.seqs.getD i default).ins) = packL (valsL n st inp) (n.seqs.getD i default).ins := fun i hi => packL_comp fun l hl => hroot l (List.mem_append_right _ (List.mem_flatMap.2 ⟨_, getD_mem hi, hl⟩))
            have hml : m.seqs.length = n.seqs.length + 1 := by rw [hms]; simp [mapS_len]
            have e0 : nextL m (st ++ [fwX n a b st]) inp = nextTo m (st ++ [fwX n a b st]) (valsL m (st ++ [fwX n a b st]) inp) n.seqs.length ++ [nextAt m (st ++ [fwX n a b st]) (valsL m (st ++ [fwX n a b st]) inp) n.seqs.length] := by
              unfold nextL
              rw [hml]
              rfl
            rw [e0]
            congr 1
            · refine list_eq (by rw [nextTo_len]; exact (nextTo_len _ _ _ _).symm) fun i hi => ?_
              rw [nextTo_len] at hi
              unfold nextL
              rw [nextTo_get _ _ _ hi, nextTo_get _ _ _ hi]
              unfold nextAt
              rw [hms, snoc_lt (by rw [mapS_len]; exact hi), snoc_lt (by rw [hs.1]; exact hi), show (mapS n T.2).getD i default = _ from map_getD (f := fun s : SeqL => (⟨s.kind, s.init, mapL T.2 s.ins⟩ : SeqL)) hi]
              rw [hpin i hi]
            · have hat : m.seqs.getD n.seqs.length default = ⟨0, fwInit n a b, [lt]⟩ := by rw [hms, ← mapS_len n T.2, snoc_eq]
              have hsx : (st ++ [fwX n a b st]).getD n.seqs.length default = fwX n a b st := by rw [← hs.1, snoc_eq]
              unfold nextAt
              rw [hat, hsx]
              show [seqNextL 0 (fwX n a b st) (packL _ [lt])] = _
              have hx' := hx01
              unfold is01 at hx'
              unfold seqNextL
              rw [if_pos ⟨rfl, by omega⟩, packL_one rfl]
              show [litV _ lt % 2] = _
              have hv1 := litV_01 (valsL_01 m (st ++ [fwX n a b st]) inp) lt
              unfold is01 at hv1
              rw [show litV (valsL m (st ++ [fwX n a b st]) inp) lt % 2 = litV (valsL m (st ++ [fwX n a b st]) inp) lt by omega, hV', hA', hlt, addC_val hU'l hU'1 hU'0 r.b la lb (by rw [← hlt]; omega)]
              have side : ∀ x, 0 ≤ flopL n x → litV (valA U' T.1) (fwA n T.2 x) = bitX ((nextL n st inp).getD (flopL n x).toNat default) x := fun x hx => by
                obtain ⟨x1, x2, _⟩ := flopL_yes hx
                have hin := (flopL_seq hok hx).1
                have hm5 : (n.seqs.getD (flopL n x).toNat default).ins.getD 0 default ∈ (n.seqs.getD (flopL n x).toNat default).ins := getD_mem (by omega)
                have hp5 := hok.inp (getD_mem x1) _ hm5
                have hp5' := hp5.nat hn
                have hlit := r.b.lit (l := (n.seqs.getD (flopL n x).toNat default).ins.getD 0 default) (by have := hn.n1; omega)
                have hlit' := hlit
                unfold litP at hlit'
                unfold fwA
                rw [litV_bitX (valA_01 _ hU'1) hlit'.1 (by omega), flop_next hok hs inp x1 x2]
                congr 1
                rw [← hroot _ (List.mem_append_right _ (List.mem_flatMap.2 ⟨_, getD_mem x1, hm5⟩)), hV', hB2, valA_litlow (U := U') (A := T.1) (B := B2) (l := litV T.2 ((n.seqs.getD (flopL n x).toNat default).ins.getD 0 default)) (by omega)]
              rw [side a ha, side b hb]
              rfl
  · cases h
theorem rfL_run {n : NetL} (k : Int) (ins : List Int) : runL (rfL n k).1 ins = runL n ins := by
  unfold rfL
  cases h : fwO n k with
  | none => rfl
  | some m => rw [← fw_run h ins]; exact prune_run (fwO_ok h) ins
theorem raIn_run {n : NetL} (ins : List Int) : ∀ k, runL (raIn n k).1 ins = runL n ins
  | 0 => rfl
  | k + 1 => by
    unfold raIn
    split
    · exact raIn_run ins k
    · split
      · exact rfL_run k ins
      · rfl
theorem raAll_run (ins : List Int) : ∀ j (n : NetL), runL (raAll j n) ins = runL n ins
  | 0, _ => rfl
  | j + 1, n => by
    unfold raAll
    split
    · rw [raAll_run ins j, raIn_run]
    · rfl
theorem rallL_run {n : NetL} (h : NetOkP n) (ins : List Int) : runL (rallL n) ins = runL n ins := by
  unfold rallL
  rw [raAll_run, prune_run h]
theorem raIn_depth {n : NetL} : ∀ k, depthL (raIn n k).1 ≤ depthL n
  | 0 => Int.le_refl _
  | k + 1 => by
    unfold raIn
    split
    · exact raIn_depth k
    · split
      · rename_i h; exact Int.le_of_lt h.2
      · exact Int.le_refl _
theorem raAll_depth : ∀ j (n : NetL), depthL (raAll j n) ≤ depthL n
  | 0, _ => Int.le_refl _
  | j + 1, n => by
    unfold raAll
    split
    · exact Int.le_trans (raAll_depth j _) (raIn_depth _)
    · exact Int.le_refl _
end Go.Xw
