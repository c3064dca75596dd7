/- Merging again leaves the elements; plain data, no condition but the stated ones. -/
import Derived.Test.YtbjgekllkfnjnaaSimMrg
set_option linter.all false
namespace Go.Xw
open Go.Proofs
set_option maxHeartbeats 1000000

/-! ### pruned hashed nets are hashed -/
theorem reach_of {n : NetL} {x : Int} (hx : x ∈ rootsL n) : isReached n (x / 2).toNat := by
  obtain ⟨i, hi, rfl⟩ := List.getElem_of_mem hx
  exact ⟨i, hi, by rw [List.getD_eq_getElem?_getD, List.getElem?_eq_getElem hi]; exact .refl _⟩
theorem root_in {n : NetL} {i : Nat} (hi : i < n.seqs.length) {l : Int} (hl : l ∈ (n.seqs.getD i default).ins) : l ∈ rootsL n := by
  rw [rootsL_eq]
  exact List.mem_append_right _ (List.mem_flatMap.2 ⟨_, getD_mem hi, hl⟩)
theorem root_out {n : NetL} {l : Int} (hl : l ∈ n.outs) : l ∈ rootsL n := by
  rw [rootsL_eq]
  exact List.mem_append_left _ hl
theorem obs_reached {n : NetL} {k : Nat} (ho : Obs n k) : isReached n k := by
  refine Obs.closed (p := isReached n) (fun o h => reach_of (root_out h)) (fun k j h hs => ?_) ho
  rcases hs with ⟨i, hi, rfl, hj⟩ | ⟨i, hi, rfl, l, hl, rfl⟩
  · obtain ⟨x, hx, hc⟩ := h
    rcases hj with rfl | rfl
    · exact ⟨x, hx, hc.trans (.left hi (.refl _))⟩
    · exact ⟨x, hx, hc.trans (.right hi (.refl _))⟩
  · exact reach_of (root_in hi hl)
theorem toK_even {n : NetL} (h : NetOkP n) {l : Int} (hl : litP l (nodesL n)) : litV (toK n) l = 2 * (cK n (l / 2).toNat : Int) + l % 2 := by
  have hlt := hl.nat h.nums
  have hc := h.count
  have hck := cK_le n (l / 2).toNat
  have hn1 := h.nums.n2
  have et := toK_get (n := n) (k := (l / 2).toNat) hlt
  rw [even_lit (by rw [et]; omega) (by rw [et]; omega) (by rw [et]; omega), et]
theorem cK_inj {n : NetL} {a b : Nat} (ha : KeptN n a) (hb : KeptN n b) (h : cK n a = cK n b) : a = b := by
  rcases Nat.lt_trichotomy a b with h1 | h1 | h1
  · have := cK_lt ha h1; omega
  · exact h1
  · have := cK_lt hb h1; omega
theorem prune_hashP {n : NetL} (hp : hashP n) : hashP (pruneL n) := by
  have h := hp.1
  have hm := pruneL_ok h
  have hq := h.fsq
  have hn1 := h.nums.n1
  have hc := h.count
  refine ⟨hm, fun r hr => ?_⟩
  have hk : ∀ r, r < (pruneL n).ands.length → ∃ i, i < n.ands.length ∧ Obs n (fst_ n + i) ∧ (keptTo (obsL n) (fst_ n) i).length = r ∧ (pruneL n).ands.getD r default = prAn n i := fun r hr => by
    have hj : r < (keptTo (obsL n) (fst_ n) n.ands.length).length := by
      have e : (pruneL n).ands.length = (prAns n n.ands.length).length := rfl
      rw [prAns_len] at e
      omega
    obtain ⟨i, hi, _, hb, e2⟩ := keptTo_at hj
    obtain ⟨g1, g2⟩ := and_prune hi hb
    rw [e2] at g2
    exact ⟨i, hi, (obsL_get (by omega)).1 hb, e2, g2⟩
  have hkid : ∀ i, i < n.ands.length → Obs n (fst_ n + i) → KeptN n ((n.ands.getD i default).1 / 2).toNat ∧ KeptN n ((n.ands.getD i default).2 / 2).toNat := fun i hi ho =>
    ⟨.inr (ho.step (.inl ⟨i, hi, rfl, .inl rfl⟩)), .inr (ho.step (.inl ⟨i, hi, rfl, .inr rfl⟩))⟩
  obtain ⟨i, hi, ho, e2, g2⟩ := hk r hr
  obtain ⟨a0, a1, a2, a3, a4⟩ := hp.2 i hi
  obtain ⟨k1, k2⟩ := hkid i hi ho
  obtain ⟨q1, q2⟩ := h.andP hi
  have q1' := q1
  have q2' := q2
  have t1 := toK_even h (q1.mono (by omega))
  have t2 := toK_even h (q2.mono (by omega))
  unfold litP at q1' q2'
  have hin : ∀ {a b : Nat}, KeptN n a → a < b → cK n a < cK n b := fun ha hab => cK_lt ha hab
  have hm1 := cK_inp n 1 (by omega)
  refine ⟨?_, ?_, ?_, ?_, fun r2 hr2 => ?_⟩
  · have hkp := kept_prune h (k := fst_ (pruneL n) + r) (by rw [hm.nums.n1]; omega)
    have hmq := hm.fsq
    exact obs_reached (hkp.resolve_left (by omega))
  · rw [g2]
    show litV (toK n) _ < litV (toK n) _
    rw [t1, t2]
    by_cases hlt : ((n.ands.getD i default).1 / 2).toNat < ((n.ands.getD i default).2 / 2).toNat
    · have := hin k1 hlt; omega
    · rw [show ((n.ands.getD i default).2 / 2).toNat = ((n.ands.getD i default).1 / 2).toNat by omega]; omega
  · rw [g2]
    show 1 < litV (toK n) _
    rw [t1]
    have := cK_mono n (show 1 ≤ ((n.ands.getD i default).1 / 2).toNat by omega)
    omega
  · rw [g2]
    show ¬ (litV (toK n) _ % 2 = 0 ∧ litV (toK n) _ = litV (toK n) _ + 1)
    rw [t1, t2]
    rintro ⟨b1, b2⟩
    have := cK_inj k1 k2 (by omega)
    omega
  · obtain ⟨j, hj, hoj, e2j, g2j⟩ := hk r2 (by omega)
    obtain ⟨p1, p2⟩ := h.andP hj
    obtain ⟨c1, c2⟩ := hkid j hj hoj
    have u1 := toK_even h (p1.mono (by omega))
    have u2 := toK_even h (p2.mono (by omega))
    unfold litP at p1 p2
    rw [g2, g2j]
    intro he
    have he1 : litV (toK n) (n.ands.getD j default).1 = litV (toK n) (n.ands.getD i default).1 := congrArg Prod.fst he
    have he2 : litV (toK n) (n.ands.getD j default).2 = litV (toK n) (n.ands.getD i default).2 := congrArg Prod.snd he
    rw [u1, t1] at he1
    rw [u2, t2] at he2
    have f1 := cK_inj c1 k1 (by omega)
    have f2 := cK_inj c2 k2 (by omega)
    have e3 : n.ands.getD j default = n.ands.getD i default := Prod.ext (by omega) (by omega)
    have hij : i ≠ j := fun hij => by subst hij; omega
    rcases Nat.lt_or_gt_of_ne hij with hlt | hlt
    · exact (hp.2 j hj).un i hlt e3.symm
    · exact a4 j hlt e3

/-! ### what nothing reads is not observable -/
structure UnR (n : NetL) (k : Nat) : Prop where
  an : ∀ i, i < n.ands.length → kA n i ≠ k ∧ kB n i ≠ k
  rt : ∀ l, l ∈ rootsL n → (l / 2).toNat ≠ k
theorem UnR.no {n : NetL} {k : Nat} (h : UnR n k) : ¬ Obs n k := fun ho =>
  Obs.closed (p := fun j => j ≠ k) (fun o hm => h.rt o (root_out hm)) (fun a j _ hs => by
    rcases hs with ⟨i, hi, rfl, hj⟩ | ⟨i, hi, rfl, l, hl, rfl⟩
    · rcases hj with rfl | rfl
      · exact (h.an i hi).1
      · exact (h.an i hi).2
    · exact h.rt l (root_in hi hl)) ho rfl
/-- neither the AND nodes nor the literals of other nodes read k -/
structure NoK (k : Nat) (A : List (Int × Int)) (to : List Int) : Prop where
  an : ∀ x, x ∈ A → (x.1 / 2).toNat ≠ k ∧ (x.2 / 2).toNat ≠ k
  to : ∀ j, j < to.length → j ≠ k → (to.getD j default / 2).toNat ≠ k
theorem NoK.lit {k : Nat} {A : List (Int × Int)} {to : List Int} (h : NoK k A to) {m : Int} (hB : Bld m A to) {l : Int} (hl : (l / 2).toNat < to.length) (hk : (l / 2).toNat ≠ k) : (litV to l / 2).toNat ≠ k := by
  have h1 := h.to _ hl hk
  have h2 := hB.tok _ hl
  have f1 := hB.f1
  have f2 := hB.alen
  unfold litP at h2
  rw [litV_eq to (by omega) (by omega)]
  split
  · exact h1
  · rw [(notL_b (a := to.getD (l / 2).toNat default) (by omega) (by omega)).2.2.1]
    exact h1
theorem NoK.leaf {n : NetL} (k : Nat) : NoK k [] (leafL n) := ⟨fun x hx => (by cases hx), fun j hj hk => by
  rw [leafL_len] at hj
  rw [leafL_get hj]
  omega⟩
theorem NoK.snoc {k : Nat} {A : List (Int × Int)} {to : List Int} (h : NoK k A to) {y : Int} (hy : (y / 2).toNat ≠ k) : NoK k A (to ++ [y]) := ⟨h.an, fun j hj hk => by
  by_cases hj2 : j < to.length
  · rw [snoc_lt hj2]; exact h.to j hj2 hk
  · simp at hj
    obtain rfl : j = to.length := by omega
    rw [snoc_eq]; exact hy⟩
theorem NoK.and_ {k : Nat} {A : List (Int × Int)} {to : List Int} (h : NoK k A to) {x : Int × Int} (h1 : (x.1 / 2).toNat ≠ k) (h2 : (x.2 / 2).toNat ≠ k) : NoK k (A ++ [x]) to := ⟨fun z hz => by
  rcases List.mem_append.1 hz with hz | hz
  · exact h.an z hz
  · rw [List.mem_singleton.1 hz]; exact ⟨h1, h2⟩, h.to⟩
theorem NoK.add {k : Nat} {f : Int} {A : List (Int × Int)} {to : List Int} (h : NoK k A to) (hk : 1 ≤ k) (hf : (k : Int) < f) {a b : Int} (ha : (a / 2).toNat ≠ k) (hb : (b / 2).toNat ≠ k) : NoK k (addC f A a b).1 to ∧ ((addC f A a b).2 / 2).toNat ≠ k := by
  unfold addC
  repeat' split
  · exact ⟨h, by dsimp only; omega⟩
  · exact ⟨h, hb⟩
  · exact ⟨h, ha⟩
  · exact ⟨h, by dsimp only; omega⟩
  · exact ⟨h, by dsimp only; omega⟩
  · refine ⟨h.and_ ?_ ?_, by dsimp only; omega⟩
    · dsimp only
      rcases Int.le_total a b with hab | hab
      · rw [Int.min_eq_left hab]; exact ha
      · rw [Int.min_eq_right hab]; exact hb
    · dsimp only
      rcases Int.le_total a b with hab | hab
      · rw [Int.max_eq_right hab]; exact hb
      · rw [Int.max_eq_left hab]; exact ha
theorem ha_noK {n : NetL} (h : NetOkP n) {k : Nat} (hk : 1 ≤ k) (hkf : k < fst_ n) (hu : UnR n k) : ∀ i, i ≤ n.ands.length → NoK k (haTo n i).1 (haTo n i).2
  | 0, _ => .leaf k
  | i + 1, hi => by
    have ih := ha_noK h hk hkf hu i (by omega)
    have hB := haTo_ok h i (by omega)
    have hl := (haTo_len n i).2
    have f2 := h.nums.f2
    obtain ⟨q1, q2⟩ := h.andP (show i < n.ands.length by omega)
    unfold litP at q1 q2
    obtain ⟨u1, u2⟩ := hu.an i (by omega)
    obtain ⟨r1, r2⟩ := ih.add hk (f := firstAndL n) (by omega) (ih.lit hB (l := (n.ands.getD i default).1) (by omega) u1) (ih.lit hB (l := (n.ands.getD i default).2) (by omega) u2)
    exact r1.snoc r2
theorem fin_unR {n : NetL} (h : NetOkP n) {A : List (Int × Int)} {to : List Int} {k : Nat} {m : Int} (hB : Bld m A to) (hl : nds n ≤ to.length) (hn : NoK k A to) (hu : UnR n k) : UnR (finN n A to) k := ⟨fun i hi => hn.an _ (getD_mem hi), fun l hl2 => by
  rw [roots_fin] at hl2
  obtain ⟨x, hx, rfl⟩ := List.mem_map.1 hl2
  have := (h.root x hx).nat h.nums
  exact hn.lit hB (by omega) (hu.rt x hx)⟩
theorem pre_unR {n : NetL} (h : NetOkP n) {k : Nat} (hk : 1 ≤ k) (hkf : k < fst_ n) (hu : UnR n k) : UnR (preL n) k := by
  have hl := (haTo_len n n.ands.length).2
  have hn1 := h.nums.n1
  exact fin_unR h (haTo_ok h _ (Nat.le_refl _)) (by omega) (ha_noK h hk hkf hu _ (Nat.le_refl _)) hu
theorem sw_noK {n : NetL} (h : NetOkP n) (K : List Bool) {k : Nat} (hk : 1 ≤ k) (hkf : k < fst_ n) (hu : UnR n k) : ∀ i, i ≤ n.ands.length → NoK k (swTo n K i).1 (swTo n K i).2
  | 0, _ => .leaf k
  | i + 1, hi => by
    have ih := sw_noK h K hk hkf hu i (by omega)
    have hB := swTo_ok h K i (by omega)
    have hl := (swTo_len n K i).2
    have f2 := h.nums.f2
    obtain ⟨q1, q2⟩ := h.andP (show i < n.ands.length by omega)
    unfold litP at q1 q2
    obtain ⟨u1, u2⟩ := hu.an i (by omega)
    unfold swTo
    split
    · exact (ih.and_ (ih.lit hB (l := (n.ands.getD i default).1) (by omega) u1) (ih.lit hB (l := (n.ands.getD i default).2) (by omega) u2)).snoc (by omega)
    · exact ih.snoc (by omega)
theorem sweep_unR {n : NetL} (h : NetOkP n) {k : Nat} (hk : 1 ≤ k) (hkf : k < fst_ n) (hu : UnR n k) : UnR (sweepL n) k := by
  have hl := (swTo_len n (reachedL n) n.ands.length).2
  have hn1 := h.nums.n1
  exact fin_unR h (swTo_ok h _ _ (Nat.le_refl _)) (by omega) (sw_noK h _ hk hkf hu _ (Nat.le_refl _)) hu
theorem fst_pre (n : NetL) : fst_ (preL n) = fst_ n := by unfold fst_ preL; rw [firstAndL_fin]
theorem hash_unR {n : NetL} (h : NetOkP n) {k : Nat} (hk : 1 ≤ k) (hkf : k < fst_ n) (hu : UnR n k) : UnR (hashL n) k :=
  sweep_unR (preL_ok h) hk (by rw [fst_pre]; exact hkf) (pre_unR h hk hkf hu)

/-! ### values of the roots through hashing -/
theorem pre_root {n : NetL} (h : NetOkP n) {st : List Int} (hs : st.length = n.seqs.length) (inp : Int) {x : Int} (hx : x ∈ rootsL n) : litV (valsL (preL n) st inp) (litV (haTo n n.ands.length).2 x) = litV (valsL n st inp) x := by
  have hB := haTo_ok h _ (Nat.le_refl _)
  have hl := haTo_len n n.ands.length
  have hn := h.nums.n1
  have f1 := hB.f1
  have f2 := hB.alen
  refine roots_sim h (valsL_01 _ _ _) (valsL_01 _ _ _) (k := firstAndL n + (haTo n n.ands.length).1.length) (by omega) (fun i hi => ⟨hB.tok i (by omega), ?_⟩) x hx
  have e : preL n = finN n (haTo n n.ands.length).1 (haTo n n.ands.length).2 := rfl
  rw [e, fin_vals (preL_ok h) hs, valsL_eq h hs]
  exact ha_sim h (leafV_len h hs inp) (leafV_01 _ _ _) (leafV_0 _ _ _) (Nat.le_refl _) i (by omega)
theorem sweep_root {n : NetL} (h : NetOkP n) {st : List Int} (hs : st.length = n.seqs.length) (inp : Int) {x : Int} (hx : x ∈ rootsL n) : litV (valsL (sweepL n) st inp) (litV (swTo n (reachedL n) n.ands.length).2 x) = litV (valsL n st inp) x := by
  have hB := swTo_ok h (reachedL n) _ (Nat.le_refl _)
  have hl := swTo_len n (reachedL n) n.ands.length
  have hn := h.nums
  have hn1 := hn.n1
  have f1 := hB.f1
  have f2 := hB.alen
  have hlt := (h.root x hx).nat hn
  have e : sweepL n = finN n (swTo n (reachedL n) n.ands.length).1 (swTo n (reachedL n) n.ands.length).2 := rfl
  have hsw : NetOkP (finN n (swTo n (reachedL n) n.ands.length).1 (swTo n (reachedL n) n.ands.length).2) := sweepL_ok h
  refine litV_comp (valsL_01 _ _ _) (valsL_01 _ _ _) (k := firstAndL n + (swTo n (reachedL n) n.ands.length).1.length) (by omega) (hB.tok _ (by omega)) ?_
  rw [e, fin_vals hsw hs, valsL_eq h hs]
  exact sw_sim h (fun i hi hK => ⟨.inr (reach_kids h hi hK).1, .inr (reach_kids h hi hK).2⟩) (leafV_len h hs inp) (leafV_01 _ _ _) n.ands.length (Nat.le_refl _) _ (by omega) (.inr (reach_root h hx))
theorem fin_seq {n : NetL} {A : List (Int × Int)} {to : List Int} {i : Nat} (hi : i < n.seqs.length) : (finN n A to).seqs.getD i default = ⟨(n.seqs.getD i default).kind, (n.seqs.getD i default).init, mapL to (n.seqs.getD i default).ins⟩ :=
  map_getD (f := fun s : SeqL => (⟨s.kind, s.init, mapL to s.ins⟩ : SeqL)) hi
theorem fin_seqs_len (n : NetL) (A : List (Int × Int)) (to : List Int) : (finN n A to).seqs.length = n.seqs.length := by unfold finN; simp
/-- the first In of an element -/
def in0 (n : NetL) (i : Nat) : Int := (n.seqs.getD i default).ins.getD 0 default
theorem ins_pos {n : NetL} (h : NetOkP n) {i : Nat} (hi : i < n.seqs.length) : 0 < (n.seqs.getD i default).ins.length := by
  rcases h.seqs i hi with ⟨_, _, h3⟩ | ⟨_, _, h3⟩ <;> omega
theorem in0_root {n : NetL} (h : NetOkP n) {i : Nat} (hi : i < n.seqs.length) : in0 n i ∈ rootsL n := root_in hi (getD_mem (ins_pos h hi))
theorem fin_in0 {n : NetL} (h : NetOkP n) {A : List (Int × Int)} {to : List Int} {i : Nat} (hi : i < n.seqs.length) : in0 (finN n A to) i = litV to (in0 n i) := by
  unfold in0
  rw [fin_seq hi]
  exact map_getD (f := litV to) (ins_pos h hi)
theorem hash_seqs (n : NetL) : (hashL n).seqs.length = n.seqs.length := by
  show (finN _ _ _).seqs.length = _
  rw [fin_seqs_len]
  show (finN _ _ _).seqs.length = _
  rw [fin_seqs_len]
theorem hash_in0 {n : NetL} (h : NetOkP n) {st : List Int} (hs : st.length = n.seqs.length) (inp : Int) {i : Nat} (hi : i < n.seqs.length) : litV (valsL (hashL n) st inp) (in0 (hashL n) i) = litV (valsL n st inp) (in0 n i) := by
  have hp := preL_ok h
  have hl : (preL n).seqs.length = n.seqs.length := fin_seqs_len _ _ _
  have e1 : in0 (hashL n) i = litV (swTo (preL n) (reachedL (preL n)) (preL n).ands.length).2 (in0 (preL n) i) := fin_in0 hp (by omega)
  have e2 : in0 (preL n) i = litV (haTo n n.ands.length).2 (in0 n i) := fin_in0 h hi
  have e3 : hashL n = sweepL (preL n) := rfl
  rw [e1, e3, sweep_root hp (by omega) inp (in0_root hp (by omega)), e2, pre_root h hs inp (in0_root h hi)]
theorem hash_kind {n : NetL} {i : Nat} (hi : i < n.seqs.length) : ((hashL n).seqs.getD i default).kind = (n.seqs.getD i default).kind ∧ ((hashL n).seqs.getD i default).init = (n.seqs.getD i default).init := by
  have hl : (preL n).seqs.length = n.seqs.length := fin_seqs_len _ _ _
  have e1 : (hashL n).seqs.getD i default = ⟨((preL n).seqs.getD i default).kind, ((preL n).seqs.getD i default).init, _⟩ := fin_seq (n := preL n) (by omega)
  have e2 : (preL n).seqs.getD i default = ⟨(n.seqs.getD i default).kind, (n.seqs.getD i default).init, _⟩ := fin_seq hi
  rw [e1, e2]
  exact ⟨rfl, rfl⟩
end Go.Xw
