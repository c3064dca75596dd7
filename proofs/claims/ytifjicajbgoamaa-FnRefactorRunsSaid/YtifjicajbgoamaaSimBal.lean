/- A balanced net has the runs of the net and is not deeper; plain data, no condition. -/
import Derived.Test.YtifjicajbgoamaaBalLaw
set_option linter.all false
namespace Go.Xw
open Go.Proofs
set_option maxHeartbeats 1000000

/-! ### values -/
theorem conj_val {n : NetL} (h : NetOkP n) {U : List Int} (hU : U.length = fst_ n) (hU1 : All01 U) : ∀ (m : Nat) (l : Int), litP l (nodesL n) → (l / 2).toNat ≤ m → (litV (valA U n.ands) l = 1 ↔ ∀ z, CLf n l z → litV (valA U n.ands) z = 1) := by
  have f2 := h.nums.f2
  have hc := h.count
  intro m
  induction m with
  | zero =>
    intro l hl hm
    have hna : ¬ AL n l := by
      rintro ⟨i, hi, e⟩
      unfold litP at hl
      omega
    exact ⟨fun hv z hz => by rw [hz.eq hna]; exact hv, fun hv => hv l (.leaf hna)⟩
  | succ m ih =>
    intro l hl hm
    by_cases ha : AL n l
    · obtain ⟨i, hi, e⟩ := ha
      obtain ⟨h1, h2⟩ := h.andP hi
      have hV := valA_01 n.ands hU1
      have i1 := ih _ (h1.mono (k' := nodesL n) (by omega)) (by unfold litP at h1 hl; omega)
      have i2 := ih _ (h2.mono (k' := nodesL n) (by omega)) (by unfold litP at h2 hl; omega)
      have hat := valA_at (U := U) (A := n.ands) (f := firstAndL n) (by omega) (by omega) hi ⟨h1, h2⟩
      have v1 := litV_01 hV (n.ands.getD i default).1
      have v2 := litV_01 hV (n.ands.getD i default).2
      rw [e, litV_if hV, if_pos (by omega), show (2 * ((fst_ n + i : Nat) : Int) / 2).toNat = (firstAndL n).toNat + i by omega, hat, and_01 v1 v2]
      constructor
      · intro hv z hz
        split at hv
        · rename_i hb
          rcases hz.and_ hi with hz | hz
          · exact i1.1 (by unfold is01 at v1; omega) z hz
          · exact i2.1 (by unfold is01 at v2; omega) z hz
        · omega
      · intro hv
        have a1 := i1.2 fun z hz => hv z (.left hi hz)
        have a2 := i2.2 fun z hz => hv z (.right hi hz)
        rw [a1, a2]; rfl
    · exact ⟨fun hv z hz => by rw [hz.eq ha]; exact hv, fun hv => hv l (.leaf ha)⟩
theorem litV_grow {U : List Int} {f : Int} (hU : U.length = f.toNat) {A B : List (Int × Int)} (hf : 1 ≤ f) {x : Int} (hx : litP x (f + A.length)) : litV (valA U (A ++ B)) x = litV (valA U A) x := by
  unfold litP at hx
  exact valA_litlow (by omega)
theorem red_val {f : Int} {U W : List Int} (hW : W.length = f.toNat) (hU : U.length = f.toNat) (hU1 : All01 U) (hz : U.getD 0 default = 0) {A : List (Int × Int)} {L : List Int} (hR : RedS f W A L) {T : List (Int × Int) × Int} (hT : balRed f W A L = some T) {v : Prop} (hv : (∀ x, x ∈ L → litV (valA U A) x = 1) ↔ v) : litV (valA U T.1) T.2 = 1 ↔ v := by
  obtain ⟨y, h1, h2, _⟩ := red_ind hW (fun A L => (∀ x, x ∈ L → litV (valA U A) x = 1) ↔ v) (fun A L hR hP h1 h0 => by
    obtain ⟨l1, l2⟩ := hR.two h1
    have hval := addC_val hU hU1 hz hR.b l1 l2 (by omega)
    obtain ⟨B, hB⟩ := addC_pre (f := f) (A := A) (a := L.getD 0 default) (b := L.getD 1 default)
    have f1 := hR.b.f1
    have hV := valA_01 A hU1
    have v1 := litV_01 hV (L.getD 0 default)
    have v2 := litV_01 hV (L.getD 1 default)
    rw [← hP]
    have hL : L = L.getD 0 default :: L.getD 1 default :: L.drop 2 := by
      match L, h1 with
      | a :: b :: R, _ => rfl
    have hmem : ∀ x, x ∈ L ↔ x = L.getD 0 default ∨ x = L.getD 1 default ∨ x ∈ L.drop 2 := fun x => by
      conv => lhs; rw [hL]
      rw [List.mem_cons, List.mem_cons]
    have hand : bits .and .i64 (litV (valA U A) (L.getD 0 default)) (litV (valA U A) (L.getD 1 default)) = 1 ↔ litV (valA U A) (L.getD 0 default) = 1 ∧ litV (valA U A) (L.getD 1 default) = 1 := by
      rw [and_01 v1 v2]
      unfold is01 at v1 v2
      split <;> omega
    constructor
    · intro hq x hx
      have hz := hq _ (mem_insB.2 (.inl rfl))
      rw [hval, hand] at hz
      rcases (hmem x).1 hx with rfl | rfl | hx2
      · exact hz.1
      · exact hz.2
      · have := hq x (mem_insB.2 (.inr hx2))
        rwa [hB, litV_grow hU f1.1 (hR.b.mem hx)] at this
    · intro hq x hx
      rcases mem_insB.1 hx with rfl | hx2
      · rw [hval, hand]
        exact ⟨hq _ ((hmem _).2 (.inl rfl)), hq _ ((hmem _).2 (.inr (.inl rfl)))⟩
      · have hxL := (hmem x).2 (.inr (.inr hx2))
        rw [hB, litV_grow hU f1.1 (hR.b.mem hxL)]
        exact hq x hxL) L.length (Nat.le_refl _) hR hv hT
  rw [← h1, h2]
  simp
theorem bal_sim {n : NetL} (h : NetOkP n) {K : List Bool} (hK : ∀ i, i < n.ands.length → K.getD (fst_ n + i) default = true → ∀ m, m ∈ conjL n (fst_ n + i) → K.getD (m / 2).toNat default = true) {U : List Int} (hU : U.length = fst_ n) (hU1 : All01 U) (hz : U.getD 0 default = 0) :
    ∀ i, i ≤ n.ands.length → ∀ S, balTo n K i = some S → ∀ k, k < fst_ n + i → (k < fst_ n ∨ K.getD k default = true) → litV (valA U S.1) (S.2.getD k default) = (valA U n.ands).getD k default
  | 0, _, S, hS, k, hk, _ => by
    simp only [balTo, Option.some.injEq] at hS
    subst hS
    show litV U ((leafL n).getD k default) = _
    rw [leafL_val hU1 (by omega), valA_low (by omega)]
  | i + 1, hi, S, hS, k, hk, hkk => by
    have f2 := h.nums.f2
    have n1 := h.nums.n1
    have n2 := h.nums.n2
    have hc := h.count
    cases hp : balTo n K i with
    | none => rw [balTo, hp] at hS; cases hS
    | some P =>
      have ih := bal_sim h hK hU hU1 hz i (by omega) P hp
      have r := balTo_ok h i (by omega) P hp
      have f1 := r.b.f1
      have al := r.b.alen
      by_cases hKi : K.getD (fst_ n + i) default = true
      · cases hR : balRed (firstAndL n) (List.replicate (fst_ n) 0) P.1 (balLeaves n P (fst_ n + i)) with
        | none => rw [balTo_fail hp hKi hR] at hS; cases hS
        | some T =>
          rw [balTo_yes hp hKi hR, Option.some.injEq] at hS
          subst hS
          dsimp only
          obtain ⟨⟨B, hB⟩, hb⟩ := red_ok (fst_rep h) (r.leaves h (by omega)) hR
          by_cases hk2 : k < P.2.length
          · rw [snoc_lt hk2, hB, litV_grow (by omega) f1.1 (r.b.tok k hk2)]
            rw [r.len] at hk2
            exact ih k hk2 hkk
          · have hl := r.len
            obtain rfl : k = fst_ n + i := by omega
            rw [← hl, snoc_eq, hl]
            have hlit : litP (2 * ((fst_ n + i : Nat) : Int)) (nodesL n) := by unfold litP; omega
            have hq := red_val (v := litV (valA U n.ands) (2 * ((fst_ n + i : Nat) : Int)) = 1) (fst_rep h) (by omega) hU1 hz (r.leaves h (by omega)) hR (by
              rw [conj_val h hU hU1 (fst_ n + i) _ hlit (by omega)]
              have hmm : ∀ m, m ∈ conjL n (fst_ n + i) → litV (valA U P.1) (litV P.2 m) = litV (valA U n.ands) m := fun m hm => by
                have hlt := (conjL_lit h (by omega) hm).2
                refine litV_comp (valA_01 _ hU1) (valA_01 _ hU1) (k := firstAndL n + P.1.length) (by omega) (r.b.tok _ (by rw [r.len]; exact hlt)) (ih _ hlt (.inr (hK i (by omega) hKi m hm)))
              constructor
              · intro hq z hz
                have hm := (conjL_G h (by omega)).2 hz
                rw [← hmm z hm]
                exact hq _ (mem_insAll.2 (.inr (List.mem_map.2 ⟨z, hm, rfl⟩)))
              · intro hq x hx
                rcases mem_insAll.1 hx with hx | hx
                · simp at hx
                · obtain ⟨m, hm, rfl⟩ := List.mem_map.1 hx
                  rw [hmm m hm]
                  exact hq m ((conjL_G h (by omega)).1 hm))
            have w1 := litV_01 (valA_01 T.1 hU1) T.2
            have w2 := valA_01 n.ands hU1 (fst_ n + i)
            have e : litV (valA U n.ands) (2 * ((fst_ n + i : Nat) : Int)) = (valA U n.ands).getD (fst_ n + i) default := by
              rw [litV_if (valA_01 _ hU1), if_pos (by omega), show (2 * ((fst_ n + i : Nat) : Int) / 2).toNat = fst_ n + i by omega]
            rw [e] at hq
            unfold is01 at w1 w2
            omega
      · rw [balTo_skip hp hKi, Option.some.injEq] at hS
        subst hS
        dsimp only
        by_cases hk2 : k < P.2.length
        · rw [snoc_lt hk2]
          rw [r.len] at hk2
          exact ih k hk2 hkk
        · have hl := r.len
          obtain rfl : k = fst_ n + i := by omega
          exact absurd hkk (fun hh => hh.elim (by omega) hKi)
theorem bal_run {n : NetL} (h : NetOkP n) (ins : List Int) : runL (balL n) ins = runL n ins := by
  cases hS : balTo n (needL n) n.ands.length with
  | none => rw [balL_none (Nat.le_refl _) hS]
  | some S =>
    rw [balL_some hS, sweep_run (balF_ok h hS)]
    refine fin_run h fun st inp hs x hx => ?_
    have r := balTo_ok h _ (Nat.le_refl _) S hS
    have f1 := r.b.f1
    have al := r.b.alen
    have hlt := (h.root x hx).nat h.nums
    have n1 := h.nums.n1
    rw [fin_vals (balF_ok h hS) hs, valsL_eq h hs]
    refine litV_comp (valA_01 _ (leafV_01 _ _ _)) (valA_01 _ (leafV_01 _ _ _)) (k := firstAndL n + S.1.length) (by omega) (r.b.tok _ (by rw [r.len]; omega)) ?_
    exact bal_sim h (fun i hi hK m hm => need_kids h hi hK hm) (leafV_len h hs inp) (leafV_01 _ _ _) (leafV_0 _ _ _) _ (Nat.le_refl _) S hS _ (by omega) (.inr (need_root h hx))
theorem balance_run {n : NetL} (h : NetOkP n) (ins : List Int) : runL (balanceL n) ins = runL n ins := by
  unfold balanceL
  rw [bal_run (hashL_ok h), hash_run h]

/-! ### levels -/
def wt (V : List Int) (l : Int) : Nat := 2 ^ (nl V l).toNat
def wsum (V : List Int) (L : List Int) : Nat := (L.map (wt V)).sum
theorem wsum_nil (V : List Int) : wsum V [] = 0 := rfl
theorem wsum_cons (V : List Int) (x : Int) (L : List Int) : wsum V (x :: L) = wt V x + wsum V L := by unfold wsum; rw [List.map_cons, List.sum_cons]
theorem wsum_app (V : List Int) (L M : List Int) : wsum V (L ++ M) = wsum V L + wsum V M := by unfold wsum; rw [List.map_append, List.sum_append]
theorem wt_pos (V : List Int) (l : Int) : 0 < wt V l := Nat.pow_pos (by decide)
theorem wsum_insT (V L : List Int) (x : Int) : wsum V (insT V L x) = wsum V L + wt V x := by
  unfold insT
  rw [wsum_app, wsum_cons]
  have := congrArg (wsum V) (List.takeWhile_append_dropWhile (p := fun a => decide (ltB V a x)) (l := L))
  rw [wsum_app] at this
  omega
theorem wsum_insB (V L : List Int) (x : Int) : wsum V (insB V L x) ≤ wsum V L + wt V x := by
  unfold insB
  split
  · omega
  · rw [wsum_insT]; exact Nat.le_refl _
theorem wsum_insAll (V : List Int) : ∀ (xs L : List Int), wsum V (insAll V L xs) ≤ wsum V L + wsum V xs
  | [], L => by simp [insAll]
  | x :: xs, L => by
    have h1 := wsum_insAll V xs (insB V L x)
    have h2 := wsum_insB V L x
    rw [wsum_cons]
    show wsum V (insAll V (insB V L x) xs) ≤ _
    omega
theorem wsum_perm {V L M : List Int} (h : L.Perm M) : wsum V L = wsum V M := by
  induction h with
  | nil => rfl
  | cons x _ ih => rw [wsum_cons, wsum_cons, ih]
  | swap x y l => rw [wsum_cons, wsum_cons, wsum_cons, wsum_cons]; omega
  | trans _ _ ih1 ih2 => rw [ih1, ih2]
theorem wsum_sub {V : List Int} : ∀ {C D : List Int}, C.Nodup → (∀ z, z ∈ C → z ∈ D) → wsum V C ≤ wsum V D
  | [], _, _, _ => Nat.zero_le _
  | x :: C, D, hn, hs => by
    obtain ⟨h1, h2⟩ := List.nodup_cons.1 hn
    have hp := wsum_perm (V := V) (List.perm_cons_erase (hs x List.mem_cons_self))
    rw [wsum_cons] at hp
    have ih := wsum_sub (V := V) (C := C) (D := D.erase x) h2 fun z hz => by
      have hne : z ≠ x := fun e => h1 (e ▸ hz)
      exact (List.mem_erase_of_ne hne).2 (hs z (List.mem_cons_of_mem _ hz))
    rw [wsum_cons]
    omega
theorem wsum_map {V V' : List Int} {g : Int → Int} : ∀ {C : List Int}, (∀ z, z ∈ C → wt V (g z) ≤ wt V' z) → wsum V (C.map g) ≤ wsum V' C
  | [], _ => Nat.le_refl _
  | x :: C, h => by
    have ih := wsum_map (V := V) (V' := V') (g := g) (C := C) fun z hz => h z (List.mem_cons_of_mem _ hz)
    have := h x List.mem_cons_self
    rw [List.map_cons, wsum_cons, wsum_cons]
    omega
theorem wsum_congr {V V' : List Int} {C : List Int} (h : ∀ z, z ∈ C → nl V z = nl V' z) : wsum V C = wsum V' C := by
  exact congrArg List.sum (List.map_congr_left fun z hz => by unfold wt; rw [h z hz])
theorem asc_nodup {L : List Int} (h : Asc L) : L.Nodup := by
  unfold Asc at h
  exact h.imp fun hab e => by omega
/-- the leaves weigh no more than the literal -/
theorem conj_wt {n : NetL} (h : NetOkP n) {U : List Int} (hU : U.length = fst_ n) (hU0 : AllN U) : ∀ (m : Nat) (l : Int), litP l (nodesL n) → (l / 2).toNat ≤ m → wsum (levA U n.ands) (conjG n l) ≤ wt (levA U n.ands) l := by
  have f2 := h.nums.f2
  have hc := h.count
  have leaf : ∀ l, litP l (nodesL n) → ¬ AL n l → wsum (levA U n.ands) (conjG n l) ≤ wt (levA U n.ands) l := fun l hl hna => by
    have := wsum_sub (V := levA U n.ands) (C := conjG n l) (D := [l]) (asc_nodup (conjG_asc n l)) fun z hz => by
      rw [conjG_mem h hl] at hz
      rw [hz.eq hna]
      exact List.mem_singleton.2 rfl
    rw [wsum_cons, wsum_nil] at this
    omega
  intro m
  induction m with
  | zero =>
    intro l hl hm
    refine leaf l hl ?_
    rintro ⟨i, hi, e⟩
    unfold litP at hl
    omega
  | succ m ih =>
    intro l hl hm
    by_cases ha : AL n l
    · obtain ⟨i, hi, e⟩ := ha
      obtain ⟨h1, h2⟩ := h.andP hi
      have q1 := h1.mono (k' := nodesL n) (by omega)
      have q2 := h2.mono (k' := nodesL n) (by omega)
      have i1 := ih _ q1 (by unfold litP at h1 hl; omega)
      have i2 := ih _ q2 (by unfold litP at h2 hl; omega)
      have hat := levA_at (U := U) (A := n.ands) (f := firstAndL n) (by omega) (by omega) hi ⟨h1, h2⟩
      have g1 : 0 ≤ nl (levA U n.ands) (n.ands.getD i default).1 := levA_nn n.ands hU0 _
      have g2 : 0 ≤ nl (levA U n.ands) (n.ands.getD i default).2 := levA_nn n.ands hU0 _
      have hsub := wsum_sub (V := levA U n.ands) (C := conjG n l) (D := conjG n (n.ands.getD i default).1 ++ conjG n (n.ands.getD i default).2) (asc_nodup (conjG_asc n l)) fun z hz => by
        rw [conjG_mem h hl, e] at hz
        rw [List.mem_append, conjG_mem h q1, conjG_mem h q2]
        exact hz.and_ hi
      rw [wsum_app] at hsub
      have hw : wt (levA U n.ands) l = 2 ^ (1 + max (nl (levA U n.ands) (n.ands.getD i default).1) (nl (levA U n.ands) (n.ands.getD i default).2)).toNat := by
        unfold wt
        rw [e]
        unfold nl at hat ⊢
        rw [show (2 * ((fst_ n + i : Nat) : Int) / 2).toNat = (firstAndL n).toNat + i by omega, hat]
      have hd : (1 + max (nl (levA U n.ands) (n.ands.getD i default).1) (nl (levA U n.ands) (n.ands.getD i default).2)).toNat = (max (nl (levA U n.ands) (n.ands.getD i default).1) (nl (levA U n.ands) (n.ands.getD i default).2)).toNat + 1 := by omega
      rw [hw, hd, Nat.pow_succ]
      have w1 : wt (levA U n.ands) (n.ands.getD i default).1 ≤ 2 ^ (max (nl (levA U n.ands) (n.ands.getD i default).1) (nl (levA U n.ands) (n.ands.getD i default).2)).toNat := Nat.pow_le_pow_right (by decide) (by omega)
      have w2 : wt (levA U n.ands) (n.ands.getD i default).2 ≤ 2 ^ (max (nl (levA U n.ands) (n.ands.getD i default).1) (nl (levA U n.ands) (n.ands.getD i default).2)).toNat := Nat.pow_le_pow_right (by decide) (by omega)
      omega
    · exact leaf l hl ha
theorem dvd_wsum {V : List Int} {b : Nat} : ∀ {L : List Int}, (∀ z, z ∈ L → b ≤ (nl V z).toNat) → 2 ^ b ∣ wsum V L
  | [], _ => ⟨0, rfl⟩
  | x :: L, h => by
    rw [wsum_cons]
    exact Nat.dvd_add (Nat.pow_dvd_pow 2 (h x List.mem_cons_self)) (dvd_wsum fun z hz => h z (List.mem_cons_of_mem _ hz))
theorem round_up {a b T r : Nat} (ha : 0 < a) (hd : 2 ^ b ∣ r) (h : a + (2 ^ b + r) ≤ 2 ^ T) : r + 2 ^ (b + 1) ≤ 2 ^ T := by
  have hb : b ≤ T := by
    refine Classical.byContradiction fun hh => ?_
    have := Nat.pow_lt_pow_right (a := 2) (by decide) (show T < b by omega)
    omega
  have hp : 0 < 2 ^ b := Nat.pow_pos (by decide)
  obtain ⟨q, rfl⟩ := hd
  obtain ⟨t, ht⟩ : 2 ^ b ∣ 2 ^ T := Nat.pow_dvd_pow 2 hb
  rw [ht] at h ⊢
  have h2 : 1 + q < t := by
    refine Nat.lt_of_mul_lt_mul_left (a := 2 ^ b) ?_
    rw [Nat.mul_add, Nat.mul_one]
    omega
  have h3 := Nat.mul_le_mul_left (2 ^ b) (show 2 + q ≤ t by omega)
  rw [Nat.mul_add] at h3
  rw [Nat.pow_succ]
  omega
theorem red_lev {f : Int} {U : List Int} (hU : U.length = f.toNat) (hU0 : AllN U) (hz : U.getD 0 default = 0) {A : List (Int × Int)} {L : List Int} (hR : RedS f U A L) {t : Nat} (ht : wsum (levA U A) L ≤ 2 ^ t) {T : List (Int × Int) × Int} (hT : balRed f U A L = some T) : nl (levA U T.1) T.2 ≤ t := by
  obtain ⟨y, h1, h2, _⟩ := red_ind hU (fun A L => wsum (levA U A) L ≤ 2 ^ t) (fun A L hR hP h1 h0 => by
    obtain ⟨l1, l2⟩ := hR.two h1
    have hlev := addC_lev hU hU0 hz hR.b l1 l2 (by omega)
    obtain ⟨B, hB⟩ := addC_pre (f := f) (A := A) (a := L.getD 0 default) (b := L.getD 1 default)
    have f1 := hR.b.f1
    have hL : L = L.getD 0 default :: L.getD 1 default :: L.drop 2 := by
      match L, h1 with
      | a :: b :: R, _ => rfl
    have hN := levA_nn A hU0
    have g0 : 0 ≤ nl (levA U A) (L.getD 0 default) := hN _
    have g1 : 0 ≤ nl (levA U A) (L.getD 1 default) := hN _
    have hs := hR.s
    rw [hL] at hs
    unfold SrtB at hs
    obtain ⟨s1, s2⟩ := List.pairwise_cons.1 hs
    obtain ⟨s3, s4⟩ := List.pairwise_cons.1 s2
    have s01 := s1 _ List.mem_cons_self
    have hle01 : nl (levA U A) (L.getD 0 default) ≤ nl (levA U A) (L.getD 1 default) := by unfold ltB at s01; omega
    have hmax : 1 + max (nl (levA U A) (L.getD 0 default)) (nl (levA U A) (L.getD 1 default)) = 1 + nl (levA U A) (L.getD 1 default) := by omega
    rw [hmax] at hlev
    have hd : 2 ^ (nl (levA U A) (L.getD 1 default)).toNat ∣ wsum (levA U A) (L.drop 2) := dvd_wsum fun z hz => by
      have := s3 z hz
      unfold ltB at this
      omega
    have hP2 := hP
    rw [hL, wsum_cons, wsum_cons] at hP2
    have hr := round_up (wt_pos (levA U A) (L.getD 0 default)) hd hP2
    have hc : wsum (levA U (addC f A (L.getD 0 default) (L.getD 1 default)).1) (L.drop 2) = wsum (levA U A) (L.drop 2) := wsum_congr fun z hz => by
      rw [hB]
      exact nl_grow hU f1.1 (hR.b.mem (List.mem_of_mem_drop hz))
    have hi := wsum_insB (levA U (addC f A (L.getD 0 default) (L.getD 1 default)).1) (L.drop 2) (addC f A (L.getD 0 default) (L.getD 1 default)).2
    rw [hc] at hi
    have hw : wt (levA U (addC f A (L.getD 0 default) (L.getD 1 default)).1) (addC f A (L.getD 0 default) (L.getD 1 default)).2 ≤ 2 ^ ((nl (levA U A) (L.getD 1 default)).toNat + 1) := Nat.pow_le_pow_right (by decide) (by omega)
    omega) L.length (Nat.le_refl _) hR ht hT
  rw [wsum_cons, wsum_nil, Nat.add_zero] at h1
  rw [h2]
  have hle : (nl (levA U T.1) y).toNat ≤ t := (Nat.pow_le_pow_iff_right (by decide : 1 < 2)).1 h1
  omega
theorem bal_lev {n : NetL} (h : NetOkP n) {K : List Bool} (hK : ∀ i, i < n.ands.length → K.getD (fst_ n + i) default = true → ∀ m, m ∈ conjL n (fst_ n + i) → K.getD (m / 2).toNat default = true) :
    ∀ i, i ≤ n.ands.length → ∀ S, balTo n K i = some S → ∀ k, k < fst_ n + i → (k < fst_ n ∨ K.getD k default = true) → nl (levA (List.replicate (fst_ n) 0) S.1) (S.2.getD k default) ≤ (levA (List.replicate (fst_ n) 0) n.ands).getD k default
  | 0, _, S, hS, k, hk, _ => by
    simp only [balTo, Option.some.injEq] at hS
    subst hS
    show (List.replicate (fst_ n) (0 : Int)).getD (((leafL n).getD k default) / 2).toNat default ≤ _
    rw [rep_get, levA_low (by simp; omega), rep_get]
    exact Int.le_refl _
  | i + 1, hi, S, hS, k, hk, hkk => by
    have f2 := h.nums.f2
    have n1 := h.nums.n1
    have n2 := h.nums.n2
    have hc := h.count
    cases hp : balTo n K i with
    | none => rw [balTo, hp] at hS; cases hS
    | some P =>
      have ih := bal_lev h hK i (by omega) P hp
      have r := balTo_ok h i (by omega) P hp
      have f1 := r.b.f1
      have al := r.b.alen
      by_cases hKi : K.getD (fst_ n + i) default = true
      · cases hR : balRed (firstAndL n) (List.replicate (fst_ n) 0) P.1 (balLeaves n P (fst_ n + i)) with
        | none => rw [balTo_fail hp hKi hR] at hS; cases hS
        | some T =>
          rw [balTo_yes hp hKi hR, Option.some.injEq] at hS
          subst hS
          dsimp only
          obtain ⟨⟨B, hB⟩, hb⟩ := red_ok (fst_rep h) (r.leaves h (by omega)) hR
          by_cases hk2 : k < P.2.length
          · rw [snoc_lt hk2, hB, nl_grow (fst_rep h) f1.1 (r.b.tok k hk2)]
            rw [r.len] at hk2
            exact ih k hk2 hkk
          · have hl := r.len
            obtain rfl : k = fst_ n + i := by omega
            rw [← hl, snoc_eq, hl]
            have hlit : litP (2 * ((fst_ n + i : Nat) : Int)) (nodesL n) := by unfold litP; omega
            have hge : 0 ≤ (levA (List.replicate (fst_ n) 0) n.ands).getD (fst_ n + i) default := levA_nn _ (rep_nn _) _
            have e : nl (levA (List.replicate (fst_ n) 0) n.ands) (2 * ((fst_ n + i : Nat) : Int)) = (levA (List.replicate (fst_ n) 0) n.ands).getD (fst_ n + i) default := by
              unfold nl
              rw [show (2 * ((fst_ n + i : Nat) : Int) / 2).toNat = fst_ n + i by omega]
            have hlev := red_lev (t := ((levA (List.replicate (fst_ n) 0) n.ands).getD (fst_ n + i) default).toNat) (fst_rep h) (rep_nn _) rep_get (r.leaves h (by omega)) (by
              refine Nat.le_trans (wsum_insAll _ _ _) ?_
              rw [wsum_nil, Nat.zero_add]
              refine Nat.le_trans (wsum_map (V' := levA (List.replicate (fst_ n) 0) n.ands) (g := litV P.2) fun m hm => ?_) ?_
              · have hlt := (conjL_lit h (by omega) hm).2
                have hq := ih _ hlt (.inr (hK i (by omega) hKi m hm))
                unfold wt
                refine Nat.pow_le_pow_right (by decide) ?_
                rw [nl_comp (k := firstAndL n + P.1.length) (by omega) (r.b.tok _ (by rw [r.len]; exact hlt))]
                have hr : nl (levA (List.replicate (fst_ n) 0) n.ands) m = (levA (List.replicate (fst_ n) 0) n.ands).getD (m / 2).toNat default := rfl
                omega
              · have := conj_wt h (U := List.replicate (fst_ n) 0) (by simp) (rep_nn _) (fst_ n + i) _ hlit (by omega)
                unfold wt at this
                rw [e] at this
                exact this) hR
            omega
      · rw [balTo_skip hp hKi, Option.some.injEq] at hS
        subst hS
        dsimp only
        by_cases hk2 : k < P.2.length
        · rw [snoc_lt hk2]
          rw [r.len] at hk2
          exact ih k hk2 hkk
        · have hl := r.len
          obtain rfl : k = fst_ n + i := by omega
          exact absurd hkk (fun hh => hh.elim (by omega) hKi)
theorem bal_depth {n : NetL} (h : NetOkP n) : depthL (balL n) ≤ depthL n := by
  cases hS : balTo n (needL n) n.ands.length with
  | none => rw [balL_none (Nat.le_refl _) hS]; exact Int.le_refl _
  | some S =>
    rw [balL_some hS]
    refine Int.le_trans (sweep_depth (balF_ok h hS)) ?_
    have r := balTo_ok h _ (Nat.le_refl _) S hS
    have f1 := r.b.f1
    have al := r.b.alen
    have n1 := h.nums.n1
    refine fin_depth h (balF_ok h hS) fun x hx => ?_
    have hlt := (h.root x hx).nat h.nums
    rw [nl_comp (k := firstAndL n + S.1.length) (by omega) (r.b.tok _ (by rw [r.len]; omega))]
    exact bal_lev h (fun i hi hK m hm => need_kids h hi hK hm) _ (Nat.le_refl _) S hS _ (by omega) (.inr (need_root h hx))
theorem balance_depth {n : NetL} (h : NetOkP n) : depthL (balanceL n) ≤ depthL n := Int.le_trans (bal_depth (hashL_ok h)) (hash_depth h)
end Go.Xw
