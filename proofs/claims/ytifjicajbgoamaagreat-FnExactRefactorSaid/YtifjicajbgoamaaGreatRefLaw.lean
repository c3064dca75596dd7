/- Texts that belong together; each under its stated conditions. -/
import Derived.Test.YtifjicajbgoamaaGreatEnumLaw
import Derived.Test.YtifjicajbgoamaaGreatTabLaw
import Derived.Test.YtifjicajbgoamaaGreatConjLaw
import Derived.Test.YtifjicajbgoamaaGreatMapLaw
import Derived.Test.YtifjicajbgoamaaGreatSimHash
import Derived.Test.YtifjicajbgoamaaGreatSimRf
set_option linter.all false
section
/- The cuts that are enumerated are cuts; plain data, no condition but the stated ones. -/
namespace Go.Xw
open Go.Proofs
set_option maxHeartbeats 1000000
theorem Opn.first {n : NetL} (hn : Nums n) {cut : List Int} {r j : Nat} (h : Opn n cut r j) : j = r ∨ ∃ i, i < n.ands.length ∧ r = fst_ n + i ∧ (r : Int) ∉ cut ∧ (Opn n cut (kA n i) j ∨ Opn n cut (kB n i) j) := by
  induction h with
  | refl => exact .inl rfl
  | @left i hi ho hc ih =>
    right
    rcases ih with h | ⟨q, q1, q2, q3, q4⟩
    · exact ⟨i, hi, h.symm, by rw [← h]; exact hc, .inl .refl⟩
    · exact ⟨q, q1, q2, q3, q4.imp (fun h => .left hi h hc) (fun h => .left hi h hc)⟩
  | @right i hi ho hc ih =>
    right
    rcases ih with h | ⟨q, q1, q2, q3, q4⟩
    · exact ⟨i, hi, h.symm, by rw [← h]; exact hc, .inr .refl⟩
    · exact ⟨q, q1, q2, q3, q4.imp (fun h => .right hi h hc) (fun h => .right hi h hc)⟩
theorem Opn.less {n : NetL} {u x : List Int} (hs : ∀ z, z ∈ x → z ∈ u) {r j : Nat} (h : Opn n u r j) : Opn n x r j := by
  induction h with
  | refl => exact .refl
  | left hi _ hc ih => exact .left hi ih fun h => hc (hs _ h)
  | right hi _ hc ih => exact .right hi ih fun h => hc (hs _ h)
theorem Esc.less {n : NetL} {u x : List Int} (hs : ∀ z, z ∈ x → z ∈ u) {r : Nat} (h : Esc n u r) : Esc n x r := by
  obtain ⟨k, h1, h2, h3⟩ := h
  exact ⟨k, h1.less hs, fun h => h2 (hs _ h), h3⟩
theorem esc_own {n : NetL} (hn : Nums n) {k : Nat} : ¬ Esc n [(k : Int)] k := by
  rintro ⟨j, h1, h2, h3, h4⟩
  rcases h1.first hn with h | ⟨i, _, _, h, _⟩
  · exact h2 (by rw [h]; simp)
  · exact h (by simp)
theorem esc_zero {n : NetL} (hn : Nums n) {cut : List Int} : ¬ Esc n cut 0 := by
  rintro ⟨j, h1, h2, h3, h4⟩
  have := h1.le hn
  omega
theorem asc_one (z : Int) : Asc [z] := asc_get.1 fun i h1 h2 => by simp at h2; omega
theorem mrg_mem {xs ys : List Int} {z : Int} : z ∈ mrg xs ys ↔ z ∈ xs ∨ z ∈ ys := mem_mrg _ (Nat.le_refl _)
theorem joinL_mem {a b : List (List Int)} {u : List Int} (h : u ∈ joinL a b) : ∃ x y, x ∈ a ∧ y ∈ b ∧ mergeOk x y = true ∧ u = mrg x y :=
  mem_joinL (P := fun u => ∃ x y, x ∈ a ∧ y ∈ b ∧ mergeOk x y = true ∧ u = mrg x y) (fun x hx y hy hm => ⟨x, y, hx, hy, hm, rfl⟩) u h
/-- what holds of each enumerated cut of node k -/
structure CutK (n : NetL) (k : Nat) (u : List Int) : Prop where
  good : u.length ≤ 4 ∧ Asc u
  cone : ∀ c, c ∈ u → ∃ j : Nat, c = j ∧ InCone n k j
  esc : ¬ Esc n u k
theorem cuts_K {n : NetL} (h : NetOkP n) : ∀ m k, k < m → k < nds n → ∀ u, u ∈ cutsOf n k → CutK n k u
  | 0, _, hm, _ => by omega
  | m + 1, k, hm, hk => by
    have hn := h.nums
    intro u hu
    by_cases h0 : k = 0
    · subst h0
      rw [cutsOf_0, List.mem_singleton] at hu
      subst hu
      exact ⟨⟨by simp, asc_get.1 fun i h1 h2 => by simp at h2⟩, fun c hc => (by cases hc), esc_zero hn⟩
    · by_cases hf : k < fst_ n
      · rw [cutsOf_leaf (by omega) hf, List.mem_singleton] at hu
        subst hu
        exact ⟨⟨by simp, asc_one _⟩, fun c hc => ⟨k, List.mem_singleton.1 hc, .refl _⟩, esc_own hn⟩
      · obtain ⟨i, rfl⟩ : ∃ i, k = fst_ n + i := ⟨k - fst_ n, by omega⟩
        have n1 := hn.n1
        have hi : i < n.ands.length := by omega
        rw [cutsOf_and h hi, List.mem_append] at hu
        rcases hu with hu | hu
        · have ka := hn.ka i hi
          have kb := hn.kb i hi
          have hj := (selL_mem hu).1
          have hg := joinL_good _ _ u hj
          obtain ⟨x, y, hx, hy, _, rfl⟩ := joinL_mem hj
          have ia := cuts_K h m (kA n i) (by omega) (by omega) x hx
          have ib := cuts_K h m (kB n i) (by omega) (by omega) y hy
          refine ⟨⟨hg.1, (cutB_Asc.1 hg.2).1⟩, fun c hc => ?_, fun he => ?_⟩
          · rcases mrg_mem.1 hc with hc | hc
            · obtain ⟨j, j1, j2⟩ := ia.cone c hc
              exact ⟨j, j1, .left hi j2⟩
            · obtain ⟨j, j1, j2⟩ := ib.cone c hc
              exact ⟨j, j1, .right hi j2⟩
          · obtain ⟨j, j1, j2, j3, j4⟩ := he
            rcases j1.first hn with hh | ⟨q, _, q2, _, q4⟩
            · omega
            · obtain rfl : q = i := by omega
              rcases q4 with q4 | q4
              · exact ia.esc (Esc.less (u := mrg x y) (fun z hz => mrg_mem.2 (.inl hz)) ⟨j, q4, j2, j3, j4⟩)
              · exact ib.esc (Esc.less (u := mrg x y) (fun z hz => mrg_mem.2 (.inr hz)) ⟨j, q4, j2, j3, j4⟩)
        · rw [List.mem_singleton] at hu
          subst hu
          exact ⟨⟨by simp, asc_one _⟩, fun c hc => ⟨fst_ n + i, List.mem_singleton.1 hc, .refl _⟩, esc_own hn⟩
theorem coneL_in {n : NetL} {k : Nat} {z : Int} : z ∈ coneL n k ↔ ∃ j : Nat, j < nds n ∧ z = j ∧ InCone n k j := by
  unfold coneL markedL
  rw [marked_mem, listB_len]
  constructor
  · rintro ⟨l, h1, h2, h3⟩; exact ⟨l, h1, h2, (listB_get h1).1 h3⟩
  · rintro ⟨l, h1, h2, h3⟩; exact ⟨l, h1, h2, (listB_get h1).2 h3⟩
theorem cuts_P {n : NetL} (h : NetOkP n) {k : Nat} (hk : k < nds n) {u : List Int} (hu : u ∈ cutsOf n k) : cutP n k u := by
  have c := cuts_K h (k + 1) k (by omega) hk u hu
  refine ⟨c.good, fun z hz => ?_, c.esc⟩
  obtain ⟨j, rfl, hj⟩ := c.cone z hz
  exact coneL_in.2 ⟨j, by have := hj.le h.nums; omega, rfl, hj⟩
/-- but for the last one they do not contain the node -/
theorem cuts_not {n : NetL} (h : NetOkP n) {i : Nat} (hi : i < n.ands.length) {u : List Int} (hu : u ∈ selL (cutsOf n (kA n i)) (cutsOf n (kB n i))) : ((fst_ n + i : Nat) : Int) ∉ u := fun hm => by
  have hn := h.nums
  have n1 := hn.n1
  have ka := hn.ka i hi
  have kb := hn.kb i hi
  obtain ⟨x, y, hx, hy, _, rfl⟩ := joinL_mem (selL_mem hu).1
  rcases mrg_mem.1 hm with hm | hm
  · obtain ⟨j, j1, j2⟩ := (cuts_K h _ (kA n i) (Nat.lt_succ_self _) (by omega) x hx).cone _ hm
    have := j2.le hn
    omega
  · obtain ⟨j, j1, j2⟩ := (cuts_K h _ (kB n i) (Nat.lt_succ_self _) (by omega) y hy).cone _ hm
    have := j2.le hn
    omega
end Go.Xw
end
section
/- Balancing of conjunctions, as plain data; no condition. -/
namespace Go.Xw
open Go.Proofs
set_option maxHeartbeats 1000000

/-! ### the order of literals by level -/
def ltB (V : List Int) (a x : Int) : Prop := nl V a < nl V x ∨ (nl V a = nl V x ∧ a < x)
instance (V : List Int) (a x : Int) : Decidable (ltB V a x) := by unfold ltB; infer_instance
def insT (V L : List Int) (x : Int) : List Int := L.takeWhile (fun a => decide (ltB V a x)) ++ x :: L.dropWhile (fun a => decide (ltB V a x))
def insB (V L : List Int) (x : Int) : List Int := if x ∈ L then L else insT V L x
def SrtB (V L : List Int) : Prop := L.Pairwise (ltB V)
theorem ltB_trans {V : List Int} {a b c : Int} (h : ltB V a b) (k : ltB V b c) : ltB V a c := by unfold ltB at *; omega
theorem ltB_tot {V : List Int} {a b : Int} (h : ¬ ltB V a b) (hne : a ≠ b) : ltB V b a := by unfold ltB at *; omega
theorem mem_insT {V L : List Int} {x y : Int} : y ∈ insT V L x ↔ y = x ∨ y ∈ L := by
  unfold insT
  rw [List.mem_append, List.mem_cons]
  constructor
  · rintro (h | h | h)
    · exact .inr ((List.takeWhile_sublist _).subset h)
    · exact .inl h
    · exact .inr ((List.dropWhile_sublist _).subset h)
  · rintro (h | h)
    · exact .inr (.inl h)
    · rw [← List.takeWhile_append_dropWhile (p := fun a => decide (ltB V a x)) (l := L), List.mem_append] at h
      rcases h with h | h
      · exact .inl h
      · exact .inr (.inr h)
theorem mem_insB {V L : List Int} {x y : Int} : y ∈ insB V L x ↔ y = x ∨ y ∈ L := by
  unfold insB
  split
  · rename_i h
    constructor
    · exact .inr
    · rintro (rfl | h2)
      · exact h
      · exact h2
  · exact mem_insT
theorem tw_all {p : Int → Bool} {y : Int} : ∀ {L : List Int}, y ∈ L.takeWhile p → p y = true
  | [], h => by simp at h
  | a :: L, h => by
    rw [List.takeWhile_cons] at h
    split at h
    · rename_i ha
      rcases List.mem_cons.1 h with rfl | h2
      · exact ha
      · exact tw_all h2
    · simp at h
theorem srt_tail {V : List Int} {x : Int} : ∀ {L : List Int}, SrtB V L → x ∉ L → ∀ y, y ∈ L.dropWhile (fun a => decide (ltB V a x)) → ltB V x y
  | [], _, _, y, h => by simp at h
  | a :: L, hs, hx, y, h => by
    obtain ⟨h1, h2⟩ := List.pairwise_cons.1 hs
    rw [List.dropWhile_cons] at h
    split at h
    · exact srt_tail h2 (fun hh => hx (List.mem_cons_of_mem _ hh)) y h
    · rename_i ha
      have ha' : ltB V x a := ltB_tot (fun hh => ha (by simpa using hh)) (fun e => hx (by rw [e]; exact List.mem_cons_self))
      rcases List.mem_cons.1 h with rfl | h3
      · exact ha'
      · exact ltB_trans ha' (h1 _ h3)
theorem srt_insB {V L : List Int} {x : Int} (h : SrtB V L) : SrtB V (insB V L x) := by
  unfold insB
  split
  · exact h
  · rename_i hx
    unfold insT
    have h3 := srt_tail h hx
    have hs := h
    unfold SrtB at hs ⊢
    rw [← List.takeWhile_append_dropWhile (p := fun a => decide (ltB V a x)) (l := L)] at hs
    obtain ⟨p1, p2, p3⟩ := List.pairwise_append.1 hs
    refine List.pairwise_append.2 ⟨p1, List.pairwise_cons.2 ⟨h3, p2⟩, fun a ha b hb => ?_⟩
    rcases List.mem_cons.1 hb with rfl | hb
    · have := tw_all ha
      simpa using this
    · exact p3 a ha b hb

/-! how the program finds the place, and how the reference lays the list anew -/
/-! ### reduction of a list to one literal -/
/-! what holds of a list of literals over the AND nodes A -/
theorem Bld.sub {f : Int} {A : List (Int × Int)} {L L' : List Int} (h : Bld f A L) (hs : ∀ x, x ∈ L' → x ∈ L) : Bld f A L' :=
  ⟨h.f1, h.alen, h.aok, (mem_iff_getD (p := fun x => litP x (f + A.length))).1 fun x hx => (mem_iff_getD (p := fun x => litP x (f + A.length))).2 h.tok x (hs x hx)⟩
theorem Bld.mem {f : Int} {A : List (Int × Int)} {L : List Int} (h : Bld f A L) {x : Int} (hx : x ∈ L) : litP x (f + A.length) := (mem_iff_getD (p := fun x => litP x (f + A.length))).2 h.tok x hx
theorem Bld.ins {f : Int} {A : List (Int × Int)} {V L : List Int} {x : Int} (h : Bld f A L) (hx : litP x (f + A.length)) : Bld f A (insB V L x) :=
  ⟨h.f1, h.alen, h.aok, (mem_iff_getD (p := fun x => litP x (f + A.length))).1 fun y hy => by
    rcases mem_insB.1 hy with rfl | hy
    · exact hx
    · exact h.mem hy⟩
/-- the step of a reduction -/
structure RedS (f : Int) (U : List Int) (A : List (Int × Int)) (L : List Int) : Prop where
  b : Bld f A L
  s : SrtB (levA U A) L
  ne : 0 < L.length
/-- several literals put into the list -/
def insAll (V L xs : List Int) : List Int := xs.foldl (insB V) L
theorem mem_insAll {V : List Int} {y : Int} : ∀ {xs L : List Int}, y ∈ insAll V L xs ↔ y ∈ L ∨ y ∈ xs
  | [], L => by simp [insAll]
  | x :: xs, L => by
    show y ∈ insAll V (insB V L x) xs ↔ _
    rw [mem_insAll, mem_insB, List.mem_cons]
    constructor
    · rintro ((h | h) | h)
      · exact .inr (.inl h)
      · exact .inl h
      · exact .inr (.inr h)
    · rintro (h | h | h)
      · exact .inl (.inr h)
      · exact .inl (.inl h)
      · exact .inr h
theorem srt_insAll {V : List Int} : ∀ {xs L : List Int}, SrtB V L → SrtB V (insAll V L xs)
  | [], _, h => h
  | x :: xs, L, h => srt_insAll (xs := xs) (srt_insB h)
/-! ### which nodes are needed -/
/-! ### leaves of conjunctions -/
theorem CLf.le {n : NetL} (h : NetOkP n) {l m : Int} (hc : CLf n l m) : (m / 2 ≤ l / 2 ∧ (litP l (nodesL n) → litP m (nodesL n))) ∧ (AL n l → m / 2 < l / 2) := by
  have hn := h.nums
  induction hc with
  | leaf hl => exact ⟨⟨Int.le_refl _, id⟩, fun ha => absurd ha hl⟩
  | @left i m hi _ ih =>
    have := (h.andP hi).1
    have f2 := hn.f2
    have hc := h.count
    have ht := this.mono (k' := nodesL n) (by omega)
    unfold litP at *
    obtain ⟨⟨a, b⟩, _⟩ := ih
    have b := b ht
    exact ⟨⟨by omega, fun _ => b⟩, fun _ => by omega⟩
  | @right i m hi _ ih =>
    have := (h.andP hi).2
    have f2 := hn.f2
    have hc := h.count
    have ht := this.mono (k' := nodesL n) (by omega)
    unfold litP at *
    obtain ⟨⟨a, b⟩, _⟩ := ih
    have b := b ht
    exact ⟨⟨by omega, fun _ => b⟩, fun _ => by omega⟩
/-- the leaves of a literal as a list -/
noncomputable def conjG (n : NetL) (l : Int) : List Int := markedL (listB (2 * nds n) fun z => CLf n l (z : Int))
theorem conjG_mem {n : NetL} (h : NetOkP n) {l z : Int} (hl : litP l (nodesL n)) : z ∈ conjG n l ↔ CLf n l z := by
  have n2 := h.nums.n2
  unfold conjG markedL
  rw [marked_mem, listB_len]
  constructor
  · rintro ⟨k, h1, h2, h3⟩; rw [h2]; exact (listB_get h1).1 h3
  · intro hz
    have hz2 := (hz.le h).1.2 hl
    unfold litP at hz2
    have hk : z.toNat < 2 * nds n := by omega
    refine ⟨z.toNat, hk, by omega, (listB_get hk).2 ?_⟩
    rwa [show ((z.toNat : Nat) : Int) = z by omega]
theorem conjL_G {n : NetL} (h : NetOkP n) {k : Nat} (hk : k < nds n) {z : Int} : z ∈ conjL n k ↔ CLf n (2 * (k : Int)) z := by
  have n2 := h.nums.n2
  exact conjG_mem h (l := 2 * (k : Int)) (by unfold litP; omega)
theorem conjL_lit {n : NetL} (h : NetOkP n) {i : Nat} (hi : i < n.ands.length) {z : Int} (hz : z ∈ conjL n (fst_ n + i)) : litP z (firstAndL n + i) ∧ (z / 2).toNat < fst_ n + i := by
  have n1 := h.nums.n1
  have n2 := h.nums.n2
  have f2 := h.nums.f2
  have hc := (conjL_G h (by omega)).1 hz
  have h1 := (hc.le h).1.2 (by unfold litP; omega)
  have h2 := (hc.le h).2 ⟨i, hi, rfl⟩
  unfold litP at *
  omega
theorem CLf.some {n : NetL} (h : NetOkP n) : ∀ (m : Nat) (l : Int), litP l (nodesL n) → (l / 2).toNat ≤ m → ∃ z, CLf n l z := by
  have f2 := h.nums.f2
  intro m
  induction m with
  | zero =>
    intro l hl hm
    refine ⟨l, .leaf ?_⟩
    rintro ⟨i, hi, e⟩
    have := h.count
    unfold litP at hl
    omega
  | succ m ih =>
    intro l hl hm
    by_cases ha : AL n l
    · obtain ⟨i, hi, e⟩ := ha
      have h1 := (h.andP hi).1
      have hc := h.count
      have h2 := h1.mono (k' := nodesL n) (by omega)
      obtain ⟨z, hz⟩ := ih _ h2 (by unfold litP at h1 hl; omega)
      exact ⟨z, by rw [e]; exact .left hi hz⟩
    · exact ⟨l, .leaf ha⟩
theorem conjL_pos {n : NetL} (h : NetOkP n) {k : Nat} (hk : k < nds n) : 0 < (conjL n k).length := by
  have n2 := h.nums.n2
  obtain ⟨z, hz⟩ := CLf.some h k (2 * (k : Int)) (by unfold litP; omega) (by omega)
  exact List.length_pos_of_mem ((conjL_G h hk).2 hz)

/-! ### what is needed is closed -/
/-! ### the balanced net -/
noncomputable def balLeaves (n : NetL) (S : List (Int × Int) × List Int) (k : Nat) : List Int := insAll (levA (List.replicate (fst_ n) 0) S.1) [] (mapL S.2 (conjL n k))
/-- what holds of a net that is being balanced -/
structure BalS (n : NetL) (S : List (Int × Int) × List Int) (i : Nat) : Prop where
  b : Bld (firstAndL n) S.1 S.2
  len : S.2.length = fst_ n + i
theorem BalS.leaves {n : NetL} (h : NetOkP n) {S : List (Int × Int) × List Int} {i : Nat} (hS : BalS n S i) (hi : i < n.ands.length) : RedS (firstAndL n) (List.replicate (fst_ n) 0) S.1 (balLeaves n S (fst_ n + i)) := by
  have n1 := h.nums.n1
  have hm : ∀ x, x ∈ mapL S.2 (conjL n (fst_ n + i)) → litP x (firstAndL n + S.1.length) := fun x hx => by
    obtain ⟨m, h1, rfl⟩ := List.mem_map.1 hx
    exact hS.b.lit (by rw [hS.len]; exact (conjL_lit h hi h1).2)
  refine ⟨⟨hS.b.f1, hS.b.alen, hS.b.aok, (mem_iff_getD (p := fun x => litP x (firstAndL n + S.1.length))).1 fun x hx => ?_⟩, srt_insAll List.Pairwise.nil, ?_⟩
  · unfold balLeaves at hx
    rw [mem_insAll] at hx
    rcases hx with hx | hx
    · simp at hx
    · exact hm x hx
  · have hp := conjL_pos h (k := fst_ n + i) (by omega)
    have : (mapL S.2 (conjL n (fst_ n + i))).getD 0 default ∈ balLeaves n S (fst_ n + i) := mem_insAll.2 (.inr (getD_mem (by rw [mapL_len]; exact hp)))
    exact List.length_pos_of_mem this
theorem BalS.skip {n : NetL} {S : List (Int × Int) × List Int} {i : Nat} (hS : BalS n S i) : BalS n (S.1, S.2 ++ [0]) (i + 1) := by
  have f1 := hS.b.f1
  exact ⟨hS.b.snoc (by unfold litP; omega), by simp [hS.len]; omega⟩
end Go.Xw
end
section
/- A balanced net has the runs of the net and is not deeper; plain data, no condition. -/
namespace Go.Xw
open Go.Proofs
set_option maxHeartbeats 1000000

/-! ### values -/
/-! ### levels -/
end Go.Xw
end
section
/- Refactoring and the whole optimization, as plain data; no condition but the stated ones. -/
namespace Go.Xw
open Go.Proofs
set_option maxHeartbeats 1000000
/-- a cut that makes the net smaller -/
def rfLess (h : NetL) (k : Int) (c : List Int) : Prop := (rfF h k c).2 = true ∧ (rfF h k c).1.ands.length < h.ands.length
noncomputable def pickL (h : NetL) (k : Int) : List (List Int) → NetL
  | [] => h
  | c :: cs => @ite _ (rfLess h k c) (Classical.propDecidable _) (rfF h k c).1 (pickL h k cs)
theorem pickL_yes {h : NetL} {k : Int} {c : List Int} {cs : List (List Int)} (hc : rfLess h k c) : pickL h k (c :: cs) = (rfF h k c).1 := by rw [pickL, if_pos hc]
theorem pickL_no {h : NetL} {k : Int} {c : List Int} {cs : List (List Int)} (hc : ¬ rfLess h k c) : pickL h k (c :: cs) = pickL h k cs := by rw [pickL, if_neg hc]
/-- the cuts but for the trivial one -/
noncomputable def cutsM (h : NetL) (i : Nat) : List (List Int) := (cutsOf h (fst_ h + i)).dropLast
noncomputable def refS (h : NetL) (i : Nat) : NetL := pickL h ((fst_ h + i : Nat) : Int) (cutsM h i)
noncomputable def refG : Nat → Nat → NetL → NetL
  | 0, _, h => h
  | f + 1, i, h => if i < h.ands.length then refG f (i + 1) (refS h i) else h
noncomputable def refL (n : NetL) : NetL := if 40 < (hashL n).ands.length then hashL n else refG ((hashL n).ands.length + 1) 0 (hashL n)
/-- a net in the place of h: valid, with its runs, and no more AND nodes -/
structure Like (h m : NetL) : Prop where
  ok : NetOkP m
  le : m.ands.length ≤ h.ands.length
  run : ∀ ins, runL m ins = runL h ins
theorem rfF_ok {n : NetL} (hok : NetOkP n) (k : Int) (cut : List Int) : NetOkP (rfF n k cut).1 := by
  by_cases h1 : rfP n k cut
  · cases h2 : rfN n (k.toNat - fst_ n) cut with
    | none => rw [rfF_no h1 h2]; exact hok
    | some m => rw [rfF_yes h1 h2]; exact rfN_ok hok (rfP_bel h1) h2
  · rw [rfF_bad h1]; exact hok
theorem pick_like {h : NetL} (hok : NetOkP h) (k : Int) : ∀ cs, Like h (pickL h k cs)
  | [] => ⟨hok, Nat.le_refl _, fun _ => rfl⟩
  | c :: cs => by
    by_cases hc : rfLess h k c
    · rw [pickL_yes hc]; exact ⟨rfF_ok hok k c, Nat.le_of_lt hc.2, fun ins => rfF_run ins⟩
    · rw [pickL_no hc]; exact pick_like hok k cs
theorem refG_like {h : NetL} (hok : NetOkP h) : ∀ f i, Like h (refG f i h)
  | 0, _ => ⟨hok, Nat.le_refl _, fun _ => rfl⟩
  | f + 1, i => by
    rw [refG]
    split
    · have h1 := pick_like hok ((fst_ h + i : Nat) : Int) (cutsM h i)
      have h2 := refG_like (h := refS h i) h1.ok f (i + 1)
      exact ⟨h2.ok, Nat.le_trans h2.le h1.le, fun ins => (h2.run ins).trans (h1.run ins)⟩
    · exact ⟨hok, Nat.le_refl _, fun _ => rfl⟩
theorem ref_like {n : NetL} (hok : NetOkP n) : NetOkP (refL n) ∧ (refL n).ands.length ≤ (hashL n).ands.length ∧ ∀ ins, runL (refL n) ins = runL n ins := by
  have hh := hashL_ok hok
  unfold refL
  split
  · exact ⟨hh, Nat.le_refl _, fun ins => hash_run hok ins⟩
  · have h := refG_like hh ((hashL n).ands.length + 1) 0
    exact ⟨h.ok, h.le, fun ins => (h.run ins).trans (hash_run hok ins)⟩
theorem refL_ok {n : NetL} (h : NetOkP n) : NetOkP (refL n) := (ref_like h).1
theorem sRef {n : NetL} (_ : NetS n) : NetS (ifNet n (refL n)) := ifNet_S refL_ok
/-- the enumerated cuts serve -/
theorem cuts_rfP {n : NetL} (h : NetOkP n) {i : Nat} (hi : i < n.ands.length) {u : List Int} (hu : u ∈ cutsM n i) : rfP n ((fst_ n + i : Nat) : Int) u := by
  have n1 := h.nums.n1
  have n2 := h.nums.n2
  have hu2 : u ∈ selL (cutsOf n (kA n i)) (cutsOf n (kB n i)) := by
    unfold cutsM at hu
    rw [cutsOf_and h hi, List.dropLast_concat] at hu
    exact hu
  have hm : u ∈ cutsOf n (fst_ n + i) := by rw [cutsOf_and h hi]; exact List.mem_append_left _ hu2
  refine ⟨⟨h, by omega, ?_⟩, by omega, cuts_not h hi hu2⟩
  rw [Int.toNat_natCast]
  exact cuts_P h (by omega) hm
end Go.Xw
end
