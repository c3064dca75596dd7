/- Texts that belong together; each under its stated conditions. -/
import Derived.Test.YtifjicajbgoamaaGreatConjLaw
import Derived.Test.YtifjicajbgoamaaGreatMapLaw
import Derived.Test.YtifjicajbgoamaaGreatCutsOk
set_option linter.all false
section
/- Balancing of conjunctions, as plain data; no condition. -/
namespace Go.Xw
open Go.Proofs
set_option maxHeartbeats 1000000

/-! ### the order of literals by level -/
def ltB (V : List Int) (a x : Int) : Prop := nl V a < nl V x ∨ (nl V a = nl V x ∧ a < x)
instance (V : List Int) (a x : Int) : Decidable (ltB V a x) := by unfold ltB; infer_instance
def insT (V L : List Int) (x : Int) : List Int := L.takeWhile (fun a => decide (ltB V a x)) ++ x :: L.dropWhile (fun a => decide (ltB V a x))
def insB (V L : List Int) (x : Int) : List Int := if x ∈ L then L else insT V L x
def SrtB (V L : List Int) : Prop := L.Pairwise (ltB V)
theorem ltB_trans {V : List Int} {a b c : Int} (h : ltB V a b) (k : ltB V b c) : ltB V a c := by unfold ltB at *; omega
theorem ltB_tot {V : List Int} {a b : Int} (h : ¬ ltB V a b) (hne : a ≠ b) : ltB V b a := by unfold ltB at *; omega
theorem mem_insT {V L : List Int} {x y : Int} : y ∈ insT V L x ↔ y = x ∨ y ∈ L := by
  unfold insT
  rw [List.mem_append, List.mem_cons]
  constructor
  · rintro (h | h | h)
    · exact .inr ((List.takeWhile_sublist _).subset h)
    · exact .inl h
    · exact .inr ((List.dropWhile_sublist _).subset h)
  · rintro (h | h)
    · exact .inr (.inl h)
    · rw [← List.takeWhile_append_dropWhile (p := fun a => decide (ltB V a x)) (l := L), List.mem_append] at h
      rcases h with h | h
      · exact .inl h
      · exact .inr (.inr h)
theorem mem_insB {V L : List Int} {x y : Int} : y ∈ insB V L x ↔ y = x ∨ y ∈ L := by
  unfold insB
  split
  · rename_i h
    constructor
    · exact .inr
    · rintro (rfl | h2)
      · exact h
      · exact h2
  · exact mem_insT
theorem tw_all {p : Int → Bool} {y : Int} : ∀ {L : List Int}, y ∈ L.takeWhile p → p y = true
  | [], h => by simp at h
  | a :: L, h => by
    rw [List.takeWhile_cons] at h
    split at h
    · rename_i ha
      rcases List.mem_cons.1 h with rfl | h2
      · exact ha
      · exact tw_all h2
    · simp at h
theorem srt_tail {V : List Int} {x : Int} : ∀ {L : List Int}, SrtB V L → x ∉ L → ∀ y, y ∈ L.dropWhile (fun a => decide (ltB V a x)) → ltB V x y
  | [], _, _, y, h => by simp at h
  | a :: L, hs, hx, y, h => by
    obtain ⟨h1, h2⟩ := List.pairwise_cons.1 hs
    rw [List.dropWhile_cons] at h
    split at h
    · exact srt_tail h2 (fun hh => hx (List.mem_cons_of_mem _ hh)) y h
    · rename_i ha
      have ha' : ltB V x a := ltB_tot (fun hh => ha (by simpa using hh)) (fun e => hx (by rw [e]; exact List.mem_cons_self))
      rcases List.mem_cons.1 h with rfl | h3
      · exact ha'
      · exact ltB_trans ha' (h1 _ h3)
theorem srt_insB {V L : List Int} {x : Int} (h : SrtB V L) : SrtB V (insB V L x) := by
  unfold insB
  split
  · exact h
  · rename_i hx
    unfold insT
    have h3 := srt_tail h hx
    have hs := h
    unfold SrtB at hs ⊢
    rw [← List.takeWhile_append_dropWhile (p := fun a => decide (ltB V a x)) (l := L)] at hs
    obtain ⟨p1, p2, p3⟩ := List.pairwise_append.1 hs
    refine List.pairwise_append.2 ⟨p1, List.pairwise_cons.2 ⟨h3, p2⟩, fun a ha b hb => ?_⟩
    rcases List.mem_cons.1 hb with rfl | hb
    · have := tw_all ha
      simpa using this
    · exact p3 a ha b hb

/-! how the program finds the place, and how the reference lays the list anew -/
/-! ### reduction of a list to one literal -/
/-! what holds of a list of literals over the AND nodes A -/
theorem Bld.sub {f : Int} {A : List (Int × Int)} {L L' : List Int} (h : Bld f A L) (hs : ∀ x, x ∈ L' → x ∈ L) : Bld f A L' :=
  ⟨h.f1, h.alen, h.aok, (mem_iff_getD (p := fun x => litP x (f + A.length))).1 fun x hx => (mem_iff_getD (p := fun x => litP x (f + A.length))).2 h.tok x (hs x hx)⟩
theorem Bld.mem {f : Int} {A : List (Int × Int)} {L : List Int} (h : Bld f A L) {x : Int} (hx : x ∈ L) : litP x (f + A.length) := (mem_iff_getD (p := fun x => litP x (f + A.length))).2 h.tok x hx
theorem Bld.ins {f : Int} {A : List (Int × Int)} {V L : List Int} {x : Int} (h : Bld f A L) (hx : litP x (f + A.length)) : Bld f A (insB V L x) :=
  ⟨h.f1, h.alen, h.aok, (mem_iff_getD (p := fun x => litP x (f + A.length))).1 fun y hy => by
    rcases mem_insB.1 hy with rfl | hy
    · exact hx
    · exact h.mem hy⟩
/-- the step of a reduction -/
structure RedS (f : Int) (U : List Int) (A : List (Int × Int)) (L : List Int) : Prop where
  b : Bld f A L
  s : SrtB (levA U A) L
  ne : 0 < L.length
/-- several literals put into the list -/
def insAll (V L xs : List Int) : List Int := xs.foldl (insB V) L
theorem mem_insAll {V : List Int} {y : Int} : ∀ {xs L : List Int}, y ∈ insAll V L xs ↔ y ∈ L ∨ y ∈ xs
  | [], L => by simp [insAll]
  | x :: xs, L => by
    show y ∈ insAll V (insB V L x) xs ↔ _
    rw [mem_insAll, mem_insB, List.mem_cons]
    constructor
    · rintro ((h | h) | h)
      · exact .inr (.inl h)
      · exact .inl h
      · exact .inr (.inr h)
    · rintro (h | h | h)
      · exact .inl (.inr h)
      · exact .inl (.inl h)
      · exact .inr h
theorem srt_insAll {V : List Int} : ∀ {xs L : List Int}, SrtB V L → SrtB V (insAll V L xs)
  | [], _, h => h
  | x :: xs, L, h => srt_insAll (xs := xs) (srt_insB h)
/-! ### which nodes are needed -/
/-! ### leaves of conjunctions -/
theorem CLf.le {n : NetL} (h : NetOkP n) {l m : Int} (hc : CLf n l m) : (m / 2 ≤ l / 2 ∧ (litP l (nodesL n) → litP m (nodesL n))) ∧ (AL n l → m / 2 < l / 2) := by
  have hn := h.nums
  induction hc with
  | leaf hl => exact ⟨⟨Int.le_refl _, id⟩, fun ha => absurd ha hl⟩
  | @left i m hi _ ih =>
    have := (h.andP hi).1
    have f2 := hn.f2
    have hc := h.count
    have ht := this.mono (k' := nodesL n) (by omega)
    unfold litP at *
    obtain ⟨⟨a, b⟩, _⟩ := ih
    have b := b ht
    exact ⟨⟨by omega, fun _ => b⟩, fun _ => by omega⟩
  | @right i m hi _ ih =>
    have := (h.andP hi).2
    have f2 := hn.f2
    have hc := h.count
    have ht := this.mono (k' := nodesL n) (by omega)
    unfold litP at *
    obtain ⟨⟨a, b⟩, _⟩ := ih
    have b := b ht
    exact ⟨⟨by omega, fun _ => b⟩, fun _ => by omega⟩
/-- the leaves of a literal as a list -/
noncomputable def conjG (n : NetL) (l : Int) : List Int := markedL (listB (2 * nds n) fun z => CLf n l (z : Int))
theorem conjG_mem {n : NetL} (h : NetOkP n) {l z : Int} (hl : litP l (nodesL n)) : z ∈ conjG n l ↔ CLf n l z := by
  have n2 := h.nums.n2
  unfold conjG markedL
  rw [marked_mem, listB_len]
  constructor
  · rintro ⟨k, h1, h2, h3⟩; rw [h2]; exact (listB_get h1).1 h3
  · intro hz
    have hz2 := (hz.le h).1.2 hl
    unfold litP at hz2
    have hk : z.toNat < 2 * nds n := by omega
    refine ⟨z.toNat, hk, by omega, (listB_get hk).2 ?_⟩
    rwa [show ((z.toNat : Nat) : Int) = z by omega]
theorem conjL_G {n : NetL} (h : NetOkP n) {k : Nat} (hk : k < nds n) {z : Int} : z ∈ conjL n k ↔ CLf n (2 * (k : Int)) z := by
  have n2 := h.nums.n2
  exact conjG_mem h (l := 2 * (k : Int)) (by unfold litP; omega)
theorem conjL_lit {n : NetL} (h : NetOkP n) {i : Nat} (hi : i < n.ands.length) {z : Int} (hz : z ∈ conjL n (fst_ n + i)) : litP z (firstAndL n + i) ∧ (z / 2).toNat < fst_ n + i := by
  have n1 := h.nums.n1
  have n2 := h.nums.n2
  have f2 := h.nums.f2
  have hc := (conjL_G h (by omega)).1 hz
  have h1 := (hc.le h).1.2 (by unfold litP; omega)
  have h2 := (hc.le h).2 ⟨i, hi, rfl⟩
  unfold litP at *
  omega
theorem CLf.some {n : NetL} (h : NetOkP n) : ∀ (m : Nat) (l : Int), litP l (nodesL n) → (l / 2).toNat ≤ m → ∃ z, CLf n l z := by
  have f2 := h.nums.f2
  intro m
  induction m with
  | zero =>
    intro l hl hm
    refine ⟨l, .leaf ?_⟩
    rintro ⟨i, hi, e⟩
    have := h.count
    unfold litP at hl
    omega
  | succ m ih =>
    intro l hl hm
    by_cases ha : AL n l
    · obtain ⟨i, hi, e⟩ := ha
      have h1 := (h.andP hi).1
      have hc := h.count
      have h2 := h1.mono (k' := nodesL n) (by omega)
      obtain ⟨z, hz⟩ := ih _ h2 (by unfold litP at h1 hl; omega)
      exact ⟨z, by rw [e]; exact .left hi hz⟩
    · exact ⟨l, .leaf ha⟩
theorem conjL_pos {n : NetL} (h : NetOkP n) {k : Nat} (hk : k < nds n) : 0 < (conjL n k).length := by
  have n2 := h.nums.n2
  obtain ⟨z, hz⟩ := CLf.some h k (2 * (k : Int)) (by unfold litP; omega) (by omega)
  exact List.length_pos_of_mem ((conjL_G h hk).2 hz)

/-! ### what is needed is closed -/
/-! ### the balanced net -/
noncomputable def balLeaves (n : NetL) (S : List (Int × Int) × List Int) (k : Nat) : List Int := insAll (levA (List.replicate (fst_ n) 0) S.1) [] (mapL S.2 (conjL n k))
/-- what holds of a net that is being balanced -/
structure BalS (n : NetL) (S : List (Int × Int) × List Int) (i : Nat) : Prop where
  b : Bld (firstAndL n) S.1 S.2
  len : S.2.length = fst_ n + i
theorem BalS.leaves {n : NetL} (h : NetOkP n) {S : List (Int × Int) × List Int} {i : Nat} (hS : BalS n S i) (hi : i < n.ands.length) : RedS (firstAndL n) (List.replicate (fst_ n) 0) S.1 (balLeaves n S (fst_ n + i)) := by
  have n1 := h.nums.n1
  have hm : ∀ x, x ∈ mapL S.2 (conjL n (fst_ n + i)) → litP x (firstAndL n + S.1.length) := fun x hx => by
    obtain ⟨m, h1, rfl⟩ := List.mem_map.1 hx
    exact hS.b.lit (by rw [hS.len]; exact (conjL_lit h hi h1).2)
  refine ⟨⟨hS.b.f1, hS.b.alen, hS.b.aok, (mem_iff_getD (p := fun x => litP x (firstAndL n + S.1.length))).1 fun x hx => ?_⟩, srt_insAll List.Pairwise.nil, ?_⟩
  · unfold balLeaves at hx
    rw [mem_insAll] at hx
    rcases hx with hx | hx
    · simp at hx
    · exact hm x hx
  · have hp := conjL_pos h (k := fst_ n + i) (by omega)
    have : (mapL S.2 (conjL n (fst_ n + i))).getD 0 default ∈ balLeaves n S (fst_ n + i) := mem_insAll.2 (.inr (getD_mem (by rw [mapL_len]; exact hp)))
    exact List.length_pos_of_mem this
theorem BalS.skip {n : NetL} {S : List (Int × Int) × List Int} {i : Nat} (hS : BalS n S i) : BalS n (S.1, S.2 ++ [0]) (i + 1) := by
  have f1 := hS.b.f1
  exact ⟨hS.b.snoc (by unfold litP; omega), by simp [hS.len]; omega⟩
end Go.Xw
end
section
/- A balanced net has the runs of the net and is not deeper; plain data, no condition. -/
namespace Go.Xw
open Go.Proofs
set_option maxHeartbeats 1000000

/-! ### values -/
/-! ### levels -/
end Go.Xw
end
section
/- Refactoring and the whole optimization, as plain data; no condition but the stated ones. -/
namespace Go.Xw
open Go.Proofs
set_option maxHeartbeats 1000000
end Go.Xw
end
