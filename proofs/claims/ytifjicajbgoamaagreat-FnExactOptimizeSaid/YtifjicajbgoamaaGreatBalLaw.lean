/- Balancing of conjunctions, as plain data; no condition. -/
import Derived.Test.YtifjicajbgoamaaGreatTabLaw
import Derived.Test.YtifjicajbgoamaaGreatMapLaw
import Derived.Test.YtifjicajbgoamaaGreatCutLess
set_option linter.all false
namespace Go.Xw
open Go.Proofs
set_option maxHeartbeats 1000000
def ltB (V : List Int) (a x : Int) : Prop := nl V a < nl V x ∨ (nl V a = nl V x ∧ a < x)
instance (V : List Int) (a x : Int) : Decidable (ltB V a x) := by unfold ltB; infer_instance
def insT (V L : List Int) (x : Int) : List Int := L.takeWhile (fun a => decide (ltB V a x)) ++ x :: L.dropWhile (fun a => decide (ltB V a x))
def insB (V L : List Int) (x : Int) : List Int := if x ∈ L then L else insT V L x
def SrtB (V L : List Int) : Prop := L.Pairwise (ltB V)
theorem ltB_trans {V : List Int} {a b c : Int} (h : ltB V a b) (k : ltB V b c) : ltB V a c := by unfold ltB at *; omega
theorem ltB_irr {V : List Int} {a : Int} : ¬ ltB V a a := by unfold ltB; omega
theorem ltB_tot {V : List Int} {a b : Int} (h : ¬ ltB V a b) (hne : a ≠ b) : ltB V b a := by unfold ltB at *; omega
theorem mem_insT {V L : List Int} {x y : Int} : y ∈ insT V L x ↔ y = x ∨ y ∈ L := by
 unfold insT
 rw [List.mem_append, List.mem_cons]
 constructor
 ·rintro (h | h | h)
  ·exact .inr ((List.takeWhile_sublist _).subset h)
  ·exact .inl h
  ·exact .inr ((List.dropWhile_sublist _).subset h)
 ·rintro (h | h)
  ·exact .inr (.inl h)
  ·rw [← List.takeWhile_append_dropWhile (p := fun a => decide (ltB V a x)) (l := L), List.mem_append] at h
   rcases h with h | h
   ·exact .inl h
   ·exact .inr (.inr h)
theorem mem_insB {V L : List Int} {x y : Int} : y ∈ insB V L x ↔ y = x ∨ y ∈ L := by
 unfold insB
 split
 ·rename_i h
  constructor
  ·exact .inr
  ·rintro (rfl | h2)
   ·exact h
   ·exact h2
 ·exact mem_insT
theorem insT_len {V L : List Int} {x : Int} : (insT V L x).length = L.length + 1 := by
 unfold insT
 have := congrArg List.length (List.takeWhile_append_dropWhile (p := fun a => decide (ltB V a x)) (l := L))
 rw [List.length_append] at this
 rw [List.length_append, List.length_cons]
 omega
theorem insB_len {V L : List Int} {x : Int} : L.length ≤ (insB V L x).length ∧ (insB V L x).length ≤ L.length + 1 := by
 unfold insB
 split
 ·omega
 ·rw [insT_len]; omega
theorem insB_pos {V L : List Int} {x : Int} : 0 < (insB V L x).length := List.length_pos_of_mem (mem_insB.2 (.inl rfl))
theorem tw_all {p : Int → Bool} {y : Int} : ∀ {L : List Int}, y ∈ L.takeWhile p → p y = true
 | [], h => by simp at h
 | a :: L, h => by
  rw [List.takeWhile_cons] at h
  split at h
  ·rename_i ha
   rcases List.mem_cons.1 h with rfl | h2
   ·exact ha
   ·exact tw_all h2
  ·simp at h
theorem srt_tail {V : List Int} {x : Int} : ∀ {L : List Int}, SrtB V L → x ∉ L → ∀ y, y ∈ L.dropWhile (fun a => decide (ltB V a x)) → ltB V x y
 | [], _, _, y, h => by simp at h
 | a :: L, hs, hx, y, h => by
  obtain ⟨h1, h2⟩ := List.pairwise_cons.1 hs
  rw [List.dropWhile_cons] at h
  split at h
  ·exact srt_tail h2 (fun hh => hx (List.mem_cons_of_mem _ hh)) y h
  ·rename_i ha
   have ha' : ltB V x a := ltB_tot (fun hh => ha (by simpa using hh)) (fun e => hx (by rw [e]; exact List.mem_cons_self))
   rcases List.mem_cons.1 h with rfl | h3
   ·exact ha'
   ·exact ltB_trans ha' (h1 _ h3)
theorem srt_insB {V L : List Int} {x : Int} (h : SrtB V L) : SrtB V (insB V L x) := by
 unfold insB
 split
 ·exact h
 ·rename_i hx
  unfold insT
  have h3 := srt_tail h hx
  have hs := h
  unfold SrtB at hs ⊢
  rw [← List.takeWhile_append_dropWhile (p := fun a => decide (ltB V a x)) (l := L)] at hs
  obtain ⟨p1, p2, p3⟩ := List.pairwise_append.1 hs
  refine List.pairwise_append.2 ⟨p1, List.pairwise_cons.2 ⟨h3, p2⟩, fun a ha b hb => ?_⟩
  rcases List.mem_cons.1 hb with rfl | hb
  ·have := tw_all ha
   simpa using this
  ·exact p3 a ha b hb
theorem tw_take {p : Int → Bool} : ∀ {L : List Int} {i : Nat}, i ≤ L.length → (∀ j, j < i → p (L.getD j default) = true) → (i < L.length → p (L.getD i default) = false) → L.takeWhile p = L.take i ∧ L.dropWhile p = L.drop i
 | [], i, hi, _, _ => by simp
 | a :: L, 0, _, _, h2 => by
  have := h2 (by simp)
  simp at this
  simp [List.takeWhile_cons, List.dropWhile_cons, this]
 | a :: L, i + 1, hi, h1, h2 => by
  have h0 := h1 0 (by omega)
  simp at h0
  have ih := tw_take (p := p) (L := L) (i := i) (by simp at hi; omega) (fun j hj => by have := h1 (j + 1) (by omega); simpa using this) (fun h => by have := h2 (by simp; omega); simpa using this)
  simp [List.takeWhile_cons, List.dropWhile_cons, h0, ih.1, ih.2]
theorem insB_in {V L : List Int} {x : Int} {i : Nat} (hi : i < L.length) (h : L.getD i default = x) : insB V L x = L := by
 unfold insB
 rw [if_pos (by rw [← h]; exact getD_mem hi)]
theorem insB_at {V L : List Int} {x : Int} {i : Nat} (hs : SrtB V L) (hi : i ≤ L.length) (h1 : ∀ j, j < i → ltB V (L.getD j default) x) (h2 : i < L.length → ¬ ltB V (L.getD i default) x) (h3 : ¬ (i < L.length ∧ L.getD i default = x)) : insB V L x = L.take i ++ x :: L.drop i := by
 obtain ⟨t1, t2⟩ := tw_take (p := fun a => decide (ltB V a x)) hi (fun j hj => by simpa using h1 j hj) (fun hh => by simpa using h2 hh)
 have hx : x ∉ L := fun hx => by
  rw [← List.take_append_drop i L, List.mem_append] at hx
  rcases hx with hx | hx
  ·rw [← t1] at hx
   have := tw_all hx
   simp [ltB_irr] at this
  ·by_cases hlt : i < L.length
   ·rw [List.drop_eq_getElem_cons hlt] at hx
    have e : L.getD i default = L[i] := by rw [List.getD_eq_getElem?_getD, List.getElem?_eq_getElem hlt]; rfl
    rcases List.mem_cons.1 hx with hx | hx
    ·exact h3 ⟨hlt, by rw [e, ← hx]⟩
    ·have hp := hs
     unfold SrtB at hp
     rw [← List.take_append_drop i L] at hp
     have h5 := (List.pairwise_append.1 hp).2.1
     rw [List.drop_eq_getElem_cons hlt] at h5
     have h6 := (List.pairwise_cons.1 h5).1 _ hx
     rw [← e] at h6
     exact h2 hlt h6
   ·rw [List.drop_eq_nil_of_le (by omega)] at hx
    simp at hx
 unfold insB insT
 rw [if_neg hx, t1, t2]
theorem insT_open {V L : List Int} {x : Int} {i : Nat} (hi : i < L.length) (h1 : ∀ j, j < i → ltB V (L.getD j default) x) (h2 : ¬ ltB V (L.getD i default) x) : insT V (L.take (i + 1)) x = (L.take i ++ [x]) ++ [L.getD i default] := by
 have hl : (L.take (i + 1)).length = i + 1 := by simp; omega
 have hg : ∀ j, j < i + 1 → (L.take (i + 1)).getD j default = L.getD j default := fun j hj => by simp [List.getD_eq_getElem?_getD, List.getElem?_take, hj]
 obtain ⟨t1, t2⟩ := tw_take (L := L.take (i + 1)) (p := fun a => decide (ltB V a x)) (i := i) (by omega) (fun j hj => by rw [hg j (by omega)]; simpa using h1 j hj) (fun _ => by rw [hg i (by omega)]; simpa using h2)
 unfold insT
 rw [t1, t2, take_snoc hi, List.take_append_of_le_length (by simp; omega), List.take_take, Nat.min_self, List.drop_append, List.drop_take, Nat.sub_self, List.take_zero, List.nil_append]
 rw [show i - (L.take i).length = 0 by simp; omega]
 simp
theorem insT_all {V L : List Int} {x : Int} (h1 : ∀ j, j < L.length → ltB V (L.getD j default) x) : insT V L x = L ++ [x] := by
 obtain ⟨t1, t2⟩ := tw_take (L := L) (p := fun a => decide (ltB V a x)) (i := L.length) (Nat.le_refl _) (fun j hj => by simpa using h1 j hj) (fun h => by omega)
 unfold insT
 rw [t1, t2, List.take_length, List.drop_length]
theorem dw_snoc {p : Int → Bool} {y : Int} : ∀ {L : List Int}, (∃ z, z ∈ L ∧ p z = false) → (L ++ [y]).takeWhile p = L.takeWhile p ∧ (L ++ [y]).dropWhile p = L.dropWhile p ++ [y]
 | [], h => by obtain ⟨z, hz, _⟩ := h; simp at hz
 | a :: L, h => by
  obtain ⟨z, hz, hp⟩ := h
  by_cases ha : p a = true
  ·have ih := dw_snoc (p := p) (y := y) (L := L) ⟨z, (List.mem_cons.1 hz).resolve_left (fun e => by rw [e, ha] at hp; cases hp), hp⟩
   simp [List.takeWhile_cons, List.dropWhile_cons, ha, ih.1, ih.2]
  ·simp [List.takeWhile_cons, List.dropWhile_cons, ha]
theorem insT_more {V L : List Int} {x y : Int} (h : ∃ z, z ∈ L ∧ ¬ ltB V z x) : insT V (L ++ [y]) x = insT V L x ++ [y] := by
 obtain ⟨z, hz, hp⟩ := h
 obtain ⟨t1, t2⟩ := dw_snoc (p := fun a => decide (ltB V a x)) (y := y) (L := L) ⟨z, hz, by simpa using hp⟩
 unfold insT
 rw [t1, t2]
 simp
def balR (f : Int) (U : List Int) : Nat → List (Int × Int) → List Int → Option (List (Int × Int) × Int)
 | 0, A, L => some (A, L.getD 0 default)
 | k + 1, A, L => if 1 < L.length then (if (addC f A (L.getD 0 default) (L.getD 1 default)).2 < 0 then none else
     balR f U k (addC f A (L.getD 0 default) (L.getD 1 default)).1 (insB (levA U (addC f A (L.getD 0 default) (L.getD 1 default)).1) (L.drop 2) (addC f A (L.getD 0 default) (L.getD 1 default)).2))
  else some (A, L.getD 0 default)
def balRed (f : Int) (U : List Int) (A : List (Int × Int)) (L : List Int) := balR f U L.length A L
theorem balR_fuel {f : Int} {U : List Int} : ∀ {k k' : Nat} {A : List (Int × Int)} {L : List Int}, L.length ≤ k + 1 → L.length ≤ k' + 1 → balR f U k A L = balR f U k' A L
 | 0, 0, _, _, _, _ => rfl
 | 0, k' + 1, A, L, h, _ => by rw [balR, balR, if_neg (by omega)]
 | k + 1, 0, A, L, _, h => by rw [balR, balR, if_neg (by omega)]
 | k + 1, k' + 1, A, L, h, h' => by
  rw [balR, balR]
  by_cases h1 : 1 < L.length
  ·rw [if_pos h1, if_pos h1]
   split
   ·rfl
   ·have := (insB_len (V := levA U (addC f A (L.getD 0 default) (L.getD 1 default)).1) (L := L.drop 2) (x := (addC f A (L.getD 0 default) (L.getD 1 default)).2)).2
    rw [List.length_drop] at this
    exact balR_fuel (by omega) (by omega)
  ·rw [if_neg h1, if_neg h1]
theorem balRed_one {f : Int} {U : List Int} {A : List (Int × Int)} {L : List Int} (h : ¬ 1 < L.length) : balRed f U A L = some (A, L.getD 0 default) := by
 unfold balRed
 cases hl : L.length with
 | zero => rfl
 | succ k => rw [balR, if_neg h]
theorem balRed_step {f : Int} {U : List Int} {A : List (Int × Int)} {L : List Int} (h : 1 < L.length) : balRed f U A L = if (addC f A (L.getD 0 default) (L.getD 1 default)).2 < 0 then none else
  balRed f U (addC f A (L.getD 0 default) (L.getD 1 default)).1 (insB (levA U (addC f A (L.getD 0 default) (L.getD 1 default)).1) (L.drop 2) (addC f A (L.getD 0 default) (L.getD 1 default)).2) := by
 unfold balRed
 obtain ⟨k, hk⟩ : ∃ k, L.length = k + 1 := ⟨L.length - 1, by omega⟩
 rw [hk, balR, if_pos h]
 split
 ·rfl
 ·have := (insB_len (V := levA U (addC f A (L.getD 0 default) (L.getD 1 default)).1) (L := L.drop 2) (x := (addC f A (L.getD 0 default) (L.getD 1 default)).2)).2
  rw [List.length_drop] at this
  exact balR_fuel (by omega) (by omega)
theorem Bld.sub {f : Int} {A : List (Int × Int)} {L L' : List Int} (h : Bld f A L) (hs : ∀ x, x ∈ L' → x ∈ L) : Bld f A L' :=
 ⟨h.f1, h.alen, h.aok, (mem_iff_getD (p := fun x => litP x (f + A.length))).1 fun x hx => (mem_iff_getD (p := fun x => litP x (f + A.length))).2 h.tok x (hs x hx)⟩
theorem Bld.mem {f : Int} {A : List (Int × Int)} {L : List Int} (h : Bld f A L) {x : Int} (hx : x ∈ L) : litP x (f + A.length) := (mem_iff_getD (p := fun x => litP x (f + A.length))).2 h.tok x hx
theorem Bld.ins {f : Int} {A : List (Int × Int)} {V L : List Int} {x : Int} (h : Bld f A L) (hx : litP x (f + A.length)) : Bld f A (insB V L x) :=
 ⟨h.f1, h.alen, h.aok, (mem_iff_getD (p := fun x => litP x (f + A.length))).1 fun y hy => by
  rcases mem_insB.1 hy with rfl | hy
  ·exact hx
  ·exact h.mem hy⟩
structure RedS (f : Int) (U : List Int) (A : List (Int × Int)) (L : List Int) : Prop where
 b : Bld f A L
 s : SrtB (levA U A) L
 ne : 0 < L.length
theorem nl_grow {U : List Int} {f : Int} (hU : U.length = f.toNat) {A B : List (Int × Int)} (hf : 1 ≤ f) {x : Int} (hx : litP x (f + A.length)) : nl (levA U (A ++ B)) x = nl (levA U A) x := by
 unfold litP at hx
 exact levA_litlow (by omega)
theorem srt_grow {U : List Int} {f : Int} (hU : U.length = f.toNat) {A B : List (Int × Int)} {L : List Int} (hB : Bld f A L) (h : SrtB (levA U A) L) : SrtB (levA U (A ++ B)) L := by
 unfold SrtB at h ⊢
 refine List.Pairwise.imp_of_mem ?_ h
 intro a b ha hb hab
 have f1 := hB.f1
 unfold ltB at hab ⊢
 rw [nl_grow hU f1.1 (hB.mem ha), nl_grow hU f1.1 (hB.mem hb)]
 exact hab
theorem RedS.two {f : Int} {U : List Int} {A : List (Int × Int)} {L : List Int} (h : RedS f U A L) (h1 : 1 < L.length) : litP (L.getD 0 default) (f + A.length) ∧ litP (L.getD 1 default) (f + A.length) :=
 ⟨h.b.tok 0 (by omega), h.b.tok 1 (by omega)⟩
theorem RedS.step {f : Int} {U : List Int} (hU : U.length = f.toNat) {A : List (Int × Int)} {L : List Int} (h : RedS f U A L) (h1 : 1 < L.length) (h0 : ¬ (addC f A (L.getD 0 default) (L.getD 1 default)).2 < 0) :
  RedS f U (addC f A (L.getD 0 default) (L.getD 1 default)).1 (insB (levA U (addC f A (L.getD 0 default) (L.getD 1 default)).1) (L.drop 2) (addC f A (L.getD 0 default) (L.getD 1 default)).2) := by
 obtain ⟨l1, l2⟩ := h.two h1
 have hd : Bld f A (L.drop 2) := h.b.sub fun x hx => List.mem_of_mem_drop hx
 have hs : SrtB (levA U A) (L.drop 2) := List.Pairwise.sublist (List.drop_sublist _ _) h.s
 obtain ⟨B, hB⟩ := addC_pre (f := f) (A := A) (a := L.getD 0 default) (b := L.getD 1 default)
 have hx : litP (addC f A (L.getD 0 default) (L.getD 1 default)).2 (f + (addC f A (L.getD 0 default) (L.getD 1 default)).1.length) := by
  rcases h.b.addLit l1 l2 with h2 | ⟨h2, _⟩
  ·exact h2
  ·rw [h2] at h0; exact absurd h0 (by dsimp only; omega)
 refine ⟨(hd.add l1 l2).ins hx, srt_insB ?_, insB_pos⟩
 rw [hB]
 exact srt_grow hU hd hs
theorem red_ind {f : Int} {U : List Int} (hU : U.length = f.toNat) (P : List (Int × Int) → List Int → Prop)
  (hP : ∀ A L, RedS f U A L → P A L → 1 < L.length → ¬ (addC f A (L.getD 0 default) (L.getD 1 default)).2 < 0 → P (addC f A (L.getD 0 default) (L.getD 1 default)).1 (insB (levA U (addC f A (L.getD 0 default) (L.getD 1 default)).1) (L.drop 2) (addC f A (L.getD 0 default) (L.getD 1 default)).2)) :
  ∀ (m : Nat) {A : List (Int × Int)} {L : List Int}, L.length ≤ m → RedS f U A L → P A L → ∀ {T : List (Int × Int) × Int}, balRed f U A L = some T → ∃ y, P T.1 [y] ∧ T.2 = y ∧ RedS f U T.1 [y]
 | 0, A, L, hm, hR, _, T, _ => absurd hR.ne (by omega)
 | m + 1, A, L, hm, hR, hPA, T, hT => by
  by_cases h1 : 1 < L.length
  ·rw [balRed_step h1] at hT
   split at hT
   ·cases hT
   ·rename_i h0
    have hlen := (insB_len (V := levA U (addC f A (L.getD 0 default) (L.getD 1 default)).1) (L := L.drop 2) (x := (addC f A (L.getD 0 default) (L.getD 1 default)).2)).2
    rw [List.length_drop] at hlen
    exact red_ind hU P hP m (by omega) (hR.step hU h1 h0) (hP A L hR hPA h1 h0) hT
  ·rw [balRed_one h1] at hT
   injection hT with hT
   subst hT
   have := hR.ne
   have e : L = [L.getD 0 default] := by
    match L, h1, this with
    | [y], _, _ => rfl
    | _ :: _ :: _, h1, _ => simp at h1
   exact ⟨L.getD 0 default, by rw [← e]; exact hPA, rfl, by rw [← e]; exact hR⟩
theorem red_ok {f : Int} {U : List Int} (hU : U.length = f.toNat) {A : List (Int × Int)} {L : List Int} (hR : RedS f U A L) {T : List (Int × Int) × Int} (hT : balRed f U A L = some T) : (∃ B, T.1 = A ++ B) ∧ Bld f T.1 [T.2] := by
 obtain ⟨y, ⟨B, h1⟩, h2, h3⟩ := red_ind hU (fun A' _ => ∃ B, A' = A ++ B) (fun A' L' _ ⟨B, hB⟩ _ _ => by
  obtain ⟨B', hB'⟩ := addC_pre (f := f) (A := A') (a := L'.getD 0 default) (b := L'.getD 1 default)
  exact ⟨B ++ B', by rw [hB', hB, List.append_assoc]⟩) L.length (Nat.le_refl _) hR ⟨[], by simp⟩ hT
 exact ⟨⟨B, h1⟩, by rw [h2]; exact h3.b⟩
def insAll (V L xs : List Int) : List Int := xs.foldl (insB V) L
theorem insAll_snoc (V L xs : List Int) (x : Int) : insAll V L (xs ++ [x]) = insB V (insAll V L xs) x := by unfold insAll; rw [List.foldl_append]; rfl
theorem mem_insAll {V : List Int} {y : Int} : ∀ {xs L : List Int}, y ∈ insAll V L xs ↔ y ∈ L ∨ y ∈ xs
 | [], L => by simp [insAll]
 | x :: xs, L => by
  show y ∈ insAll V (insB V L x) xs ↔ _
  rw [mem_insAll, mem_insB, List.mem_cons]
  constructor
  ·rintro ((h | h) | h)
   ·exact .inr (.inl h)
   ·exact .inl h
   ·exact .inr (.inr h)
  ·rintro (h | h | h)
   ·exact .inl (.inr h)
   ·exact .inl (.inl h)
   ·exact .inr h
theorem srt_insAll {V : List Int} : ∀ {xs L : List Int}, SrtB V L → SrtB V (insAll V L xs)
 | [], _, h => h
 | x :: xs, L, h => srt_insAll (xs := xs) (srt_insB h)
theorem insAll_len {V : List Int} : ∀ {xs L : List Int}, (insAll V L xs).length ≤ L.length + xs.length
 | [], L => by simp [insAll]
 | x :: xs, L => by
  have h1 := insAll_len (V := V) (xs := xs) (L := insB V L x)
  have h2 := (insB_len (V := V) (L := L) (x := x)).2
  show (insAll V (insB V L x) xs).length ≤ _
  rw [List.length_cons]
  omega
def markL (B : List Bool) (L : List Int) : List Bool := L.foldl (fun B l => B.set (l / 2).toNat true) B
theorem markL_snoc (B : List Bool) (L : List Int) (x : Int) : markL B (L ++ [x]) = (markL B L).set (x / 2).toNat true := by unfold markL; rw [List.foldl_append]; rfl
theorem markL_len : ∀ {L : List Int} {B : List Bool}, (markL B L).length = B.length
 | [], _ => rfl
 | x :: L, B => by show (markL (B.set _ true) L).length = _; rw [markL_len, List.length_set]
theorem markL_get {k : Nat} : ∀ {L : List Int} {B : List Bool}, (∀ l, l ∈ L → (l / 2).toNat < B.length) → ((markL B L).getD k default = true ↔ B.getD k default = true ∨ ∃ l, l ∈ L ∧ (l / 2).toNat = k)
 | [], B, _ => by simp [markL]
 | x :: L, B, h => by
  show (markL (B.set _ true) L).getD k default = true ↔ _
  rw [markL_get (fun l hl => by rw [List.length_set]; exact h l (List.mem_cons_of_mem _ hl)), bget_set (h x List.mem_cons_self)]
  constructor
  ·rintro ((h1 | h1) | ⟨l, h1, h2⟩)
   ·exact .inr ⟨x, List.mem_cons_self, h1.symm⟩
   ·exact .inl h1
   ·exact .inr ⟨l, List.mem_cons_of_mem _ h1, h2⟩
  ·rintro (h1 | ⟨l, h1, h2⟩)
   ·exact .inl (.inr h1)
   ·rcases List.mem_cons.1 h1 with rfl | h1
    ·exact .inl (.inl h2.symm)
    ·exact .inr ⟨l, h1, h2⟩
noncomputable def needTo (n : NetL) : Nat → List Bool
 | 0 => markL (List.replicate (nds n) false) (rootsL n)
 | d + 1 => if (needTo n d).getD (nds n - 1 - d) default = true then markL (needTo n d) (conjL n (nds n - 1 - d)) else needTo n d
noncomputable def needL (n : NetL) : List Bool := needTo n n.ands.length
theorem needTo_len (n : NetL) : ∀ d, (needTo n d).length = nds n
 | 0 => by rw [needTo, markL_len, List.length_replicate]
 | d + 1 => by
  rw [needTo]
  split
  ·rw [markL_len, needTo_len]
  ·exact needTo_len n d
theorem CLf.le {n : NetL} (h : NetOkP n) {l m : Int} (hc : CLf n l m) : (m / 2 ≤ l / 2 ∧ (litP l (nodesL n) → litP m (nodesL n))) ∧ (AL n l → m / 2 < l / 2) := by
 have hn := h.nums
 induction hc with
 | leaf hl => exact ⟨⟨Int.le_refl _, id⟩, fun ha => absurd ha hl⟩
 | @left i m hi _ ih =>
  have := (h.andP hi).1
  have f2 := hn.f2
  have hc := h.count
  have ht := this.mono (k' := nodesL n) (by omega)
  unfold litP at *
  obtain ⟨⟨a, b⟩, _⟩ := ih
  have b := b ht
  exact ⟨⟨by omega, fun _ => b⟩, fun _ => by omega⟩
 | @right i m hi _ ih =>
  have := (h.andP hi).2
  have f2 := hn.f2
  have hc := h.count
  have ht := this.mono (k' := nodesL n) (by omega)
  unfold litP at *
  obtain ⟨⟨a, b⟩, _⟩ := ih
  have b := b ht
  exact ⟨⟨by omega, fun _ => b⟩, fun _ => by omega⟩
noncomputable def conjG (n : NetL) (l : Int) : List Int := markedL (listB (2 * nds n) fun z => CLf n l (z : Int))
theorem conjG_mem {n : NetL} (h : NetOkP n) {l z : Int} (hl : litP l (nodesL n)) : z ∈ conjG n l ↔ CLf n l z := by
 have n2 := h.nums.n2
 unfold conjG markedL
 rw [marked_mem, listB_len]
 constructor
 ·rintro ⟨k, h1, h2, h3⟩; rw [h2]; exact (listB_get h1).1 h3
 ·intro hz
  have hz2 := (hz.le h).1.2 hl
  unfold litP at hz2
  have hk : z.toNat < 2 * nds n := by omega
  refine ⟨z.toNat, hk, by omega, (listB_get hk).2 ?_⟩
  rwa [show ((z.toNat : Nat) : Int) = z by omega]
theorem conjL_G {n : NetL} (h : NetOkP n) {k : Nat} (hk : k < nds n) {z : Int} : z ∈ conjL n k ↔ CLf n (2 * (k : Int)) z := by
 have n2 := h.nums.n2
 exact conjG_mem h (l := 2 * (k : Int)) (by unfold litP; omega)
theorem conjL_lit {n : NetL} (h : NetOkP n) {i : Nat} (hi : i < n.ands.length) {z : Int} (hz : z ∈ conjL n (fst_ n + i)) : litP z (firstAndL n + i) ∧ (z / 2).toNat < fst_ n + i := by
 have n1 := h.nums.n1
 have n2 := h.nums.n2
 have f2 := h.nums.f2
 have hc := (conjL_G h (by omega)).1 hz
 have h1 := (hc.le h).1.2 (by unfold litP; omega)
 have h2 := (hc.le h).2 ⟨i, hi, rfl⟩
 unfold litP at *
 omega
theorem CLf.some {n : NetL} (h : NetOkP n) : ∀ (m : Nat) (l : Int), litP l (nodesL n) → (l / 2).toNat ≤ m → ∃ z, CLf n l z := by
 have f2 := h.nums.f2
 intro m
 induction m with
 | zero =>
  intro l hl hm
  refine ⟨l, .leaf ?_⟩
  rintro ⟨i, hi, e⟩
  have := h.count
  unfold litP at hl
  omega
 | succ m ih =>
  intro l hl hm
  by_cases ha : AL n l
  ·obtain ⟨i, hi, e⟩ := ha
   have h1 := (h.andP hi).1
   have hc := h.count
   have h2 := h1.mono (k' := nodesL n) (by omega)
   obtain ⟨z, hz⟩ := ih _ h2 (by unfold litP at h1 hl; omega)
   exact ⟨z, by rw [e]; exact .left hi hz⟩
  ·exact ⟨l, .leaf ha⟩
theorem conjL_pos {n : NetL} (h : NetOkP n) {k : Nat} (hk : k < nds n) : 0 < (conjL n k).length := by
 have n2 := h.nums.n2
 obtain ⟨z, hz⟩ := CLf.some h k (2 * (k : Int)) (by unfold litP; omega) (by omega)
 exact List.length_pos_of_mem ((conjL_G h hk).2 hz)
noncomputable def balLeaves (n : NetL) (S : List (Int × Int) × List Int) (k : Nat) : List Int := insAll (levA (List.replicate (fst_ n) 0) S.1) [] (mapL S.2 (conjL n k))
noncomputable def balTo (n : NetL) (K : List Bool) : Nat → Option (List (Int × Int) × List Int)
 | 0 => some ([], leafL n)
 | i + 1 => match balTo n K i with
  | none => none
  | some S => if K.getD (fst_ n + i) default = true then
    match balRed (firstAndL n) (List.replicate (fst_ n) 0) S.1 (balLeaves n S (fst_ n + i)) with
    | none => none
    | some T => some (T.1, S.2 ++ [T.2])
   else some (S.1, S.2 ++ [0])
noncomputable def balL (n : NetL) : NetL := match balTo n (needL n) n.ands.length with
 | none => n
 | some S => sweepL (finN n S.1 S.2)
noncomputable def balanceL (n : NetL) : NetL := balL (hashL n)
theorem balTo_none {n : NetL} {K : List Bool} {i : Nat} (h : balTo n K i = none) : ∀ j, i ≤ j → balTo n K j = none
 | 0, hj => by obtain rfl : i = 0 := by omega
               exact h
 | j + 1, hj => by
  by_cases h2 : i = j + 1
  ·rw [← h2]; exact h
  ·rw [balTo, balTo_none h j (by omega)]
theorem balTo_fail {n : NetL} {K : List Bool} {i : Nat} {S : List (Int × Int) × List Int} (h : balTo n K i = some S) (hK : K.getD (fst_ n + i) default = true) (hR : balRed (firstAndL n) (List.replicate (fst_ n) 0) S.1 (balLeaves n S (fst_ n + i)) = none) : balTo n K (i + 1) = none := by
 rw [balTo, h]
 simp only [hK, if_true, hR]
theorem balTo_yes {n : NetL} {K : List Bool} {i : Nat} {S T} (h : balTo n K i = some S) (hK : K.getD (fst_ n + i) default = true) (hR : balRed (firstAndL n) (List.replicate (fst_ n) 0) S.1 (balLeaves n S (fst_ n + i)) = some T) : balTo n K (i + 1) = some (T.1, S.2 ++ [T.2]) := by
 rw [balTo, h]
 simp only [hK, if_true, hR]
theorem balTo_skip {n : NetL} {K : List Bool} {i : Nat} {S} (h : balTo n K i = some S) (hK : ¬ K.getD (fst_ n + i) default = true) : balTo n K (i + 1) = some (S.1, S.2 ++ [0]) := by
 rw [balTo, h]
 simp only [hK]
 rfl
theorem balL_none {n : NetL} {i : Nat} (hi : i ≤ n.ands.length) (h : balTo n (needL n) i = none) : balL n = n := by unfold balL; rw [balTo_none h _ hi]
theorem balL_some {n : NetL} {S} (h : balTo n (needL n) n.ands.length = some S) : balL n = sweepL (finN n S.1 S.2) := by unfold balL; rw [h]
structure BalS (n : NetL) (S : List (Int × Int) × List Int) (i : Nat) : Prop where
 b : Bld (firstAndL n) S.1 S.2
 len : S.2.length = fst_ n + i
theorem BalS.leaves {n : NetL} (h : NetOkP n) {S : List (Int × Int) × List Int} {i : Nat} (hS : BalS n S i) (hi : i < n.ands.length) : RedS (firstAndL n) (List.replicate (fst_ n) 0) S.1 (balLeaves n S (fst_ n + i)) := by
 have n1 := h.nums.n1
 have hm : ∀ x, x ∈ mapL S.2 (conjL n (fst_ n + i)) → litP x (firstAndL n + S.1.length) := fun x hx => by
  obtain ⟨m, h1, rfl⟩ := List.mem_map.1 hx
  exact hS.b.lit (by rw [hS.len]; exact (conjL_lit h hi h1).2)
 refine ⟨⟨hS.b.f1, hS.b.alen, hS.b.aok, (mem_iff_getD (p := fun x => litP x (firstAndL n + S.1.length))).1 fun x hx => ?_⟩, srt_insAll List.Pairwise.nil, ?_⟩
 ·unfold balLeaves at hx
  rw [mem_insAll] at hx
  rcases hx with hx | hx
  ·simp at hx
  ·exact hm x hx
 ·have hp := conjL_pos h (k := fst_ n + i) (by omega)
  have : (mapL S.2 (conjL n (fst_ n + i))).getD 0 default ∈ balLeaves n S (fst_ n + i) := mem_insAll.2 (.inr (getD_mem (by rw [mapL_len]; exact hp)))
  exact List.length_pos_of_mem this
theorem fst_rep {n : NetL} (h : NetOkP n) : (List.replicate (fst_ n) (0 : Int)).length = (firstAndL n).toNat := by
 have := h.nums.f2
 rw [List.length_replicate]; omega
theorem BalS.step {n : NetL} (h : NetOkP n) {S : List (Int × Int) × List Int} {i : Nat} (hS : BalS n S i) (hi : i < n.ands.length) {T : List (Int × Int) × Int} (hT : balRed (firstAndL n) (List.replicate (fst_ n) 0) S.1 (balLeaves n S (fst_ n + i)) = some T) : BalS n (T.1, S.2 ++ [T.2]) (i + 1) := by
 obtain ⟨⟨B, hB⟩, hb⟩ := red_ok (fst_rep h) (hS.leaves h hi) hT
 refine ⟨⟨hb.f1, hb.alen, hb.aok, fun j hj => ?_⟩, by simp [hS.len]; omega⟩
 dsimp only at hj ⊢
 rw [List.length_append, List.length_cons, List.length_nil] at hj
 by_cases hj2 : j < S.2.length
 ·rw [snoc_lt hj2]
  refine (hS.b.tok j hj2).mono ?_
  rw [hB, List.length_append]; omega
 ·obtain rfl : j = S.2.length := by omega
  rw [snoc_eq]
  exact hb.tok 0 (by simp)
theorem BalS.skip {n : NetL} {S : List (Int × Int) × List Int} {i : Nat} (hS : BalS n S i) : BalS n (S.1, S.2 ++ [0]) (i + 1) := by
 have f1 := hS.b.f1
 exact ⟨hS.b.snoc (by unfold litP; omega), by simp [hS.len]; omega⟩
theorem balTo_ok {n : NetL} (h : NetOkP n) {K : List Bool} : ∀ i, i ≤ n.ands.length → ∀ S, balTo n K i = some S → BalS n S i
 | 0, _, S, hS => by
  simp only [balTo, Option.some.injEq] at hS
  subst hS
  exact ⟨Bld.leaf h, leafL_len n⟩
 | i + 1, hi, S, hS => by
  cases hp : balTo n K i with
  | none => rw [balTo, hp] at hS; cases hS
  | some P =>
   have ih := balTo_ok h i (by omega) P hp
   by_cases hK : K.getD (fst_ n + i) default = true
   ·cases hR : balRed (firstAndL n) (List.replicate (fst_ n) 0) P.1 (balLeaves n P (fst_ n + i)) with
    | none => rw [balTo_fail hp hK hR] at hS; cases hS
    | some T =>
     rw [balTo_yes hp hK hR, Option.some.injEq] at hS
     subst hS
     exact ih.step h (by omega) hR
   ·rw [balTo_skip hp hK, Option.some.injEq] at hS
    subst hS
    exact ih.skip
theorem balF_ok {n : NetL} (h : NetOkP n) {S} (hS : balTo n (needL n) n.ands.length = some S) : NetOkP (finN n S.1 S.2) := by
 have r := balTo_ok h _ (Nat.le_refl _) S hS
 exact finN_ok h r.b (by rw [r.len, h.nums.n1]; exact Nat.le_refl _)
theorem balL_ok {n : NetL} (h : NetOkP n) : NetOkP (balL n) := by
 cases hS : balTo n (needL n) n.ands.length with
 | none => rw [balL_none (Nat.le_refl _) hS]; exact h
 | some S => rw [balL_some hS]; exact sweepL_ok (balF_ok h hS)
theorem balanceL_ok {n : NetL} (h : NetOkP n) : NetOkP (balanceL n) := balL_ok (hashL_ok h)
end Go.Xw
