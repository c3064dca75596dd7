/- The program's search, round by round, as plain data; no condition but the stated ones. -/
import Derived.Test.YtbjgekllkfnjnaaLblPr2
import Derived.Test.YtbjgekllkfnjnaaMaps4
import Derived.Test.YtbjgekllkfnjnaaLblV
import Derived.Test.YtbjgekllkfnjnaaLblSp
set_option linter.all false
namespace Go.Xw
set_option maxHeartbeats 1000000
abbrev Fr := List ((Nat × Bool) × (Nat × Bool))
theorem key_mem {FR : Fr} {x : Nat × Bool} : KeyIn FR x ↔ ∃ p, p ∈ FR ∧ p.1 = x := by
 constructor
 ·rintro ⟨i, hi, h⟩
  refine ⟨FR[i], List.getElem_mem hi, ?_⟩
  rw [List.getD_eq_getElem?_getD, List.getElem?_eq_getElem hi] at h
  exact h
 ·rintro ⟨p, hp, h⟩
  obtain ⟨i, hi, he⟩ := List.getElem_of_mem hp
  refine ⟨i, hi, ?_⟩
  rw [List.getD_eq_getElem?_getD, List.getElem?_eq_getElem hi]
  show (FR[i]).1 = x
  rw [he, h]
theorem mget_key {FR : Fr} {x : Nat × Bool} : mget FR x = none ↔ ¬ KeyIn FR x := by
 rw [mget_none, key_mem]
 constructor
 ·rintro h ⟨p, hp, he⟩; exact h p hp he
 ·intro h p hp he; exact h ⟨p, hp, he⟩
theorem mget_at {FR : Fr} (hn : (FR.map Prod.fst).Nodup) {j : Nat} (hj : j < FR.length) : mget FR (FR.getD j default).1 = some (FR.getD j default).2 := by
 refine mget_mem hn ?_
 rw [List.getD_eq_getElem?_getD, List.getElem?_eq_getElem hj]
 exact List.getElem_mem hj
theorem key_some {FR : Fr} {x : Nat × Bool} : (mget FR x).isSome = true ↔ KeyIn FR x := by
 cases h : mget FR x with
 | none => simp [mget_key.1 h]
 | some v => simp; exact Classical.byContradiction fun hh => by rw [mget_key.2 hh] at h; cases h
def visL (FR : Fr) (s x : Nat × Bool) : Fr := if mget FR s = none then FR ++ [(s, x)] else FR
def qOf (FR : Fr) (q : Nat) : List (Nat × Bool) := (FR.drop q).map Prod.fst
theorem qOf_len (FR : Fr) (q : Nat) : (qOf FR q).length = FR.length - q := by unfold qOf; simp
theorem qOf_cons {FR : Fr} {q : Nat} (h : q < FR.length) : qOf FR q = (FR.getD q default).1 :: qOf FR (q + 1) := by
 unfold qOf
 rw [List.drop_eq_getElem_cons h, List.map_cons, List.getD_eq_getElem?_getD, List.getElem?_eq_getElem h]; rfl
theorem qOf_add {FR : Fr} {q : Nat} (h : q ≤ FR.length) (s x : Nat × Bool) : qOf (FR ++ [(s, x)]) q = qOf FR q ++ [s] := by
 unfold qOf
 rw [List.drop_append_of_le_length h, List.map_append]; rfl
theorem KeyIn.vis {FR : Fr} {z : Nat × Bool} (h : KeyIn FR z) (s x : Nat × Bool) : KeyIn (visL FR s x) z := by
 obtain ⟨p, hp, he⟩ := key_mem.1 h
 refine key_mem.2 ⟨p, ?_, he⟩
 unfold visL; split
 ·exact List.mem_append_left _ hp
 ·exact hp
structure AtQ (G : GrF) (f : Flo) (k0 : Nat) (FR : Fr) (q : Nat) (x : Nat × Bool) : Prop where
 sr : PSr G f k0 FR q
 lt : q < FR.length
 at_ : (FR.getD q default).1 = x
theorem AtQ.key {G : GrF} {f : Flo} {k0 : Nat} {FR : Fr} {q : Nat} {x : Nat × Bool} (h : AtQ G f k0 FR q x) : KeyIn FR x := ⟨q, h.lt, h.at_⟩
theorem AtQ.visit {G : GrF} {f : Flo} {k0 : Nat} {FR : Fr} {q : Nat} {x s : Nat × Bool} (h : AtQ G f k0 FR q x) (hN : s.1 < G.N) (hs : s.1 = 0 ∨ (x.1 ≠ 0 ∧ Stp G f x s)) : AtQ G f k0 (visL FR s x) q x ∧ KeyIn (visL FR s x) s := by
 unfold visL
 by_cases hg : mget FR s = none
 ·rw [if_pos hg]
  have hlt := h.lt
  refine ⟨⟨h.sr.add (mget_key.1 hg) hN h.key hs, by simp; omega, ?_⟩, ⟨FR.length, by simp, by rw [snoc_eq]⟩⟩
  rw [snoc_lt hlt]; exact h.at_
 ·rw [if_neg hg]
  exact ⟨h, Classical.byContradiction fun hh => hg (mget_key.2 hh)⟩
theorem PSr.len {G : GrF} {f : Flo} {k0 : Nat} {FR : Fr} {q : Nat} (h : PSr G f k0 FR q) : FR.length ≤ 2 * G.N := by
 have h2 : ((FR.map Prod.fst).map fun x : Nat × Bool => 2 * x.1 + if x.2 then 1 else 0).Nodup := by
  unfold List.Nodup
  rw [List.pairwise_map]
  refine List.Pairwise.imp ?_ h.nd
  rintro ⟨a, b⟩ ⟨c, d⟩ hne heq
  apply hne
  cases b <;> cases d <;> simp at heq ⊢ <;> omega
 have h3 := nodup_ltX (2 * G.N) _ h2 fun z hz => by
  obtain ⟨y, hy, rfl⟩ := List.mem_map.1 hz
  obtain ⟨p, hp, rfl⟩ := List.mem_map.1 hy
  have := h.dom p hp
  split <;> omega
 simpa using h3
theorem PSr.cone {n : NetL} {k0 : Nat} {L : List Int} {h : Int} {f : Flo} (hf : FlP (lgG n k0 L h) f) {FR : Fr} {q : Nat} (hP : PSr (lgG n k0 L h) f k0 FR q) {k : Nat} {b : Bool} (hk : KeyIn FR (k, b)) (h0 : k ≠ 0) : InCone n k0 k := by
 obtain ⟨i, hi, he⟩ := hk
 have r := hP.reach (.inl rfl) (i + 1) i (by omega) hi (by rw [he]; exact h0)
 rw [he] at r
 clear he h0 hi
 have : ∀ k b, Rch (lgG n k0 L h) f k b → InCone n k0 k := fun k b r => by
  induction r with
  | srcT h => rcases h with rfl | h; exact .refl _; exact h.1
  | srcF h => rcases h with rfl | h; exact .refl _; exact h.1
  | thru _ _ _ ih => exact ih
  | @undo k p _ h0 ih => exact (hf.ea p k (by omega)).1
  | arc _ ha ih => exact lgArc.cone ha
  | rev _ _ ih => exact ih
 exact this _ _ r
theorem fst_and {n : NetL} (hn : Nums n) {k : Nat} (h : fst_ n ≤ k) (hk : k < nds n) : k - fst_ n < n.ands.length ∧ k = fst_ n + (k - fst_ n) := by
 have := hn.n1; omega
theorem NetOkP.andN {n : NetL} (h : NetOkP n) {i : Nat} (hi : i < n.ands.length) : 0 ≤ (n.ands.getD i default).1 ∧ (n.ands.getD i default).1 / 2 < firstAndL n + i ∧ 0 ≤ (n.ands.getD i default).2 ∧ (n.ands.getD i default).2 / 2 < firstAndL n + i := by
 have h1 := h.ands i hi
 unfold litP at h1
 exact ⟨h1.1.1, h1.1.2, h1.2.1, h1.2.2⟩
theorem kidL_mem {n : NetL} {k : Nat} {z : Int} (hok : NetOkP n) (hk : k < nds n) (h : z ∈ kidL n k) : ∃ c i, z = ((c : Nat) : Int) ∧ i < n.ands.length ∧ k = fst_ n + i ∧ (c = kA n i ∨ c = kB n i) := by
 have hn := hok.nums
 unfold kidL at h
 by_cases h1 : k < fst_ n
 ·rw [if_pos h1] at h; cases h
 ·rw [if_neg h1] at h
  obtain ⟨h2, h3⟩ := fst_and hn (by omega) hk
  obtain ⟨q1, q2, q3, q4⟩ := hok.andN h2
  have h : z = (n.ands.getD (k - fst_ n) default).1 / 2 ∨ z = (n.ands.getD (k - fst_ n) default).2 / 2 := by
   split at h
   ·simp at h; exact .inl h
   ·simpa using h
  rcases h with rfl | rfl
  ·exact ⟨kA n (k - fst_ n), k - fst_ n, by unfold kA; omega, h2, h3, .inl rfl⟩
  ·exact ⟨kB n (k - fst_ n), k - fst_ n, by unfold kB; omega, h2, h3, .inr rfl⟩
theorem kidL_has {n : NetL} (hok : NetOkP n) {i c : Nat} (hi : i < n.ands.length) (hc : c = kA n i ∨ c = kB n i) : ((c : Nat) : Int) ∈ kidL n (fst_ n + i) := by
 obtain ⟨q1, q2, q3, q4⟩ := hok.andN hi
 unfold kidL
 rw [if_neg (by omega), Nat.add_sub_cancel_left]
 by_cases he : (n.ands.getD i default).1 / 2 = (n.ands.getD i default).2 / 2
 ·rw [if_pos he]
  rw [List.mem_singleton]
  rcases hc with rfl | rfl
  ·unfold kA; omega
  ·unfold kB; omega
 ·rw [if_neg he, List.mem_cons, List.mem_singleton]
  rcases hc with rfl | rfl
  ·exact .inl (by unfold kA; omega)
  ·exact .inr (by unfold kB; omega)
section
variable {n : NetL} {k0 : Nat} {L : List Int} {h : Int} {f : Flo} {FR : Fr} {q k : Nat}
theorem out_thru (hq : AtQ (lgG n k0 L h) f k0 FR q (k, true)) (ht : lgFree n k0 L h k ∨ f.g k = 0) : k = 0 ∨ (k ≠ 0 ∧ Stp (lgG n k0 L h) f (k, true) (k, false)) := by
 by_cases h0 : k = 0
 ·exact .inl h0
 ·exact .inr ⟨h0, .thru ht⟩
theorem out_undo (hf : FlP (lgG n k0 L h) f) {p : Nat} (he : 0 < f.e p k) : p = 0 ∨ (k ≠ 0 ∧ Stp (lgG n k0 L h) f (k, true) (p, false)) := by
 have ha := hf.ea p k (by omega)
 exact .inr ⟨ha.2.1, .undo he ha⟩
theorem out_round (hn : Nums n) (hf : FlP (lgG n k0 L h) f) (hq : AtQ (lgG n k0 L h) f k0 FR q (k, true)) (ht : lgFree n k0 L h k ∨ f.g k = 0 → KeyIn FR (k, false)) (hu : ∀ p, p < nds n → 0 < f.e p k → KeyIn FR (p, false)) : PSr (lgG n k0 L h) f k0 FR (q + 1) := by
 refine hq.sr.next hq.lt (fun s hs => ?_) (fun k' hk' => ?_)
 ·rw [hq.at_] at hs
  cases hs with
  | thru h => exact ht h
  | undo h ha => exact hu _ (lgArc.lt hn ha).2.2.2 h
 ·rw [hq.at_] at hk'; cases hk'
theorem in_arc (hok : NetOkP n) (hf : FlP (lgG n k0 L h) f) (hq : AtQ (lgG n k0 L h) f k0 FR q (k, false)) {c : Nat} (hk : k < nds n) (hc : ((c : Nat) : Int) ∈ kidL n k) : c < nds n ∧ (c = 0 ∨ (k ≠ 0 ∧ Stp (lgG n k0 L h) f (k, false) (c, true))) := by
 obtain ⟨c', i, hc', hi, hki, hcc⟩ := kidL_mem hok hk hc
 obtain rfl : c = c' := by omega
 have hn := hok.nums
 have ka := hn.ka i hi
 have kb := hn.kb i hi
 have f1 := hn.f1
 refine ⟨by rcases hcc with rfl | rfl <;> omega, ?_⟩
 by_cases h0 : c = 0
 ·exact .inl h0
 ·have hk0 : k ≠ 0 := by omega
  exact .inr ⟨hk0, .arc ⟨hq.sr.cone hf hq.key hk0, h0, i, hi, hki, hcc⟩⟩
theorem in_rev (hg : 0 < f.g k) : k = 0 ∨ (k ≠ 0 ∧ Stp (lgG n k0 L h) f (k, false) (k, true)) := by
 by_cases h0 : k = 0
 ·exact .inl h0
 ·exact .inr ⟨h0, .rev hg⟩
theorem in_round (hok : NetOkP n) (hq : AtQ (lgG n k0 L h) f k0 FR q (k, false)) (hl : ¬ (0 < k ∧ k < fst_ n)) (ha : ∀ c, ((c : Nat) : Int) ∈ kidL n k → KeyIn FR (c, true)) (hr : 0 < f.g k → KeyIn FR (k, true)) : PSr (lgG n k0 L h) f k0 FR (q + 1) := by
 refine hq.sr.next hq.lt (fun s hs => ?_) (fun k' hk' => ?_)
 ·rw [hq.at_] at hs
  cases hs with
  | rev h => exact hr h
  | arc h =>
   obtain ⟨_, _, i, hi, rfl, hc⟩ := h
   exact ha _ (kidL_has hok hi hc)
 ·rw [hq.at_] at hk'
  injection hk' with hk' _
  subst hk'
  exact hl
end
structure FlwP (n : NetL) (k0 : Nat) (L : List Int) (h : Int) (B F : List Bool) (I : List Int) (E : Nat × Nat → Int) (f : Flo) : Prop where
 cl : B.length = nds n
 cone : ∀ k, k < nds n → (B.getD k default = true ↔ InCone n k0 k)
 fl : F.length = nds n
 free : ∀ k, k < nds n → (F.getD k default = true ↔ lgFree n k0 L h k)
 rep : RepP (nds n) I E f
 fp : FlP (lgG n k0 L h) f
end Go.Xw
