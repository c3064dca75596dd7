/- Nets that are being built by retiming, and nets retimed backward and as long as the depth falls, as plain data; no condition. -/
import Derived.Test.YtbjgekllkfnjnaaRetLaw
set_option linter.all false
namespace Go.Xw

/-- a net without outputs whose AND nodes are being added -/
def netX (n : NetL) (S : List SeqL) (A : List (Int × Int)) : NetL := ⟨n.inputs, S, A, []⟩
structure SOk (n : NetL) (S : List SeqL) (f : Int) : Prop where
  len : S.length ≤ 12
  fe : f = 1 + n.inputs + S.length
  ok : ∀ s, s ∈ S → seqOkP s ∧ ∀ l, l ∈ s.ins → litP l f
theorem netX_first {n : NetL} {S : List SeqL} {A : List (Int × Int)} {f : Int} (h : SOk n S f) : firstAndL (netX n S A) = f := by unfold firstAndL netX; rw [h.fe]
theorem netX_nodes {n : NetL} {S : List SeqL} {A : List (Int × Int)} {f : Int} (h : SOk n S f) : nodesL (netX n S A) = f + A.length := by unfold nodesL netX; rw [h.fe]
theorem netX_ok {n : NetL} {S : List SeqL} {A : List (Int × Int)} {to : List Int} {f : Int} (h : NetOkP n) (hS : SOk n S f) (hB : Bld f A to) : NetOkP (netX n S A) := by
  obtain ⟨s1, _, _, _⟩ := h.size
  refine .mk' ⟨s1, hS.len, hB.alen, by simp [netX]⟩ (fun s hm => (hS.ok s hm).1) (fun o ho => by cases ho) (fun s hm l hl => ?_) (fun i hi => ?_)
  · rw [netX_nodes hS]; exact ((hS.ok s hm).2 l hl).mono (by omega)
  · rw [netX_first hS]; exact hB.aok i hi
/-- the sequential elements that retiming begins with -/
def bgS (n : NetL) (inits : List Int) : List SeqL := (zerL n []).seqs ++ inits.map fun v => ⟨0, v, [0]⟩
theorem bgS_len (n : NetL) (inits : List Int) : (bgS n inits).length = n.seqs.length + inits.length := by unfold bgS zerL; simp
theorem bgS_ok {n : NetL} (h : NetOkP n) {inits : List Int} (hl : n.seqs.length + inits.length ≤ 12) (hv : ∀ v, v ∈ inits → v = 0 ∨ v = 1) : SOk n (bgS n inits) (firstAndL n + inits.length) := by
  have hz := zerL_ok h (Bld.leaf h)
  have hc := h.count.1
  have hnz : nodesL (zerL n []) = firstAndL n := by have := firstAndL_zer n []; unfold firstAndL at this; unfold nodesL; rw [this]; simp [zerL, firstAndL]
  refine ⟨by rw [bgS_len]; exact hl, by rw [bgS_len]; unfold firstAndL; omega, fun s hs => ?_⟩
  rcases List.mem_append.1 hs with hs | hs
  · exact ⟨hz.sq s hs, fun l hl => (hz.inp hs l hl).mono (by rw [hnz]; omega)⟩
  · obtain ⟨v, hv1, rfl⟩ := List.mem_map.1 hs
    refine ⟨.inl ⟨rfl, ?_, rfl⟩, fun l hl => ?_⟩
    · have := hv v hv1
      show 0 ≤ v ∧ v ≤ 1
      omega
    · simp only [List.mem_singleton] at hl
      subst hl
      exact ⟨Int.le_refl _, by omega⟩
theorem Bld.set_ {f : Int} {A : List (Int × Int)} {to : List Int} (h : Bld f A to) {i : Nat} {y : Int} (hy : litP y (f + A.length)) : Bld f A (to.set i y) :=
  ⟨h.f1, h.alen, h.aok, fun j hj => by
    rw [List.length_set] at hj
    by_cases hij : j = i
    · subst hij
      simp only [List.getD_eq_getElem?_getD, List.getElem?_set_self hj, Option.getD_some]
      exact hy
    · have := h.tok j hj
      simp only [List.getD_eq_getElem?_getD, List.getElem?_set_ne (fun h => hij h.symm)] at this ⊢
      exact this⟩

/-! ### backward -/
def bwI (n : NetL) (s : Int) : Int := (n.seqs.getD s.toNat default).ins.getD 0 default
def bwV (n : NetL) (s : Int) : Int := bitX (n.seqs.getD s.toNat default).init (bwI n s)
def bwP (n : NetL) : List (Int × Int) × Int := addC (firstAndL n + 2) [] (2 * firstAndL n) (2 * firstAndL n + 2)
def bwOkP (n : NetL) (s : Int) : Prop := NetOkP n ∧ (0 ≤ s ∧ s < n.seqs.length) ∧ (n.seqs.getD s.toNat default).kind = 0 ∧ n.seqs.length ≤ 10 ∧ firstAndL n ≤ bwI n s / 2
def bwS (n : NetL) (s : Int) : List (Int × Int) × List Int := ((bwP n).1, (leafL n).set (1 + n.inputs + s).toNat (bitX (bwP n).2 (bwI n s)))
def bwT (n : NetL) (s : Int) (i : Nat) : Option (List (Int × Int) × List Int) := raTo (firstAndL n + 2) n (-1) 0 (bwS n s) i
def bwA (n : NetL) (s : Int) : Int × Int := n.ands.getD (bwI n s / 2 - firstAndL n).toNat default
def bwN (n : NetL) (s : Int) (T : List (Int × Int) × List Int) : NetL :=
  finX n T.1 T.2 ((mapS n T.2).set s.toNat ⟨0, (n.seqs.getD s.toNat default).init, [0]⟩ ++ [⟨0, bwV n s, [litV T.2 (bwA n s).1]⟩, ⟨0, bwV n s, [litV T.2 (bwA n s).2]⟩])
open Classical in
noncomputable def bwO (n : NetL) (s : Int) : Option NetL := if bwOkP n s then (if (bwP n).2 < 0 then none else (bwT n s n.ands.length).map (bwN n s)) else none
noncomputable def rbL (n : NetL) (s : Int) : NetL × Bool := match bwO n s with
  | some m => (pruneL m, true)
  | none => (n, false)
theorem rbL_no {n : NetL} {s : Int} (h : bwO n s = none) : rbL n s = (n, false) := by unfold rbL; rw [h]
theorem rbL_yes {n m : NetL} {s : Int} (h : bwO n s = some m) : rbL n s = (pruneL m, true) := by unfold rbL; rw [h]
theorem bwO_bad {n : NetL} {s : Int} (h : ¬ bwOkP n s) : bwO n s = none := by unfold bwO; rw [if_neg h]
theorem bwO_full {n : NetL} {s : Int} (h : bwOkP n s) (hn : (bwP n).2 < 0) : bwO n s = none := by unfold bwO; rw [if_pos h, if_pos hn]
theorem bwO_none {n : NetL} {s : Int} {i : Nat} (h : bwOkP n s) (hn : ¬ (bwP n).2 < 0) (hi : i ≤ n.ands.length) (hT : bwT n s i = none) : bwO n s = none := by
  unfold bwO; rw [if_pos h, if_neg hn, show bwT n s n.ands.length = none from raTo_none hT hi]; rfl
theorem bwO_some {n : NetL} {s : Int} {T : List (Int × Int) × List Int} (h : bwOkP n s) (hn : ¬ (bwP n).2 < 0) (hT : bwT n s n.ands.length = some T) : bwO n s = some (bwN n s T) := by
  unfold bwO; rw [if_pos h, if_neg hn, hT]; rfl
theorem bwI_lit {n : NetL} {s : Int} (h : bwOkP n s) : litP (bwI n s) (nodesL n) ∧ (n.seqs.getD s.toNat default).ins.length = 1 ∧ ((n.seqs.getD s.toNat default).init = 0 ∨ (n.seqs.getD s.toNat default).init = 1) := by
  obtain ⟨hok, hs, hk, _, _⟩ := h
  have hs2 : s.toNat < n.seqs.length := by omega
  rcases hok.seqs _ hs2 with ⟨_, k2, k3⟩ | ⟨k1, _⟩
  · exact ⟨hok.inp (getD_mem hs2) _ (getD_mem (by omega)), k3, by omega⟩
  · rw [hk] at k1; exact absurd k1 (by decide)
theorem bwK_lt {n : NetL} {s : Int} (h : bwOkP n s) : 0 ≤ bwI n s / 2 - firstAndL n ∧ bwI n s / 2 - firstAndL n < n.ands.length := by
  have h1 := (bwI_lit h).1
  have h2 := h.1.count
  have h3 := h.2.2.2.2
  unfold litP at h1
  omega
theorem bwV_01 {n : NetL} {s : Int} (h : bwOkP n s) : bwV n s = 0 ∨ bwV n s = 1 := bitX_01 (bwI_lit h).2.2
theorem bw_two {n : NetL} (h : NetOkP n) : litP (2 * firstAndL n) (firstAndL n + 2) ∧ litP (2 * firstAndL n + 2) (firstAndL n + 2) := by
  have := h.count.1
  unfold litP
  omega
theorem bw_bld {n : NetL} (h : NetOkP n) (hl : n.seqs.length ≤ 10) : Bld (firstAndL n + 2) [] (leafL n) := by
  have hb := Bld.leaf h
  have hs := h.size
  unfold sizeOk at hs
  exact ⟨⟨by have := hb.f1; omega, by unfold firstAndL; omega⟩, by simp, fun i hi => by simp at hi, fun i hi => (hb.tok i hi).mono (by simp; omega)⟩
theorem bw_start {n : NetL} {s : Int} (h : bwOkP n s) (hn : ¬ (bwP n).2 < 0) : RaOk (firstAndL n + 2) n (bwS n s) 0 := by
  have hb := bw_bld h.1 h.2.2.2.1
  obtain ⟨l1, l2⟩ := bw_two h.1
  have hB : Bld (firstAndL n + 2) (bwP n).1 (leafL n) := hb.add (l1.mono (by simp)) (l2.mono (by simp))
  have hlit : litP (bwP n).2 (firstAndL n + 2 + (bwP n).1.length) := by
    rcases hb.addLit (l1.mono (by simp)) (l2.mono (by simp)) with h1 | ⟨h1, _⟩
    · exact h1
    · have : (bwP n).2 = -1 := by unfold bwP; rw [h1]
      omega
  have f1 := hB.f1
  have f2 := hB.alen
  exact ⟨hB.set_ (bitX_lit hlit (by omega)), by unfold bwS; rw [List.length_set, leafL_len]; rfl⟩
theorem bwT_ok {n : NetL} {s : Int} (h : bwOkP n s) (hn : ¬ (bwP n).2 < 0) {i : Nat} (hi : i ≤ n.ands.length) {T : List (Int × Int) × List Int} (hT : bwT n s i = some T) : RaOk (firstAndL n + 2) n T i :=
  raTo_ok h.1 (bw_start h hn) (by have := h.1.count; unfold litP; omega) i hi T hT
theorem bwN_ok {n : NetL} {s : Int} (h : bwOkP n s) {T : List (Int × Int) × List Int} (r : RaOk (firstAndL n + 2) n T n.ands.length) : NetOkP (bwN n s T) := by
  have hok := h.1
  have hn1 := hok.nums.n1
  have hl1 := r.len
  have hB := r.b
  have hc := hok.count
  have hk := bwK_lt h
  have hi := bwI_lit h
  obtain ⟨q1, q2⟩ := hok.andP (show (bwI n s / 2 - firstAndL n).toNat < n.ands.length by omega)
  have g2 := hok.nums.f2
  have l1 : litP (litV T.2 (bwA n s).1) (firstAndL n + 2 + T.1.length) := r.b.lit (by unfold litP at q1; unfold bwA; omega)
  have l2 : litP (litV T.2 (bwA n s).2) (firstAndL n + 2 + T.1.length) := r.b.lit (by unfold litP at q2; unfold bwA; omega)
  have hlen : ((mapS n T.2).set s.toNat ⟨0, (n.seqs.getD s.toNat default).init, [0]⟩).length = n.seqs.length := by rw [List.length_set, mapS_len]
  have h10 := h.2.2.2.1
  refine finX_ok hok hB (by rw [List.length_append, hlen]; unfold firstAndL; simp; omega) (by omega) (by rw [List.length_append, hlen]; simp; omega) fun x hx => ?_
  rcases List.mem_append.1 hx with hx | hx
  · rcases List.mem_or_eq_of_mem_set hx with hx | hx
    · exact mapS_ok hok hB (by omega) x hx
    · subst hx
      refine ⟨.inl ⟨rfl, ?_, rfl⟩, fun l hl => ?_⟩
      · rcases hi.2.2 with e | e <;> (show 0 ≤ _ ∧ _ ≤ _; rw [e]; decide)
      · simp only [List.mem_singleton] at hl
        subst hl
        exact ⟨Int.le_refl _, by omega⟩
  · simp only [List.mem_cons, List.mem_nil_iff, or_false] at hx
    have hv := bwV_01 h
    rcases hx with rfl | rfl
    · exact ⟨.inl ⟨rfl, by show 0 ≤ bwV n s ∧ bwV n s ≤ 1; omega, rfl⟩, fun l hl => by simp only [List.mem_singleton] at hl; subst hl; exact l1⟩
    · exact ⟨.inl ⟨rfl, by show 0 ≤ bwV n s ∧ bwV n s ≤ 1; omega, rfl⟩, fun l hl => by simp only [List.mem_singleton] at hl; subst hl; exact l2⟩
theorem bwO_ok {n m : NetL} {s : Int} (h : bwO n s = some m) : NetOkP m := by
  unfold bwO at h
  split at h
  · rename_i hc
    split at h
    · cases h
    · rename_i hn
      cases hT : bwT n s n.ands.length with
      | none => rw [hT] at h; cases h
      | some T =>
        rw [hT] at h
        injection h with h
        subst h
        exact bwN_ok hc (bwT_ok hc hn (Nat.le_refl _) hT)
  · cases h
theorem sRetB {n : NetL} (h : NetS n) (s : Int) : NetS (rbL n s).1 := by
  cases hf : bwO n s with
  | none => rw [rbL_no hf]; exact h
  | some m => rw [rbL_yes hf]; exact (pruneL_ok (bwO_ok hf)).S'

/-! ### as long as the depth falls -/
theorem rfL_ok {n : NetL} (h : NetOkP n) (k : Int) : NetOkP (rfL n k).1 := by
  unfold rfL
  cases hf : fwO n k with
  | none => exact h
  | some m => exact pruneL_ok (fwO_ok hf)
/-- the first AND node among those below k whose retiming makes the depth less -/
noncomputable def raIn (n : NetL) : Nat → NetL × Bool
  | 0 => (n, false)
  | k + 1 => if (raIn n k).2 = true then raIn n k else if (rfL n k).2 = true ∧ depthL (rfL n k).1 < depthL n then ((rfL n k).1, true) else (n, false)
theorem raIn_no {n : NetL} {k : Nat} (h : (raIn n k).2 = false) : (raIn n k).1 = n := by
  cases k with
  | zero => rfl
  | succ k =>
    unfold raIn at h ⊢
    split
    · rename_i h1
      rw [if_pos h1] at h
      rw [h1] at h; cases h
    · rename_i h1
      rw [if_neg h1] at h
      split
      · rename_i h2
        rw [if_pos h2] at h
        cases h
      · rfl
theorem raIn_ok {n : NetL} (h : NetOkP n) : ∀ k, NetOkP (raIn n k).1
  | 0 => h
  | k + 1 => by
    unfold raIn
    split
    · exact raIn_ok h k
    · split
      · exact rfL_ok h k
      · exact h
theorem raIn_stay {n : NetL} {k : Nat} (h : (raIn n k).2 = true) : ∀ {m : Nat}, k ≤ m → raIn n m = raIn n k := by
  intro m hm
  induction hm with
  | refl => rfl
  | step hm ih => rw [raIn, ih, if_pos h]
noncomputable def raAll : Nat → NetL → NetL
  | 0, n => n
  | j + 1, n => if (raIn n n.ands.length).2 = true then raAll j (raIn n n.ands.length).1 else n
noncomputable def rallL (n : NetL) : NetL := raAll 8 (pruneL n)
theorem raAll_ok : ∀ j {n : NetL}, NetOkP n → NetOkP (raAll j n)
  | 0, _, h => h
  | j + 1, n, h => by
    unfold raAll
    split
    · exact raAll_ok j (raIn_ok h _)
    · exact h
theorem rallL_ok {n : NetL} (h : NetOkP n) : NetOkP (rallL n) := raAll_ok 8 (pruneL_ok h)
theorem sRetAll {n : NetL} (_ : NetS n) : NetS (ifNet n (rallL n)) := ifNet_S rallL_ok
end Go.Xw
