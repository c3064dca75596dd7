/- Retimed nets, as plain data; no condition. -/
import Derived.Test.YtbjgekllkfnjnaaMapLaw
import Derived.Test.YtbjgekllkfnjnaaPruneLaw
set_option linter.all false
namespace Go.Xw

/-- the AND nodes added one by one; the one with index skip is the literal inst instead -/
def raTo (f : Int) (n : NetL) (skip inst : Int) (S : List (Int × Int) × List Int) : Nat → Option (List (Int × Int) × List Int)
  | 0 => some S
  | i + 1 => match raTo f n skip inst S i with
    | none => none
    | some T => if (i : Int) = skip then some (T.1, T.2 ++ [inst])
      else if (addC f T.1 (litV T.2 (n.ands.getD i default).1) (litV T.2 (n.ands.getD i default).2)).2 < 0 then none
      else some ((addC f T.1 (litV T.2 (n.ands.getD i default).1) (litV T.2 (n.ands.getD i default).2)).1, T.2 ++ [(addC f T.1 (litV T.2 (n.ands.getD i default).1) (litV T.2 (n.ands.getD i default).2)).2])
theorem raTo_skip {f : Int} {n : NetL} {skip inst : Int} {S T : List (Int × Int) × List Int} {i : Nat} (h : raTo f n skip inst S i = some T) (hs : (i : Int) = skip) : raTo f n skip inst S (i + 1) = some (T.1, T.2 ++ [inst]) := by
  simp only [raTo, h, if_pos hs]
theorem raTo_no {f : Int} {n : NetL} {skip inst : Int} {S T : List (Int × Int) × List Int} {i : Nat} (h : raTo f n skip inst S i = some T) (hs : ¬ (i : Int) = skip) (hn : (addC f T.1 (litV T.2 (n.ands.getD i default).1) (litV T.2 (n.ands.getD i default).2)).2 < 0) : raTo f n skip inst S (i + 1) = none := by
  simp only [raTo, h, if_neg hs, if_pos hn]
theorem raTo_yes {f : Int} {n : NetL} {skip inst : Int} {S T : List (Int × Int) × List Int} {i : Nat} (h : raTo f n skip inst S i = some T) (hs : ¬ (i : Int) = skip) (hn : ¬ (addC f T.1 (litV T.2 (n.ands.getD i default).1) (litV T.2 (n.ands.getD i default).2)).2 < 0) :
    raTo f n skip inst S (i + 1) = some ((addC f T.1 (litV T.2 (n.ands.getD i default).1) (litV T.2 (n.ands.getD i default).2)).1, T.2 ++ [(addC f T.1 (litV T.2 (n.ands.getD i default).1) (litV T.2 (n.ands.getD i default).2)).2]) := by
  simp only [raTo, h, if_neg hs, if_neg hn]
theorem raTo_none {f : Int} {n : NetL} {skip inst : Int} {S : List (Int × Int) × List Int} {i : Nat} (h : raTo f n skip inst S i = none) : ∀ {j : Nat}, i ≤ j → raTo f n skip inst S j = none := by
  intro j hj
  induction hj with
  | refl => exact h
  | step _ ih => simp only [raTo, ih]
structure RaOk (f : Int) (n : NetL) (S : List (Int × Int) × List Int) (i : Nat) : Prop where
  b : Bld f S.1 S.2
  len : S.2.length = fst_ n + i
theorem RaOk.lits {f : Int} {n : NetL} (h : NetOkP n) {T : List (Int × Int) × List Int} {i : Nat} (r : RaOk f n T i) (hi : i < n.ands.length) :
    litP (litV T.2 (n.ands.getD i default).1) (f + T.1.length) ∧ litP (litV T.2 (n.ands.getD i default).2) (f + T.1.length) := by
  have f2 := h.nums.f2
  have hl := r.len
  obtain ⟨q1, q2⟩ := h.andP hi
  unfold litP at q1 q2
  exact ⟨r.b.lit (by omega), r.b.lit (by omega)⟩
theorem raTo_ok {f : Int} {n : NetL} (h : NetOkP n) {skip inst : Int} {S : List (Int × Int) × List Int} (h0 : RaOk f n S 0) (hinst : litP inst f) : ∀ i, i ≤ n.ands.length → ∀ T, raTo f n skip inst S i = some T → RaOk f n T i
  | 0, _, T, hT => by simp only [raTo, Option.some.injEq] at hT; subst hT; exact h0
  | i + 1, hi, T, hT => by
    cases hp : raTo f n skip inst S i with
    | none => simp only [raTo, hp] at hT; cases hT
    | some P =>
      have ih := raTo_ok h h0 hinst i (by omega) P hp
      obtain ⟨l1, l2⟩ := ih.lits h (by omega)
      have hl := ih.len
      by_cases hs : (i : Int) = skip
      · rw [raTo_skip hp hs] at hT
        injection hT with hT
        subst hT
        exact ⟨ih.b.snoc (hinst.mono (by omega)), by simp; omega⟩
      · by_cases hn : (addC f P.1 (litV P.2 (n.ands.getD i default).1) (litV P.2 (n.ands.getD i default).2)).2 < 0
        · rw [raTo_no hp hs hn] at hT; cases hT
        · rw [raTo_yes hp hs hn] at hT
          injection hT with hT
          subst hT
          exact ⟨ih.b.step l1 l2 (by omega), by simp; omega⟩

/-- a net with more sequential elements at the end -/
def finX (n : NetL) (A : List (Int × Int)) (to : List Int) (S : List SeqL) : NetL := ⟨n.inputs, S, A, mapL to n.outs⟩
def mapS (n : NetL) (to : List Int) : List SeqL := n.seqs.map fun s => ⟨s.kind, s.init, mapL to s.ins⟩
theorem mapS_len (n : NetL) (to : List Int) : (mapS n to).length = n.seqs.length := by simp [mapS]
theorem finX_ok {n : NetL} (h : NetOkP n) {A : List (Int × Int)} {to : List Int} {S : List SeqL} {f : Int} (hb : Bld f A to) (hf : f = 1 + n.inputs + S.length) (ht : nds n ≤ to.length) (hS : S.length ≤ 12)
    (hs : ∀ s, s ∈ S → seqOkP s ∧ ∀ l, l ∈ s.ins → litP l (f + A.length)) : NetOkP (finX n A to S) := by
  obtain ⟨s1, s2, s3, s4⟩ := h.size
  have hn := h.nums
  have hnd : nodesL (finX n A to S) = f + A.length := by unfold nodesL finX; rw [hf]
  refine .mk' ⟨s1, hS, hb.alen, by simp [finX, mapL]; omega⟩ (fun s hm => (hs s hm).1) (fun o ho => ?_) (fun s hm l hl => ?_) (fun i hi => ?_)
  · rw [hnd]
    obtain ⟨l, hl1, rfl⟩ := List.mem_map.1 ho
    exact hb.lit (by have := (h.out l hl1).nat hn; omega)
  · rw [hnd]; exact (hs s hm).2 l hl
  · have : firstAndL (finX n A to S) = f := by unfold firstAndL finX; rw [hf]
    rw [this]; exact hb.aok i hi
theorem mapS_ok {n : NetL} (h : NetOkP n) {A : List (Int × Int)} {to : List Int} {f : Int} (hb : Bld f A to) (ht : nds n ≤ to.length) : ∀ s, s ∈ mapS n to → seqOkP s ∧ ∀ l, l ∈ s.ins → litP l (f + A.length) := fun s hs => by
  have hn := h.nums
  obtain ⟨t, ht1, rfl⟩ := List.mem_map.1 hs
  refine ⟨?_, fun l hl => ?_⟩
  · have := h.sq t ht1
    unfold seqOkP at this ⊢
    simpa [mapL] using this
  · obtain ⟨l', hl1, rfl⟩ := List.mem_map.1 hl
    exact hb.lit (by have := (h.inp ht1 l' hl1).nat hn; omega)

/-! ### forward -/
/-- the flip-flop of a literal, or -1 -/
def flopL (n : NetL) (l : Int) : Int := if 0 ≤ l / 2 - (1 + n.inputs) ∧ l / 2 - (1 + n.inputs) < n.seqs.length ∧ (n.seqs.getD (l / 2 - (1 + n.inputs)).toNat default).kind = 0 then l / 2 - (1 + n.inputs) else -1
def bitX (v l : Int) : Int := bits .xor .i64 v (bits .and .i64 l 1)
theorem bitX_01 {v l : Int} (hv : v = 0 ∨ v = 1) : bitX v l = 0 ∨ bitX v l = 1 := by
  unfold bitX
  rw [bits_and_one]
  have : l % 2 = 0 ∨ l % 2 = 1 := by omega
  rw [xor_01 hv this]
  split <;> omega
theorem bitX_lit {v l k : Int} (hv : litP v k) (hk : k ≤ 1000000) : litP (bitX v l) k := by
  have hv' := hv
  unfold litP at hv'
  unfold bitX
  rw [bits_and_one]
  have : l % 2 = 0 ∨ l % 2 = 1 := by omega
  rcases this with h | h
  · rw [h, xor_zero hv'.1 (by omega)]; exact hv
  · rw [h]; exact litP_not hv hk
def fwOkP (n : NetL) (k : Int) : Prop := NetOkP n ∧ (0 ≤ k ∧ k < n.ands.length) ∧ n.seqs.length < 12 ∧ 0 ≤ flopL n (n.ands.getD k.toNat default).1 ∧ 0 ≤ flopL n (n.ands.getD k.toNat default).2
def fwInit (n : NetL) (a b : Int) : Int := bits .and .i64 (bitX (n.seqs.getD (flopL n a).toNat default).init a) (bitX (n.seqs.getD (flopL n b).toNat default).init b)
def fwA (n : NetL) (to : List Int) (a : Int) : Int := bitX (litV to ((n.seqs.getD (flopL n a).toNat default).ins.getD 0 default)) a
def fwN (n : NetL) (a b : Int) (T : List (Int × Int) × List Int) : Option NetL :=
  if (addC (firstAndL n + 1) T.1 (fwA n T.2 a) (fwA n T.2 b)).2 < 0 then none
  else some (finX n (addC (firstAndL n + 1) T.1 (fwA n T.2 a) (fwA n T.2 b)).1 T.2 (mapS n T.2 ++ [⟨0, fwInit n a b, [(addC (firstAndL n + 1) T.1 (fwA n T.2 a) (fwA n T.2 b)).2]⟩]))
def fwT (n : NetL) (k : Int) (i : Nat) : Option (List (Int × Int) × List Int) := raTo (firstAndL n + 1) n k (2 * firstAndL n) ([], leafL n) i
open Classical in
noncomputable def fwO (n : NetL) (k : Int) : Option NetL := if fwOkP n k then (fwT n k n.ands.length).bind (fwN n (n.ands.getD k.toNat default).1 (n.ands.getD k.toNat default).2) else none
noncomputable def rfL (n : NetL) (k : Int) : NetL × Bool := match fwO n k with
  | some m => (pruneL m, true)
  | none => (n, false)
theorem flopL_yes {n : NetL} {l : Int} (h : 0 ≤ flopL n l) : (flopL n l).toNat < n.seqs.length ∧ ((n.seqs.getD (flopL n l).toNat default).kind = 0) ∧ flopL n l = l / 2 - (1 + n.inputs) := by
  unfold flopL at h ⊢
  split at h
  · rename_i h1
    rw [if_pos h1]
    exact ⟨by omega, h1.2.2, rfl⟩
  · exact absurd h (by decide)
theorem flopL_seq {n : NetL} (hok : NetOkP n) {l : Int} (h : 0 ≤ flopL n l) : (n.seqs.getD (flopL n l).toNat default).ins.length = 1 ∧ ((n.seqs.getD (flopL n l).toNat default).init = 0 ∨ (n.seqs.getD (flopL n l).toNat default).init = 1) := by
  obtain ⟨h1, h2, _⟩ := flopL_yes h
  rcases hok.seqs _ h1 with ⟨k1, k2, k3⟩ | ⟨k1, _⟩
  · exact ⟨k3, by omega⟩
  · rw [h2] at k1; exact absurd k1 (by decide)
theorem fw_start {n : NetL} (h : NetOkP n) (hl : n.seqs.length < 12) : RaOk (firstAndL n + 1) n ([], leafL n) 0 := by
  have hb := Bld.leaf h
  have hs := h.size
  unfold sizeOk at hs
  refine ⟨⟨⟨by have := hb.f1; omega, by unfold firstAndL; omega⟩, by simp, fun i hi => by simp at hi, fun i hi => (hb.tok i hi).mono (by simp; omega)⟩, by simp [leafL_len]⟩
theorem fwT_ok {n : NetL} {k : Int} (h : NetOkP n) (hl : n.seqs.length < 12) {i : Nat} (hi : i ≤ n.ands.length) {T : List (Int × Int) × List Int} (hT : fwT n k i = some T) : RaOk (firstAndL n + 1) n T i :=
  raTo_ok h (fw_start h hl) (by have := h.count; unfold litP; omega) i hi T hT
theorem fwA_lit {n : NetL} (hok : NetOkP n) {a : Int} (ha : 0 ≤ flopL n a) {T : List (Int × Int) × List Int} (r : RaOk (firstAndL n + 1) n T n.ands.length) : litP (fwA n T.2 a) (firstAndL n + 1 + T.1.length) := by
  obtain ⟨h1, _, _⟩ := flopL_yes ha
  obtain ⟨h2, _⟩ := flopL_seq hok ha
  have hn := hok.nums
  have hm : (n.seqs.getD (flopL n a).toNat default).ins.getD 0 default ∈ (n.seqs.getD (flopL n a).toNat default).ins := getD_mem (by omega)
  have hl := (hok.inp (getD_mem h1) _ hm).nat hn
  have := r.len
  have := hn.n1
  have f1 := r.b.f1
  have f2 := r.b.alen
  exact bitX_lit (r.b.lit (by omega)) (by omega)
theorem fwO_ok {n : NetL} {k : Int} {m : NetL} (h : fwO n k = some m) : NetOkP m := by
  unfold fwO at h
  split at h
  · rename_i hc
    obtain ⟨hok, hk, hl, ha, hb⟩ := hc
    cases hT : fwT n k n.ands.length with
    | none => rw [hT] at h; cases h
    | some T =>
      rw [hT] at h
      have r := fwT_ok hok hl (Nat.le_refl _) hT
      have h : fwN n (n.ands.getD k.toNat default).1 (n.ands.getD k.toNat default).2 T = some m := h
      unfold fwN at h
      split at h
      · cases h
      · rename_i hneg
        injection h with h
        subst h
        have la := fwA_lit hok ha r
        have lb := fwA_lit hok hb r
        have hB := r.b.add la lb
        have hn1 := hok.nums.n1
        have hl1 := r.len
        have hlit : litP (addC (firstAndL n + 1) T.1 (fwA n T.2 (n.ands.getD k.toNat default).1) (fwA n T.2 (n.ands.getD k.toNat default).2)).2 (firstAndL n + 1 + (addC (firstAndL n + 1) T.1 (fwA n T.2 (n.ands.getD k.toNat default).1) (fwA n T.2 (n.ands.getD k.toNat default).2)).1.length) := by
          rcases r.b.addLit la lb with h1 | ⟨h1, _⟩
          · exact h1
          · rw [h1] at hneg; exact absurd (by show (-1 : Int) < 0; decide) hneg
        refine finX_ok hok hB (by rw [List.length_append, mapS_len]; unfold firstAndL; simp; omega) (by omega) (by rw [List.length_append, mapS_len]; simp; omega) fun s hs => ?_
        rcases List.mem_append.1 hs with hs | hs
        · exact mapS_ok hok hB (by omega) s hs
        · simp only [List.mem_singleton] at hs
          subst hs
          have i1 := bitX_01 (l := (n.ands.getD k.toNat default).1) (flopL_seq hok ha).2
          have i2 := bitX_01 (l := (n.ands.getD k.toNat default).2) (flopL_seq hok hb).2
          refine ⟨.inl ⟨rfl, ?_, rfl⟩, fun l hl => by simp only [List.mem_singleton] at hl; subst hl; exact hlit⟩
          show 0 ≤ fwInit n _ _ ∧ fwInit n _ _ ≤ 1
          unfold fwInit
          rw [and_01 i1 i2]
          split <;> omega
  · cases h
end Go.Xw
