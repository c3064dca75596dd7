/- Texts that belong together; each under its stated conditions. -/
import Derived.Test.YtifjicajbgoamaaGreatAddLaw
import Derived.Test.YtifjicajbgoamaaGreatMapLaw
set_option linter.all false
section
/- The nodes that can be observed, as plain data; no condition. -/
namespace Go.Xw

/-- the number of the first sequential element -/
def fsq (n : NetL) : Nat := (1 + n.inputs).toNat
/-- what a node reads -/
def Succ (n : NetL) (k j : Nat) : Prop := (∃ i, i < n.ands.length ∧ k = fst_ n + i ∧ (j = kA n i ∨ j = kB n i)) ∨ (∃ i, i < n.seqs.length ∧ k = fsq n + i ∧ ∃ l, l ∈ (n.seqs.getD i default).ins ∧ j = (l / 2).toNat)
inductive Obs (n : NetL) : Nat → Prop where
  | out {o : Int} (h : o ∈ n.outs) : Obs n (o / 2).toNat
  | step {k j : Nat} (h : Obs n k) (hs : Succ n k j) : Obs n j
noncomputable def obsL (n : NetL) : List Bool := listB (nds n) (Obs n)
theorem NetOkP.fsq {n : NetL} (h : NetOkP n) : 1 ≤ fsq n ∧ ((fsq n : Nat) : Int) = 1 + n.inputs ∧ fst_ n = fsq n + n.seqs.length := by
  have h1 := h.size.1.1
  have h2 : firstAndL n = 1 + n.inputs + n.seqs.length := rfl
  unfold Go.Xw.fsq fst_
  omega
theorem Succ.lt {n : NetL} (h : NetOkP n) {k j : Nat} (hs : Succ n k j) : j < nds n := by
  have hn := h.nums
  have h1 := hn.n1
  rcases hs with ⟨i, hi, rfl, hj⟩ | ⟨i, hi, rfl, l, hl, rfl⟩
  · have ka := hn.ka i hi
    have kb := hn.kb i hi
    omega
  · exact (h.inp (getD_mem hi) l hl).nat hn
theorem Obs.lt {n : NetL} (h : NetOkP n) {k : Nat} (ho : Obs n k) : k < nds n := by
  cases ho with
  | out hm => exact (h.out _ hm).nat h.nums
  | step _ hs => exact hs.lt h
/-- whatever holds the outputs and is closed holds all that can be observed -/
theorem Obs.closed {n : NetL} {p : Nat → Prop} (ho : ∀ o, o ∈ n.outs → p (o / 2).toNat) (hc : ∀ k j, p k → Succ n k j → p j) {k : Nat} (h : Obs n k) : p k := by
  induction h with
  | out hm => exact ho _ hm
  | step _ hs ih => exact hc _ _ ih hs
theorem Obs.cone {n : NetL} {a b : Nat} (h : Obs n a) (hc : InCone n a b) : Obs n b := by
  induction hc with
  | refl => exact h
  | left hi _ ih => exact ih (h.step (.inl ⟨_, hi, rfl, .inl rfl⟩))
  | right hi _ ih => exact ih (h.step (.inl ⟨_, hi, rfl, .inr rfl⟩))

/-! ### the list of what is to be visited -/
/-- the state of the search: seen nodes, and those among them that are to be visited; ex: nodes under way -/
structure Srch (n : NetL) (B : List Bool) (T : List Int) (ex : Nat → Prop) : Prop where
  len : B.length = nds n
  cnt : B.count false + T.length ≤ nds n
  sd : ∀ k, k < nds n → B.getD k default = true → Obs n k
  td : ∀ t, t ∈ T → ∃ k : Nat, t = k ∧ k < nds n ∧ B.getD k default = true
  cl : ∀ k, k < nds n → B.getD k default = true → (k : Int) ∉ T → ¬ ex k → ∀ j, Succ n k j → B.getD j default = true
theorem Srch.done {n : NetL} {B : List Bool} {T : List Int} {k : Nat} (h : Srch n B T (fun j => j = k)) (hs : ∀ j, Succ n k j → B.getD j default = true) : Srch n B T fun _ => False :=
  ⟨h.len, h.cnt, h.sd, h.td, fun j hj hm hT _ i hi => by
    by_cases he : j = k
    · subst he; exact hs i hi
    · exact h.cl j hj hm hT he i hi⟩
theorem Srch.all {n : NetL} (hok : NetOkP n) {B : List Bool} (h : Srch n B [] fun _ => False) (ho : ∀ o, o ∈ n.outs → B.getD (o / 2).toNat default = true) : B = obsL n :=
  listB_eq h.len fun k hk => ⟨h.sd k hk, fun hob => by
    have := Obs.closed (n := n) (p := fun k => k < nds n ∧ B.getD k default = true) (fun o hm => ⟨(hok.out o hm).nat hok.nums, ho o hm⟩) (fun k j ⟨h1, h2⟩ hs => ⟨hs.lt hok, h.cl k h1 h2 (by simp) (fun f => f) j hs⟩) hob
    exact this.2⟩

/-! ### rounds -/
open Classical in
noncomputable def cntTo (p : Nat → Prop) : Nat → Nat
  | 0 => 0
  | i + 1 => cntTo p i + (if p i then 1 else 0)
theorem cntTo_le (p : Nat → Prop) : ∀ i, cntTo p i ≤ i
  | 0 => Nat.le_refl _
  | i + 1 => by have := cntTo_le p i; unfold cntTo; split <;> omega
theorem cntTo_mono {p q : Nat → Prop} (h : ∀ i, p i → q i) : ∀ m, cntTo p m ≤ cntTo q m
  | 0 => Nat.le_refl _
  | i + 1 => by
    have := cntTo_mono h i
    unfold cntTo
    have := h i
    split <;> split <;> simp_all <;> omega
theorem cntTo_eq {p q : Nat → Prop} (h : ∀ i, p i → q i) : ∀ m, cntTo q m ≤ cntTo p m → ∀ i, i < m → q i → p i
  | 0, _, i, hi, _ => by omega
  | m + 1, he, i, hi, hq => by
    have h1 := cntTo_mono h m
    unfold cntTo at he
    have h2 := h m
    by_cases him : i = m
    · subst him
      rw [if_pos hq] at he
      by_cases hp : p i
      · exact hp
      · rw [if_neg hp] at he; omega
    · refine cntTo_eq h m ?_ i (by omega) hq
      split at he <;> split at he <;> simp_all <;> omega

theorem cntTo_congr {p q : Nat → Prop} : ∀ m, (∀ i, i < m → (p i ↔ q i)) → cntTo p m = cntTo q m
  | 0, _ => rfl
  | m + 1, h => by
    have h1 := cntTo_congr m fun i hi => h i (by omega)
    have h2 := h m (by omega)
    show cntTo p m + _ = cntTo q m + _
    rw [h1]
    by_cases hp : p m
    · rw [if_pos hp, if_pos (h2.1 hp)]
    · rw [if_neg hp, if_neg (fun hq => hp (h2.2 hq))]

/-- the cones of what is marked -/
def CC (n : NetL) (B : List Bool) (k : Nat) : Prop := ∃ j, j < nds n ∧ B.getD j default = true ∧ InCone n j k
theorem CC.self {n : NetL} {B : List Bool} {k : Nat} (hk : k < nds n) (h : B.getD k default = true) : CC n B k := ⟨k, hk, h, .refl _⟩
theorem CC.cone {n : NetL} {B : List Bool} {k j : Nat} (h : CC n B k) (hc : InCone n k j) : CC n B j := by
  obtain ⟨i, h1, h2, h3⟩ := h
  exact ⟨i, h1, h2, h3.trans hc⟩
/-- the marked sequential elements have what they read marked -/
def SqCl (n : NetL) (p : Nat → Prop) : Prop := ∀ i, i < n.seqs.length → p (fsq n + i) → ∀ l, l ∈ (n.seqs.getD i default).ins → p (l / 2).toNat

structure Rnd (n : NetL) (B : List Bool) (r : Nat) : Prop where
  len : B.length = nds n
  sd : ∀ k, k < nds n → B.getD k default = true → Obs n k
  out : ∀ o, o ∈ n.outs → B.getD (o / 2).toNat default = true
  pr : SqCl n (CC n B) ∨ r ≤ cntTo (fun i => CC n B (fsq n + i)) n.seqs.length

/-- the pass over the sequential elements: A is what was marked before it, M is what is by now; those ahead of i are done -/
structure Pass (n : NetL) (A M : List Bool) (i : Nat) : Prop where
  len : M.length = nds n
  up : ∀ k, A.getD k default = true → M.getD k default = true
  sd : ∀ k, k < nds n → M.getD k default = true → Obs n k
  cl : SqCl n (fun k => A.getD k default = true) → ∀ k, M.getD k default = true → A.getD k default = true
  dn : ∀ j, j < i → A.getD (fsq n + j) default = true → ∀ l, l ∈ (n.seqs.getD j default).ins → M.getD (l / 2).toNat default = true

theorem Pass.start {n : NetL} {A : List Bool} (hl : A.length = nds n) (hs : ∀ k, k < nds n → A.getD k default = true → Obs n k) : Pass n A A 0 := ⟨hl, fun _ h => h, hs, fun _ _ h => h, fun j hj => by omega⟩
theorem Pass.set {n : NetL} (hok : NetOkP n) {A M : List Bool} {i : Nat} (h : Pass n A M i) (hi : i < n.seqs.length) (hm : M.getD (fsq n + i) default = true) {l : Int} (hl : l ∈ (n.seqs.getD i default).ins) : Pass n A (M.set (l / 2).toNat true) i := by
  have hf := hok.fsq
  have hn := hok.nums
  have hlt : fsq n + i < nds n := by have := hn.n1; omega
  have hlk : (l / 2).toNat < nds n := (hok.inp (getD_mem hi) l hl).nat hn
  have hb : ∀ j, (M.set (l / 2).toNat true).getD j default = true ↔ j = (l / 2).toNat ∨ M.getD j default = true := fun j => bget_set (by rw [h.len]; exact hlk)
  refine ⟨by rw [List.length_set]; exact h.len, fun k hk => (hb k).2 (.inr (h.up k hk)), fun k hk hm2 => ?_, fun hc k hm2 => ?_, fun j hj ha l2 hl2 => (hb _).2 (.inr (h.dn j hj ha l2 hl2))⟩
  · rcases (hb k).1 hm2 with rfl | h2
    · exact (h.sd _ hlt hm).step (.inr ⟨i, hi, rfl, l, hl, rfl⟩)
    · exact h.sd k hk h2
  · rcases (hb k).1 hm2 with rfl | h2
    · exact hc i hi (h.cl hc _ hm) l hl
    · exact h.cl hc k h2
theorem Pass.next {n : NetL} {A M : List Bool} {i : Nat} (h : Pass n A M i) (hd : A.getD (fsq n + i) default = true → ∀ l, l ∈ (n.seqs.getD i default).ins → M.getD (l / 2).toNat default = true) : Pass n A M (i + 1) :=
  ⟨h.len, h.up, h.sd, h.cl, fun j hj ha => by
    by_cases hj2 : j < i
    · exact h.dn j hj2 ha
    · obtain rfl : j = i := by omega
      exact hd ha⟩

theorem Rnd.next {n : NetL} (hok : NetOkP n) {B A M : List Bool} {r : Nat} (h : Rnd n B r) (hl : A.length = nds n) (hA : ∀ k, k < nds n → (A.getD k default = true ↔ CC n B k)) (hp : Pass n A M n.seqs.length) : Rnd n M (r + 1) := by
  have hf := hok.fsq
  have hn := hok.nums
  have hlt : ∀ i, i < n.seqs.length → fsq n + i < nds n := fun i hi => by have := hn.n1; omega
  have hin : ∀ i, i < n.seqs.length → ∀ l, l ∈ (n.seqs.getD i default).ins → (l / 2).toNat < nds n := fun i hi l hl => (hok.inp (getD_mem hi) l hl).nat hn
  have hAM : ∀ k, k < nds n → A.getD k default = true → CC n M k := fun k hk hm => .self hk (hp.up k hm)
  refine ⟨hp.len, hp.sd, fun o ho => hp.up _ ((hA _ ((hok.out o ho).nat hn)).2 (.self ((hok.out o ho).nat hn) (h.out o ho))), ?_⟩
  by_cases hcl : SqCl n (fun k => A.getD k default = true)
  · left
    have hMA := hp.cl hcl
    have key : ∀ k, k < nds n → CC n M k → A.getD k default = true := fun k hk ⟨j, h1, h2, h3⟩ => (hA k hk).2 (((hA j h1).1 (hMA j h2)).cone h3)
    intro i hi hm l hl
    exact hAM _ (hin i hi l hl) (hcl i hi (key _ (hlt i hi) hm) l hl)
  · have hr : r ≤ cntTo (fun i => CC n B (fsq n + i)) n.seqs.length := by
      rcases h.pr with h1 | h1
      · exact absurd (fun i hi hm l hl => (hA _ (hin i hi l hl)).2 (h1 i hi ((hA _ (hlt i hi)).1 hm) l hl)) hcl
      · exact h1
    have hmono : ∀ i, CC n B (fsq n + i) → i < n.seqs.length → CC n M (fsq n + i) := fun i hc hi => hAM _ (hlt i hi) ((hA _ (hlt i hi)).2 hc)
    have h1 := cntTo_mono (p := fun i => i < n.seqs.length ∧ CC n B (fsq n + i)) (q := fun i => CC n M (fsq n + i)) (fun i hh => hmono i hh.2 hh.1) n.seqs.length
    have h2 : cntTo (fun i => CC n B (fsq n + i)) n.seqs.length = cntTo (fun i => i < n.seqs.length ∧ CC n B (fsq n + i)) n.seqs.length := cntTo_congr _ fun i hi => ⟨fun h => ⟨hi, h⟩, fun h => h.2⟩
    by_cases hc : r + 1 ≤ cntTo (fun i => CC n M (fsq n + i)) n.seqs.length
    · exact .inr hc
    · left
      have h3 := cntTo_eq (p := fun i => i < n.seqs.length ∧ CC n B (fsq n + i)) (q := fun i => CC n M (fsq n + i)) (fun i hh => hmono i hh.2 hh.1) n.seqs.length (by rw [← h2]; omega)
      intro i hi hm l hl
      have h4 := (h3 i hi hm).2
      exact .self (hin i hi l hl) (hp.dn i hi ((hA _ (hlt i hi)).2 h4) l hl)

theorem Rnd.done {n : NetL} (hok : NetOkP n) {B A : List Bool} (h : Rnd n B (n.seqs.length + 1)) (hl : A.length = nds n) (hA : ∀ k, k < nds n → (A.getD k default = true ↔ CC n B k)) : A = obsL n := by
  have hn := hok.nums
  have hcl : SqCl n (CC n B) := by
    rcases h.pr with h1 | h1
    · exact h1
    · have := cntTo_le (fun i => CC n B (fsq n + i)) n.seqs.length; omega
  refine listB_eq hl fun k hk => ?_
  rw [hA k hk]
  constructor
  · rintro ⟨j, h1, h2, h3⟩
    exact (h.sd j h1 h2).cone h3
  · intro ho
    exact Obs.closed (n := n) (p := CC n B) (fun o hm => .self ((hok.out o hm).nat hn) (h.out o hm)) (fun k j hc hs => by
      rcases hs with ⟨i, hi, rfl, hj⟩ | ⟨i, hi, rfl, l, hl, rfl⟩
      · rcases hj with rfl | rfl
        · exact hc.cone (.left hi (.refl _))
        · exact hc.cone (.right hi (.refl _))
      · exact hcl i hi hc l hl) ho

end Go.Xw
end
section
/- The net of what can be observed, as plain data; no condition. -/
namespace Go.Xw

/-- the nodes that are kept: inputs, and what can be observed -/
def KeptN (n : NetL) (k : Nat) : Prop := k < fsq n ∨ Obs n k
open Classical in
noncomputable def cK (n : NetL) : Nat → Nat
  | 0 => 0
  | k + 1 => cK n k + (if KeptN n k then 1 else 0)
/-! ### the program's list: 0 where a node is not kept or yet to come -/
end Go.Xw
end
section
/- Retimed nets, as plain data; no condition. -/
namespace Go.Xw

/-- the AND nodes added one by one; the one with index skip is the literal inst instead -/
def raTo (f : Int) (n : NetL) (skip inst : Int) (S : List (Int × Int) × List Int) : Nat → Option (List (Int × Int) × List Int)
  | 0 => some S
  | i + 1 => match raTo f n skip inst S i with
    | none => none
    | some T => if (i : Int) = skip then some (T.1, T.2 ++ [inst])
      else if (addC f T.1 (litV T.2 (n.ands.getD i default).1) (litV T.2 (n.ands.getD i default).2)).2 < 0 then none
      else some ((addC f T.1 (litV T.2 (n.ands.getD i default).1) (litV T.2 (n.ands.getD i default).2)).1, T.2 ++ [(addC f T.1 (litV T.2 (n.ands.getD i default).1) (litV T.2 (n.ands.getD i default).2)).2])
theorem raTo_skip {f : Int} {n : NetL} {skip inst : Int} {S T : List (Int × Int) × List Int} {i : Nat} (h : raTo f n skip inst S i = some T) (hs : (i : Int) = skip) : raTo f n skip inst S (i + 1) = some (T.1, T.2 ++ [inst]) := by
  simp only [raTo, h, if_pos hs]
theorem raTo_no {f : Int} {n : NetL} {skip inst : Int} {S T : List (Int × Int) × List Int} {i : Nat} (h : raTo f n skip inst S i = some T) (hs : ¬ (i : Int) = skip) (hn : (addC f T.1 (litV T.2 (n.ands.getD i default).1) (litV T.2 (n.ands.getD i default).2)).2 < 0) : raTo f n skip inst S (i + 1) = none := by
  simp only [raTo, h, if_neg hs, if_pos hn]
theorem raTo_yes {f : Int} {n : NetL} {skip inst : Int} {S T : List (Int × Int) × List Int} {i : Nat} (h : raTo f n skip inst S i = some T) (hs : ¬ (i : Int) = skip) (hn : ¬ (addC f T.1 (litV T.2 (n.ands.getD i default).1) (litV T.2 (n.ands.getD i default).2)).2 < 0) :
    raTo f n skip inst S (i + 1) = some ((addC f T.1 (litV T.2 (n.ands.getD i default).1) (litV T.2 (n.ands.getD i default).2)).1, T.2 ++ [(addC f T.1 (litV T.2 (n.ands.getD i default).1) (litV T.2 (n.ands.getD i default).2)).2]) := by
  simp only [raTo, h, if_neg hs, if_neg hn]
structure RaOk (f : Int) (n : NetL) (S : List (Int × Int) × List Int) (i : Nat) : Prop where
  b : Bld f S.1 S.2
  len : S.2.length = fst_ n + i
theorem RaOk.lits {f : Int} {n : NetL} (h : NetOkP n) {T : List (Int × Int) × List Int} {i : Nat} (r : RaOk f n T i) (hi : i < n.ands.length) :
    litP (litV T.2 (n.ands.getD i default).1) (f + T.1.length) ∧ litP (litV T.2 (n.ands.getD i default).2) (f + T.1.length) := by
  have f2 := h.nums.f2
  have hl := r.len
  obtain ⟨q1, q2⟩ := h.andP hi
  unfold litP at q1 q2
  exact ⟨r.b.lit (by omega), r.b.lit (by omega)⟩
theorem raTo_ok {f : Int} {n : NetL} (h : NetOkP n) {skip inst : Int} {S : List (Int × Int) × List Int} (h0 : RaOk f n S 0) (hinst : litP inst f) : ∀ i, i ≤ n.ands.length → ∀ T, raTo f n skip inst S i = some T → RaOk f n T i
  | 0, _, T, hT => by simp only [raTo, Option.some.injEq] at hT; subst hT; exact h0
  | i + 1, hi, T, hT => by
    cases hp : raTo f n skip inst S i with
    | none => simp only [raTo, hp] at hT; cases hT
    | some P =>
      have ih := raTo_ok h h0 hinst i (by omega) P hp
      obtain ⟨l1, l2⟩ := ih.lits h (by omega)
      have hl := ih.len
      by_cases hs : (i : Int) = skip
      · rw [raTo_skip hp hs] at hT
        injection hT with hT
        subst hT
        exact ⟨ih.b.snoc (hinst.mono (by omega)), by simp; omega⟩
      · by_cases hn : (addC f P.1 (litV P.2 (n.ands.getD i default).1) (litV P.2 (n.ands.getD i default).2)).2 < 0
        · rw [raTo_no hp hs hn] at hT; cases hT
        · rw [raTo_yes hp hs hn] at hT
          injection hT with hT
          subst hT
          exact ⟨ih.b.step l1 l2 (by omega), by simp; omega⟩

/-! ### forward -/
end Go.Xw
end
