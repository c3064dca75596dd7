/- The net of a flat module, as plain data; no condition but the stated ones. -/
import Derived.Test.YtiepmliokblkjaaGreatModR
import Derived.Test.YtiepmliokblkjaaGreatMapLaw
set_option linter.all false
namespace Go.Xw
open Go.Proofs
set_option maxHeartbeats 1000000
theorem mem_erase {i : Nat} {l : List Nat} {k : Nat} (h : i ∈ l) : i ∈ l.eraseIdx k ∨ i = l.getD k 0 := by
 obtain ⟨j, hj, rfl⟩ := List.getElem_of_mem h
 by_cases hk : j = k
 ·right
  subst hk
  rw [List.getD_eq_getElem?_getD, List.getElem?_eq_getElem hj]; rfl
 ·left
  rw [List.mem_eraseIdx_iff_getElem]
  exact ⟨j, hj, hk, rfl⟩
theorem evtL_all {n : ModL} : ∀ (f : Nat) (todo out l : List Nat), f = todo.length → evtL n f todo out = some l → ∀ i, i ∈ todo ∨ i ∈ out → i ∈ l
 | 0, todo, out, l, hf, he, i, hi => by
  simp only [evtL, Option.some.injEq] at he
  subst he
  obtain rfl : todo = [] := List.length_eq_zero_iff.1 hf.symm
  rcases hi with hi | hi
  ·cases hi
  ·exact hi
 | f + 1, todo, out, l, hf, he, i, hi => by
  simp only [evtL] at he
  cases hk : todo.findIdx? (freeB n todo) with
  | none => rw [hk] at he; simp at he
  | some k =>
   rw [hk] at he
   have hkl : k < todo.length := (List.findIdx?_eq_some_iff_getElem.1 hk).1
   refine evtL_all f _ _ l (by rw [List.length_eraseIdx_of_lt hkl]; omega) he i ?_
   rcases hi with hi | hi
   ·rcases mem_erase (k := k) hi with h | h
    ·exact .inl h
    ·right; rw [h]; simp
   ·right; simp [hi]
theorem evtO_all {n : ModL} {l : List Nat} (h : evtO n = some l) {i : Nat} (hi : i < n.asg.length) (hk : kindL n (tgL n i) ≠ 3) : i ∈ l := by
 obtain ⟨⟨h1, h2⟩, _⟩ := evtO_in h
 rw [evtO_yes h1 h2] at h
 exact evtL_all _ _ _ l rfl h i (.inl (by simp [todo0, hi, hk]))
def wN (n : ModL) (s : Int) : Nat := (widL n s).toNat
def numsL (p w : Nat) : List Int := (List.range w).map fun k => 2 * ((p + k : Nat) : Int)
theorem numsL_len (p w : Nat) : (numsL p w).length = w := by simp [numsL]
theorem numsL_succ (p w : Nat) : numsL p (w + 1) = numsL p w ++ [2 * ((p + w : Nat) : Int)] := by simp [numsL, List.range_succ]
theorem numsL_lit {p w : Nat} {k : Int} (h : ((p + w : Nat) : Int) ≤ k) : ∀ z, z ∈ numsL p w → litP z k := fun z hz => by
 obtain ⟨q, hq, rfl⟩ := List.mem_map.1 hz
 rw [List.mem_range] at hq
 unfold litP
 omega
def numS (st : List (List Int) × Nat) (s w : Nat) : List (List Int) × Nat := (st.1.set s (st.1.getD s default ++ numsL st.2 w), st.2 + w)
theorem numS_zero {st : List (List Int) × Nat} {s : Nat} (h : s < st.1.length) : numS st s 0 = st := by
 have : numsL st.2 0 = [] := rfl
 unfold numS
 rw [this, List.append_nil]
 refine Prod.ext ?_ rfl
 refine list_eq (by simp) fun i hi => ?_
 rw [set_getE h]
 split
 ·rename_i he; rw [he]
 ·rfl
theorem numS_succ {st : List (List Int) × Nat} {s w : Nat} (h : s < st.1.length) : numS st s (w + 1) = ((numS st s w).1.set s ((numS st s w).1.getD s default ++ [2 * (((numS st s w).2 : Nat) : Int)]), (numS st s w).2 + 1) := by
 unfold numS
 simp only
 rw [List.set_set, set_getE h, if_pos rfl, numsL_succ, List.append_assoc, Nat.add_assoc]
structure NumP (n : ModL) (st : List (List Int) × Nat) (L : Nat → Nat) : Prop where
 len : st.1.length = n.sg.length
 row : ∀ s, s < n.sg.length → (st.1.getD s default).length = L s ∧ ∀ z, z ∈ st.1.getD s default → litP z (st.2 : Nat)
 pos : 1 ≤ st.2
theorem NumP.num {n : ModL} {st : List (List Int) × Nat} {L L' : Nat → Nat} (h : NumP n st L) {s : Nat} (w : Nat) (hs : s < n.sg.length) (hL : ∀ t, t < n.sg.length → L' t = if t = s then L t + w else L t) : NumP n (numS st s w) L' := by
 refine ⟨by unfold numS; rw [List.length_set]; exact h.len, fun t ht => ?_, by have := h.pos; show 1 ≤ st.2 + w; omega⟩
 have hr := h.row t ht
 unfold numS
 rw [set_getE (by rw [h.len]; exact hs), hL t ht]
 by_cases hts : t = s
 ·subst hts
  rw [if_pos rfl, if_pos rfl, List.length_append, numsL_len, hr.1]
  refine ⟨rfl, fun z hz => ?_⟩
  rcases List.mem_append.1 hz with hz | hz
  ·have := hr.2 z hz; unfold litP at this ⊢; omega
  ·exact numsL_lit (Int.le_refl _) z hz
 ·rw [if_neg hts, if_neg hts]
  exact ⟨hr.1, fun z hz => by have := hr.2 z hz; unfold litP at this ⊢; omega⟩
theorem NumP.congr {n : ModL} {st : List (List Int) × Nat} {L L' : Nat → Nat} (h : NumP n st L) (hL : ∀ t, t < n.sg.length → L' t = L t) : NumP n st L' :=
 ⟨h.len, fun s hs => by rw [hL s hs]; exact h.row s hs, h.pos⟩
def wsT (n : ModL) (k : Int) : Nat → Nat
 | 0 => 0
 | i + 1 => if kindL n (i : Nat) = k then wsT n k i + wN n (i : Nat) else wsT n k i
def mwT (n : ModL) : Nat → Nat
 | 0 => 0
 | j + 1 => mwT n j + wN n (n.ms.getD j default).out
theorem wsT_mono (n : ModL) (k : Int) : ∀ {i j : Nat}, i ≤ j → wsT n k i ≤ wsT n k j := fun {i j} h => by
 obtain ⟨d, rfl⟩ := Nat.le.dest h
 clear h
 induction d with
 | zero => exact Nat.le_refl _
 | succ d ih =>
  refine Nat.le_trans ih ?_
  show _ ≤ wsT n k (i + d + 1)
  rw [wsT]
  split <;> omega
theorem mwT_mono (n : ModL) : ∀ {i j : Nat}, i ≤ j → mwT n i ≤ mwT n j := fun {i j} h => by
 obtain ⟨d, rfl⟩ := Nat.le.dest h
 clear h
 induction d with
 | zero => exact Nat.le_refl _
 | succ d ih =>
  refine Nat.le_trans ih ?_
  show _ ≤ mwT n (i + d + 1)
  rw [mwT]
  omega
theorem wid_bN {n : ModL} (hm : ModOkP n) {s : Int} (h : inL n s) : 0 ≤ widL n s ∧ widL n s ≤ 4 := by
 unfold inL at h
 exact (hm.sg s.toNat (by omega)).2.1
theorem wN_eq {n : ModL} (hm : ModOkP n) {s : Int} (h : inL n s) : ((wN n s : Nat) : Int) = widL n s := by
 have := wid_bN hm h
 unfold wN; omega
theorem kindL_at (n : ModL) (i : Nat) : kindL n (i : Nat) = (n.sg.getD i default).kind := by unfold kindL; rw [Int.toNat_natCast]
theorem widL_at (n : ModL) (i : Nat) : widL n (i : Nat) = (n.sg.getD i default).width := by unfold widL; rw [Int.toNat_natCast]
theorem wsT_eq {n : ModL} (hm : ModOkP n) (k : Int) : ∀ i : Nat, i ≤ n.sg.length → ((wsT n k i : Nat) : Int) = sumL (pwT (n.sg.take i) k)
 | 0, _ => by simp [wsT, pwT, sumL]
 | i + 1, hi => by
  have ih := wsT_eq hm k i (by omega)
  have hw := wN_eq hm (s := (i : Nat)) (by unfold inL; omega)
  rw [wsT, take_snocC (by omega)]
  by_cases h : kindL n (i : Nat) = k
  ·rw [if_pos h, pwT_yes (by rw [← kindL_at]; exact h), sumL_snoc, Int.natCast_add, ih, hw, widL_at]
  ·rw [if_neg h, pwT_no (by rw [← kindL_at]; exact h), ih]
theorem wsT_all {n : ModL} (hm : ModOkP n) (k : Int) : ((wsT n k n.sg.length : Nat) : Int) = sumL (pwL n k) := by
 rw [wsT_eq hm k _ (Nat.le_refl _), List.take_length]; rfl
theorem mwT_eq {n : ModL} (hm : ModOkP n) : ∀ j : Nat, j ≤ n.ms.length → ((mwT n j : Nat) : Int) = sumM n j
 | 0, _ => by simp [mwT, sumM]
 | j + 1, hj => by
  have hw := wN_eq hm (hm.ms j (by omega)).2.2.2.1
  rw [mwT, sumM, Int.natCast_add, mwT_eq hm j (by omega), hw]
def inN (n : ModL) : Nat → List (List Int) × Nat
 | 0 => (List.replicate n.sg.length [], 1)
 | i + 1 => if kindL n (i : Nat) = 0 then numS (inN n i) i (wN n (i : Nat)) else inN n i
def rgN (n : ModL) : Nat → List (List Int) × Nat
 | 0 => inN n n.sg.length
 | i + 1 => if kindL n (i : Nat) = 3 then numS (rgN n i) i (wN n (i : Nat)) else rgN n i
def mmN (n : ModL) : Nat → List (List Int) × Nat
 | 0 => rgN n n.sg.length
 | j + 1 => numS (mmN n j) (n.ms.getD j default).out.toNat (wN n (n.ms.getD j default).out)
theorem inN_ok (n : ModL) : ∀ i : Nat, i ≤ n.sg.length → NumP n (inN n i) (fun s => if s < i ∧ kindL n (s : Nat) = 0 then wN n (s : Nat) else 0) ∧ (inN n i).2 = 1 + wsT n 0 i
 | 0, _ => by
  refine ⟨⟨by simp [inN], fun s hs => ?_, Nat.le_refl _⟩, rfl⟩
  have h0 : (inN n 0).1.getD s default = [] := by simp [inN, List.getD_eq_getElem?_getD, hs]
  rw [h0, if_neg (by omega)]
  exact ⟨rfl, fun z hz => by cases hz⟩
 | i + 1, hi => by
  obtain ⟨h1, h2⟩ := inN_ok n i (by omega)
  rw [inN, wsT]
  by_cases hk : kindL n (i : Nat) = 0
  ·rw [if_pos hk, if_pos hk]
   refine ⟨h1.num _ (by omega) fun t ht => ?_, by show (inN n i).2 + _ = _; omega⟩
   by_cases hti : t = i
   ·subst hti
    rw [if_pos ⟨by omega, hk⟩, if_pos rfl, if_neg (by omega), Nat.zero_add]
   ·rw [if_neg hti]
    by_cases hlt : t < i ∧ kindL n (t : Nat) = 0
    ·rw [if_pos hlt, if_pos ⟨by omega, hlt.2⟩]
    ·rw [if_neg hlt, if_neg (fun h => hlt ⟨by omega, h.2⟩)]
  ·rw [if_neg hk, if_neg hk]
   refine ⟨h1.congr fun t ht => ?_, h2⟩
   by_cases hti : t = i
   ·subst hti
    rw [if_neg (fun h => hk h.2), if_neg (by omega)]
   ·by_cases hlt : t < i ∧ kindL n (t : Nat) = 0
    ·rw [if_pos hlt, if_pos ⟨by omega, hlt.2⟩]
    ·rw [if_neg hlt, if_neg (fun h => hlt ⟨by omega, h.2⟩)]
theorem rgN_ok (n : ModL) : ∀ i : Nat, i ≤ n.sg.length → NumP n (rgN n i) (fun s => if kindL n (s : Nat) = 0 ∨ (s < i ∧ kindL n (s : Nat) = 3) then wN n (s : Nat) else 0) ∧ (rgN n i).2 = 1 + wsT n 0 n.sg.length + wsT n 3 i
 | 0, _ => by
  obtain ⟨h1, h2⟩ := inN_ok n n.sg.length (Nat.le_refl _)
  refine ⟨h1.congr fun t ht => ?_, h2⟩
  by_cases hk : kindL n (t : Nat) = 0
  ·rw [if_pos (.inl hk), if_pos ⟨ht, hk⟩]
  ·rw [if_neg (by rintro (h | h); exact hk h; omega), if_neg (fun h => hk h.2)]
 | i + 1, hi => by
  obtain ⟨h1, h2⟩ := rgN_ok n i (by omega)
  rw [rgN, wsT]
  by_cases hk : kindL n (i : Nat) = 3
  ·rw [if_pos hk, if_pos hk]
   refine ⟨h1.num _ (by omega) fun t ht => ?_, by show (rgN n i).2 + _ = _; omega⟩
   by_cases hti : t = i
   ·subst hti
    rw [if_pos (.inr ⟨by omega, hk⟩), if_pos rfl, if_neg (by omega), Nat.zero_add]
   ·rw [if_neg hti]
    by_cases hlt : kindL n (t : Nat) = 0 ∨ (t < i ∧ kindL n (t : Nat) = 3)
    ·rw [if_pos hlt, if_pos (by rcases hlt with h | h; exact .inl h; exact .inr ⟨by omega, h.2⟩)]
    ·rw [if_neg hlt, if_neg (fun h => hlt (by rcases h with h | h; exact .inl h; exact .inr ⟨by omega, h.2⟩))]
  ·rw [if_neg hk, if_neg hk]
   refine ⟨h1.congr fun t ht => ?_, h2⟩
   by_cases hlt : kindL n (t : Nat) = 0 ∨ (t < i ∧ kindL n (t : Nat) = 3)
   ·rw [if_pos hlt, if_pos (by rcases hlt with h | h; exact .inl h; exact .inr ⟨by omega, h.2⟩)]
   ·rw [if_neg hlt, if_neg (fun h => hlt (by
     rcases h with h | h
     ·exact .inl h
     ·refine .inr ⟨?_, h.2⟩
      by_cases hti : t = i
      ·subst hti; exact absurd h.2 hk
      ·omega))]
def lenM (n : ModL) (j s : Nat) : Nat := if kindL n (s : Nat) = 0 ∨ kindL n (s : Nat) = 3 then wN n (s : Nat) else (cntM n.ms (s : Nat) j).toNat * wN n (s : Nat)
theorem mmN_ok {n : ModL} (hm : ModOkP n) : ∀ j : Nat, j ≤ n.ms.length → NumP n (mmN n j) (lenM n j) ∧ (mmN n j).2 = 1 + wsT n 0 n.sg.length + wsT n 3 n.sg.length + mwT n j
 | 0, _ => by
  obtain ⟨h1, h2⟩ := rgN_ok n n.sg.length (Nat.le_refl _)
  refine ⟨h1.congr fun t ht => ?_, h2⟩
  unfold lenM
  by_cases hk : kindL n (t : Nat) = 0 ∨ kindL n (t : Nat) = 3
  ·rw [if_pos hk, if_pos (by rcases hk with h | h; exact .inl h; exact .inr ⟨ht, h⟩)]
  ·rw [if_neg hk, if_neg (fun h => hk (by rcases h with h | h; exact .inl h; exact .inr h.2))]
   simp [cntM]
 | j + 1, hj => by
  obtain ⟨h1, h2⟩ := mmN_ok hm j (by omega)
  have hd := (hm.ms j (by omega)).2.2.2
  have hin := hd.1
  unfold inL at hin
  rw [mmN, mwT]
  refine ⟨h1.num _ (by omega) fun t ht => ?_, by show (mmN n j).2 + _ = _; omega⟩
  have hcb := cntM_b n.ms (t : Nat) j
  unfold lenM
  rw [cntM]
  by_cases hto : (n.ms.getD j default).out = (t : Nat)
  ·have hkk := hd.2
   rw [hto] at hkk
   have hK : ¬ (kindL n (t : Nat) = 0 ∨ kindL n (t : Nat) = 3) := by omega
   rw [if_pos (show t = (n.ms.getD j default).out.toNat by omega), if_neg hK, if_neg hK, if_pos hto, hto, show ((cntM n.ms (t : Nat) j + 1).toNat) = (cntM n.ms (t : Nat) j).toNat + 1 by omega, Nat.succ_mul]
  ·rw [if_neg hto, if_neg (show ¬ t = (n.ms.getD j default).out.toNat by omega)]
theorem mmN_nodes {n : ModL} (hm : ModOkP n) : (((mmN n n.ms.length).2 : Nat) : Int) = 1 + sumL (pwL n 0) + (sumL (pwL n 3) + sumM n n.ms.length) := by
 rw [(mmN_ok hm n.ms.length (Nat.le_refl _)).2]
 have h1 := wsT_all hm 0
 have h2 := wsT_all hm 3
 have h3 := mwT_eq hm n.ms.length (Nat.le_refl _)
 omega
def flopsL (f : List Int) (v : Int) (w : Nat) : List SeqL := (List.range w).map fun k => ⟨0, v / 2 ^ k % 2, f⟩
theorem flopsL_succ (f : List Int) (v : Int) (w : Nat) : flopsL f v (w + 1) = flopsL f v w ++ [⟨0, v / 2 ^ w % 2, f⟩] := by simp [flopsL, List.range_succ]
theorem flopsL_len (f : List Int) (v : Int) (w : Nat) : (flopsL f v w).length = w := by simp [flopsL]
def initL (n : ModL) (s : Int) : Int := (n.sg.getD s.toNat default).init
def rgQ (f : List Int) (n : ModL) : Nat → List SeqL
 | 0 => []
 | i + 1 => if kindL n (i : Nat) = 3 then rgQ f n i ++ flopsL f (initL n (i : Nat)) (wN n (i : Nat)) else rgQ f n i
def ramsL (r : List Int) (w : Nat) : List SeqL := List.replicate w ⟨1, 0, r⟩
def mmQ (f r : List Int) (n : ModL) : Nat → List SeqL
 | 0 => rgQ f n n.sg.length
 | j + 1 => mmQ f r n j ++ ramsL r (wN n (n.ms.getD j default).out)
theorem rgQ_len (f : List Int) (n : ModL) : ∀ i, (rgQ f n i).length = wsT n 3 i
 | 0 => rfl
 | i + 1 => by
  rw [rgQ, wsT]
  split
  ·rw [List.length_append, rgQ_len f n i, flopsL_len]
  ·exact rgQ_len f n i
theorem mmQ_len (f r : List Int) (n : ModL) : ∀ j, (mmQ f r n j).length = wsT n 3 n.sg.length + mwT n j
 | 0 => by rw [mmQ, rgQ_len]; rfl
 | j + 1 => by rw [mmQ, List.length_append, mmQ_len f r n j, mwT]; simp [ramsL]; omega
theorem rgQ_mem {f : List Int} {n : ModL} : ∀ {i : Nat} {s : SeqL}, s ∈ rgQ f n i → s.kind = 0 ∧ (0 ≤ s.init ∧ s.init ≤ 1) ∧ s.ins = f
 | 0, s, h => by cases h
 | i + 1, s, h => by
  rw [rgQ] at h
  split at h
  ·rcases List.mem_append.1 h with h | h
   ·exact rgQ_mem h
   ·obtain ⟨k, _, rfl⟩ := List.mem_map.1 h
    refine ⟨rfl, ?_, rfl⟩
    show 0 ≤ initL n (i : Nat) / 2 ^ k % 2 ∧ initL n (i : Nat) / 2 ^ k % 2 ≤ 1
    omega
  ·exact rgQ_mem h
theorem mmQ_mem {f r : List Int} {n : ModL} : ∀ {j : Nat} {s : SeqL}, s ∈ mmQ f r n j → (s.kind = 0 ∧ (0 ≤ s.init ∧ s.init ≤ 1) ∧ s.ins = f) ∨ (s.kind = 1 ∧ s.init = 0 ∧ s.ins = r)
 | 0, s, h => .inl (rgQ_mem h)
 | j + 1, s, h => by
  rw [mmQ] at h
  rcases List.mem_append.1 h with h | h
  ·exact mmQ_mem h
  ·rw [List.eq_of_mem_replicate h]
   exact .inr ⟨rfl, rfl, rfl⟩
def bareS (s : SeqL) : SeqL := ⟨s.kind, s.init, []⟩
theorem rgQ_bare (f : List Int) (n : ModL) : ∀ i, (rgQ f n i).map bareS = rgQ [] n i
 | 0 => rfl
 | i + 1 => by
  rw [rgQ, rgQ]
  split
  ·rw [List.map_append, rgQ_bare f n i]; simp [flopsL, bareS]
  ·exact rgQ_bare f n i
theorem mmQ_bare (f r : List Int) (n : ModL) : ∀ j, (mmQ f r n j).map bareS = mmQ [] [] n j
 | 0 => rgQ_bare f n _
 | j + 1 => by
  rw [mmQ, mmQ, List.map_append, mmQ_bare f r n j]; simp [ramsL, bareS]
theorem mmQ_kind (f r : List Int) (n : ModL) : ∀ j q, q < (mmQ f r n j).length → ((mmQ f r n j).getD q default).kind = if q < wsT n 3 n.sg.length then 0 else 1
 | 0, q, hq => by
  have h1 : (mmQ f r n 0).getD q default ∈ rgQ f n n.sg.length := getD_mem hq
  have h2 := rgQ_len f n n.sg.length
  rw [(rgQ_mem h1).1, if_pos (by rw [← h2]; exact hq)]
 | j + 1, q, hq => by
  have hl := mmQ_len f r n j
  rw [mmQ] at hq ⊢
  by_cases h : q < (mmQ f r n j).length
  ·rw [List.getD_eq_getElem?_getD, List.getElem?_append_left h, ← List.getD_eq_getElem?_getD]
   exact mmQ_kind f r n j q h
  ·rw [List.getD_eq_getElem?_getD, List.getElem?_append_right (by omega), ← List.getD_eq_getElem?_getD]
   rw [List.length_append] at hq
   have := getD_mem (X := ramsL r (wN n (n.ms.getD j default).out)) (i := q - (mmQ f r n j).length) (by omega)
   rw [List.eq_of_mem_replicate this, if_neg (by omega)]
def net0 (n : ModL) : NetL := ⟨sumL (pwL n 0), mmQ [0] [0, 0, 0, 0] n n.ms.length, [], []⟩
theorem sumL_nn {n : ModL} (hm : ModOkP n) (k : Int) : 0 ≤ sumL (pwL n k) := by rw [← wsT_all hm k]; omega
theorem net0_len {n : ModL} (hm : ModOkP n) : ((net0 n).seqs.length : Int) = sumL (pwL n 3) + sumM n n.ms.length := by
 have h0 : (net0 n).seqs.length = wsT n 3 n.sg.length + mwT n n.ms.length := mmQ_len _ _ _ _
 rw [h0]
 have h2 := wsT_all hm 3
 have h3 := mwT_eq hm n.ms.length (Nat.le_refl _)
 omega
theorem net0_nodes {n : ModL} (hm : ModOkP n) : nodesL (net0 n) = ((mmN n n.ms.length).2 : Nat) := by
 rw [mmN_nodes hm]
 have := net0_len hm
 have h1 : (net0 n).ands.length = 0 := rfl
 have h2 : (net0 n).inputs = sumL (pwL n 0) := rfl
 unfold nodesL
 omega
theorem net0_ok {n : ModL} (hm : ModOkP n) (hf : FlatP n) : NetOkP (net0 n) := by
 have h0 := sumL_nn hm 0
 have hl := net0_len hm
 have hn : 1 ≤ nodesL (net0 n) := by rw [net0_nodes hm]; have := (mmN_ok hm n.ms.length (Nat.le_refl _)).1.pos; omega
 refine .mk' ⟨⟨h0, ?_⟩, ?_, Nat.zero_le _, Nat.zero_le _⟩ (fun s hs => ?_) (fun o ho => by cases ho) (fun s hs l hl => ?_) (fun i hi => absurd hi (Nat.not_lt_zero _))
 ·show sumL (pwL n 0) ≤ 20
  have := hf.s0; omega
 ·have := hf.s3; omega
 ·rcases mmQ_mem hs with ⟨h1, h2, h3⟩ | ⟨h1, h2, h3⟩
  ·exact .inl ⟨h1, h2, by rw [h3]; rfl⟩
  ·exact .inr ⟨h1, by omega, by rw [h3]; rfl⟩
 ·have : l = 0 := by
   rcases mmQ_mem hs with ⟨h1, h2, h3⟩ | ⟨h1, h2, h3⟩
   ·rw [h3] at hl; simpa using hl
   ·rw [h3] at hl; simpa using hl
  subst this
  unfold litP; omega
noncomputable def treeA (n : ModL) (i : Nat) : ExT := treeOf (opsL n i) n.sg.length
noncomputable def evS (n : ModL) (st : (NetL × Bool) × List (List Int)) (i : Nat) : (NetL × Bool) × List (List Int) :=
 ((evA adP st.2 (wN n (tgL n i)) (treeA n i) st.1).1, st.2.set (tgL n i).toNat (evA adP st.2 (wN n (tgL n i)) (treeA n i) st.1).2)
noncomputable def ordT (n : ModL) (l : List Nat) : Nat → (NetL × Bool) × List (List Int)
 | 0 => ((net0 n, false), (mmN n n.ms.length).1)
 | i + 1 => evS n (ordT n l i) (l.getD i 0)
structure SigP (n : ModL) (N : NetL) (sig : List (List Int)) : Prop where
 len : sig.length = n.sg.length
 row : ∀ s, s ∈ sig → s.length ≤ 4 ∧ ∀ z, z ∈ s → litP z (nodesL N)
theorem SigP.mono {n : ModL} {N N' : NetL} {sig : List (List Int)} (h : SigP n N sig) (hl : nodesL N ≤ nodesL N') : SigP n N' sig :=
 ⟨h.len, fun s hs => ⟨(h.row s hs).1, fun z hz => ((h.row s hs).2 z hz).mono hl⟩⟩
structure EvP (n : ModL) (st : (NetL × Bool) × List (List Int)) : Prop where
 net : NetOkP st.1.1
 eq : st.1.1 = { net0 n with ands := st.1.1.ands }
 sig : SigP n st.1.1 st.2
theorem opsOk_at {n : ModL} (hm : ModOkP n) (hf : FlatP n) {i : Nat} (hi : i < n.asg.length) : OpsOkP (opsL n i) n.sg.length ∧ (∀ o, o ∈ opsL n i → o.kind ≠ 1) ∧ inL n (tgL n i) ∧ kindL n (tgL n i) ≠ 0 := by
 have h := hm.asg i hi
 refine ⟨h.2.2, fun o ho hk => hf.par i hi ⟨o, ho, hk⟩, h.1, ?_⟩
 have := h.2.1
 unfold tgL; omega
theorem wN_b {n : ModL} (hm : ModOkP n) (hf : FlatP n) {s : Int} (h : inL n s) : 1 ≤ wN n s ∧ wN n s ≤ 4 := by
 have h1 := wid_bN hm h
 unfold inL at h
 have h2 := hf.wid s.toNat (by omega)
 unfold widL at h1
 unfold wN widL
 omega
theorem evAx {n : ModL} (hm : ModOkP n) (hf : FlatP n) {N : NetL} (hN : NetOkP N) {sig : List (List Int)} (hs : SigP n N sig) {i : Nat} (hi : i < n.asg.length) {s : Int} (hin : inL n s) : AxP N sig (opsL n i) (wN n s : Nat) := by
 obtain ⟨h1, h2, h3, _⟩ := opsOk_at hm hf hi
 have h4 := wN_b hm hf hin
 have := hm.l1
 exact ⟨hN, by rw [hs.len]; omega, by rw [hs.len]; exact h1, h2, by omega, fun l hl => hs.row l hl⟩
theorem evGood {n : ModL} {s : NetL × Bool} (hN : NetOkP s.1) {sig : List (List Int)} (hs : SigP n s.1 sig) (w : Nat) (t : ExT) : Gd (fun s => NetOkP s.1) (fun s z => litP z (nodesL s.1)) leP s (evA adP sig w t s) :=
 ev_good adP_ok w t (s := s) hN (fun l hl z hz => (hs.row l hl).2 z hz)
theorem EvP.start {n : ModL} (hm : ModOkP n) (hf : FlatP n) (hu : ∀ s : Nat, s < n.sg.length → lenM n n.ms.length s ≤ 4) : EvP n ((net0 n, false), (mmN n n.ms.length).1) := by
 have h1 := (mmN_ok hm n.ms.length (Nat.le_refl _)).1
 refine ⟨net0_ok hm hf, rfl, h1.len, fun s hs => ?_⟩
 obtain ⟨i, hi, rfl⟩ := List.getElem_of_mem hs
 have h2 := h1.row i (by rw [← h1.len]; exact hi)
 have h3 := hu i (by rw [← h1.len]; exact hi)
 rw [List.getD_eq_getElem?_getD, List.getElem?_eq_getElem hi] at h2
 have h4 : nodesL (net0 n) = ((mmN n n.ms.length).2 : Nat) := net0_nodes hm
 show ((mmN n n.ms.length).1[i]).length ≤ 4 ∧ ∀ z, z ∈ (mmN n n.ms.length).1[i] → litP z (nodesL (net0 n))
 rw [h4]
 exact ⟨by have := h2.1; simp only [Option.getD_some] at this; omega, h2.2⟩
theorem EvP.step {n : ModL} (hm : ModOkP n) (hf : FlatP n) {st : (NetL × Bool) × List (List Int)} (h : EvP n st) {i : Nat} (hi : i < n.asg.length) : EvP n (evS n st i) := by
 obtain ⟨_, _, h3, _⟩ := opsOk_at hm hf hi
 have h4 := wN_b hm hf h3
 have g := evGood h.net h.sig (wN n (tgL n i)) (treeA n i)
 refine ⟨g.i, ?_, by unfold evS; rw [List.length_set]; exact h.sig.len, fun l hl => ?_⟩
 ·have h5 : (evS n st i).1.1 = { st.1.1 with ands := (evS n st i).1.1.ands } := g.le_.1.2
  rw [h5, h.eq]
 ·rcases List.mem_or_eq_of_mem_set hl with hl | rfl
  ·exact (h.sig.mono g.le_.1.1).row l hl
  ·exact ⟨by rw [evA_len]; omega, g.v⟩
theorem drv_kind {n : ModL} (hm : ModOkP n) {s : Nat} (hs : s < n.sg.length) (hk : ¬ (kindL n (s : Nat) = 0 ∨ kindL n (s : Nat) = 3)) : cntA n.asg (s : Nat) n.asg.length + cntM n.ms (s : Nat) n.ms.length = 1 := by
 have h1 := (hm.sg s hs).1
 rw [kindL_at] at hk
 exact hm.drv s hs (by omega)
theorem lenM_le {n : ModL} (hm : ModOkP n) (hf : FlatP n) : ∀ s : Nat, s < n.sg.length → lenM n n.ms.length s ≤ 4 := fun s hs => by
 have h4 := wN_b hm hf (s := (s : Nat)) (by unfold inL; omega)
 unfold lenM
 split
 ·omega
 ·rename_i hk
  have h1 := drv_kind hm hs hk
  have h2 := (cntA_b n.asg (s : Nat) n.asg.length).1
  have h3 := (cntM_b n.ms (s : Nat) n.ms.length).1
  have h5 : (cntM n.ms (s : Nat) n.ms.length).toNat = 0 ∨ (cntM n.ms (s : Nat) n.ms.length).toNat = 1 := by omega
  rcases h5 with h5 | h5
  ·rw [h5]; omega
  ·rw [h5]; omega
theorem ordT_ok {n : ModL} (hm : ModOkP n) (hf : FlatP n) {l : List Nat} (hl : ∀ i, i ∈ l → i < n.asg.length) : ∀ i, i ≤ l.length → EvP n (ordT n l i)
 | 0, _ => EvP.start hm hf (lenM_le hm hf)
 | i + 1, hi => (ordT_ok hm hf hl i (by omega)).step hm hf (hl _ (by rw [List.getD_eq_getElem?_getD, List.getElem?_eq_getElem (by omega)]; exact List.getElem_mem _))
theorem evS_bad {n : ModL} {st : (NetL × Bool) × List (List Int)} (h : EvP n st) (i : Nat) : st.1.2 = true → (evS n st i).1.2 = true := (evGood h.net h.sig (wN n (tgL n i)) (treeA n i)).le_.2
theorem ordT_bad {n : ModL} (hm : ModOkP n) (hf : FlatP n) {l : List Nat} (hl : ∀ i, i ∈ l → i < n.asg.length) {i : Nat} (hb : (ordT n l i).1.2 = true) : ∀ j, i ≤ j → j ≤ l.length → (ordT n l j).1.2 = true := fun j hij hj => by
 obtain ⟨d, rfl⟩ := Nat.le.dest hij
 clear hij
 induction d with
 | zero => exact hb
 | succ d ih => exact evS_bad (ordT_ok hm hf hl (i + d) (by omega)) _ (ih (by omega))
theorem ordT_len {n : ModL} (hm : ModOkP n) (hf : FlatP n) {l : List Nat} (hl : ∀ i, i ∈ l → i < n.asg.length) : ∀ i, i ≤ l.length → ∀ s : Nat, s < n.sg.length → (((ordT n l i).2.getD s default).length = lenM n n.ms.length s ∨ ((ordT n l i).2.getD s default).length = wN n (s : Nat)) ∧ ((∃ j, j < i ∧ tgL n (l.getD j 0) = (s : Nat)) → ((ordT n l i).2.getD s default).length = wN n (s : Nat))
 | 0, _, s, hs => ⟨.inl ((mmN_ok hm n.ms.length (Nat.le_refl _)).1.row s hs).1, fun ⟨j, hj, _⟩ => absurd hj (Nat.not_lt_zero _)⟩
 | i + 1, hi, s, hs => by
  have ih := ordT_len hm hf hl i (by omega) s hs
  have hil : l.getD i 0 < n.asg.length := hl _ (by rw [List.getD_eq_getElem?_getD, List.getElem?_eq_getElem (by omega)]; exact List.getElem_mem _)
  obtain ⟨_, _, h3, _⟩ := opsOk_at hm hf hil
  unfold inL at h3
  have hsl := (ordT_ok hm hf hl i (by omega)).sig.len
  have hr : (ordT n l (i + 1)).2.getD s default = if s = (tgL n (l.getD i 0)).toNat then (evA adP (ordT n l i).2 (wN n (tgL n (l.getD i 0))) (treeA n (l.getD i 0)) (ordT n l i).1).2 else (ordT n l i).2.getD s default := set_getE (by omega)
  by_cases he : s = (tgL n (l.getD i 0)).toNat
  ·have : ((ordT n l (i + 1)).2.getD s default).length = wN n (s : Nat) := by
    rw [hr, if_pos he, evA_len]
    rw [show ((s : Nat) : Int) = tgL n (l.getD i 0) by omega]
   exact ⟨.inr this, fun _ => this⟩
  ·rw [hr, if_neg he]
   refine ⟨ih.1, fun ⟨j, hj, hjt⟩ => ih.2 ⟨j, ?_, hjt⟩⟩
   by_cases hji : j = i
   ·subst hji; exact absurd (show s = (tgL n (l.getD j 0)).toNat by omega) he
   ·omega
theorem cntA_ex {R : List AsL} {s : Int} : ∀ {i : Nat}, 0 < cntA R s i → ∃ j, j < i ∧ (R.getD j default).tg = s
 | 0, h => absurd h (by simp [cntA])
 | i + 1, h => by
  rw [cntA] at h
  split at h
  ·rename_i he; exact ⟨i, by omega, he⟩
  ·obtain ⟨j, h1, h2⟩ := cntA_ex h
   exact ⟨j, by omega, h2⟩
theorem ord_full {n : ModL} (hm : ModOkP n) (hf : FlatP n) {l : List Nat} (he : evtO n = some l) : ∀ s : Nat, s < n.sg.length → ((ordT n l l.length).2.getD s default).length = wN n (s : Nat) := fun s hs => by
 obtain ⟨_, hin, _⟩ := evtO_in he
 obtain ⟨h1, h2⟩ := ordT_len hm hf (fun i hi => (hin i hi).1) l.length (Nat.le_refl _) s hs
 rcases h1 with h1 | h1
 ·rw [h1]
  unfold lenM
  split
  ·rfl
  ·rename_i hk
   have h3 := drv_kind hm hs hk
   have h4 := (cntA_b n.asg (s : Nat) n.asg.length).1
   have h5 := (cntM_b n.ms (s : Nat) n.ms.length).1
   by_cases h6 : cntM n.ms (s : Nat) n.ms.length = 1
   ·rw [h6]; show 1 * _ = _; omega
   ·obtain ⟨j, hj, hjt⟩ := cntA_ex (R := n.asg) (s := (s : Nat)) (i := n.asg.length) (by omega)
    have hjl := evtO_all he hj (by unfold tgL; rw [hjt]; omega)
    obtain ⟨k, hk2, hke⟩ := List.getElem_of_mem hjl
    have h7 := h2 ⟨k, hk2, by
     rw [List.getD_eq_getElem?_getD, List.getElem?_eq_getElem hk2]
     show tgL n l[k] = _
     rw [hke]; exact hjt⟩
    rw [h1] at h7
    unfold lenM at h7
    rw [if_neg hk] at h7
    exact h7
 ·exact h1
end Go.Xw
