/- The enumeration of cuts, as plain data; no condition. -/
import Derived.Test.YtbjgekllkfnjnaaCutLess
import Derived.Test.YtbjgekllkfnjnaaMerge
import Derived.Test.YtbjgekllkfnjnaaCutLaw
set_option linter.all false
namespace Go.Xw
open Go.Proofs
set_option maxHeartbeats 1000000
theorem lexLt_trans : ∀ {x y z : List Int}, lexLt x y = true → lexLt y z = true → lexLt x z = true
 | [], _, _, h, _ => by simp [lexLt] at h
 | _ :: _, [], _, h, _ => by simp [lexLt] at h
 | _ :: _, _ :: _, [], _, h => by simp [lexLt] at h
 | a :: x, b :: y, c :: z, h, k => by
  unfold lexLt at h k ⊢
  split at h
  ·rename_i hab
   have hab' : a < b := by simpa using h
   split at k
   ·rename_i hbc
    have hbc' : b < c := by simpa using k
    rw [if_pos (by omega)]
    simp; omega
   ·rename_i hbc
    have : b = c := by simpa using hbc
    subst this
    rw [if_pos hab]; exact h
  ·rename_i hab
   have : a = b := by simpa using hab
   subst this
   split at k
   ·rename_i hbc
    rw [if_pos hbc]; exact k
   ·rename_i hbc
    rw [if_neg hbc]
    exact lexLt_trans h k
theorem lexLt_tri : ∀ {x y : List Int}, x.length = y.length → lexLt x y = false → lexLt y x = false → x = y
 | [], [], _, _, _ => rfl
 | [], _ :: _, h, _, _ => by simp at h
 | _ :: _, [], h, _, _ => by simp at h
 | a :: x, b :: y, hl, h, k => by
  unfold lexLt at h k
  by_cases hab : a = b
  ·subst hab
   simp at h k
   rw [lexLt_tri (by simpa using hl) h k]
  ·rw [if_pos hab] at h
   rw [if_pos (fun e => hab e.symm)] at k
   simp at h k
   omega
theorem cutLt_trans {x y z : List Int} (h : cutLt x y = true) (k : cutLt y z = true) : cutLt x z = true := by
 unfold cutLt at h k ⊢
 split at h
 ·have h' : x.length < y.length := by simpa using h
  split at k
  ·have k' : y.length < z.length := by simpa using k
   rw [if_pos (by omega)]; simp; omega
  ·rw [if_pos (by omega)]; simp; omega
 ·split at k
  ·have k' : y.length < z.length := by simpa using k
   rw [if_pos (by omega)]; simp; omega
  ·rw [if_neg (by omega)]; exact lexLt_trans h k
theorem cutLt_tri {x y : List Int} (h : cutLt x y = false) (k : cutLt y x = false) : x = y := by
 unfold cutLt at h k
 by_cases hl : x.length = y.length
 ·rw [if_neg (by omega)] at h k
  exact lexLt_tri hl h k
 ·rw [if_pos hl] at h
  rw [if_pos (by omega)] at k
  simp at h k
  omega
def insC : List (List Int) → List Int → List (List Int)
 | [], u => [u]
 | y :: ys, u => if cutLt y u = true then y :: insC ys u else if y = u then y :: ys else u :: y :: ys
def SrtC (L : List (List Int)) : Prop := L.Pairwise fun x y => cutLt x y = true
theorem mem_insC {u v : List Int} : ∀ {L : List (List Int)}, v ∈ insC L u ↔ v = u ∨ v ∈ L
 | [] => by simp [insC]
 | y :: ys => by
  unfold insC
  split
  ·rw [List.mem_cons, mem_insC, List.mem_cons]
   constructor
   ·rintro (h | h | h)
    ·exact .inr (.inl h)
    ·exact .inl h
    ·exact .inr (.inr h)
   ·rintro (h | h | h)
    ·exact .inr (.inl h)
    ·exact .inl h
    ·exact .inr (.inr h)
  ·split
   ·rename_i h2
    subst h2
    constructor
    ·exact .inr
    ·rintro (h | h)
     ·rw [h]; exact List.mem_cons_self
     ·exact h
   ·rw [List.mem_cons]
theorem srt_insC {u : List Int} : ∀ {L : List (List Int)}, SrtC L → SrtC (insC L u)
 | [], _ => List.pairwise_singleton _ _
 | y :: ys, h => by
  obtain ⟨h1, h2⟩ := List.pairwise_cons.1 h
  unfold insC
  split
  ·rename_i hyu
   refine List.pairwise_cons.2 ⟨fun v hv => ?_, srt_insC h2⟩
   rcases mem_insC.1 hv with rfl | hv
   ·exact hyu
   ·exact h1 v hv
  ·rename_i hyu
   split
   ·exact h
   ·rename_i hne
    refine List.pairwise_cons.2 ⟨fun v hv => ?_, h⟩
    have huy : cutLt u y = true := by
     cases hc : cutLt u y with
     | true => rfl
     | false => exact absurd (cutLt_tri (by simpa using hyu) hc) hne
    rcases List.mem_cons.1 hv with rfl | hv
    ·exact huy
    ·exact cutLt_trans huy (h1 v hv)
theorem insC_len {u : List Int} : ∀ {L : List (List Int)}, (insC L u).length ≤ L.length + 1
 | [] => by simp [insC]
 | y :: ys => by
  have := insC_len (u := u) (L := ys)
  unfold insC
  split
  ·simp; exact this
  ·split <;> simp
theorem insC_at : ∀ {i : Nat} {L : List (List Int)} {u : List Int}, i ≤ L.length → (∀ j, j < i → cutLt (L.getD j default) u = true) → (i < L.length → cutLt (L.getD i default) u = false) →
  insC L u = if i < L.length ∧ L.getD i default = u then L else L.take i ++ u :: L.drop i
 | 0, [], u, _, _, _ => by simp [insC]
 | 0, y :: ys, u, _, _, hn => by
  have := hn (by simp)
  simp at this
  simp only [insC, this, List.length_cons, List.getD_cons_zero, List.take_zero, List.drop_zero, List.nil_append]
  simp
 | i + 1, [], u, hi, _, _ => by simp at hi
 | i + 1, y :: ys, u, hi, hall, hn => by
  have h0 : cutLt y u = true := by simpa using hall 0 (by omega)
  have h1 := insC_at (L := ys) (u := u) (i := i) (by simpa using hi) (fun j hj => by simpa using hall (j + 1) (by omega)) (fun h => by simpa using hn (by simpa using h))
  simp only [insC, if_pos h0, h1, List.length_cons, List.getD_cons_succ, List.take_succ_cons, List.drop_succ_cons, Nat.add_lt_add_iff_right, List.cons_append]
  split <;> rfl
noncomputable def joinS (x : List Int) (L : List (List Int)) (y : List Int) : List (List Int) := if mergeOk x y = true then insC L (mrg x y) else L
noncomputable def joinR (b : List (List Int)) (L : List (List Int)) (x : List Int) : List (List Int) := b.foldl (joinS x) L
noncomputable def joinL (a b : List (List Int)) : List (List Int) := a.foldl (joinR b) []
theorem joinR_snoc (b : List (List Int)) (L : List (List Int)) (x y : List Int) : joinR (b ++ [y]) L x = joinS x (joinR b L x) y := by unfold joinR; rw [List.foldl_append]; rfl
theorem joinS_len {x y : List Int} {L : List (List Int)} : (joinS x L y).length ≤ L.length + 1 := by
 unfold joinS
 split
 ·exact insC_len
 ·omega
theorem joinR_len {x : List Int} : ∀ {b L : List (List Int)}, (joinR b L x).length ≤ L.length + b.length
 | [], L => by simp [joinR]
 | y :: b, L => by
  have h1 := joinR_len (x := x) (b := b) (L := joinS x L y)
  have h2 := joinS_len (x := x) (y := y) (L := L)
  show (joinR b (joinS x L y) x).length ≤ _
  rw [List.length_cons]; omega
theorem joinF_len {b : List (List Int)} {m : Nat} (hb : b.length ≤ m) : ∀ {a L : List (List Int)}, (a.foldl (joinR b) L).length ≤ L.length + a.length * m
 | [], L => by simp
 | x :: a, L => by
  have h1 := joinF_len hb (a := a) (L := joinR b L x)
  have h2 := joinR_len (x := x) (b := b) (L := L)
  show (a.foldl (joinR b) (joinR b L x)).length ≤ _
  rw [List.length_cons, Nat.succ_mul]; omega
theorem joinL_len {a b : List (List Int)} (ha : a.length ≤ 8) (hb : b.length ≤ 8) : (joinL a b).length ≤ 64 := by
 have := joinF_len hb (a := a) (L := [])
 have h2 : a.length * 8 ≤ 64 := by omega
 unfold joinL
 simp only [List.length_nil] at this
 omega
theorem srt_joinS {x y : List Int} {L : List (List Int)} (h : SrtC L) : SrtC (joinS x L y) := by
 unfold joinS
 split
 ·exact srt_insC h
 ·exact h
theorem srt_joinR {x : List Int} : ∀ {b L : List (List Int)}, SrtC L → SrtC (joinR b L x)
 | [], _, h => h
 | y :: b, L, h => srt_joinR (b := b) (srt_joinS h)
theorem srt_joinF {b : List (List Int)} : ∀ {a L : List (List Int)}, SrtC L → SrtC (a.foldl (joinR b) L)
 | [], _, h => h
 | x :: a, L, h => srt_joinF (a := a) (srt_joinR h)
theorem srt_joinL (a b : List (List Int)) : SrtC (joinL a b) := srt_joinF List.Pairwise.nil
def GoodC (u : List Int) : Prop := u.length ≤ 4 ∧ cutB u = true
theorem mem_joinS {P : List Int → Prop} {x y : List Int} {L : List (List Int)} (h : ∀ u, u ∈ L → P u) (hP : mergeOk x y = true → P (mrg x y)) : ∀ u, u ∈ joinS x L y → P u := fun u hu => by
 unfold joinS at hu
 split at hu
 ·rename_i ho
  rcases mem_insC.1 hu with rfl | hu
  ·exact hP ho
  ·exact h u hu
 ·exact h u hu
theorem mem_joinR {P : List Int → Prop} {x : List Int} : ∀ {b L : List (List Int)}, (∀ u, u ∈ L → P u) → (∀ y, y ∈ b → mergeOk x y = true → P (mrg x y)) → ∀ u, u ∈ joinR b L x → P u
 | [], _, h, _ => h
 | y :: b, L, h, hP => mem_joinR (b := b) (mem_joinS h (hP y List.mem_cons_self)) fun z hz => hP z (List.mem_cons_of_mem _ hz)
theorem mem_joinF {P : List Int → Prop} {b : List (List Int)} : ∀ {a L : List (List Int)}, (∀ u, u ∈ L → P u) → (∀ x, x ∈ a → ∀ y, y ∈ b → mergeOk x y = true → P (mrg x y)) → ∀ u, u ∈ a.foldl (joinR b) L → P u
 | [], _, h, _ => h
 | x :: a, L, h, hP => mem_joinF (a := a) (mem_joinR h (hP x List.mem_cons_self)) fun z hz => hP z (List.mem_cons_of_mem _ hz)
theorem mem_joinL {P : List Int → Prop} {a b : List (List Int)} (hP : ∀ x, x ∈ a → ∀ y, y ∈ b → mergeOk x y = true → P (mrg x y)) : ∀ u, u ∈ joinL a b → P u := mem_joinF (by simp) hP
def domP (L : List (List Int)) (u : List Int) : Prop := ∃ v, v ∈ L ∧ v.length < u.length ∧ ∀ x, x ∈ v → x ∈ u
noncomputable def freeL (L : List (List Int)) : List (List Int) := L.filter fun u => !pB (domP L u)
noncomputable def selL (a b : List (List Int)) : List (List Int) := (freeL (joinL a b)).take 7
noncomputable def cutsTo (n : NetL) : Nat → List (List (List Int))
 | 0 => [[[]]]
 | k + 1 => cutsTo n k ++ [(if fst_ n ≤ k + 1 then selL ((cutsTo n k).getD (kA n (k + 1 - fst_ n)) default) ((cutsTo n k).getD (kB n (k + 1 - fst_ n)) default) else []) ++ [[((k + 1 : Nat) : Int)]]]
noncomputable def cutsOf (n : NetL) (k : Nat) : List (List Int) := (cutsTo n k).getD k default
theorem cutsTo_len (n : NetL) : ∀ k, (cutsTo n k).length = k + 1
 | 0 => rfl
 | k + 1 => by rw [cutsTo, List.length_append, cutsTo_len]; rfl
theorem cutsTo_get {n : NetL} {j : Nat} : ∀ {k : Nat}, j ≤ k → (cutsTo n k).getD j default = cutsOf n j
 | 0, h => by obtain rfl : j = 0 := by omega
              rfl
 | k + 1, h => by
  by_cases h2 : j = k + 1
  ·rw [h2]; rfl
  ·rw [cutsTo, snoc_lt (by rw [cutsTo_len]; omega)]
   exact cutsTo_get (by omega)
theorem cutsOf_0 (n : NetL) : cutsOf n 0 = [[]] := rfl
theorem cutsOf_leaf {n : NetL} {k : Nat} (h0 : 0 < k) (h : k < fst_ n) : cutsOf n k = [[(k : Int)]] := by
 obtain ⟨j, rfl⟩ : ∃ j, k = j + 1 := ⟨k - 1, by omega⟩
 have hl := cutsTo_len n j
 unfold cutsOf
 rw [cutsTo, if_neg (by omega)]
 have := snoc_eq (R := cutsTo n j) (y := [] ++ [[((j + 1 : Nat) : Int)]])
 rw [hl] at this
 exact this
theorem cutsOf_and {n : NetL} (h : NetOkP n) {i : Nat} (hi : i < n.ands.length) : cutsOf n (fst_ n + i) = selL (cutsOf n (kA n i)) (cutsOf n (kB n i)) ++ [[((fst_ n + i : Nat) : Int)]] := by
 have f1 := h.nums.f1
 obtain ⟨j, hj⟩ : ∃ j, fst_ n + i = j + 1 := ⟨fst_ n + i - 1, by omega⟩
 have hl := cutsTo_len n j
 have ha := h.nums.ka i hi
 have hb := h.nums.kb i hi
 unfold cutsOf
 rw [hj, cutsTo, if_pos (by omega), show j + 1 - fst_ n = i by omega, cutsTo_get (by omega), cutsTo_get (by omega)]
 have := snoc_eq (R := cutsTo n j) (y := selL (cutsOf n (kA n i)) (cutsOf n (kB n i)) ++ [[((j + 1 : Nat) : Int)]])
 rw [hl] at this
 exact this
theorem selL_len (a b : List (List Int)) : (selL a b).length ≤ 7 := by unfold selL; rw [List.length_take]; omega
theorem cutsOf_len {n : NetL} (h : NetOkP n) {k : Nat} (hk : k < nds n) : 0 < (cutsOf n k).length ∧ (cutsOf n k).length ≤ 8 := by
 have n1 := h.nums.n1
 by_cases h0 : k = 0
 ·rw [h0, cutsOf_0]; simp
 ·by_cases h1 : k < fst_ n
  ·rw [cutsOf_leaf (by omega) h1]; simp
  ·have := cutsOf_and h (i := k - fst_ n) (by omega)
   rw [show fst_ n + (k - fst_ n) = k by omega] at this
   have h3 := selL_len (cutsOf n (kA n (k - fst_ n))) (cutsOf n (kB n (k - fst_ n)))
   rw [this, List.length_append, List.length_cons, List.length_nil]
   omega
noncomputable def enumF (n : NetL) (x : Int) : List (List Int) := if pB (NetOkP n ∧ 0 ≤ x ∧ x < nodesL n) = true then cutsOf n x.toNat else []
theorem enumF_yes {n : NetL} {x : Int} (h : NetOkP n ∧ 0 ≤ x ∧ x < nodesL n) : enumF n x = cutsOf n x.toNat := by unfold enumF; rw [if_pos (pB_iff.2 h)]
theorem enumF_no {n : NetL} {x : Int} (h : ¬ (NetOkP n ∧ 0 ≤ x ∧ x < nodesL n)) : enumF n x = [] := by unfold enumF; rw [if_neg (fun hh => h (pB_iff.1 hh))]
theorem mem_mrg {z : Int} : ∀ (m : Nat) {xs ys : List Int}, xs.length + ys.length ≤ m → (z ∈ mrg xs ys ↔ z ∈ xs ∨ z ∈ ys)
 | _, [], ys, _ => by simp [mrg]
 | _, x :: xs, [], _ => by simp [mrg]
 | 0, x :: xs, y :: ys, h => by simp at h
 | m + 1, x :: xs, y :: ys, h => by
  simp only [List.length_cons] at h
  simp only [mrg]
  split
  ·rw [List.mem_cons, mem_mrg m (by simp; omega)]
   simp only [List.mem_cons]
   constructor
   ·rintro (h | h | h | h)
    ·exact .inl (.inl h)
    ·exact .inl (.inr h)
    ·exact .inr (.inl h)
    ·exact .inr (.inr h)
   ·rintro ((h | h) | (h | h))
    ·exact .inl h
    ·exact .inr (.inl h)
    ·exact .inr (.inr (.inl h))
    ·exact .inr (.inr (.inr h))
  ·split
   ·rw [List.mem_cons, mem_mrg m (by simp; omega)]
    simp only [List.mem_cons]
    constructor
    ·rintro (h | (h | h) | h)
     ·exact .inr (.inl h)
     ·exact .inl (.inl h)
     ·exact .inl (.inr h)
     ·exact .inr (.inr h)
    ·rintro ((h | h) | (h | h))
     ·exact .inr (.inl (.inl h))
     ·exact .inr (.inl (.inr h))
     ·exact .inl h
     ·exact .inr (.inr h)
   ·have hxy : x = y := by omega
    subst hxy
    rw [List.mem_cons, mem_mrg m (by omega)]
    simp only [List.mem_cons]
    constructor
    ·rintro (h | h | h)
     ·exact .inl (.inl h)
     ·exact .inl (.inr h)
     ·exact .inr (.inr h)
    ·rintro ((h | h) | (h | h))
     ·exact .inl h
     ·exact .inr (.inl h)
     ·exact .inl h
     ·exact .inr (.inr h)
theorem asc_mrg : ∀ (m : Nat) {xs ys : List Int}, xs.length + ys.length ≤ m → Asc xs → Asc ys → Asc (mrg xs ys)
 | _, [], ys, _, _, h => by simpa [mrg] using h
 | _, x :: xs, [], _, h, _ => by simpa [mrg] using h
 | 0, x :: xs, y :: ys, h, _, _ => by simp at h
 | m + 1, x :: xs, y :: ys, h, hx, hy => by
  simp only [List.length_cons] at h
  obtain ⟨x1, x2⟩ := List.pairwise_cons.1 hx
  obtain ⟨y1, y2⟩ := List.pairwise_cons.1 hy
  simp only [mrg]
  split
  ·rename_i hlt
   refine List.pairwise_cons.2 ⟨fun z hz => ?_, asc_mrg m (by simp; omega) x2 hy⟩
   rw [mem_mrg m (by simp; omega)] at hz
   rcases hz with hz | hz
   ·exact x1 z hz
   ·rcases List.mem_cons.1 hz with rfl | hz
    ·exact hlt
    ·have := y1 z hz; omega
  ·split
   ·rename_i hlt
    refine List.pairwise_cons.2 ⟨fun z hz => ?_, asc_mrg m (by simp; omega) hx y2⟩
    rw [mem_mrg m (by simp; omega)] at hz
    rcases hz with hz | hz
    ·rcases List.mem_cons.1 hz with rfl | hz
     ·exact hlt
     ·have := x1 z hz; omega
    ·exact y1 z hz
   ·refine List.pairwise_cons.2 ⟨fun z hz => ?_, asc_mrg m (by omega) x2 y2⟩
    rw [mem_mrg m (by omega)] at hz
    rcases hz with hz | hz
    ·exact x1 z hz
    ·have := y1 z hz; omega
theorem cutB_Asc {xs : List Int} : cutB xs = true ↔ Asc xs ∧ ∀ x, x ∈ xs → 0 ≤ x := by
 rw [cutB_iff, asc_get, mem_iff_getD]
theorem mergeOk_iff {xs ys : List Int} : mergeOk xs ys = true ↔ cutB xs = true ∧ cutB ys = true ∧ (mrg xs ys).length ≤ 4 := by
 unfold mergeOk
 simp only [Bool.and_eq_true, decide_eq_true_eq, and_assoc]
theorem mrg_good {xs ys : List Int} (h : mergeOk xs ys = true) : GoodC (mrg xs ys) := by
 obtain ⟨h1, h2, h3⟩ := mergeOk_iff.1 h
 rw [cutB_Asc] at h1 h2
 refine ⟨h3, cutB_Asc.2 ⟨asc_mrg _ (Nat.le_refl _) h1.1 h2.1, fun x hx => ?_⟩⟩
 rw [mem_mrg _ (Nat.le_refl _)] at hx
 rcases hx with hx | hx
 ·exact h1.2 x hx
 ·exact h2.2 x hx
theorem joinL_good (a b : List (List Int)) : ∀ u, u ∈ joinL a b → GoodC u := mem_joinL fun _ _ _ _ h => mrg_good h
theorem selL_mem {a b : List (List Int)} {u : List Int} (h : u ∈ selL a b) : u ∈ joinL a b ∧ ¬ domP (joinL a b) u := by
 have h2 := List.mem_of_mem_take h
 unfold freeL at h2
 obtain ⟨h3, h4⟩ := List.mem_filter.1 h2
 refine ⟨h3, fun hd => ?_⟩
 rw [pB_iff.2 hd] at h4
 simp at h4
theorem srt_selL (a b : List (List Int)) : SrtC (selL a b) := by
 unfold selL freeL
 exact List.Pairwise.sublist ((List.take_sublist _ _).trans List.filter_sublist) (srt_joinL a b)
theorem nodup_len : ∀ {C D : List Int}, C.Nodup → (∀ z, z ∈ C → z ∈ D) → C.length ≤ D.length
 | [], _, _, _ => Nat.zero_le _
 | x :: C, D, hn, hs => by
  obtain ⟨h1, h2⟩ := List.nodup_cons.1 hn
  have hl := List.length_erase_of_mem (hs x List.mem_cons_self)
  have hp := List.length_pos_of_mem (hs x List.mem_cons_self)
  have ih := nodup_len (C := C) (D := D.erase x) h2 fun z hz => by
   have hne : z ≠ x := fun e => h1 (e ▸ hz)
   exact (List.mem_erase_of_ne hne).2 (hs z (List.mem_cons_of_mem _ hz))
  rw [List.length_cons]
  omega
theorem selL_apart {a b : List (List Int)} {u v : List Int} (hu : u ∈ selL a b) (hv : v ∈ selL a b) (hs : ∀ x, x ∈ u → x ∈ v) : u = v := by
 obtain ⟨u1, u2⟩ := selL_mem hu
 obtain ⟨v1, v2⟩ := selL_mem hv
 have gu := cutB_Asc.1 (joinL_good a b u u1).2
 have gv := cutB_Asc.1 (joinL_good a b v v1).2
 have hlen : ¬ u.length < v.length := fun h => v2 ⟨u, u1, h, hs⟩
 refine asc_ext gu.1 gv.1 fun z => ⟨hs z, fun hz => ?_⟩
 refine Classical.byContradiction fun hno => hlen ?_
 have hnu : u.Nodup := gu.1.imp fun hab e => by omega
 have : u.length < (z :: u).length := by simp
 refine Nat.lt_of_lt_of_le this ?_
 have hnz : (z :: u).Nodup := List.nodup_cons.2 ⟨hno, hnu⟩
 have hsub : ∀ x, x ∈ z :: u → x ∈ v := fun x hx => by
  rcases List.mem_cons.1 hx with rfl | hx
  ·exact hz
  ·exact hs x hx
 exact nodup_len hnz hsub
end Go.Xw
