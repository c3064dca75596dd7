/- The literals below a conjunction, as plain data; no condition. -/
import Derived.Test.YtbjgekllkfnjnaaMap
import Derived.Test.YtbjgekllkfnjnaaMergeLaw
set_option linter.all false
namespace Go.Xw
theorem mem_insL {x y : Int} : ∀ {xs : List Int}, y ∈ insL xs x ↔ y = x ∨ y ∈ xs
 | [] => by simp [insL]
 | z :: zs => by
  have ih := mem_insL (x := x) (y := y) (xs := zs)
  unfold insL
  split
  ·simp only [List.mem_cons, ih]
   constructor
   ·rintro (h | h | h)
    ·exact .inr (.inl h)
    ·exact .inl h
    ·exact .inr (.inr h)
   ·rintro (h | h | h)
    ·exact .inr (.inl h)
    ·exact .inl h
    ·exact .inr (.inr h)
  ·split
   ·rename_i h1
    simp only [List.mem_cons]
    constructor
    ·exact .inr
    ·rintro (h | h)
     ·exact .inl (h.trans h1.symm)
     ·exact h
   ·simp only [List.mem_cons]
theorem asc_insL {x : Int} : ∀ {xs : List Int}, Asc xs → Asc (insL xs x)
 | [], _ => by simp [insL, Asc]
 | z :: zs, h => by
  obtain ⟨h1, h2⟩ := List.pairwise_cons.1 h
  have ih := asc_insL (x := x) (xs := zs) h2
  unfold insL
  split
  ·rename_i hz
   refine List.pairwise_cons.2 ⟨fun w hw => ?_, ih⟩
   rcases mem_insL.1 hw with rfl | hw
   ·exact hz
   ·exact h1 w hw
  ·split
   ·exact h
   ·refine List.pairwise_cons.2 ⟨fun w hw => ?_, h⟩
    rcases List.mem_cons.1 hw with rfl | hw
    ·omega
    ·have := h1 w hw; omega
theorem asc_ext : ∀ {xs ys : List Int}, Asc xs → Asc ys → (∀ z, z ∈ xs ↔ z ∈ ys) → xs = ys
 | [], [], _, _, _ => rfl
 | [], y :: ys, _, _, h => absurd ((h y).2 (by simp)) (by simp)
 | x :: xs, [], _, _, h => absurd ((h x).1 (by simp)) (by simp)
 | x :: xs, y :: ys, hx, hy, h => by
  obtain ⟨x1, x2⟩ := List.pairwise_cons.1 hx
  obtain ⟨y1, y2⟩ := List.pairwise_cons.1 hy
  have e : x = y := by
   have k1 := (h x).1 (by simp)
   have k2 := (h y).2 (by simp)
   rcases List.mem_cons.1 k1 with k1 | k1
   ·exact k1
   ·rcases List.mem_cons.1 k2 with k2 | k2
    ·exact k2.symm
    ·have := x1 y k2; have := y1 x k1; omega
  subst e
  rw [asc_ext x2 y2 fun z => ?_]
  have hz := h z
  simp only [List.mem_cons] at hz
  constructor
  ·intro hm
   have := x1 z hm
   exact (hz.1 (.inr hm)).resolve_left (by omega)
  ·intro hm
   have := y1 z hm
   exact (hz.2 (.inr hm)).resolve_left (by omega)
theorem asc_ge {xs : List Int} (h : Asc xs) (h0 : ∀ x, x ∈ xs → 0 ≤ x) : ∀ i, i < xs.length → (i : Int) ≤ xs.getD i default
 | 0, hi => h0 _ (getD_mem hi)
 | i + 1, hi => by
  have h1 := asc_ge h h0 i (by omega)
  have h2 := asc_get.2 h (i + 1) (by omega) hi
  rw [show i + 1 - 1 = i by omega] at h2
  omega
theorem asc_len {xs : List Int} {m : Nat} (h : Asc xs) (h0 : ∀ x, x ∈ xs → 0 ≤ x ∧ x < m) : xs.length ≤ m := by
 rcases Nat.eq_zero_or_pos xs.length with h1 | h1
 ·omega
 ·have := asc_ge h (fun x hx => (h0 x hx).1) (xs.length - 1) (by omega)
  have := (h0 _ (getD_mem (show xs.length - 1 < xs.length by omega))).2
  omega
theorem marked_mem (B : List Bool) : ∀ i, ∀ z : Int, z ∈ markedTo B i ↔ ∃ k : Nat, k < i ∧ z = k ∧ B.getD k default = true
 | 0, z => by simp [markedTo]
 | i + 1, z => by
  have ih := marked_mem B i z
  unfold markedTo
  split
  ·rename_i hb
   rw [List.mem_append, ih]
   constructor
   ·rintro (⟨k, h1, h2, h3⟩ | h)
    ·exact ⟨k, by omega, h2, h3⟩
    ·simp at h; exact ⟨i, by omega, h, hb⟩
   ·rintro ⟨k, h1, h2, h3⟩
    by_cases hk : k < i
    ·exact .inl ⟨k, hk, h2, h3⟩
    ·obtain rfl : k = i := by omega
     exact .inr (by simp [h2])
  ·rename_i hb
   rw [ih]
   constructor
   ·rintro ⟨k, h1, h2, h3⟩; exact ⟨k, by omega, h2, h3⟩
   ·rintro ⟨k, h1, h2, h3⟩
    refine ⟨k, ?_, h2, h3⟩
    rcases Nat.lt_or_ge k i with h4 | h4
    ·exact h4
    ·obtain rfl : k = i := by omega
     exact absurd h3 hb
theorem marked_asc (B : List Bool) : ∀ i, Asc (markedTo B i)
 | 0 => by simp [markedTo, Asc]
 | i + 1 => by
  have ih := marked_asc B i
  unfold markedTo
  split
  ·refine List.pairwise_append.2 ⟨ih, by simp, fun a ha b hb => ?_⟩
   obtain ⟨k, h1, h2, _⟩ := (marked_mem B i a).1 ha
   simp at hb
   omega
  ·exact ih
def AL (n : NetL) (l : Int) : Prop := ∃ i, i < n.ands.length ∧ l = 2 * ((fst_ n + i : Nat) : Int)
inductive CLf (n : NetL) : Int → Int → Prop where
 | leaf {l : Int} (h : ¬ AL n l) : CLf n l l
 | left {i : Nat} {l : Int} (hi : i < n.ands.length) (h : CLf n (n.ands.getD i default).1 l) : CLf n (2 * ((fst_ n + i : Nat) : Int)) l
 | right {i : Nat} {l : Int} (hi : i < n.ands.length) (h : CLf n (n.ands.getD i default).2 l) : CLf n (2 * ((fst_ n + i : Nat) : Int)) l
theorem CLf.eq {n : NetL} {l m : Int} (h : CLf n l m) (ha : ¬ AL n l) : m = l := by
 cases h with
 | leaf _ => rfl
 | left hi _ => exact absurd ⟨_, hi, rfl⟩ ha
 | right hi _ => exact absurd ⟨_, hi, rfl⟩ ha
theorem CLf.and_ {n : NetL} {i : Nat} {m : Int} (hi : i < n.ands.length) (h : CLf n (2 * ((fst_ n + i : Nat) : Int)) m) : CLf n (n.ands.getD i default).1 m ∨ CLf n (n.ands.getD i default).2 m := by
 generalize hg : 2 * ((fst_ n + i : Nat) : Int) = l at h
 cases h with
 | leaf hh => exact absurd ⟨i, hi, hg.symm⟩ hh
 | @left j _ hi' h' =>
  obtain rfl : i = j := by omega
  exact .inl h'
 | @right j _ hi' h' =>
  obtain rfl : i = j := by omega
  exact .inr h'
noncomputable def conjL (n : NetL) (k : Nat) : List Int := markedL (listB (2 * nds n) fun l => CLf n (2 * (k : Int)) (l : Int))
theorem conjL_asc (n : NetL) (k : Nat) : Asc (conjL n k) := marked_asc _ _
theorem conjL_mem {n : NetL} {k : Nat} {z : Int} : z ∈ conjL n k ↔ ∃ l : Nat, l < 2 * nds n ∧ z = l ∧ CLf n (2 * (k : Int)) l := by
 unfold conjL markedL
 rw [marked_mem, listB_len]
 constructor
 ·rintro ⟨l, h1, h2, h3⟩; exact ⟨l, h1, h2, (listB_get h1).1 h3⟩
 ·rintro ⟨l, h1, h2, h3⟩; exact ⟨l, h1, h2, (listB_get h1).2 h3⟩
structure CTop (n : NetL) (r : Nat) (B : List Bool) (k : Nat) : Prop where
 len : B.length = 2 * nds n
 sd : ∀ l, l < 2 * nds n → B.getD l default = true → ∀ m, CLf n (l : Int) m → CLf n (2 * (r : Int)) m
 cp : ∀ m, CLf n (2 * (r : Int)) m → ∃ l, l < 2 * nds n ∧ B.getD l default = true ∧ CLf n (l : Int) m
 top : ∀ j, k ≤ j → fst_ n ≤ j → j < nds n → ¬ B.getD (2 * j) default = true
theorem bget_set' {B : List Bool} {i k : Nat} {v : Bool} (hi : i < B.length) : (B.set i v).getD k default = if k = i then v else B.getD k default := by
 simp only [List.getD_eq_getElem?_getD, List.getElem?_set]
 by_cases h : i = k
 ·subst h; simp [hi]
 ·rw [if_neg h, if_neg (fun e => h e.symm)]
theorem CTop.start {n : NetL} {r : Nat} (hr : r < nds n) : CTop n r ((List.replicate (2 * nds n) false).set (2 * r) true) (r + 1) := by
 have hb : ∀ l, ((List.replicate (2 * nds n) false).set (2 * r) true).getD l default = true ↔ l = 2 * r := fun l => by
  rw [bget_set' (by simp; omega)]
  split
  ·rename_i h; simp [h]
  ·rename_i h
   simp only [List.getD_eq_getElem?_getD, List.getElem?_replicate]
   constructor
   ·intro h2; split at h2 <;> simp at h2
   ·intro h2; exact absurd h2 h
 refine ⟨by simp, fun l hl hm m hc => ?_, fun m hc => ⟨2 * r, by omega, (hb _).2 rfl, ?_⟩, fun j h1 h2 h3 hm => ?_⟩
 ·obtain rfl := (hb l).1 hm
  rw [show ((2 * r : Nat) : Int) = 2 * (r : Int) by omega] at hc
  exact hc
 ·rw [show ((2 * r : Nat) : Int) = 2 * (r : Int) by omega]; exact hc
 ·have := (hb _).1 hm; omega
theorem CTop.skip {n : NetL} {r : Nat} {B : List Bool} {k : Nat} (h : CTop n r B (k + 1)) (hm : ¬ B.getD (2 * k) default = true) : CTop n r B k :=
 ⟨h.len, h.sd, h.cp, fun j h1 h2 h3 => by
  by_cases hj : j = k
  ·subst hj; exact hm
  ·exact h.top j (by omega) h2 h3⟩
theorem CTop.down {n : NetL} (hok : NetOkP n) {r : Nat} {B : List Bool} {i : Nat} (hi : i < n.ands.length) (h : CTop n r B (fst_ n + i + 1)) (hm : B.getD (2 * (fst_ n + i)) default = true) :
  CTop n r (((B.set (2 * (fst_ n + i)) false).set (n.ands.getD i default).1.toNat true).set (n.ands.getD i default).2.toNat true) (fst_ n + i) := by
 have hn := hok.nums
 have n1 := hn.n1
 have f2 := hn.f2
 obtain ⟨q1, q2⟩ := hok.ands i hi
 unfold litP at q1 q2
 have hlen := h.len
 have hb : ∀ l, (((B.set (2 * (fst_ n + i)) false).set (n.ands.getD i default).1.toNat true).set (n.ands.getD i default).2.toNat true).getD l default = true ↔ l = (n.ands.getD i default).1.toNat ∨ l = (n.ands.getD i default).2.toNat ∨ (l ≠ 2 * (fst_ n + i) ∧ B.getD l default = true) := fun l => by
  rw [bget_set (by simp only [List.length_set]; omega), bget_set (by simp only [List.length_set]; omega), bget_set' (by omega)]
  by_cases hl : l = 2 * (fst_ n + i)
  ·rw [if_pos hl]; simp [hl]; omega
  ·rw [if_neg hl]; simp only [ne_eq, hl, not_false_eq_true, true_and]
   constructor
   ·rintro (h | h | h)
    ·exact .inr (.inl h)
    ·exact .inl h
    ·exact .inr (.inr h)
   ·rintro (h | h | h)
    ·exact .inr (.inl h)
    ·exact .inl h
    ·exact .inr (.inr h)
 have hsd : ∀ m, CLf n (2 * ((fst_ n + i : Nat) : Int)) m → CLf n (2 * (r : Int)) m := fun m hc => h.sd _ (by omega) hm m (by rw [show ((2 * (fst_ n + i) : Nat) : Int) = 2 * ((fst_ n + i : Nat) : Int) by omega]; exact hc)
 have eA : (((n.ands.getD i default).1.toNat : Nat) : Int) = (n.ands.getD i default).1 := by omega
 have eB : (((n.ands.getD i default).2.toNat : Nat) : Int) = (n.ands.getD i default).2 := by omega
 refine ⟨by simp; exact hlen, fun l hl hml m hc => ?_, fun m hc => ?_, fun j h1 h2 h3 hmj => ?_⟩
 ·rcases (hb l).1 hml with rfl | rfl | ⟨_, h2⟩
  ·rw [eA] at hc; exact hsd m (.left hi hc)
  ·rw [eB] at hc; exact hsd m (.right hi hc)
  ·exact h.sd l hl h2 m hc
 ·obtain ⟨l, h1, h2, h3⟩ := h.cp m hc
  by_cases hl : l = 2 * (fst_ n + i)
  ·subst hl
   rw [show ((2 * (fst_ n + i) : Nat) : Int) = 2 * ((fst_ n + i : Nat) : Int) by omega] at h3
   rcases h3.and_ hi with h4 | h4
   ·exact ⟨_, by omega, (hb _).2 (.inl rfl), by rw [eA]; exact h4⟩
   ·exact ⟨_, by omega, (hb _).2 (.inr (.inl rfl)), by rw [eB]; exact h4⟩
  ·exact ⟨l, h1, (hb l).2 (.inr (.inr ⟨hl, h2⟩)), h3⟩
 ·rcases (hb _).1 hmj with h4 | h4 | ⟨h4, h5⟩
  ·omega
  ·omega
  ·exact h.top j (by omega) h2 h3 h5
theorem CTop.done {n : NetL} (hok : NetOkP n) {r : Nat} {B : List Bool} {k : Nat} (h : CTop n r B k) (hk : k ≤ fst_ n) : B = listB (2 * nds n) fun l => CLf n (2 * (r : Int)) (l : Int) := by
 have n1 := hok.nums.n1
 have hno : ∀ l, l < 2 * nds n → B.getD l default = true → ¬ AL n (l : Int) := fun l hl hm ⟨i, hi, he⟩ => by
  have : l = 2 * (fst_ n + i) := by omega
  subst this
  exact h.top _ (by omega) (by omega) (by omega) hm
 refine listB_eq h.len fun l hl => ⟨fun hm => h.sd l hl hm _ (.leaf (hno l hl hm)), fun hc => ?_⟩
 obtain ⟨l', h1, h2, h3⟩ := h.cp _ hc
 have := h3.eq (hno l' h1 h2)
 have : l' = l := by omega
 subst this
 exact h2
structure CSet (n : NetL) (r : Nat) (S : List Int) (t : Nat) : Prop where
 asc : Asc S
 rng : ∀ l, l ∈ S → 0 ≤ l ∧ l < 2 * (nds n : Int)
 sd : ∀ l, l ∈ S → ∀ m, CLf n l m → CLf n (2 * (r : Int)) m
 cp : ∀ m, CLf n (2 * (r : Int)) m → ∃ l, l ∈ S ∧ CLf n l m
 top : ∀ i, i < n.ands.length → (2 * ((fst_ n + i : Nat) : Int)) ∈ S → fst_ n + i < t
theorem CSet.len {n : NetL} {r : Nat} {S : List Int} {t : Nat} (h : CSet n r S t) : S.length ≤ 2 * nds n := asc_len h.asc fun x hx => by have := h.rng x hx; omega
theorem CSet.done {n : NetL} {r : Nat} {S : List Int} {t : Nat} (h : CSet n r S t) (hno : ∀ l, l ∈ S → ¬ AL n l) : S = conjL n r :=
 asc_ext h.asc (conjL_asc n r) fun z => by
  rw [conjL_mem]
  constructor
  ·intro hz
   have hr := h.rng z hz
   exact ⟨z.toNat, by omega, by omega, by rw [show ((z.toNat : Nat) : Int) = z by omega]; exact h.sd z hz z (.leaf (hno z hz))⟩
  ·rintro ⟨l, h1, rfl, h3⟩
   obtain ⟨l', h4, h5⟩ := h.cp _ h3
   have := h5.eq (hno l' h4)
   subst this
   exact h4
theorem CSet.start {n : NetL} (hok : NetOkP n) {i : Nat} (hi : i < n.ands.length) : CSet n (fst_ n + i) (insL [(n.ands.getD i default).1] (n.ands.getD i default).2) (fst_ n + i) := by
 have hn := hok.nums
 have f2 := hn.f2
 have n1 := hn.n1
 obtain ⟨q1, q2⟩ := hok.ands i hi
 unfold litP at q1 q2
 have hmem : ∀ l, l ∈ insL [(n.ands.getD i default).1] (n.ands.getD i default).2 ↔ l = (n.ands.getD i default).2 ∨ l = (n.ands.getD i default).1 := fun l => by rw [mem_insL]; simp
 refine ⟨asc_insL (by simp [Asc]), fun l hl => ?_, fun l hl m hc => ?_, fun m hc => ?_, fun j hj hm => ?_⟩
 ·rcases (hmem l).1 hl with rfl | rfl <;> omega
 ·rcases (hmem l).1 hl with rfl | rfl
  ·exact .right hi hc
  ·exact .left hi hc
 ·rcases hc.and_ hi with h | h
  ·exact ⟨_, (hmem _).2 (.inr rfl), h⟩
  ·exact ⟨_, (hmem _).2 (.inl rfl), h⟩
 ·rcases (hmem _).1 hm with h | h <;> omega
theorem CSet.down {n : NetL} (hok : NetOkP n) {r : Nat} {S : List Int} {t : Nat} (h : CSet n r S t) {i j : Nat} (hi : i < n.ands.length) (hj : j < S.length) (he : S.getD j default = 2 * ((fst_ n + i : Nat) : Int)) (hlast : ∀ q, j < q → q < S.length → ¬ AL n (S.getD q default)) :
  CSet n r (insL (insL (S.take j ++ S.drop (j + 1)) (n.ands.getD i default).1) (n.ands.getD i default).2) (fst_ n + i) ∧ fst_ n + i < t := by
 have hn := hok.nums
 have f2 := hn.f2
 have n1 := hn.n1
 obtain ⟨q1, q2⟩ := hok.ands i hi
 unfold litP at q1 q2
 have hsub : (S.take j ++ S.drop (j + 1)).Sublist S := by
  rw [← List.eraseIdx_eq_take_drop_succ]; exact List.eraseIdx_sublist _ _
 have hpw := List.pairwise_iff_getElem.1 h.asc
 have hge : ∀ q (hq : q < S.length), S[q] = S.getD q default := fun q hq => by simp [List.getD_eq_getElem?_getD, hq]
 have hmemS : ∀ l, l ∈ S ↔ l ∈ S.take j ++ S.drop (j + 1) ∨ l = S.getD j default := fun l => by
  constructor
  ·intro hl
   obtain ⟨q, hq, rfl⟩ := List.mem_iff_getElem.1 hl
   by_cases hqj : q = j
   ·subst hqj; exact .inr (hge _ _)
   ·left
    rw [List.mem_append]
    rcases Nat.lt_or_ge q j with h1 | h1
    ·exact .inl (List.mem_take_iff_getElem.2 ⟨q, by omega, rfl⟩)
    ·exact .inr (List.mem_drop_iff_getElem.2 ⟨q - (j + 1), by omega, by congr 1; omega⟩)
  ·rintro (hl | rfl)
   ·exact hsub.subset hl
   ·exact getD_mem hj
 have hlt : ∀ l, l ∈ S.take j ++ S.drop (j + 1) → AL n l → l < 2 * ((fst_ n + i : Nat) : Int) := fun l hl hal => by
  rcases List.mem_append.1 hl with hl | hl
  ·obtain ⟨q, hq, rfl⟩ := List.mem_take_iff_getElem.1 hl
   have := hpw q j (by omega) hj (by omega)
   rw [hge j hj, he] at this
   exact this
  ·obtain ⟨q, hq, rfl⟩ := List.mem_drop_iff_getElem.1 hl
   exact absurd (by rw [hge] at hal; exact hal) (hlast (j + 1 + q) (by omega) (by omega))
 have hmem : ∀ l, l ∈ insL (insL (S.take j ++ S.drop (j + 1)) (n.ands.getD i default).1) (n.ands.getD i default).2 ↔ l = (n.ands.getD i default).2 ∨ l = (n.ands.getD i default).1 ∨ l ∈ S.take j ++ S.drop (j + 1) := fun l => by rw [mem_insL, mem_insL]
 have hjS := getD_mem hj
 rw [he] at hjS
 refine ⟨⟨asc_insL (asc_insL (List.Pairwise.sublist hsub h.asc)), fun l hl => ?_, fun l hl m hc => ?_, fun m hc => ?_, fun q hq hm => ?_⟩, h.top i hi hjS⟩
 ·rcases (hmem l).1 hl with rfl | rfl | hl
  ·omega
  ·omega
  ·exact h.rng l (hsub.subset hl)
 ·rcases (hmem l).1 hl with rfl | rfl | hl
  ·exact h.sd _ hjS m (.right hi hc)
  ·exact h.sd _ hjS m (.left hi hc)
  ·exact h.sd l (hsub.subset hl) m hc
 ·obtain ⟨l, h1, h2⟩ := h.cp m hc
  rcases (hmemS l).1 h1 with h3 | rfl
  ·exact ⟨l, (hmem l).2 (.inr (.inr h3)), h2⟩
  ·rw [he] at h2
   rcases h2.and_ hi with h4 | h4
   ·exact ⟨_, (hmem _).2 (.inr (.inl rfl)), h4⟩
   ·exact ⟨_, (hmem _).2 (.inl rfl), h4⟩
 ·rcases (hmem _).1 hm with h4 | h4 | h4
  ·omega
  ·omega
  ·have := hlt _ h4 ⟨q, hq, rfl⟩; omega
end Go.Xw
