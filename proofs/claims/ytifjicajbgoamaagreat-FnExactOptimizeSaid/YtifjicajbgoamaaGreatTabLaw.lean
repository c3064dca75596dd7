/- Texts that belong together; each under its stated conditions. -/
import Derived.Test.YtifjicajbgoamaaGreatAddLaw
import Derived.Test.YtifjicajbgoamaaGreatIns
import Derived.Test.YtifjicajbgoamaaGreatMapLaw
set_option linter.all false
section
namespace Go.Xw
theorem mem_insL {x y : Int} : ∀ {xs : List Int}, y ∈ insL xs x ↔ y = x ∨ y ∈ xs
 | [] => by simp [insL]
 | z :: zs => by
  have ih := mem_insL (x := x) (y := y) (xs := zs)
  unfold insL
  split
  ·simp only [List.mem_cons, ih]
   constructor
   ·rintro (h | h | h)
    ·exact .inr (.inl h)
    ·exact .inl h
    ·exact .inr (.inr h)
   ·rintro (h | h | h)
    ·exact .inr (.inl h)
    ·exact .inl h
    ·exact .inr (.inr h)
  ·split
   ·rename_i h1
    simp only [List.mem_cons]
    constructor
    ·exact .inr
    ·rintro (h | h)
     ·exact .inl (h.trans h1.symm)
     ·exact h
   ·simp only [List.mem_cons]
theorem asc_insL {x : Int} : ∀ {xs : List Int}, Asc xs → Asc (insL xs x)
 | [], _ => by simp [insL, Asc]
 | z :: zs, h => by
  obtain ⟨h1, h2⟩ := List.pairwise_cons.1 h
  have ih := asc_insL (x := x) (xs := zs) h2
  unfold insL
  split
  ·rename_i hz
   refine List.pairwise_cons.2 ⟨fun w hw => ?_, ih⟩
   rcases mem_insL.1 hw with rfl | hw
   ·exact hz
   ·exact h1 w hw
  ·split
   ·exact h
   ·refine List.pairwise_cons.2 ⟨fun w hw => ?_, h⟩
    rcases List.mem_cons.1 hw with rfl | hw
    ·omega
    ·have := h1 w hw; omega
theorem asc_ext : ∀ {xs ys : List Int}, Asc xs → Asc ys → (∀ z, z ∈ xs ↔ z ∈ ys) → xs = ys
 | [], [], _, _, _ => rfl
 | [], y :: ys, _, _, h => absurd ((h y).2 (by simp)) (by simp)
 | x :: xs, [], _, _, h => absurd ((h x).1 (by simp)) (by simp)
 | x :: xs, y :: ys, hx, hy, h => by
  obtain ⟨x1, x2⟩ := List.pairwise_cons.1 hx
  obtain ⟨y1, y2⟩ := List.pairwise_cons.1 hy
  have e : x = y := by
   have k1 := (h x).1 (by simp)
   have k2 := (h y).2 (by simp)
   rcases List.mem_cons.1 k1 with k1 | k1
   ·exact k1
   ·rcases List.mem_cons.1 k2 with k2 | k2
    ·exact k2.symm
    ·have := x1 y k2; have := y1 x k1; omega
  subst e
  rw [asc_ext x2 y2 fun z => ?_]
  have hz := h z
  simp only [List.mem_cons] at hz
  constructor
  ·intro hm
   have := x1 z hm
   exact (hz.1 (.inr hm)).resolve_left (by omega)
  ·intro hm
   have := y1 z hm
   exact (hz.2 (.inr hm)).resolve_left (by omega)
theorem asc_ge {xs : List Int} (h : Asc xs) (h0 : ∀ x, x ∈ xs → 0 ≤ x) : ∀ i, i < xs.length → (i : Int) ≤ xs.getD i default
 | 0, hi => h0 _ (getD_mem hi)
 | i + 1, hi => by
  have h1 := asc_ge h h0 i (by omega)
  have h2 := asc_get.2 h (i + 1) (by omega) hi
  rw [show i + 1 - 1 = i by omega] at h2
  omega
theorem asc_len {xs : List Int} {m : Nat} (h : Asc xs) (h0 : ∀ x, x ∈ xs → 0 ≤ x ∧ x < m) : xs.length ≤ m := by
 rcases Nat.eq_zero_or_pos xs.length with h1 | h1
 ·omega
 ·have := asc_ge h (fun x hx => (h0 x hx).1) (xs.length - 1) (by omega)
  have := (h0 _ (getD_mem (show xs.length - 1 < xs.length by omega))).2
  omega
theorem marked_mem (B : List Bool) : ∀ i, ∀ z : Int, z ∈ markedTo B i ↔ ∃ k : Nat, k < i ∧ z = k ∧ B.getD k default = true
 | 0, z => by simp [markedTo]
 | i + 1, z => by
  have ih := marked_mem B i z
  unfold markedTo
  split
  ·rename_i hb
   rw [List.mem_append, ih]
   constructor
   ·rintro (⟨k, h1, h2, h3⟩ | h)
    ·exact ⟨k, by omega, h2, h3⟩
    ·simp at h; exact ⟨i, by omega, h, hb⟩
   ·rintro ⟨k, h1, h2, h3⟩
    by_cases hk : k < i
    ·exact .inl ⟨k, hk, h2, h3⟩
    ·obtain rfl : k = i := by omega
     exact .inr (by simp [h2])
  ·rename_i hb
   rw [ih]
   constructor
   ·rintro ⟨k, h1, h2, h3⟩; exact ⟨k, by omega, h2, h3⟩
   ·rintro ⟨k, h1, h2, h3⟩
    refine ⟨k, ?_, h2, h3⟩
    rcases Nat.lt_or_ge k i with h4 | h4
    ·exact h4
    ·obtain rfl : k = i := by omega
     exact absurd h3 hb
theorem marked_asc (B : List Bool) : ∀ i, Asc (markedTo B i)
 | 0 => by simp [markedTo, Asc]
 | i + 1 => by
  have ih := marked_asc B i
  unfold markedTo
  split
  ·refine List.pairwise_append.2 ⟨ih, by simp, fun a ha b hb => ?_⟩
   obtain ⟨k, h1, h2, _⟩ := (marked_mem B i a).1 ha
   simp at hb
   omega
  ·exact ih
def AL (n : NetL) (l : Int) : Prop := ∃ i, i < n.ands.length ∧ l = 2 * ((fst_ n + i : Nat) : Int)
inductive CLf (n : NetL) : Int → Int → Prop where
 | leaf {l : Int} (h : ¬ AL n l) : CLf n l l
 | left {i : Nat} {l : Int} (hi : i < n.ands.length) (h : CLf n (n.ands.getD i default).1 l) : CLf n (2 * ((fst_ n + i : Nat) : Int)) l
 | right {i : Nat} {l : Int} (hi : i < n.ands.length) (h : CLf n (n.ands.getD i default).2 l) : CLf n (2 * ((fst_ n + i : Nat) : Int)) l
theorem CLf.eq {n : NetL} {l m : Int} (h : CLf n l m) (ha : ¬ AL n l) : m = l := by
 cases h with
 | leaf _ => rfl
 | left hi _ => exact absurd ⟨_, hi, rfl⟩ ha
 | right hi _ => exact absurd ⟨_, hi, rfl⟩ ha
theorem CLf.and_ {n : NetL} {i : Nat} {m : Int} (hi : i < n.ands.length) (h : CLf n (2 * ((fst_ n + i : Nat) : Int)) m) : CLf n (n.ands.getD i default).1 m ∨ CLf n (n.ands.getD i default).2 m := by
 generalize hg : 2 * ((fst_ n + i : Nat) : Int) = l at h
 cases h with
 | leaf hh => exact absurd ⟨i, hi, hg.symm⟩ hh
 | @left j _ hi' h' =>
  obtain rfl : i = j := by omega
  exact .inl h'
 | @right j _ hi' h' =>
  obtain rfl : i = j := by omega
  exact .inr h'
noncomputable def conjL (n : NetL) (k : Nat) : List Int := markedL (listB (2 * nds n) fun l => CLf n (2 * (k : Int)) (l : Int))
theorem conjL_asc (n : NetL) (k : Nat) : Asc (conjL n k) := marked_asc _ _
theorem conjL_mem {n : NetL} {k : Nat} {z : Int} : z ∈ conjL n k ↔ ∃ l : Nat, l < 2 * nds n ∧ z = l ∧ CLf n (2 * (k : Int)) l := by
 unfold conjL markedL
 rw [marked_mem, listB_len]
 constructor
 ·rintro ⟨l, h1, h2, h3⟩; exact ⟨l, h1, h2, (listB_get h1).1 h3⟩
 ·rintro ⟨l, h1, h2, h3⟩; exact ⟨l, h1, h2, (listB_get h1).2 h3⟩
theorem conjL_len (n : NetL) (k : Nat) : (conjL n k).length ≤ 2 * nds n := by
 unfold conjL markedL
 have := markedTo_len (listB (2 * nds n) fun l => CLf n (2 * (k : Int)) (l : Int)) (2 * nds n)
 rw [listB_len]; exact this
structure CTop (n : NetL) (r : Nat) (B : List Bool) (k : Nat) : Prop where
 len : B.length = 2 * nds n
 sd : ∀ l, l < 2 * nds n → B.getD l default = true → ∀ m, CLf n (l : Int) m → CLf n (2 * (r : Int)) m
 cp : ∀ m, CLf n (2 * (r : Int)) m → ∃ l, l < 2 * nds n ∧ B.getD l default = true ∧ CLf n (l : Int) m
 top : ∀ j, k ≤ j → fst_ n ≤ j → j < nds n → ¬ B.getD (2 * j) default = true
theorem bget_set' {B : List Bool} {i k : Nat} {v : Bool} (hi : i < B.length) : (B.set i v).getD k default = if k = i then v else B.getD k default := by
 simp only [List.getD_eq_getElem?_getD, List.getElem?_set]
 by_cases h : i = k
 ·subst h; simp [hi]
 ·rw [if_neg h, if_neg (fun e => h e.symm)]
theorem CTop.start {n : NetL} {r : Nat} (hr : r < nds n) : CTop n r ((List.replicate (2 * nds n) false).set (2 * r) true) (r + 1) := by
 have hb : ∀ l, ((List.replicate (2 * nds n) false).set (2 * r) true).getD l default = true ↔ l = 2 * r := fun l => by
  rw [bget_set' (by simp; omega)]
  split
  ·rename_i h; simp [h]
  ·rename_i h
   simp only [List.getD_eq_getElem?_getD, List.getElem?_replicate]
   constructor
   ·intro h2; split at h2 <;> simp at h2
   ·intro h2; exact absurd h2 h
 refine ⟨by simp, fun l hl hm m hc => ?_, fun m hc => ⟨2 * r, by omega, (hb _).2 rfl, ?_⟩, fun j h1 h2 h3 hm => ?_⟩
 ·obtain rfl := (hb l).1 hm
  rw [show ((2 * r : Nat) : Int) = 2 * (r : Int) by omega] at hc
  exact hc
 ·rw [show ((2 * r : Nat) : Int) = 2 * (r : Int) by omega]; exact hc
 ·have := (hb _).1 hm; omega
theorem CTop.skip {n : NetL} {r : Nat} {B : List Bool} {k : Nat} (h : CTop n r B (k + 1)) (hm : ¬ B.getD (2 * k) default = true) : CTop n r B k :=
 ⟨h.len, h.sd, h.cp, fun j h1 h2 h3 => by
  by_cases hj : j = k
  ·subst hj; exact hm
  ·exact h.top j (by omega) h2 h3⟩
theorem CTop.down {n : NetL} (hok : NetOkP n) {r : Nat} {B : List Bool} {i : Nat} (hi : i < n.ands.length) (h : CTop n r B (fst_ n + i + 1)) (hm : B.getD (2 * (fst_ n + i)) default = true) :
  CTop n r (((B.set (2 * (fst_ n + i)) false).set (n.ands.getD i default).1.toNat true).set (n.ands.getD i default).2.toNat true) (fst_ n + i) := by
 have hn := hok.nums
 have n1 := hn.n1
 have f2 := hn.f2
 obtain ⟨q1, q2⟩ := hok.ands i hi
 unfold litP at q1 q2
 have hlen := h.len
 have hb : ∀ l, (((B.set (2 * (fst_ n + i)) false).set (n.ands.getD i default).1.toNat true).set (n.ands.getD i default).2.toNat true).getD l default = true ↔ l = (n.ands.getD i default).1.toNat ∨ l = (n.ands.getD i default).2.toNat ∨ (l ≠ 2 * (fst_ n + i) ∧ B.getD l default = true) := fun l => by
  rw [bget_set (by simp only [List.length_set]; omega), bget_set (by simp only [List.length_set]; omega), bget_set' (by omega)]
  by_cases hl : l = 2 * (fst_ n + i)
  ·rw [if_pos hl]; simp [hl]; omega
  ·rw [if_neg hl]; simp only [ne_eq, hl, not_false_eq_true, true_and]
   constructor
   ·rintro (h | h | h)
    ·exact .inr (.inl h)
    ·exact .inl h
    ·exact .inr (.inr h)
   ·rintro (h | h | h)
    ·exact .inr (.inl h)
    ·exact .inl h
    ·exact .inr (.inr h)
 have hsd : ∀ m, CLf n (2 * ((fst_ n + i : Nat) : Int)) m → CLf n (2 * (r : Int)) m := fun m hc => h.sd _ (by omega) hm m (by rw [show ((2 * (fst_ n + i) : Nat) : Int) = 2 * ((fst_ n + i : Nat) : Int) by omega]; exact hc)
 have eA : (((n.ands.getD i default).1.toNat : Nat) : Int) = (n.ands.getD i default).1 := by omega
 have eB : (((n.ands.getD i default).2.toNat : Nat) : Int) = (n.ands.getD i default).2 := by omega
 refine ⟨by simp; exact hlen, fun l hl hml m hc => ?_, fun m hc => ?_, fun j h1 h2 h3 hmj => ?_⟩
 ·rcases (hb l).1 hml with rfl | rfl | ⟨_, h2⟩
  ·rw [eA] at hc; exact hsd m (.left hi hc)
  ·rw [eB] at hc; exact hsd m (.right hi hc)
  ·exact h.sd l hl h2 m hc
 ·obtain ⟨l, h1, h2, h3⟩ := h.cp m hc
  by_cases hl : l = 2 * (fst_ n + i)
  ·subst hl
   rw [show ((2 * (fst_ n + i) : Nat) : Int) = 2 * ((fst_ n + i : Nat) : Int) by omega] at h3
   rcases h3.and_ hi with h4 | h4
   ·exact ⟨_, by omega, (hb _).2 (.inl rfl), by rw [eA]; exact h4⟩
   ·exact ⟨_, by omega, (hb _).2 (.inr (.inl rfl)), by rw [eB]; exact h4⟩
  ·exact ⟨l, h1, (hb l).2 (.inr (.inr ⟨hl, h2⟩)), h3⟩
 ·rcases (hb _).1 hmj with h4 | h4 | ⟨h4, h5⟩
  ·omega
  ·omega
  ·exact h.top j (by omega) h2 h3 h5
theorem CTop.done {n : NetL} (hok : NetOkP n) {r : Nat} {B : List Bool} {k : Nat} (h : CTop n r B k) (hk : k ≤ fst_ n) : B = listB (2 * nds n) fun l => CLf n (2 * (r : Int)) (l : Int) := by
 have n1 := hok.nums.n1
 have hno : ∀ l, l < 2 * nds n → B.getD l default = true → ¬ AL n (l : Int) := fun l hl hm ⟨i, hi, he⟩ => by
  have : l = 2 * (fst_ n + i) := by omega
  subst this
  exact h.top _ (by omega) (by omega) (by omega) hm
 refine listB_eq h.len fun l hl => ⟨fun hm => h.sd l hl hm _ (.leaf (hno l hl hm)), fun hc => ?_⟩
 obtain ⟨l', h1, h2, h3⟩ := h.cp _ hc
 have := h3.eq (hno l' h1 h2)
 have : l' = l := by omega
 subst this
 exact h2
structure CSet (n : NetL) (r : Nat) (S : List Int) (t : Nat) : Prop where
 asc : Asc S
 rng : ∀ l, l ∈ S → 0 ≤ l ∧ l < 2 * (nds n : Int)
 sd : ∀ l, l ∈ S → ∀ m, CLf n l m → CLf n (2 * (r : Int)) m
 cp : ∀ m, CLf n (2 * (r : Int)) m → ∃ l, l ∈ S ∧ CLf n l m
 top : ∀ i, i < n.ands.length → (2 * ((fst_ n + i : Nat) : Int)) ∈ S → fst_ n + i < t
theorem CSet.len {n : NetL} {r : Nat} {S : List Int} {t : Nat} (h : CSet n r S t) : S.length ≤ 2 * nds n := asc_len h.asc fun x hx => by have := h.rng x hx; omega
theorem CSet.done {n : NetL} {r : Nat} {S : List Int} {t : Nat} (h : CSet n r S t) (hno : ∀ l, l ∈ S → ¬ AL n l) : S = conjL n r :=
 asc_ext h.asc (conjL_asc n r) fun z => by
  rw [conjL_mem]
  constructor
  ·intro hz
   have hr := h.rng z hz
   exact ⟨z.toNat, by omega, by omega, by rw [show ((z.toNat : Nat) : Int) = z by omega]; exact h.sd z hz z (.leaf (hno z hz))⟩
  ·rintro ⟨l, h1, rfl, h3⟩
   obtain ⟨l', h4, h5⟩ := h.cp _ h3
   have := h5.eq (hno l' h4)
   subst this
   exact h4
theorem CSet.start {n : NetL} (hok : NetOkP n) {i : Nat} (hi : i < n.ands.length) : CSet n (fst_ n + i) (insL [(n.ands.getD i default).1] (n.ands.getD i default).2) (fst_ n + i) := by
 have hn := hok.nums
 have f2 := hn.f2
 have n1 := hn.n1
 obtain ⟨q1, q2⟩ := hok.ands i hi
 unfold litP at q1 q2
 have hmem : ∀ l, l ∈ insL [(n.ands.getD i default).1] (n.ands.getD i default).2 ↔ l = (n.ands.getD i default).2 ∨ l = (n.ands.getD i default).1 := fun l => by rw [mem_insL]; simp
 refine ⟨asc_insL (by simp [Asc]), fun l hl => ?_, fun l hl m hc => ?_, fun m hc => ?_, fun j hj hm => ?_⟩
 ·rcases (hmem l).1 hl with rfl | rfl <;> omega
 ·rcases (hmem l).1 hl with rfl | rfl
  ·exact .right hi hc
  ·exact .left hi hc
 ·rcases hc.and_ hi with h | h
  ·exact ⟨_, (hmem _).2 (.inr rfl), h⟩
  ·exact ⟨_, (hmem _).2 (.inl rfl), h⟩
 ·rcases (hmem _).1 hm with h | h <;> omega
theorem CSet.down {n : NetL} (hok : NetOkP n) {r : Nat} {S : List Int} {t : Nat} (h : CSet n r S t) {i j : Nat} (hi : i < n.ands.length) (hj : j < S.length) (he : S.getD j default = 2 * ((fst_ n + i : Nat) : Int)) (hlast : ∀ q, j < q → q < S.length → ¬ AL n (S.getD q default)) :
  CSet n r (insL (insL (S.take j ++ S.drop (j + 1)) (n.ands.getD i default).1) (n.ands.getD i default).2) (fst_ n + i) ∧ fst_ n + i < t := by
 have hn := hok.nums
 have f2 := hn.f2
 have n1 := hn.n1
 obtain ⟨q1, q2⟩ := hok.ands i hi
 unfold litP at q1 q2
 have hsub : (S.take j ++ S.drop (j + 1)).Sublist S := by
  rw [← List.eraseIdx_eq_take_drop_succ]; exact List.eraseIdx_sublist _ _
 have hpw := List.pairwise_iff_getElem.1 h.asc
 have hge : ∀ q (hq : q < S.length), S[q] = S.getD q default := fun q hq => by simp [List.getD_eq_getElem?_getD, hq]
 have hmemS : ∀ l, l ∈ S ↔ l ∈ S.take j ++ S.drop (j + 1) ∨ l = S.getD j default := fun l => by
  constructor
  ·intro hl
   obtain ⟨q, hq, rfl⟩ := List.mem_iff_getElem.1 hl
   by_cases hqj : q = j
   ·subst hqj; exact .inr (hge _ _)
   ·left
    rw [List.mem_append]
    rcases Nat.lt_or_ge q j with h1 | h1
    ·exact .inl (List.mem_take_iff_getElem.2 ⟨q, by omega, rfl⟩)
    ·exact .inr (List.mem_drop_iff_getElem.2 ⟨q - (j + 1), by omega, by congr 1; omega⟩)
  ·rintro (hl | rfl)
   ·exact hsub.subset hl
   ·exact getD_mem hj
 have hlt : ∀ l, l ∈ S.take j ++ S.drop (j + 1) → AL n l → l < 2 * ((fst_ n + i : Nat) : Int) := fun l hl hal => by
  rcases List.mem_append.1 hl with hl | hl
  ·obtain ⟨q, hq, rfl⟩ := List.mem_take_iff_getElem.1 hl
   have := hpw q j (by omega) hj (by omega)
   rw [hge j hj, he] at this
   exact this
  ·obtain ⟨q, hq, rfl⟩ := List.mem_drop_iff_getElem.1 hl
   exact absurd (by rw [hge] at hal; exact hal) (hlast (j + 1 + q) (by omega) (by omega))
 have hmem : ∀ l, l ∈ insL (insL (S.take j ++ S.drop (j + 1)) (n.ands.getD i default).1) (n.ands.getD i default).2 ↔ l = (n.ands.getD i default).2 ∨ l = (n.ands.getD i default).1 ∨ l ∈ S.take j ++ S.drop (j + 1) := fun l => by rw [mem_insL, mem_insL]
 have hjS := getD_mem hj
 rw [he] at hjS
 refine ⟨⟨asc_insL (asc_insL (List.Pairwise.sublist hsub h.asc)), fun l hl => ?_, fun l hl m hc => ?_, fun m hc => ?_, fun q hq hm => ?_⟩, h.top i hi hjS⟩
 ·rcases (hmem l).1 hl with rfl | rfl | hl
  ·omega
  ·omega
  ·exact h.rng l (hsub.subset hl)
 ·rcases (hmem l).1 hl with rfl | rfl | hl
  ·exact h.sd _ hjS m (.right hi hc)
  ·exact h.sd _ hjS m (.left hi hc)
  ·exact h.sd l (hsub.subset hl) m hc
 ·obtain ⟨l, h1, h2⟩ := h.cp m hc
  rcases (hmemS l).1 h1 with h3 | rfl
  ·exact ⟨l, (hmem l).2 (.inr (.inr h3)), h2⟩
  ·rw [he] at h2
   rcases h2.and_ hi with h4 | h4
   ·exact ⟨_, (hmem _).2 (.inr (.inl rfl)), h4⟩
   ·exact ⟨_, (hmem _).2 (.inl rfl), h4⟩
 ·rcases (hmem _).1 hm with h4 | h4 | h4
  ·omega
  ·omega
  ·have := hlt _ h4 ⟨q, hq, rfl⟩; omega
end Go.Xw
end
section
namespace Go.Xw
inductive Opn (n : NetL) (cut : List Int) (r : Nat) : Nat → Prop where
 | refl : Opn n cut r r
 | left {i : Nat} (hi : i < n.ands.length) (h : Opn n cut r (fst_ n + i)) (hc : ((fst_ n + i : Nat) : Int) ∉ cut) : Opn n cut r (kA n i)
 | right {i : Nat} (hi : i < n.ands.length) (h : Opn n cut r (fst_ n + i)) (hc : ((fst_ n + i : Nat) : Int) ∉ cut) : Opn n cut r (kB n i)
theorem Opn.le {n : NetL} (hn : Nums n) {cut : List Int} {a b : Nat} (h : Opn n cut a b) : b ≤ a := by
 induction h with
 | refl => exact Nat.le_refl _
 | left hi _ _ ih => have := hn.ka _ hi; omega
 | right hi _ _ ih => have := hn.kb _ hi; omega
def Esc (n : NetL) (cut : List Int) (r : Nat) : Prop := ∃ k, Opn n cut r k ∧ (k : Int) ∉ cut ∧ 0 < k ∧ k < fst_ n
def cutP (n : NetL) (r : Nat) (cut : List Int) : Prop := (cut.length ≤ 4 ∧ Asc cut) ∧ (∀ c, c ∈ cut → c ∈ coneL n r) ∧ ¬ Esc n cut r
noncomputable def cutOkB (n : NetL) (k : Int) (cut : List Int) : Bool := pB (NetOkP n ∧ (0 ≤ k ∧ k < nodesL n) ∧ cutP n k.toNat cut)
theorem cutOkB_yes {n : NetL} {k : Int} {cut : List Int} (h : NetOkP n ∧ (0 ≤ k ∧ k < nodesL n) ∧ cutP n k.toNat cut) : cutOkB n k cut = true := pB_iff.2 h
theorem cutOkB_no {n : NetL} {k : Int} {cut : List Int} (h : ¬ (NetOkP n ∧ (0 ≤ k ∧ k < nodesL n) ∧ cutP n k.toNat cut)) : cutOkB n k cut = false := by
 cases hb : cutOkB n k cut with
 | false => rfl
 | true => exact absurd (pB_iff.1 hb) h
structure OTop (n : NetL) (cut : List Int) (r : Nat) (B : List Bool) (k : Nat) : Prop where
 len : B.length = nds n
 root : B.getD r default = true
 sd : ∀ j, j < nds n → B.getD j default = true → Opn n cut r j
 dn : ∀ j, k ≤ j → j < nds n → B.getD j default = true → (j : Int) ∉ cut → 0 < j → fst_ n ≤ j ∧ (∀ i, j = fst_ n + i → B.getD (kA n i) default = true ∧ B.getD (kB n i) default = true)
theorem OTop.start {n : NetL} {cut : List Int} {r : Nat} (hr : r < nds n) : OTop n cut r ((List.replicate (nds n) false).set r true) (r + 1) := by
 have hb : ∀ l, ((List.replicate (nds n) false).set r true).getD l default = true ↔ l = r := fun l => by
  rw [bget_set (by simp; omega)]
  constructor
  ·rintro (h | h)
   ·exact h
   ·simp only [List.getD_eq_getElem?_getD, List.getElem?_replicate] at h; split at h <;> simp at h
  ·exact .inl
 exact ⟨by simp, (hb r).2 rfl, fun j _ h => by rw [(hb j).1 h]; exact .refl, fun j h1 _ h _ _ => by have := (hb j).1 h; omega⟩
theorem OTop.skip {n : NetL} {cut : List Int} {r : Nat} {B : List Bool} {k : Nat} (h : OTop n cut r B (k + 1)) (hs : ¬ B.getD k default = true ∨ (k : Int) ∈ cut) : OTop n cut r B k :=
 ⟨h.len, h.root, h.sd, fun j h1 h2 h3 h4 h5 => by
  by_cases hj : j = k
  ·subst hj
   rcases hs with hs | hs
   ·exact absurd h3 hs
   ·exact absurd hs h4
  ·exact h.dn j (by omega) h2 h3 h4 h5⟩
theorem OTop.bad {n : NetL} {cut : List Int} {r : Nat} {B : List Bool} {k : Nat} (h : OTop n cut r B (k + 1)) (hk : k < nds n) (hm : B.getD k default = true) (hc : (k : Int) ∉ cut) (h0 : 0 < k) (hf : k < fst_ n) : Esc n cut r :=
 ⟨k, h.sd k hk hm, hc, h0, hf⟩
theorem OTop.down {n : NetL} (hn : Nums n) {cut : List Int} {r : Nat} {B : List Bool} {i : Nat} (hi : i < n.ands.length) (h : OTop n cut r B (fst_ n + i + 1)) (hm : B.getD (fst_ n + i) default = true) (hc : ((fst_ n + i : Nat) : Int) ∉ cut) :
  OTop n cut r ((B.set (kA n i) true).set (kB n i) true) (fst_ n + i) := by
 have ka := hn.ka i hi
 have kb := hn.kb i hi
 have n1 := hn.n1
 have hlen := h.len
 have hb : ∀ l, ((B.set (kA n i) true).set (kB n i) true).getD l default = true ↔ l = kB n i ∨ l = kA n i ∨ B.getD l default = true := fun l => by
  rw [bget_set (by simp; omega), bget_set (by omega)]
 have ho := h.sd _ (by omega) hm
 refine ⟨by simp; exact hlen, (hb r).2 (.inr (.inr h.root)), fun j hj hm2 => ?_, fun j h1 h2 h3 h4 h5 => ?_⟩
 ·rcases (hb j).1 hm2 with rfl | rfl | h2
  ·exact .right hi ho hc
  ·exact .left hi ho hc
  ·exact h.sd j hj h2
 ·by_cases hj : j = fst_ n + i
  ·subst hj
   refine ⟨by omega, fun i' he => ?_⟩
   obtain rfl : i' = i := by omega
   exact ⟨(hb _).2 (.inr (.inl rfl)), (hb _).2 (.inl rfl)⟩
  ·rcases (hb j).1 h3 with h6 | h6 | h6
   ·omega
   ·omega
   ·obtain ⟨g1, g2⟩ := h.dn j (by omega) h2 h6 h4 h5
    exact ⟨g1, fun i' he => ⟨(hb _).2 (.inr (.inr (g2 i' he).1)), (hb _).2 (.inr (.inr (g2 i' he).2))⟩⟩
theorem OTop.done {n : NetL} (hn : Nums n) {cut : List Int} {r : Nat} (hr : r < nds n) {B : List Bool} (h : OTop n cut r B 1) : ¬ Esc n cut r := by
 have key : ∀ k, Opn n cut r k → B.getD k default = true := fun k ho => by
  induction ho with
  | refl => exact h.root
  | left hi ho hc ih =>
   have := hn.n1; have := hn.f1
   exact ((h.dn _ (by omega) (by omega) ih hc (by omega)).2 _ rfl).1
  | right hi ho hc ih =>
   have := hn.n1; have := hn.f1
   exact ((h.dn _ (by omega) (by omega) ih hc (by omega)).2 _ rfl).2
 rintro ⟨k, h1, h2, h3, h4⟩
 have := h1.le hn
 have := (h.dn k (by omega) (by omega) (key k h1) h2 h3).1
 omega
end Go.Xw
end
section
namespace Go.Xw
def cvAt (n : NetL) (cut : List Int) (i : Int) (V : List Int) (k : Nat) : Int :=
 if (k : Int) ∈ cut then bitI i (cut.idxOf (k : Int)) else if fst_ n ≤ k then bits .and .i64 (litV V (n.ands.getD (k - fst_ n) default).1) (litV V (n.ands.getD (k - fst_ n) default).2) else 0
def cvTo (n : NetL) (cut : List Int) (i : Int) : Nat → List Int
 | 0 => []
 | k + 1 => cvTo n cut i k ++ [cvAt n cut i (cvTo n cut i k) k]
theorem cvTo_len (n : NetL) (cut : List Int) (i : Int) : ∀ k, (cvTo n cut i k).length = k
 | 0 => rfl
 | k + 1 => by rw [cvTo, List.length_append, cvTo_len n cut i k]; rfl
theorem cvTo_pre (n : NetL) (cut : List Int) (i : Int) (k : Nat) : ∀ d, ∃ T, cvTo n cut i (k + d) = cvTo n cut i k ++ T
 | 0 => ⟨[], by simp⟩
 | d + 1 => by
  obtain ⟨T, h⟩ := cvTo_pre n cut i k d
  exact ⟨T ++ [cvAt n cut i (cvTo n cut i (k + d)) (k + d)], by rw [show k + (d + 1) = k + d + 1 by omega, cvTo, h, List.append_assoc]⟩
theorem get_left {α : Type} [Inhabited α] {A B : List α} {i : Nat} (h : i < A.length) : (A ++ B).getD i default = A.getD i default := by
 simp [List.getD_eq_getElem?_getD, List.getElem?_append_left h]
theorem cvTo_get {n : NetL} {cut : List Int} {i : Int} {k m : Nat} (h : k < m) : (cvTo n cut i m).getD k default = cvAt n cut i (cvTo n cut i k) k := by
 obtain ⟨T, e⟩ := cvTo_pre n cut i (k + 1) (m - (k + 1))
 rw [show k + 1 + (m - (k + 1)) = m by omega] at e
 rw [e, get_left (by rw [cvTo_len]; omega), cvTo]
 have := snoc_eq (R := cvTo n cut i k) (y := cvAt n cut i (cvTo n cut i k) k)
 rw [cvTo_len] at this
 exact this
theorem cvTo_lit {n : NetL} {cut : List Int} {i : Int} {k m : Nat} (h : k ≤ m) {l : Int} (hl : (l / 2).toNat < k) : litV (cvTo n cut i m) l = litV (cvTo n cut i k) l := by
 obtain ⟨T, e⟩ := cvTo_pre n cut i k (m - k)
 rw [show k + (m - k) = m by omega] at e
 rw [e]
 exact litV_congr (get_left (by rw [cvTo_len]; exact hl))
theorem cvTo_01 (n : NetL) (cut : List Int) (i : Int) : ∀ k, All01 (cvTo n cut i k)
 | 0 => fun j => by simp only [cvTo, List.getD_eq_getElem?_getD]; exact .inl rfl
 | k + 1 => fun j => by
  have ih := cvTo_01 n cut i k
  rw [cvTo]
  by_cases h1 : j < (cvTo n cut i k).length
  ·rw [snoc_lt h1]; exact ih j
  ·by_cases h2 : j = (cvTo n cut i k).length
   ·subst h2
    rw [snoc_eq]
    unfold cvAt
    split
    ·exact and1_01 _
    ·split
     ·exact and_is01 (litV_01 ih _) (litV_01 ih _)
     ·exact .inl rfl
   ·rw [List.getD_eq_getElem?_getD, List.getElem?_eq_none (by simp; omega)]; exact .inl rfl
def cvL (n : NetL) (cut : List Int) (r : Nat) (i : Nat) : Int := (cvTo n cut i (nds n)).getD r default
theorem cvL_01 (n : NetL) (cut : List Int) (r i : Nat) : is01 (cvL n cut r i) := cvTo_01 n cut i (nds n) r
def tbTo (n : NetL) (cut : List Int) (r : Nat) : Nat → Int
 | 0 => 0
 | i + 1 => tbTo n cut r i + cvL n cut r i * 2 ^ i
theorem tbTo_lt (n : NetL) (cut : List Int) (r : Nat) : ∀ i, 0 ≤ tbTo n cut r i ∧ tbTo n cut r i < 2 ^ i
 | 0 => by simp [tbTo]
 | i + 1 => by
  have h1 := tbTo_lt n cut r i
  exact bit_add_lt h1.1 h1.2 (cvL_01 n cut r i)
def tabL (n : NetL) (cut : List Int) (r : Nat) : Int × Int := (cut.length, tbTo n cut r (2 ^ cut.length))
noncomputable def tabF (n : NetL) (k : Int) (cut : List Int) : Int × Int := if cutOkB n k cut = true then tabL n cut k.toNat else (0, 0)
theorem asc_lt {cut : List Int} (h : Asc cut) {a b : Nat} (hab : a < b) (hb : b < cut.length) : cut.getD a default < cut.getD b default := by
 induction hab with
 | refl => exact asc_get.2 h (a + 1) (by omega) hb
 | @step b hab ih => exact Int.lt_trans (ih (by omega)) (asc_get.2 h (b + 1) (by omega) hb)
theorem asc_idx {cut : List Int} (h : Asc cut) {x : Int} {j : Nat} (hj : j < cut.length) (he : cut.getD j default = x) : cut.idxOf x = j := by
 have hm : x ∈ cut := by rw [← he]; exact getD_mem hj
 have h2 : cut.idxOf x < cut.length := List.idxOf_lt_length_iff.2 hm
 have h3 : cut.getD (cut.idxOf x) default = x := by rw [List.getD_eq_getElem?_getD, List.getElem?_eq_getElem h2, Option.getD_some, List.getElem_idxOf]
 rcases Nat.lt_trichotomy (cut.idxOf x) j with h4 | h4 | h4
 ·have := asc_lt h h4 hj; omega
 ·exact h4
 ·have := asc_lt h h4 h2; omega
end Go.Xw
end
