/- Texts that belong together; each under its stated conditions. -/
import Derived.Test.YtifjicajbgoamaaGreatMapLaw
import Derived.Test.YtifjicajbgoamaaGreatTabLaw
import Derived.Test.YtifjicajbgoamaaGreatAddLaw
set_option linter.all false
section
namespace Go.Xw
open Go.Proofs
set_option maxHeartbeats 1000000
def bsB (g : Nat → Bool) : Nat → Int
 | 0 => 0
 | i + 1 => bsB g i + (if g i = true then 1 else 0) * 2 ^ i
theorem pw_nat (m : Nat) : (2 : Int) ^ m = ((2 ^ m : Nat) : Int) := by
 induction m with
 | zero => rfl
 | succ m ih => rw [Int.pow_succ, Nat.pow_succ, ih]; rfl
theorem bsB_lt (g : Nat → Bool) : ∀ i, 0 ≤ bsB g i ∧ bsB g i < 2 ^ i
 | 0 => by simp [bsB]
 | i + 1 => by
  have h1 := bsB_lt g i
  have := bit_add_lt (m := if g i = true then 1 else 0) h1.1 h1.2 (by by_cases h : g i = true <;> simp [h])
  rw [bsB]
  exact this
theorem bsB_congr {g h : Nat → Bool} : ∀ m, (∀ i, i < m → g i = h i) → bsB g m = bsB h m
 | 0, _ => rfl
 | m + 1, hh => by rw [bsB, bsB, bsB_congr m (fun i hi => hh i (by omega)), hh m (by omega)]
theorem bsB_bit (g : Nat → Bool) {i : Nat} : ∀ m, i < m → bitI (bsB g m) i = if g i = true then 1 else 0
 | 0, h => by omega
 | m + 1, h => by
  have hb := bsB_lt g m
  obtain ⟨X, hX⟩ := Int.eq_ofNat_of_zero_le hb.1
  rw [pw_nat, hX] at hb
  have hpos : 0 < 2 ^ m := Nat.pow_pos (by decide)
  have e : bsB g (m + 1) = ((X + (if g m = true then 1 else 0) * 2 ^ m : Nat) : Int) := by
   rw [bsB, hX, pw_nat]
   split <;> simp
  unfold bitI
  rw [e, bits_and_one, pw_nat, ← Int.natCast_ediv]
  by_cases him : i < m
  ·have ih := bsB_bit g m him
   unfold bitI at ih
   rw [hX, bits_and_one, pw_nat, ← Int.natCast_ediv] at ih
   rw [← ih]
   have e2 : 2 ^ m = 2 ^ i * (2 * 2 ^ (m - i - 1)) :=
    calc 2 ^ m = 2 ^ (i + 1 + (m - i - 1)) := by congr 1; omega
     _ = 2 ^ i * (2 * 2 ^ (m - i - 1)) := by rw [Nat.pow_add, Nat.pow_succ, Nat.mul_assoc]
   have e3 : (X + (if g m = true then 1 else 0) * 2 ^ m) / 2 ^ i = X / 2 ^ i + 2 * ((if g m = true then 1 else 0) * 2 ^ (m - i - 1)) := by
    rw [e2, show (if g m = true then 1 else 0) * (2 ^ i * (2 * 2 ^ (m - i - 1))) = 2 ^ i * (2 * ((if g m = true then 1 else 0) * 2 ^ (m - i - 1))) by rw [Nat.mul_left_comm]; congr 1; rw [Nat.mul_left_comm], Nat.add_mul_div_left _ _ (Nat.pow_pos (by decide))]
   rw [e3]
   omega
  ·obtain rfl : i = m := by omega
   have e3 : (X + (if g i = true then 1 else 0) * 2 ^ i) / 2 ^ i = if g i = true then 1 else 0 := by
    rw [Nat.add_mul_div_right _ _ hpos, Nat.div_eq_of_lt (by omega), Nat.zero_add]
   rw [e3]
   split <;> rfl
theorem bsB_inj {g h : Nat → Bool} {m : Nat} (he : bsB g m = bsB h m) {i : Nat} (hi : i < m) : g i = h i := by
 have h1 := bsB_bit g m hi
 have h2 := bsB_bit h m hi
 rw [he, h2] at h1
 revert h1
 cases g i <;> cases h i <;> simp
theorem bsB_mod (t : Nat) : ∀ m, bsB (fun i => decide (bitI (t : Int) i = 1)) m = ((t % 2 ^ m : Nat) : Int)
 | 0 => by rw [Nat.pow_zero, Nat.mod_one]; rfl
 | m + 1 => by
  rw [bsB, bsB_mod t m, Nat.pow_succ, Nat.mod_mul, pw_nat]
  have e : bitI (t : Int) m = ((t / 2 ^ m % 2 : Nat) : Int) := by
   unfold bitI
   rw [bits_and_one, pw_nat, ← Int.natCast_ediv]
   omega
  rw [e]
  have h2 : t / 2 ^ m % 2 = 0 ∨ t / 2 ^ m % 2 = 1 := by omega
  rcases h2 with h | h <;> rw [h] <;> simp
theorem bsB_of {t : Int} {m : Nat} (h0 : 0 ≤ t) (h1 : t < 2 ^ m) : bsB (fun i => decide (bitI t i = 1)) m = t := by
 obtain ⟨T, rfl⟩ := Int.eq_ofNat_of_zero_le h0
 rw [pw_nat] at h1
 rw [bsB_mod, Nat.mod_eq_of_lt (by omega)]
def hasC (c : Int × Int) (i : Nat) : Bool := decide (bits .and .i64 (i : Int) c.1 = c.2)
def okC (c : Int × Int) : Bool := decide (bits .andNot .i64 c.2 c.1 = 0)
def impC (m : Nat) (t : Int) (c : Int × Int) : Bool := (List.range (2 ^ m)).all fun i => !hasC c i || decide (bitI t i = 1)
theorem impC_iff {m : Nat} {t : Int} {c : Int × Int} : impC m t c = true ↔ ∀ i, i < 2 ^ m → hasC c i = true → bitI t i = 1 := by
 unfold impC
 rw [List.all_eq_true]
 constructor
 ·intro h i hi hc
  have := h i (List.mem_range.2 hi)
  rw [hc] at this
  simpa using this
 ·intro h i hi
  cases hc : hasC c i
  ·rfl
  ·simp [h i (List.mem_range.1 hi) hc]
def candC (m : Nat) (t : Int) (c : Int × Int) : Bool := okC c && impC m t c
def rowC (a j : Nat) : List (Int × Int) := (List.range j).map fun (b : Nat) => ((a : Int), (b : Int))
def rowsC (m i : Nat) : List (Int × Int) := (List.range i).flatMap fun a => rowC a (2 ^ m)
def allC (m : Nat) : List (Int × Int) := rowsC m (2 ^ m)
def candL (m : Nat) (t : Int) : List (Int × Int) := (allC m).filter (candC m t)
def inC (d c : Int × Int) : Bool := decide (d ≠ c) && (decide (bits .andNot .i64 d.1 c.1 = 0) && decide (bits .and .i64 c.2 d.1 = d.2))
def prmC (m : Nat) (t : Int) (c : Int × Int) : Bool := !(candL m t).any fun d => inC d c
def primL (m : Nat) (t : Int) : List (Int × Int) := (candL m t).filter (prmC m t)
def cutC (c : Int × Int) (k : Nat) : Int × Int := (bits .andNot .i64 c.1 (2 ^ k), bits .andNot .i64 c.2 (2 ^ k))
def prmS (m : Nat) (t : Int) (c : Int × Int) : Bool := !(List.range m).any fun k => decide (bitI c.1 k = 1) && impC m t (cutC c k)
theorem allC_iff {m : Nat} {c : Int × Int} : c ∈ allC m ↔ ∃ a b : Nat, a < 2 ^ m ∧ b < 2 ^ m ∧ c = ((a : Int), (b : Int)) := by
 unfold allC rowsC rowC
 simp only [List.mem_flatMap, List.mem_map, List.mem_range]
 constructor
 ·rintro ⟨a, ha, b, hb, rfl⟩; exact ⟨a, b, ha, hb, rfl⟩
 ·rintro ⟨a, b, ha, hb, rfl⟩; exact ⟨a, ha, b, hb, rfl⟩
theorem rowC_snoc (a j : Nat) : rowC a (j + 1) = rowC a j ++ [((a : Int), (j : Int))] := by unfold rowC; rw [List.range_succ, List.map_append]; rfl
theorem rowsC_snoc (m i : Nat) : rowsC m (i + 1) = rowsC m i ++ rowC i (2 ^ m) := by unfold rowsC; rw [List.range_succ, List.flatMap_append]; simp
theorem aN_all : ∀ a b : Fin 16, bits .andNot .i64 (a.val : Int) (b.val : Int) = ((a.val &&& (15 ^^^ b.val) : Nat) : Int) := by decide
theorem aN_nat {a b : Nat} (ha : a < 16) (hb : b < 16) : bits .andNot .i64 (a : Int) (b : Int) = ((a &&& (15 ^^^ b) : Nat) : Int) := aN_all ⟨a, ha⟩ ⟨b, hb⟩
theorem tb_15 : ∀ b : Fin 16, ∀ k : Fin 4, (15 ^^^ b.val).testBit k.val = !b.val.testBit k.val := by decide
theorem tb_hi {a k : Nat} (ha : a < 16) (hk : 4 ≤ k) : a.testBit k = false := by
 have h1 := Nat.pow_le_pow_right (show 0 < 2 by decide) hk
 exact Nat.testBit_lt_two_pow (Nat.lt_of_lt_of_le ha h1)
theorem tb_aN {a b : Nat} (ha : a < 16) (hb : b < 16) (k : Nat) : (a &&& (15 ^^^ b)).testBit k = (a.testBit k && !b.testBit k) := by
 rw [Nat.testBit_and]
 by_cases hk : k < 4
 ·rw [tb_15 ⟨b, hb⟩ ⟨k, hk⟩]
 ·rw [tb_hi ha (by omega)]; rfl
theorem aN_lt {a b : Nat} (ha : a < 16) : (a &&& (15 ^^^ b)) < 16 := Nat.lt_of_le_of_lt Nat.and_le_left ha
theorem hasC_iff {a b i : Nat} (ha : a < 16) (hi : i < 16) : hasC ((a : Int), (b : Int)) i = true ↔ ∀ k, (i.testBit k && a.testBit k) = b.testBit k := by
 unfold hasC
 rw [decide_eq_true_iff, bits_and_nat _ _ (by omega) (by omega)]
 constructor
 ·intro h k
  have h2 : i &&& a = b := Int.ofNat_inj.1 h
  rw [← h2, Nat.testBit_and]
 ·intro h
  have h2 : i &&& a = b := Nat.eq_of_testBit_eq fun k => by rw [Nat.testBit_and]; exact h k
  rw [h2]
theorem okC_iff {a b : Nat} (ha : a < 16) (hb : b < 16) : okC ((a : Int), (b : Int)) = true ↔ ∀ k, b.testBit k = true → a.testBit k = true := by
 unfold okC
 rw [decide_eq_true_iff, aN_nat hb ha]
 constructor
 ·intro h k hk
  have h2 : b &&& (15 ^^^ a) = 0 := Int.ofNat_inj.1 h
  have h3 := tb_aN hb ha k
  rw [h2, hk, Nat.zero_testBit] at h3
  cases h4 : a.testBit k
  ·rw [h4] at h3; cases h3
  ·rfl
 ·intro h
  have h2 : b &&& (15 ^^^ a) = 0 := Nat.eq_of_testBit_eq fun k => by
   rw [tb_aN hb ha, Nat.zero_testBit]
   cases h3 : b.testBit k
   ·rfl
   ·rw [h k h3]; rfl
  rw [h2]; rfl
theorem inC_iff {a b a' b' : Nat} (ha : a < 16) (hb : b < 16) (ha' : a' < 16) : inC ((a' : Int), (b' : Int)) ((a : Int), (b : Int)) = true ↔ ¬ (a' = a ∧ b' = b) ∧ (∀ k, a'.testBit k = true → a.testBit k = true) ∧ ∀ k, (b.testBit k && a'.testBit k) = b'.testBit k := by
 unfold inC
 rw [Bool.and_eq_true, Bool.and_eq_true, decide_eq_true_iff]
 have e1 : decide (bits .andNot .i64 (a' : Int) (a : Int) = 0) = okC ((a : Int), (a' : Int)) := rfl
 have e2 : decide (bits .and .i64 (b : Int) (a' : Int) = (b' : Int)) = hasC ((a' : Int), (b' : Int)) b := rfl
 dsimp only
 rw [e1, e2, okC_iff ha ha', hasC_iff ha' hb]
 have e3 : (((a' : Int), (b' : Int)) ≠ ((a : Int), (b : Int))) ↔ ¬ (a' = a ∧ b' = b) := by
  rw [ne_eq, Prod.mk.injEq]; omega
 rw [e3]
theorem tb_pow (k j : Nat) : (2 ^ k).testBit j = decide (k = j) := Nat.testBit_two_pow
theorem pw_4 {m : Nat} (h : m ≤ 4) : 2 ^ m ≤ 16 := Nat.pow_le_pow_right (show 0 < 2 by decide) h
theorem pw_16 {k : Nat} (h : k < 4) : 2 ^ k < 16 := Nat.pow_lt_pow_right (show 1 < 2 by decide) h
theorem cutC_nat {a b k : Nat} (ha : a < 16) (hb : b < 16) (hk : k < 4) : cutC ((a : Int), (b : Int)) k = (((a &&& (15 ^^^ 2 ^ k) : Nat) : Int), ((b &&& (15 ^^^ 2 ^ k) : Nat) : Int)) := by
 unfold cutC
 dsimp only
 rw [pw_nat, aN_nat ha (pw_16 hk), aN_nat hb (pw_16 hk)]
theorem bitI_tb (y k : Nat) : bitI (y : Int) k = if y.testBit k = true then 1 else 0 := by
 unfold bitI
 rw [bits_and_one, pw_nat, ← Int.natCast_ediv, Nat.testBit_eq_decide_div_mod_eq]
 by_cases h : y / 2 ^ k % 2 = 1
 ·rw [if_pos (by simpa using h)]; omega
 ·rw [if_neg (by simpa using h)]; omega
theorem bitI_one {y k : Nat} : bitI (y : Int) k = 1 ↔ y.testBit k = true := by
 rw [bitI_tb]
 cases y.testBit k <;> simp
theorem cut_mem {m : Nat} (hm : m ≤ 4) {t : Int} {a b k : Nat} (ha : a < 2 ^ m) (hb : b < 2 ^ m) (hok : okC ((a : Int), (b : Int)) = true) (hk : k < 4) (hi : impC m t (cutC ((a : Int), (b : Int)) k) = true) : cutC ((a : Int), (b : Int)) k ∈ candL m t := by
 have h16 := pw_4 hm
 have hk16 := pw_16 hk
 rw [cutC_nat (by omega) (by omega) hk] at hi ⊢
 refine List.mem_filter.2 ⟨allC_iff.2 ⟨_, _, Nat.lt_of_le_of_lt Nat.and_le_left ha, Nat.lt_of_le_of_lt Nat.and_le_left hb, rfl⟩, ?_⟩
 unfold candC
 rw [hi, Bool.and_true, okC_iff (aN_lt (by omega)) (aN_lt (by omega))]
 intro j hj
 rw [tb_aN (by omega) hk16] at hj ⊢
 rw [Bool.and_eq_true] at hj ⊢
 exact ⟨(okC_iff (by omega) (by omega)).1 hok j hj.1, hj.2⟩
theorem candL_iff {m : Nat} {t : Int} {c : Int × Int} : c ∈ candL m t ↔ ∃ a b : Nat, a < 2 ^ m ∧ b < 2 ^ m ∧ c = ((a : Int), (b : Int)) ∧ okC ((a : Int), (b : Int)) = true ∧ impC m t ((a : Int), (b : Int)) = true := by
 unfold candL candC
 rw [List.mem_filter, allC_iff]
 constructor
 ·rintro ⟨⟨a, b, ha, hb, rfl⟩, h⟩
  rw [Bool.and_eq_true] at h
  exact ⟨a, b, ha, hb, rfl, h.1, h.2⟩
 ·rintro ⟨a, b, ha, hb, rfl, h1, h2⟩
  exact ⟨⟨a, b, ha, hb, rfl⟩, by rw [h1, h2]; rfl⟩
theorem prm_eq {m : Nat} (hm : m ≤ 4) {t : Int} {c : Int × Int} (hc : c ∈ candL m t) : prmC m t c = prmS m t c := by
 have h16 := pw_4 hm
 obtain ⟨a, b, ha, hb, rfl, hok, himp⟩ := candL_iff.1 hc
 have hsub := (okC_iff (by omega) (by omega)).1 hok
 unfold prmC prmS
 congr 1
 rw [Bool.eq_iff_iff, List.any_eq_true, List.any_eq_true]
 constructor
 ·rintro ⟨d, hd, hin⟩
  obtain ⟨a', b', ha', hb', rfl, hok', himp'⟩ := candL_iff.1 hd
  obtain ⟨hne, hs, hv⟩ := (inC_iff (by omega) (by omega) (by omega)).1 hin
  have hex : ∃ k, a.testBit k = true ∧ a'.testBit k = false := Classical.byContradiction fun hno => by
   have e1 : a' = a := Nat.eq_of_testBit_eq fun k => by
    cases h1 : a.testBit k
    ·cases h2 : a'.testBit k
     ·rfl
     ·rw [hs k h2] at h1; cases h1
    ·cases h2 : a'.testBit k
     ·exact absurd ⟨k, h1, h2⟩ hno
     ·rfl
   refine hne ⟨e1, Nat.eq_of_testBit_eq fun k => ?_⟩
   rw [← hv k, e1]
   cases h1 : b.testBit k
   ·rfl
   ·rw [hsub k h1]; rfl
  obtain ⟨k, k1, k2⟩ := hex
  have hkm : k < m := Nat.lt_of_not_le fun h => by
   rw [Nat.testBit_lt_two_pow (Nat.lt_of_lt_of_le ha (Nat.pow_le_pow_right (by decide) h))] at k1
   cases k1
  refine ⟨k, List.mem_range.2 hkm, ?_⟩
  rw [Bool.and_eq_true, decide_eq_true_iff]
  refine ⟨bitI_one.2 k1, impC_iff.2 fun i hi hc2 => impC_iff.1 himp' i hi ?_⟩
  rw [cutC_nat (by omega) (by omega) (by omega), hasC_iff (aN_lt (by omega)) (by omega)] at hc2
  refine (hasC_iff (by omega) (by omega)).2 fun j => ?_
  rw [← hv j]
  have h1 := hc2 j
  rw [tb_aN (by omega) (pw_16 (by omega)), tb_aN (by omega) (pw_16 (by omega)), tb_pow] at h1
  cases h2 : a'.testBit j
  ·simp
  ·have hjk : k ≠ j := fun h => by rw [← h, k2] at h2; cases h2
   rw [decide_eq_false hjk, hs j h2] at h1
   simpa using h1
 ·rintro ⟨k, hk, h⟩
  have hkm := List.mem_range.1 hk
  rw [Bool.and_eq_true, decide_eq_true_iff] at h
  have k1 := bitI_one.1 h.1
  refine ⟨_, cut_mem hm ha hb hok (by omega) h.2, ?_⟩
  have hk16 := pw_16 (show k < 4 by omega)
  rw [cutC_nat (by omega) (by omega) (by omega)]
  refine (inC_iff (by omega) (by omega) (aN_lt (by omega))).2 ⟨fun h2 => ?_, fun j hj => ?_, fun j => ?_⟩
  ·have h3 := tb_aN (a := a) (b := 2 ^ k) (by omega) hk16 k
   rw [h2.1, k1, tb_pow, decide_eq_true rfl] at h3
   cases h3
  ·rw [tb_aN (by omega) hk16, Bool.and_eq_true] at hj
   exact hj.1
  ·rw [tb_aN (by omega) hk16, tb_aN (by omega) hk16]
   cases h1 : b.testBit j
   ·rfl
   ·rw [hsub j h1]
    simp
def covG (C : List (Int × Int)) (i : Nat) : Bool := C.any fun c => hasC c i
def covT (m : Nat) (C : List (Int × Int)) : Int := bsB (covG C) (2 ^ m)
theorem covG_iff {C : List (Int × Int)} {i : Nat} : covG C i = true ↔ ∃ c, c ∈ C ∧ hasC c i = true := by unfold covG; rw [List.any_eq_true]
theorem prime_of {m : Nat} (hm : m ≤ 4) {t : Int} {i : Nat} (hi : i < 2 ^ m) : ∀ n (a b : Nat), a ≤ n → ((a : Int), (b : Int)) ∈ candL m t → hasC ((a : Int), (b : Int)) i = true → ∃ c, c ∈ primL m t ∧ hasC c i = true := by
 have h16 := pw_4 hm
 intro n
 induction n with
 | zero =>
  intro a b han hc hh
  obtain rfl : a = 0 := by omega
  refine ⟨_, List.mem_filter.2 ⟨hc, ?_⟩, hh⟩
  rw [prm_eq hm hc]
  unfold prmS
  rw [Bool.not_eq_true', List.any_eq_false]
  intro k hk
  rw [Bool.and_eq_true, decide_eq_true_iff]
  rintro ⟨h1, _⟩
  have := bitI_one.1 h1
  rw [Nat.zero_testBit] at this
  cases this
 | succ n ih =>
  intro a b han hc hh
  by_cases hp : prmC m t ((a : Int), (b : Int)) = true
  ·exact ⟨_, List.mem_filter.2 ⟨hc, hp⟩, hh⟩
  ·rw [prm_eq hm hc] at hp
   unfold prmS at hp
   rw [Bool.not_eq_true', Bool.not_eq_false, List.any_eq_true] at hp
   obtain ⟨k, hk, h⟩ := hp
   have hkm := List.mem_range.1 hk
   rw [Bool.and_eq_true, decide_eq_true_iff] at h
   have k1 := bitI_one.1 h.1
   obtain ⟨a', b', ha, hb, he, hok, himp⟩ := candL_iff.1 hc
   have ea : a = a' := by have := congrArg Prod.fst he; dsimp only at this; omega
   have eb : b = b' := by have := congrArg Prod.snd he; dsimp only at this; omega
   subst ea eb
   have hk16 := pw_16 (show k < 4 by omega)
   have hmem := cut_mem hm ha hb hok (show k < 4 by omega) h.2
   rw [cutC_nat (by omega) (by omega) (by omega)] at hmem
   refine ih _ _ ?_ hmem ?_
   ·have h1 : a &&& (15 ^^^ 2 ^ k) ≤ a := Nat.and_le_left
    have h2 : a &&& (15 ^^^ 2 ^ k) ≠ a := fun h2 => by
     have h3 := tb_aN (a := a) (b := 2 ^ k) (by omega) hk16 k
     rw [h2, k1, tb_pow, decide_eq_true rfl] at h3
     cases h3
    omega
   ·have h1 := (hasC_iff (by omega) (by omega)).1 hh
    refine (hasC_iff (aN_lt (by omega)) (by omega)).2 fun j => ?_
    rw [tb_aN (by omega) hk16, tb_aN (by omega) hk16, ← h1 j, Bool.and_assoc]
theorem prim_cov {m : Nat} (hm : m ≤ 4) {t : Int} {i : Nat} (hi : i < 2 ^ m) : covG (primL m t) i = decide (bitI t i = 1) := by
 have h16 := pw_4 hm
 rw [Bool.eq_iff_iff, covG_iff, decide_eq_true_iff]
 constructor
 ·rintro ⟨c, hc, hh⟩
  obtain ⟨a, b, ha, hb, rfl, hok, himp⟩ := candL_iff.1 (List.mem_filter.1 hc).1
  exact impC_iff.1 himp i hi hh
 ·intro hb
  have hf : 2 ^ m - 1 < 2 ^ m := by omega
  have tbf : ∀ k, (2 ^ m - 1).testBit k = decide (k < m) := fun k => Nat.testBit_two_pow_sub_one m k
  have tbi : ∀ j, j < 2 ^ m → ∀ k, (j.testBit k && (2 ^ m - 1).testBit k) = j.testBit k := fun j hj k => by
   rw [tbf]
   by_cases hk : k < m
   ·rw [decide_eq_true hk, Bool.and_true]
   ·rw [Nat.testBit_lt_two_pow (Nat.lt_of_lt_of_le hj (Nat.pow_le_pow_right (by decide) (by omega)))]; rfl
  refine prime_of hm hi (2 ^ m - 1) (2 ^ m - 1) i (Nat.le_refl _) (candL_iff.2 ⟨_, _, hf, hi, rfl, ?_, ?_⟩) ((hasC_iff (by omega) (by omega)).2 fun k => tbi i hi k)
  ·refine (okC_iff (by omega) (by omega)).2 fun k hk => ?_
   have := tbi i hi k
   rw [hk] at this
   simpa using this
  ·refine impC_iff.2 fun j hj hh => ?_
   have h1 := (hasC_iff (by omega) (by omega)).1 hh
   have e : j = i := Nat.eq_of_testBit_eq fun k => by rw [← tbi j hj k]; exact h1 k
   rw [e]; exact hb
theorem prim_T {m : Nat} (hm : m ≤ 4) {t : Int} (h0 : 0 ≤ t) (h1 : t < 2 ^ 2 ^ m) : covT m (primL m t) = t := by
 unfold covT
 rw [bsB_congr _ fun i hi => prim_cov hm hi]
 exact bsB_of h0 h1
def lessC (L : List (Int × Int)) (k : Nat) : List (Int × Int) := L.take k ++ L.drop (k + 1)
def mcF (m : Nat) (t : Int) : Nat → List (Int × Int) → List (Int × Int)
 | 0, L => L
 | k + 1, L => mcF m t k (if covT m (lessC L k) = t then lessC L k else L)
def minL (m : Nat) (t : Int) : List (Int × Int) := mcF m t (primL m t).length (primL m t)
theorem lessC_len {L : List (Int × Int)} {k : Nat} (h : k < L.length) : (lessC L k).length + 1 = L.length := by
 unfold lessC; simp; omega
theorem lessC_sub (L : List (Int × Int)) (k : Nat) : (lessC L k).Sublist L := by
 unfold lessC
 have h := List.Sublist.append (List.Sublist.refl (L.take k)) (List.drop_sublist_drop_left L (show k ≤ k + 1 by omega))
 rw [List.take_append_drop] at h
 exact h
theorem mcF_sub (m : Nat) (t : Int) : ∀ k L, (mcF m t k L).Sublist L
 | 0, L => List.Sublist.refl _
 | k + 1, L => by
  rw [mcF]
  split
  ·exact (mcF_sub m t k _).trans (lessC_sub L k)
  ·exact mcF_sub m t k L
theorem mcF_T {m : Nat} {t : Int} : ∀ k L, covT m L = t → covT m (mcF m t k L) = t
 | 0, _, h => h
 | k + 1, L, h => by
  rw [mcF]
  split
  ·rename_i h2; exact mcF_T k _ h2
  ·exact mcF_T k L h
theorem less_get {L : List (Int × Int)} {k q : Nat} (hk : k < L.length) : (lessC L k).getD q default = if q < k then L.getD q default else L.getD (q + 1) default := by
 unfold lessC
 simp only [List.getD_eq_getElem?_getD]
 by_cases h : q < k
 ·rw [if_pos h, List.getElem?_append_left (by simp; omega), List.getElem?_take, if_pos h]
 ·rw [if_neg h, List.getElem?_append_right (by simp; omega), List.getElem?_drop]
  congr 2
  simp
  omega
theorem min_T {m : Nat} (hm : m ≤ 4) {t : Int} (h0 : 0 ≤ t) (h1 : t < 2 ^ 2 ^ m) : covT m (minL m t) = t := mcF_T _ _ (prim_T hm h0 h1)
end Go.Xw
end
section
namespace Go.Xw
def fsq (n : NetL) : Nat := (1 + n.inputs).toNat
def Succ (n : NetL) (k j : Nat) : Prop := (∃ i, i < n.ands.length ∧ k = fst_ n + i ∧ (j = kA n i ∨ j = kB n i)) ∨ (∃ i, i < n.seqs.length ∧ k = fsq n + i ∧ ∃ l, l ∈ (n.seqs.getD i default).ins ∧ j = (l / 2).toNat)
inductive Obs (n : NetL) : Nat → Prop where
 | out {o : Int} (h : o ∈ n.outs) : Obs n (o / 2).toNat
 | step {k j : Nat} (h : Obs n k) (hs : Succ n k j) : Obs n j
theorem NetOkP.fsq {n : NetL} (h : NetOkP n) : 1 ≤ fsq n ∧ ((fsq n : Nat) : Int) = 1 + n.inputs ∧ fst_ n = fsq n + n.seqs.length := by
 have h1 := h.size.1.1
 have h2 : firstAndL n = 1 + n.inputs + n.seqs.length := rfl
 unfold Go.Xw.fsq fst_
 omega
end Go.Xw
end
section
namespace Go.Xw
def KeptN (n : NetL) (k : Nat) : Prop := k < fsq n ∨ Obs n k
open Classical in
noncomputable def cK (n : NetL) : Nat → Nat
 | 0 => 0
 | k + 1 => cK n k + (if KeptN n k then 1 else 0)
end Go.Xw
end
section
namespace Go.Xw
def raTo (f : Int) (n : NetL) (skip inst : Int) (S : List (Int × Int) × List Int) : Nat → Option (List (Int × Int) × List Int)
 | 0 => some S
 | i + 1 => match raTo f n skip inst S i with
  | none => none
  | some T => if (i : Int) = skip then some (T.1, T.2 ++ [inst])
   else if (addC f T.1 (litV T.2 (n.ands.getD i default).1) (litV T.2 (n.ands.getD i default).2)).2 < 0 then none
   else some ((addC f T.1 (litV T.2 (n.ands.getD i default).1) (litV T.2 (n.ands.getD i default).2)).1, T.2 ++ [(addC f T.1 (litV T.2 (n.ands.getD i default).1) (litV T.2 (n.ands.getD i default).2)).2])
theorem raTo_skip {f : Int} {n : NetL} {skip inst : Int} {S T : List (Int × Int) × List Int} {i : Nat} (h : raTo f n skip inst S i = some T) (hs : (i : Int) = skip) : raTo f n skip inst S (i + 1) = some (T.1, T.2 ++ [inst]) := by
 simp only [raTo, h, if_pos hs]
theorem raTo_no {f : Int} {n : NetL} {skip inst : Int} {S T : List (Int × Int) × List Int} {i : Nat} (h : raTo f n skip inst S i = some T) (hs : ¬ (i : Int) = skip) (hn : (addC f T.1 (litV T.2 (n.ands.getD i default).1) (litV T.2 (n.ands.getD i default).2)).2 < 0) : raTo f n skip inst S (i + 1) = none := by
 simp only [raTo, h, if_neg hs, if_pos hn]
theorem raTo_yes {f : Int} {n : NetL} {skip inst : Int} {S T : List (Int × Int) × List Int} {i : Nat} (h : raTo f n skip inst S i = some T) (hs : ¬ (i : Int) = skip) (hn : ¬ (addC f T.1 (litV T.2 (n.ands.getD i default).1) (litV T.2 (n.ands.getD i default).2)).2 < 0) :
  raTo f n skip inst S (i + 1) = some ((addC f T.1 (litV T.2 (n.ands.getD i default).1) (litV T.2 (n.ands.getD i default).2)).1, T.2 ++ [(addC f T.1 (litV T.2 (n.ands.getD i default).1) (litV T.2 (n.ands.getD i default).2)).2]) := by
 simp only [raTo, h, if_neg hs, if_neg hn]
structure RaOk (f : Int) (n : NetL) (S : List (Int × Int) × List Int) (i : Nat) : Prop where
 b : Bld f S.1 S.2
 len : S.2.length = fst_ n + i
theorem RaOk.lits {f : Int} {n : NetL} (h : NetOkP n) {T : List (Int × Int) × List Int} {i : Nat} (r : RaOk f n T i) (hi : i < n.ands.length) :
  litP (litV T.2 (n.ands.getD i default).1) (f + T.1.length) ∧ litP (litV T.2 (n.ands.getD i default).2) (f + T.1.length) := by
 have f2 := h.nums.f2
 have hl := r.len
 obtain ⟨q1, q2⟩ := h.andP hi
 unfold litP at q1 q2
 exact ⟨r.b.lit (by omega), r.b.lit (by omega)⟩
theorem raTo_ok {f : Int} {n : NetL} (h : NetOkP n) {skip inst : Int} {S : List (Int × Int) × List Int} (h0 : RaOk f n S 0) (hinst : litP inst f) : ∀ i, i ≤ n.ands.length → ∀ T, raTo f n skip inst S i = some T → RaOk f n T i
 | 0, _, T, hT => by simp only [raTo, Option.some.injEq] at hT; subst hT; exact h0
 | i + 1, hi, T, hT => by
  cases hp : raTo f n skip inst S i with
  | none => simp only [raTo, hp] at hT; cases hT
  | some P =>
   have ih := raTo_ok h h0 hinst i (by omega) P hp
   obtain ⟨l1, l2⟩ := ih.lits h (by omega)
   have hl := ih.len
   by_cases hs : (i : Int) = skip
   ·rw [raTo_skip hp hs] at hT
    injection hT with hT
    subst hT
    exact ⟨ih.b.snoc (hinst.mono (by omega)), by simp; omega⟩
   ·by_cases hn : (addC f P.1 (litV P.2 (n.ands.getD i default).1) (litV P.2 (n.ands.getD i default).2)).2 < 0
    ·rw [raTo_no hp hs hn] at hT; cases hT
    ·rw [raTo_yes hp hs hn] at hT
     injection hT with hT
     subst hT
     exact ⟨ih.b.step l1 l2 (by omega), by simp; omega⟩
end Go.Xw
end
section
namespace Go.Xw
open Go.Proofs
set_option maxHeartbeats 1000000
def pcTo (c : Int) : Nat → Int
 | 0 => 0
 | k + 1 => pcTo c k + bitI c k
theorem bitI_01 (c : Int) (k : Nat) : is01 (bitI c k) := and1_01 _
theorem pcTo_b (c : Int) : ∀ k, 0 ≤ pcTo c k ∧ pcTo c k ≤ k
 | 0 => by simp [pcTo]
 | k + 1 => by
  have h1 := pcTo_b c k
  have h2 := bitI_01 c k
  unfold is01 at h2
  rw [pcTo]
  omega
theorem bitI_hi {c : Int} {j k : Nat} (h0 : 0 ≤ c) (h : c / 2 ^ j = 0) (hk : j ≤ k) : bitI c k = 0 := by
 obtain ⟨C, rfl⟩ := Int.eq_ofNat_of_zero_le h0
 rw [pw_nat, ← Int.natCast_ediv] at h
 have h2 : C < 2 ^ j := by
  have hp : 0 < 2 ^ j := Nat.pow_pos (by decide)
  exact Nat.lt_of_div_eq_zero hp (by omega)
 rw [bitI_tb, Nat.testBit_lt_two_pow (Nat.lt_of_lt_of_le h2 (Nat.pow_le_pow_right (by decide) hk))]
 rfl
theorem pcTo_hi {c : Int} {j : Nat} (h0 : 0 ≤ c) (h : c / 2 ^ j = 0) : ∀ d, pcTo c (j + d) = pcTo c j
 | 0 => rfl
 | d + 1 => by rw [← Nat.add_assoc, pcTo, pcTo_hi h0 h d, bitI_hi h0 h (by omega)]; omega
theorem pcTo_eq {c : Int} {j k : Nat} (h0 : 0 ≤ c) (h1 : c / 2 ^ j = 0) (h2 : c / 2 ^ k = 0) : pcTo c j = pcTo c k := by
 rcases Nat.le_total j k with h | h
 ·have := pcTo_hi h0 h1 (k - j)
  rw [show j + (k - j) = k by omega] at this
  exact this.symm
 ·have := pcTo_hi h0 h2 (j - k)
  rw [show k + (j - k) = j by omega] at this
  exact this
def clTo (m : Nat) (C : List (Int × Int)) : Nat → Int
 | 0 => 0
 | i + 1 => clTo m C i + pcTo (C.getD i default).1 m
def clL (m : Nat) (C : List (Int × Int)) : Int := clTo m C C.length
theorem clTo_b (m : Nat) (C : List (Int × Int)) : ∀ i, 0 ≤ clTo m C i ∧ clTo m C i ≤ i * m
 | 0 => by simp [clTo]
 | i + 1 => by
  have h1 := clTo_b m C i
  have h2 := pcTo_b (C.getD i default).1 m
  have e : ((i + 1 : Nat) : Int) * (m : Int) = (i : Int) * m + m := by rw [Int.natCast_add, Int.add_mul]; simp
  rw [clTo]
  rw [e]
  omega
theorem candL_ok {m : Nat} (hm : m ≤ 4) {t : Int} {c : Int × Int} (h : c ∈ candL m t) : cubeOkP (m : Int) c := by
 obtain ⟨a, b, ha, hb, rfl, hok, _⟩ := candL_iff.1 h
 unfold okC at hok
 rw [decide_eq_true_iff] at hok
 refine ⟨⟨by omega, by omega⟩, ?_, ?_, hok⟩ <;> rw [Int.toNat_natCast, pw_nat] <;> dsimp only <;> omega
theorem allC_cnt : ∀ m : Fin 5, ((allC m.val).filter okC).length ≤ 81 := by decide
theorem candL_len {m : Nat} (hm : m ≤ 4) (t : Int) : (candL m t).length ≤ 81 := by
 have h1 := allC_cnt ⟨m, by omega⟩
 have h2 : (candL m t).Sublist ((allC m).filter okC) := by
  unfold candL
  have e : (allC m).filter (candC m t) = ((allC m).filter okC).filter (impC m t) := by
   rw [List.filter_filter]
   refine List.filter_congr fun c _ => ?_
   unfold candC
   rw [Bool.and_comm]
  rw [e]
  exact List.filter_sublist
 exact Nat.le_trans h2.length_le h1
theorem primL_sub (m : Nat) (t : Int) : (primL m t).Sublist (candL m t) := List.filter_sublist
theorem cover_sub {m : Nat} (hm : m ≤ 4) {t : Int} {L : List (Int × Int)} (h : L.Sublist (primL m t)) : coverOkP (m : Int) L := by
 have h2 := h.trans (primL_sub m t)
 exact ⟨⟨by omega, by omega⟩, Nat.le_trans h2.length_le (candL_len hm t), fun c hc => candL_ok hm (h2.subset hc)⟩
theorem minL_ok {m : Nat} (hm : m ≤ 4) (t : Int) : coverOkP (m : Int) (minL m t) := cover_sub hm (mcF_sub m t _ _)
theorem coverOkP.nn {m : Int} {C : List (Int × Int)} (h : coverOkP m C) : ∀ c, c ∈ C → 0 ≤ c.1 ∧ 0 ≤ c.2 := fun c hc => ⟨(h.2.2 c hc).2.1.1, (h.2.2 c hc).2.2.1.1⟩
def notT (m : Nat) (t : Int) : Int := 2 ^ 2 ^ m - 1 - t
theorem notT_b {m : Nat} {t : Int} (h0 : 0 ≤ t) (h1 : t < 2 ^ 2 ^ m) : 0 ≤ notT m t ∧ notT m t < 2 ^ 2 ^ m := by unfold notT; omega
theorem bsB_not (g : Nat → Bool) : ∀ i, bsB (fun j => !g j) i = 2 ^ i - 1 - bsB g i
 | 0 => rfl
 | i + 1 => by
  rw [bsB, bsB, bsB_not g i, Int.pow_succ]
  cases g i <;> simp <;> omega
theorem bsB_notT {m : Nat} {t : Int} (h0 : 0 ≤ t) (h1 : t < 2 ^ 2 ^ m) : bsB (fun j => !decide (bitI t j = 1)) (2 ^ m) = notT m t := by
 rw [bsB_not, bsB_of h0 h1]; rfl
def cvrL (m : Nat) (t : Int) : List (Int × Int) := if clL m (minL m (notT m t)) < clL m (minL m t) then minL m (notT m t) else minL m t
def cvrF (m : Nat) (t : Int) : Int := if clL m (minL m (notT m t)) < clL m (minL m t) then 1 else 0
theorem cvrL_ok {m : Nat} (hm : m ≤ 4) (t : Int) : coverOkP (m : Int) (cvrL m t) := by
 unfold cvrL
 split
 ·exact minL_ok hm _
 ·exact minL_ok hm _
theorem cvrF_01 (m : Nat) (t : Int) : cvrF m t = 0 ∨ cvrF m t = 1 := by unfold cvrF; split <;> simp
def rfLits (cut T : List Int) : List Int := cut.map fun c => T.getD c.toNat default
noncomputable def rfV (n : NetL) (cut : List Int) (C : List (Int × Int)) (S : List (Int × Int) × List Int) : NetL × Int := coverTo (zerL n S.1) (rfLits cut S.2) C C.length
noncomputable def rfS (n : NetL) (q : Nat) (cut : List Int) (C : List (Int × Int)) (fl : Int) (S : List (Int × Int) × List Int) (i : Nat) : List (Int × Int) × Int :=
 if i = q then ((rfV n cut C S).1.ands, if (rfV n cut C S).2 < 0 then -1 else xorL (rfV n cut C S).2 fl)
 else addC (firstAndL n) S.1 (litV S.2 (n.ands.getD i default).1) (litV S.2 (n.ands.getD i default).2)
noncomputable def rfTo (n : NetL) (q : Nat) (cut : List Int) (C : List (Int × Int)) (fl : Int) : Nat → Option (List (Int × Int) × List Int)
 | 0 => some ([], leafL n)
 | i + 1 => match rfTo n q cut C fl i with
  | none => none
  | some S => if (rfS n q cut C fl S i).2 < 0 then none else some ((rfS n q cut C fl S i).1, S.2 ++ [(rfS n q cut C fl S i).2])
theorem rfTo_no {n : NetL} {q : Nat} {cut : List Int} {C : List (Int × Int)} {fl : Int} {i : Nat} {S : List (Int × Int) × List Int} (h : rfTo n q cut C fl i = some S) (h2 : (rfS n q cut C fl S i).2 < 0) : rfTo n q cut C fl (i + 1) = none := by
 simp only [rfTo, h, if_pos h2]
theorem rfTo_yes {n : NetL} {q : Nat} {cut : List Int} {C : List (Int × Int)} {fl : Int} {i : Nat} {S : List (Int × Int) × List Int} (h : rfTo n q cut C fl i = some S) (h2 : ¬ (rfS n q cut C fl S i).2 < 0) : rfTo n q cut C fl (i + 1) = some ((rfS n q cut C fl S i).1, S.2 ++ [(rfS n q cut C fl S i).2]) := by
 simp only [rfTo, h, if_neg h2]
theorem rfTo_stay {n : NetL} {q : Nat} {cut : List Int} {C : List (Int × Int)} {fl : Int} {i : Nat} (h : rfTo n q cut C fl i = none) : ∀ {m : Nat}, i ≤ m → rfTo n q cut C fl m = none := by
 intro m hm
 induction hm with
 | refl => exact h
 | step _ ih => simp only [rfTo, ih]
theorem rfTo_pre {n : NetL} {q : Nat} {cut : List Int} {C : List (Int × Int)} {fl : Int} {i : Nat} {T : List (Int × Int) × List Int} (h : rfTo n q cut C fl (i + 1) = some T) : ∃ S, rfTo n q cut C fl i = some S ∧ ¬ (rfS n q cut C fl S i).2 < 0 ∧ T = ((rfS n q cut C fl S i).1, S.2 ++ [(rfS n q cut C fl S i).2]) := by
 cases h1 : rfTo n q cut C fl i with
 | none => simp only [rfTo, h1] at h; cases h
 | some S =>
  by_cases h2 : (rfS n q cut C fl S i).2 < 0
  ·rw [rfTo_no h1 h2] at h; cases h
  ·rw [rfTo_yes h1 h2] at h
   exact ⟨S, rfl, h2, (Option.some.inj h).symm⟩
theorem rfLits_len (cut T : List Int) : (rfLits cut T).length = cut.length := by simp [rfLits]
def rfBel (n : NetL) (q : Nat) (cut : List Int) : Prop := q < n.ands.length ∧ ∀ c, c ∈ cut → 0 ≤ c ∧ c < fst_ n + q
theorem rfLits_ok {n : NetL} {q : Nat} {cut : List Int} (hb : rfBel n q cut) {S : List (Int × Int) × List Int} (hB : Bld (firstAndL n) S.1 S.2) (hl : S.2.length = fst_ n + q) : ∀ l, l ∈ rfLits cut S.2 → litP l (nodesL (zerL n S.1)) := fun l hm => by
 obtain ⟨c, hc, rfl⟩ := List.mem_map.1 hm
 have h1 := hb.2 c hc
 have e : nodesL (zerL n S.1) = firstAndL n + S.1.length := by
  have := firstAndL_zer n S.1
  show firstAndL (zerL n S.1) + _ = _
  rw [this]; rfl
 rw [e]
 exact hB.tok _ (by omega)
theorem zerL_nodes (n : NetL) (A : List (Int × Int)) : nodesL (zerL n A) = firstAndL n + A.length := by
 have := firstAndL_zer n A
 show firstAndL (zerL n A) + _ = _
 rw [this]; rfl
theorem rfV_good {n : NetL} (hok : NetOkP n) {q : Nat} {cut : List Int} (hb : rfBel n q cut) {C : List (Int × Int)} {S : List (Int × Int) × List Int} (hB : Bld (firstAndL n) S.1 S.2) (hl : S.2.length = fst_ n + q) : GoodN (zerL n S.1) (rfV n cut C S) :=
 good_cover (zerL_ok hok hB) (rfLits_ok hb hB hl) C _ (Nat.le_refl _)
theorem goodN_zer {n : NetL} {A : List (Int × Int)} {r : NetL × Int} (h : GoodN (zerL n A) r) : r.1 = zerL n r.1.ands := by rw [h.eq]; rfl
theorem xorL_litP {l fl k : Int} (h : litP l k) (hk : k ≤ 1000000) (hf : fl = 0 ∨ fl = 1) : litP (xorL l fl) k := by
 have h' := h
 unfold litP at h'
 rw [xorL_eq h'.1 (by omega) hf]
 split
 ·exact h
 ·exact litP_not h hk
theorem rfS_ok {n : NetL} (hok : NetOkP n) {q : Nat} {cut : List Int} (hb : rfBel n q cut) {C : List (Int × Int)} {fl : Int} (hf : fl = 0 ∨ fl = 1) {S : List (Int × Int) × List Int} {i : Nat} (hi : i < n.ands.length) (hB : Bld (firstAndL n) S.1 S.2) (hl : S.2.length = fst_ n + i) (h0 : ¬ (rfS n q cut C fl S i).2 < 0) :
  Bld (firstAndL n) (rfS n q cut C fl S i).1 (S.2 ++ [(rfS n q cut C fl S i).2]) := by
 unfold rfS at h0 ⊢
 split
 ·rename_i hiq
  rw [if_pos hiq] at h0
  subst hiq
  have g := rfV_good hok hb (C := C) hB hl
  have e := goodN_zer g
  by_cases hn : (rfV n cut C S).2 < 0
  ·rw [if_pos hn] at h0; exact absurd (show (-1 : Int) < 0 by decide) h0
  ·have hlit := g.litP hn
   have hnod := g.nodes
   have hgc := g.ok.count
   have hgok := g.ok
   have hsz := hgok.size
   unfold sizeOk at hsz
   rw [e, zerL_nodes] at hlit
   rw [e, zerL_nodes, zerL_nodes] at hnod
   rw [e, zerL_nodes] at hgc
   have hfz := firstAndL_zer n (rfV n cut C S).1.ands
   have hfz2 : firstAndL (rfV n cut C S).1 = firstAndL n := by rw [e]; exact hfz
   dsimp only
   rw [if_neg hn]
   refine Bld.snoc ⟨hB.f1, hsz.2.2.1, fun j hj => ?_, fun j hj => (hB.tok j hj).mono (by omega)⟩ (xorL_litP hlit (by omega) hf)
   have := hgok.andP hj
   rw [hfz2] at this
   exact this
 ·rename_i hiq
  rw [if_neg hiq] at h0
  have f2 := hok.nums.f2
  obtain ⟨q1, q2⟩ := hok.andP hi
  unfold litP at q1 q2
  exact hB.step (hB.lit (by omega)) (hB.lit (by omega)) (by omega)
structure RfOk (n : NetL) (S : List (Int × Int) × List Int) (i : Nat) : Prop where
 b : Bld (firstAndL n) S.1 S.2
 len : S.2.length = fst_ n + i
theorem rfTo_ok {n : NetL} (hok : NetOkP n) {q : Nat} {cut : List Int} (hb : rfBel n q cut) {C : List (Int × Int)} {fl : Int} (hf : fl = 0 ∨ fl = 1) : ∀ i, i ≤ n.ands.length → ∀ S, rfTo n q cut C fl i = some S → RfOk n S i
 | 0, _, S, h => by
  simp only [rfTo, Option.some.injEq] at h
  subst h
  exact ⟨.leaf hok, leafL_len n⟩
 | i + 1, hi, T, h => by
  obtain ⟨S, h1, h2, rfl⟩ := rfTo_pre h
  have ih := rfTo_ok hok hb hf i (by omega) S h1
  exact ⟨rfS_ok hok hb hf (by omega) ih.b ih.len h2, by simp; have := ih.len; omega⟩
noncomputable def rfN (n : NetL) (q : Nat) (cut : List Int) : Option NetL :=
 (rfTo n q cut (cvrL cut.length (tabL n cut (fst_ n + q)).2) (cvrF cut.length (tabL n cut (fst_ n + q)).2) n.ands.length).map fun S => sweepL (finN n S.1 S.2)
theorem rfN_ok {n m : NetL} (hok : NetOkP n) {q : Nat} {cut : List Int} (hb : rfBel n q cut) (h : rfN n q cut = some m) : NetOkP m := by
 unfold rfN at h
 rw [Option.map_eq_some_iff] at h
 obtain ⟨S, h1, rfl⟩ := h
 have r := rfTo_ok hok hb (cvrF_01 _ _) _ (Nat.le_refl _) S h1
 have := hok.nums.n1
 have := r.len
 exact sweepL_ok (finN_ok hok r.b (by omega))
theorem coneL_mem {n : NetL} {k : Nat} {z : Int} : z ∈ coneL n k ↔ ∃ j : Nat, j < nds n ∧ z = j ∧ InCone n k j := by
 unfold coneL markedL
 rw [marked_mem, listB_len]
 constructor
 ·rintro ⟨l, h1, h2, h3⟩; exact ⟨l, h1, h2, (listB_get h1).1 h3⟩
 ·rintro ⟨l, h1, h2, h3⟩; exact ⟨l, h1, h2, (listB_get h1).2 h3⟩
def rfP (n : NetL) (k : Int) (cut : List Int) : Prop := (NetOkP n ∧ (0 ≤ k ∧ k < nodesL n) ∧ cutP n k.toNat cut) ∧ (fst_ n : Int) ≤ k ∧ k ∉ cut
theorem rfP_bel {n : NetL} {k : Int} {cut : List Int} (h : rfP n k cut) : rfBel n (k.toNat - fst_ n) cut := by
 obtain ⟨⟨hok, hk, hc⟩, hf, hn⟩ := h
 have hcn := hok.count
 have f2 := hok.nums.f2
 refine ⟨by omega, fun c hcm => ?_⟩
 have h1 := hc.2.1 c hcm
 obtain ⟨j, _, hj, hcone⟩ := coneL_mem.1 h1
 have hle := hcone.le hok.nums
 have : c ≠ k := fun he => hn (he ▸ hcm)
 omega
noncomputable def rfF (n : NetL) (k : Int) (cut : List Int) : NetL × Bool :=
 @ite _ (rfP n k cut) (Classical.propDecidable _) (match rfN n (k.toNat - fst_ n) cut with | some m => (m, true) | none => (n, false)) (n, false)
theorem rfF_bad {n : NetL} {k : Int} {cut : List Int} (h : ¬ rfP n k cut) : rfF n k cut = (n, false) := by unfold rfF; rw [if_neg h]
theorem rfF_no {n : NetL} {k : Int} {cut : List Int} (h : rfP n k cut) (h2 : rfN n (k.toNat - fst_ n) cut = none) : rfF n k cut = (n, false) := by unfold rfF; rw [if_pos h, h2]
theorem rfF_yes {n m : NetL} {k : Int} {cut : List Int} (h : rfP n k cut) (h2 : rfN n (k.toNat - fst_ n) cut = some m) : rfF n k cut = (m, true) := by unfold rfF; rw [if_pos h, h2]
end Go.Xw
end
