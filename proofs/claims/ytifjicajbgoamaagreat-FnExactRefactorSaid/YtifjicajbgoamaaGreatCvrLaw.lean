/- Prime cubes and minimal covers, as plain data; no condition but the stated ones. -/
import Derived.Test.YtifjicajbgoamaaGreatCov2
import Derived.Test.YtifjicajbgoamaaGreatTabLaw
set_option linter.all false
namespace Go.Xw
open Go.Proofs
set_option maxHeartbeats 1000000

/-! ### numbers out of bits -/
def bsB (g : Nat → Bool) : Nat → Int
  | 0 => 0
  | i + 1 => bsB g i + (if g i = true then 1 else 0) * 2 ^ i
theorem pw_nat (m : Nat) : (2 : Int) ^ m = ((2 ^ m : Nat) : Int) := by
  induction m with
  | zero => rfl
  | succ m ih => rw [Int.pow_succ, Nat.pow_succ, ih]; rfl
theorem bsB_lt (g : Nat → Bool) : ∀ i, 0 ≤ bsB g i ∧ bsB g i < 2 ^ i
  | 0 => by simp [bsB]
  | i + 1 => by
    have h1 := bsB_lt g i
    have := bit_add_lt (m := if g i = true then 1 else 0) h1.1 h1.2 (by by_cases h : g i = true <;> simp [h])
    rw [bsB]
    exact this
theorem bsB_congr {g h : Nat → Bool} : ∀ m, (∀ i, i < m → g i = h i) → bsB g m = bsB h m
  | 0, _ => rfl
  | m + 1, hh => by rw [bsB, bsB, bsB_congr m (fun i hi => hh i (by omega)), hh m (by omega)]
theorem bsB_bit (g : Nat → Bool) {i : Nat} : ∀ m, i < m → bitI (bsB g m) i = if g i = true then 1 else 0
  | 0, h => by omega
  | m + 1, h => by
    have hb := bsB_lt g m
    obtain ⟨X, hX⟩ := Int.eq_ofNat_of_zero_le hb.1
    rw [pw_nat, hX] at hb
    have hpos : 0 < 2 ^ m := Nat.pow_pos (by decide)
    have e : bsB g (m + 1) = ((X + (if g m = true then 1 else 0) * 2 ^ m : Nat) : Int) := by
      rw [bsB, hX, pw_nat]
      split <;> simp
    unfold bitI
    rw [e, bits_and_one, pw_nat, ← Int.natCast_ediv]
    by_cases him : i < m
    · have ih := bsB_bit g m him
      unfold bitI at ih
      rw [hX, bits_and_one, pw_nat, ← Int.natCast_ediv] at ih
      rw [← ih]
      have e2 : 2 ^ m = 2 ^ i * (2 * 2 ^ (m - i - 1)) :=
        calc 2 ^ m = 2 ^ (i + 1 + (m - i - 1)) := by congr 1; omega
          _ = 2 ^ i * (2 * 2 ^ (m - i - 1)) := by rw [Nat.pow_add, Nat.pow_succ, Nat.mul_assoc]
      have e3 : (X + (if g m = true then 1 else 0) * 2 ^ m) / 2 ^ i = X / 2 ^ i + 2 * ((if g m = true then 1 else 0) * 2 ^ (m - i - 1)) := by
        rw [e2, show (if g m = true then 1 else 0) * (2 ^ i * (2 * 2 ^ (m - i - 1))) = 2 ^ i * (2 * ((if g m = true then 1 else 0) * 2 ^ (m - i - 1))) by rw [Nat.mul_left_comm]; congr 1; rw [Nat.mul_left_comm], Nat.add_mul_div_left _ _ (Nat.pow_pos (by decide))]
      rw [e3]
      omega
    · obtain rfl : i = m := by omega
      have e3 : (X + (if g i = true then 1 else 0) * 2 ^ i) / 2 ^ i = if g i = true then 1 else 0 := by
        rw [Nat.add_mul_div_right _ _ hpos, Nat.div_eq_of_lt (by omega), Nat.zero_add]
      rw [e3]
      split <;> rfl
theorem bsB_inj {g h : Nat → Bool} {m : Nat} (he : bsB g m = bsB h m) {i : Nat} (hi : i < m) : g i = h i := by
  have h1 := bsB_bit g m hi
  have h2 := bsB_bit h m hi
  rw [he, h2] at h1
  revert h1
  cases g i <;> cases h i <;> simp
theorem bsB_mod (t : Nat) : ∀ m, bsB (fun i => decide (bitI (t : Int) i = 1)) m = ((t % 2 ^ m : Nat) : Int)
  | 0 => by rw [Nat.pow_zero, Nat.mod_one]; rfl
  | m + 1 => by
    rw [bsB, bsB_mod t m, Nat.pow_succ, Nat.mod_mul, pw_nat]
    have e : bitI (t : Int) m = ((t / 2 ^ m % 2 : Nat) : Int) := by
      unfold bitI
      rw [bits_and_one, pw_nat, ← Int.natCast_ediv]
      omega
    rw [e]
    have h2 : t / 2 ^ m % 2 = 0 ∨ t / 2 ^ m % 2 = 1 := by omega
    rcases h2 with h | h <;> rw [h] <;> simp
theorem bsB_of {t : Int} {m : Nat} (h0 : 0 ≤ t) (h1 : t < 2 ^ m) : bsB (fun i => decide (bitI t i = 1)) m = t := by
  obtain ⟨T, rfl⟩ := Int.eq_ofNat_of_zero_le h0
  rw [pw_nat] at h1
  rw [bsB_mod, Nat.mod_eq_of_lt (by omega)]

/-! ### cubes -/
def hasC (c : Int × Int) (i : Nat) : Bool := decide (bits .and .i64 (i : Int) c.1 = c.2)
def okC (c : Int × Int) : Bool := decide (bits .andNot .i64 c.2 c.1 = 0)
def impC (m : Nat) (t : Int) (c : Int × Int) : Bool := (List.range (2 ^ m)).all fun i => !hasC c i || decide (bitI t i = 1)
theorem impC_iff {m : Nat} {t : Int} {c : Int × Int} : impC m t c = true ↔ ∀ i, i < 2 ^ m → hasC c i = true → bitI t i = 1 := by
  unfold impC
  rw [List.all_eq_true]
  constructor
  · intro h i hi hc
    have := h i (List.mem_range.2 hi)
    rw [hc] at this
    simpa using this
  · intro h i hi
    cases hc : hasC c i
    · rfl
    · simp [h i (List.mem_range.1 hi) hc]
def candC (m : Nat) (t : Int) (c : Int × Int) : Bool := okC c && impC m t c
def rowC (a j : Nat) : List (Int × Int) := (List.range j).map fun (b : Nat) => ((a : Int), (b : Int))
def rowsC (m i : Nat) : List (Int × Int) := (List.range i).flatMap fun a => rowC a (2 ^ m)
def allC (m : Nat) : List (Int × Int) := rowsC m (2 ^ m)
def candL (m : Nat) (t : Int) : List (Int × Int) := (allC m).filter (candC m t)
/-- d contains c and is another one -/
def inC (d c : Int × Int) : Bool := decide (d ≠ c) && (decide (bits .andNot .i64 d.1 c.1 = 0) && decide (bits .and .i64 c.2 d.1 = d.2))
def prmC (m : Nat) (t : Int) (c : Int × Int) : Bool := !(candL m t).any fun d => inC d c
def primL (m : Nat) (t : Int) : List (Int × Int) := (candL m t).filter (prmC m t)
def cutC (c : Int × Int) (k : Nat) : Int × Int := (bits .andNot .i64 c.1 (2 ^ k), bits .andNot .i64 c.2 (2 ^ k))
def prmS (m : Nat) (t : Int) (c : Int × Int) : Bool := !(List.range m).any fun k => decide (bitI c.1 k = 1) && impC m t (cutC c k)
theorem allC_iff {m : Nat} {c : Int × Int} : c ∈ allC m ↔ ∃ a b : Nat, a < 2 ^ m ∧ b < 2 ^ m ∧ c = ((a : Int), (b : Int)) := by
  unfold allC rowsC rowC
  simp only [List.mem_flatMap, List.mem_map, List.mem_range]
  constructor
  · rintro ⟨a, ha, b, hb, rfl⟩; exact ⟨a, b, ha, hb, rfl⟩
  · rintro ⟨a, b, ha, hb, rfl⟩; exact ⟨a, ha, b, hb, rfl⟩
theorem rowC_snoc (a j : Nat) : rowC a (j + 1) = rowC a j ++ [((a : Int), (j : Int))] := by unfold rowC; rw [List.range_succ, List.map_append]; rfl
theorem rowsC_snoc (m i : Nat) : rowsC m (i + 1) = rowsC m i ++ rowC i (2 ^ m) := by unfold rowsC; rw [List.range_succ, List.flatMap_append]; simp

/-! ### their bits -/
theorem aN_all : ∀ a b : Fin 16, bits .andNot .i64 (a.val : Int) (b.val : Int) = ((a.val &&& (15 ^^^ b.val) : Nat) : Int) := by decide
theorem aN_nat {a b : Nat} (ha : a < 16) (hb : b < 16) : bits .andNot .i64 (a : Int) (b : Int) = ((a &&& (15 ^^^ b) : Nat) : Int) := aN_all ⟨a, ha⟩ ⟨b, hb⟩
theorem tb_15 : ∀ b : Fin 16, ∀ k : Fin 4, (15 ^^^ b.val).testBit k.val = !b.val.testBit k.val := by decide
theorem tb_hi {a k : Nat} (ha : a < 16) (hk : 4 ≤ k) : a.testBit k = false := by
  have h1 := Nat.pow_le_pow_right (show 0 < 2 by decide) hk
  exact Nat.testBit_lt_two_pow (Nat.lt_of_lt_of_le ha h1)
theorem tb_aN {a b : Nat} (ha : a < 16) (hb : b < 16) (k : Nat) : (a &&& (15 ^^^ b)).testBit k = (a.testBit k && !b.testBit k) := by
  rw [Nat.testBit_and]
  by_cases hk : k < 4
  · rw [tb_15 ⟨b, hb⟩ ⟨k, hk⟩]
  · rw [tb_hi ha (by omega)]; rfl
theorem aN_lt {a b : Nat} (ha : a < 16) : (a &&& (15 ^^^ b)) < 16 := Nat.lt_of_le_of_lt Nat.and_le_left ha
theorem hasC_iff {a b i : Nat} (ha : a < 16) (hi : i < 16) : hasC ((a : Int), (b : Int)) i = true ↔ ∀ k, (i.testBit k && a.testBit k) = b.testBit k := by
  unfold hasC
  rw [decide_eq_true_iff, bits_and_nat _ _ (by omega) (by omega)]
  constructor
  · intro h k
    have h2 : i &&& a = b := Int.ofNat_inj.1 h
    rw [← h2, Nat.testBit_and]
  · intro h
    have h2 : i &&& a = b := Nat.eq_of_testBit_eq fun k => by rw [Nat.testBit_and]; exact h k
    rw [h2]
theorem okC_iff {a b : Nat} (ha : a < 16) (hb : b < 16) : okC ((a : Int), (b : Int)) = true ↔ ∀ k, b.testBit k = true → a.testBit k = true := by
  unfold okC
  rw [decide_eq_true_iff, aN_nat hb ha]
  constructor
  · intro h k hk
    have h2 : b &&& (15 ^^^ a) = 0 := Int.ofNat_inj.1 h
    have h3 := tb_aN hb ha k
    rw [h2, hk, Nat.zero_testBit] at h3
    cases h4 : a.testBit k
    · rw [h4] at h3; cases h3
    · rfl
  · intro h
    have h2 : b &&& (15 ^^^ a) = 0 := Nat.eq_of_testBit_eq fun k => by
      rw [tb_aN hb ha, Nat.zero_testBit]
      cases h3 : b.testBit k
      · rfl
      · rw [h k h3]; rfl
    rw [h2]; rfl
theorem inC_iff {a b a' b' : Nat} (ha : a < 16) (hb : b < 16) (ha' : a' < 16) : inC ((a' : Int), (b' : Int)) ((a : Int), (b : Int)) = true ↔ ¬ (a' = a ∧ b' = b) ∧ (∀ k, a'.testBit k = true → a.testBit k = true) ∧ ∀ k, (b.testBit k && a'.testBit k) = b'.testBit k := by
  unfold inC
  rw [Bool.and_eq_true, Bool.and_eq_true, decide_eq_true_iff]
  have e1 : decide (bits .andNot .i64 (a' : Int) (a : Int) = 0) = okC ((a : Int), (a' : Int)) := rfl
  have e2 : decide (bits .and .i64 (b : Int) (a' : Int) = (b' : Int)) = hasC ((a' : Int), (b' : Int)) b := rfl
  dsimp only
  rw [e1, e2, okC_iff ha ha', hasC_iff ha' hb]
  have e3 : (((a' : Int), (b' : Int)) ≠ ((a : Int), (b : Int))) ↔ ¬ (a' = a ∧ b' = b) := by
    rw [ne_eq, Prod.mk.injEq]; omega
  rw [e3]
theorem tb_pow (k j : Nat) : (2 ^ k).testBit j = decide (k = j) := Nat.testBit_two_pow
theorem pw_4 {m : Nat} (h : m ≤ 4) : 2 ^ m ≤ 16 := Nat.pow_le_pow_right (show 0 < 2 by decide) h
theorem pw_16 {k : Nat} (h : k < 4) : 2 ^ k < 16 := Nat.pow_lt_pow_right (show 1 < 2 by decide) h
theorem cutC_nat {a b k : Nat} (ha : a < 16) (hb : b < 16) (hk : k < 4) : cutC ((a : Int), (b : Int)) k = (((a &&& (15 ^^^ 2 ^ k) : Nat) : Int), ((b &&& (15 ^^^ 2 ^ k) : Nat) : Int)) := by
  unfold cutC
  dsimp only
  rw [pw_nat, aN_nat ha (pw_16 hk), aN_nat hb (pw_16 hk)]
theorem bitI_tb (y k : Nat) : bitI (y : Int) k = if y.testBit k = true then 1 else 0 := by
  unfold bitI
  rw [bits_and_one, pw_nat, ← Int.natCast_ediv, Nat.testBit_eq_decide_div_mod_eq]
  by_cases h : y / 2 ^ k % 2 = 1
  · rw [if_pos (by simpa using h)]; omega
  · rw [if_neg (by simpa using h)]; omega
theorem bitI_one {y k : Nat} : bitI (y : Int) k = 1 ↔ y.testBit k = true := by
  rw [bitI_tb]
  cases y.testBit k <;> simp
/-- a cube of the list, less one of its bits, is in the list if it is an implicant -/
theorem cut_mem {m : Nat} (hm : m ≤ 4) {t : Int} {a b k : Nat} (ha : a < 2 ^ m) (hb : b < 2 ^ m) (hok : okC ((a : Int), (b : Int)) = true) (hk : k < 4) (hi : impC m t (cutC ((a : Int), (b : Int)) k) = true) : cutC ((a : Int), (b : Int)) k ∈ candL m t := by
  have h16 := pw_4 hm
  have hk16 := pw_16 hk
  rw [cutC_nat (by omega) (by omega) hk] at hi ⊢
  refine List.mem_filter.2 ⟨allC_iff.2 ⟨_, _, Nat.lt_of_le_of_lt Nat.and_le_left ha, Nat.lt_of_le_of_lt Nat.and_le_left hb, rfl⟩, ?_⟩
  unfold candC
  rw [hi, Bool.and_true, okC_iff (aN_lt (by omega)) (aN_lt (by omega))]
  intro j hj
  rw [tb_aN (by omega) hk16] at hj ⊢
  rw [Bool.and_eq_true] at hj ⊢
  exact ⟨(okC_iff (by omega) (by omega)).1 hok j hj.1, hj.2⟩
theorem candL_iff {m : Nat} {t : Int} {c : Int × Int} : c ∈ candL m t ↔ ∃ a b : Nat, a < 2 ^ m ∧ b < 2 ^ m ∧ c = ((a : Int), (b : Int)) ∧ okC ((a : Int), (b : Int)) = true ∧ impC m t ((a : Int), (b : Int)) = true := by
  unfold candL candC
  rw [List.mem_filter, allC_iff]
  constructor
  · rintro ⟨⟨a, b, ha, hb, rfl⟩, h⟩
    rw [Bool.and_eq_true] at h
    exact ⟨a, b, ha, hb, rfl, h.1, h.2⟩
  · rintro ⟨a, b, ha, hb, rfl, h1, h2⟩
    exact ⟨⟨a, b, ha, hb, rfl⟩, by rw [h1, h2]; rfl⟩
/-- the two ways to tell that a cube is prime agree -/
theorem prm_eq {m : Nat} (hm : m ≤ 4) {t : Int} {c : Int × Int} (hc : c ∈ candL m t) : prmC m t c = prmS m t c := by
  have h16 := pw_4 hm
  obtain ⟨a, b, ha, hb, rfl, hok, himp⟩ := candL_iff.1 hc
  have hsub := (okC_iff (by omega) (by omega)).1 hok
  unfold prmC prmS
  congr 1
  rw [Bool.eq_iff_iff, List.any_eq_true, List.any_eq_true]
  constructor
  · rintro ⟨d, hd, hin⟩
    obtain ⟨a', b', ha', hb', rfl, hok', himp'⟩ := candL_iff.1 hd
    obtain ⟨hne, hs, hv⟩ := (inC_iff (by omega) (by omega) (by omega)).1 hin
    have hex : ∃ k, a.testBit k = true ∧ a'.testBit k = false := Classical.byContradiction fun hno => by
      have e1 : a' = a := Nat.eq_of_testBit_eq fun k => by
        cases h1 : a.testBit k
        · cases h2 : a'.testBit k
          · rfl
          · rw [hs k h2] at h1; cases h1
        · cases h2 : a'.testBit k
          · exact absurd ⟨k, h1, h2⟩ hno
          · rfl
      refine hne ⟨e1, Nat.eq_of_testBit_eq fun k => ?_⟩
      rw [← hv k, e1]
      cases h1 : b.testBit k
      · rfl
      · rw [hsub k h1]; rfl
    obtain ⟨k, k1, k2⟩ := hex
    have hkm : k < m := Nat.lt_of_not_le fun h => by
      rw [Nat.testBit_lt_two_pow (Nat.lt_of_lt_of_le ha (Nat.pow_le_pow_right (by decide) h))] at k1
      cases k1
    refine ⟨k, List.mem_range.2 hkm, ?_⟩
    rw [Bool.and_eq_true, decide_eq_true_iff]
    refine ⟨bitI_one.2 k1, impC_iff.2 fun i hi hc2 => impC_iff.1 himp' i hi ?_⟩
    rw [cutC_nat (by omega) (by omega) (by omega), hasC_iff (aN_lt (by omega)) (by omega)] at hc2
    refine (hasC_iff (by omega) (by omega)).2 fun j => ?_
    rw [← hv j]
    have h1 := hc2 j
    rw [tb_aN (by omega) (pw_16 (by omega)), tb_aN (by omega) (pw_16 (by omega)), tb_pow] at h1
    cases h2 : a'.testBit j
    · simp
    · have hjk : k ≠ j := fun h => by rw [← h, k2] at h2; cases h2
      rw [decide_eq_false hjk, hs j h2] at h1
      simpa using h1
  · rintro ⟨k, hk, h⟩
    have hkm := List.mem_range.1 hk
    rw [Bool.and_eq_true, decide_eq_true_iff] at h
    have k1 := bitI_one.1 h.1
    refine ⟨_, cut_mem hm ha hb hok (by omega) h.2, ?_⟩
    have hk16 := pw_16 (show k < 4 by omega)
    rw [cutC_nat (by omega) (by omega) (by omega)]
    refine (inC_iff (by omega) (by omega) (aN_lt (by omega))).2 ⟨fun h2 => ?_, fun j hj => ?_, fun j => ?_⟩
    · have h3 := tb_aN (a := a) (b := 2 ^ k) (by omega) hk16 k
      rw [h2.1, k1, tb_pow, decide_eq_true rfl] at h3
      cases h3
    · rw [tb_aN (by omega) hk16, Bool.and_eq_true] at hj
      exact hj.1
    · rw [tb_aN (by omega) hk16, tb_aN (by omega) hk16]
      cases h1 : b.testBit j
      · rfl
      · rw [hsub j h1]
        simp

/-! ### covers -/
def covG (C : List (Int × Int)) (i : Nat) : Bool := C.any fun c => hasC c i
def covT (m : Nat) (C : List (Int × Int)) : Int := bsB (covG C) (2 ^ m)
theorem covG_iff {C : List (Int × Int)} {i : Nat} : covG C i = true ↔ ∃ c, c ∈ C ∧ hasC c i = true := by unfold covG; rw [List.any_eq_true]
theorem prime_of {m : Nat} (hm : m ≤ 4) {t : Int} {i : Nat} (hi : i < 2 ^ m) : ∀ n (a b : Nat), a ≤ n → ((a : Int), (b : Int)) ∈ candL m t → hasC ((a : Int), (b : Int)) i = true → ∃ c, c ∈ primL m t ∧ hasC c i = true := by
  have h16 := pw_4 hm
  intro n
  induction n with
  | zero =>
    intro a b han hc hh
    obtain rfl : a = 0 := by omega
    refine ⟨_, List.mem_filter.2 ⟨hc, ?_⟩, hh⟩
    rw [prm_eq hm hc]
    unfold prmS
    rw [Bool.not_eq_true', List.any_eq_false]
    intro k hk
    rw [Bool.and_eq_true, decide_eq_true_iff]
    rintro ⟨h1, _⟩
    have := bitI_one.1 h1
    rw [Nat.zero_testBit] at this
    cases this
  | succ n ih =>
    intro a b han hc hh
    by_cases hp : prmC m t ((a : Int), (b : Int)) = true
    · exact ⟨_, List.mem_filter.2 ⟨hc, hp⟩, hh⟩
    · rw [prm_eq hm hc] at hp
      unfold prmS at hp
      rw [Bool.not_eq_true', Bool.not_eq_false, List.any_eq_true] at hp
      obtain ⟨k, hk, h⟩ := hp
      have hkm := List.mem_range.1 hk
      rw [Bool.and_eq_true, decide_eq_true_iff] at h
      have k1 := bitI_one.1 h.1
      obtain ⟨a', b', ha, hb, he, hok, himp⟩ := candL_iff.1 hc
      have ea : a = a' := by have := congrArg Prod.fst he; dsimp only at this; omega
      have eb : b = b' := by have := congrArg Prod.snd he; dsimp only at this; omega
      subst ea eb
      have hk16 := pw_16 (show k < 4 by omega)
      have hmem := cut_mem hm ha hb hok (show k < 4 by omega) h.2
      rw [cutC_nat (by omega) (by omega) (by omega)] at hmem
      refine ih _ _ ?_ hmem ?_
      · have h1 : a &&& (15 ^^^ 2 ^ k) ≤ a := Nat.and_le_left
        have h2 : a &&& (15 ^^^ 2 ^ k) ≠ a := fun h2 => by
          have h3 := tb_aN (a := a) (b := 2 ^ k) (by omega) hk16 k
          rw [h2, k1, tb_pow, decide_eq_true rfl] at h3
          cases h3
        omega
      · have h1 := (hasC_iff (by omega) (by omega)).1 hh
        refine (hasC_iff (aN_lt (by omega)) (by omega)).2 fun j => ?_
        rw [tb_aN (by omega) hk16, tb_aN (by omega) hk16, ← h1 j, Bool.and_assoc]
theorem prim_cov {m : Nat} (hm : m ≤ 4) {t : Int} {i : Nat} (hi : i < 2 ^ m) : covG (primL m t) i = decide (bitI t i = 1) := by
  have h16 := pw_4 hm
  rw [Bool.eq_iff_iff, covG_iff, decide_eq_true_iff]
  constructor
  · rintro ⟨c, hc, hh⟩
    obtain ⟨a, b, ha, hb, rfl, hok, himp⟩ := candL_iff.1 (List.mem_filter.1 hc).1
    exact impC_iff.1 himp i hi hh
  · intro hb
    have hf : 2 ^ m - 1 < 2 ^ m := by omega
    have tbf : ∀ k, (2 ^ m - 1).testBit k = decide (k < m) := fun k => Nat.testBit_two_pow_sub_one m k
    have tbi : ∀ j, j < 2 ^ m → ∀ k, (j.testBit k && (2 ^ m - 1).testBit k) = j.testBit k := fun j hj k => by
      rw [tbf]
      by_cases hk : k < m
      · rw [decide_eq_true hk, Bool.and_true]
      · rw [Nat.testBit_lt_two_pow (Nat.lt_of_lt_of_le hj (Nat.pow_le_pow_right (by decide) (by omega)))]; rfl
    refine prime_of hm hi (2 ^ m - 1) (2 ^ m - 1) i (Nat.le_refl _) (candL_iff.2 ⟨_, _, hf, hi, rfl, ?_, ?_⟩) ((hasC_iff (by omega) (by omega)).2 fun k => tbi i hi k)
    · refine (okC_iff (by omega) (by omega)).2 fun k hk => ?_
      have := tbi i hi k
      rw [hk] at this
      simpa using this
    · refine impC_iff.2 fun j hj hh => ?_
      have h1 := (hasC_iff (by omega) (by omega)).1 hh
      have e : j = i := Nat.eq_of_testBit_eq fun k => by rw [← tbi j hj k]; exact h1 k
      rw [e]; exact hb
theorem prim_T {m : Nat} (hm : m ≤ 4) {t : Int} (h0 : 0 ≤ t) (h1 : t < 2 ^ 2 ^ m) : covT m (primL m t) = t := by
  unfold covT
  rw [bsB_congr _ fun i hi => prim_cov hm hi]
  exact bsB_of h0 h1

/-! ### removing cubes -/
def lessC (L : List (Int × Int)) (k : Nat) : List (Int × Int) := L.take k ++ L.drop (k + 1)
def mcF (m : Nat) (t : Int) : Nat → List (Int × Int) → List (Int × Int)
  | 0, L => L
  | k + 1, L => mcF m t k (if covT m (lessC L k) = t then lessC L k else L)
def minL (m : Nat) (t : Int) : List (Int × Int) := mcF m t (primL m t).length (primL m t)
theorem lessC_len {L : List (Int × Int)} {k : Nat} (h : k < L.length) : (lessC L k).length + 1 = L.length := by
  unfold lessC; simp; omega
theorem lessC_sub (L : List (Int × Int)) (k : Nat) : (lessC L k).Sublist L := by
  unfold lessC
  have h := List.Sublist.append (List.Sublist.refl (L.take k)) (List.drop_sublist_drop_left L (show k ≤ k + 1 by omega))
  rw [List.take_append_drop] at h
  exact h
theorem mcF_sub (m : Nat) (t : Int) : ∀ k L, (mcF m t k L).Sublist L
  | 0, L => List.Sublist.refl _
  | k + 1, L => by
    rw [mcF]
    split
    · exact (mcF_sub m t k _).trans (lessC_sub L k)
    · exact mcF_sub m t k L
theorem mcF_T {m : Nat} {t : Int} : ∀ k L, covT m L = t → covT m (mcF m t k L) = t
  | 0, _, h => h
  | k + 1, L, h => by
    rw [mcF]
    split
    · rename_i h2; exact mcF_T k _ h2
    · exact mcF_T k L h
theorem less_get {L : List (Int × Int)} {k q : Nat} (hk : k < L.length) : (lessC L k).getD q default = if q < k then L.getD q default else L.getD (q + 1) default := by
  unfold lessC
  simp only [List.getD_eq_getElem?_getD]
  by_cases h : q < k
  · rw [if_pos h, List.getElem?_append_left (by simp; omega), List.getElem?_take, if_pos h]
  · rw [if_neg h, List.getElem?_append_right (by simp; omega), List.getElem?_drop]
    congr 2
    simp
    omega
theorem min_T {m : Nat} (hm : m ≤ 4) {t : Int} (h0 : 0 ≤ t) (h1 : t < 2 ^ 2 ^ m) : covT m (minL m t) = t := mcF_T _ _ (prim_T hm h0 h1)
end Go.Xw
