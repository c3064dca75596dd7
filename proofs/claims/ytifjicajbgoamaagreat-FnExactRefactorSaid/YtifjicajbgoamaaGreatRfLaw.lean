/- A node computed anew from a cut by a minimal cover, as plain data; no condition but the stated ones. -/
import Derived.Test.YtifjicajbgoamaaGreatCvrLaw
import Derived.Test.YtifjicajbgoamaaGreatRetLaw
set_option linter.all false
namespace Go.Xw
open Go.Proofs
set_option maxHeartbeats 1000000

/-! ### literals of a cover -/
def pcTo (c : Int) : Nat → Int
  | 0 => 0
  | k + 1 => pcTo c k + bitI c k
theorem bitI_01 (c : Int) (k : Nat) : is01 (bitI c k) := and1_01 _
theorem pcTo_b (c : Int) : ∀ k, 0 ≤ pcTo c k ∧ pcTo c k ≤ k
  | 0 => by simp [pcTo]
  | k + 1 => by
    have h1 := pcTo_b c k
    have h2 := bitI_01 c k
    unfold is01 at h2
    rw [pcTo]
    omega
/-- the bits of a number below 2^j are all among the first j -/
theorem bitI_hi {c : Int} {j k : Nat} (h0 : 0 ≤ c) (h : c / 2 ^ j = 0) (hk : j ≤ k) : bitI c k = 0 := by
  obtain ⟨C, rfl⟩ := Int.eq_ofNat_of_zero_le h0
  rw [pw_nat, ← Int.natCast_ediv] at h
  have h2 : C < 2 ^ j := by
    have hp : 0 < 2 ^ j := Nat.pow_pos (by decide)
    exact Nat.lt_of_div_eq_zero hp (by omega)
  rw [bitI_tb, Nat.testBit_lt_two_pow (Nat.lt_of_lt_of_le h2 (Nat.pow_le_pow_right (by decide) hk))]
  rfl
theorem pcTo_hi {c : Int} {j : Nat} (h0 : 0 ≤ c) (h : c / 2 ^ j = 0) : ∀ d, pcTo c (j + d) = pcTo c j
  | 0 => rfl
  | d + 1 => by rw [← Nat.add_assoc, pcTo, pcTo_hi h0 h d, bitI_hi h0 h (by omega)]; omega
theorem pcTo_eq {c : Int} {j k : Nat} (h0 : 0 ≤ c) (h1 : c / 2 ^ j = 0) (h2 : c / 2 ^ k = 0) : pcTo c j = pcTo c k := by
  rcases Nat.le_total j k with h | h
  · have := pcTo_hi h0 h1 (k - j)
    rw [show j + (k - j) = k by omega] at this
    exact this.symm
  · have := pcTo_hi h0 h2 (j - k)
    rw [show k + (j - k) = j by omega] at this
    exact this
def clTo (m : Nat) (C : List (Int × Int)) : Nat → Int
  | 0 => 0
  | i + 1 => clTo m C i + pcTo (C.getD i default).1 m
def clL (m : Nat) (C : List (Int × Int)) : Int := clTo m C C.length
theorem clTo_b (m : Nat) (C : List (Int × Int)) : ∀ i, 0 ≤ clTo m C i ∧ clTo m C i ≤ i * m
  | 0 => by simp [clTo]
  | i + 1 => by
    have h1 := clTo_b m C i
    have h2 := pcTo_b (C.getD i default).1 m
    have e : ((i + 1 : Nat) : Int) * (m : Int) = (i : Int) * m + m := by rw [Int.natCast_add, Int.add_mul]; simp
    rw [clTo]
    rw [e]
    omega

/-! ### the cubes of the lists are valid -/
theorem candL_ok {m : Nat} (hm : m ≤ 4) {t : Int} {c : Int × Int} (h : c ∈ candL m t) : cubeOkP (m : Int) c := by
  obtain ⟨a, b, ha, hb, rfl, hok, _⟩ := candL_iff.1 h
  unfold okC at hok
  rw [decide_eq_true_iff] at hok
  refine ⟨⟨by omega, by omega⟩, ?_, ?_, hok⟩ <;> rw [Int.toNat_natCast, pw_nat] <;> dsimp only <;> omega
theorem allC_cnt : ∀ m : Fin 5, ((allC m.val).filter okC).length ≤ 81 := by decide
theorem candL_len {m : Nat} (hm : m ≤ 4) (t : Int) : (candL m t).length ≤ 81 := by
  have h1 := allC_cnt ⟨m, by omega⟩
  have h2 : (candL m t).Sublist ((allC m).filter okC) := by
    unfold candL
    have e : (allC m).filter (candC m t) = ((allC m).filter okC).filter (impC m t) := by
      rw [List.filter_filter]
      refine List.filter_congr fun c _ => ?_
      unfold candC
      rw [Bool.and_comm]
    rw [e]
    exact List.filter_sublist
  exact Nat.le_trans h2.length_le h1
theorem primL_sub (m : Nat) (t : Int) : (primL m t).Sublist (candL m t) := List.filter_sublist
theorem cover_sub {m : Nat} (hm : m ≤ 4) {t : Int} {L : List (Int × Int)} (h : L.Sublist (primL m t)) : coverOkP (m : Int) L := by
  have h2 := h.trans (primL_sub m t)
  exact ⟨⟨by omega, by omega⟩, Nat.le_trans h2.length_le (candL_len hm t), fun c hc => candL_ok hm (h2.subset hc)⟩
theorem minL_ok {m : Nat} (hm : m ≤ 4) (t : Int) : coverOkP (m : Int) (minL m t) := cover_sub hm (mcF_sub m t _ _)
theorem coverOkP.nn {m : Int} {C : List (Int × Int)} (h : coverOkP m C) : ∀ c, c ∈ C → 0 ≤ c.1 ∧ 0 ≤ c.2 := fun c hc => ⟨(h.2.2 c hc).2.1.1, (h.2.2 c hc).2.2.1.1⟩

/-! ### the complement of a table -/
def notT (m : Nat) (t : Int) : Int := 2 ^ 2 ^ m - 1 - t
theorem notT_b {m : Nat} {t : Int} (h0 : 0 ≤ t) (h1 : t < 2 ^ 2 ^ m) : 0 ≤ notT m t ∧ notT m t < 2 ^ 2 ^ m := by unfold notT; omega
theorem bsB_not (g : Nat → Bool) : ∀ i, bsB (fun j => !g j) i = 2 ^ i - 1 - bsB g i
  | 0 => rfl
  | i + 1 => by
    rw [bsB, bsB, bsB_not g i, Int.pow_succ]
    cases g i <;> simp <;> omega
theorem bsB_notT {m : Nat} {t : Int} (h0 : 0 ≤ t) (h1 : t < 2 ^ 2 ^ m) : bsB (fun j => !decide (bitI t j = 1)) (2 ^ m) = notT m t := by
  rw [bsB_not, bsB_of h0 h1]; rfl
/-- the cover that is taken, and whether it is the complement's -/
def cvrL (m : Nat) (t : Int) : List (Int × Int) := if clL m (minL m (notT m t)) < clL m (minL m t) then minL m (notT m t) else minL m t
def cvrF (m : Nat) (t : Int) : Int := if clL m (minL m (notT m t)) < clL m (minL m t) then 1 else 0
theorem cvrL_ok {m : Nat} (hm : m ≤ 4) (t : Int) : coverOkP (m : Int) (cvrL m t) := by
  unfold cvrL
  split
  · exact minL_ok hm _
  · exact minL_ok hm _
theorem cvrF_01 (m : Nat) (t : Int) : cvrF m t = 0 ∨ cvrF m t = 1 := by unfold cvrF; split <;> simp

/-! ### the net with the node computed anew -/
def rfLits (cut T : List Int) : List Int := cut.map fun c => T.getD c.toNat default
noncomputable def rfV (n : NetL) (cut : List Int) (C : List (Int × Int)) (S : List (Int × Int) × List Int) : NetL × Int := coverTo (zerL n S.1) (rfLits cut S.2) C C.length
noncomputable def rfS (n : NetL) (q : Nat) (cut : List Int) (C : List (Int × Int)) (fl : Int) (S : List (Int × Int) × List Int) (i : Nat) : List (Int × Int) × Int :=
  if i = q then ((rfV n cut C S).1.ands, if (rfV n cut C S).2 < 0 then -1 else xorL (rfV n cut C S).2 fl)
  else addC (firstAndL n) S.1 (litV S.2 (n.ands.getD i default).1) (litV S.2 (n.ands.getD i default).2)
noncomputable def rfTo (n : NetL) (q : Nat) (cut : List Int) (C : List (Int × Int)) (fl : Int) : Nat → Option (List (Int × Int) × List Int)
  | 0 => some ([], leafL n)
  | i + 1 => match rfTo n q cut C fl i with
    | none => none
    | some S => if (rfS n q cut C fl S i).2 < 0 then none else some ((rfS n q cut C fl S i).1, S.2 ++ [(rfS n q cut C fl S i).2])
theorem rfTo_no {n : NetL} {q : Nat} {cut : List Int} {C : List (Int × Int)} {fl : Int} {i : Nat} {S : List (Int × Int) × List Int} (h : rfTo n q cut C fl i = some S) (h2 : (rfS n q cut C fl S i).2 < 0) : rfTo n q cut C fl (i + 1) = none := by
  simp only [rfTo, h, if_pos h2]
theorem rfTo_yes {n : NetL} {q : Nat} {cut : List Int} {C : List (Int × Int)} {fl : Int} {i : Nat} {S : List (Int × Int) × List Int} (h : rfTo n q cut C fl i = some S) (h2 : ¬ (rfS n q cut C fl S i).2 < 0) : rfTo n q cut C fl (i + 1) = some ((rfS n q cut C fl S i).1, S.2 ++ [(rfS n q cut C fl S i).2]) := by
  simp only [rfTo, h, if_neg h2]
theorem rfTo_stay {n : NetL} {q : Nat} {cut : List Int} {C : List (Int × Int)} {fl : Int} {i : Nat} (h : rfTo n q cut C fl i = none) : ∀ {m : Nat}, i ≤ m → rfTo n q cut C fl m = none := by
  intro m hm
  induction hm with
  | refl => exact h
  | step _ ih => simp only [rfTo, ih]
theorem rfTo_pre {n : NetL} {q : Nat} {cut : List Int} {C : List (Int × Int)} {fl : Int} {i : Nat} {T : List (Int × Int) × List Int} (h : rfTo n q cut C fl (i + 1) = some T) : ∃ S, rfTo n q cut C fl i = some S ∧ ¬ (rfS n q cut C fl S i).2 < 0 ∧ T = ((rfS n q cut C fl S i).1, S.2 ++ [(rfS n q cut C fl S i).2]) := by
  cases h1 : rfTo n q cut C fl i with
  | none => simp only [rfTo, h1] at h; cases h
  | some S =>
    by_cases h2 : (rfS n q cut C fl S i).2 < 0
    · rw [rfTo_no h1 h2] at h; cases h
    · rw [rfTo_yes h1 h2] at h
      exact ⟨S, rfl, h2, (Option.some.inj h).symm⟩
theorem rfLits_len (cut T : List Int) : (rfLits cut T).length = cut.length := by simp [rfLits]
/-- what is asked of node q and the cut: the cut lies below the node -/
def rfBel (n : NetL) (q : Nat) (cut : List Int) : Prop := q < n.ands.length ∧ ∀ c, c ∈ cut → 0 ≤ c ∧ c < fst_ n + q
theorem rfLits_ok {n : NetL} {q : Nat} {cut : List Int} (hb : rfBel n q cut) {S : List (Int × Int) × List Int} (hB : Bld (firstAndL n) S.1 S.2) (hl : S.2.length = fst_ n + q) : ∀ l, l ∈ rfLits cut S.2 → litP l (nodesL (zerL n S.1)) := fun l hm => by
  obtain ⟨c, hc, rfl⟩ := List.mem_map.1 hm
  have h1 := hb.2 c hc
  have e : nodesL (zerL n S.1) = firstAndL n + S.1.length := by
    have := firstAndL_zer n S.1
    show firstAndL (zerL n S.1) + _ = _
    rw [this]; rfl
  rw [e]
  exact hB.tok _ (by omega)
theorem zerL_nodes (n : NetL) (A : List (Int × Int)) : nodesL (zerL n A) = firstAndL n + A.length := by
  have := firstAndL_zer n A
  show firstAndL (zerL n A) + _ = _
  rw [this]; rfl
theorem rfV_good {n : NetL} (hok : NetOkP n) {q : Nat} {cut : List Int} (hb : rfBel n q cut) {C : List (Int × Int)} {S : List (Int × Int) × List Int} (hB : Bld (firstAndL n) S.1 S.2) (hl : S.2.length = fst_ n + q) : GoodN (zerL n S.1) (rfV n cut C S) :=
  good_cover (zerL_ok hok hB) (rfLits_ok hb hB hl) C _ (Nat.le_refl _)
theorem goodN_zer {n : NetL} {A : List (Int × Int)} {r : NetL × Int} (h : GoodN (zerL n A) r) : r.1 = zerL n r.1.ands := by rw [h.eq]; rfl
theorem xorL_litP {l fl k : Int} (h : litP l k) (hk : k ≤ 1000000) (hf : fl = 0 ∨ fl = 1) : litP (xorL l fl) k := by
  have h' := h
  unfold litP at h'
  rw [xorL_eq h'.1 (by omega) hf]
  split
  · exact h
  · exact litP_not h hk
/-- the step keeps a net that is being built -/
theorem rfS_ok {n : NetL} (hok : NetOkP n) {q : Nat} {cut : List Int} (hb : rfBel n q cut) {C : List (Int × Int)} {fl : Int} (hf : fl = 0 ∨ fl = 1) {S : List (Int × Int) × List Int} {i : Nat} (hi : i < n.ands.length) (hB : Bld (firstAndL n) S.1 S.2) (hl : S.2.length = fst_ n + i) (h0 : ¬ (rfS n q cut C fl S i).2 < 0) :
    Bld (firstAndL n) (rfS n q cut C fl S i).1 (S.2 ++ [(rfS n q cut C fl S i).2]) := by
  unfold rfS at h0 ⊢
  split
  · rename_i hiq
    rw [if_pos hiq] at h0
    subst hiq
    have g := rfV_good hok hb (C := C) hB hl
    have e := goodN_zer g
    by_cases hn : (rfV n cut C S).2 < 0
    · rw [if_pos hn] at h0; exact absurd (show (-1 : Int) < 0 by decide) h0
    · have hlit := g.litP hn
      have hnod := g.nodes
      have hgc := g.ok.count
      have hgok := g.ok
      have hsz := hgok.size
      unfold sizeOk at hsz
      rw [e, zerL_nodes] at hlit
      rw [e, zerL_nodes, zerL_nodes] at hnod
      rw [e, zerL_nodes] at hgc
      have hfz := firstAndL_zer n (rfV n cut C S).1.ands
      have hfz2 : firstAndL (rfV n cut C S).1 = firstAndL n := by rw [e]; exact hfz
      dsimp only
      rw [if_neg hn]
      refine Bld.snoc ⟨hB.f1, hsz.2.2.1, fun j hj => ?_, fun j hj => (hB.tok j hj).mono (by omega)⟩ (xorL_litP hlit (by omega) hf)
      have := hgok.andP hj
      rw [hfz2] at this
      exact this
  · rename_i hiq
    rw [if_neg hiq] at h0
    have f2 := hok.nums.f2
    obtain ⟨q1, q2⟩ := hok.andP hi
    unfold litP at q1 q2
    exact hB.step (hB.lit (by omega)) (hB.lit (by omega)) (by omega)
structure RfOk (n : NetL) (S : List (Int × Int) × List Int) (i : Nat) : Prop where
  b : Bld (firstAndL n) S.1 S.2
  len : S.2.length = fst_ n + i
theorem rfTo_ok {n : NetL} (hok : NetOkP n) {q : Nat} {cut : List Int} (hb : rfBel n q cut) {C : List (Int × Int)} {fl : Int} (hf : fl = 0 ∨ fl = 1) : ∀ i, i ≤ n.ands.length → ∀ S, rfTo n q cut C fl i = some S → RfOk n S i
  | 0, _, S, h => by
    simp only [rfTo, Option.some.injEq] at h
    subst h
    exact ⟨.leaf hok, leafL_len n⟩
  | i + 1, hi, T, h => by
    obtain ⟨S, h1, h2, rfl⟩ := rfTo_pre h
    have ih := rfTo_ok hok hb hf i (by omega) S h1
    exact ⟨rfS_ok hok hb hf (by omega) ih.b ih.len h2, by simp; have := ih.len; omega⟩
/-- the net, if there is room -/
noncomputable def rfN (n : NetL) (q : Nat) (cut : List Int) : Option NetL :=
  (rfTo n q cut (cvrL cut.length (tabL n cut (fst_ n + q)).2) (cvrF cut.length (tabL n cut (fst_ n + q)).2) n.ands.length).map fun S => sweepL (finN n S.1 S.2)
theorem rfN_ok {n m : NetL} (hok : NetOkP n) {q : Nat} {cut : List Int} (hb : rfBel n q cut) (h : rfN n q cut = some m) : NetOkP m := by
  unfold rfN at h
  rw [Option.map_eq_some_iff] at h
  obtain ⟨S, h1, rfl⟩ := h
  have r := rfTo_ok hok hb (cvrF_01 _ _) _ (Nat.le_refl _) S h1
  have := hok.nums.n1
  have := r.len
  exact sweepL_ok (finN_ok hok r.b (by omega))
theorem coneL_mem {n : NetL} {k : Nat} {z : Int} : z ∈ coneL n k ↔ ∃ j : Nat, j < nds n ∧ z = j ∧ InCone n k j := by
  unfold coneL markedL
  rw [marked_mem, listB_len]
  constructor
  · rintro ⟨l, h1, h2, h3⟩; exact ⟨l, h1, h2, (listB_get h1).1 h3⟩
  · rintro ⟨l, h1, h2, h3⟩; exact ⟨l, h1, h2, (listB_get h1).2 h3⟩
/-- where a node can be computed anew from a cut -/
def rfP (n : NetL) (k : Int) (cut : List Int) : Prop := (NetOkP n ∧ (0 ≤ k ∧ k < nodesL n) ∧ cutP n k.toNat cut) ∧ (fst_ n : Int) ≤ k ∧ k ∉ cut
theorem rfP_bel {n : NetL} {k : Int} {cut : List Int} (h : rfP n k cut) : rfBel n (k.toNat - fst_ n) cut := by
  obtain ⟨⟨hok, hk, hc⟩, hf, hn⟩ := h
  have hcn := hok.count
  have f2 := hok.nums.f2
  refine ⟨by omega, fun c hcm => ?_⟩
  have h1 := hc.2.1 c hcm
  obtain ⟨j, _, hj, hcone⟩ := coneL_mem.1 h1
  have hle := hcone.le hok.nums
  have : c ≠ k := fun he => hn (he ▸ hcm)
  omega
/-- what RefactorAt gives -/
noncomputable def rfF (n : NetL) (k : Int) (cut : List Int) : NetL × Bool :=
  @ite _ (rfP n k cut) (Classical.propDecidable _) (match rfN n (k.toNat - fst_ n) cut with | some m => (m, true) | none => (n, false)) (n, false)
theorem rfF_bad {n : NetL} {k : Int} {cut : List Int} (h : ¬ rfP n k cut) : rfF n k cut = (n, false) := by unfold rfF; rw [if_neg h]
theorem rfF_no {n : NetL} {k : Int} {cut : List Int} (h : rfP n k cut) (h2 : rfN n (k.toNat - fst_ n) cut = none) : rfF n k cut = (n, false) := by unfold rfF; rw [if_pos h, h2]
theorem rfF_yes {n m : NetL} {k : Int} {cut : List Int} (h : rfP n k cut) (h2 : rfN n (k.toNat - fst_ n) cut = some m) : rfF n k cut = (m, true) := by unfold rfF; rw [if_pos h, h2]
end Go.Xw
