/- Texts that belong together; each under its stated conditions. -/
import Derived.Test.YtifjicajbgoamaaGreatBase
import Derived.Test.YtifjicajbgoamaaGreatBits
import Derived.Test.YtifjicajbgoamaaGreatGraph4
import Derived.Test.YtifjicajbgoamaaGreatMapLaw
import Derived.Test.YtifjicajbgoamaaGreatRfLaw
set_option linter.all false
section
namespace Go.Proofs
open Go.Xw
set_option maxRecDepth 100000
def seqMostL (k : Int) : Int := if k = 0 then 1 else if k = 1 then 31 else -1
def ramO (v : Int) (a : Nat) : Int := bits .or .i64 (bits .and .i64 (v / 2 ^ a) 1) (bits .andNot .i64 v 1)
def ramW (v : Int) (a : Nat) (d : Int) : Int := bits .or .i64 (bits .andNot .i64 (ramO v a) (2 ^ a)) (d * 2 ^ a)
def ramNext (v i : Int) : Int := if i / 8 % 2 = 1 then ramW v (i % 4 + 1).toNat (i / 4 % 2) else ramO v (i % 4 + 1).toNat
def seqNextL (k v i : Int) : Int :=
 if k = 0 ∧ 0 ≤ v ∧ v ≤ 1 then i % 2 else if k = 1 ∧ 0 ≤ v ∧ v ≤ 31 then ramNext v i else -1
end Go.Proofs
end
section
namespace Go.Xw
end Go.Xw
namespace Go.Proofs
open Go.Xw
set_option maxRecDepth 100000
set_option maxHeartbeats 1000000
attribute [local irreducible] Holds elemAddr
def stP (n : NetL) (st : List Int) : Prop := st.length = n.seqs.length ∧ ∀ i, i < st.length → 0 ≤ st.getD i default ∧ st.getD i default ≤ seqMostL (n.seqs.getD i default).kind
def startL (n : NetL) : List Int := n.seqs.map SeqL.init
end Go.Proofs
end
section
namespace Go.Proofs
open Go.Xw
set_option maxRecDepth 100000
set_option maxHeartbeats 1000000
attribute [local irreducible] Holds elemAddr
theorem l09Bit_h (a : Option Addr) (c : Nat) (V : List Int) (m : Nat) (hm : V.length = m) (l : Int) (w0 : World) (hR : Rd w0 a 1 eI V) (h0 : 0 ≤ l) (h1 : l / 2 < m) (hb : m ≤ 1000000000) :
  Ret Tryz.prog 65 [.slice a m c, .int .i64 l] w0 (fun v w => v = .int .i64 (litV V l) ∧ Ext w0 w) := by
 subst hm
 refine enter Tryz.S65ok _ _ rfl rfl (by show _ ≤ _; simp only [List.length]; decide) (fun C => ?_); have hp := Hp.nil w0; refine h_run rfl ?_; (repeat (first | (refine gLoad ?_; refine H_ldE hp rfl (by omega) (by omega) rfl rfl ?_) | refine R_ret ?_))
 exact ⟨rfl, hp.x⟩
theorem NetOkP.fst' {x : NetA} (h : NetOkP x.n) : fst_ x.n = 1 + x.inputs.toNat + x.seqs.length ∧ nds x.n = fst_ x.n + x.ands.length := by
 have h1 := h.size'
 have h2 := h.nums
 have h3 := firstAndL_eq x
 have h4 := h2.f2
 have h5 := h2.n1
 have h6 : x.n.ands.length = x.ands.length := rfl
 omega
end Go.Proofs
end
section
namespace Go.Xw
theorem getD_left {α : Type} [Inhabited α] {A B : List α} {i : Nat} (h : i < A.length) : (A ++ B).getD i default = A.getD i default := by
 simp [List.getD_eq_getElem?_getD, List.getElem?_append_left h]
theorem getD_right {α : Type} [Inhabited α] {A B : List α} {i : Nat} : (A ++ B).getD (A.length + i) default = B.getD i default := by
 simp [List.getD_eq_getElem?_getD, List.getElem?_append_right]
end Go.Xw
namespace Go.Proofs
open Go.Xw
def nextAt (n : NetL) (st V : List Int) (i : Nat) : Int := seqNextL (n.seqs.getD i default).kind (st.getD i default) (packL V (n.seqs.getD i default).ins)
def nextTo (n : NetL) (st V : List Int) : Nat → List Int
 | 0 => []
 | i + 1 => nextTo n st V i ++ [nextAt n st V i]
def nextL (n : NetL) (st : List Int) (inp : Int) : List Int := nextTo n st (valsL n st inp) n.seqs.length
theorem nextTo_len (n : NetL) (st V : List Int) : ∀ i, (nextTo n st V i).length = i
 | 0 => rfl
 | i + 1 => by rw [nextTo, List.length_append, nextTo_len]; rfl
theorem nextTo_get (n : NetL) (st V : List Int) : ∀ {m i : Nat}, i < m → (nextTo n st V m).getD i default = nextAt n st V i
 | 0, _, h => by omega
 | m + 1, i, h => by
  rw [nextTo]
  by_cases h2 : i < m
  ·rw [getD_left (by rw [nextTo_len]; exact h2), nextTo_get n st V h2]
  ·obtain rfl : i = m := by omega
   have := getD_right (A := nextTo n st V i) (B := [nextAt n st V i]) (i := 0)
   rw [nextTo_len] at this
   exact this
def outL (n : NetL) (st : List Int) (inp : Int) : Int := packL (valsL n st inp) n.outs
theorem start_stP {n : NetL} (h : NetOkP n) : stP n (startL n) := by
 refine ⟨by unfold startL; simp, fun i hi => ?_⟩
 unfold startL at hi ⊢
 rw [List.length_map] at hi
 have h1 := h.seqs i hi
 have e : (n.seqs.map SeqL.init).getD i default = (n.seqs.getD i default).init := by
  simp [List.getD_eq_getElem?_getD, hi]
 rw [e]
 unfold seqOkP at h1
 unfold seqMostL
 rcases h1 with ⟨h1, h2, _⟩ | ⟨h1, h2, _⟩
 ·rw [if_pos h1]; exact h2
 ·rw [if_neg (by omega), if_pos h1]; exact h2
def stAt (n : NetL) (ins : List Int) : Nat → List Int
 | 0 => startL n
 | k + 1 => nextL n (stAt n ins k) (ins.getD k default)
def runTo (n : NetL) (ins : List Int) : Nat → List Int
 | 0 => []
 | k + 1 => runTo n ins k ++ [outL n (stAt n ins k) (ins.getD k default)]
def runL (n : NetL) (ins : List Int) : List Int := runTo n ins ins.length
end Go.Proofs
end
section
namespace Go.Xw
open Go.Proofs
set_option maxHeartbeats 1000000
theorem litV_if {V : List Int} (h : All01 V) (l : Int) : litV V l = if l % 2 = 0 then V.getD (l / 2).toNat default else 1 - V.getD (l / 2).toNat default := by
 have hj := h (l / 2).toNat
 have hl : l % 2 = 0 ∨ l % 2 = 1 := by omega
 unfold litV
 rw [bits_and_one, xor_01 hj (by omega)]
 unfold is01 at hj
 rcases hl with e | e <;> rcases hj with g | g <;> rw [e, g] <;> decide
theorem litV_not {V : List Int} (h : All01 V) {a : Int} (h0 : 0 ≤ a) (h1 : a ≤ 9223372036854775807) : litV V (notL a) = 1 - litV V a := by
 obtain ⟨b1, b2, b3, b4⟩ := notL_b h0 h1
 have e := notL_eq h0 h1
 rw [litV_if h, litV_if h, b3]
 split at e
 ·rw [if_neg (by omega), if_pos (by assumption)]
 ·rw [if_pos (by omega), if_neg (by assumption)]; omega
theorem litV_app {V T : List Int} {l : Int} (h : (l / 2).toNat < V.length) : litV (V ++ T) l = litV V l := litV_congr (getD_left h)
theorem litV_comp {V V' to : List Int} {l : Int} (h : All01 V) (h' : All01 V') {k : Int} (hk : k ≤ 1000000) (ht : litP (to.getD (l / 2).toNat default) k) (hv : litV V' (to.getD (l / 2).toNat default) = V.getD (l / 2).toNat default) : litV V' (litV to l) = litV V l := by
 unfold litP at ht
 rw [litV_eq to ht.1 (by omega), litV_if h]
 split
 ·exact hv
 ·rw [litV_not h' ht.1 (by omega), hv]
theorem packTo_comp {V V' to : List Int} {ls : List Int} (hv : ∀ l, l ∈ ls → litV V' (litV to l) = litV V l) : ∀ k, k ≤ ls.length → packTo V' (mapL to ls) k = packTo V ls k
 | 0, _ => rfl
 | k + 1, h => by
  rw [packTo, packTo, packTo_comp hv k (by omega), show (mapL to ls).getD k default = litV to (ls.getD k default) from map_getD (by omega), hv _ (getD_mem (by omega))]
theorem packL_comp {V V' to : List Int} {ls : List Int} (hv : ∀ l, l ∈ ls → litV V' (litV to l) = litV V l) : packL V' (mapL to ls) = packL V ls := by
 unfold packL
 rw [mapL_len]
 exact packTo_comp hv _ (Nat.le_refl _)
def valA (U : List Int) (A : List (Int × Int)) : List Int := A.foldl (fun V x => V ++ [bits .and .i64 (litV V x.1) (litV V x.2)]) U
theorem valA_app (U : List Int) (A B : List (Int × Int)) : valA U (A ++ B) = valA (valA U A) B := by unfold valA; rw [List.foldl_append]
theorem valA_snoc (U : List Int) (A : List (Int × Int)) (x : Int × Int) : valA U (A ++ [x]) = valA U A ++ [bits .and .i64 (litV (valA U A) x.1) (litV (valA U A) x.2)] := by rw [valA_app]; rfl
theorem valA_pre : ∀ (A : List (Int × Int)) (U : List Int), ∃ T, valA U A = U ++ T ∧ T.length = A.length
 | [], U => ⟨[], by simp [valA]⟩
 | x :: A, U => by
  obtain ⟨T, h, hl⟩ := valA_pre A (U ++ [bits .and .i64 (litV U x.1) (litV U x.2)])
  refine ⟨bits .and .i64 (litV U x.1) (litV U x.2) :: T, ?_, by simp [hl]⟩
  show valA (U ++ [bits .and .i64 (litV U x.1) (litV U x.2)]) A = _
  rw [h, List.append_assoc]
  rfl
theorem valA_len (U : List Int) (A : List (Int × Int)) : (valA U A).length = U.length + A.length := by
 obtain ⟨T, h, hl⟩ := valA_pre A U
 rw [h, List.length_append, hl]
theorem All01.snoc {V : List Int} (h : All01 V) {z : Int} (hz : is01 z) : All01 (V ++ [z]) := fun j => by
 by_cases h1 : j < V.length
 ·rw [snoc_lt h1]; exact h j
 ·by_cases h2 : j = V.length
  ·subst h2; rw [snoc_eq]; exact hz
  ·rw [List.getD_eq_getElem?_getD, List.getElem?_eq_none (by simp; omega)]; exact .inl rfl
theorem valA_01 : ∀ (A : List (Int × Int)) {U : List Int}, All01 U → All01 (valA U A)
 | [], _, h => h
 | x :: A, _, h => valA_01 A (h.snoc (and_is01 (litV_01 h _) (litV_01 h _)))
theorem valA_low {U : List Int} {A : List (Int × Int)} {k : Nat} (h : k < U.length) : (valA U A).getD k default = U.getD k default := by
 obtain ⟨T, h1, _⟩ := valA_pre A U
 rw [h1, getD_left h]
theorem valA_litlow {U : List Int} {A B : List (Int × Int)} {l : Int} (h : (l / 2).toNat < U.length + A.length) : litV (valA U (A ++ B)) l = litV (valA U A) l := by
 obtain ⟨T, h1, _⟩ := valA_pre B (valA U A)
 rw [valA_app, h1, litV_app (by rw [valA_len]; exact h)]
theorem split_at {α : Type} [Inhabited α] {A : List α} {i : Nat} (h : i < A.length) : A = A.take i ++ [A.getD i default] ++ A.drop (i + 1) := by
 rw [← take_snoc h, List.take_append_drop]
theorem valA_at {U : List Int} {A : List (Int × Int)} {f : Int} (hf : U.length = f.toNat) (h0 : 0 ≤ f) {i : Nat} (hi : i < A.length) (ok : litP (A.getD i default).1 (f + i) ∧ litP (A.getD i default).2 (f + i)) :
  (valA U A).getD (f.toNat + i) default = bits .and .i64 (litV (valA U A) (A.getD i default).1) (litV (valA U A) (A.getD i default).2) := by
 obtain ⟨o1, o2⟩ := ok
 unfold litP at o1 o2
 have hl : (A.take i).length = i := by simp; omega
 have g1 : (((A.getD i default).1) / 2).toNat < U.length + (A.take i).length := by omega
 have g2 : (((A.getD i default).2) / 2).toNat < U.length + (A.take i).length := by omega
 have e : valA U A = valA U (A.take i ++ ([A.getD i default] ++ A.drop (i + 1))) := by rw [← List.append_assoc, ← split_at hi]
 have e2 : valA U A = valA (valA U (A.take i) ++ [bits .and .i64 (litV (valA U (A.take i)) (A.getD i default).1) (litV (valA U (A.take i)) (A.getD i default).2)]) (A.drop (i + 1)) := by
  rw [← valA_snoc, ← valA_app, ← split_at hi]
 rw [show litV (valA U A) (A.getD i default).1 = litV (valA U (A.take i)) (A.getD i default).1 by rw [e, valA_litlow g1], show litV (valA U A) (A.getD i default).2 = litV (valA U (A.take i)) (A.getD i default).2 by rw [e, valA_litlow g2], e2, valA_low (by simp [valA_len]; omega),
  show f.toNat + i = (valA U (A.take i)).length by rw [valA_len]; omega, snoc_eq]
theorem and_comm01 {a b : Int} (ha : is01 a) (hb : is01 b) : bits .and .i64 a b = bits .and .i64 b a := by
 rw [and_01 ha hb, and_01 hb ha]
 split <;> split <;> first | rfl | omega
theorem addC_val {U : List Int} {f : Int} {A : List (Int × Int)} {to : List Int} (hU : U.length = f.toNat) (h1 : All01 U) (hz : U.getD 0 default = 0) (hB : Bld f A to) {a b : Int} (ha : litP a (f + A.length)) (hb : litP b (f + A.length)) (h0 : 0 ≤ (addC f A a b).2) :
  litV (valA U (addC f A a b).1) (addC f A a b).2 = bits .and .i64 (litV (valA U A) a) (litV (valA U A) b) := by
 have f1 := hB.f1
 have f2 := hB.alen
 have hV := valA_01 A h1
 have hz' : (valA U A).getD 0 default = 0 := by rw [valA_low (by omega), hz]
 have l0 : litV (valA U A) 0 = 0 := by rw [litV_if hV]; exact hz'
 have l1 : litV (valA U A) 1 = 1 := by rw [litV_if hV]; show 1 - (valA U A).getD 0 default = 1; rw [hz']; rfl
 have va := litV_01 hV a
 have vb := litV_01 hV b
 have ha' := ha
 have hb' := hb
 unfold litP at ha' hb'
 unfold addC at h0 ⊢
 split at h0
 ·rename_i h
  rw [if_pos h]
  show litV (valA U A) 0 = _
  rw [l0, and_01 va vb]
  rcases h with h | h | h
  ·rw [h, l0]; rfl
  ·rw [h, l0]; simp
  ·rw [← h, litV_not hV (by omega) (by omega)]
   split
   ·unfold is01 at *; omega
   ·rfl
 ·rename_i h
  rw [if_neg h]
  split at h0
  ·rename_i h2
   rw [if_pos h2]
   show litV (valA U A) b = _
   rw [and_01 va vb]
   rcases h2 with h2 | h2
   ·rw [h2, l1]; unfold is01 at vb; split <;> omega
   ·rw [h2]; unfold is01 at vb; split <;> omega
  ·rename_i h2
   rw [if_neg h2]
   split at h0
   ·rename_i h3
    rw [if_pos h3]
    show litV (valA U A) a = _
    rw [and_01 va vb, h3, l1]
    unfold is01 at va; split <;> omega
   ·rename_i h3
    rw [if_neg h3]
    have hmm : bits .and .i64 (litV (valA U A) (min a b)) (litV (valA U A) (max a b)) = bits .and .i64 (litV (valA U A) a) (litV (valA U A) b) := by
     by_cases hab : a ≤ b
     ·rw [Int.min_eq_left hab, Int.max_eq_right hab]
     ·rw [Int.min_eq_right (by omega), Int.max_eq_left (by omega), and_comm01 vb va]
    split at h0
    ·rename_i h4
     rw [if_pos h4]
     have e : A.getD (A.idxOf (min a b, max a b)) default = (min a b, max a b) := by
      rw [List.getD_eq_getElem?_getD, List.getElem?_eq_getElem h4, Option.getD_some, List.getElem_idxOf]
     have hat := valA_at hU (by omega) h4 (hB.aok _ h4)
     rw [e] at hat
     show litV (valA U A) (2 * (f + (A.idxOf (min a b, max a b) : Nat))) = _
     rw [litV_if hV, if_pos (by omega), show (2 * (f + (A.idxOf (min a b, max a b) : Nat)) / 2).toNat = f.toNat + A.idxOf (min a b, max a b) by omega, hat]
     exact hmm
    ·rename_i h4
     rw [if_neg h4]
     split at h0
     ·exact absurd h0 (by dsimp only; omega)
     ·rename_i h5
      rw [if_neg h5]
      show litV (valA U (A ++ [(min a b, max a b)])) (2 * (f + (A.length : Int))) = _
      rw [litV_if (valA_01 _ h1), if_pos (by omega), valA_snoc, show (2 * (f + (A.length : Int)) / 2).toNat = (valA U A).length by rw [valA_len]; omega, snoc_eq]
      exact hmm
theorem addC_pre {f : Int} {A : List (Int × Int)} {a b : Int} : ∃ B, (addC f A a b).1 = A ++ B := by
 rcases addC_cases f A a b with h | ⟨h, _⟩
 ·exact ⟨[], by rw [h]; simp⟩
 ·exact ⟨_, h⟩
def leafV (n : NetL) (st : List Int) (inp : Int) : List Int := ([0] ++ (List.range n.inputs.toNat).map (bitI inp)) ++ st.map (fun z => bits .and .i64 z 1)
theorem leafV_len {n : NetL} (h : NetOkP n) {st : List Int} (hs : st.length = n.seqs.length) (inp : Int) : (leafV n st inp).length = fst_ n := by
 have := h.fsq
 have h1 := h.size.1.1
 unfold leafV
 simp
 unfold fsq at this
 omega
theorem leafV_0 (n : NetL) (st : List Int) (inp : Int) : (leafV n st inp).getD 0 default = 0 := rfl
theorem All01.app {V W : List Int} (h : All01 V) (g : All01 W) : All01 (V ++ W) := fun j => by
 by_cases h1 : j < V.length
 ·rw [getD_left h1]; exact h j
 ·obtain ⟨i, rfl⟩ : ∃ i, j = V.length + i := ⟨j - V.length, by omega⟩
  rw [getD_right]; exact g i
theorem all01_of {V : List Int} (h : ∀ i, i < V.length → is01 (V.getD i default)) : All01 V := fun j => by
 by_cases h1 : j < V.length
 ·exact h j h1
 ·rw [List.getD_eq_getElem?_getD, List.getElem?_eq_none (by omega)]; exact .inl rfl
theorem leafV_01 (n : NetL) (st : List Int) (inp : Int) : All01 (leafV n st inp) := by
 refine All01.app (All01.app ?_ ?_) ?_
 ·exact all01_of fun i hi => by simp at hi; subst hi; exact .inl rfl
 ·exact all01_of fun i hi => by simp at hi; rw [range_get (by omega)]; exact and1_01 _
 ·exact all01_of fun i hi => by rw [List.length_map] at hi; rw [map_getD hi]; exact and1_01 _
theorem inTo_eq {n : NetL} (inp : Int) : ∀ k, 1 + k ≤ nds n → inTo n inp k = ([0] ++ (List.range k).map (bitI inp)) ++ List.replicate (nds n - 1 - k) 0
 | 0, h => by
  show List.replicate (nds n) (0 : Int) = [0] ++ [] ++ List.replicate (nds n - 1 - 0) 0
  rw [show nds n = (nds n - 1 - 0) + 1 by omega]
  rfl
 | k + 1, h => by
  rw [inTo, inTo_eq inp k (by omega), show nds n - 1 - k = (nds n - 1 - (k + 1)) + 1 by omega, show 1 + k = (([0] : List Int) ++ (List.range k).map (bitI inp)).length by simp; omega, pad_set, List.range_succ, List.map_append]
  simp
theorem stTo_eq {n : NetL} (h : NetOkP n) {st : List Int} (hs : st.length = n.seqs.length) (inp : Int) : ∀ k, k ≤ st.length → stTo n st inp k = (([0] ++ (List.range n.inputs.toNat).map (bitI inp)) ++ (st.take k).map (fun z => bits .and .i64 z 1)) ++ List.replicate (nds n - 1 - n.inputs.toNat - k) 0
 | 0, _ => by
  have h1 := h.fsq
  have h2 := h.nums.n1
  unfold fsq at h1
  rw [stTo, inTo_eq inp _ (by omega)]
  simp
 | k + 1, hk => by
  have h1 := h.fsq
  have h2 := h.nums.n1
  unfold fsq at h1
  have e : 1 + n.inputs.toNat + k = (([0] ++ (List.range n.inputs.toNat).map (bitI inp)) ++ (st.take k).map (fun z => bits .and .i64 z 1)).length := by simp; omega
  rw [stTo, stTo_eq h hs inp k (by omega), show nds n - 1 - n.inputs.toNat - k = (nds n - 1 - n.inputs.toNat - (k + 1)) + 1 by omega, e, pad_set, take_snoc (show k < st.length by omega), List.map_append]
  simp
theorem vTo_eq {n : NetL} (h : NetOkP n) {st : List Int} (hs : st.length = n.seqs.length) (inp : Int) : ∀ i, i ≤ n.ands.length → vTo n st inp i = valA (leafV n st inp) (n.ands.take i) ++ List.replicate (n.ands.length - i) 0
 | 0, _ => by
  have h1 := h.fsq
  have h2 := h.nums.n1
  unfold fsq at h1
  rw [vTo, stTo_eq h hs inp _ (Nat.le_refl _), List.take_length]
  show leafV n st inp ++ _ = leafV n st inp ++ _
  congr 2
  omega
 | i + 1, hi => by
  have hl := leafV_len h hs inp
  have e : fst_ n + i = (valA (leafV n st inp) (n.ands.take i)).length := by rw [valA_len, hl]; simp; omega
  rw [vTo, vTo_eq h hs inp i (by omega), litV_pad, litV_pad, show n.ands.length - i = (n.ands.length - (i + 1)) + 1 by omega, e, pad_set, take_snoc (show i < n.ands.length by omega), valA_snoc]
theorem valsL_eq {n : NetL} (h : NetOkP n) {st : List Int} (hs : st.length = n.seqs.length) (inp : Int) : valsL n st inp = valA (leafV n st inp) n.ands := by
 rw [valsL, vTo_eq h hs inp _ (Nat.le_refl _), List.take_length, Nat.sub_self]
 simp
theorem run_sim {n m : NetL} {ins : List Int} (R : List Int → List Int → Prop) (h0 : R (startL n) (startL m)) (hR : ∀ st st' inp, R st st' → outL m st' inp = outL n st inp ∧ R (nextL n st inp) (nextL m st' inp)) : runL m ins = runL n ins := by
 have hst : ∀ k, R (stAt n ins k) (stAt m ins k) := fun k => by
  induction k with
  | zero => exact h0
  | succ k ih => exact (hR _ _ _ ih).2
 have : ∀ k, runTo m ins k = runTo n ins k := fun k => by
  induction k with
  | zero => rfl
  | succ k ih => rw [runTo, runTo, ih, (hR _ _ _ (hst k)).1]
 exact this _
theorem fin_sim {n : NetL} {A : List (Int × Int)} {to : List Int} {st : List Int} {inp : Int} (hv : ∀ x, x ∈ rootsL n → litV (valsL (finN n A to) st inp) (litV to x) = litV (valsL n st inp) x) :
  outL (finN n A to) st inp = outL n st inp ∧ nextL (finN n A to) st inp = nextL n st inp := by
 rw [rootsL_eq] at hv
 refine ⟨packL_comp fun l hl => hv l (List.mem_append_left _ hl), ?_⟩
 have hl : (finN n A to).seqs.length = n.seqs.length := by simp [finN]
 unfold nextL
 rw [hl]
 refine list_eq (by rw [nextTo_len, nextTo_len]) fun i hi => ?_
 rw [nextTo_len] at hi
 rw [nextTo_get _ _ _ hi, nextTo_get _ _ _ hi]
 unfold nextAt
 rw [show (finN n A to).seqs.getD i default = _ from map_getD (f := fun s : SeqL => (⟨s.kind, s.init, mapL to s.ins⟩ : SeqL)) hi]
 rw [show packL (valsL (finN n A to) st inp) (mapL to (n.seqs.getD i default).ins) = packL (valsL n st inp) (n.seqs.getD i default).ins from packL_comp fun l hl => hv l (List.mem_append_right _ (List.mem_flatMap.2 ⟨_, getD_mem hi, hl⟩))]
theorem start_fin {n : NetL} {A : List (Int × Int)} {to : List Int} : startL (finN n A to) = startL n := by
 unfold startL finN
 rw [List.map_map]
 rfl
theorem fin_run {n : NetL} (h : NetOkP n) {A : List (Int × Int)} {to : List Int} {ins : List Int} (hv : ∀ st inp, st.length = n.seqs.length → ∀ x, x ∈ rootsL n → litV (valsL (finN n A to) st inp) (litV to x) = litV (valsL n st inp) x) :
  runL (finN n A to) ins = runL n ins := by
 refine run_sim (fun st st' => st' = st ∧ st.length = n.seqs.length) ⟨start_fin, (start_stP h).1⟩ ?_
 rintro st st' inp ⟨rfl, hl⟩
 have := fin_sim (hv st' inp hl)
 exact ⟨this.1, this.2, nextTo_len _ _ _ _⟩
theorem fin_vals {n : NetL} {A : List (Int × Int)} {to : List Int} (h : NetOkP (finN n A to)) {st : List Int} (hs : st.length = n.seqs.length) (inp : Int) : valsL (finN n A to) st inp = valA (leafV n st inp) A := by
 rw [valsL_eq h (by simp [finN]; exact hs)]
 rfl
theorem raTo_sim {f : Int} {n : NetL} {skip inst : Int} {S : List (Int × Int) × List Int} (hok : NetOkP n) {U U' : List Int} (hU : U.length = fst_ n) (hU1 : All01 U) (hU' : U'.length = f.toNat) (hU1' : All01 U') (hz : U'.getD 0 default = 0)
  (h0 : RaOk f n S 0) (hinst : litP inst f) (hs : ∀ k, k < fst_ n → litV (valA U' S.1) (S.2.getD k default) = U.getD k default)
  (hskip : ∀ i : Nat, i < n.ands.length → (i : Int) = skip → litV U' inst = (valA U n.ands).getD (fst_ n + i) default) :
  ∀ i, i ≤ n.ands.length → ∀ T, raTo f n skip inst S i = some T → ∀ k, k < fst_ n + i → litV (valA U' T.1) (T.2.getD k default) = (valA U n.ands).getD k default
 | 0, _, T, hT => by
  simp only [raTo, Option.some.injEq] at hT
  subst hT
  exact fun k hk => by rw [hs k (by omega), valA_low (by omega)]
 | i + 1, hi, T, hT => by
  cases hp : raTo f n skip inst S i with
  | none => simp only [raTo, hp] at hT; cases hT
  | some P =>
   have ih := raTo_sim hok hU hU1 hU' hU1' hz h0 hinst hs hskip i (by omega) P hp
   have r := raTo_ok hok h0 hinst i (by omega) P hp
   have rl := r.len
   obtain ⟨l1, l2⟩ := r.lits hok (show i < n.ands.length by omega)
   have f1 := r.b.f1
   have f2 := r.b.alen
   have g2 := hok.nums.f2
   have hinst' := hinst
   unfold litP at hinst'
   by_cases hsk : (i : Int) = skip
   ·rw [raTo_skip hp hsk] at hT
    injection hT with hT
    subst hT
    refine fun k hk => ?_
    by_cases hk2 : k < P.2.length
    ·dsimp only
     rw [snoc_lt hk2]; exact ih k (by omega)
    ·obtain rfl : k = P.2.length := by omega
     dsimp only
     rw [snoc_eq]
     have e : litV (valA U' ([] ++ P.1)) inst = litV (valA U' []) inst := valA_litlow (by simp; omega)
     rw [List.nil_append] at e
     rw [e, rl]
     exact hskip i (by omega) hsk
   ·by_cases hn : (addC f P.1 (litV P.2 (n.ands.getD i default).1) (litV P.2 (n.ands.getD i default).2)).2 < 0
    ·rw [raTo_no hp hsk hn] at hT; cases hT
    ·rw [raTo_yes hp hsk hn] at hT
     injection hT with hT
     subst hT
     obtain ⟨B2, hB2⟩ := addC_pre (f := f) (A := P.1) (a := litV P.2 (n.ands.getD i default).1) (b := litV P.2 (n.ands.getD i default).2)
     refine fun k hk => ?_
     by_cases hk2 : k < P.2.length
     ·dsimp only
      have ht := r.b.tok k hk2
      unfold litP at ht
      rw [snoc_lt hk2, hB2, valA_litlow (U := U') (A := P.1) (B := B2) (l := P.2.getD k default) (by omega)]
      exact ih k (by omega)
     ·obtain rfl : k = P.2.length := by omega
      dsimp only
      obtain ⟨q1, q2⟩ := hok.andP (show i < n.ands.length by omega)
      have q1' := q1
      have q2' := q2
      unfold litP at q1' q2'
      have c1 := litV_comp (V := valA U n.ands) (V' := valA U' P.1) (to := P.2) (l := (n.ands.getD i default).1) (valA_01 _ hU1) (valA_01 _ hU1') (k := f + P.1.length) (by omega) (r.b.tok _ (by omega)) (ih _ (by omega))
      have c2 := litV_comp (V := valA U n.ands) (V' := valA U' P.1) (to := P.2) (l := (n.ands.getD i default).2) (valA_01 _ hU1) (valA_01 _ hU1') (k := f + P.1.length) (by omega) (r.b.tok _ (by omega)) (ih _ (by omega))
      have hat := valA_at (U := U) (A := n.ands) (f := firstAndL n) (by omega) (by omega) (i := i) (by omega) ⟨q1, q2⟩
      rw [snoc_eq, addC_val hU' hU1' hz r.b l1 l2 (by omega), c1, c2, rl, ← hat]
      congr 1
theorem ha_ra {n : NetL} (h : NetOkP n) : ∀ i, i ≤ n.ands.length → raTo (firstAndL n) n (-1) 0 ([], leafL n) i = some (haTo n i)
 | 0, _ => rfl
 | i + 1, hi => by
  have ih := ha_ra h i (by omega)
  have hB := haTo_ok h i (by omega)
  have hl := haTo_len n i
  have hs := h.size
  unfold sizeOk at hs
  obtain ⟨l1, l2⟩ := haTo_lits h (by omega) hB
  rw [raTo_yes ih (by omega) (by rcases hB.addLit l1 l2 with h1 | ⟨_, h1⟩; (have := h1.1; omega); omega)]
  rfl
theorem ra_leaf {n : NetL} (h : NetOkP n) : RaOk (firstAndL n) n ([], leafL n) 0 := ⟨Bld.leaf h, by simp [leafL_len]⟩
theorem leafL_val {n : NetL} {U : List Int} (hU1 : All01 U) {k : Nat} (hk : k < fst_ n) : litV U ((leafL n).getD k default) = U.getD k default := by
 rw [leafL_get hk, litV_if hU1, if_pos (by omega), show (2 * (k : Int) / 2).toNat = k by omega]
theorem ha_sim {n : NetL} (h : NetOkP n) {U : List Int} (hU : U.length = fst_ n) (hU1 : All01 U) (hz : U.getD 0 default = 0) {i : Nat} (hi : i ≤ n.ands.length) : ∀ k, k < fst_ n + i → litV (valA U (haTo n i).1) ((haTo n i).2.getD k default) = (valA U n.ands).getD k default := by
 have hf := h.nums.f2
 have hc := h.count
 exact raTo_sim h hU hU1 (by omega) hU1 hz (ra_leaf h) (by unfold litP; omega) (fun k hk => leafL_val hU1 hk) (fun i _ h => by omega) i hi _ (ha_ra h i hi)
theorem roots_sim {n : NetL} (h : NetOkP n) {V V' to : List Int} (h1 : All01 V) (h2 : All01 V') {k : Int} (hk : k ≤ 1000000) (hv : ∀ i, i < nds n → litP (to.getD i default) k ∧ litV V' (to.getD i default) = V.getD i default) :
  ∀ x, x ∈ rootsL n → litV V' (litV to x) = litV V x := fun x hx => by
 have := (h.root x hx).nat h.nums
 exact litV_comp h1 h2 hk (hv _ this).1 (hv _ this).2
theorem preL_run {n : NetL} (h : NetOkP n) (ins : List Int) : runL (preL n) ins = runL n ins := by
 refine fin_run h fun st inp hs => ?_
 have hB := haTo_ok h _ (Nat.le_refl _)
 have hl := haTo_len n n.ands.length
 have hn := h.nums.n1
 have f1 := hB.f1
 have f2 := hB.alen
 refine roots_sim h (valsL_01 _ _ _) (valsL_01 _ _ _) (k := firstAndL n + (haTo n n.ands.length).1.length) (by omega) fun i hi => ⟨hB.tok i (by omega), ?_⟩
 rw [fin_vals (preL_ok h) hs, valsL_eq h hs]
 exact ha_sim h (leafV_len h hs inp) (leafV_01 _ _ _) (leafV_0 _ _ _) (Nat.le_refl _) i (by omega)
theorem sw_sim {n : NetL} (h : NetOkP n) {K : List Bool} (hK : ∀ i, i < n.ands.length → K.getD (fst_ n + i) default = true → (kA n i < fst_ n ∨ K.getD (kA n i) default = true) ∧ (kB n i < fst_ n ∨ K.getD (kB n i) default = true)) {U : List Int} (hU : U.length = fst_ n) (hU1 : All01 U) :
  ∀ i, i ≤ n.ands.length → ∀ k, k < fst_ n + i → (k < fst_ n ∨ K.getD k default = true) → litV (valA U (swTo n K i).1) ((swTo n K i).2.getD k default) = (valA U n.ands).getD k default
 | 0, _, k, hk, _ => by
  show litV U ((leafL n).getD k default) = _
  rw [leafL_val hU1 (by omega), valA_low (by omega)]
 | i + 1, hi, k, hk, hkk => by
  have ih := sw_sim h hK hU hU1 i (by omega)
  have hB := swTo_ok h K i (by omega)
  have hl := swTo_len n K i
  have f1 := hB.f1
  have f2 := hB.alen
  have g2 := h.nums.f2
  by_cases hKi : K.getD (fst_ n + i) default = true
  ·have e : swTo n K (i + 1) = ((swTo n K i).1 ++ [(litV (swTo n K i).2 (n.ands.getD i default).1, litV (swTo n K i).2 (n.ands.getD i default).2)], (swTo n K i).2 ++ [2 * (firstAndL n + (swTo n K i).1.length)]) := by rw [swTo, if_pos hKi]
   rw [e]
   by_cases hk2 : k < (swTo n K i).2.length
   ·dsimp only
    have ht := hB.tok k hk2
    unfold litP at ht
    rw [snoc_lt hk2, valA_litlow (U := U) (A := (swTo n K i).1) (l := (swTo n K i).2.getD k default) (by omega)]
    exact ih k (by omega) hkk
   ·obtain rfl : k = (swTo n K i).2.length := by omega
    dsimp only
    obtain ⟨q1, q2⟩ := h.andP (show i < n.ands.length by omega)
    have q1' := q1
    have q2' := q2
    unfold litP at q1' q2'
    obtain ⟨k1, k2⟩ := hK i (by omega) hKi
    have c1 := litV_comp (V := valA U n.ands) (V' := valA U (swTo n K i).1) (to := (swTo n K i).2) (l := (n.ands.getD i default).1) (valA_01 _ hU1) (valA_01 _ hU1) (k := firstAndL n + (swTo n K i).1.length) (by omega) (hB.tok _ (by omega)) (ih _ (by omega) k1)
    have c2 := litV_comp (V := valA U n.ands) (V' := valA U (swTo n K i).1) (to := (swTo n K i).2) (l := (n.ands.getD i default).2) (valA_01 _ hU1) (valA_01 _ hU1) (k := firstAndL n + (swTo n K i).1.length) (by omega) (hB.tok _ (by omega)) (ih _ (by omega) k2)
    have hat := valA_at (U := U) (A := n.ands) (f := firstAndL n) (by omega) (by omega) (i := i) (by omega) ⟨q1, q2⟩
    rw [snoc_eq, litV_if (valA_01 _ hU1), if_pos (by omega), valA_snoc, show (2 * (firstAndL n + ((swTo n K i).1.length : Int)) / 2).toNat = (valA U (swTo n K i).1).length by rw [valA_len]; omega, snoc_eq]
    show bits .and .i64 (litV (valA U (swTo n K i).1) (litV (swTo n K i).2 (n.ands.getD i default).1)) (litV (valA U (swTo n K i).1) (litV (swTo n K i).2 (n.ands.getD i default).2)) = _
    rw [c1, c2, ← hat, hl.2]
    congr 1
  ·have e : swTo n K (i + 1) = ((swTo n K i).1, (swTo n K i).2 ++ [0]) := by rw [swTo, if_neg hKi]
   rw [e]
   by_cases hk2 : k < (swTo n K i).2.length
   ·dsimp only
    rw [snoc_lt hk2]
    exact ih k (by omega) hkk
   ·obtain rfl : k = fst_ n + i := by omega
    exact absurd hkk (fun h => h.elim (by omega) hKi)
end Go.Xw
end
