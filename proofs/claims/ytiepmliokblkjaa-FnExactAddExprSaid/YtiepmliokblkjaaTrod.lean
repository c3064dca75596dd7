/- From the form's reading of an argument to the facts that the contracts take: slices, structs, nets; each under its stated conditions. -/
import Derived.Test.YtiepmliokblkjaaProg
import Derived.Test.YtiepmliokblkjaaNetR
import Derived.KernelRfl
import Derived.ProofKit
import Derived.Deep.Slices
import Derived.Deep.Fields
import Derived.ChangeSame
import Derived.ChangeArms
import Derived.ChangeShapes
set_option linter.all false
namespace Go.Proofs
open Go.Xw Go.Deep Go.ChangeShapes Go.WideShapes
set_option maxRecDepth 100000
theorem dec_int {H : Type} {enc : TypeId × Value → H} {P : Program} {w : World} {base : Nat} {spare : Nat → Bool} {held : Bool} {t : TypeId} {fuel : Nat} {cs : List Value} {y : DataW H × List MemPlace}
  (ht : P.underlying t = some (.int .i64)) (h : DataW.trod enc P w base spare held fuel t cs = some y) : ∃ x : Int, cs = eI x ∧ i64R x := by
 obtain ⟨n, h1, _, h2⟩ := DataW.trod_int ht h
 refine ⟨n, h1, ?_⟩
 have e1 : IntKind.i64.min = -9223372036854775808 := rfl
 have e2 : IntKind.i64.max = 9223372036854775807 := rfl
 simp only [Lit.wf, Bool.and_eq_true, decide_eq_true_eq] at h2
 unfold i64R
 omega
theorem dec_slice {H : Type} {enc : TypeId × Value → H} {P : Program} {w : World} {base : Nat} {spare : Nat → Bool} {held : Bool} {t e : TypeId} {fuel s : Nat} {cs : List Value} {y : DataW H × List MemPlace} {α : Type} [Inhabited α] {en : α → List Value} {Q : α → Prop}
  (ht : P.underlying t = some (.slice e)) (hs : P.cellsOf e = s) (he : EncOk en s) (hd : ∀ (n : Nat) (cs : List Value) (z : DataW H × List MemPlace), DataW.trod enc P w base spare held n e cs = some z → ∃ x, cs = en x ∧ Q x)
  (h : DataW.trod enc P w base spare held fuel t cs = some y) : ∃ (a : Option Addr) (X : List α) (c : Nat), cs = [.slice a X.length c] ∧ Sl w a X.length s (fL en X) ∧ X.length ≤ c ∧ X.length ≤ maxLen ∧ ∀ i, i < X.length → Q (X.getD i default) := by
 rcases open_slice ht h with ⟨h1, _⟩ | ⟨a, len, cap, m, n, D, Pl, hcs, hb, hl, hm, hmm, hx, hi⟩
 ·exact ⟨none, [], 0, h1, Sl.nil _ _ _ _, by simp, by simp, fun i hi => absurd hi (by simp)⟩
 ·have hlm : len ≤ m := by
   rw [hmm]
   by_cases h2 : spare a.block = true
   ·rw [if_pos h2]; exact hl
   ·rw [if_neg h2]; exact Nat.le_refl _
  rw [hs] at hi
  have key : ∀ i, ∃ x : α, i < m → (∀ j, j < s → w.cell? ((a.add (i * s)).add j) = (en x)[j]?) ∧ Q x := fun i => by
   by_cases him : i < m
   ·obtain ⟨cs', hc, ht'⟩ := hi i him
    obtain ⟨_, hcl, hat⟩ := World.cells?_some hc
    obtain ⟨x, hx, hq⟩ := hd _ _ _ ht'
    exact ⟨x, fun _ => ⟨fun j hj => by rw [hat j hj, hx], hq⟩⟩
   ·exact ⟨default, fun h => absurd h him⟩
  have hget : ∀ i, i < len → ((List.range len).map fun i => Classical.choose (key i)).getD i default = Classical.choose (key i) := fun i hi => by
   simp [List.getD_eq_getElem?_getD, hi]
  have hlen : ((List.range len).map fun i => Classical.choose (key i)).length = len := by simp
  refine ⟨some a, (List.range len).map fun i => Classical.choose (key i), cap, by rw [hlen]; exact hcs, ?_, by rw [hlen]; omega, by rw [hlen]; omega, fun i hi => ?_⟩
  ·rw [hlen]
   refine ⟨fun _ => by simp, fun i j hi hj => ?_⟩
   have h3 := (Classical.choose_spec (key i) (by omega)).1 j hj
   simp only [elemAddr, Option.getD_some, Int.toNat_natCast]
   rw [h3]
   have h4 : j < (en (Classical.choose (key i))).length := by rw [he.len]; exact hj
   simp only [fL, nthL_eq]
   rw [hget i hi, List.getElem?_eq_getElem h4]
  ·rw [hlen] at hi
   rw [hget i hi]
   exact (Classical.choose_spec (key i) (by omega)).2
theorem dec_fields {H : Type} {enc : TypeId × Value → H} {P : Program} {w : World} {base : Nat} {spare : Nat → Bool} {held : Bool} {t : TypeId} {fuel : Nat} {cs : List Value} {y : DataW H × List MemPlace} {fs : Array Field}
  (ht : P.underlying t = some (.struct fs)) (hone : oneCellFields P fs = true) (hC : P.cellsOf t = fs.size) (h : DataW.trod enc P w base spare held fuel t cs = some y) :
  cs.length = fs.size ∧ ∀ (i : Nat) (f : Field), fs[i]? = some f → ∃ (n : Nat) (v : Value) (z : DataW H × List MemPlace), cs[i]? = some v ∧ DataW.trod enc P w base spare held n f.type [v] = some z := by
 obtain ⟨ys, n', _, _, hlen, hyl, hf⟩ := DataW.trod_struct ht h
 rw [hC] at hlen
 refine ⟨hlen, fun i f hi => ?_⟩
 obtain ⟨ho, hk⟩ := hone_of hone i f hi
 have hil : i < fs.size := (Array.getElem?_eq_some_iff.1 hi).1
 have h1 := hf i f hi
 rw [ho, hk] at h1
 have hone' : (cs.drop i).take 1 = [cs[i]'(by omega)] := by
  rw [List.drop_eq_getElem_cons (by omega)]
  rfl
 rw [hone'] at h1
 have hys : ys[i]? = some (ys[i]'(by omega)) := List.getElem?_eq_getElem (by omega)
 exact ⟨n', _, _, List.getElem?_eq_getElem (by omega), h1.trans hys⟩
theorem dec_ints {H : Type} {enc : TypeId × Value → H} {w : World} {base : Nat} {spare : Nat → Bool} {held : Bool} {fuel : Nat} {cs : List Value} {y : DataW H × List MemPlace}
  (h : DataW.trod enc Try.prog w base spare held fuel 24 cs = some y) : ∃ (a : Option Addr) (X : List Int) (c : Nat), cs = [.slice a X.length c] ∧ Sl w a X.length 1 (fL eI X) ∧ X.length ≤ maxLen ∧ ∀ i, i < X.length → i64R (X.getD i default) := by
 obtain ⟨a, X, c, h1, h2, _, h3, h4⟩ := dec_slice Try.underlying24 (by kernel_rfl) eI_ok (fun _ _ _ hz => dec_int Try.underlying3 hz) h
 exact ⟨a, X, c, h1, h2, h3, h4⟩
theorem dec_and {H : Type} {enc : TypeId × Value → H} {w : World} {base : Nat} {spare : Nat → Bool} {held : Bool} {fuel : Nat} {cs : List Value} {y : DataW H × List MemPlace}
  (h : DataW.trod enc Try.prog w base spare held fuel 96 cs = some y) : ∃ p : Int × Int, cs = eII p ∧ i64R p.1 ∧ i64R p.2 := by
 obtain ⟨h1, h2⟩ := dec_fields Try.underlying96 (by kernel_rfl) (by kernel_rfl) h
 obtain ⟨n0, v0, z0, c0, t0⟩ := h2 0 _ rfl
 obtain ⟨n1, v1, z1, c1, t1⟩ := h2 1 _ rfl
 obtain ⟨x0, e0, r0⟩ := dec_int Try.underlying3 t0
 obtain ⟨x1, e1, r1⟩ := dec_int Try.underlying3 t1
 injection e0 with e0 _
 injection e1 with e1 _
 subst e0; subst e1
 refine ⟨(x0, x1), ?_, r0, r1⟩
 match cs, h1 with
 | [a, b], _ => simp at c0 c1; rw [c0, c1]; rfl
theorem dec_seq {H : Type} {enc : TypeId × Value → H} {w : World} {base : Nat} {spare : Nat → Bool} {held : Bool} {fuel : Nat} {cs : List Value} {y : DataW H × List MemPlace}
  (h : DataW.trod enc Try.prog w base spare held fuel 82 cs = some y) : ∃ s : SeqA, cs = eSq s ∧ Sl w s.ia s.ins.length 1 (fL eI s.ins) ∧ s.ins.length ≤ maxLen ∧ ∀ i, i < s.ins.length → i64R (s.ins.getD i default) := by
 obtain ⟨h1, h2⟩ := dec_fields Try.underlying82 (by kernel_rfl) (by kernel_rfl) h
 obtain ⟨n0, v0, z0, c0, t0⟩ := h2 0 _ rfl
 obtain ⟨n1, v1, z1, c1, t1⟩ := h2 1 _ rfl
 obtain ⟨n2, v2, z2, c2, t2⟩ := h2 2 _ rfl
 obtain ⟨x0, e0, r0⟩ := dec_int Try.underlying3 t0
 obtain ⟨x1, e1, r1⟩ := dec_int Try.underlying3 t1
 obtain ⟨a, X, c, e2, hs, hm, hr⟩ := dec_ints t2
 injection e0 with e0 _
 injection e1 with e1 _
 injection e2 with e2 _
 subst e0; subst e1; subst e2
 refine ⟨⟨x0, x1, X, a, c⟩, ?_, hs, hm, hr⟩
 match cs, h1 with
 | [a, b, c], _ => simp at c0 c1 c2; rw [c0, c1, c2]; rfl
theorem dec_net {H : Type} {enc : TypeId × Value → H} {w : World} {base : Nat} {spare : Nat → Bool} {held : Bool} {fuel : Nat} {cs : List Value} {y : DataW H × List MemPlace}
  (h : DataW.trod enc Try.prog w base spare held fuel 26 cs = some y) : ∃ x : NetA, cs = x.cs ∧ NetR w x ∧ NetM x.n ∧ NetW x.n ∧ i64R x.inputs := by
 obtain ⟨h1, h2⟩ := dec_fields Try.underlying26 (by kernel_rfl) (by kernel_rfl) h
 obtain ⟨n0, v0, z0, c0, t0⟩ := h2 0 _ rfl
 obtain ⟨n1, v1, z1, c1, t1⟩ := h2 1 _ rfl
 obtain ⟨n2, v2, z2, c2, t2⟩ := h2 2 _ rfl
 obtain ⟨n3, v3, z3, c3, t3⟩ := h2 3 _ rfl
 obtain ⟨x0, e0, r0⟩ := dec_int Try.underlying3 t0
 obtain ⟨sa, S, sc, e1, hs1, _, hm1, hr1⟩ := dec_slice Try.underlying22 (by kernel_rfl) eSq_ok (fun _ _ _ hz => dec_seq hz) t1
 obtain ⟨aa, Y, ac, e2, hs2, hcap, hm2, hr2⟩ := dec_slice Try.underlying23 (by kernel_rfl) eII_ok (fun _ _ _ hz => dec_and hz) t2
 obtain ⟨oa, Z, oc, e3, hs3, hm3, hr3⟩ := dec_ints t3
 injection e0 with e0 _
 injection e1 with e1 _
 injection e2 with e2 _
 injection e3 with e3 _
 subst e0; subst e1; subst e2; subst e3
 refine ⟨⟨x0, S, sa, sc, Y, aa, ac, Z, oa, oc⟩, ?_, ⟨⟨⟨hs1⟩, fun s hs => ?_⟩, ⟨hs2⟩, ⟨hs3⟩, hcap⟩, ⟨?_, ?_, ?_, ?_⟩, ⟨hr3, ?_, hr2⟩, r0⟩
 ·match cs, h1 with
  | [a, b, c, d], _ => simp at c0 c1 c2 c3; rw [c0, c1, c2, c3]; rfl
 ·obtain ⟨i, hi, rfl⟩ := List.getElem_of_mem hs
  have := (hr1 i hi).1
  rw [List.getD_eq_getElem?_getD, List.getElem?_eq_getElem hi] at this
  exact ⟨this⟩
 ·show ((seqsOf S).length : Int) ≤ _
  rw [seqsOf_len]; unfold maxLen at hm1; omega
 ·intro i hi
  show (((seqsOf S).getD i default).ins.length : Int) ≤ _
  have hi : i < (seqsOf S).length := hi
  rw [seqsOf_len] at hi
  have := (hr1 i hi).2.1
  rw [seqsOf_get]
  show ((S.getD i default).ins.length : Int) ≤ _
  unfold maxLen at this; omega
 ·show (Y.length : Int) ≤ _
  unfold maxLen at hm2; omega
 ·show (Z.length : Int) ≤ _
  unfold maxLen at hm3; omega
 ·intro i hi j hj
  have hi : i < (seqsOf S).length := hi
  have hj : j < ((seqsOf S).getD i default).ins.length := hj
  show i64R (((seqsOf S).getD i default).ins.getD j default)
  rw [seqsOf_len] at hi
  rw [seqsOf_get] at hj ⊢
  exact (hr1 i hi).2.2 j hj
end Go.Proofs
