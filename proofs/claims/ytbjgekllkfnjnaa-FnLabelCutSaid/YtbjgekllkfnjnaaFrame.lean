/- Texts that belong together; each under its stated conditions. -/
import Derived.Test.YtbjgekllkfnjnaaProg
import Derived.Test.YtbjgekllkfnjnaaNet
import Derived.KernelRfl
import Derived.ProofKit
import Derived.Deep.Slices
import Derived.Deep.Fields
import Derived.ChangeSame
import Derived.ChangeArms
import Derived.ChangeShapes
import Derived.Test.YtbjgekllkfnjnaaStep
set_option linter.all false
section
namespace Go.Proofs
open Go.Xw Go.Deep Go.ChangeShapes Go.WideShapes
set_option maxRecDepth 100000
theorem dec_u8 {H : Type} {enc : TypeId × Value → H} {P : Program} {w : World} {base : Nat} {spare : Nat → Bool} {held : Bool} {t : TypeId} {fuel : Nat} {cs : List Value} {y : DataW H × List MemPlace}
  (ht : P.underlying t = some (.int .u8)) (h : DataW.trod enc P w base spare held fuel t cs = some y) : ∃ x : Int, cs = eU8 x ∧ 0 ≤ x ∧ x ≤ 255 := by
 obtain ⟨n, h1, _, h2⟩ := DataW.trod_int ht h
 refine ⟨n, h1, ?_⟩
 have e1 : IntKind.u8.min = 0 := rfl
 have e2 : IntKind.u8.max = 255 := rfl
 simp only [Lit.wf, Bool.and_eq_true, decide_eq_true_eq] at h2
 omega
theorem dec_slice {H : Type} {enc : TypeId × Value → H} {P : Program} {w : World} {base : Nat} {spare : Nat → Bool} {held : Bool} {t e : TypeId} {fuel s : Nat} {cs : List Value} {y : DataW H × List MemPlace} {α : Type} [Inhabited α] {en : α → List Value} {Q : α → Prop}
  (ht : P.underlying t = some (.slice e)) (hs : P.cellsOf e = s) (he : EncOk en s) (hd : ∀ (n : Nat) (cs : List Value) (z : DataW H × List MemPlace), DataW.trod enc P w base spare held n e cs = some z → ∃ x, cs = en x ∧ Q x)
  (h : DataW.trod enc P w base spare held fuel t cs = some y) : ∃ (a : Option Addr) (X : List α) (c : Nat), cs = [.slice a X.length c] ∧ Sl w a X.length s (fL en X) ∧ X.length ≤ c ∧ X.length ≤ maxLen ∧ ∀ i, i < X.length → Q (X.getD i default) := by
 rcases open_slice ht h with ⟨h1, _⟩ | ⟨a, len, cap, m, n, D, Pl, hcs, hb, hl, hm, hmm, hx, hi⟩
 ·exact ⟨none, [], 0, h1, Sl.nil _ _ _ _, by simp, by simp, fun i hi => absurd hi (by simp)⟩
 ·have hlm : len ≤ m := by
   rw [hmm]
   by_cases h2 : spare a.block = true
   ·rw [if_pos h2]; exact hl
   ·rw [if_neg h2]; exact Nat.le_refl _
  rw [hs] at hi
  have key : ∀ i, ∃ x : α, i < m → (∀ j, j < s → w.cell? ((a.add (i * s)).add j) = (en x)[j]?) ∧ Q x := fun i => by
   by_cases him : i < m
   ·obtain ⟨cs', hc, ht'⟩ := hi i him
    obtain ⟨_, hcl, hat⟩ := World.cells?_some hc
    obtain ⟨x, hx, hq⟩ := hd _ _ _ ht'
    exact ⟨x, fun _ => ⟨fun j hj => by rw [hat j hj, hx], hq⟩⟩
   ·exact ⟨default, fun h => absurd h him⟩
  have hget : ∀ i, i < len → ((List.range len).map fun i => Classical.choose (key i)).getD i default = Classical.choose (key i) := fun i hi => by
   simp [List.getD_eq_getElem?_getD, hi]
  have hlen : ((List.range len).map fun i => Classical.choose (key i)).length = len := by simp
  refine ⟨some a, (List.range len).map fun i => Classical.choose (key i), cap, by rw [hlen]; exact hcs, ?_, by rw [hlen]; omega, by rw [hlen]; omega, fun i hi => ?_⟩
  ·rw [hlen]
   refine ⟨fun _ => by simp, fun i j hi hj => ?_⟩
   have h3 := (Classical.choose_spec (key i) (by omega)).1 j hj
   simp only [elemAddr, Option.getD_some, Int.toNat_natCast]
   rw [h3]
   have h4 : j < (en (Classical.choose (key i))).length := by rw [he.len]; exact hj
   simp only [fL, nthL_eq]
   rw [hget i hi, List.getElem?_eq_getElem h4]
  ·rw [hlen] at hi
   rw [hget i hi]
   exact (Classical.choose_spec (key i) (by omega)).2
theorem dec_bytes {H : Type} {enc : TypeId × Value → H} {w : World} {base : Nat} {spare : Nat → Bool} {held : Bool} {fuel : Nat} {cs : List Value} {y : DataW H × List MemPlace}
  (h : DataW.trod enc Try.prog w base spare held fuel 22 cs = some y) : ∃ (a : Option Addr) (X : List Int) (c : Nat), cs = [.slice a X.length c] ∧ Sl w a X.length 1 (fL eU8 X) ∧ X.length ≤ maxLen ∧ ∀ i, i < X.length → 0 ≤ X.getD i default ∧ X.getD i default ≤ 255 := by
 obtain ⟨a, X, c, h1, h2, _, h3, h4⟩ := dec_slice Try.underlying22 (by kernel_rfl) eU8_ok (fun _ _ _ hz => dec_u8 Try.underlying5 hz) h
 exact ⟨a, X, c, h1, h2, h3, h4⟩
end Go.Proofs
end
section
namespace Go.Xw
open Go.RowKit
theorem row_sl {k : IntKind} {enc : Int → List Value} (henc : ∀ x, enc x = [.int k x]) {w : World} {a : Option Addr} {len cap : Nat} {zs : List Int}
  (h : (a = none ∧ len = 0 ∧ cap = 0 ∧ zs = []) ∨ ∃ x, a = some x ∧ len ≤ cap ∧ cap ≤ maxLen ∧ zs.length = cap ∧ (∀ i, i < zs.length → w.cell? (x.add i) = some (.int k (zs.getD i 0))) ∧ ∀ n ∈ zs, (Lit.int k n).wf = true) :
  ∃ xs : List Int, xs.length = len ∧ Sl w a xs.length 1 (fL enc xs) ∧ ∀ x ∈ xs, (Lit.int k x).wf = true := by
 rcases h with ⟨rfl, rfl, _, _⟩ | ⟨x, rfl, hl, _, hz, hc, hw⟩
 ·exact ⟨[], rfl, Sl.nil _ _ _ _, fun x hx => by simp at hx⟩
 ·refine ⟨zs.take len, by simp; omega, ⟨fun _ => by simp, fun i j hi hj => ?_⟩, fun x hx => hw x (List.mem_of_mem_take hx)⟩
  obtain rfl : j = 0 := by omega
  simp only [List.length_take] at hi
  have h1 := hc i (by omega)
  have ha : (elemAddr (some x) 1 (i : Int)).add 0 = x.add i := by
   simp [elemAddr, Addr.add]
  rw [ha, h1]
  simp only [fL, henc, nthL]
  congr 2
  rw [List.getD_eq_getElem?_getD, List.getD_eq_getElem?_getD, List.getElem?_take, if_pos (by omega)]
  rfl
theorem wf_i64 {x : Int} (h : (Lit.int .i64 x).wf = true) : -9223372036854775808 ≤ x ∧ x ≤ 9223372036854775807 := by
 have h1 : IntKind.i64.min = -9223372036854775808 := rfl
 have h2 : IntKind.i64.max = 9223372036854775807 := rfl
 simp only [Lit.wf, Bool.and_eq_true, decide_eq_true_eq] at h
 omega
theorem wf_u8 {x : Int} (h : (Lit.int .u8 x).wf = true) : 0 ≤ x ∧ x ≤ 255 := by
 have h1 : IntKind.u8.min = 0 := rfl
 have h2 : IntKind.u8.max = 255 := rfl
 simp only [Lit.wf, Bool.and_eq_true, decide_eq_true_eq] at h
 omega
theorem law_calls {P : Program} {f : FuncId} {args : List Value} {w : World} (h : Ret P f args w fun v w' => v = .bool true ∧ Ext w w') :
  Calls P f ⟨args⟩ w fun e w' => e = .returned (.bool true) ∧ Below w.heap.size w w' :=
 Calls.mono h fun _ _ ⟨_, he, hv, hx⟩ => ⟨by rw [he, hv], hx⟩
end Go.Xw
end
