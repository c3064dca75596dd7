/- From the form's reading of an argument to the facts that the contracts take; no condition. -/
import Derived.Test.YtiepmliokblkjaaStep
import Derived.ProofKit
set_option linter.all false
namespace Go.Xw
open Go.RowKit
theorem row_sl {k : IntKind} {enc : Int → List Value} (henc : ∀ x, enc x = [.int k x]) {w : World} {a : Option Addr} {len cap : Nat} {zs : List Int}
  (h : (a = none ∧ len = 0 ∧ cap = 0 ∧ zs = []) ∨ ∃ x, a = some x ∧ len ≤ cap ∧ cap ≤ maxLen ∧ zs.length = cap ∧ (∀ i, i < zs.length → w.cell? (x.add i) = some (.int k (zs.getD i 0))) ∧ ∀ n ∈ zs, (Lit.int k n).wf = true) :
  ∃ xs : List Int, xs.length = len ∧ Sl w a xs.length 1 (fL enc xs) ∧ ∀ x ∈ xs, (Lit.int k x).wf = true := by
 rcases h with ⟨rfl, rfl, _, _⟩ | ⟨x, rfl, hl, _, hz, hc, hw⟩
 ·exact ⟨[], rfl, Sl.nil _ _ _ _, fun x hx => by simp at hx⟩
 ·refine ⟨zs.take len, by simp; omega, ⟨fun _ => by simp, fun i j hi hj => ?_⟩, fun x hx => hw x (List.mem_of_mem_take hx)⟩
  obtain rfl : j = 0 := by omega
  simp only [List.length_take] at hi
  have h1 := hc i (by omega)
  have ha : (elemAddr (some x) 1 (i : Int)).add 0 = x.add i := by
   simp [elemAddr, Addr.add]
  rw [ha, h1]
  simp only [fL, henc, nthL]
  congr 2
  rw [List.getD_eq_getElem?_getD, List.getD_eq_getElem?_getD, List.getElem?_take, if_pos (by omega)]
  rfl
theorem wf_i64 {x : Int} (h : (Lit.int .i64 x).wf = true) : -9223372036854775808 ≤ x ∧ x ≤ 9223372036854775807 := by
 have h1 : IntKind.i64.min = -9223372036854775808 := rfl
 have h2 : IntKind.i64.max = 9223372036854775807 := rfl
 simp only [Lit.wf, Bool.and_eq_true, decide_eq_true_eq] at h
 omega
theorem wf_u8 {x : Int} (h : (Lit.int .u8 x).wf = true) : 0 ≤ x ∧ x ≤ 255 := by
 have h1 : IntKind.u8.min = 0 := rfl
 have h2 : IntKind.u8.max = 255 := rfl
 simp only [Lit.wf, Bool.and_eq_true, decide_eq_true_eq] at h
 omega
theorem law_calls {P : Program} {f : FuncId} {args : List Value} {w : World} (h : Ret P f args w fun v w' => v = .bool true ∧ Ext w w') :
  Calls P f ⟨args⟩ w fun e w' => e = .returned (.bool true) ∧ Below w.heap.size w w' :=
 Calls.mono h fun _ _ ⟨_, he, hv, hx⟩ => ⟨by rw [he, hv], hx⟩
end Go.Xw
