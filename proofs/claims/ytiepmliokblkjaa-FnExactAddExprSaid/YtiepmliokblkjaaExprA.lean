/- What AddExpr gives, as plain data; no condition but the stated ones. -/
import Derived.Test.YtiepmliokblkjaaExprSim
set_option linter.all false
namespace Go.Xw
open Go.Proofs
set_option maxHeartbeats 1000000
noncomputable def treeOf (ops : List OpL) (m : Int) : ExT := @dite _ (∃ t : ExT, ops = t.ser ∧ t.ok m) (Classical.propDecidable _) (fun h => Classical.choose h) (fun _ => .leaf default)
theorem treeOf_ok {ops : List OpL} {m : Int} (h : OpsOkP ops m) (hp : ∀ o, o ∈ ops → o.kind ≠ 1) : ops = (treeOf ops m).ser ∧ (treeOf ops m).ok m := by
 have h2 := h.tree hp
 unfold treeOf
 rw [dif_pos h2]
 exact Classical.choose_spec h2
structure AxP (n : NetL) (sig : List (List Int)) (ops : List OpL) (w : Int) : Prop where
 net : NetOkP n
 cnt : sig.length ≤ 30
 okp : OpsOkP ops sig.length
 par : ∀ o, o ∈ ops → o.kind ≠ 1
 wid : 1 ≤ w ∧ w ≤ 4
 sg : ∀ l, l ∈ sig → l.length ≤ 4 ∧ ∀ z, z ∈ l → litP z (nodesL n)
def axR (sig : List (List Int)) (w : Int) (t : ExT) (n : NetL) : (NetL × Bool) × List Int := evA adP sig w.toNat t (n, false)
noncomputable def axF (n : NetL) (sig : List (List Int)) (ops : List OpL) (w : Int) : NetL × List Int :=
 @ite _ (AxP n sig ops w ∧ (axR sig w (treeOf ops sig.length) n).1.2 = false) (Classical.propDecidable _) ((axR sig w (treeOf ops sig.length) n).1.1, (axR sig w (treeOf ops sig.length) n).2) (n, [])
theorem axF_yes {n : NetL} {sig : List (List Int)} {ops : List OpL} {w : Int} (h : AxP n sig ops w) (h2 : (axR sig w (treeOf ops sig.length) n).1.2 = false) : axF n sig ops w = ((axR sig w (treeOf ops sig.length) n).1.1, (axR sig w (treeOf ops sig.length) n).2) := by unfold axF; rw [if_pos ⟨h, h2⟩]
theorem axF_bad {n : NetL} {sig : List (List Int)} {ops : List OpL} {w : Int} (h2 : (axR sig w (treeOf ops sig.length) n).1.2 = true) : axF n sig ops w = (n, []) := by unfold axF; rw [if_neg (fun hh => by rw [h2] at hh; exact Bool.noConfusion hh.2)]
theorem axF_no {n : NetL} {sig : List (List Int)} {ops : List OpL} {w : Int} (h : ¬ AxP n sig ops w) : axF n sig ops w = (n, []) := by unfold axF; rw [if_neg (fun hh => h hh.1)]
theorem axR_len (sig : List (List Int)) (w : Int) (t : ExT) (n : NetL) : (axR sig w t n).2.length = w.toNat := evA_len adP sig _ t _
theorem axR_good {n : NetL} {sig : List (List Int)} {ops : List OpL} {w : Int} (h : AxP n sig ops w) (t : ExT) : Gd (fun s => NetOkP s.1) (fun s z => litP z (nodesL s.1)) leP (n, false) (axR sig w t n) := ev_good adP_ok _ t (s := (n, false)) h.net (fun l hl z hz => (h.sg l hl).2 z hz)
theorem lenAx (n : NetL) (sig : List (List Int)) (ops : List OpL) (w : Int) : (axF n sig ops w).2.length ≤ 4 := by
 by_cases h : AxP n sig ops w
 ·cases hb : (axR sig w (treeOf ops sig.length) n).1.2 with
  | false =>
   rw [axF_yes h hb]
   show (axR sig w (treeOf ops sig.length) n).2.length ≤ 4
   rw [axR_len]
   have := h.wid
   omega
  | true => rw [axF_bad hb]; simp
 ·rw [axF_no h]; simp
theorem sAx {n : NetL} (hS : NetS n) (sig : List (List Int)) (ops : List OpL) (w : Int) : NetS (axF n sig ops w).1 := by
 by_cases h : AxP n sig ops w
 ·cases hb : (axR sig w (treeOf ops sig.length) n).1.2 with
  | false =>
   rw [axF_yes h hb]
   exact NetOkP.S' (axR_good h _).i
  | true => rw [axF_bad hb]; exact hS
 ·rw [axF_no h]; exact hS
theorem axR_ref {n : NetL} {sig : List (List Int)} {ops : List OpL} {w : Int} (h : AxP n sig ops w) (t : ExT) :
  ((axR sig w t n).1.2 = false ∧ evA adR sig w.toNat t n = ((axR sig w t n).1.1, (axR sig w t n).2) ∧ ∀ z, z ∈ (axR sig w t n).2 → 0 ≤ z) ∨ ((axR sig w t n).1.2 = true ∧ negL (evA adR sig w.toNat t n).2) := by
 have hw := h.wid
 rcases SimS.ev (sig := sig) (w := w.toNat) (by omega) t h.net (fun l hl z hz => (h.sg l hl).2 z hz) with ⟨m, l, e1, e2, h1, h2⟩ | h3
 ·left
  unfold axR
  rw [e1, e2]
  exact ⟨rfl, rfl, fun z hz => (h2 z hz).1⟩
 ·exact .inr h3
end Go.Xw
