/- Texts that belong together; each under its stated conditions. -/
import Derived.Test.YtiepmliokblkjaaGreatModR
import Derived.Test.YtiepmliokblkjaaGreatOpsOk
import Derived.Test.YtiepmliokblkjaaGreatFam
import Derived.Laws.BytesString
import Derived.Test.YtiepmliokblkjaaGreatAddLaw
import Derived.Test.YtiepmliokblkjaaGreatBits
set_option linter.all false
section
namespace Go.Xw
open Go.Proofs
def kindL (n : ModL) (s : Int) : Int := (n.sg.getD s.toNat default).kind
def widL (n : ModL) (s : Int) : Int := (n.sg.getD s.toNat default).width
def inL (n : ModL) (s : Int) : Prop := 0 ≤ s ∧ s < n.sg.length
def cntA (R : List AsL) (s : Int) : Nat → Int
 | 0 => 0
 | i + 1 => if (R.getD i default).tg = s then cntA R s i + 1 else cntA R s i
def cntM (R : List MmL) (s : Int) : Nat → Int
 | 0 => 0
 | i + 1 => if (R.getD i default).out = s then cntM R s i + 1 else cntM R s i
def drvL (n : ModL) (s : Int) : Int := cntA n.asg s n.asg.length + cntM n.ms s n.ms.length
theorem cntA_b (R : List AsL) (s : Int) : ∀ i : Nat, 0 ≤ cntA R s i ∧ cntA R s i ≤ i
 | 0 => by simp [cntA]
 | i + 1 => by
  have := cntA_b R s i
  unfold cntA
  split <;> omega
theorem cntM_b (R : List MmL) (s : Int) : ∀ i : Nat, 0 ≤ cntM R s i ∧ cntM R s i ≤ i
 | 0 => by simp [cntM]
 | i + 1 => by
  have := cntM_b R s i
  unfold cntM
  split <;> omega
theorem cntA_mono (R : List AsL) (s : Int) {i : Nat} : ∀ j : Nat, i ≤ j → cntA R s i ≤ cntA R s j
 | 0, h => by obtain rfl : i = 0 := (by omega); exact Int.le_refl _
 | j + 1, h => by
  by_cases hij : i = j + 1
  ·subst hij; exact Int.le_refl _
  ·have := cntA_mono R s (i := i) j (by omega)
   rw [cntA]
   split <;> omega
theorem cntA_uniq {R : List AsL} {s : Int} (h : cntA R s R.length ≤ 1) {i j : Nat} (hij : i < j) (hj : j < R.length) (hi : (R.getD i default).tg = s) (hjs : (R.getD j default).tg = s) : False := by
 have h1 := cntA_mono R s (i := i + 1) j (by omega)
 have h2 := cntA_mono R s (i := j + 1) R.length (by omega)
 have e1 : cntA R s (i + 1) = cntA R s i + 1 := by rw [cntA, if_pos hi]
 have e2 : cntA R s (j + 1) = cntA R s j + 1 := by rw [cntA, if_pos hjs]
 have := (cntA_b R s i).1
 omega
def sgOkP (s : SgL) : Prop := (0 ≤ s.kind ∧ s.kind ≤ 3) ∧ (0 ≤ s.width ∧ s.width ≤ 4) ∧ (s.init = 0 ∨ (s.kind = 3 ∧ 0 ≤ s.init ∧ s.init ≤ 15))
instance (s : SgL) : Decidable (sgOkP s) := by unfold sgOkP; infer_instance
def asOkP (n : ModL) (a : AsL) : Prop := inL n a.tg ∧ (kindL n a.tg = 1 ∨ kindL n a.tg = 2 ∨ kindL n a.tg = 3) ∧ OpsOkP a.ops n.sg.length
def drvsP (n : ModL) (s : Int) : Prop := inL n s ∧ (kindL n s = 1 ∨ kindL n s = 2)
def mmOkP (n : ModL) (x : MmL) : Prop := inL n x.addr ∧ inL n x.data ∧ inL n x.write ∧ drvsP n x.out
structure ModOkP (n : ModL) : Prop where
 l1 : n.sg.length ≤ 30
 l2 : n.asg.length ≤ 30
 l3 : n.ms.length ≤ 2
 sg : ∀ i, i < n.sg.length → sgOkP (n.sg.getD i default)
 asg : ∀ i, i < n.asg.length → asOkP n (n.asg.getD i default)
 ms : ∀ i, i < n.ms.length → mmOkP n (n.ms.getD i default)
 drv : ∀ i : Nat, i < n.sg.length → ((n.sg.getD i default).kind = 1 ∨ (n.sg.getD i default).kind = 2 ∨ (n.sg.getD i default).kind = 3) → drvL n i = 1
def readsP (ops : List OpL) (s : Int) : Prop := ∃ o, o ∈ ops ∧ (o.kind = 2 ∨ o.kind = 3) ∧ o.a = s
def readsB (ops : List OpL) (s : Int) : Bool := ops.any fun o => (decide (o.kind = 2) || decide (o.kind = 3)) && decide (o.a = s)
theorem readsB_iff {ops : List OpL} {s : Int} : readsB ops s = true ↔ readsP ops s := by
 unfold readsB readsP
 rw [List.any_eq_true]
 constructor
 ·rintro ⟨o, h1, h2⟩
  simp only [Bool.and_eq_true, Bool.or_eq_true, decide_eq_true_eq] at h2
  exact ⟨o, h1, h2⟩
 ·rintro ⟨o, h1, h2⟩
  exact ⟨o, h1, by simp only [Bool.and_eq_true, Bool.or_eq_true, decide_eq_true_eq]; exact h2⟩
def opsL (n : ModL) (i : Nat) : List OpL := (n.asg.getD i default).ops
def tgL (n : ModL) (i : Nat) : Int := (n.asg.getD i default).tg
def freeB (n : ModL) (todo : List Nat) (i : Nat) : Bool := todo.all fun j => !readsB (opsL n i) (tgL n j)
def todo0 (n : ModL) : List Nat := (List.range n.asg.length).filter fun i => decide (kindL n (tgL n i) ≠ 3)
def evtL (n : ModL) : Nat → List Nat → List Nat → Option (List Nat)
 | 0, _, out => some out
 | f + 1, todo, out => match todo.findIdx? (freeB n todo) with
  | none => none
  | some k => evtL n f (todo.eraseIdx k) (out ++ [todo.getD k 0])
open Classical in
noncomputable def evtO (n : ModL) : Option (List Nat) := if n.ins = [] ∧ ModOkP n then evtL n (todo0 n).length (todo0 n) [] else none
theorem evtO_yes {n : ModL} (h : n.ins = []) (h2 : ModOkP n) : evtO n = evtL n (todo0 n).length (todo0 n) [] := by unfold evtO; rw [if_pos ⟨h, h2⟩]
theorem evtO_no {n : ModL} (h : ¬ (n.ins = [] ∧ ModOkP n)) : evtO n = none := by unfold evtO; rw [if_neg h]
structure TodoP (n : ModL) (todo out : List Nat) : Prop where
 asc : todo.Pairwise (· < ·)
 tin : ∀ i, i ∈ todo → i < n.asg.length ∧ kindL n (tgL n i) ≠ 3
 oin : ∀ i, i ∈ out → i < n.asg.length ∧ kindL n (tgL n i) ≠ 3
 len : todo.length + out.length = (todo0 n).length
theorem todo0_in (n : ModL) : ∀ i, i ∈ todo0 n → i < n.asg.length ∧ kindL n (tgL n i) ≠ 3 := fun i hi => by
 simp only [todo0, List.mem_filter, List.mem_range, decide_eq_true_eq] at hi
 exact hi
theorem todo0_ok (n : ModL) : TodoP n (todo0 n) [] :=
 ⟨(List.pairwise_lt_range).filter _, todo0_in n, by simp, by simp⟩
theorem todo0_len (n : ModL) : (todo0 n).length ≤ n.asg.length := by
 have := List.length_filter_le (fun i => decide (kindL n (tgL n i) ≠ 3)) (List.range n.asg.length)
 rw [List.length_range] at this
 exact this
theorem TodoP.step {n : ModL} {todo out : List Nat} (h : TodoP n todo out) {k : Nat} (hk : k < todo.length) : TodoP n (todo.eraseIdx k) (out ++ [todo.getD k 0]) := by
 have hm : todo.getD k 0 ∈ todo := by
  rw [List.getD_eq_getElem?_getD, List.getElem?_eq_getElem hk]; exact List.getElem_mem hk
 refine ⟨h.asc.sublist (List.eraseIdx_sublist _ _), fun i hi => h.tin i ((List.eraseIdx_sublist _ _).subset hi), fun i hi => ?_, ?_⟩
 ·rcases List.mem_append.1 hi with hi | hi
  ·exact h.oin i hi
  ·simp only [List.mem_singleton] at hi
   subst hi
   exact h.tin _ hm
 ·rw [List.length_eraseIdx_of_lt hk, List.length_append]
  have := h.len
  simp only [List.length_cons, List.length_nil]
  omega
theorem evtL_in {n : ModL} : ∀ (f : Nat) (todo out l : List Nat), TodoP n todo out → f = todo.length → evtL n f todo out = some l → (∀ i, i ∈ l → i < n.asg.length ∧ kindL n (tgL n i) ≠ 3) ∧ l.length = (todo0 n).length
 | 0, todo, out, l, h, hf, he => by
  simp only [evtL, Option.some.injEq] at he
  subst he
  exact ⟨h.oin, by have := h.len; omega⟩
 | f + 1, todo, out, l, h, hf, he => by
  simp only [evtL] at he
  cases hk : todo.findIdx? (freeB n todo) with
  | none => rw [hk] at he; simp at he
  | some k =>
   rw [hk] at he
   have hkl : k < todo.length := by
    have := List.findIdx?_eq_some_iff_getElem.1 hk
    exact this.1
   exact evtL_in f _ _ l (h.step hkl) (by rw [List.length_eraseIdx_of_lt hkl]; omega) he
theorem evtO_in {n : ModL} {l : List Nat} (h : evtO n = some l) : (n.ins = [] ∧ ModOkP n) ∧ (∀ i, i ∈ l → i < n.asg.length ∧ kindL n (tgL n i) ≠ 3) ∧ l.length ≤ n.asg.length := by
 by_cases hh : n.ins = [] ∧ ModOkP n
 ·rw [evtO_yes hh.1 hh.2] at h
  obtain ⟨h1, h2⟩ := evtL_in _ _ _ l (todo0_ok n) rfl h
  exact ⟨hh, h1, by rw [h2]; exact todo0_len n⟩
 ·rw [evtO_no hh] at h; simp at h
theorem find_some {n : ModL} {todo out : List Nat} (h : TodoP n todo out) {i : Nat} (hi : i ∈ todo) (hf : freeB n todo i = true) (hall : ∀ j, j < i → ¬ (j ∈ todo ∧ freeB n todo j = true)) : ∃ k, k < todo.length ∧ todo.findIdx? (freeB n todo) = some k ∧ todo.getD k 0 = i := by
 obtain ⟨k, hk, rfl⟩ := List.getElem_of_mem hi
 refine ⟨k, hk, List.findIdx?_eq_some_iff_getElem.2 ⟨hk, hf, fun j hj => ?_⟩, by rw [List.getD_eq_getElem?_getD, List.getElem?_eq_getElem hk]; rfl⟩
 have hlt : todo[j] < todo[k] := List.pairwise_iff_getElem.1 h.asc j k (by omega) hk hj
 have := hall _ hlt
 intro hh
 exact this ⟨List.getElem_mem _, hh⟩
theorem find_none {n : ModL} {todo out : List Nat} (h : TodoP n todo out) (hall : ∀ j, j < n.asg.length → ¬ (j ∈ todo ∧ freeB n todo j = true)) : todo.findIdx? (freeB n todo) = none := by
 rw [List.findIdx?_eq_none_iff]
 intro x hx
 have := hall x (h.tin x hx).1
 cases hh : freeB n todo x with
 | false => rfl
 | true => exact absurd ⟨hx, hh⟩ this
def openP (n : ModL) (todo : List Nat) (s : Int) : Prop := ∃ j, j ∈ todo ∧ tgL n j = s
theorem open_iff {n : ModL} (hm : ModOkP n) {todo out : List Nat} (h : TodoP n todo out) {i : Nat} (hi : i < n.asg.length) : openP n todo (tgL n i) ↔ i ∈ todo := by
 constructor
 ·rintro ⟨j, hj, he⟩
  obtain ⟨h1, h2⟩ := h.tin j hj
  have h3 := hm.asg j h1
  have ha : inL n (tgL n j) := h3.1
  have hk : kindL n (tgL n j) = 1 ∨ kindL n (tgL n j) = 2 ∨ kindL n (tgL n j) = 3 := h3.2.1
  unfold inL at ha
  have hd := hm.drv (tgL n j).toNat (by omega) (by unfold kindL at hk; exact hk)
  rw [Int.toNat_of_nonneg ha.1] at hd
  unfold drvL at hd
  have hb := (cntM_b n.ms (tgL n j) n.ms.length).1
  have hle : cntA n.asg (tgL n j) n.asg.length ≤ 1 := by omega
  rcases Nat.lt_trichotomy i j with hij | hij | hij
  ·exact (cntA_uniq hle hij h1 he.symm rfl).elim
  ·subst hij; exact hj
  ·exact (cntA_uniq hle hij hi rfl he.symm).elim
 ·exact fun hj => ⟨i, hj, rfl⟩
def waitsP (n : ModL) (todo : List Nat) (ops : List OpL) : Prop := ∃ o, o ∈ ops ∧ (o.kind = 2 ∨ o.kind = 3) ∧ openP n todo o.a
theorem waits_iff {n : ModL} {todo : List Nat} {i : Nat} : freeB n todo i = true ↔ ¬ waitsP n todo (opsL n i) := by
 unfold freeB waitsP openP
 rw [List.all_eq_true]
 constructor
 ·rintro h ⟨o, h1, h2, j, h3, h4⟩
  have := h j h3
  simp only [Bool.not_eq_true'] at this
  rw [(readsB_iff (s := tgL n j)).2 ⟨o, h1, h2, h4.symm⟩] at this
  exact Bool.noConfusion this
 ·intro h j hj
  simp only [Bool.not_eq_true']
  cases hr : readsB (opsL n i) (tgL n j) with
  | false => rfl
  | true =>
   obtain ⟨o, h1, h2, h3⟩ := readsB_iff.1 hr
   exact absurd ⟨o, h1, h2, j, hj, h3.symm⟩ h
def pwT (l : List SgL) (k : Int) : List Int := (l.filter fun s => decide (s.kind = k)).map SgL.width
def pwL (n : ModL) (k : Int) : List Int := pwT n.sg k
theorem pwT_yes {l : List SgL} {k : Int} {s : SgL} (h : s.kind = k) : pwT (l ++ [s]) k = pwT l k ++ [s.width] := by
 unfold pwT
 rw [List.filter_append, List.map_append, List.filter_cons_of_pos (by simp [h])]; rfl
theorem pwT_no {l : List SgL} {k : Int} {s : SgL} (h : s.kind ≠ k) : pwT (l ++ [s]) k = pwT l k := by
 unfold pwT
 rw [List.filter_append, List.map_append, List.filter_cons_of_neg (by simp [h])]; simp
theorem pwT_len (l : List SgL) (k : Int) : (pwT l k).length ≤ l.length := by
 unfold pwT
 rw [List.length_map]
 exact List.length_filter_le _ _
theorem pwT_mem {l : List SgL} {k : Int} {z : Int} (h : z ∈ pwT l k) : ∃ s, s ∈ l ∧ s.kind = k ∧ s.width = z := by
 unfold pwT at h
 obtain ⟨s, h1, h2⟩ := List.mem_map.1 h
 rw [List.mem_filter] at h1
 exact ⟨s, h1.1, of_decide_eq_true h1.2, h2⟩
def sumL (l : List Int) : Int := l.foldl (· + ·) 0
theorem sumL_snoc (l : List Int) (z : Int) : sumL (l ++ [z]) = sumL l + z := by unfold sumL; rw [List.foldl_append]; rfl
def sumM (n : ModL) : Nat → Int
 | 0 => 0
 | i + 1 => sumM n i + widL n (n.ms.getD i default).out
structure FlatP (n : ModL) : Prop where
 ev : (evtO n).isSome = true
 wid : ∀ i, i < n.sg.length → (n.sg.getD i default).width ≠ 0
 par : ∀ i, i < n.asg.length → ¬ ∃ o, o ∈ (n.asg.getD i default).ops ∧ o.kind = 1
 ms : ∀ i, i < n.ms.length → widL n (n.ms.getD i default).addr = 2 ∧ widL n (n.ms.getD i default).write = 1 ∧ widL n (n.ms.getD i default).data = widL n (n.ms.getD i default).out
 s0 : sumL (pwL n 0) ≤ 8
 s1 : sumL (pwL n 1) ≤ 8
 s3 : sumL (pwL n 3) + sumM n n.ms.length ≤ 12
noncomputable def flatB (n : ModL) : Bool := pB (FlatP n)
noncomputable def evR (n : ModL) : List Nat × Bool := match evtO n with
 | some l => (l, true)
 | none => ([], false)
theorem evR_some {n : ModL} {l : List Nat} (h : evtO n = some l) : evR n = (l, true) := by unfold evR; rw [h]
theorem evR_none {n : ModL} (h : evtO n = none) : evR n = ([], false) := by unfold evR; rw [h]
def natsI (l : List Nat) : List Int := l.map fun (i : Nat) => (i : Int)
theorem natsI_len (l : List Nat) : (natsI l).length = l.length := by simp [natsI]
theorem natsI_get (l : List Nat) (i : Nat) : (natsI l).getD i default = ((l.getD i 0 : Nat) : Int) := by
 simp only [natsI, List.getD_eq_getElem?_getD, List.getElem?_map]
 cases l[i]? <;> rfl
end Go.Xw
end
section
namespace Go.Xw
open Go.RowKit
theorem set_getE {α : Type} [Inhabited α] {X : List α} {i j : Nat} {y : α} (hi : i < X.length) : (X.set i y).getD j default = if j = i then y else X.getD j default := by
 simp only [List.getD_eq_getElem?_getD, List.getElem?_set]
 by_cases h : i = j
 ·subst h; simp [hi]
 ·rw [if_neg h, if_neg (fun e => h e.symm)]
theorem take_snocC {α : Type} [Inhabited α] {xs : List α} {i : Nat} (h : i < xs.length) : xs.take (i + 1) = xs.take i ++ [xs.getD i default] := by
 rw [List.take_succ_eq_append_getElem h]
 simp [List.getD_eq_getElem?_getD, h]
theorem getD_memR {α : Type} [Inhabited α] {X : List α} {i : Nat} (h : i < X.length) : X.getD i default ∈ X := by
 rw [List.getD_eq_getElem?_getD, List.getElem?_eq_getElem h]; exact List.getElem_mem h
structure RowA (α : Type) where
 ins : List α
 ia : Option Addr
 ic : Nat
instance {α : Type} : Inhabited (RowA α) := ⟨⟨[], none, 0⟩⟩
def eRo {α : Type} (r : RowA α) : List Value := [.slice r.ia r.ins.length r.ic]
instance eRo_ok {α : Type} : EncOk (eRo (α := α)) 1 := ⟨fun _ => rfl, fun x u hu => by simp [eRo] at hu; subst hu; rfl⟩
def insOf {α : Type} (R : List (RowA α)) : List (List α) := R.map RowA.ins
theorem insOf_len {α : Type} (R : List (RowA α)) : (insOf R).length = R.length := by simp [insOf]
theorem insOf_get {α : Type} (R : List (RowA α)) (i : Nat) : (insOf R).getD i default = (R.getD i default).ins := by
 simp only [insOf, List.getD_eq_getElem?_getD, List.getElem?_map]
 cases R[i]? <;> rfl
def rRows {α : Type} (e : TypeId) (s : Nat) (enc : α → List Value) (R : List (RowA α)) : Res := rAll (R.map fun r => rO e s enc r.ia r.ic r.ins)
section
variable {α : Type} {e : TypeId} {s : Nat} {enc : α → List Value} {w0 w w' : World} {L : List Res} {R : List (RowA α)}
theorem rRows_nil (h : Hp w0 w L) : Hp w0 w (rRows e s enc ([] : List (RowA α)) :: L) := Hp.pack (Rs := []) h
theorem rRows_add {y : RowA α} (h : Hp w0 w (rO e s enc y.ia y.ic y.ins :: rRows e s enc R :: L)) : Hp w0 w (rRows e s enc (R ++ [y]) :: L) := by
 have h1 : Hp w0 w (R.map (fun r => rO e s enc r.ia r.ic r.ins) ++ (rO e s enc y.ia y.ic y.ins :: L)) := h.f1.unpack
 refine Hp.pack (Hp.perm h1 ?_)
 simp only [List.map_append, List.map_cons, List.map_nil, List.append_assoc]
 exact .refl _
theorem rRows_snoc {y : RowA α} (h : Hp w0 w (rRows e s enc R :: L)) (hy : Hp w w' [rO e s enc y.ia y.ic y.ins]) : Hp w0 w' (rRows e s enc (R ++ [y]) :: L) := rRows_add (h.call1 hy)
theorem rRows_nils : ∀ (n : Nat), Hp w0 w L → Hp w0 w (rRows e s enc (List.replicate n (⟨[], none, 0⟩ : RowA α)) :: L)
 | 0, h => rRows_nil h
 | n + 1, h => by
  rw [List.replicate_succ']
  exact rRows_snoc (rRows_nils n h) ((Hp.nil w).ownN (Ext.refl _) (Own.nil _ _ _ _ _))
theorem rRows_at (h : Hp w0 w (rRows e s enc R :: L)) {i : Nat} (hi : i < R.length) :
  ∃ Q, Hp w0 w (rO e s enc (R.getD i default).ia (R.getD i default).ic (R.getD i default).ins :: Q :: L) ∧ ∀ w' L' y, Hp w0 w' (rO e s enc y.ia y.ic y.ins :: Q :: L') → Hp w0 w' (rRows e s enc (R.set i y) :: L') := by
 obtain ⟨Q, h1, h2⟩ := Hp.allAt (i := i) (R := rO e s enc (R.getD i default).ia (R.getD i default).ic (R.getD i default).ins) h (by
  rw [List.getElem?_map, List.getElem?_eq_getElem hi, List.getD_eq_getElem?_getD, List.getElem?_eq_getElem hi]; rfl)
 refine ⟨Q, h1, fun w' L' y hy => ?_⟩
 have h3 := h2 w' _ _ hy
 unfold rRows
 rw [List.map_set]
 exact h3
end
class RowsH (w0 : World) (L : List Res) {α : Type} [Inhabited α] (s : outParam Nat) (enc : outParam (α → List Value)) (R : List (RowA α)) : Prop where
 h : ∀ w, Hp w0 w L → ∀ r, r ∈ R → Sl w r.ia r.ins.length s (fL enc r.ins)
instance RowsH.head {w0 : World} {L : List Res} {α : Type} [Inhabited α] {e : TypeId} {s : Nat} {enc : α → List Value} [he : EncOk enc s] {R : List (RowA α)} : RowsH w0 (rRows e s enc R :: L) s enc R :=
 ⟨fun w hp r hr => Own.sl (hp.g0 (rO e s enc r.ia r.ic r.ins) (List.mem_map.2 ⟨r, hr, rfl⟩)) he.len⟩
instance RowsH.tail {w0 : World} {L : List Res} {A : Res} {α : Type} [Inhabited α] {s : Nat} {enc : α → List Value} {R : List (RowA α)} [h : RowsH w0 L s enc R] : RowsH w0 (A :: L) s enc R := ⟨fun w hp => h.h w hp.drop⟩
theorem RowsH.at_ {w0 : World} {L : List Res} {α : Type} [Inhabited α] {s : Nat} {enc : α → List Value} {R : List (RowA α)} (h : RowsH w0 L s enc R) {i : Nat} (hi : i < R.length) : RdH w0 L (R.getD i default).ia s enc (R.getD i default).ins :=
 ⟨fun w hp => h.h w hp _ (getD_memR hi)⟩
def eStr (s : ByteArray) : List Value := [.string s]
instance eStr_ok : EncOk eStr 1 := ⟨fun _ => rfl, fun x u hu => by simp [eStr] at hu; subst hu; rfl⟩
end Go.Xw
end
section
namespace Go.Xw
def litV (V : List Int) (l : Int) : Int := bits .xor .i64 (V.getD (l / 2).toNat default) (bits .and .i64 l 1)
def is01 (z : Int) : Prop := z = 0 ∨ z = 1
def All01 (V : List Int) : Prop := ∀ j, is01 (V.getD j default)
theorem All01.set {V : List Int} (h : All01 V) {i : Nat} {z : Int} (hz : is01 z) : All01 (V.set i z) := by
 intro j
 have hj := h j
 simp only [List.getD_eq_getElem?_getD, List.getElem?_set] at hj ⊢
 split
 ·split
  ·exact hz
  ·exact .inl rfl
 ·exact hj
end Go.Xw
end
section
namespace Go.Xw
open Go.RowKit
def mapL (to : List Int) (lits : List Int) : List Int := lits.map (litV to)
theorem mapL_len (to lits : List Int) : (mapL to lits).length = lits.length := by simp [mapL]
theorem litV_eq (to : List Int) {l : Int} (h0 : 0 ≤ to.getD (l / 2).toNat default) (h1 : to.getD (l / 2).toNat default ≤ 9223372036854775807) : litV to l = if l % 2 = 0 then to.getD (l / 2).toNat default else notL (to.getD (l / 2).toNat default) := by
 unfold litV
 rw [bits_and_one]
 have : l % 2 = 0 ∨ l % 2 = 1 := by omega
 rcases this with h | h
 ·rw [h, if_pos rfl]; exact xor_zero h0 h1
 ·rw [h, if_neg (by decide)]; rfl
theorem litV_litP {to : List Int} {l k : Int} (h : litP (to.getD (l / 2).toNat default) k) (hk : k ≤ 1000000) : litP (litV to l) k := by
 have h' := h
 unfold litP at h'
 rw [litV_eq to h'.1 (by omega)]
 split
 ·exact h
 ·exact litP_not h hk
theorem litV_congr {to to' : List Int} {l : Int} (h : to.getD (l / 2).toNat default = to'.getD (l / 2).toNat default) : litV to l = litV to' l := by
 unfold litV; rw [h]
theorem pad_get {to : List Int} {m k : Nat} : (to ++ List.replicate m (0 : Int)).getD k default = to.getD k default := by
 simp only [List.getD_eq_getElem?_getD]
 by_cases h : k < to.length
 ·rw [List.getElem?_append_left h]
 ·rw [List.getElem?_append_right (by omega), List.getElem?_eq_none (by omega : to.length ≤ k), List.getElem?_replicate]
  split <;> rfl
theorem litV_pad {to : List Int} {m : Nat} {l : Int} : litV (to ++ List.replicate m 0) l = litV to l := litV_congr pad_get
theorem pad_set {to : List Int} {m : Nat} {y : Int} : (to ++ List.replicate (m + 1) (0 : Int)).set to.length y = (to ++ [y]) ++ List.replicate m 0 := row_set to m 0 y
def leafL (n : NetL) : List Int := (List.range (fst_ n)).map fun k => 2 * ((k : Nat) : Int)
theorem leafL_len (n : NetL) : (leafL n).length = fst_ n := by simp [leafL]
theorem leafL_get {n : NetL} {k : Nat} (h : k < fst_ n) : (leafL n).getD k default = 2 * (k : Int) := range_get (f := fun k => 2 * ((k : Nat) : Int)) h
def addC (f : Int) (A : List (Int × Int)) (a b : Int) : List (Int × Int) × Int :=
 if a = 0 ∨ b = 0 ∨ notL a = b then (A, 0)
 else if a = 1 ∨ a = b then (A, b)
 else if b = 1 then (A, a)
 else if A.idxOf (min a b, max a b) < A.length then (A, 2 * (f + (A.idxOf (min a b, max a b) : Nat)))
 else if 300 ≤ A.length then (A, -1)
 else (A ++ [(min a b, max a b)], 2 * (f + A.length))
theorem addAndL_C (n : NetL) (a b : Int) : addAndL n a b = ({ n with ands := (addC (firstAndL n) n.ands a b).1 }, (addC (firstAndL n) n.ands a b).2) := by
 have e : nodesL n = firstAndL n + n.ands.length := rfl
 unfold addAndL addC
 rw [e]
 repeat' split
 all_goals rfl
structure Bld (f : Int) (A : List (Int × Int)) (to : List Int) : Prop where
 f1 : 1 ≤ f ∧ f ≤ 33
 alen : A.length ≤ 300
 aok : ∀ i, i < A.length → litP (A.getD i default).1 (f + i) ∧ litP (A.getD i default).2 (f + i)
 tok : ∀ i, i < to.length → litP (to.getD i default) (f + A.length)
theorem Bld.lit {f : Int} {A : List (Int × Int)} {to : List Int} (h : Bld f A to) {l : Int} (hl : (l / 2).toNat < to.length) : litP (litV to l) (f + A.length) :=
 litV_litP (h.tok _ hl) (by have := h.f1; have := h.alen; omega)
theorem Bld.snoc {f : Int} {A : List (Int × Int)} {to : List Int} (h : Bld f A to) {y : Int} (hy : litP y (f + A.length)) : Bld f A (to ++ [y]) :=
 ⟨h.f1, h.alen, h.aok, fun i hi => by
  simp at hi
  by_cases hi2 : i < to.length
  ·rw [snoc_lt hi2]; exact h.tok i hi2
  ·obtain rfl : i = to.length := by omega
   rw [snoc_eq]; exact hy⟩
theorem Bld.and_ {f : Int} {A : List (Int × Int)} {to : List Int} (h : Bld f A to) {x : Int × Int} (h1 : litP x.1 (f + A.length)) (h2 : litP x.2 (f + A.length)) (hl : A.length < 300) : Bld f (A ++ [x]) to := by
 refine ⟨h.f1, by simp; omega, fun i hi => ?_, fun i hi => (h.tok i hi).mono (by simp; omega)⟩
 simp at hi
 by_cases hi2 : i < A.length
 ·rw [snoc_lt hi2]; exact h.aok i hi2
 ·obtain rfl : i = A.length := by omega
  rw [snoc_eq]; exact ⟨h1, h2⟩
theorem addC_cases (f : Int) (A : List (Int × Int)) (a b : Int) : (addC f A a b).1 = A ∨ ((addC f A a b).1 = A ++ [(min a b, max a b)] ∧ A.length < 300) := by
 unfold addC
 (repeat' split) <;> first | exact .inl rfl | (exact .inr ⟨rfl, by omega⟩)
theorem addC_len (f : Int) (A : List (Int × Int)) (a b : Int) : A.length ≤ (addC f A a b).1.length ∧ (addC f A a b).1.length ≤ A.length + 1 := by
 rcases addC_cases f A a b with h | ⟨h, _⟩ <;> rw [h] <;> simp
theorem Bld.add {f : Int} {A : List (Int × Int)} {to : List Int} (h : Bld f A to) {a b : Int} (ha : litP a (f + A.length)) (hb : litP b (f + A.length)) : Bld f (addC f A a b).1 to := by
 rcases addC_cases f A a b with e | ⟨e, hl⟩
 ·rw [e]; exact h
 ·rw [e]
  refine h.and_ ?_ ?_ hl <;> unfold litP at * <;> dsimp only <;> omega
theorem Bld.addLit {f : Int} {A : List (Int × Int)} {to : List Int} (h : Bld f A to) {a b : Int} (ha : litP a (f + A.length)) (hb : litP b (f + A.length)) : litP (addC f A a b).2 (f + (addC f A a b).1.length) ∨ (addC f A a b = (A, -1) ∧ 300 ≤ A.length) := by
 have hc := h.f1
 unfold addC
 unfold litP at *
 repeat' split
 all_goals first | (right; exact ⟨rfl, by assumption⟩) | (left; dsimp only; first | omega | (simp only [List.length_append, List.length_cons, List.length_nil]; omega))
theorem Bld.step {f : Int} {A : List (Int × Int)} {to : List Int} (h : Bld f A to) {a b : Int} (ha : litP a (f + A.length)) (hb : litP b (f + A.length)) (h0 : 0 ≤ (addC f A a b).2) : Bld f (addC f A a b).1 (to ++ [(addC f A a b).2]) := by
 refine (h.add ha hb).snoc ?_
 rcases h.addLit ha hb with h1 | ⟨h1, _⟩
 ·exact h1
 ·rw [h1] at h0; exact absurd h0 (by dsimp only; omega)
def begL (n : NetL) (A : List (Int × Int)) : NetL := ⟨n.inputs, n.seqs.map fun s => ⟨s.kind, s.init, []⟩, A, []⟩
def zerL (n : NetL) (A : List (Int × Int)) : NetL := ⟨n.inputs, n.seqs.map fun s => ⟨s.kind, s.init, List.replicate s.ins.length 0⟩, A, []⟩
def finN (n : NetL) (A : List (Int × Int)) (to : List Int) : NetL := ⟨n.inputs, n.seqs.map fun s => ⟨s.kind, s.init, mapL to s.ins⟩, A, mapL to n.outs⟩
theorem firstAndL_zer (n : NetL) (A : List (Int × Int)) : firstAndL (zerL n A) = firstAndL n := by unfold firstAndL zerL; simp
theorem firstAndL_fin (n : NetL) (A : List (Int × Int)) (to : List Int) : firstAndL (finN n A to) = firstAndL n := by unfold firstAndL finN; simp
theorem map_getD {α β : Type} [Inhabited α] [Inhabited β] {f : α → β} {X : List α} {i : Nat} (h : i < X.length) : (X.map f).getD i default = f (X.getD i default) := by
 simp [List.getD_eq_getElem?_getD, h]
theorem NetOkP.mk' {n : NetL} (h1 : sizeOk n) (h2 : ∀ s, s ∈ n.seqs → seqOkP s) (h3 : ∀ o, o ∈ n.outs → litP o (nodesL n)) (h4 : ∀ s, s ∈ n.seqs → ∀ l, l ∈ s.ins → litP l (nodesL n))
  (h5 : ∀ i, i < n.ands.length → litP (n.ands.getD i default).1 (firstAndL n + i) ∧ litP (n.ands.getD i default).2 (firstAndL n + i)) : NetOkP n :=
 ⟨h1, mem_iff_getD.1 h2, (mem_iff_getD (p := fun x => litP x (nodesL n))).1 (by
  intro x hx
  rw [rootsL_eq, List.mem_append, List.mem_flatMap] at hx
  rcases hx with hx | ⟨s, hs, hx⟩
  ·exact h3 x hx
  ·exact h4 s hs x hx), h5⟩
theorem NetOkP.sq {n : NetL} (h : NetOkP n) : ∀ s, s ∈ n.seqs → seqOkP s := mem_iff_getD.2 h.seqs
theorem zerL_ok {n : NetL} (h : NetOkP n) {A : List (Int × Int)} {to : List Int} (hb : Bld (firstAndL n) A to) : NetOkP (zerL n A) := by
 obtain ⟨s1, s2, s3, s4⟩ := h.size
 refine .mk' ⟨s1, by simp [zerL]; omega, hb.alen, by simp [zerL]⟩ (fun s hs => ?_) (fun o ho => by simp [zerL] at ho) (fun s hs l hl => ?_) (fun i hi => by rw [firstAndL_zer]; exact hb.aok i hi)
 ·obtain ⟨t, ht, rfl⟩ := List.mem_map.1 hs
  have := h.sq t ht
  unfold seqOkP at this ⊢
  simpa using this
 ·obtain ⟨t, ht, rfl⟩ := List.mem_map.1 hs
  simp at hl
  obtain ⟨_, rfl⟩ := hl
  have : nodesL (zerL n A) = firstAndL n + A.length := by have := firstAndL_zer n A; unfold firstAndL at this; unfold nodesL; rw [this]; rfl
  rw [this]
  have := hb.f1
  unfold litP; omega
theorem finN_nodes (n : NetL) (A : List (Int × Int)) (to : List Int) : nodesL (finN n A to) = firstAndL n + A.length := by
 have := firstAndL_fin n A to; unfold firstAndL at this; unfold nodesL; rw [this]; rfl
theorem finN_ok {n : NetL} (h : NetOkP n) {A : List (Int × Int)} {to : List Int} (hb : Bld (firstAndL n) A to) (ht : nds n ≤ to.length) : NetOkP (finN n A to) := by
 obtain ⟨s1, s2, s3, s4⟩ := h.size
 have hn := h.nums
 have hl : ∀ l, litP l (nodesL n) → litP (litV to l) (firstAndL n + A.length) := fun l hl => hb.lit (by have := hl.nat hn; omega)
 refine .mk' ⟨s1, by simp [finN]; omega, hb.alen, by simp [finN, mapL]; omega⟩ (fun s hs => ?_) (fun o ho => ?_) (fun s hs l hm => ?_) (fun i hi => by rw [firstAndL_fin]; exact hb.aok i hi)
 ·obtain ⟨t, ht, rfl⟩ := List.mem_map.1 hs
  have := h.sq t ht
  unfold seqOkP at this ⊢
  simpa [mapL] using this
 ·rw [finN_nodes]
  obtain ⟨l, hl1, rfl⟩ := List.mem_map.1 ho
  exact hl l (h.out l hl1)
 ·rw [finN_nodes]
  obtain ⟨t, ht, rfl⟩ := List.mem_map.1 hs
  obtain ⟨l, hl1, rfl⟩ := List.mem_map.1 hm
  exact hl l (h.inp ht l hl1)
theorem Bld.leaf {n : NetL} (h : NetOkP n) : Bld (firstAndL n) [] (leafL n) := by
 have hc := h.count
 have hs := h.size
 have h2 := h.nums.f2
 unfold sizeOk at hs
 refine ⟨⟨hc.1, by unfold firstAndL; omega⟩, by simp, fun i hi => by simp at hi, fun i hi => ?_⟩
 rw [leafL_len] at hi
 rw [leafL_get hi]
 unfold litP
 simp
 omega
theorem NetOkP.andP {n : NetL} (h : NetOkP n) {i : Nat} (hi : i < n.ands.length) : litP (n.ands.getD i default).1 (firstAndL n + i) ∧ litP (n.ands.getD i default).2 (firstAndL n + i) := h.ands i hi
def swTo (n : NetL) (K : List Bool) : Nat → List (Int × Int) × List Int
 | 0 => ([], leafL n)
 | i + 1 => if K.getD (fst_ n + i) default = true then ((swTo n K i).1 ++ [(litV (swTo n K i).2 (n.ands.getD i default).1, litV (swTo n K i).2 (n.ands.getD i default).2)], (swTo n K i).2 ++ [2 * (firstAndL n + (swTo n K i).1.length)])
  else ((swTo n K i).1, (swTo n K i).2 ++ [0])
noncomputable def sweepL (n : NetL) : NetL := finN n (swTo n (reachedL n) n.ands.length).1 (swTo n (reachedL n) n.ands.length).2
theorem swTo_len (n : NetL) (K : List Bool) : ∀ i, (swTo n K i).1.length ≤ i ∧ (swTo n K i).2.length = fst_ n + i
 | 0 => by simp [swTo, leafL_len]
 | i + 1 => by
  have := swTo_len n K i
  unfold swTo
  split <;> simp <;> omega
theorem swTo_ok {n : NetL} (h : NetOkP n) (K : List Bool) : ∀ i, i ≤ n.ands.length → Bld (firstAndL n) (swTo n K i).1 (swTo n K i).2
 | 0, _ => .leaf h
 | i + 1, hi => by
  have ih := swTo_ok h K i (by omega)
  have hl := swTo_len n K i
  have hs := h.size
  have hn := h.nums
  have f2 := hn.f2
  unfold sizeOk at hs
  obtain ⟨q1, q2⟩ := h.andP (show i < n.ands.length by omega)
  unfold litP at q1 q2
  unfold swTo
  split
  ·refine (ih.and_ (ih.lit (by omega)) (ih.lit (by omega)) (by omega)).snoc ?_
   have := ih.f1
   unfold litP; simp; omega
  ·refine ih.snoc ?_
   have := ih.f1
   unfold litP; omega
theorem sweepL_ok {n : NetL} (h : NetOkP n) : NetOkP (sweepL n) := by
 have hl := swTo_len n (reachedL n) n.ands.length
 have := h.nums.n1
 exact finN_ok h (swTo_ok h _ _ (Nat.le_refl _)) (by omega)
def haTo (n : NetL) : Nat → List (Int × Int) × List Int
 | 0 => ([], leafL n)
 | i + 1 => ((addC (firstAndL n) (haTo n i).1 (litV (haTo n i).2 (n.ands.getD i default).1) (litV (haTo n i).2 (n.ands.getD i default).2)).1,
     (haTo n i).2 ++ [(addC (firstAndL n) (haTo n i).1 (litV (haTo n i).2 (n.ands.getD i default).1) (litV (haTo n i).2 (n.ands.getD i default).2)).2])
theorem haTo_len (n : NetL) : ∀ i, (haTo n i).1.length ≤ i ∧ (haTo n i).2.length = fst_ n + i
 | 0 => by simp [haTo, leafL_len]
 | i + 1 => by
  have := haTo_len n i
  have h2 := addC_len (firstAndL n) (haTo n i).1 (litV (haTo n i).2 (n.ands.getD i default).1) (litV (haTo n i).2 (n.ands.getD i default).2)
  unfold haTo
  simp only [List.length_append, List.length_cons, List.length_nil]
  omega
theorem haTo_lits {n : NetL} (h : NetOkP n) {i : Nat} (hi : i < n.ands.length) (ih : Bld (firstAndL n) (haTo n i).1 (haTo n i).2) :
  litP (litV (haTo n i).2 (n.ands.getD i default).1) (firstAndL n + (haTo n i).1.length) ∧ litP (litV (haTo n i).2 (n.ands.getD i default).2) (firstAndL n + (haTo n i).1.length) := by
 have hl := haTo_len n i
 have f2 := h.nums.f2
 obtain ⟨q1, q2⟩ := h.andP hi
 unfold litP at q1 q2
 exact ⟨ih.lit (by omega), ih.lit (by omega)⟩
theorem haTo_ok {n : NetL} (h : NetOkP n) : ∀ i, i ≤ n.ands.length → Bld (firstAndL n) (haTo n i).1 (haTo n i).2
 | 0, _ => .leaf h
 | i + 1, hi => by
  have ih := haTo_ok h i (by omega)
  have hl := haTo_len n i
  have hs := h.size
  unfold sizeOk at hs
  obtain ⟨l1, l2⟩ := haTo_lits h (by omega) ih
  refine ih.step l1 l2 ?_
  rcases ih.addLit l1 l2 with h1 | ⟨_, h1⟩
  ·exact h1.1
  ·omega
def preL (n : NetL) : NetL := finN n (haTo n n.ands.length).1 (haTo n n.ands.length).2
noncomputable def hashL (n : NetL) : NetL := sweepL (preL n)
theorem preL_ok {n : NetL} (h : NetOkP n) : NetOkP (preL n) := by
 have hl := haTo_len n n.ands.length
 have := h.nums.n1
 exact finN_ok h (haTo_ok h _ (Nat.le_refl _)) (by omega)
theorem hashL_ok {n : NetL} (h : NetOkP n) : NetOkP (hashL n) := sweepL_ok (preL_ok h)
def nilN : NetL := ⟨0, [], [], []⟩
noncomputable def ifNet (n : NetL) (r : NetL) : NetL := if netOkB n = true then r else nilN
theorem ifNet_yes {n r : NetL} (h : NetOkP n) : ifNet n r = r := by rw [ifNet, if_pos (netOkB_iff.2 h)]
theorem ifNet_no {n r : NetL} (h : ¬ NetOkP n) : ifNet n r = nilN := by rw [ifNet, if_neg (fun hh => h (netOkB_iff.1 hh))]
end Go.Xw
end
