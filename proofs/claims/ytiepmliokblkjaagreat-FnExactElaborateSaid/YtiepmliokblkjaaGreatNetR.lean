/- Texts that belong together; each under its stated conditions. -/
import Derived.Test.YtiepmliokblkjaaGreatHeap
set_option linter.all false
section
namespace Go.Xw
structure SeqL where
 kind : Int
 init : Int
 ins : List Int
 deriving DecidableEq
instance : Inhabited SeqL := ⟨⟨0, 0, []⟩⟩
structure NetL where
 inputs : Int
 seqs : List SeqL
 ands : List (Int × Int)
 outs : List Int
 deriving DecidableEq
instance : Inhabited NetL := ⟨⟨0, [], [], []⟩⟩
def sizeOk (n : NetL) : Prop := (0 ≤ n.inputs ∧ n.inputs ≤ 20) ∧ n.seqs.length ≤ 12 ∧ n.ands.length ≤ 300 ∧ n.outs.length ≤ 16
instance (n : NetL) : Decidable (sizeOk n) := by unfold sizeOk; infer_instance
def firstAndL (n : NetL) : Int := 1 + n.inputs + n.seqs.length
def nodesL (n : NetL) : Int := 1 + n.inputs + n.seqs.length + n.ands.length
def nodeCountL (n : NetL) : Int := if sizeOk n then nodesL n else 0
theorem nodeCountL_ne {n : NetL} : nodeCountL n ≠ 0 ↔ sizeOk n := by
 unfold nodeCountL nodesL
 split
 ·rename_i h
  have := h.1.1
  constructor
  ·exact fun _ => h
  ·intro _; omega
 ·rename_i h
  constructor
  ·intro h2; exact absurd rfl h2
  ·intro h2; exact absurd h2 h
def rootsTo (n : NetL) : Nat → List Int
 | 0 => n.outs
 | i + 1 => rootsTo n i ++ (n.seqs.getD i default).ins
def rootsL (n : NetL) : List Int := rootsTo n n.seqs.length
def seqOkP (s : SeqL) : Prop := (s.kind = 0 ∧ (0 ≤ s.init ∧ s.init ≤ 1) ∧ s.ins.length = 1) ∨ (s.kind = 1 ∧ (0 ≤ s.init ∧ s.init ≤ 31) ∧ s.ins.length = 4)
def litP (x : Int) (nodes : Int) : Prop := 0 ≤ x ∧ x / 2 < nodes
instance (s : SeqL) : Decidable (seqOkP s) := by unfold seqOkP; infer_instance
instance (x k : Int) : Decidable (litP x k) := by unfold litP; infer_instance
structure NetOkP (n : NetL) : Prop where
 size : sizeOk n
 seqs : ∀ i, i < n.seqs.length → seqOkP (n.seqs.getD i default)
 roots : ∀ i, i < (rootsL n).length → litP ((rootsL n).getD i default) (nodesL n)
 ands : ∀ i, i < n.ands.length → litP (n.ands.getD i default).1 (firstAndL n + i) ∧ litP (n.ands.getD i default).2 (firstAndL n + i)
def i64R (z : Int) : Prop := -9223372036854775808 ≤ z ∧ z ≤ 9223372036854775807
structure NetW (n : NetL) : Prop where
 outs : ∀ i, i < n.outs.length → i64R (n.outs.getD i default)
 ins : ∀ i, i < n.seqs.length → ∀ j, j < (n.seqs.getD i default).ins.length → i64R ((n.seqs.getD i default).ins.getD j default)
 ands : ∀ i, i < n.ands.length → i64R (n.ands.getD i default).1 ∧ i64R (n.ands.getD i default).2
noncomputable def netOkB (n : NetL) : Bool := @decide (NetOkP n) (Classical.propDecidable _)
theorem netOkB_iff {n : NetL} : netOkB n = true ↔ NetOkP n := by simp [netOkB]
theorem netOkB_no {n : NetL} (h : ¬ NetOkP n) : netOkB n = false := by simp [netOkB, h]
theorem netOkB_yes {n : NetL} (h : NetOkP n) : netOkB n = true := by simp [netOkB, h]
theorem rootsTo_len {n : NetL} {i : Nat} (h : ∀ j, j < i → seqOkP (n.seqs.getD j default)) : (rootsTo n i).length ≤ n.outs.length + 4 * i := by
 induction i with
 | zero => simp [rootsTo]
 | succ i ih =>
  have h1 := ih fun j hj => h j (by omega)
  have h2 := h i (by omega)
  simp only [rootsTo, List.length_append]
  rcases h2 with ⟨_, _, h2⟩ | ⟨_, _, h2⟩ <;> omega
end Go.Xw
end
section
namespace Go.Xw
open Go.RowKit
structure SeqA where
 kind : Int
 init : Int
 ins : List Int
 ia : Option Addr
 ic : Nat
instance : Inhabited SeqA := ⟨⟨0, 0, [], none, 0⟩⟩
def SeqA.s (x : SeqA) : SeqL := ⟨x.kind, x.init, x.ins⟩
def eSq (x : SeqA) : List Value := [.int .i64 x.kind, .int .i64 x.init, .slice x.ia x.ins.length x.ic]
instance eSq_ok : EncOk eSq 3 := ⟨fun _ => rfl, fun x u hu => by simp [eSq] at hu; rcases hu with rfl | rfl | rfl <;> rfl⟩
structure NetA where
 inputs : Int
 seqs : List SeqA
 sa : Option Addr
 sc : Nat
 ands : List (Int × Int)
 aa : Option Addr
 ac : Nat
 outs : List Int
 oa : Option Addr
 oc : Nat
def seqsOf (R : List SeqA) : List SeqL := R.map SeqA.s
theorem seqsOf_get (R : List SeqA) (i : Nat) : (seqsOf R).getD i default = (R.getD i default).s := by
 simp only [seqsOf, List.getD_eq_getElem?_getD, List.getElem?_map]
 cases R[i]? <;> rfl
theorem seqsOf_len (R : List SeqA) : (seqsOf R).length = R.length := by simp [seqsOf]
def NetA.n (x : NetA) : NetL := ⟨x.inputs, seqsOf x.seqs, x.ands, x.outs⟩
def NetA.cs (x : NetA) : List Value := [.int .i64 x.inputs, .slice x.sa x.seqs.length x.sc, .slice x.aa x.ands.length x.ac, .slice x.oa x.outs.length x.oc]
def NetA.v (x : NetA) : Value := .agg ⟨x.cs⟩
theorem NetA.slen (x : NetA) : x.n.seqs.length = x.seqs.length := seqsOf_len _
theorem NetA.sget (x : NetA) (i : Nat) : x.n.seqs.getD i default = (x.seqs.getD i default).s := seqsOf_get _ _
theorem NetA.sins (x : NetA) (i : Nat) : (x.n.seqs.getD i default).ins = (x.seqs.getD i default).ins := by rw [x.sget]; rfl
class SeqsR (w : World) (a : Option Addr) (R : List SeqA) : Prop where
 row : Rd w a 3 eSq R
 ins : ∀ s, s ∈ R → Rd w s.ia 1 eI s.ins
class NetR (w : World) (x : NetA) : Prop where
 seqs : SeqsR w x.sa x.seqs
 ands : Rd w x.aa 2 eII x.ands
 outs : Rd w x.oa 1 eI x.outs
 cap : x.ands.length ≤ x.ac
theorem SeqsR.ext {w w' : World} {a : Option Addr} {R : List SeqA} (h : SeqsR w a R) (hx : Ext w w') : SeqsR w' a R := ⟨h.row.ext hx, fun s hs => (h.ins s hs).ext hx⟩
theorem NetR.ext {w w' : World} {x : NetA} (h : NetR w x) (hx : Ext w w') : NetR w' x := ⟨h.seqs.ext hx, h.ands.ext hx, h.outs.ext hx, h.cap⟩
instance NetR.rd1 {w : World} {x : NetA} [h : NetR w x] : Rd w x.sa 3 eSq x.seqs := h.seqs.row
instance NetR.rd2 {w : World} {x : NetA} [h : NetR w x] : Rd w x.aa 2 eII x.ands := h.ands
instance NetR.rd3 {w : World} {x : NetA} [h : NetR w x] : Rd w x.oa 1 eI x.outs := h.outs
theorem getD_mem {α : Type} [Inhabited α] {X : List α} {i : Nat} (h : i < X.length) : X.getD i default ∈ X := by
 rw [List.getD_eq_getElem?_getD, List.getElem?_eq_getElem h]; exact List.getElem_mem h
theorem SeqsR.at_ {w : World} {a : Option Addr} {R : List SeqA} (h : SeqsR w a R) {i : Nat} (hi : i < R.length) : Rd w (R.getD i default).ia 1 eI (R.getD i default).ins := h.ins _ (getD_mem hi)
def rIns (R : List SeqA) : Res := rAll (R.map fun s => rO 3 1 eI s.ia s.ic s.ins)
def rSq (a : Option Addr) (c : Nat) (R : List SeqA) : Res := rAll [rO 68 3 eSq a c R, rIns R]
def rNet (x : NetA) : Res := rAll [rSq x.sa x.sc x.seqs, rO 120 2 eII x.aa x.ac x.ands, rO 3 1 eI x.oa x.oc x.outs]
theorem rSq_r {w : World} {a : Option Addr} {c : Nat} {R : List SeqA} (h : (rSq a c R).P w) : SeqsR w a R := by
 have h1 := h (rO 68 3 eSq a c R) (by simp)
 have h2 := h (rIns R) (by simp)
 exact ⟨⟨Own.sl h1 eSq_ok.len⟩, fun s hs => ⟨Own.sl (h2 _ (List.mem_map.2 ⟨s, hs, rfl⟩)) eI_ok.len⟩⟩
theorem rNet_r {w : World} {x : NetA} (h : (rNet x).P w) : NetR w x :=
 ⟨rSq_r (c := x.sc) (h (rSq x.sa x.sc x.seqs) (by simp)), ⟨Own.sl (h (rO 120 2 eII x.aa x.ac x.ands) (by simp)) eII_ok.len⟩, ⟨Own.sl (h (rO 3 1 eI x.oa x.oc x.outs) (by simp)) eI_ok.len⟩, Own.cap (h (rO 120 2 eII x.aa x.ac x.ands) (by simp))⟩
class NetH (w0 : World) (L : List Res) (x : NetA) : Prop where
 h : ∀ w, Hp w0 w L → NetR w x
instance (priority := low) NetH.base {w0 : World} {L : List Res} {x : NetA} [h : NetR w0 x] : NetH w0 L x := ⟨fun _ hp => h.ext hp.x⟩
instance NetH.head {w0 : World} {L : List Res} {x : NetA} : NetH w0 (rNet x :: L) x := ⟨fun _ hp => rNet_r hp.g0⟩
instance NetH.tail {w0 : World} {L : List Res} {R : Res} {x : NetA} [h : NetH w0 L x] : NetH w0 (R :: L) x := ⟨fun w hp => h.h w hp.drop⟩
theorem Hp.net {w0 w : World} {L : List Res} (hp : Hp w0 w L) {x : NetA} [h : NetH w0 L x] : NetR w x := h.h w hp
instance RdH.net1 {w0 : World} {L : List Res} {x : NetA} : RdH w0 (rNet x :: L) x.sa 3 eSq x.seqs := ⟨fun _ hp => (rNet_r hp.g0).seqs.row.h⟩
instance RdH.net2 {w0 : World} {L : List Res} {x : NetA} : RdH w0 (rNet x :: L) x.aa 2 eII x.ands := ⟨fun _ hp => (rNet_r hp.g0).ands.h⟩
instance RdH.net3 {w0 : World} {L : List Res} {x : NetA} : RdH w0 (rNet x :: L) x.oa 1 eI x.outs := ⟨fun _ hp => (rNet_r hp.g0).outs.h⟩
instance RdH.sq {w0 : World} {L : List Res} {a : Option Addr} {c : Nat} {R : List SeqA} : RdH w0 (rSq a c R :: L) a 3 eSq R := ⟨fun _ hp => (rSq_r hp.g0).row.h⟩
instance (priority := low) RdH.ofNet1 {w0 : World} {L : List Res} {x : NetA} [h : NetH w0 L x] : RdH w0 L x.sa 3 eSq x.seqs := ⟨fun w hp => (h.h w hp).seqs.row.h⟩
instance (priority := low) RdH.ofNet2 {w0 : World} {L : List Res} {x : NetA} [h : NetH w0 L x] : RdH w0 L x.aa 2 eII x.ands := ⟨fun w hp => (h.h w hp).ands.h⟩
instance (priority := low) RdH.ofNet3 {w0 : World} {L : List Res} {x : NetA} [h : NetH w0 L x] : RdH w0 L x.oa 1 eI x.outs := ⟨fun w hp => (h.h w hp).outs.h⟩
theorem NetH.in_ {w0 : World} {L : List Res} {x : NetA} (h : NetH w0 L x) {i : Nat} (hi : i < x.seqs.length) : RdH w0 L (x.seqs.getD i default).ia 1 eI (x.seqs.getD i default).ins := ⟨fun w hp => ((h.h w hp).seqs.at_ hi).h⟩
theorem rIns_snoc {w0 w w' : World} {L : List Res} {R : List SeqA} {y : SeqA} (h : Hp w0 w (rIns R :: L)) (hy : Hp w w' [rO 3 1 eI y.ia y.ic y.ins]) : Hp w0 w' (rIns (R ++ [y]) :: L) := by
 have h1 := (h.unpack).call1 hy
 refine Hp.pack (Hp.perm h1 ?_)
 simp only [List.map_append, List.map_cons, List.map_nil, List.append_assoc]
 exact (List.perm_middle (l₁ := R.map _)).symm
theorem rIns_nil {w0 w : World} {L : List Res} (h : Hp w0 w L) : Hp w0 w (rIns [] :: L) := Hp.pack (Rs := []) h
theorem rIns_at {w0 w : World} {L : List Res} {R : List SeqA} (h : Hp w0 w (rIns R :: L)) {i : Nat} (hi : i < R.length) :
  ∃ Q, Hp w0 w (rO 3 1 eI (R.getD i default).ia (R.getD i default).ic (R.getD i default).ins :: Q :: L) ∧ ∀ w' L' y, Hp w0 w' (rO 3 1 eI y.ia y.ic y.ins :: Q :: L') → Hp w0 w' (rIns (R.set i y) :: L') := by
 obtain ⟨Q, h1, h2⟩ := Hp.allAt (i := i) (R := rO 3 1 eI (R.getD i default).ia (R.getD i default).ic (R.getD i default).ins) h (by
  rw [List.getElem?_map, List.getElem?_eq_getElem hi, List.getD_eq_getElem?_getD, List.getElem?_eq_getElem hi]; rfl)
 refine ⟨Q, h1, fun w' L' y hy => ?_⟩
 have h3 := h2 w' _ _ hy
 unfold rIns
 rw [List.map_set]
 exact h3
theorem rO_congr {α : Type} {e : TypeId} {sz : Nat} {enc : α → List Value} {w0 w : World} {L : List Res} {a : Option Addr} {c : Nat} {X Y : List α} (h : Hp w0 w (rO e sz enc a c X :: L)) (he : X.map enc = Y.map enc) : Hp w0 w (rO e sz enc a c Y :: L) := by
 have hl : X.length = Y.length := by have := congrArg List.length he; simpa using this
 have hf : X.flatMap enc = Y.flatMap enc := by rw [List.flatMap_def, List.flatMap_def, he]
 have hr : rO e sz enc a c X = rO e sz enc a c Y := by
  unfold rO Own
  simp only [hl, hf]
 rw [← hr]; exact h
theorem rO_set {α : Type} {e : TypeId} {sz : Nat} {enc : α → List Value} {w0 w : World} {L : List Res} {a : Option Addr} {c : Nat} {X : List α} {i : Nat} {x y : α} (h : Hp w0 w (rO e sz enc a c (X.set i x) :: L)) (he : enc x = enc y) : Hp w0 w (rO e sz enc a c (X.set i y) :: L) :=
 rO_congr h (by rw [List.map_set, List.map_set, he])
theorem rSq_open {w0 w : World} {L : List Res} {a : Option Addr} {c : Nat} {R : List SeqA} (h : Hp w0 w (rSq a c R :: L)) : Hp w0 w (rO 68 3 eSq a c R :: rIns R :: L) := h.unpack
theorem rSq_shut {w0 w : World} {L : List Res} {a : Option Addr} {c : Nat} {R : List SeqA} (h : Hp w0 w (rO 68 3 eSq a c R :: rIns R :: L)) : Hp w0 w (rSq a c R :: L) := Hp.pack (Rs := [_, _]) h
theorem rNet_open {w0 w : World} {L : List Res} {x : NetA} (h : Hp w0 w (rNet x :: L)) : Hp w0 w (rSq x.sa x.sc x.seqs :: rO 120 2 eII x.aa x.ac x.ands :: rO 3 1 eI x.oa x.oc x.outs :: L) := h.unpack
theorem rNet_shut {w0 w : World} {L : List Res} {x : NetA} (h : Hp w0 w (rSq x.sa x.sc x.seqs :: rO 120 2 eII x.aa x.ac x.ands :: rO 3 1 eI x.oa x.oc x.outs :: L)) : Hp w0 w (rNet x :: L) := Hp.pack (Rs := [_, _, _]) h
def upTo {α : Type} (f : Nat → α) (i : Nat) (X : List α) : List α := (List.range i).map f ++ X.drop i
theorem upTo_zero {α : Type} (f : Nat → α) (X : List α) : upTo f 0 X = X := by simp [upTo]
theorem upTo_all {α : Type} (f : Nat → α) (X : List α) : upTo f X.length X = (List.range X.length).map f := by simp [upTo]
theorem upTo_len {α : Type} {f : Nat → α} {X : List α} {i : Nat} (h : i ≤ X.length) : (upTo f i X).length = X.length := by simp [upTo]; omega
theorem upTo_set {α : Type} {f : Nat → α} {X : List α} {i : Nat} (h : i < X.length) : (upTo f i X).set i (f i) = upTo f (i + 1) X := by
 unfold upTo
 rw [List.set_append_right _ _ (by simp)]
 simp only [List.length_map, List.length_range, Nat.sub_self]
 rw [List.drop_eq_getElem_cons h, List.set_cons_zero, List.range_succ, List.map_append, List.append_assoc]
 rfl
theorem upTo_at {α : Type} [Inhabited α] {f : Nat → α} {X : List α} {i j : Nat} (h : i ≤ j) (hi : i ≤ X.length) : (upTo f i X).getD j default = X.getD j default := by
 unfold upTo
 rw [List.getD_eq_getElem?_getD, List.getD_eq_getElem?_getD, List.getElem?_append_right (by simpa using h)]
 simp only [List.length_map, List.length_range, List.getElem?_drop]
 rw [show i + (j - i) = j by omega]
theorem range_get {α : Type} [Inhabited α] {f : Nat → α} {n i : Nat} (h : i < n) : ((List.range n).map f).getD i default = f i := by simp [List.getD_eq_getElem?_getD, h]
theorem snoc_lt {α : Type} [Inhabited α] {R : List α} {y : α} {j : Nat} (h : j < R.length) : (R ++ [y]).getD j default = R.getD j default := by
 simp [List.getD_eq_getElem?_getD, List.getElem?_append_left h]
theorem snoc_eq {α : Type} [Inhabited α] {R : List α} {y : α} : (R ++ [y]).getD R.length default = y := by
 simp [List.getD_eq_getElem?_getD]
theorem row_set {α : Type} (R : List α) (n : Nat) (d y : α) : (R ++ List.replicate (n + 1) d).set R.length y = (R ++ [y]) ++ List.replicate n d := by
 rw [List.set_append_right _ _ (Nat.le_refl _), Nat.sub_self, List.replicate_succ, List.set_cons_zero, List.append_assoc]
 rfl
theorem take_snoc {α : Type} [Inhabited α] {xs : List α} {i : Nat} (h : i < xs.length) : xs.take (i + 1) = xs.take i ++ [xs.getD i default] := by
 rw [List.take_succ_eq_append_getElem h]
 simp [List.getD_eq_getElem?_getD, h]
structure NetS (n : NetL) : Prop where
 seqs : n.seqs.length ≤ 1048576
 ins : ∀ i, i < n.seqs.length → (n.seqs.getD i default).ins.length ≤ 1048576
 ands : n.ands.length ≤ 1048576
 outs : n.outs.length ≤ 1048576
structure NetB (x : NetA) : Prop where
 inp : -1000000000000 ≤ x.inputs ∧ x.inputs ≤ 1000000000000
 seqs : x.seqs.length ≤ 1000000000000
 ands : x.ands.length ≤ 1000000000000
theorem nodesL_eq (x : NetA) : nodesL x.n = 1 + x.inputs + x.seqs.length + x.ands.length := by unfold nodesL; rw [x.slen]; rfl
theorem firstAndL_eq (x : NetA) : firstAndL x.n = 1 + x.inputs + x.seqs.length := by unfold firstAndL; rw [x.slen]; rfl
theorem sizeOk_iff (x : NetA) : sizeOk x.n ↔ (0 ≤ x.inputs ∧ x.inputs ≤ 20) ∧ x.seqs.length ≤ 12 ∧ x.ands.length ≤ 300 ∧ x.outs.length ≤ 16 := by unfold sizeOk; rw [x.slen]; rfl
theorem sizeOk_b {x : NetA} (h : sizeOk x.n) : NetB x := by rw [sizeOk_iff] at h; exact ⟨by omega, by omega, by omega⟩
theorem rootsTo_bound {x : NetA} (hs : sizeOk x.n) {m : Nat} (hm : m ≤ x.seqs.length) (h : ∀ j, j < m → seqOkP (x.seqs.getD j default).s) : ∀ i, i ≤ m → (rootsTo x.n i).length ≤ 100 := fun i hi => by
 rw [sizeOk_iff] at hs
 have := rootsTo_len (n := x.n) (i := i) fun j hj => by rw [x.sget]; exact h j (by omega)
 have h2 : x.n.outs.length = x.outs.length := rfl
 omega
theorem NetOkP.bound {x : NetA} (h : NetOkP x.n) : ∀ i, i ≤ x.seqs.length → (rootsTo x.n i).length ≤ 100 :=
 rootsTo_bound h.size (Nat.le_refl _) fun j hj => by have := h.seqs j (by rw [x.slen]; exact hj); rwa [x.sget] at this
theorem NetOkP.size' {x : NetA} (h : NetOkP x.n) : (0 ≤ x.inputs ∧ x.inputs ≤ 20) ∧ x.seqs.length ≤ 12 ∧ x.ands.length ≤ 300 ∧ x.outs.length ≤ 16 := (sizeOk_iff x).1 h.size
theorem NetOkP.b {x : NetA} (h : NetOkP x.n) : NetB x := sizeOk_b h.size
theorem NetOkP.ins {x : NetA} (h : NetOkP x.n) {i : Nat} (hi : i < x.seqs.length) : 1 ≤ (x.seqs.getD i default).ins.length ∧ (x.seqs.getD i default).ins.length ≤ 4 := by
 have h1 := h.seqs i (by rw [x.slen]; exact hi)
 rw [x.sget] at h1
 have h2 : (x.seqs.getD i default).s.ins = (x.seqs.getD i default).ins := rfl
 rcases h1 with ⟨_, _, h1⟩ | ⟨_, _, h1⟩ <;> rw [h2] at h1 <;> omega
theorem NetOkP.S {x : NetA} (h : NetOkP x.n) : NetS x.n := by
 have h1 := h.size'
 refine ⟨by rw [x.slen]; omega, fun i hi => ?_, ?_, ?_⟩
 ·rw [x.slen] at hi
  have := h.ins hi
  rw [x.sins]; omega
 ·show x.ands.length ≤ _; omega
 ·show x.outs.length ≤ _; omega
end Go.Xw
end
