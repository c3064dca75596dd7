/- Worlds as lists of resources in blocks of their own: what holds of them, and how calls, stores and new blocks change them; each under its stated conditions. -/
import Derived.Test.YtiepmliokblkjaaMem
set_option linter.all false
namespace Go.Xw
open Go.RowKit
theorem Chg.of_ext {ids : List Nat} {w w' : World} (h : Ext w w') : Chg ids w w' := ⟨h.os, h.tape, h.output, h.size, fun k hk _ => Below.block h k hk⟩
theorem Chg.of_grown {a : Option Addr} {w w' : World} (h : w.grownBy w' (blk a)) : Chg (blk a).toList w w' :=
 ⟨h.os, h.tape, h.output, h.size, fun k hk hn => h.block k hk fun he => hn (by rw [← he]; simp)⟩
theorem Chg.of_grown1 {b : Nat} {w w' : World} (h : w.grownBy w' (some b)) : Chg [b] w w' :=
 ⟨h.os, h.tape, h.output, h.size, fun k hk hn => h.block k hk fun he => hn (by injection he with he; simp [he])⟩
theorem Own.st {α : Type} {w w' : World} {B : Nat} {e : TypeId} {sz : Nat} {enc : α → List Value} {a : Option Addr} {c : Nat} {L : List α} (h : ∀ k, k ∈ (blk a).toList → w'.heap[k]? = w.heap[k]?) (ho : Own w B e sz enc a c L) : Own w' B e sz enc a c L := by
 refine ⟨ho.1, ?_⟩
 rcases ho.2 with hn | ⟨g, cap, cur, hv, hb, hgg, rest⟩
 ·exact .inl hn
 ·refine .inr ⟨g, cap, cur, hv, hb, ?_, rest⟩
  injection hv with h1 h2 h3
  subst h1
  rw [h g (by simp [blk])]
  exact hgg
def rO {α : Type} (e : TypeId) (sz : Nat) (enc : α → List Value) (a : Option Addr) (c : Nat) (L : List α) : Res where
 ids := (blk a).toList
 P w := Own w 0 e sz enc a c L
 st := Own.st
 lt := fun ho k hk => by simp at hk; exact (ho.lt hk).2
def rAll (Rs : List Res) : Res where
 ids := Rs.flatMap Res.ids
 P w := ∀ R, R ∈ Rs → R.P w
 st := fun h hP R hR => R.st (fun k hk => h k (List.mem_flatMap.2 ⟨R, hR, hk⟩)) (hP R hR)
 lt := fun hP k hk => by
  obtain ⟨R, hR, hk⟩ := List.mem_flatMap.1 hk
  exact R.lt (hP R hR) k hk
section
variable {w0 w w' : World} {L M Rs : List Res} {R : Res}
theorem Hp.pack (h : Hp w0 w (Rs ++ L)) : Hp w0 w (rAll Rs :: L) := by
 refine ⟨h.x, ?_, ?_, fun R hR => ?_⟩
 ·have := h.nd; rw [List.flatMap_append] at this; exact this
 ·have := h.lo; rw [List.flatMap_append] at this; exact this
 ·rcases List.mem_cons.1 hR with rfl | hR
  ·exact fun Q hQ => h.h Q (List.mem_append_left _ hQ)
  ·exact h.h R (List.mem_append_right _ hR)
theorem Hp.unpack (h : Hp w0 w (rAll Rs :: L)) : Hp w0 w (Rs ++ L) := by
 refine ⟨h.x, ?_, ?_, fun R hR => ?_⟩
 ·have := h.nd; rw [List.flatMap_append]; exact this
 ·have := h.lo; rw [List.flatMap_append]; exact this
 ·rcases List.mem_append.1 hR with hR | hR
  ·exact h.h (rAll Rs) (by simp) R hR
  ·exact h.h R (List.mem_cons_of_mem _ hR)
theorem Hp.allAt (h : Hp w0 w (rAll Rs :: L)) {i : Nat} (hi : Rs[i]? = some R) : ∃ Q, Hp w0 w (R :: Q :: L) ∧ ∀ w' L' R', Hp w0 w' (R' :: Q :: L') → Hp w0 w' (rAll (Rs.set i R') :: L') := by
 have hlt := (List.getElem?_eq_some_iff.1 hi).1
 have e1 : Rs = Rs.take i ++ R :: Rs.drop (i + 1) := by
  have h2 := (List.getElem?_eq_some_iff.1 hi).2
  rw [← h2, ← List.drop_eq_getElem_cons hlt, List.take_append_drop]
 have e2 : ∀ Q, Rs.set i Q = Rs.take i ++ Q :: Rs.drop (i + 1) := fun Q => by rw [List.set_eq_take_append_cons_drop, if_pos hlt]
 refine ⟨rAll (Rs.take i ++ Rs.drop (i + 1)), ?_, fun w' L' R' hq => ?_⟩
 ·have h3 := h.unpack
  rw [e1, List.append_assoc] at h3
  have h4 : Hp w0 w ((Rs.take i ++ Rs.drop (i + 1)) ++ (R :: L)) := h3.perm (by
   rw [List.append_assoc]
   exact (List.Perm.append_left _ (by rw [List.cons_append]; exact List.perm_middle.symm)))
  exact h4.pack.f1
 ·refine Hp.pack ?_
  rw [e2, List.append_assoc]
  have h5 : Hp w0 w' ((Rs.take i ++ Rs.drop (i + 1)) ++ (R' :: L')) := hq.f1.unpack
  refine h5.perm ?_
  rw [List.append_assoc]
  exact (List.Perm.append_left _ (by rw [List.cons_append]; exact List.perm_middle))
theorem Hp.ownN {α : Type} {e : TypeId} {sz : Nat} {enc : α → List Value} {a : Option Addr} {c : Nat} {X : List α} (h : Hp w0 w L) (hx : Ext w w') (ho : Own w' w.heap.size e sz enc a c X) : Hp w0 w' (rO e sz enc a c X :: L) :=
 h.call1 ⟨hx, by cases hk : blk a <;> simp [rO, hk], fun k hk => by
  simp [rO] at hk; exact (ho.lt hk).1, fun R hR => by simp at hR; subst hR; exact ho.mono (Nat.zero_le _)⟩
theorem Hp.blkS {b : Nat} {t : TypeId} {cs cs' : List Value} (h : Hp w0 w (rB b t cs :: L)) (hk : Blk w' b t cs') (g : w.grownBy w' (some b)) : Hp w0 w' (rB b t cs' :: L) :=
 h.upd (Chg.of_grown1 g) hk (fun k hk => .inl hk) (by simp [rB])
theorem Hp.ownS {α : Type} {e : TypeId} {sz : Nat} {enc : α → List Value} {a : Option Addr} {c : Nat} {X X' : List α} (h : Hp w0 w (rO e sz enc a c X :: L)) (ho : Own w' 0 e sz enc a c X') (g : w.grownBy w' (blk a)) : Hp w0 w' (rO e sz enc a c X' :: L) :=
 h.upd (Chg.of_grown g) ho (fun k hk => .inl hk) (by cases hk : blk a <;> simp [rO, hk])
theorem Hp.own {α : Type} {e : TypeId} {sz : Nat} {enc : α → List Value} {a : Option Addr} {c : Nat} {X : List α} (h : Hp w0 w (rO e sz enc a c X :: L)) : Own w 0 e sz enc a c X := h.g0
end
theorem Own.pre {α : Type} {enc : α → List Value} {e : TypeId} {s : Nat} {a : Option Addr} {c B : Nat} {w : World} {X Y : List α} (h : Own w B e s enc a c (X ++ Y)) (hl : ∀ x, (enc x).length = s) : Own w B e s enc a c X := by
 unfold Own at h ⊢
 have e1 : ∀ Z : List α, (Z.flatMap enc).length = Z.length * s := fun Z => by
  induction Z with
  | nil => simp
  | cons z Z ih => simp [ih, hl, Nat.succ_mul]; omega
 refine ⟨by simp [e1], ?_⟩
 rcases h.2 with hn | ⟨g, cap, cur, hv, hb, hgg, h1, h2, h3, h4⟩
 ·left
  simp only [Value.slice.injEq] at hn ⊢
  obtain ⟨⟨h1, h2, h3⟩, h4⟩ := hn
  simp at h4
  exact ⟨⟨h1, by simp [h4.1], h3⟩, by simp [h4.1]⟩
 ·simp only [Value.slice.injEq] at hv
  obtain ⟨rfl, _, rfl⟩ := hv
  refine .inr ⟨g, c, cur, rfl, hb, hgg, by simp at h1; omega, h2, h3, ?_⟩
  have h5 := congrArg (List.take (X.length * s)) h4
  rw [List.take_take, List.flatMap_append, List.take_append_of_le_length (by rw [e1]; exact Nat.le_refl _), List.take_of_length_le (l := X.flatMap enc) (by rw [e1]; exact Nat.le_refl _)] at h5
  rw [Nat.min_eq_left (by simp [Nat.add_mul])] at h5
  exact h5
class Rd (w : World) (a : Option Addr) {α : outParam Type} [Inhabited α] (s : outParam Nat) (enc : outParam (α → List Value)) (X : outParam (List α)) : Prop where
 h : Sl w a X.length s (fL enc X)
class RdH (w0 : World) (L : List Res) (a : Option Addr) {α : outParam Type} [Inhabited α] (s : outParam Nat) (enc : outParam (α → List Value)) (X : outParam (List α)) : Prop where
 h : ∀ w, Hp w0 w L → Sl w a X.length s (fL enc X)
theorem nn_of {w0 w : World} {L : List Res} (hp : Hp w0 w L) {a : Option Addr} {α : Type} [Inhabited α] {s : Nat} {enc : α → List Value} {X : List α} [h : RdH w0 L a s enc X] (hn : 0 < X.length) : a ≠ none := (h.h w hp).1 hn
end Go.Xw
