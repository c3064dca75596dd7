/- Worlds as lists of resources in blocks of their own: what holds of them, and how calls, stores and new blocks change them; each under its stated conditions. -/
import Derived.Test.YtehopdjfgcnkgaaMem
set_option linter.all false
namespace Go.Xw
open Go.RowKit

/-- only the blocks of ids may differ, and there may be new ones -/
structure Chg (ids : List Nat) (w w' : World) : Prop where
  os : w'.os = w.os
  tape : w'.tape = w.tape
  output : w'.output = w.output
  size : w.heap.size ≤ w'.heap.size
  block : ∀ k, k < w.heap.size → k ∉ ids → w'.heap[k]? = w.heap[k]?

theorem Chg.of_ext {ids : List Nat} {w w' : World} (h : Ext w w') : Chg ids w w' := ⟨h.os, h.tape, h.output, h.size, fun k hk _ => Below.block h k hk⟩
theorem Chg.of_grown {a : Option Addr} {w w' : World} (h : w.grownBy w' (blk a)) : Chg (blk a).toList w w' :=
  ⟨h.os, h.tape, h.output, h.size, fun k hk hn => h.block k hk fun he => hn (by rw [← he]; simp)⟩
theorem Chg.of_grown1 {b : Nat} {w w' : World} (h : w.grownBy w' (some b)) : Chg [b] w w' :=
  ⟨h.os, h.tape, h.output, h.size, fun k hk hn => h.block k hk fun he => hn (by injection he with he; simp [he])⟩

structure Res where
  ids : List Nat
  P : World → Prop
  st : ∀ {w w' : World}, (∀ k, k ∈ ids → w'.heap[k]? = w.heap[k]?) → P w → P w'
  lt : ∀ {w : World}, P w → ∀ k, k ∈ ids → k < w.heap.size

/-- w extends w0 by blocks among which those of L hold what L says -/
structure Hp (w0 w : World) (L : List Res) : Prop where
  x : Ext w0 w
  nd : (L.flatMap Res.ids).Nodup
  lo : ∀ k, k ∈ L.flatMap Res.ids → w0.heap.size ≤ k
  h : ∀ R, R ∈ L → R.P w

theorem flatMap_sub {α β : Type} {f : α → List β} : ∀ {l l' : List α}, l.Sublist l' → (l.flatMap f).Sublist (l'.flatMap f)
  | _, _, .slnil => .slnil
  | _, _, .cons a h => by rw [List.flatMap_cons]; exact (flatMap_sub h).trans (List.sublist_append_right _ _)
  | _, _, .cons_cons a h => by rw [List.flatMap_cons, List.flatMap_cons]; exact (flatMap_sub h).append_left _

theorem Hp.nil (w : World) : Hp w w [] := ⟨Ext.refl _, by simp, by simp, by simp⟩
theorem Hp.of_ext {w0 w : World} (h : Ext w0 w) : Hp w0 w [] := ⟨h, by simp, by simp, by simp⟩

section
variable {w0 w w' : World} {L L' M : List Res} {R R' R1 R2 A B C D E F G H : Res}

theorem Hp.lts (h : Hp w0 w L) : ∀ k, k ∈ L.flatMap Res.ids → k < w.heap.size := fun k hk => by
  obtain ⟨R, hR, hk⟩ := List.mem_flatMap.1 hk
  exact R.lt (h.h R hR) k hk

theorem Hp.perm (h : Hp w0 w L) (hp : L.Perm L') : Hp w0 w L' :=
  ⟨h.x, (hp.flatMap_right _).nodup_iff.1 h.nd, fun k hk => h.lo k ((hp.flatMap_right _).mem_iff.2 hk), fun R hR => h.h R (hp.mem_iff.2 hR)⟩
theorem Hp.sub (h : Hp w0 w L) (hs : L'.Sublist L) : Hp w0 w L' :=
  ⟨h.x, h.nd.sublist (flatMap_sub hs), fun k hk => h.lo k ((flatMap_sub hs).subset hk), fun R hR => h.h R (hs.subset hR)⟩
theorem Hp.drop (h : Hp w0 w (R :: L)) : Hp w0 w L := h.sub (List.sublist_cons_self _ _)

/-- the world grows by what belongs to nobody -/
theorem Hp.ext (h : Hp w0 w L) (hx : Ext w w') : Hp w0 w' L :=
  ⟨h.x.trans hx, h.nd, h.lo, fun R hR => R.st (fun k hk => Below.block hx k (R.lt (h.h R hR) k hk)) (h.h R hR)⟩
/-- a call gave new resources -/
theorem Hp.call (h : Hp w0 w L) (hc : Hp w w' M) : Hp w0 w' (M ++ L) := by
  have h2 := h.ext hc.x
  refine ⟨h2.x, ?_, fun k hk => ?_, fun R hR => ?_⟩
  · rw [List.flatMap_append]
    exact List.nodup_append.2 ⟨hc.nd, h.nd, fun a ha b hb he => by
      have h3 := hc.lo a ha
      have h4 := h.lts b hb
      omega⟩
  · rw [List.flatMap_append, List.mem_append] at hk
    rcases hk with hk | hk
    · exact Nat.le_trans h.x.size (hc.lo k hk)
    · exact h.lo k hk
  · rcases List.mem_append.1 hR with hR | hR
    · exact hc.h R hR
    · exact h2.h R hR
theorem Hp.call1 (h : Hp w0 w L) (hc : Hp w w' [R]) : Hp w0 w' (R :: L) := h.call hc
theorem Hp.call2 (h : Hp w0 w L) (hc : Hp w w' [R1, R2]) : Hp w0 w' (R1 :: R2 :: L) := h.call hc
theorem Hp.trans (h : Hp w0 w []) (hc : Hp w w' L) : Hp w0 w' L := by
  have := h.call hc
  rwa [List.append_nil] at this

/-- the resource in front is changed -/
theorem Hp.upd (h : Hp w0 w (R :: L)) (hc : Chg R.ids w w') (hP : R'.P w') (hi : ∀ k, k ∈ R'.ids → k ∈ R.ids ∨ w.heap.size ≤ k) (hn : R'.ids.Nodup) : Hp w0 w' (R' :: L) := by
  have hnd := h.nd
  rw [List.flatMap_cons, List.nodup_append] at hnd
  obtain ⟨n1, n2, n3⟩ := hnd
  have hlt := h.lts
  have hlo := h.lo
  simp only [List.flatMap_cons, List.mem_append] at hlt hlo
  refine ⟨?_, ?_, fun k hk => ?_, fun Q hQ => ?_⟩
  · exact ⟨hc.os.trans h.x.os, hc.tape.trans h.x.tape, hc.output.trans h.x.output, Nat.le_trans h.x.size hc.size, fun k hk => by
      rw [hc.block k (Nat.lt_of_lt_of_le hk h.x.size) (fun hm => by have := hlo k (.inl hm); omega)]
      exact Below.block h.x k hk⟩
  · rw [List.flatMap_cons]
    refine List.nodup_append.2 ⟨hn, n2, fun a ha b hb he => ?_⟩
    subst he
    rcases hi a ha with hi | hi
    · exact n3 a hi a hb rfl
    · have := hlt a (.inr hb); omega
  · simp only [List.flatMap_cons, List.mem_append] at hk
    rcases hk with hk | hk
    · rcases hi k hk with hi | hi
      · exact hlo k (.inl hi)
      · exact Nat.le_trans h.x.size hi
    · exact hlo k (.inr hk)
  · rcases List.mem_cons.1 hQ with rfl | hQ
    · exact hP
    · have hq : ∀ k, k ∈ Q.ids → k ∈ L.flatMap Res.ids := fun k hk => List.mem_flatMap.2 ⟨Q, hQ, hk⟩
      exact Q.st (fun k hk => hc.block k (hlt k (.inr (hq k hk))) (fun hm => n3 k hm k (hq k hk) rfl)) (h.h Q (List.mem_cons_of_mem _ hQ))

/-! bringing a resource to the front, and back -/
theorem Hp.f1 (h : Hp w0 w (A :: R :: L)) : Hp w0 w (R :: A :: L) := h.perm (List.Perm.swap _ _ _)
theorem Hp.f2 (h : Hp w0 w (A :: B :: R :: L)) : Hp w0 w (R :: A :: B :: L) := h.perm (List.perm_middle (l₁ := [A, B]))
theorem Hp.f3 (h : Hp w0 w (A :: B :: C :: R :: L)) : Hp w0 w (R :: A :: B :: C :: L) := h.perm (List.perm_middle (l₁ := [A, B, C]))
theorem Hp.f4 (h : Hp w0 w (A :: B :: C :: D :: R :: L)) : Hp w0 w (R :: A :: B :: C :: D :: L) := h.perm (List.perm_middle (l₁ := [A, B, C, D]))
theorem Hp.f5 (h : Hp w0 w (A :: B :: C :: D :: E :: R :: L)) : Hp w0 w (R :: A :: B :: C :: D :: E :: L) := h.perm (List.perm_middle (l₁ := [A, B, C, D, E]))
theorem Hp.f6 (h : Hp w0 w (A :: B :: C :: D :: E :: F :: R :: L)) : Hp w0 w (R :: A :: B :: C :: D :: E :: F :: L) := h.perm (List.perm_middle (l₁ := [A, B, C, D, E, F]))
theorem Hp.f7 (h : Hp w0 w (A :: B :: C :: D :: E :: F :: G :: R :: L)) : Hp w0 w (R :: A :: B :: C :: D :: E :: F :: G :: L) := h.perm (List.perm_middle (l₁ := [A, B, C, D, E, F, G]))
theorem Hp.b1 (h : Hp w0 w (R :: A :: L)) : Hp w0 w (A :: R :: L) := h.f1
theorem Hp.b2 (h : Hp w0 w (R :: A :: B :: L)) : Hp w0 w (A :: B :: R :: L) := h.perm (List.perm_middle (l₁ := [A, B])).symm
theorem Hp.b3 (h : Hp w0 w (R :: A :: B :: C :: L)) : Hp w0 w (A :: B :: C :: R :: L) := h.perm (List.perm_middle (l₁ := [A, B, C])).symm
theorem Hp.b4 (h : Hp w0 w (R :: A :: B :: C :: D :: L)) : Hp w0 w (A :: B :: C :: D :: R :: L) := h.perm (List.perm_middle (l₁ := [A, B, C, D])).symm
theorem Hp.b5 (h : Hp w0 w (R :: A :: B :: C :: D :: E :: L)) : Hp w0 w (A :: B :: C :: D :: E :: R :: L) := h.perm (List.perm_middle (l₁ := [A, B, C, D, E])).symm
theorem Hp.b6 (h : Hp w0 w (R :: A :: B :: C :: D :: E :: F :: L)) : Hp w0 w (A :: B :: C :: D :: E :: F :: R :: L) := h.perm (List.perm_middle (l₁ := [A, B, C, D, E, F])).symm
theorem Hp.b7 (h : Hp w0 w (R :: A :: B :: C :: D :: E :: F :: G :: L)) : Hp w0 w (A :: B :: C :: D :: E :: F :: G :: R :: L) := h.perm (List.perm_middle (l₁ := [A, B, C, D, E, F, G])).symm

theorem Hp.g0 (h : Hp w0 w (R :: L)) : R.P w := h.h R (by simp)
theorem Hp.g1 (h : Hp w0 w (A :: R :: L)) : R.P w := h.h R (by simp)
theorem Hp.g2 (h : Hp w0 w (A :: B :: R :: L)) : R.P w := h.h R (by simp)
theorem Hp.g3 (h : Hp w0 w (A :: B :: C :: R :: L)) : R.P w := h.h R (by simp)
theorem Hp.g4 (h : Hp w0 w (A :: B :: C :: D :: R :: L)) : R.P w := h.h R (by simp)
theorem Hp.g5 (h : Hp w0 w (A :: B :: C :: D :: E :: R :: L)) : R.P w := h.h R (by simp)
theorem Hp.g6 (h : Hp w0 w (A :: B :: C :: D :: E :: F :: R :: L)) : R.P w := h.h R (by simp)
theorem Hp.g7 (h : Hp w0 w (A :: B :: C :: D :: E :: F :: G :: R :: L)) : R.P w := h.h R (by simp)
end

/-! ### the resources -/

/-- a block that is known whole -/
def rB (b : Nat) (t : TypeId) (cs : List Value) : Res where
  ids := [b]
  P w := Blk w b t cs
  st := fun h hb => by unfold Blk at hb ⊢; rw [h _ (by simp)]; exact hb
  lt := fun hb k hk => by simp at hk; subst hk; exact hb.lt

theorem Own.st {α : Type} {w w' : World} {B : Nat} {e : TypeId} {sz : Nat} {enc : α → List Value} {a : Option Addr} {c : Nat} {L : List α} (h : ∀ k, k ∈ (blk a).toList → w'.heap[k]? = w.heap[k]?) (ho : Own w B e sz enc a c L) : Own w' B e sz enc a c L := by
  refine ⟨ho.1, ?_⟩
  rcases ho.2 with hn | ⟨g, cap, cur, hv, hb, hgg, rest⟩
  · exact .inl hn
  · refine .inr ⟨g, cap, cur, hv, hb, ?_, rest⟩
    injection hv with h1 h2 h3
    subst h1
    rw [h g (by simp [blk])]
    exact hgg

/-- a row of the call's own -/
def rO {α : Type} (e : TypeId) (sz : Nat) (enc : α → List Value) (a : Option Addr) (c : Nat) (L : List α) : Res where
  ids := (blk a).toList
  P w := Own w 0 e sz enc a c L
  st := Own.st
  lt := fun ho k hk => by simp at hk; exact (ho.lt hk).2

/-- several resources as one -/
def rAll (Rs : List Res) : Res where
  ids := Rs.flatMap Res.ids
  P w := ∀ R, R ∈ Rs → R.P w
  st := fun h hP R hR => R.st (fun k hk => h k (List.mem_flatMap.2 ⟨R, hR, hk⟩)) (hP R hR)
  lt := fun hP k hk => by
    obtain ⟨R, hR, hk⟩ := List.mem_flatMap.1 hk
    exact R.lt (hP R hR) k hk

section
variable {w0 w w' : World} {L M Rs : List Res} {R : Res}

theorem Hp.pack (h : Hp w0 w (Rs ++ L)) : Hp w0 w (rAll Rs :: L) := by
  refine ⟨h.x, ?_, ?_, fun R hR => ?_⟩
  · have := h.nd; rw [List.flatMap_append] at this; exact this
  · have := h.lo; rw [List.flatMap_append] at this; exact this
  · rcases List.mem_cons.1 hR with rfl | hR
    · exact fun Q hQ => h.h Q (List.mem_append_left _ hQ)
    · exact h.h R (List.mem_append_right _ hR)
theorem Hp.unpack (h : Hp w0 w (rAll Rs :: L)) : Hp w0 w (Rs ++ L) := by
  refine ⟨h.x, ?_, ?_, fun R hR => ?_⟩
  · have := h.nd; rw [List.flatMap_append]; exact this
  · have := h.lo; rw [List.flatMap_append]; exact this
  · rcases List.mem_append.1 hR with hR | hR
    · exact h.h (rAll Rs) (by simp) R hR
    · exact h.h R (List.mem_cons_of_mem _ hR)

/-- one of several is taken out, and another may be laid in its stead -/
theorem Hp.allAt (h : Hp w0 w (rAll Rs :: L)) {i : Nat} (hi : Rs[i]? = some R) : ∃ Q, Hp w0 w (R :: Q :: L) ∧ ∀ w' L' R', Hp w0 w' (R' :: Q :: L') → Hp w0 w' (rAll (Rs.set i R') :: L') := by
  have hlt := (List.getElem?_eq_some_iff.1 hi).1
  have e1 : Rs = Rs.take i ++ R :: Rs.drop (i + 1) := by
    have h2 := (List.getElem?_eq_some_iff.1 hi).2
    rw [← h2, ← List.drop_eq_getElem_cons hlt, List.take_append_drop]
  have e2 : ∀ Q, Rs.set i Q = Rs.take i ++ Q :: Rs.drop (i + 1) := fun Q => by rw [List.set_eq_take_append_cons_drop, if_pos hlt]
  refine ⟨rAll (Rs.take i ++ Rs.drop (i + 1)), ?_, fun w' L' R' hq => ?_⟩
  · have h3 := h.unpack
    rw [e1, List.append_assoc] at h3
    have h4 : Hp w0 w ((Rs.take i ++ Rs.drop (i + 1)) ++ (R :: L)) := h3.perm (by
      rw [List.append_assoc]
      exact (List.Perm.append_left _ (by rw [List.cons_append]; exact List.perm_middle.symm)))
    exact h4.pack.f1
  · refine Hp.pack ?_
    rw [e2, List.append_assoc]
    have h5 : Hp w0 w' ((Rs.take i ++ Rs.drop (i + 1)) ++ (R' :: L')) := hq.f1.unpack
    refine h5.perm ?_
    rw [List.append_assoc]
    exact (List.Perm.append_left _ (by rw [List.cons_append]; exact List.perm_middle))

/-- a new block -/
theorem Hp.blkN {b : Nat} {t : TypeId} {cs : List Value} (h : Hp w0 w L) (hb : b = w.heap.size) (hx : Ext w w') (hk : Blk w' b t cs) : Hp w0 w' (rB b t cs :: L) :=
  h.call1 ⟨hx, by simp [rB], fun k hk => by simp [rB] at hk; omega, fun R hR => by simp at hR; subst hR; exact hk⟩
/-- a new row -/
theorem Hp.ownN {α : Type} {e : TypeId} {sz : Nat} {enc : α → List Value} {a : Option Addr} {c : Nat} {X : List α} (h : Hp w0 w L) (hx : Ext w w') (ho : Own w' w.heap.size e sz enc a c X) : Hp w0 w' (rO e sz enc a c X :: L) :=
  h.call1 ⟨hx, by cases hk : blk a <;> simp [rO, hk], fun k hk => by
    simp [rO] at hk; exact (ho.lt hk).1, fun R hR => by simp at hR; subst hR; exact ho.mono (Nat.zero_le _)⟩
/-- a block is stored into -/
theorem Hp.blkS {b : Nat} {t : TypeId} {cs cs' : List Value} (h : Hp w0 w (rB b t cs :: L)) (hk : Blk w' b t cs') (g : w.grownBy w' (some b)) : Hp w0 w' (rB b t cs' :: L) :=
  h.upd (Chg.of_grown1 g) hk (fun k hk => .inl hk) (by simp [rB])
/-- a row is stored into, or has grown (then its block may be a new one) -/
theorem Hp.ownS {α : Type} {e : TypeId} {sz : Nat} {enc : α → List Value} {a : Option Addr} {c : Nat} {X X' : List α} (h : Hp w0 w (rO e sz enc a c X :: L)) (ho : Own w' 0 e sz enc a c X') (g : w.grownBy w' (blk a)) : Hp w0 w' (rO e sz enc a c X' :: L) :=
  h.upd (Chg.of_grown g) ho (fun k hk => .inl hk) (by cases hk : blk a <;> simp [rO, hk])

theorem Hp.own {α : Type} {e : TypeId} {sz : Nat} {enc : α → List Value} {a : Option Addr} {c : Nat} {X : List α} (h : Hp w0 w (rO e sz enc a c X :: L)) : Own w 0 e sz enc a c X := h.g0
end

/-- the slice with address a reads as X -/
class Rd (w : World) (a : Option Addr) {α : outParam Type} [Inhabited α] (s : outParam Nat) (enc : outParam (α → List Value)) (X : outParam (List α)) : Prop where
  h : Sl w a X.length s (fL enc X)
class RdH (w0 : World) (L : List Res) (a : Option Addr) {α : outParam Type} [Inhabited α] (s : outParam Nat) (enc : outParam (α → List Value)) (X : outParam (List α)) : Prop where
  h : ∀ w, Hp w0 w L → Sl w a X.length s (fL enc X)

theorem nn_of {w0 w : World} {L : List Res} (hp : Hp w0 w L) {a : Option Addr} {α : Type} [Inhabited α] {s : Nat} {enc : α → List Value} {X : List α} [h : RdH w0 L a s enc X] (hn : 0 < X.length) : a ≠ none := (h.h w hp).1 hn

end Go.Xw
