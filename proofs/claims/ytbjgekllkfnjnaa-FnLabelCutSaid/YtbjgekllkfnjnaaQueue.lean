/- A row of the call's own of which a slice holds the end: it is cut at its front and grows at its end; each under its stated conditions. -/
import Derived.Test.YtbjgekllkfnjnaaKeys
import Derived.ArgAppend
import Derived.Laws.CopyRow
set_option linter.all false
namespace Go.Xw
open Go.RowKit
set_option maxHeartbeats 1000000
section
variable {α : Type}
def OwnQ (w : World) (e : TypeId) (s : Nat) (enc : α → List Value) (a : Option Addr) (c : Nat) (X : List α) : Prop :=
 (a = none ∧ X = [] ∧ c = 0) ∨ ∃ g off cur, a = some ⟨g, off, none⟩ ∧ w.heap[g]? = some (.cells cur e (0, 0)) ∧ X.length ≤ c ∧ c ≤ maxLen ∧ off + c * s ≤ cur.size ∧ (cur.toList.drop off).take (X.length * s) = X.flatMap enc
theorem Own.toQ {w : World} {B : Nat} {e : TypeId} {s : Nat} {enc : α → List Value} {a : Option Addr} {c : Nat} {X : List α} (h : Own w B e s enc a c X) : OwnQ w e s enc a c X := by
 rcases h.2 with ⟨h1, h2⟩ | ⟨g, cap, cur, h1, _, h3, h4, h5, h6, h7⟩
 ·simp only [Value.slice.injEq] at h1
  exact .inl ⟨h1.1, List.length_eq_zero_iff.1 h2, h1.2.2⟩
 ·simp only [Value.slice.injEq] at h1
  obtain ⟨rfl, _, rfl⟩ := h1
  exact .inr ⟨g, 0, cur, rfl, h3, h4, h5, by omega, by simpa using h7⟩
def rQ (e : TypeId) (s : Nat) (enc : α → List Value) (a : Option Addr) (c : Nat) (X : List α) : Res where
 ids := (blk a).toList
 P w := OwnQ w e s enc a c X
 st := fun {w w'} h hP => by
  rcases hP with hn | ⟨g, off, cur, rfl, h1, h2⟩
  ·exact .inl hn
  ·exact .inr ⟨g, off, cur, rfl, by rw [h g (by simp [blk])]; exact h1, h2⟩
 lt := fun {w} hP k hk => by
  rcases hP with ⟨rfl, _⟩ | ⟨g, off, cur, rfl, h1, _⟩
  ·simp [blk] at hk
  ·simp [blk] at hk
   subst hk
   rcases Nat.lt_or_ge k w.heap.size with h | h
   ·exact h
   ·rw [Array.getElem?_eq_none h] at h1; cases h1
theorem Hp.toQ {w0 w : World} {L : List Res} {e : TypeId} {s : Nat} {enc : α → List Value} {a : Option Addr} {c : Nat} {X : List α} (h : Hp w0 w (rO e s enc a c X :: L)) : Hp w0 w (rQ e s enc a c X :: L) :=
 h.upd ⟨rfl, rfl, rfl, Nat.le_refl _, fun _ _ _ => rfl⟩ h.g0.toQ (fun k hk => .inl hk) (by cases hk : Go.Xw.blk a <;> simp [rQ, hk])
theorem OwnQ.tail {w : World} {e : TypeId} {s : Nat} {enc : α → List Value} {a : Option Addr} {c : Nat} {x : α} {X : List α} (h : OwnQ w e s enc a c (x :: X)) (hs : (enc x).length = s) : OwnQ w e s enc (subA a c s 1) (c - 1) X := by
 rcases h with ⟨_, h, _⟩ | ⟨g, off, cur, rfl, h1, h2, h3, h4, h5⟩
 ·cases h
 ·simp only [List.length_cons] at h2 h5
  have hc1 : 1 ≤ c := by omega
  have hcs : c * s = (c - 1) * s + s := by
   rw [← Nat.succ_mul]; congr 1; omega
  by_cases hc : c = 1
  ·subst hc
   have hX : X = [] := List.length_eq_zero_iff.1 (by omega)
   subst hX
   unfold subA
   rw [if_pos rfl]
   exact .inr ⟨g, off, cur, rfl, h1, by simp, by omega, by omega, by simp⟩
  ·unfold subA
   rw [if_neg hc]
   refine .inr ⟨g, off + s, cur, by simp [Addr.add], h1, by omega, by omega, by omega, ?_⟩
   have h6 := congrArg (List.drop s) h5
   rw [List.drop_take, List.drop_drop, List.flatMap_cons, List.drop_left' hs] at h6
   rw [← h6]
   congr 1
   rw [Nat.add_mul]; omega
theorem queue_append {P : Program} {t ty e : TypeId} {i : TypeInfo} {z : Value} {s bytes : Nat} (ht : P.underlying t = some (.slice e)) (hi : P.info? e = some i) (hz : i.zero = some z) (hsize : i.size = s) (hby : i.bytes = bytes) (hzs : z.cells.size = s) (hsz : 0 < s)
  {enc : α → List Value} (he : ∀ x, (enc x).length = s) (h1 : ∀ x u, u ∈ enc x → u.oneCell' = true) {w0 w : World} {L : List Res} {a : Option Addr} {c : Nat} {X : List α} (hp : Hp w0 w (rQ e s enc a c X :: L)) (ha : a ≠ none)
  {sa : Addr} {sc : Nat} {y : α} (hy : ∀ j u, (enc y)[j]? = some u → w.cell? (sa.add j) = some u) (h63 : X.length + 1 ≤ maxLen) (hbytes : (X.length + 1) * bytes ≤ 140737488355328) :
  ∃ a' c' w', (Builtin.append_ #[t, t] ty #[.slice a X.length c, .slice (some sa) 1 sc]).run P w = .ok (.slice a' (X.length + 1) c') w' ∧ a' ≠ none ∧ Hp w0 w' (rQ e s enc a' c' (X ++ [y]) :: L) := by
 subst hsize
 subst hby
 have hP : OwnQ w e i.size enc a c X := hp.g0
 have hfl := flat_len he X
 rcases hP with ⟨hn, _⟩ | ⟨g, off, cur, rfl, hg, hnc, hcm, hcs, htake⟩
 ·exact absurd hn ha
 have hl : (enc y).length = 1 * i.size := by rw [he]; omega
 have hflat : (X ++ [y]).flatMap enc = X.flatMap enc ++ enc y := by simp
 by_cases hroom : X.length + 1 ≤ c
 ·have hmul : (X.length + 1) * i.size ≤ c * i.size := Nat.mul_le_mul_right _ hroom
  rw [Nat.succ_mul] at hmul
  have hfc := run_firstCells_some (P := P) w i.size 1 sa 1 sc (enc y) hl hy
  have hst := run_storeCells_at (P := P) g (off + X.length * i.size) e (enc y) 0 cur w hg (by rw [hl]; omega) (fun u hu => h1 y u hu)
  have hrun : (Builtin.append_ #[t, t] ty #[.slice (some ⟨g, off, none⟩) X.length c, .slice (some sa) 1 sc]).run P w = .ok (.slice (some ⟨g, off, none⟩) (X.length + 1) c) (w.setRow g (cur.toList.take (off + X.length * i.size + 0) ++ enc y ++ cur.toList.drop (off + X.length * i.size + 0 + (enc y).length)).toArray) := by
   simp [Builtin.append_, run_underlying ht, sizeOf, typeInfo, hi, Builtin.lenOf, hroom, hfc, Addr.add_lit, hst]
  refine ⟨_, _, _, hrun, by simp, hp.upd ⟨rfl, rfl, rfl, by simp, fun k hk hn => ?_⟩ ?_ (fun k hk => .inl hk) (by simp [rQ, Go.Xw.blk])⟩
  ·exact setRow_other w g k _ (fun e => hn (by simp [rQ, Go.Xw.blk, e]))
  ·refine .inr ⟨g, off, _, rfl, setRow_heap w g cur _ e _ hg, by simp; omega, hcm, ?_, ?_⟩
   ·simp only [List.size_toArray, List.length_append, List.length_take, List.length_drop, Array.length_toList, hl]
    omega
   ·have hsz2 : cur.toList.length = cur.size := Array.length_toList
    rw [hflat, ← htake]
    simp only [Nat.add_zero, List.append_assoc]
    rw [List.drop_append_of_le_length (by rw [List.length_take]; omega), List.drop_take, Nat.add_sub_cancel_left]
    have hlt : ((cur.toList.drop off).take (X.length * i.size)).length = X.length * i.size := by rw [List.length_take, List.length_drop]; omega
    rw [← List.append_assoc]
    have : (X ++ [y]).length * i.size = ((cur.toList.drop off).take (X.length * i.size) ++ enc y).length := by
     have h9 : ((cur.toList.drop off).take (X.length * i.size) ++ enc y).length = X.length * i.size + 1 * i.size := by rw [List.length_append, hlt, hl]
     rw [h9]; simp [Nat.add_mul]
    rw [this]
    exact List.take_left
 ·have holds : ∀ j u, (X.flatMap enc)[j]? = some u → w.cell? ((⟨g, off, none⟩ : Addr).add j) = some u := fun j u hu => by
   have hj : j < X.length * i.size := by rw [← hfl]; exact (List.getElem?_eq_some_iff.1 hu).1
   rw [← htake, List.getElem?_take, if_pos hj, List.getElem?_drop] at hu
   have hc : w.cell? ⟨g, off + j, none⟩ = some u := by
    simp only [World.cell?, hg]
    simpa using hu
   rw [show (⟨g, off, none⟩ : Addr).add j = ⟨g, off + j, none⟩ by unfold Addr.add; split <;> simp_all]
   exact hc
  obtain ⟨v', w', hr, ho, hgr⟩ := run_append_arg_grows (P := P) (w := w) t ty e i z i.size i.bytes ht hi hz rfl rfl hzs hsz ⟨g, off, none⟩ X.length c (X.flatMap enc) hfl holds sa 1 sc (enc y) hl hy (by omega) h63 hbytes
  rcases ho.2 with ⟨_, h2⟩ | ⟨g', cap, cur', rfl, hge, hg', h4, h5, h6, h7⟩
  ·omega
  ·refine ⟨_, _, _, hr, by simp, hp.upd (Chg.of_grown (a := some ⟨g, off, none⟩) ⟨hgr.os, hgr.tape, hgr.output, hgr.size, fun k hk _ => hgr.block k hk (by simp)⟩) ?_ (fun k hk => ?_) (by simp [rQ, Go.Xw.blk])⟩
   ·refine .inr ⟨g', 0, cur', rfl, hg', by simpa using h4, h5, by omega, ?_⟩
    rw [hflat, ← h7]
    simp
   ·simp [rQ, Go.Xw.blk] at hk
    subst hk
    exact .inr hge
end
end Go.Xw
