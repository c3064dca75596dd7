/- Texts that belong together; each under its stated conditions. -/
import Derived.Test.YtbjgekllkfnjnaaKeys
import Derived.ArgAppend
import Derived.Laws.CopyRow
set_option linter.all false
section
namespace Go.Xw
open Go.RowKit
set_option maxHeartbeats 1000000
section
variable {α : Type}
def OwnQ (w : World) (e : TypeId) (s : Nat) (enc : α → List Value) (a : Option Addr) (c : Nat) (X : List α) : Prop :=
 (a = none ∧ X = [] ∧ c = 0) ∨ ∃ g off cur, a = some ⟨g, off, none⟩ ∧ w.heap[g]? = some (.cells cur e (0, 0)) ∧ X.length ≤ c ∧ c ≤ maxLen ∧ off + c * s ≤ cur.size ∧ (cur.toList.drop off).take (X.length * s) = X.flatMap enc
theorem Own.toQ {w : World} {B : Nat} {e : TypeId} {s : Nat} {enc : α → List Value} {a : Option Addr} {c : Nat} {X : List α} (h : Own w B e s enc a c X) : OwnQ w e s enc a c X := by
 rcases h.2 with ⟨h1, h2⟩ | ⟨g, cap, cur, h1, _, h3, h4, h5, h6, h7⟩
 ·simp only [Value.slice.injEq] at h1
  exact .inl ⟨h1.1, List.length_eq_zero_iff.1 h2, h1.2.2⟩
 ·simp only [Value.slice.injEq] at h1
  obtain ⟨rfl, _, rfl⟩ := h1
  exact .inr ⟨g, 0, cur, rfl, h3, h4, h5, by omega, by simpa using h7⟩
def rQ (e : TypeId) (s : Nat) (enc : α → List Value) (a : Option Addr) (c : Nat) (X : List α) : Res where
 ids := (blk a).toList
 P w := OwnQ w e s enc a c X
 st := fun {w w'} h hP => by
  rcases hP with hn | ⟨g, off, cur, rfl, h1, h2⟩
  ·exact .inl hn
  ·exact .inr ⟨g, off, cur, rfl, by rw [h g (by simp [blk])]; exact h1, h2⟩
 lt := fun {w} hP k hk => by
  rcases hP with ⟨rfl, _⟩ | ⟨g, off, cur, rfl, h1, _⟩
  ·simp [blk] at hk
  ·simp [blk] at hk
   subst hk
   rcases Nat.lt_or_ge k w.heap.size with h | h
   ·exact h
   ·rw [Array.getElem?_eq_none h] at h1; cases h1
theorem Hp.toQ {w0 w : World} {L : List Res} {e : TypeId} {s : Nat} {enc : α → List Value} {a : Option Addr} {c : Nat} {X : List α} (h : Hp w0 w (rO e s enc a c X :: L)) : Hp w0 w (rQ e s enc a c X :: L) :=
 h.upd ⟨rfl, rfl, rfl, Nat.le_refl _, fun _ _ _ => rfl⟩ h.g0.toQ (fun k hk => .inl hk) (by cases hk : Go.Xw.blk a <;> simp [rQ, hk])
theorem OwnQ.tail {w : World} {e : TypeId} {s : Nat} {enc : α → List Value} {a : Option Addr} {c : Nat} {x : α} {X : List α} (h : OwnQ w e s enc a c (x :: X)) (hs : (enc x).length = s) : OwnQ w e s enc (subA a c s 1) (c - 1) X := by
 rcases h with ⟨_, h, _⟩ | ⟨g, off, cur, rfl, h1, h2, h3, h4, h5⟩
 ·cases h
 ·simp only [List.length_cons] at h2 h5
  have hc1 : 1 ≤ c := by omega
  have hcs : c * s = (c - 1) * s + s := by
   rw [← Nat.succ_mul]; congr 1; omega
  by_cases hc : c = 1
  ·subst hc
   have hX : X = [] := List.length_eq_zero_iff.1 (by omega)
   subst hX
   unfold subA
   rw [if_pos rfl]
   exact .inr ⟨g, off, cur, rfl, h1, by simp, by omega, by omega, by simp⟩
  ·unfold subA
   rw [if_neg hc]
   refine .inr ⟨g, off + s, cur, by simp [Addr.add], h1, by omega, by omega, by omega, ?_⟩
   have h6 := congrArg (List.drop s) h5
   rw [List.drop_take, List.drop_drop, List.flatMap_cons, List.drop_left' hs] at h6
   rw [← h6]
   congr 1
   rw [Nat.add_mul]; omega
theorem queue_append {P : Program} {t ty e : TypeId} {i : TypeInfo} {z : Value} {s bytes : Nat} (ht : P.underlying t = some (.slice e)) (hi : P.info? e = some i) (hz : i.zero = some z) (hsize : i.size = s) (hby : i.bytes = bytes) (hzs : z.cells.size = s) (hsz : 0 < s)
  {enc : α → List Value} (he : ∀ x, (enc x).length = s) (h1 : ∀ x u, u ∈ enc x → u.oneCell' = true) {w0 w : World} {L : List Res} {a : Option Addr} {c : Nat} {X : List α} (hp : Hp w0 w (rQ e s enc a c X :: L)) (ha : a ≠ none)
  {sa : Addr} {sc : Nat} {y : α} (hy : ∀ j u, (enc y)[j]? = some u → w.cell? (sa.add j) = some u) (h63 : X.length + 1 ≤ maxLen) (hbytes : (X.length + 1) * bytes ≤ 140737488355328) :
  ∃ a' c' w', (Builtin.append_ #[t, t] ty #[.slice a X.length c, .slice (some sa) 1 sc]).run P w = .ok (.slice a' (X.length + 1) c') w' ∧ a' ≠ none ∧ Hp w0 w' (rQ e s enc a' c' (X ++ [y]) :: L) := by
 subst hsize
 subst hby
 have hP : OwnQ w e i.size enc a c X := hp.g0
 have hfl := flat_len he X
 rcases hP with ⟨hn, _⟩ | ⟨g, off, cur, rfl, hg, hnc, hcm, hcs, htake⟩
 ·exact absurd hn ha
 have hl : (enc y).length = 1 * i.size := by rw [he]; omega
 have hflat : (X ++ [y]).flatMap enc = X.flatMap enc ++ enc y := by simp
 by_cases hroom : X.length + 1 ≤ c
 ·have hmul : (X.length + 1) * i.size ≤ c * i.size := Nat.mul_le_mul_right _ hroom
  rw [Nat.succ_mul] at hmul
  have hfc := run_firstCells_some (P := P) w i.size 1 sa 1 sc (enc y) hl hy
  have hst := run_storeCells_at (P := P) g (off + X.length * i.size) e (enc y) 0 cur w hg (by rw [hl]; omega) (fun u hu => h1 y u hu)
  have hrun : (Builtin.append_ #[t, t] ty #[.slice (some ⟨g, off, none⟩) X.length c, .slice (some sa) 1 sc]).run P w = .ok (.slice (some ⟨g, off, none⟩) (X.length + 1) c) (w.setRow g (cur.toList.take (off + X.length * i.size + 0) ++ enc y ++ cur.toList.drop (off + X.length * i.size + 0 + (enc y).length)).toArray) := by
   simp [Builtin.append_, run_underlying ht, sizeOf, typeInfo, hi, Builtin.lenOf, hroom, hfc, Addr.add_lit, hst]
  refine ⟨_, _, _, hrun, by simp, hp.upd ⟨rfl, rfl, rfl, by simp, fun k hk hn => ?_⟩ ?_ (fun k hk => .inl hk) (by simp [rQ, Go.Xw.blk])⟩
  ·exact setRow_other w g k _ (fun e => hn (by simp [rQ, Go.Xw.blk, e]))
  ·refine .inr ⟨g, off, _, rfl, setRow_heap w g cur _ e _ hg, by simp; omega, hcm, ?_, ?_⟩
   ·simp only [List.size_toArray, List.length_append, List.length_take, List.length_drop, Array.length_toList, hl]
    omega
   ·have hsz2 : cur.toList.length = cur.size := Array.length_toList
    rw [hflat, ← htake]
    simp only [Nat.add_zero, List.append_assoc]
    rw [List.drop_append_of_le_length (by rw [List.length_take]; omega), List.drop_take, Nat.add_sub_cancel_left]
    have hlt : ((cur.toList.drop off).take (X.length * i.size)).length = X.length * i.size := by rw [List.length_take, List.length_drop]; omega
    rw [← List.append_assoc]
    have : (X ++ [y]).length * i.size = ((cur.toList.drop off).take (X.length * i.size) ++ enc y).length := by
     have h9 : ((cur.toList.drop off).take (X.length * i.size) ++ enc y).length = X.length * i.size + 1 * i.size := by rw [List.length_append, hlt, hl]
     rw [h9]; simp [Nat.add_mul]
    rw [this]
    exact List.take_left
 ·have holds : ∀ j u, (X.flatMap enc)[j]? = some u → w.cell? ((⟨g, off, none⟩ : Addr).add j) = some u := fun j u hu => by
   have hj : j < X.length * i.size := by rw [← hfl]; exact (List.getElem?_eq_some_iff.1 hu).1
   rw [← htake, List.getElem?_take, if_pos hj, List.getElem?_drop] at hu
   have hc : w.cell? ⟨g, off + j, none⟩ = some u := by
    simp only [World.cell?, hg]
    simpa using hu
   rw [show (⟨g, off, none⟩ : Addr).add j = ⟨g, off + j, none⟩ by unfold Addr.add; split <;> simp_all]
   exact hc
  obtain ⟨v', w', hr, ho, hgr⟩ := run_append_arg_grows (P := P) (w := w) t ty e i z i.size i.bytes ht hi hz rfl rfl hzs hsz ⟨g, off, none⟩ X.length c (X.flatMap enc) hfl holds sa 1 sc (enc y) hl hy (by omega) h63 hbytes
  rcases ho.2 with ⟨_, h2⟩ | ⟨g', cap, cur', rfl, hge, hg', h4, h5, h6, h7⟩
  ·omega
  ·refine ⟨_, _, _, hr, by simp, hp.upd (Chg.of_grown (a := some ⟨g, off, none⟩) ⟨hgr.os, hgr.tape, hgr.output, hgr.size, fun k hk _ => hgr.block k hk (by simp)⟩) ?_ (fun k hk => ?_) (by simp [rQ, Go.Xw.blk])⟩
   ·refine .inr ⟨g', 0, cur', rfl, hg', by simpa using h4, h5, by omega, ?_⟩
    rw [hflat, ← h7]
    simp
   ·simp [rQ, Go.Xw.blk] at hk
    subst hk
    exact .inr hge
end
end Go.Xw
end
section
namespace Go.Xw
open Go.RowKit
set_option maxHeartbeats 1000000
theorem OwnQ.sl {α : Type} [Inhabited α] {w : World} {e : TypeId} {sz : Nat} {enc : α → List Value} {a : Option Addr} {c : Nat} {X : List α} (h : OwnQ w e sz enc a c X) (hz : ∀ x, (enc x).length = sz) : Sl w a X.length sz (fL enc X) := by
 rcases h with ⟨_, rfl, _⟩ | ⟨g, off, cur, rfl, hg, hnc, hcm, hcs, htake⟩
 ·exact Sl.nil _ _ _ _
 ·refine ⟨fun _ => by simp, fun i j hi hj => ?_⟩
  have hx : X[i]? = some (X[i]'hi) := List.getElem?_eq_getElem hi
  have hf := flat_get (enc := enc) (sz := sz) hz hx hj
  have hlt : j < (enc (X[i]'hi)).length := by rw [hz]; exact hj
  rw [List.getElem?_eq_getElem hlt] at hf
  have hij : i * sz + j < X.length * sz := by
   have : (i + 1) * sz ≤ X.length * sz := Nat.mul_le_mul_right _ hi
   rw [Nat.succ_mul] at this
   omega
  rw [← htake, List.getElem?_take, if_pos hij, List.getElem?_drop] at hf
  have hc : w.cell? ⟨g, off + (i * sz + j), none⟩ = some ((enc (X[i]'hi))[j]'hlt) := by
   simp only [World.cell?, hg]
   simpa using hf
  have ha : (elemAddr (some ⟨g, off, none⟩) sz (i : Int)).add j = ⟨g, off + (i * sz + j), none⟩ := by
   simp only [elemAddr, Option.getD_some, Int.toNat_natCast]
   rw [add_of_add]
   unfold Addr.add; split <;> simp_all
  rw [ha, hc]
  simp only [fL, nthL_eq, List.getD_eq_getElem?_getD, hx, Option.getD_some, List.getElem?_eq_getElem hlt]
instance RdH.queue {w0 : World} {L : List Res} {a : Option Addr} {α : Type} [Inhabited α] {s : Nat} {enc : α → List Value} {X : List α} {e : TypeId} {c : Nat} [he : EncOk enc s] : RdH w0 (rQ e s enc a c X :: L) a s enc X := ⟨fun _ hp => OwnQ.sl hp.g0 he.len⟩
theorem Hp.tailQ {α : Type} {w0 w : World} {L : List Res} {e : TypeId} {s : Nat} {enc : α → List Value} {a : Option Addr} {c : Nat} {x : α} {X : List α} (h : Hp w0 w (rQ e s enc a c (x :: X) :: L)) (hs : (enc x).length = s) : Hp w0 w (rQ e s enc (subA a c s 1) (c - 1) X :: L) := by
 have h1 : OwnQ w e s enc a c (x :: X) := h.g0
 refine h.upd ⟨rfl, rfl, rfl, Nat.le_refl _, fun _ _ _ => rfl⟩ (R' := rQ e s enc (subA a c s 1) (c - 1) X) (h1.tail hs) (fun k hk => .inl ?_) (by cases hk : Go.Xw.blk (subA a c s 1) <;> simp [rQ, hk])
 rcases h1 with ⟨_, h2, _⟩ | ⟨g, off, cur, rfl, _⟩
 ·cases h2
 ·unfold rQ subA at hk
  split at hk
  ·exact hk
  ·have hb : ((⟨g, off, none⟩ : Addr).add (1 * s)).block = g := by unfold Addr.add; split <;> rfl
   simp [rQ, Go.Xw.blk] at hk ⊢
   rw [hk]
   simpa using hb
section
variable {S : Setting} {sz : Nat} {R : Value → World → Prop} {C : World → Prop} {w w0 : World} {L : List Res} {ops : Array Oper} {rest : List Oper} {k : List Item} {env : Env}
theorem H_qapp {α : Type} [Inhabited α] {enc : α → List Value} {X : List α} {y : α} {t u e ty : TypeId} {a sa : Option Addr} {c sc n : Nat} {s : Nat} (hp : Hp w0 w (rQ e s enc a c X :: L)) (ha : a ≠ none) [he : EncOk enc s] [hr : RdH w0 (rQ e s enc a c X :: L) sa s enc [y]] {i j : TI} (hn : X.length = n) {d : Nat} [hS : S.Ok] (hi : tl S.tt t = some i) (hd : i.desc = .slice e) (hj : tl S.tt e = some j) (hz : (cellsV j.zero).length = j.size) (hs0 : j.size = s) (hsz : 0 < s)
  (hu : u = t) (hm : X.length ≤ 1000000000) {bts : Nat} (hbt : j.bytes = bts) (hb2 : Nat.ble bts 1000 = true)
  (hk : ∀ a' c' w', Hp w0 w' (rQ e s enc a' c' (X ++ [y]) :: L) → a' ≠ none → Holds S sz R C w' (.ops false ops rest k ((d, .slice a' (X.length + 1) c') :: env))) :
  Holds S sz R C w (.act (.append t u ty (.slice a n c) (.slice sa 1 sc)) ⟨false, ops, rest, some d, k, env⟩) := by
 subst hn; subst hs0; subst hu
 obtain ⟨info, td, h1, h2, h3, h4, h5, htd, h6⟩ := hS.tt.get hi
 obtain ⟨info', td', g1, g2, g3, g4, g5, gtd, g6⟩ := hS.tt.get hj
 rw [toD_slice (htd.trans hd)] at h5
 have hzc : j.zero.cells.size = j.size := by rw [cellsV_eq] at hz; simpa using hz
 have hsl := hr.h w hp
 cases sa with
 | none => exact absurd rfl (hsl.1 (by simp))
 | some sa =>
  have hbb := Nat.le_of_ble_eq_true hb2
  obtain ⟨a', c', w', hrun, ha', hp'⟩ := queue_append (P := S.P) (ty := ty) h5 g1 g4 g2 g3 hzc hsz he.len (fun x u hu => he.one x u hu) hp ha (sa := sa) (sc := sc) (y := y) (fun q v hv => by
   have := hsl.flat he q v
   simpa using this (by simpa using hv)) (by unfold maxLen; omega) (by
   rw [hbt]
   have : (X.length + 1) * bts ≤ 1000000001 * 1000 := Nat.mul_le_mul (by omega) hbb
   omega)
  show Does _ _ _ _
  unfold Does
  simp only [Action.sem, Sem.run_bind, hrun, Result.andThen_ok, Sem.run_pure]
  exact hk a' c' w' hp' ha'
end
end Go.Xw
end
