/- Stops for rows with an offset; each under its stated conditions. -/
import Derived.Test.YtbjgekllkfnjnaaQueue
set_option linter.all false
namespace Go.Xw
open Go.RowKit
set_option maxHeartbeats 1000000
theorem OwnQ.sl {α : Type} [Inhabited α] {w : World} {e : TypeId} {sz : Nat} {enc : α → List Value} {a : Option Addr} {c : Nat} {X : List α} (h : OwnQ w e sz enc a c X) (hz : ∀ x, (enc x).length = sz) : Sl w a X.length sz (fL enc X) := by
 rcases h with ⟨_, rfl, _⟩ | ⟨g, off, cur, rfl, hg, hnc, hcm, hcs, htake⟩
 ·exact Sl.nil _ _ _ _
 ·refine ⟨fun _ => by simp, fun i j hi hj => ?_⟩
  have hx : X[i]? = some (X[i]'hi) := List.getElem?_eq_getElem hi
  have hf := flat_get (enc := enc) (sz := sz) hz hx hj
  have hlt : j < (enc (X[i]'hi)).length := by rw [hz]; exact hj
  rw [List.getElem?_eq_getElem hlt] at hf
  have hij : i * sz + j < X.length * sz := by
   have : (i + 1) * sz ≤ X.length * sz := Nat.mul_le_mul_right _ hi
   rw [Nat.succ_mul] at this
   omega
  rw [← htake, List.getElem?_take, if_pos hij, List.getElem?_drop] at hf
  have hc : w.cell? ⟨g, off + (i * sz + j), none⟩ = some ((enc (X[i]'hi))[j]'hlt) := by
   simp only [World.cell?, hg]
   simpa using hf
  have ha : (elemAddr (some ⟨g, off, none⟩) sz (i : Int)).add j = ⟨g, off + (i * sz + j), none⟩ := by
   simp only [elemAddr, Option.getD_some, Int.toNat_natCast]
   rw [add_of_add]
   unfold Addr.add; split <;> simp_all
  rw [ha, hc]
  simp only [fL, nthL_eq, List.getD_eq_getElem?_getD, hx, Option.getD_some, List.getElem?_eq_getElem hlt]
instance RdH.queue {w0 : World} {L : List Res} {a : Option Addr} {α : Type} [Inhabited α] {s : Nat} {enc : α → List Value} {X : List α} {e : TypeId} {c : Nat} [he : EncOk enc s] : RdH w0 (rQ e s enc a c X :: L) a s enc X := ⟨fun _ hp => OwnQ.sl hp.g0 he.len⟩
theorem Hp.tailQ {α : Type} {w0 w : World} {L : List Res} {e : TypeId} {s : Nat} {enc : α → List Value} {a : Option Addr} {c : Nat} {x : α} {X : List α} (h : Hp w0 w (rQ e s enc a c (x :: X) :: L)) (hs : (enc x).length = s) : Hp w0 w (rQ e s enc (subA a c s 1) (c - 1) X :: L) := by
 have h1 : OwnQ w e s enc a c (x :: X) := h.g0
 refine h.upd ⟨rfl, rfl, rfl, Nat.le_refl _, fun _ _ _ => rfl⟩ (R' := rQ e s enc (subA a c s 1) (c - 1) X) (h1.tail hs) (fun k hk => .inl ?_) (by cases hk : Go.Xw.blk (subA a c s 1) <;> simp [rQ, hk])
 rcases h1 with ⟨_, h2, _⟩ | ⟨g, off, cur, rfl, _⟩
 ·cases h2
 ·unfold rQ subA at hk
  split at hk
  ·exact hk
  ·have hb : ((⟨g, off, none⟩ : Addr).add (1 * s)).block = g := by unfold Addr.add; split <;> rfl
   simp [rQ, Go.Xw.blk] at hk ⊢
   rw [hk]
   simpa using hb
section
variable {S : Setting} {sz : Nat} {R : Value → World → Prop} {C : World → Prop} {w w0 : World} {L : List Res} {ops : Array Oper} {rest : List Oper} {k : List Item} {env : Env}
theorem H_qapp {α : Type} [Inhabited α] {enc : α → List Value} {X : List α} {y : α} {t u e ty : TypeId} {a sa : Option Addr} {c sc n : Nat} {s : Nat} (hp : Hp w0 w (rQ e s enc a c X :: L)) (ha : a ≠ none) [he : EncOk enc s] [hr : RdH w0 (rQ e s enc a c X :: L) sa s enc [y]] {i j : TI} (hn : X.length = n) {d : Nat} [hS : S.Ok] (hi : tl S.tt t = some i) (hd : i.desc = .slice e) (hj : tl S.tt e = some j) (hz : (cellsV j.zero).length = j.size) (hs0 : j.size = s) (hsz : 0 < s)
  (hu : u = t) (hm : X.length ≤ 1000000000) {bts : Nat} (hbt : j.bytes = bts) (hb2 : Nat.ble bts 1000 = true)
  (hk : ∀ a' c' w', Hp w0 w' (rQ e s enc a' c' (X ++ [y]) :: L) → a' ≠ none → Holds S sz R C w' (.ops false ops rest k ((d, .slice a' (X.length + 1) c') :: env))) :
  Holds S sz R C w (.act (.append t u ty (.slice a n c) (.slice sa 1 sc)) ⟨false, ops, rest, some d, k, env⟩) := by
 subst hn; subst hs0; subst hu
 obtain ⟨info, td, h1, h2, h3, h4, h5, htd, h6⟩ := hS.tt.get hi
 obtain ⟨info', td', g1, g2, g3, g4, g5, gtd, g6⟩ := hS.tt.get hj
 rw [toD_slice (htd.trans hd)] at h5
 have hzc : j.zero.cells.size = j.size := by rw [cellsV_eq] at hz; simpa using hz
 have hsl := hr.h w hp
 cases sa with
 | none => exact absurd rfl (hsl.1 (by simp))
 | some sa =>
  have hbb := Nat.le_of_ble_eq_true hb2
  obtain ⟨a', c', w', hrun, ha', hp'⟩ := queue_append (P := S.P) (ty := ty) h5 g1 g4 g2 g3 hzc hsz he.len (fun x u hu => he.one x u hu) hp ha (sa := sa) (sc := sc) (y := y) (fun q v hv => by
   have := hsl.flat he q v
   simpa using this (by simpa using hv)) (by unfold maxLen; omega) (by
   rw [hbt]
   have : (X.length + 1) * bts ≤ 1000000001 * 1000 := Nat.mul_le_mul (by omega) hbb
   omega)
  show Does _ _ _ _
  unfold Does
  simp only [Action.sem, Sem.run_bind, hrun, Result.andThen_ok, Sem.run_pure]
  exact hk a' c' w' hp' ha'
end
end Go.Xw
