/- Texts that belong together; each under its stated conditions. -/
import Derived.Test.YtifjicajbgoamaaGreatFam
import Derived.Laws.BytesString
import Derived.Laws.CopyRow
import Derived.Laws.IdiomCopy
import Derived.Test.YtifjicajbgoamaaGreatBase
import Derived.Test.YtifjicajbgoamaaGreatCutsOk
import Derived.Test.YtifjicajbgoamaaGreatCutT
set_option linter.all false
section
namespace Go.Xw
open Go.RowKit
theorem set_getE {α : Type} [Inhabited α] {X : List α} {i j : Nat} {y : α} (hi : i < X.length) : (X.set i y).getD j default = if j = i then y else X.getD j default := by
 simp only [List.getD_eq_getElem?_getD, List.getElem?_set]
 by_cases h : i = j
 ·subst h; simp [hi]
 ·rw [if_neg h, if_neg (fun e => h e.symm)]
theorem take_snocC {α : Type} [Inhabited α] {xs : List α} {i : Nat} (h : i < xs.length) : xs.take (i + 1) = xs.take i ++ [xs.getD i default] := by
 rw [List.take_succ_eq_append_getElem h]
 simp [List.getD_eq_getElem?_getD, h]
theorem getD_memR {α : Type} [Inhabited α] {X : List α} {i : Nat} (h : i < X.length) : X.getD i default ∈ X := by
 rw [List.getD_eq_getElem?_getD, List.getElem?_eq_getElem h]; exact List.getElem_mem h
structure RowA (α : Type) where
 ins : List α
 ia : Option Addr
 ic : Nat
instance {α : Type} : Inhabited (RowA α) := ⟨⟨[], none, 0⟩⟩
def eRo {α : Type} (r : RowA α) : List Value := [.slice r.ia r.ins.length r.ic]
instance eRo_ok {α : Type} : EncOk (eRo (α := α)) 1 := ⟨fun _ => rfl, fun x u hu => by simp [eRo] at hu; subst hu; rfl⟩
def insOf {α : Type} (R : List (RowA α)) : List (List α) := R.map RowA.ins
theorem insOf_len {α : Type} (R : List (RowA α)) : (insOf R).length = R.length := by simp [insOf]
theorem insOf_get {α : Type} (R : List (RowA α)) (i : Nat) : (insOf R).getD i default = (R.getD i default).ins := by
 simp only [insOf, List.getD_eq_getElem?_getD, List.getElem?_map]
 cases R[i]? <;> rfl
def rRows {α : Type} (e : TypeId) (s : Nat) (enc : α → List Value) (R : List (RowA α)) : Res := rAll (R.map fun r => rO e s enc r.ia r.ic r.ins)
section
variable {α : Type} {e : TypeId} {s : Nat} {enc : α → List Value} {w0 w w' : World} {L : List Res} {R : List (RowA α)}
theorem rRows_nil (h : Hp w0 w L) : Hp w0 w (rRows e s enc ([] : List (RowA α)) :: L) := Hp.pack (Rs := []) h
theorem rRows_add {y : RowA α} (h : Hp w0 w (rO e s enc y.ia y.ic y.ins :: rRows e s enc R :: L)) : Hp w0 w (rRows e s enc (R ++ [y]) :: L) := by
 have h1 : Hp w0 w (R.map (fun r => rO e s enc r.ia r.ic r.ins) ++ (rO e s enc y.ia y.ic y.ins :: L)) := h.f1.unpack
 refine Hp.pack (Hp.perm h1 ?_)
 simp only [List.map_append, List.map_cons, List.map_nil, List.append_assoc]
 exact .refl _
theorem rRows_snoc {y : RowA α} (h : Hp w0 w (rRows e s enc R :: L)) (hy : Hp w w' [rO e s enc y.ia y.ic y.ins]) : Hp w0 w' (rRows e s enc (R ++ [y]) :: L) := rRows_add (h.call1 hy)
theorem rRows_nils : ∀ (n : Nat), Hp w0 w L → Hp w0 w (rRows e s enc (List.replicate n (⟨[], none, 0⟩ : RowA α)) :: L)
 | 0, h => rRows_nil h
 | n + 1, h => by
  rw [List.replicate_succ']
  exact rRows_snoc (rRows_nils n h) ((Hp.nil w).ownN (Ext.refl _) (Own.nil _ _ _ _ _))
theorem rRows_at (h : Hp w0 w (rRows e s enc R :: L)) {i : Nat} (hi : i < R.length) :
  ∃ Q, Hp w0 w (rO e s enc (R.getD i default).ia (R.getD i default).ic (R.getD i default).ins :: Q :: L) ∧ ∀ w' L' y, Hp w0 w' (rO e s enc y.ia y.ic y.ins :: Q :: L') → Hp w0 w' (rRows e s enc (R.set i y) :: L') := by
 obtain ⟨Q, h1, h2⟩ := Hp.allAt (i := i) (R := rO e s enc (R.getD i default).ia (R.getD i default).ic (R.getD i default).ins) h (by
  rw [List.getElem?_map, List.getElem?_eq_getElem hi, List.getD_eq_getElem?_getD, List.getElem?_eq_getElem hi]; rfl)
 refine ⟨Q, h1, fun w' L' y hy => ?_⟩
 have h3 := h2 w' _ _ hy
 unfold rRows
 rw [List.map_set]
 exact h3
end
class RowsH (w0 : World) (L : List Res) {α : Type} [Inhabited α] (s : outParam Nat) (enc : outParam (α → List Value)) (R : List (RowA α)) : Prop where
 h : ∀ w, Hp w0 w L → ∀ r, r ∈ R → Sl w r.ia r.ins.length s (fL enc r.ins)
instance RowsH.head {w0 : World} {L : List Res} {α : Type} [Inhabited α] {e : TypeId} {s : Nat} {enc : α → List Value} [he : EncOk enc s] {R : List (RowA α)} : RowsH w0 (rRows e s enc R :: L) s enc R :=
 ⟨fun w hp r hr => Own.sl (hp.g0 (rO e s enc r.ia r.ic r.ins) (List.mem_map.2 ⟨r, hr, rfl⟩)) he.len⟩
instance RowsH.tail {w0 : World} {L : List Res} {A : Res} {α : Type} [Inhabited α] {s : Nat} {enc : α → List Value} {R : List (RowA α)} [h : RowsH w0 L s enc R] : RowsH w0 (A :: L) s enc R := ⟨fun w hp => h.h w hp.drop⟩
theorem RowsH.at_ {w0 : World} {L : List Res} {α : Type} [Inhabited α] {s : Nat} {enc : α → List Value} {R : List (RowA α)} (h : RowsH w0 L s enc R) {i : Nat} (hi : i < R.length) : RdH w0 L (R.getD i default).ia s enc (R.getD i default).ins :=
 ⟨fun w hp => h.h w hp _ (getD_memR hi)⟩
theorem RowsH.mem_ {w0 : World} {L : List Res} {α : Type} [Inhabited α] {s : Nat} {enc : α → List Value} {R : List (RowA α)} (h : RowsH w0 L s enc R) {r : RowA α} (hr : r ∈ R) : RdH w0 L r.ia s enc r.ins :=
 ⟨fun w hp => h.h w hp r hr⟩
def eStr (s : ByteArray) : List Value := [.string s]
instance eStr_ok : EncOk eStr 1 := ⟨fun _ => rfl, fun x u hu => by simp [eStr] at hu; subst hu; rfl⟩
end Go.Xw
end
section
namespace Go.Xw
open Go.RowKit
theorem take_flat {α : Type} {enc : α → List Value} (he : ∀ x, (enc x).length = 1) : ∀ (X : List α) (k : Nat), (X.take k).flatMap enc = (X.flatMap enc).take k
 | [], k => by simp
 | x :: X, 0 => by simp
 | x :: X, k + 1 => by
  rw [List.take_succ_cons, List.flatMap_cons, List.flatMap_cons, take_flat he X k, List.take_append, he x, Nat.add_sub_cancel, List.take_of_length_le (i := k + 1) (l := enc x) (by rw [he]; omega)]
def shiftL {α : Type} (X : List α) (k : Nat) : List α := X.take (k + 1) ++ (X.drop k).take (X.length - (k + 1))
theorem shiftL_len {α : Type} {X : List α} {k : Nat} (h : k < X.length) : (shiftL X k).length = X.length := by
 unfold shiftL
 rw [List.length_append, List.length_take, List.length_take, List.length_drop]
 omega
theorem shiftL_snoc {α : Type} (X : List α) (y : α) {k : Nat} (h : k ≤ X.length) (u : α) : (shiftL (X ++ [y]) k).set k u = X.take k ++ u :: X.drop k := by
 unfold shiftL
 have hl : (X ++ [y]).length = X.length + 1 := by simp
 rw [hl, show X.length + 1 - (k + 1) = X.length - k by omega]
 have e1 : ((X ++ [y]).drop k).take (X.length - k) = X.drop k := by
  rw [List.drop_append_of_le_length h, List.take_append_of_le_length (by rw [List.length_drop]; omega), List.take_of_length_le (by rw [List.length_drop]; omega)]
 rw [e1]
 by_cases hk : k = X.length
 ·subst hk
  rw [List.take_of_length_le (by simp), List.drop_length, List.append_nil, List.set_append_right _ _ (Nat.le_refl _), Nat.sub_self, List.take_length]
  rfl
 ·rw [List.take_append_of_le_length (by omega), List.take_succ_eq_append_getElem (show k < X.length by omega), List.append_assoc, List.set_append_right _ _ (by simp; omega)]
  have : k - (X.take k).length = 0 := by simp; omega
  rw [this]
  rfl
theorem shift_run {P : Program} {tt : TT} {α : Type} [Inhabited α] {enc : α → List Value} {w0 w : World} {F : List Res} {e t : TypeId} {a : Option Addr} {c : Nat} {X : List α} (hok : TTok P tt) {i j : TI} (hi : tl tt t = some i) (hd : i.desc = .slice e) (hj : tl tt e = some j) (hs : j.size = 1) (he : EncOk enc 1)
  (hp : Hp w0 w (rO e 1 enc a c X :: F)) {k : Nat} (hk : k < X.length) (u ty : TypeId) :
  ∃ w', (Builtin.copy_ #[t, u] ty #[.slice (subA a c 1 (k + 1)) (X.length - (k + 1)) (c - (k + 1)), .slice (subA a c 1 k) (X.length - k) (c - k)]).run P w = .ok (goInt ((X.length - (k + 1) : Nat) : Int)) w' ∧ Hp w0 w' (rO e 1 enc a c (shiftL X k) :: F) := by
 obtain ⟨info, td, q1, q2, q3, q4, q5, htd, q6⟩ := hok.get hi
 obtain ⟨info', td', g1, g2, g3, g4, g5, gtd, g6⟩ := hok.get hj
 rw [toD_slice (htd.trans hd)] at q5
 have hsz : (P.info? e).map (·.size) = some 1 := by rw [g1]; simp [g2, hs]
 have hsl := hp.sl he
 have hlen : ∀ Y : List α, (Y.flatMap enc).length = Y.length := fun Y => by have := flat_len he.len Y; omega
 have hcap := hp.own.cap
 by_cases hck : c = k + 1
 ·have hn : X.length = k + 1 := by omega
  refine ⟨w, ?_, ?_⟩
  ·rw [hn, Nat.sub_self]
   exact run_copy_none (P := P) w t u ty e _ _ _ _ _ _ q5 hsz (by simp)
  ·have e1 : shiftL X k = X := by
    unfold shiftL
    rw [hn, Nat.sub_self, List.take_zero, List.append_nil, List.take_of_length_le (by omega)]
   rw [e1]
   exact hp
 ·rcases hp.own.2 with ⟨hv, h0⟩ | ⟨g, cap, cur, hv, hb, hg, hnc, hcm, hcs, htake⟩
  ·omega
  ·injection hv with v1 _ v3
   subst v1
   subst v3
   have ea : subA (some (⟨g, 0, none⟩ : Addr)) c 1 (k + 1) = some ⟨g, k + 1, none⟩ := by
    unfold subA
    rw [if_neg hck]
    simp [Addr.add]
   have eb : subA (some (⟨g, 0, none⟩ : Addr)) c 1 k = some ((⟨g, 0, none⟩ : Addr).add k) := by
    unfold subA
    rw [if_neg (by omega)]
    simp
   rw [ea, eb]
   have hcl : (((X.drop k).take (X.length - (k + 1))).flatMap enc).length = X.length - (k + 1) := by rw [hlen, List.length_take, List.length_drop]; omega
   have hrun := run_copy_row (P := P) w t u ty e g (k + 1) (X.length - (k + 1)) (c - (k + 1)) ((⟨g, 0, none⟩ : Addr).add k) (X.length - k) (c - k) cur e (((X.drop k).take (X.length - (k + 1))).flatMap enc) q5 hsz hg (by rw [hcl]; exact (Nat.min_eq_right (by omega)).symm) (fun q v hv => by
    have hq : q < X.length - (k + 1) := by have := (List.getElem?_eq_some_iff.1 hv).1; omega
    have h1 := hsl.2 (k + q) 0 (by omega) (by decide)
    have hx : (X.flatMap enc)[k + q]? = some v := by
     rw [take_flat he.len, List.getElem?_take, if_pos hq] at hv
     have e2 : (X.drop k).flatMap enc = (X.flatMap enc).drop k := by
      have e3 := congrArg (fun l : List α => l.flatMap enc) (List.take_append_drop k X)
      simp only [List.flatMap_append] at e3
      have hk2 : ((X.take k).flatMap enc).length = k := by rw [hlen, List.length_take]; omega
      rw [← e3, List.drop_append (l₁ := (X.take k).flatMap enc), List.drop_of_length_le (l := (X.take k).flatMap enc) (by omega), hk2, Nat.sub_self]
      rfl
     rw [e2, List.getElem?_drop] at hv
     exact hv
    have hy : X[k + q]? = some (X.getD (k + q) default) := by rw [List.getD_eq_getElem?_getD, List.getElem?_eq_getElem (by omega)]; rfl
    have h2 := flat_get he.len hy (j := 0) (by decide)
    rw [Nat.mul_one, Nat.add_zero, hx] at h2
    have h3 : fL enc X (k + q) 0 = v := fL_cell h2.symm
    rw [h3] at h1
    rw [add_of_add]
    have e5 : (elemAddr (some (⟨g, 0, none⟩ : Addr)) 1 ((k + q : Nat) : Int)).add 0 = (⟨g, 0, none⟩ : Addr).add (k + q) := by
     unfold elemAddr
     rw [add_of_add]
     congr 1
     omega
    rw [e5] at h1
    exact h1) (by rw [hcl, hcs]; omega) (fun v hv => by
    obtain ⟨x, _, hx⟩ := List.mem_flatMap.1 hv
    exact he.one x v hx)
   rw [hcl] at hrun
   refine ⟨_, hrun, hp.ownS (X' := shiftL X k) ?_ ⟨rfl, rfl, rfl, by simp [World.setRow], fun q _ hq => setRow_other w g q _ (fun e => hq (by simp [Go.Xw.blk, e]))⟩⟩
   refine ⟨by rw [hlen]; omega, .inr ⟨g, c, _, by rw [shiftL_len hk], Nat.zero_le _, setRow_heap w g cur _ e _ hg, by rw [shiftL_len hk]; exact hnc, hcm, ?_, ?_⟩⟩
   ·simp only [List.size_toArray, List.length_append, List.length_take, List.length_drop, Array.length_toList, hcl]
    omega
   ·rw [shiftL_len hk]
    unfold shiftL
    rw [List.flatMap_append, take_flat he.len X (k + 1)]
    have htk : cur.toList.take (k + 1) = (X.flatMap enc).take (k + 1) := by
     rw [← htake, List.take_take, Nat.min_eq_left (by omega)]
    show (cur.toList.take (k + 1) ++ _ ++ _).take (X.length * 1) = _
    rw [htk, List.take_append_of_le_length (by rw [List.length_append, hcl, List.length_take, hlen]; omega)]
    rw [List.take_of_length_le (by rw [List.length_append, hcl, List.length_take, hlen]; omega)]
section
variable {S : Setting} {sz : Nat} {R : Value → World → Prop} {C : World → Prop} {w w0 : World} {F : List Res} {ops : Array Oper} {rest : List Oper} {k : List Item} {env : Env}
theorem V_shift {α : Type} [Inhabited α] {enc : α → List Value} {X : List α} {t u e ty : TypeId} {a da sa : Option Addr} {c dn dc sn sc q : Nat} {f : Option Addr → Nat → List α → List Res} (hp : Hp w0 w F) [hq : UpdO F a e 1 enc c X f] [he : EncOk enc 1] {i j : TI} {d : Nat} [hS : S.Ok] (hk : q < X.length) (hda : da = subA a c 1 (q + 1)) (hdn : dn = X.length - (q + 1)) (hdc : dc = c - (q + 1)) (hsa : sa = subA a c 1 q) (hsn : sn = X.length - q) (hsc : sc = c - q)
  (hi : tl S.tt t = some i) (hd : i.desc = .slice e) (hj : tl S.tt e = some j) (hs : j.size = 1) (hfl : flagAt ops rest = false)
  (hkk : ∀ w', Hp w0 w' (f a c (shiftL X q)) → Holds S sz R C w' (.ops true ops rest k ((d, .int .i64 ((X.length - (q + 1) : Nat) : Int)) :: env))) :
  Holds S sz R C w (.act (.copy t u ty (.slice da dn dc) (.slice sa sn sc)) ⟨true, ops, rest, some d, k, env⟩) := by
 subst hda; subst hdn; subst hdc; subst hsa; subst hsn; subst hsc
 obtain ⟨M, h1, h2⟩ := hq.h
 obtain ⟨w', hr, hp'⟩ := shift_run (P := S.P) hS.tt hi hd hj hs he (hp.perm h1) hk u ty
 exact h_actq rfl rfl (by simp only [Action.sem, Sem.run_bind, hr, Result.andThen_ok, Sem.run_pure]; rfl) ⟨fun hq => absurd hq (by show ¬ flagAt ops rest = true; rw [hfl]; decide), hkk w' (hp'.perm (h2 _ _ _).symm)⟩
end
end Go.Xw
end
section
namespace Go.Proofs
open Go.Xw
set_option maxRecDepth 100000
set_option maxHeartbeats 1000000
attribute [local irreducible] Holds elemAddr
theorem getD_ext {X Y : List Int} (hl : X.length = Y.length) (h : ∀ j, j < X.length → X.getD j default = Y.getD j default) : X = Y :=
 List.ext_getElem hl fun j h1 h2 => by
  have := h j h1
  rwa [List.getD_eq_getElem?_getD, List.getD_eq_getElem?_getD, List.getElem?_eq_getElem h1, List.getElem?_eq_getElem h2] at this
theorem implSameInts_h (a b : Option Addr) (c d : Nat) (X Y : List Int) (w0 : World) (hA : Rd w0 a 1 eI X) (hB : Rd w0 b 1 eI Y) (hl : X.length ≤ 1000000) (hl2 : Y.length ≤ 1000000) :
  Ret Tryz.prog 134 [.slice a X.length c, .slice b Y.length d] w0 (fun v w => v = .bool (decide (X = Y)) ∧ Ext w0 w) := by
 refine enter Tryz.S134ok _ _ rfl rfl (by show _ ≤ _; simp only [List.length]; decide) (fun C => ?_); have hp := Hp.nil w0; refine h_run rfl ?_; skip
 refine h_cond_dec (fun hne => ?_) (fun hne => ?_)
 ·refine h_cond_t rfl rfl ?_; (repeat (refine R_ret ?_))
  have : X ≠ Y := fun e => hne (by rw [e])
  exact ⟨by simp [this], hp.x⟩
 ·refine h_cond_f rfl rfl ?_; skip
  have hlen : X.length = Y.length := by omega
  refine h_loop [0, 1, 12, 13] (fun (i : Nat) => [(0, .slice a X.length c), (1, .slice b Y.length d), (12, .int .i64 X.length), (13, .int .i64 (i : Int))])
   (fun i w' => i ≤ X.length ∧ (∀ j, j < i → X.getD j default = Y.getD j default) ∧ Hp w0 w' []) (fun i => X.length - i) 0 rfl ⟨by omega, fun j hj => by omega, hp⟩ ?_
  rintro i w1 ⟨hi, hall, hp⟩ IH C
  refine h_run rfl ?_; skip
  refine h_cond_dec (fun hlt => ?_) (fun hlt => ?_)
  ·have hlt' : i < X.length := by omega
   refine h_cond_t rfl rfl ?_; skip
   refine N_draw hp (by kernel_rfl) (by kernel_rfl) rfl rfl ?_; (repeat (refine N_ldEN rfl (by omega) rfl rfl rfl ?_))
   refine N_end ?_; intro w hp C; refine h_run rfl ?_; skip
   refine h_cond_dec (fun hd => ?_) (fun hd => ?_)
   ·refine h_cond_t rfl rfl ?_; (repeat (refine R_ret ?_))
    have : X ≠ Y := fun e => hd (by rw [e])
    exact ⟨by simp [this], hp.x⟩
   ·refine h_cond_f rfl rfl ?_; skip
    refine IH (i + 1) _ _ _ (by omega) rfl ⟨by omega, fun j hj => ?_, hp⟩
    by_cases hj2 : j < i
    ·exact hall j hj2
    ·obtain rfl : j = i := by omega
     omega
  ·refine h_cond_f rfl rfl ?_; (repeat (refine R_ret ?_))
   have : X = Y := getD_ext hlen fun j hj => hall j (by omega)
   exact ⟨by simp [this], hp.x⟩
end Go.Proofs
end
section
namespace Go.Xw
def RowsR (w : World) (R : List (RowA Int)) : Prop := ∀ r, r ∈ R → Rd w r.ia 1 eI r.ins
theorem RowsR.at_ {w : World} {R : List (RowA Int)} (h : RowsR w R) {i : Nat} (hi : i < R.length) : Rd w (R.getD i default).ia 1 eI (R.getD i default).ins := h _ (getD_memR hi)
theorem Hp.rows {w0 w : World} {L : List Res} (hp : Hp w0 w L) {R P : List (RowA Int)} [h : RowsH w0 L 1 eI P] (hm : ∀ r, r ∈ R → r ∈ P) : RowsR w R := fun r hr => ⟨h.h w hp r (hm r hr)⟩
theorem MergeQ.hp {e : TypeId} {xs ys : List Int} {w : World} {v : Value} {w' : World} (h : Go.Proofs.MergeQ e xs ys w v w') : ∃ a' c', v = .tuple ⟨[.slice a' (Go.Proofs.mergeL xs ys).length c', .bool (Go.Proofs.mergeOk xs ys)]⟩ ∧ Hp w w' [rO e 1 eI a' c' (Go.Proofs.mergeL xs ys)] := by
 obtain ⟨a', c', h1, h2, h3⟩ := h
 exact ⟨a', c', h1, (Hp.nil w).ownN h3 h2⟩
end Go.Xw
namespace Go.Proofs
open Go.Xw
set_option maxRecDepth 100000
set_option maxHeartbeats 1500000
attribute [local irreducible] Holds elemAddr
theorem mergeI_h (a b : Option Addr) (ca cb : Nat) (xs ys : List Int) (w0 : World) (ha : Rd w0 a 1 eI xs) (hb : Rd w0 b 1 eI ys) (hl : xs.length ≤ 1000) (hl2 : ys.length ≤ 1000) :
  Ret Tryz.prog 132 [.slice a xs.length ca, .slice b ys.length cb] w0 (fun v w => ∃ a' c', v = .tuple ⟨[.slice a' (mergeL xs ys).length c', .bool (mergeOk xs ys)]⟩ ∧ Hp w0 w [rO 3 1 eI a' c' (mergeL xs ys)]) :=
 (implMergeCuts_ok a b ca cb xs ys w0 ha.h hb.h (by omega) (by omega)).mono fun _ _ h => Go.Xw.MergeQ.hp h
theorem cutLess_h (a b : Option Addr) (ca cb : Nat) (xs ys : List Int) (w0 : World) (ha : Rd w0 a 1 eI xs) (hb : Rd w0 b 1 eI ys) (hl : xs.length ≤ 1000) :
  Ret Tryz.prog 133 [.slice a xs.length ca, .slice b ys.length cb] w0 (fun v w => v = .bool (cutLt xs ys) ∧ Ext w0 w) :=
 implCutLess_ok a b ca cb xs ys w0 ha.h hb.h (by omega)
theorem containsAll_h (a b : Option Addr) (ca cb : Nat) (X Y : List Int) (w0 : World) (ha : Rd w0 a 1 eI X) (hb : Rd w0 b 1 eI Y) (hl : X.length ≤ 1000) (hl2 : Y.length ≤ 1000) :
  Ret Tryz.prog 135 [.slice a X.length ca, .slice b Y.length cb] w0 (fun v w => v = .bool (pB (∀ x, x ∈ Y → x ∈ X)) ∧ Ext w0 w) := by
 refine enter Tryz.S135ok _ _ rfl rfl (by show _ ≤ _; simp only [List.length]; decide) (fun C => ?_); have hp := Hp.nil w0; refine h_run rfl ?_; skip
 refine h_loop [0, 7, 8, 9] (fun (i : Nat) => [(0, .slice a X.length ca), (7, .slice b Y.length cb), (8, .int .i64 Y.length), (9, .int .i64 (i : Int))])
  (fun i w' => i ≤ Y.length ∧ (∀ j, j < i → Y.getD j default ∈ X) ∧ Hp w0 w' []) (fun i => Y.length - i) 0 rfl ⟨by omega, fun j hj => by omega, hp⟩ ?_
 clear hp
 rintro i w1 ⟨hi, hall, hp⟩ IH C
 refine h_run rfl ?_; skip
 refine h_cond_dec (fun hlt => ?_) (fun hlt => ?_)
 ·have hlt' : i < Y.length := by omega
  refine h_cond_t rfl rfl ?_; (repeat (refine H_ldEN hp rfl (by omega) rfl rfl ?_))
  by_cases hm : Y.getD i default ∈ X
  ·refine h_call rfl Tryz.func40 (by kernel_rfl) rfl ((hasInt_h a ca X.length X rfl (Y.getD i default) _ hp.rd (by omega)).yes hm) ?_; rintro _ w ⟨rfl, hx⟩; have hp := hp.ext hx; refine ops_run nopre rfl ?_; skip
   refine h_cond_f rfl rfl ?_; skip
   refine IH (i + 1) _ _ _ (by omega) rfl ⟨by omega, fun j hj => ?_, hp⟩
   by_cases hj2 : j < i
   ·exact hall j hj2
   ·obtain rfl : j = i := by omega
    exact hm
  ·refine h_call rfl Tryz.func40 (by kernel_rfl) rfl ((hasInt_h a ca X.length X rfl (Y.getD i default) _ hp.rd (by omega)).no hm) ?_; rintro _ w ⟨rfl, hx⟩; have hp := hp.ext hx; refine ops_run nopre rfl ?_; skip
   refine h_cond_t rfl rfl ?_; (repeat (refine R_ret ?_))
   exact ⟨by rw [pB_no' fun h => hm (h _ (getD_memR hlt'))], hp.x⟩
 ·refine h_cond_f rfl rfl ?_; (repeat (refine R_ret ?_))
  obtain rfl : i = Y.length := by omega
  have hyes : ∀ x, x ∈ Y → x ∈ X := fun x hx => by
   obtain ⟨j, hj, rfl⟩ := List.mem_iff_getElem.1 hx
   have := hall j hj
   rwa [List.getD_eq_getElem?_getD, List.getElem?_eq_getElem hj] at this
  exact ⟨by rw [pB_iff.2 hyes], hp.x⟩
theorem candidates_h (a b : Option Addr) (ca cb : Nat) (RA RB : List (RowA Int)) (w0 : World) (hA : Rd w0 a 1 eRo RA) (hAr : RowsR w0 RA) (hB : Rd w0 b 1 eRo RB) (hBr : RowsR w0 RB) (hla : RA.length ≤ 8) (hlb : RB.length ≤ 8) (hgA : ∀ r, r ∈ RA → r.ins.length ≤ 4) (hgB : ∀ r, r ∈ RB → r.ins.length ≤ 4) :
  Ret Tryz.prog 101 [.slice a RA.length ca, .slice b RB.length cb] w0 (fun v w => ∃ b' c' R P, (v = .slice b' R.length c' ∧ insOf R = freeL (joinL (insOf RA) (insOf RB)) ∧ ∀ r, r ∈ R → r ∈ P) ∧ Hp w0 w [rO 24 1 eRo b' c' R, rRows 3 1 eI P]) := by
 refine enter Tryz.S101ok _ _ rfl rfl (by show _ ≤ _; simp only [List.length]; decide) (fun C => ?_); have hp := Hp.nil w0; refine h_run rfl ?_; skip
 have hp0 : Hp w0 _ [rO 24 1 (eRo (α := Int)) none 0 [], rRows 3 1 eI []] := (rRows_nil hp).ownN (Ext.refl _) (Own.nil _ _ _ _ _)
 refine h_loop4 [1, 5, 19, 20, 21] (fun (i : Nat) (R : List (RowA Int)) (b' : Option Addr) (c' : Nat) => [(1, .slice b RB.length cb), (5, .slice b' R.length c'), (19, .slice a RA.length ca), (20, .int .i64 RA.length), (21, .int .i64 (i : Int))])
  (fun i R b' c' w' => i ≤ RA.length ∧ insOf R = ((insOf RA).take i).foldl (joinR (insOf RB)) [] ∧ ∃ P, (∀ r, r ∈ R → r ∈ P) ∧ Hp w0 w' [rO 24 1 eRo b' c' R, rRows 3 1 eI P]) (fun i _ _ _ => RA.length - i) 0 [] none 0 rfl ⟨by omega, rfl, [], fun r hr => hr, hp0⟩ ?_
 clear hp hp0
 rintro i R b' c' w1 ⟨hi, hR, P, hRP, hp⟩ IH C
 refine h_run rfl ?_; skip
 refine h_cond_dec (fun hlt => ?_) (fun hlt => ?_)
 ·have hlt' : i < RA.length := by omega
  have hxr := hAr.at_ hlt'
  refine h_cond_t rfl rfl ?_; (repeat (refine H_ldEN hp rfl (by omega) rfl rfl ?_))
  refine h_loop4 [1, 5, 7, 19, 20, 21, 25, 26, 27] (fun (j : Nat) (R : List (RowA Int)) (b' : Option Addr) (c' : Nat) => [(1, .slice b RB.length cb), (5, .slice b' R.length c'), (7, .slice (RA.getD i default).ia (RA.getD i default).ins.length (RA.getD i default).ic), (19, .slice a RA.length ca), (20, .int .i64 RA.length), (21, .int .i64 (i : Int)), (25, .slice b RB.length cb), (26, .int .i64 RB.length), (27, .int .i64 (j : Int))])
   (fun j R b' c' w' => j ≤ RB.length ∧ insOf R = joinR ((insOf RB).take j) (((insOf RA).take i).foldl (joinR (insOf RB)) []) (RA.getD i default).ins ∧ ∃ P, (∀ r, r ∈ R → r ∈ P) ∧ Hp w0 w' [rO 24 1 eRo b' c' R, rRows 3 1 eI P]) (fun j _ _ _ => RB.length - j) 0 R b' c' rfl ⟨by omega, hR, P, hRP, hp⟩ ?_
  clear hp hR hRP P
  rintro j R b' c' w1 ⟨hj, hR, P, hRP, hp⟩ IH2 C
  refine h_run rfl ?_; skip
  refine h_cond_dec (fun hlt2 => ?_) (fun hlt2 => ?_)
  ·have hlt2' : j < RB.length := by omega
   have hyr := hBr.at_ hlt2'
   have g1 := hgA _ (getD_memR hlt')
   have g2 := hgB _ (getD_memR hlt2')
   have hRl : R.length ≤ 64 := by
    have h1 := joinR_len (x := (RA.getD i default).ins) (b := (insOf RB).take j) (L := ((insOf RA).take i).foldl (joinR (insOf RB)) [])
    have h2 := joinF_len (b := insOf RB) (m := 8) (by rw [insOf_len]; omega) (a := (insOf RA).take i) (L := [])
    rw [← hR, insOf_len, List.length_take, insOf_len] at h1
    rw [List.length_take, insOf_len, List.length_nil] at h2
    have : min i RA.length ≤ 7 := by omega
    have h3 := Nat.mul_le_mul_right 8 this
    omega
   have hRg : ∀ r, r ∈ R → r.ins.length ≤ 4 := fun r hr => by
    have hm : r.ins ∈ insOf R := List.mem_map.2 ⟨r, hr, rfl⟩
    rw [hR] at hm
    exact mem_joinR (P := fun u => u.length ≤ 4) (mem_joinF (P := fun u => u.length ≤ 4) (by simp) fun x _ y _ h => (mrg_good h).1) (fun y _ h => (mrg_good h).1) _ hm
   have hjs : joinR ((insOf RB).take (j + 1)) (((insOf RA).take i).foldl (joinR (insOf RB)) []) (RA.getD i default).ins = joinS (RA.getD i default).ins (insOf R) (RB.getD j default).ins := by
    rw [take_snocC (by rw [insOf_len]; exact hlt2'), joinR_snoc, ← hR, insOf_get]
   refine h_cond_t rfl rfl ?_; (repeat (refine H_ldEN hp rfl (by omega) rfl rfl ?_))
   refine h_call rfl Tryz.func132 (by kernel_rfl) rfl (mergeI_h _ _ _ _ (RA.getD i default).ins (RB.getD j default).ins _ hp.rd hp.rd (by omega) (by omega)) ?_; rintro _ w ⟨au, cu, rfl, hq⟩; have hx := hq.x; have hp := hp.call1 hq; refine ops_run nopre rfl ?_; skip
   by_cases ho : mergeOk (RA.getD i default).ins (RB.getD j default).ins = true
   ·refine h_cond_f (by rw [ho]; rfl) rfl ?_; skip
    have hgood := mrg_good ho
    have hul : (mergeL (RA.getD i default).ins (RB.getD j default).ins).length ≤ 4 := mergeL_len _ _
    have hue : mergeL (RA.getD i default).ins (RB.getD j default).ins = mrg (RA.getD i default).ins (RB.getD j default).ins := merge_yes ho
    have hjs2 : joinS (RA.getD i default).ins (insOf R) (RB.getD j default).ins = insC (insOf R) (mergeL (RA.getD i default).ins (RB.getD j default).ins) := by
     unfold joinS; rw [if_pos ho, hue]
    rw [hjs2] at hjs
    obtain ⟨u, hu⟩ : ∃ u, u = mergeL (RA.getD i default).ins (RB.getD j default).ins := ⟨_, rfl⟩
    rw [← hu] at hp hul hjs ⊢
    clear hjs2 hue hgood
    refine h_loop [1, 5, 7, 10, 12, 19, 20, 21, 25, 26, 27] (fun (q : Nat) => [(1, .slice b RB.length cb), (5, .slice b' R.length c'), (7, .slice (RA.getD i default).ia (RA.getD i default).ins.length (RA.getD i default).ic), (10, .slice au u.length cu), (12, .int .i64 (q : Int)), (19, .slice a RA.length ca), (20, .int .i64 RA.length), (21, .int .i64 (i : Int)), (25, .slice b RB.length cb), (26, .int .i64 RB.length), (27, .int .i64 (j : Int))])
     (fun q w' => q ≤ R.length ∧ (∀ k, k < q → cutLt (R.getD k default).ins u = true) ∧ Hp w0 w' [rO 3 1 eI au cu u, rO 24 1 eRo b' c' R, rRows 3 1 eI P]) (fun q => R.length - q) 0 rfl ⟨by omega, fun k hk => by omega, hp⟩ ?_
    clear hp
    rintro q w1 ⟨hq, hall, hp⟩ IH3 C
    have hcap := hp.f1.own.cap
    have hall2 : ∀ k, k < q → cutLt ((insOf R).getD k default) u = true := fun k hk => by rw [insOf_get]; exact hall k hk
    refine h_run rfl ?_; skip
    refine h_guard_by (fun hlt3 => ?_) (fun hlt3 => ?_); all_goals (rw [hlt3]; (first | replace hlt3 := of_decide_eq_true hlt3 | replace hlt3 := of_decide_eq_false hlt3 | skip); (repeat (first | (refine gGuard ?_; first | refine h_guard_y rfl nopre rfl ?_ | refine h_guard_n rfl nopre rfl ?_) | (refine gLoad ?_; refine H_ldEN hp rfl (by omega) rfl rfl ?_))))
    ·have hlt3' : q < R.length := by omega
     have hrow : RdH w0 [rO 3 1 eI au cu u, rO 24 1 eRo b' c' R, rRows 3 1 eI P] (R.getD q default).ia 1 eI (R.getD q default).ins := RowsH.mem_ inferInstance (hRP _ (getD_memR hlt3'))
     have hrl : (R.getD q default).ins.length ≤ 4 := hRg _ (getD_memR hlt3')
     refine h_call rfl Tryz.func133 (by kernel_rfl) rfl (cutLess_h _ _ _ _ (R.getD q default).ins u _ hp.rd hp.rd (by omega)) ?_; rintro _ w ⟨rfl, hx⟩; have hp := hp.ext hx; refine ops_run nopre rfl ?_; skip
     by_cases hc : cutLt (R.getD q default).ins u = true
     ·refine h_cond_t hc rfl ?_; skip
      refine IH3 (q + 1) _ _ _ (by omega) rfl ⟨by omega, fun k hk => ?_, hp⟩
      by_cases hk2 : k < q
      ·exact hall k hk2
      ·obtain rfl : k = q := by omega
       exact hc
     ·have hc' : cutLt (R.getD q default).ins u = false := by simpa using hc
      have hat := insC_at (i := q) (L := insOf R) (u := u) (by rw [insOf_len]; exact hq) hall2 (fun _ => by rw [insOf_get]; exact hc')
      refine h_cond_f hc' rfl ?_; skip
      refine h_guard_by (fun h5 => ?_) (fun h5 => ?_); all_goals (rw [h5]; (first | replace h5 := of_decide_eq_true h5 | replace h5 := of_decide_eq_false h5 | skip); (repeat (first | (refine gGuard ?_; first | refine h_guard_y rfl nopre rfl ?_ | refine h_guard_n rfl nopre rfl ?_) | (refine gLoad ?_; refine H_ldEN hp rfl (by omega) rfl rfl ?_))))
      ·by_cases hs : (R.getD q default).ins = u
       ·refine h_call rfl Tryz.func134 (by kernel_rfl) rfl ((implSameInts_h _ _ _ _ (R.getD q default).ins u _ hp.rd hp.rd (by omega) (by omega)).yes hs) ?_; rintro _ w ⟨rfl, hx⟩; have hp := hp.ext hx; refine ops_run nopre rfl ?_; skip
        refine h_cond_t rfl rfl ?_; skip
        refine IH2 (j + 1) R b' c' _ _ _ (by omega) rfl ⟨by omega, ?_, P, hRP, hp.drop⟩
        rw [hjs, hat, if_pos ⟨by rw [insOf_len]; exact hlt3', by rw [insOf_get]; exact hs⟩]
       ·refine h_call rfl Tryz.func134 (by kernel_rfl) rfl ((implSameInts_h _ _ _ _ (R.getD q default).ins u _ hp.rd hp.rd (by omega) (by omega)).no hs) ?_; rintro _ w ⟨rfl, hx⟩; have hp := hp.ext hx; refine ops_run nopre rfl ?_; skip
        have hin : insC (insOf R) u = (insOf R).take q ++ u :: (insOf R).drop q := by rw [hat, if_neg (fun hh => hs (by rw [← insOf_get]; exact hh.2))]
        refine h_cond_f rfl rfl ?_; skip
        refine H_lit hp (eRo (α := Int)) [(⟨[], none, 0⟩ : RowA Int)] rfl rfl rfl rfl (s := 1) rfl (by decide) (by infer_instance) (by rfl) (by rfl) (by rfl) (by decide) ?_; intro w b66 hx hp; refine ops_run nopre rfl ?_; skip
        refine U_append hp rfl rfl rfl rfl rfl rfl rfl (by decide) rfl (by first | omega | (simp only [List.length_append, List.length_cons, List.length_nil, List.length_take, List.length_drop, List.length_set, List.length_replicate, List.length_map]; omega)) rfl rfl ?_; intro b2 c2 w hp hnil; refine ops_run nopre rfl ?_; skip
        have hp := hp.drop
        have hcap2 := hp.f1.own.cap
        have hXl : (R ++ [(⟨[], none, 0⟩ : RowA Int)]).length = R.length + 1 := by simp
        have hne2 : b2 ≠ none := nn_of hp (X := R ++ [(⟨[], none, 0⟩ : RowA Int)]) (by omega)
        refine D_draw hp (by kernel_rfl) (by kernel_rfl) rfl rfl ?_; intro w hx hp; have hs := hp; skip
        refine V_shift (q := q) (X := R ++ [(⟨[], none, 0⟩ : RowA Int)]) (a := b2) (c := c2) hp (by omega) rfl (by rw [hXl]; rfl) rfl rfl (by rw [hXl]; rfl) rfl rfl rfl rfl rfl (by kernel_rfl) ?_; intro w hp
        refine D_ops rfl rfl ?_; skip
        have hsl : (shiftL (R ++ [(⟨[], none, 0⟩ : RowA Int)]) q).length = R.length + 1 := by rw [shiftL_len (by omega), hXl]
        first | refine U_st0N hp (y := (⟨u, au, cu⟩ : RowA Int)) rfl rfl rfl (by omega) (by decide) (rfl) rfl ?_ | refine U_st0 hp (y := (⟨u, au, cu⟩ : RowA Int)) rfl rfl rfl (by omega) (by decide) (rfl) rfl ?_
        intro w hp; refine ops_run nopre rfl ?_; skip
        rw [shiftL_snoc R _ hq] at hp
        have hp := (rRows_add (y := (⟨u, au, cu⟩ : RowA Int)) (hp.f1.f2.f2)).f1
        have hnl : (R.take q ++ (⟨u, au, cu⟩ : RowA Int) :: R.drop q).length = (R ++ [(⟨[], none, 0⟩ : RowA Int)]).length := by
         rw [List.length_append, List.length_cons, List.length_take, List.length_drop, hXl]; omega
        refine IH2 (j + 1) (R.take q ++ (⟨u, au, cu⟩ : RowA Int) :: R.drop q) b2 c2 _ _ _ (by omega) (by rw [hnl]; rfl) ⟨by omega, ?_, P ++ [(⟨u, au, cu⟩ : RowA Int)], fun r hr => ?_, hp⟩
        ·rw [hjs, hin]
         unfold insOf
         rw [List.map_append, List.map_cons, List.map_take, List.map_drop]
        ·rw [List.mem_append, List.mem_cons] at hr
         rw [List.mem_append]
         rcases hr with hr | hr | hr
         ·exact .inl (hRP _ (List.mem_of_mem_take hr))
         ·exact .inr (List.mem_singleton.2 hr)
         ·exact .inl (hRP _ (List.mem_of_mem_drop hr))
      ·exact absurd hlt3 h5
    ·have hqe : q = R.length := by omega
     have hin : insC (insOf R) u = (insOf R).take q ++ u :: (insOf R).drop q := by
      have hat := insC_at (i := q) (L := insOf R) (u := u) (by rw [insOf_len]; exact hq) hall2 (fun hh => by rw [insOf_len] at hh; omega)
      rw [hat, if_neg (fun hh => by rw [insOf_len] at hh; omega)]
     refine h_cond_f rfl rfl ?_; skip
     refine h_guard_by (fun h5 => ?_) (fun h5 => ?_); all_goals (rw [h5]; (first | replace h5 := of_decide_eq_true h5 | replace h5 := of_decide_eq_false h5 | skip); (repeat (first | (refine gGuard ?_; first | refine h_guard_y rfl nopre rfl ?_ | refine h_guard_n rfl nopre rfl ?_) | (refine gLoad ?_; refine H_ldEN hp rfl (by omega) rfl rfl ?_))))
     ·exact absurd h5 hlt3
     ·refine h_cond_f rfl rfl ?_; skip
      refine H_lit hp (eRo (α := Int)) [(⟨[], none, 0⟩ : RowA Int)] rfl rfl rfl rfl (s := 1) rfl (by decide) (by infer_instance) (by rfl) (by rfl) (by rfl) (by decide) ?_; intro w b66 hx hp; refine ops_run nopre rfl ?_; skip
      refine U_append hp rfl rfl rfl rfl rfl rfl rfl (by decide) rfl (by first | omega | (simp only [List.length_append, List.length_cons, List.length_nil, List.length_take, List.length_drop, List.length_set, List.length_replicate, List.length_map]; omega)) rfl rfl ?_; intro b2 c2 w hp hnil; refine ops_run nopre rfl ?_; skip
      have hp := hp.drop
      have hcap2 := hp.f1.own.cap
      have hXl : (R ++ [(⟨[], none, 0⟩ : RowA Int)]).length = R.length + 1 := by simp
      have hne2 : b2 ≠ none := nn_of hp (X := R ++ [(⟨[], none, 0⟩ : RowA Int)]) (by omega)
      refine D_draw hp (by kernel_rfl) (by kernel_rfl) rfl rfl ?_; intro w hx hp; have hs := hp; skip
      refine V_shift (q := q) (X := R ++ [(⟨[], none, 0⟩ : RowA Int)]) (a := b2) (c := c2) hp (by omega) rfl (by rw [hXl]; rfl) rfl rfl (by rw [hXl]; rfl) rfl rfl rfl rfl rfl (by kernel_rfl) ?_; intro w hp
      refine D_ops rfl rfl ?_; skip
      have hsl : (shiftL (R ++ [(⟨[], none, 0⟩ : RowA Int)]) q).length = R.length + 1 := by rw [shiftL_len (by omega), hXl]
      first | refine U_st0N hp (y := (⟨u, au, cu⟩ : RowA Int)) rfl rfl rfl (by omega) (by decide) (rfl) rfl ?_ | refine U_st0 hp (y := (⟨u, au, cu⟩ : RowA Int)) rfl rfl rfl (by omega) (by decide) (rfl) rfl ?_
      intro w hp; refine ops_run nopre rfl ?_; skip
      rw [shiftL_snoc R _ hq] at hp
      have hp := (rRows_add (y := (⟨u, au, cu⟩ : RowA Int)) (hp.f1.f2.f2)).f1
      have hnl : (R.take q ++ (⟨u, au, cu⟩ : RowA Int) :: R.drop q).length = (R ++ [(⟨[], none, 0⟩ : RowA Int)]).length := by
       rw [List.length_append, List.length_cons, List.length_take, List.length_drop, hXl]; omega
      refine IH2 (j + 1) (R.take q ++ (⟨u, au, cu⟩ : RowA Int) :: R.drop q) b2 c2 _ _ _ (by omega) (by rw [hnl]; rfl) ⟨by omega, ?_, P ++ [(⟨u, au, cu⟩ : RowA Int)], fun r hr => ?_, hp⟩
      ·rw [hjs, hin]
       unfold insOf
       rw [List.map_append, List.map_cons, List.map_take, List.map_drop]
      ·rw [List.mem_append, List.mem_cons] at hr
       rw [List.mem_append]
       rcases hr with hr | hr | hr
       ·exact .inl (hRP _ (List.mem_of_mem_take hr))
       ·exact .inr (List.mem_singleton.2 hr)
       ·exact .inl (hRP _ (List.mem_of_mem_drop hr))
   ·refine h_cond_t (by simp only [Bool.not_eq_true] at ho; rw [ho]; rfl) rfl ?_; skip
    refine IH2 (j + 1) R b' c' _ _ _ (by omega) rfl ⟨by omega, ?_, P, hRP, hp.drop⟩
    rw [hjs]
    unfold joinS
    rw [if_neg ho]
  ·refine h_cond_f rfl rfl ?_; skip
   obtain rfl : j = RB.length := by omega
   refine IH (i + 1) R b' c' _ _ _ (by omega) rfl ⟨by omega, ?_, P, hRP, hp⟩
   rw [hR, take_snocC (by rw [insOf_len]; exact hlt'), List.foldl_append, List.take_of_length_le (by rw [insOf_len]; exact Nat.le_refl _), ← insOf_get]
   rfl
 ·obtain rfl : i = RA.length := by omega
  have hRJ : insOf R = joinL (insOf RA) (insOf RB) := by rw [hR, List.take_of_length_le (by rw [insOf_len]; exact Nat.le_refl _)]; rfl
  have hRl : R.length ≤ 64 := by
   have := joinL_len (a := insOf RA) (b := insOf RB) (by rw [insOf_len]; exact hla) (by rw [insOf_len]; exact hlb)
   rw [← hRJ, insOf_len] at this
   exact this
  have hRg : ∀ r, r ∈ R → r.ins.length ≤ 4 := fun r hr => by
   have hm : r.ins ∈ insOf R := List.mem_map.2 ⟨r, hr, rfl⟩
   rw [hRJ] at hm
   exact (joinL_good _ _ _ hm).1
  rw [← hRJ]
  refine h_cond_f rfl rfl ?_; skip
  have hp0 : Hp w0 _ [rO 24 1 (eRo (α := Int)) none 0 [], rO 24 1 eRo b' c' R, rRows 3 1 eI P] := hp.ownN (Ext.refl _) (Own.nil _ _ _ _ _)
  refine h_loop4 [5, 13, 82, 83, 84] (fun (i : Nat) (O : List (RowA Int)) (b2 : Option Addr) (c2 : Nat) => [(5, .slice b' R.length c'), (13, .slice b2 O.length c2), (82, .slice b' R.length c'), (83, .int .i64 R.length), (84, .int .i64 (i : Int))])
   (fun i O b2 c2 w' => (i ≤ R.length ∧ insOf O = ((insOf R).take i).filter (fun u => !pB (domP (insOf R) u)) ∧ ∀ r, r ∈ O → r ∈ R) ∧ Hp w0 w' [rO 24 1 eRo b2 c2 O, rO 24 1 eRo b' c' R, rRows 3 1 eI P]) (fun i _ _ _ => R.length - i) 0 [] none 0 rfl ⟨⟨by omega, rfl, fun r hr => by simp at hr⟩, hp0⟩ ?_
  clear hp hp0
  rintro i O b2 c2 w1 ⟨⟨hi, hO, hOR⟩, hp⟩ IH C
  have hOl : O.length ≤ i := by
   have h1 := congrArg List.length hO
   have h2 := List.length_filter_le (fun u => !pB (domP (insOf R) u)) ((insOf R).take i)
   rw [insOf_len] at h1
   rw [List.length_take] at h2
   omega
  refine h_run rfl ?_; skip
  refine h_cond_dec (fun hlt2 => ?_) (fun hlt2 => ?_)
  ·have hlt2' : i < R.length := by omega
   have hri := hRg _ (getD_memR hlt2')
   refine h_cond_t rfl rfl ?_; (repeat (refine H_ldEN hp rfl (by omega) rfl rfl ?_))
   refine h_loop2 [5, 13, 15, 16, 82, 83, 84, 88, 89, 90] (fun (j : Nat) (fr : Bool) => [(5, .slice b' R.length c'), (13, .slice b2 O.length c2), (15, .slice (R.getD i default).ia (R.getD i default).ins.length (R.getD i default).ic), (16, .bool fr), (82, .slice b' R.length c'), (83, .int .i64 R.length), (84, .int .i64 (i : Int)), (88, .slice b' R.length c'), (89, .int .i64 R.length), (90, .int .i64 (j : Int))])
    (fun j fr w' => (j ≤ R.length ∧ (fr = true ↔ ∀ q, q < j → ¬ ((R.getD q default).ins.length < (R.getD i default).ins.length ∧ ∀ x, x ∈ (R.getD q default).ins → x ∈ (R.getD i default).ins))) ∧ Hp w0 w' [rO 24 1 eRo b2 c2 O, rO 24 1 eRo b' c' R, rRows 3 1 eI P]) (fun j _ => R.length - j) 0 true rfl ⟨⟨by omega, ⟨fun _ q hq => by omega, fun _ => rfl⟩⟩, hp⟩ ?_
   clear hp
   rintro j fr w1 ⟨⟨hj, hfr⟩, hp⟩ IH2 C
   refine h_run rfl ?_; skip
   refine h_cond_dec (fun hlt3 => ?_) (fun hlt3 => ?_)
   ·have hlt3' : j < R.length := by omega
    have hrj := hRg _ (getD_memR hlt3')
    have hrowi : RdH w0 [rO 24 1 eRo b2 c2 O, rO 24 1 eRo b' c' R, rRows 3 1 eI P] (R.getD i default).ia 1 eI (R.getD i default).ins := RowsH.mem_ inferInstance (hRP _ (getD_memR hlt2'))
    have hrowj : RdH w0 [rO 24 1 eRo b2 c2 O, rO 24 1 eRo b' c' R, rRows 3 1 eI P] (R.getD j default).ia 1 eI (R.getD j default).ins := RowsH.mem_ inferInstance (hRP _ (getD_memR hlt3'))
    have hnext : ∀ fr' : Bool, (fr' = true ↔ fr = true ∧ ¬ ((R.getD j default).ins.length < (R.getD i default).ins.length ∧ ∀ x, x ∈ (R.getD j default).ins → x ∈ (R.getD i default).ins)) → (fr' = true ↔ ∀ q, q < j + 1 → ¬ ((R.getD q default).ins.length < (R.getD i default).ins.length ∧ ∀ x, x ∈ (R.getD q default).ins → x ∈ (R.getD i default).ins)) := fun fr' h => by
     rw [h, hfr]
     constructor
     ·rintro ⟨h1, h2⟩ q hq
      by_cases hq2 : q < j
      ·exact h1 q hq2
      ·obtain rfl : q = j := by omega
       exact h2
     ·exact fun h1 => ⟨fun q hq => h1 q (by omega), h1 j (by omega)⟩
    refine h_cond_t rfl rfl ?_; (repeat (refine H_ldEN hp rfl (by omega) rfl rfl ?_))
    refine h_guard_by (fun h5 => ?_) (fun h5 => ?_); all_goals (rw [h5]; (first | replace h5 := of_decide_eq_true h5 | replace h5 := of_decide_eq_false h5 | skip); (repeat (refine gGuard ?_; first | refine h_guard_y rfl nopre rfl ?_ | refine h_guard_n rfl nopre rfl ?_)))
    ·by_cases hs : ∀ x, x ∈ (R.getD j default).ins → x ∈ (R.getD i default).ins
     ·refine h_call rfl Tryz.func135 (by kernel_rfl) rfl ((containsAll_h _ _ _ _ (R.getD i default).ins (R.getD j default).ins _ hp.rd hp.rd (by omega) (by omega)).tt (pB_iff.2 hs)) ?_; rintro _ w ⟨rfl, hx⟩; have hp := hp.ext hx; refine ops_run nopre rfl ?_; skip
      refine h_cond_t rfl rfl ?_; skip
      refine IH2 (j + 1) false _ _ _ (by omega) rfl ⟨⟨by omega, hnext false ⟨fun h => (by cases h), fun h => absurd ⟨by omega, hs⟩ h.2⟩⟩, hp⟩
     ·refine h_call rfl Tryz.func135 (by kernel_rfl) rfl ((containsAll_h _ _ _ _ (R.getD i default).ins (R.getD j default).ins _ hp.rd hp.rd (by omega) (by omega)).ff (pB_no' hs)) ?_; rintro _ w ⟨rfl, hx⟩; have hp := hp.ext hx; refine ops_run nopre rfl ?_; skip
      refine h_cond_f rfl rfl ?_; skip
      refine IH2 (j + 1) fr _ _ _ (by omega) rfl ⟨⟨by omega, hnext fr ⟨fun h => ⟨h, fun hh => hs hh.2⟩, fun h => h.1⟩⟩, hp⟩
    ·refine h_cond_f rfl rfl ?_; skip
     refine IH2 (j + 1) fr _ _ _ (by omega) rfl ⟨⟨by omega, hnext fr ⟨fun h => ⟨h, fun hh => h5 (by omega)⟩, fun h => h.1⟩⟩, hp⟩
   ·obtain rfl : j = R.length := by omega
    have hdom : fr = true ↔ ¬ domP (insOf R) (R.getD i default).ins := by
     rw [hfr]
     constructor
     ·rintro h ⟨v, hv, h1, h2⟩
      obtain ⟨r, hr, rfl⟩ := List.mem_map.1 hv
      obtain ⟨q, hq, e⟩ := List.mem_iff_getElem.1 hr
      have e2 : R.getD q default = r := by rw [List.getD_eq_getElem?_getD, List.getElem?_eq_getElem hq]; exact e
      exact h q hq (by rw [e2]; exact ⟨h1, h2⟩)
     ·intro h q hq hh
      exact h ⟨_, List.mem_map.2 ⟨_, getD_memR hq, rfl⟩, hh.1, hh.2⟩
    have hst : ((insOf R).take (i + 1)).filter (fun u => !pB (domP (insOf R) u)) = insOf O ++ (if fr = true then [(R.getD i default).ins] else []) := by
     rw [take_snocC (by rw [insOf_len]; exact hlt2'), List.filter_append, ← hO, insOf_get]
     congr 1
     by_cases hf : fr = true
     ·rw [if_pos hf, List.filter_cons, if_pos (by rw [pB_no' (hdom.1 hf)]; rfl)]
      rfl
     ·have hd : domP (insOf R) (R.getD i default).ins := Classical.byContradiction fun h => hf (hdom.2 h)
      rw [if_neg hf, List.filter_cons, if_neg (by rw [pB_iff.2 hd]; decide)]
      rfl
    refine h_cond_f rfl rfl ?_; skip
    cases fr
    ·skip
     refine h_cond_f rfl rfl ?_; skip
     refine IH (i + 1) O b2 c2 _ _ _ (by omega) rfl ⟨⟨by omega, by rw [hst]; simp, hOR⟩, hp⟩
    ·skip
     refine h_cond_t rfl rfl ?_; skip
     refine H_lit hp (eRo (α := Int)) [(R.getD i default)] rfl rfl rfl rfl (s := 1) rfl (by decide) (by infer_instance) (by rfl) (by rfl) (by rfl) (by decide) ?_; intro w b67 hx hp; refine ops_run nopre rfl ?_; skip
     refine U_append hp rfl rfl rfl rfl rfl rfl rfl (by decide) rfl (by first | omega | (simp only [List.length_append, List.length_cons, List.length_nil, List.length_take, List.length_drop, List.length_set, List.length_replicate, List.length_map]; omega)) rfl rfl ?_; intro b3 c3 w hp hnil; refine ops_run nopre rfl ?_; skip
     refine IH (i + 1) (O ++ [R.getD i default]) b3 c3 _ _ _ (by omega) rfl ⟨⟨by omega, ?_, fun r hr => ?_⟩, hp.drop⟩
     ·rw [hst, if_pos rfl]
      unfold insOf
      rw [List.map_append]
      rfl
     ·rw [List.mem_append] at hr
      rcases hr with hr | hr
      ·exact hOR r hr
      ·rw [List.mem_singleton.1 hr]; exact getD_memR hlt2'
  ·obtain rfl : i = R.length := by omega
   rw [List.take_of_length_le (by rw [insOf_len]; exact Nat.le_refl _)] at hO
   refine h_cond_f rfl rfl ?_; (repeat (refine R_ret ?_))
   exact ⟨b2, c2, O, P, ⟨rfl, hO, fun r hr => hRP r (hOR r hr)⟩, hp.f1.drop⟩
end Go.Proofs
end
