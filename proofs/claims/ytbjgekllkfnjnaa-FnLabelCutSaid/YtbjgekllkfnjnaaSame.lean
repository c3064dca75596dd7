/- Texts that belong together; each under its stated conditions. -/
import Derived.Test.YtbjgekllkfnjnaaLists
import Derived.Laws.CopyRow
import Derived.Laws.IdiomCopy
import Derived.Test.YtbjgekllkfnjnaaFam
import Derived.Test.YtbjgekllkfnjnaaBase
set_option linter.all false
section
namespace Go.Xw
open Go.RowKit
theorem take_flat {α : Type} {enc : α → List Value} (he : ∀ x, (enc x).length = 1) : ∀ (X : List α) (k : Nat), (X.take k).flatMap enc = (X.flatMap enc).take k
 | [], k => by simp
 | x :: X, 0 => by simp
 | x :: X, k + 1 => by
  rw [List.take_succ_cons, List.flatMap_cons, List.flatMap_cons, take_flat he X k, List.take_append, he x, Nat.add_sub_cancel, List.take_of_length_le (i := k + 1) (l := enc x) (by rw [he]; omega)]
def shiftL {α : Type} (X : List α) (k : Nat) : List α := X.take (k + 1) ++ (X.drop k).take (X.length - (k + 1))
theorem shiftL_len {α : Type} {X : List α} {k : Nat} (h : k < X.length) : (shiftL X k).length = X.length := by
 unfold shiftL
 rw [List.length_append, List.length_take, List.length_take, List.length_drop]
 omega
theorem shiftL_snoc {α : Type} (X : List α) (y : α) {k : Nat} (h : k ≤ X.length) (u : α) : (shiftL (X ++ [y]) k).set k u = X.take k ++ u :: X.drop k := by
 unfold shiftL
 have hl : (X ++ [y]).length = X.length + 1 := by simp
 rw [hl, show X.length + 1 - (k + 1) = X.length - k by omega]
 have e1 : ((X ++ [y]).drop k).take (X.length - k) = X.drop k := by
  rw [List.drop_append_of_le_length h, List.take_append_of_le_length (by rw [List.length_drop]; omega), List.take_of_length_le (by rw [List.length_drop]; omega)]
 rw [e1]
 by_cases hk : k = X.length
 ·subst hk
  rw [List.take_of_length_le (by simp), List.drop_length, List.append_nil, List.set_append_right _ _ (Nat.le_refl _), Nat.sub_self, List.take_length]
  rfl
 ·rw [List.take_append_of_le_length (by omega), List.take_succ_eq_append_getElem (show k < X.length by omega), List.append_assoc, List.set_append_right _ _ (by simp; omega)]
  have : k - (X.take k).length = 0 := by simp; omega
  rw [this]
  rfl
theorem shift_run {P : Program} {tt : TT} {α : Type} [Inhabited α] {enc : α → List Value} {w0 w : World} {F : List Res} {e t : TypeId} {a : Option Addr} {c : Nat} {X : List α} (hok : TTok P tt) {i j : TI} (hi : tl tt t = some i) (hd : i.desc = .slice e) (hj : tl tt e = some j) (hs : j.size = 1) (he : EncOk enc 1)
  (hp : Hp w0 w (rO e 1 enc a c X :: F)) {k : Nat} (hk : k < X.length) (u ty : TypeId) :
  ∃ w', (Builtin.copy_ #[t, u] ty #[.slice (subA a c 1 (k + 1)) (X.length - (k + 1)) (c - (k + 1)), .slice (subA a c 1 k) (X.length - k) (c - k)]).run P w = .ok (goInt ((X.length - (k + 1) : Nat) : Int)) w' ∧ Hp w0 w' (rO e 1 enc a c (shiftL X k) :: F) := by
 obtain ⟨info, td, q1, q2, q3, q4, q5, htd, q6⟩ := hok.get hi
 obtain ⟨info', td', g1, g2, g3, g4, g5, gtd, g6⟩ := hok.get hj
 rw [toD_slice (htd.trans hd)] at q5
 have hsz : (P.info? e).map (·.size) = some 1 := by rw [g1]; simp [g2, hs]
 have hsl := hp.sl he
 have hlen : ∀ Y : List α, (Y.flatMap enc).length = Y.length := fun Y => by have := flat_len he.len Y; omega
 have hcap := hp.own.cap
 by_cases hck : c = k + 1
 ·have hn : X.length = k + 1 := by omega
  refine ⟨w, ?_, ?_⟩
  ·rw [hn, Nat.sub_self]
   exact run_copy_none (P := P) w t u ty e _ _ _ _ _ _ q5 hsz (by simp)
  ·have e1 : shiftL X k = X := by
    unfold shiftL
    rw [hn, Nat.sub_self, List.take_zero, List.append_nil, List.take_of_length_le (by omega)]
   rw [e1]
   exact hp
 ·rcases hp.own.2 with ⟨hv, h0⟩ | ⟨g, cap, cur, hv, hb, hg, hnc, hcm, hcs, htake⟩
  ·omega
  ·injection hv with v1 _ v3
   subst v1
   subst v3
   have ea : subA (some (⟨g, 0, none⟩ : Addr)) c 1 (k + 1) = some ⟨g, k + 1, none⟩ := by
    unfold subA
    rw [if_neg hck]
    simp [Addr.add]
   have eb : subA (some (⟨g, 0, none⟩ : Addr)) c 1 k = some ((⟨g, 0, none⟩ : Addr).add k) := by
    unfold subA
    rw [if_neg (by omega)]
    simp
   rw [ea, eb]
   have hcl : (((X.drop k).take (X.length - (k + 1))).flatMap enc).length = X.length - (k + 1) := by rw [hlen, List.length_take, List.length_drop]; omega
   have hrun := run_copy_row (P := P) w t u ty e g (k + 1) (X.length - (k + 1)) (c - (k + 1)) ((⟨g, 0, none⟩ : Addr).add k) (X.length - k) (c - k) cur e (((X.drop k).take (X.length - (k + 1))).flatMap enc) q5 hsz hg (by rw [hcl]; exact (Nat.min_eq_right (by omega)).symm) (fun q v hv => by
    have hq : q < X.length - (k + 1) := by have := (List.getElem?_eq_some_iff.1 hv).1; omega
    have h1 := hsl.2 (k + q) 0 (by omega) (by decide)
    have hx : (X.flatMap enc)[k + q]? = some v := by
     rw [take_flat he.len, List.getElem?_take, if_pos hq] at hv
     have e2 : (X.drop k).flatMap enc = (X.flatMap enc).drop k := by
      have e3 := congrArg (fun l : List α => l.flatMap enc) (List.take_append_drop k X)
      simp only [List.flatMap_append] at e3
      have hk2 : ((X.take k).flatMap enc).length = k := by rw [hlen, List.length_take]; omega
      rw [← e3, List.drop_append (l₁ := (X.take k).flatMap enc), List.drop_of_length_le (l := (X.take k).flatMap enc) (by omega), hk2, Nat.sub_self]
      rfl
     rw [e2, List.getElem?_drop] at hv
     exact hv
    have hy : X[k + q]? = some (X.getD (k + q) default) := by rw [List.getD_eq_getElem?_getD, List.getElem?_eq_getElem (by omega)]; rfl
    have h2 := flat_get he.len hy (j := 0) (by decide)
    rw [Nat.mul_one, Nat.add_zero, hx] at h2
    have h3 : fL enc X (k + q) 0 = v := fL_cell h2.symm
    rw [h3] at h1
    rw [add_of_add]
    have e5 : (elemAddr (some (⟨g, 0, none⟩ : Addr)) 1 ((k + q : Nat) : Int)).add 0 = (⟨g, 0, none⟩ : Addr).add (k + q) := by
     unfold elemAddr
     rw [add_of_add]
     congr 1
     omega
    rw [e5] at h1
    exact h1) (by rw [hcl, hcs]; omega) (fun v hv => by
    obtain ⟨x, _, hx⟩ := List.mem_flatMap.1 hv
    exact he.one x v hx)
   rw [hcl] at hrun
   refine ⟨_, hrun, hp.ownS (X' := shiftL X k) ?_ ⟨rfl, rfl, rfl, by simp [World.setRow], fun q _ hq => setRow_other w g q _ (fun e => hq (by simp [Go.Xw.blk, e]))⟩⟩
   refine ⟨by rw [hlen]; omega, .inr ⟨g, c, _, by rw [shiftL_len hk], Nat.zero_le _, setRow_heap w g cur _ e _ hg, by rw [shiftL_len hk]; exact hnc, hcm, ?_, ?_⟩⟩
   ·simp only [List.size_toArray, List.length_append, List.length_take, List.length_drop, Array.length_toList, hcl]
    omega
   ·rw [shiftL_len hk]
    unfold shiftL
    rw [List.flatMap_append, take_flat he.len X (k + 1)]
    have htk : cur.toList.take (k + 1) = (X.flatMap enc).take (k + 1) := by
     rw [← htake, List.take_take, Nat.min_eq_left (by omega)]
    show (cur.toList.take (k + 1) ++ _ ++ _).take (X.length * 1) = _
    rw [htk, List.take_append_of_le_length (by rw [List.length_append, hcl, List.length_take, hlen]; omega)]
    rw [List.take_of_length_le (by rw [List.length_append, hcl, List.length_take, hlen]; omega)]
section
variable {S : Setting} {sz : Nat} {R : Value → World → Prop} {C : World → Prop} {w w0 : World} {F : List Res} {ops : Array Oper} {rest : List Oper} {k : List Item} {env : Env}
theorem V_shift {α : Type} [Inhabited α] {enc : α → List Value} {X : List α} {t u e ty : TypeId} {a da sa : Option Addr} {c dn dc sn sc q : Nat} {f : Option Addr → Nat → List α → List Res} (hp : Hp w0 w F) [hq : UpdO F a e 1 enc c X f] [he : EncOk enc 1] {i j : TI} {d : Nat} [hS : S.Ok] (hk : q < X.length) (hda : da = subA a c 1 (q + 1)) (hdn : dn = X.length - (q + 1)) (hdc : dc = c - (q + 1)) (hsa : sa = subA a c 1 q) (hsn : sn = X.length - q) (hsc : sc = c - q)
  (hi : tl S.tt t = some i) (hd : i.desc = .slice e) (hj : tl S.tt e = some j) (hs : j.size = 1) (hfl : flagAt ops rest = false)
  (hkk : ∀ w', Hp w0 w' (f a c (shiftL X q)) → Holds S sz R C w' (.ops true ops rest k ((d, .int .i64 ((X.length - (q + 1) : Nat) : Int)) :: env))) :
  Holds S sz R C w (.act (.copy t u ty (.slice da dn dc) (.slice sa sn sc)) ⟨true, ops, rest, some d, k, env⟩) := by
 subst hda; subst hdn; subst hdc; subst hsa; subst hsn; subst hsc
 obtain ⟨M, h1, h2⟩ := hq.h
 obtain ⟨w', hr, hp'⟩ := shift_run (P := S.P) hS.tt hi hd hj hs he (hp.perm h1) hk u ty
 exact h_actq rfl rfl (by simp only [Action.sem, Sem.run_bind, hr, Result.andThen_ok, Sem.run_pure]; rfl) ⟨fun hq => absurd hq (by show ¬ flagAt ops rest = true; rw [hfl]; decide), hkk w' (hp'.perm (h2 _ _ _).symm)⟩
end
end Go.Xw
end
section
namespace Go.Proofs
open Go.Xw
set_option maxRecDepth 100000
set_option maxHeartbeats 1000000
attribute [local irreducible] Holds elemAddr
theorem getD_ext {X Y : List Int} (hl : X.length = Y.length) (h : ∀ j, j < X.length → X.getD j default = Y.getD j default) : X = Y :=
 List.ext_getElem hl fun j h1 h2 => by
  have := h j h1
  rwa [List.getD_eq_getElem?_getD, List.getD_eq_getElem?_getD, List.getElem?_eq_getElem h1, List.getElem?_eq_getElem h2] at this
theorem implSameInts_h (a b : Option Addr) (c d : Nat) (X Y : List Int) (w0 : World) (hA : Rd w0 a 1 eI X) (hB : Rd w0 b 1 eI Y) (hl : X.length ≤ 1000000) (hl2 : Y.length ≤ 1000000) :
  Ret Try.prog 119 [.slice a X.length c, .slice b Y.length d] w0 (fun v w => v = .bool (decide (X = Y)) ∧ Ext w0 w) := by
 refine enter Try.S119ok _ _ rfl rfl (by show _ ≤ _; simp only [List.length]; decide) (fun C => ?_); have hp := Hp.nil w0; refine h_run rfl ?_; skip
 refine h_cond_dec (fun hne => ?_) (fun hne => ?_)
 ·refine h_cond_t rfl rfl ?_; (repeat (refine R_ret ?_))
  have : X ≠ Y := fun e => hne (by rw [e])
  exact ⟨by simp [this], hp.x⟩
 ·refine h_cond_f rfl rfl ?_; skip
  have hlen : X.length = Y.length := by omega
  refine h_loop [0, 1, 12, 13] (fun (i : Nat) => [(0, .slice a X.length c), (1, .slice b Y.length d), (12, .int .i64 X.length), (13, .int .i64 (i : Int))])
   (fun i w' => i ≤ X.length ∧ (∀ j, j < i → X.getD j default = Y.getD j default) ∧ Hp w0 w' []) (fun i => X.length - i) 0 rfl ⟨by omega, fun j hj => by omega, hp⟩ ?_
  rintro i w1 ⟨hi, hall, hp⟩ IH C
  refine h_run rfl ?_; skip
  refine h_cond_dec (fun hlt => ?_) (fun hlt => ?_)
  ·have hlt' : i < X.length := by omega
   refine h_cond_t rfl rfl ?_; skip
   refine N_draw hp (by kernel_rfl) (by kernel_rfl) rfl rfl ?_; (repeat (refine N_ldEN rfl (by omega) rfl rfl rfl ?_))
   refine N_end ?_; intro w hp C; refine h_run rfl ?_; skip
   refine h_cond_dec (fun hd => ?_) (fun hd => ?_)
   ·refine h_cond_t rfl rfl ?_; (repeat (refine R_ret ?_))
    have : X ≠ Y := fun e => hd (by rw [e])
    exact ⟨by simp [this], hp.x⟩
   ·refine h_cond_f rfl rfl ?_; skip
    refine IH (i + 1) _ _ _ (by omega) rfl ⟨by omega, fun j hj => ?_, hp⟩
    by_cases hj2 : j < i
    ·exact hall j hj2
    ·obtain rfl : j = i := by omega
     omega
  ·refine h_cond_f rfl rfl ?_; (repeat (refine R_ret ?_))
   have : X = Y := getD_ext hlen fun j hj => hall j (by omega)
   exact ⟨by simp [this], hp.x⟩
end Go.Proofs
end
