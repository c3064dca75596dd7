/- The contracts of the law's helpers for lists of operators; each under its stated conditions. -/
import Derived.Test.YtiepmliokblkjaaNet
import Derived.Test.YtiepmliokblkjaaExprLaw
set_option linter.all false
namespace Go.Xw
def eOp (o : OpL) : List Value := [.int .i64 o.kind, .int .i64 o.a, .int .i64 o.b]
instance eOp_ok : EncOk eOp 3 := ⟨fun _ => rfl, fun x u hu => by simp [eOp] at hu; rcases hu with rfl | rfl | rfl <;> rfl⟩
theorem set_at2 {α : Type} [Inhabited α] {X : List α} {i : Nat} {y : α} (h : i < X.length) : (X.set i y).getD i default = y := by
 rw [List.getD_eq_getElem?_getD, List.getElem?_set_self h]; rfl
theorem OpL.ext_ {p q : OpL} : p = q ↔ p.kind = q.kind ∧ p.a = q.a ∧ p.b = q.b := by
 cases p; cases q; simp
end Go.Xw
namespace Go.Proofs
open Go.Xw
set_option maxRecDepth 100000
set_option maxHeartbeats 1000000
attribute [local irreducible] Holds elemAddr
theorem szOpS_h (a : Option Addr) (c n : Nat) (left : Int) (w0 : World) (h0 : 0 ≤ left) (h1 : left ≤ 1048576) (hn : (n : Int) ≤ 9223372036854775807) :
  Ret Try.prog 6 [.slice a n c, .int .i64 left] w0 (fun v w' => v = .int .i64 (if left < n then -1 else left - n) ∧ Ext w0 w') := by
 refine enter Try.S6ok _ _ rfl rfl (by show _ ≤ _; simp only [List.length]; decide) (fun C => ?_); have hp := Hp.nil w0; refine h_run rfl ?_; skip
 refine h_cond_dec (fun h => ?_) (fun h => ?_)
 ·refine h_cond_t rfl rfl ?_; (repeat (refine R_ret ?_))
  exact ⟨by rw [if_pos (by omega)], hp.x⟩
 ·refine h_cond_f rfl rfl ?_; (repeat (refine R_ret ?_))
  exact ⟨by rw [if_neg (by omega)], hp.x⟩
theorem toOp_h (p : OpL) (w0 : World) : Ret Try.prog 36 [.agg ⟨eOp p⟩] w0 (fun v w' => v = .agg ⟨eOp p⟩ ∧ Ext w0 w') := by
 refine enter Try.S36ok _ _ rfl rfl (by show _ ≤ _; simp only [List.length]; decide) (fun C => ?_); have hp := Hp.nil w0; refine h_run rfl ?_; skip; (first | refine H_box hp ?_ | refine H_alloc hp rfl ?_); intro w b1 hx hp; refine ops_run nopre rfl ?_; skip; (first | refine H_box hp ?_ | refine H_alloc hp rfl ?_); intro w b2 hx hp; refine ops_run nopre rfl ?_; skip; (first | refine H_box hp ?_ | refine H_alloc hp rfl ?_); intro w b3 hx hp; refine ops_run nopre rfl ?_; (repeat (first | (refine gLoad ?_; refine H_ldB hp rfl rfl ?_) | (refine gStore ?_; (first | refine U_stB hp rfl rfl rfl rfl ?_ | refine U_stBN hp rfl rfl rfl rfl ?_); intro w hp; refine ops_run nopre rfl ?_) | (refine gRetc ?_; refine R_ret1 hp rfl ?_)))
 exact ⟨rfl, hp.x⟩
theorem toOpS_h (a : Option Addr) (c : Nat) (xs : List OpL) (w0 : World) (ha : Rd w0 a 3 eOp xs) (hl : xs.length < 1000000000) :
  Ret Try.prog 10 [.slice a xs.length c] w0 (fun v w => ∃ b, v = .slice (some ⟨b, 0, none⟩) xs.length xs.length ∧ Hp w0 w [rO 59 3 eOp (some ⟨b, 0, none⟩) xs.length xs]) := by
 refine enter Try.S10ok _ _ rfl rfl (by show _ ≤ _; simp only [List.length]; decide) (fun C => ?_); have hp := Hp.nil w0; refine h_run rfl ?_; skip
 refine H_make hp eOp ⟨0, 0, 0⟩ rfl rfl rfl rfl (s := 3) rfl (by decide) rfl (by unfold maxLen; omega) (by show 24 * _ ≤ _; omega) ?_; intro w b hx hp; refine ops_run nopre rfl ?_; skip
 refine h_loop [0, 3, 4] (fun i : Nat => [(0, .slice a xs.length c), (3, .slice (some ⟨b, 0, none⟩) xs.length xs.length), (4, .int .i64 (i : Int))])
  (fun i w' => i ≤ xs.length ∧ Hp w0 w' [rO 59 3 eOp (some ⟨b, 0, none⟩) xs.length (fillUp ⟨0, 0, 0⟩ xs i)]) (fun i => xs.length - i) 0 rfl ⟨by omega, by rw [fillUp_zero]; exact hp⟩ ?_
 rintro i w2 ⟨hi, hp⟩ IH C
 refine h_run rfl ?_; skip
 refine h_cond_dec (fun hlt => ?_) (fun hlt => ?_)
 ·have hlt' : i < xs.length := by omega
  refine h_cond_t rfl rfl ?_; (repeat (refine H_ldEN hp rfl (by omega) rfl rfl ?_))
  have hfl := fillUp_len ⟨0, 0, 0⟩ xs hi
  refine h_call rfl Try.func36 (by kernel_rfl) rfl (toOp_h (xs.getD i default) _) ?_; rintro _ w ⟨rfl, hx⟩; have hp := hp.ext hx; refine ops_run nopre rfl ?_; skip
  first | refine U_stNN hp (xs.getD i default) rfl rfl rfl (by omega) rfl ?_ | refine U_stN hp (xs.getD i default) rfl rfl rfl (by omega) (by omega) rfl ?_
  intro w hp; refine ops_run nopre rfl ?_; skip
  refine IH (i + 1) _ _ _ (by omega) rfl ⟨by omega, ?_⟩
  rw [fillUp_set ⟨0, 0, 0⟩ xs hlt' (getD_some hlt')] at hp
  exact hp
 ·refine h_cond_f rfl rfl ?_; (repeat (refine R_ret ?_))
  obtain rfl : i = xs.length := by omega
  rw [fillUp_all] at hp
  exact ⟨b, rfl, hp⟩
theorem eqOp_h (p q : OpL) (w0 : World) :
  Ret Try.prog 46 [.agg ⟨eOp p⟩, .agg ⟨eOp q⟩] w0 (fun v w' => v = .bool (decide (p = q)) ∧ Ext w0 w') := by
 have key : p = q ↔ p.kind = q.kind ∧ p.a = q.a ∧ p.b = q.b := OpL.ext_
 refine enter Try.S46ok _ _ rfl rfl (by show _ ≤ _; simp only [List.length]; decide) (fun C => ?_); have hp := Hp.nil w0; refine h_run rfl ?_; skip; (first | refine H_box hp ?_ | refine H_alloc hp rfl ?_); intro w b1 hx hp; refine ops_run nopre rfl ?_; skip; (first | refine H_box hp ?_ | refine H_alloc hp rfl ?_); intro w b2 hx hp; refine ops_run nopre rfl ?_; (repeat (refine H_ldB hp rfl rfl ?_))
 refine h_cond_dec (fun h => ?_) (fun h => ?_)
 ·refine h_cond_t rfl rfl ?_; (repeat (refine R_ret ?_))
  exact ⟨by simp [key, h], hp.x⟩
 ·refine h_cond_f rfl rfl ?_; (repeat (refine H_ldB hp rfl rfl ?_))
  refine h_cond_dec (fun h2 => ?_) (fun h2 => ?_)
  ·refine h_cond_t rfl rfl ?_; (repeat (refine R_ret ?_))
   exact ⟨by simp [key, h2], hp.x⟩
  ·refine h_cond_f rfl rfl ?_; (repeat (refine H_ldB hp rfl rfl ?_))
   refine h_cond_dec (fun h3 => ?_) (fun h3 => ?_)
   ·refine h_cond_t rfl rfl ?_; (repeat (refine R_ret ?_))
    exact ⟨by simp [key, h3], hp.x⟩
   ·refine h_cond_f rfl rfl ?_; (repeat (refine R_ret ?_))
    exact ⟨by simp [key, Decidable.not_not.1 h, Decidable.not_not.1 h2, Decidable.not_not.1 h3], hp.x⟩
theorem eqOpS_h (a b : Option Addr) (ca cb : Nat) (xs ys : List OpL) (w0 : World) (ha : Rd w0 a 3 eOp xs) (hb : Rd w0 b 3 eOp ys) (hl : xs.length < 1000000000) (hl2 : ys.length < 1000000000) :
  Ret Try.prog 15 [.slice a xs.length ca, .slice b ys.length cb] w0 (fun v w' => v = .bool (decide (xs = ys)) ∧ Ext w0 w') := by
 refine enter Try.S15ok _ _ rfl rfl (by show _ ≤ _; simp only [List.length]; decide) (fun C => ?_); have hp := Hp.nil w0; refine h_run rfl ?_; skip
 refine h_cond_dec (fun h => ?_) (fun h => ?_)
 ·refine h_cond_t rfl rfl ?_; (repeat (refine R_ret ?_))
  have hne : xs ≠ ys := fun e => h (by rw [e])
  exact ⟨by simp [hne], hp.x⟩
 ·refine h_cond_f rfl rfl ?_; skip
  have hlen : xs.length = ys.length := by omega
  refine h_loop [0, 1, 5] (fun i : Nat => [(0, .slice a xs.length ca), (1, .slice b ys.length cb), (5, .int .i64 (i : Int))])
   (fun i w' => i ≤ xs.length ∧ (∀ j, j < i → xs.getD j default = ys.getD j default) ∧ Hp w0 w' []) (fun i => xs.length - i) 0 rfl ⟨by omega, fun j hj => by omega, hp⟩ ?_
  rintro i w1 ⟨hi, hall, hp⟩ IH C
  refine h_run rfl ?_; skip
  refine h_cond_dec (fun hlt => ?_) (fun hlt => ?_)
  ·refine h_cond_t rfl rfl ?_; skip
   refine D_draw hp (by kernel_rfl) (by kernel_rfl) rfl rfl ?_; intro w hx hp; have hs := hp; (repeat (refine D_ldEN rfl (by omega) rfl rfl rfl ?_))
   refine h_callq rfl Try.func46 (by kernel_rfl) rfl (eqOp_h (xs.getD i default) (ys.getD i default) _) ?_; rintro _ w ⟨rfl, hx⟩; have hp := hp.ext hx; have hs := hs.ext hx; refine ⟨fun _ => hs, ?_⟩; refine D_ops rfl rfl ?_; skip
   refine h_cond_ndec (fun hne => ?_) (fun hne => ?_)
   ·refine h_cond_t rfl rfl ?_; (repeat (refine R_ret ?_))
    have : xs ≠ ys := fun e => hne (by subst e; rfl)
    exact ⟨by simp [this], hp.x⟩
   ·refine h_cond_f rfl rfl ?_; skip
    refine IH (i + 1) _ _ _ (by omega) rfl ⟨by omega, fun j hj => ?_, hp⟩
    by_cases hj2 : j < i
    ·exact hall j hj2
    ·obtain rfl : j = i := by omega
     exact hne
  ·refine h_cond_f rfl rfl ?_; (repeat (refine R_ret ?_))
   have : xs = ys := list_eq hlen fun j h1 => hall j (by omega)
   exact ⟨by simp [this], hp.x⟩
theorem markOpS_h {w0 w : World} {L : List Res} {a : Option Addr} {c : Nat} {X : List OpL} (hp : Hp w0 w (rO 59 3 eOp a c X :: L)) (k : Int) (hl : X.length < 1000000000) (hk : 0 ≤ k) (hk2 : k < 100000000000000) :
  Ret Try.prog 18 [.slice a X.length c, .int .i64 k] w (fun v w' => v = .int .i64 (k + 3 * X.length) ∧ Hp w0 w' (rO 59 3 eOp a c ((List.range X.length).map (fun (i : Nat) => (⟨k + 3 * (i : Int), k + 3 * (i : Int) + 1, k + 3 * (i : Int) + 2⟩ : OpL))) :: L)) := by
 refine enter Try.S18ok _ _ rfl rfl (by show _ ≤ _; simp only [List.length]; decide) (fun C => ?_); refine h_run rfl ?_
 refine h_loop [0, 1, 5] (fun i : Nat => [(0, .slice a X.length c), (1, .int .i64 (k + 3 * (i : Int))), (5, .int .i64 (i : Int))])
  (fun i w' => i ≤ X.length ∧ Hp w0 w' (rO 59 3 eOp a c (upTo (fun (i : Nat) => (⟨k + 3 * (i : Int), k + 3 * (i : Int) + 1, k + 3 * (i : Int) + 2⟩ : OpL)) i X) :: L)) (fun i => X.length - i) 0 (by rw [show k + 3 * ((0 : Nat) : Int) = k by omega]; rfl) ⟨by omega, by rw [upTo_zero]; exact hp⟩ ?_
 rintro i w1 ⟨hi, hp⟩ IH C
 have hlen := upTo_len (f := (fun (i : Nat) => (⟨k + 3 * (i : Int), k + 3 * (i : Int) + 1, k + 3 * (i : Int) + 2⟩ : OpL))) hi
 refine h_run rfl ?_; skip
 refine h_cond_dec (fun hlt => ?_) (fun hlt => ?_)
 ·have hlt' : i < X.length := by omega
  have hne : a ≠ none := nn_of hp (by omega)
  refine h_cond_t rfl rfl ?_; skip
  refine U_st1N hp (⟨k + 3 * (i : Int), (X.getD i default).a, (X.getD i default).b⟩ : OpL) rfl rfl rfl (by omega) (by decide) (by rw [upTo_at (Nat.le_refl _) hi]; rfl) rfl ?_; intro w hp; refine ops_run nopre rfl ?_; skip
  have hlen2 : ((upTo (fun (i : Nat) => (⟨k + 3 * (i : Int), k + 3 * (i : Int) + 1, k + 3 * (i : Int) + 2⟩ : OpL)) i X).set i (⟨k + 3 * (i : Int), (X.getD i default).a, (X.getD i default).b⟩ : OpL)).length = X.length := by rw [List.length_set, hlen]
  have hs1 : ((upTo (fun (i : Nat) => (⟨k + 3 * (i : Int), k + 3 * (i : Int) + 1, k + 3 * (i : Int) + 2⟩ : OpL)) i X).set i (⟨k + 3 * (i : Int), (X.getD i default).a, (X.getD i default).b⟩ : OpL)).getD i default = (⟨k + 3 * (i : Int), (X.getD i default).a, (X.getD i default).b⟩ : OpL) := set_at2 (by omega)
  refine U_st1N hp (⟨k + 3 * (i : Int), k + 3 * (i : Int) + 1, (X.getD i default).b⟩ : OpL) rfl rfl rfl (by rw [hlen2]; omega) (by decide) (by rw [hs1]; rfl) rfl ?_; intro w hp; refine ops_run nopre rfl ?_; skip
  have hlen3 : (((upTo (fun (i : Nat) => (⟨k + 3 * (i : Int), k + 3 * (i : Int) + 1, k + 3 * (i : Int) + 2⟩ : OpL)) i X).set i (⟨k + 3 * (i : Int), (X.getD i default).a, (X.getD i default).b⟩ : OpL)).set i (⟨k + 3 * (i : Int), k + 3 * (i : Int) + 1, (X.getD i default).b⟩ : OpL)).length = X.length := by rw [List.length_set, hlen2]
  have hs2 : (((upTo (fun (i : Nat) => (⟨k + 3 * (i : Int), k + 3 * (i : Int) + 1, k + 3 * (i : Int) + 2⟩ : OpL)) i X).set i (⟨k + 3 * (i : Int), (X.getD i default).a, (X.getD i default).b⟩ : OpL)).set i (⟨k + 3 * (i : Int), k + 3 * (i : Int) + 1, (X.getD i default).b⟩ : OpL)).getD i default = (⟨k + 3 * (i : Int), k + 3 * (i : Int) + 1, (X.getD i default).b⟩ : OpL) := set_at2 (by omega)
  refine U_st1N hp (⟨k + 3 * (i : Int), k + 3 * (i : Int) + 1, k + 3 * (i : Int) + 2⟩ : OpL) rfl rfl rfl (by rw [hlen3]; omega) (by decide) (by rw [hs2, show k + 3 * (i : Int) + 2 = k + 3 * (i : Int) + 1 + 1 by omega]; rfl) rfl ?_; intro w hp; refine ops_run nopre rfl ?_; skip
  refine IH (i + 1) _ _ _ (by omega) (by rw [show k + 3 * ((i + 1 : Nat) : Int) = k + 3 * (i : Int) + 1 + 1 + 1 by omega]; rfl) ⟨by omega, ?_⟩
  rw [List.set_set, List.set_set] at hp
  rw [← upTo_set (f := (fun (i : Nat) => (⟨k + 3 * (i : Int), k + 3 * (i : Int) + 1, k + 3 * (i : Int) + 2⟩ : OpL))) hlt']
  exact hp
 ·refine h_cond_f rfl rfl ?_; (repeat (refine R_ret ?_))
  obtain rfl : i = X.length := by omega
  rw [upTo_all] at hp
  exact ⟨rfl, hp⟩
theorem markOpS_u {w0 w : World} {L : List Res} {a : Option Addr} {c : Nat} {X : List OpL} {f : Option Addr → Nat → List OpL → List Res} (hp : Hp w0 w L) [hu : UpdO L a 59 3 eOp c X f] (k : Int) (hl : X.length < 1000000000) (hk : 0 ≤ k) (hk2 : k < 100000000000000) :
  Ret Try.prog 18 [.slice a X.length c, .int .i64 k] w (fun v w' => v = .int .i64 (k + 3 * X.length) ∧ Hp w0 w' (f a c ((List.range X.length).map (fun (i : Nat) => (⟨k + 3 * (i : Int), k + 3 * (i : Int) + 1, k + 3 * (i : Int) + 2⟩ : OpL))))) := by
 obtain ⟨M, h1, h2⟩ := hu.h
 exact (markOpS_h (hp.perm h1) k hl hk hk2).mono fun _ _ ⟨q1, q2⟩ => ⟨q1, q2.perm (h2 _ _ _).symm⟩
end Go.Proofs
