/- The contracts of the law's helpers for modules; each under its stated conditions. Printed by wip/gen_mod.py. -/
import Derived.Test.YtiepmliokblkjaaGreatModR
set_option linter.all false
namespace Go.Proofs
open Go.Xw
set_option maxRecDepth 100000
set_option maxHeartbeats 1000000
attribute [local irreducible] Holds elemAddr
theorem szSignalS_h (a : Option Addr) (c n : Nat) (left : Int) (w0 : World) (h0 : 0 ≤ left) (h1 : left ≤ 1048576) (hn : (n : Int) ≤ 9223372036854775807) :
  Ret Tryz.prog 22 [.slice a n c, .int .i64 left] w0 (fun v w' => v = .int .i64 (if left < n then -1 else left - n) ∧ Ext w0 w') := by
 refine enter Tryz.S22ok _ _ rfl rfl (by show _ ≤ _; simp only [List.length]; decide) (fun C => ?_); have hp := Hp.nil w0; refine h_run rfl ?_; skip
 refine h_cond_dec (fun h => ?_) (fun h => ?_)
 ·refine h_cond_t rfl rfl ?_; (repeat (refine R_ret ?_))
  exact ⟨by rw [if_pos (by omega)], hp.x⟩
 ·refine h_cond_f rfl rfl ?_; (repeat (refine R_ret ?_))
  exact ⟨by rw [if_neg (by omega)], hp.x⟩
theorem toSignal_h (p : SgL) (w0 : World) : Ret Tryz.prog 88 [.agg ⟨eSg p⟩] w0 (fun v w' => v = .agg ⟨eSg p⟩ ∧ Ext w0 w') := by
 refine enter Tryz.S88ok _ _ rfl rfl (by show _ ≤ _; simp only [List.length]; decide) (fun C => ?_); have hp := Hp.nil w0; refine h_run rfl ?_; skip; (first | refine H_box hp ?_ | refine H_alloc hp rfl ?_); intro w b1 hx hp; refine ops_run nopre rfl ?_; skip; (first | refine H_box hp ?_ | refine H_alloc hp rfl ?_); intro w b2 hx hp; refine ops_run nopre rfl ?_; skip; (first | refine H_box hp ?_ | refine H_alloc hp rfl ?_); intro w b3 hx hp; refine ops_run nopre rfl ?_; (repeat (first | (refine gLoad ?_; refine H_ldB hp rfl rfl ?_) | (refine gStore ?_; (first | refine U_stB hp rfl rfl rfl rfl ?_ | refine U_stBN hp rfl rfl rfl rfl ?_); intro w hp; refine ops_run nopre rfl ?_) | (refine gRetc ?_; refine R_ret1 hp rfl ?_)))
 exact ⟨rfl, hp.x⟩
theorem toSignalS_h (a : Option Addr) (c : Nat) (xs : List SgL) (w0 : World) (ha : Rd w0 a 3 eSg xs) (hl : xs.length < 1000000000) :
  Ret Tryz.prog 32 [.slice a xs.length c] w0 (fun v w => ∃ b, v = .slice (some ⟨b, 0, none⟩) xs.length xs.length ∧ Hp w0 w [rO 66 3 eSg (some ⟨b, 0, none⟩) xs.length xs]) := by
 refine enter Tryz.S32ok _ _ rfl rfl (by show _ ≤ _; simp only [List.length]; decide) (fun C => ?_); have hp := Hp.nil w0; refine h_run rfl ?_; skip
 refine H_make hp eSg ⟨0, 0, 0⟩ rfl rfl rfl rfl (s := 3) rfl (by decide) rfl (by unfold maxLen; omega) (by show 24 * _ ≤ _; omega) ?_; intro w b hx hp; refine ops_run nopre rfl ?_; skip
 refine h_loop [0, 3, 4] (fun i : Nat => [(0, .slice a xs.length c), (3, .slice (some ⟨b, 0, none⟩) xs.length xs.length), (4, .int .i64 (i : Int))])
  (fun i w' => i ≤ xs.length ∧ Hp w0 w' [rO 66 3 eSg (some ⟨b, 0, none⟩) xs.length (fillUp ⟨0, 0, 0⟩ xs i)]) (fun i => xs.length - i) 0 rfl ⟨by omega, by rw [fillUp_zero]; exact hp⟩ ?_
 rintro i w2 ⟨hi, hp⟩ IH C
 refine h_run rfl ?_; skip
 refine h_cond_dec (fun hlt => ?_) (fun hlt => ?_)
 ·have hlt' : i < xs.length := by omega
  refine h_cond_t rfl rfl ?_; (repeat (refine H_ldEN hp rfl (by omega) rfl rfl ?_))
  have hfl := fillUp_len ⟨0, 0, 0⟩ xs hi
  refine h_call rfl Tryz.func88 (by kernel_rfl) rfl (toSignal_h (xs.getD i default) _) ?_; rintro _ w ⟨rfl, hx⟩; have hp := hp.ext hx; refine ops_run nopre rfl ?_; skip
  first | refine U_stNN hp (xs.getD i default) rfl rfl rfl (by omega) rfl ?_ | refine U_stN hp (xs.getD i default) rfl rfl rfl (by omega) (by omega) rfl ?_
  intro w hp; refine ops_run nopre rfl ?_; skip
  refine IH (i + 1) _ _ _ (by omega) rfl ⟨by omega, ?_⟩
  rw [fillUp_set ⟨0, 0, 0⟩ xs hlt' (getD_some hlt')] at hp
  exact hp
 ·refine h_cond_f rfl rfl ?_; (repeat (refine R_ret ?_))
  obtain rfl : i = xs.length := by omega
  rw [fillUp_all] at hp
  exact ⟨b, rfl, hp⟩
theorem eqSignal_h (p q : SgL) (w0 : World) :
  Ret Tryz.prog 112 [.agg ⟨eSg p⟩, .agg ⟨eSg q⟩] w0 (fun v w' => v = .bool (decide (p = q)) ∧ Ext w0 w') := by
 have key : p = q ↔ p.kind = q.kind ∧ p.width = q.width ∧ p.init = q.init := SgL.ext_
 refine enter Tryz.S112ok _ _ rfl rfl (by show _ ≤ _; simp only [List.length]; decide) (fun C => ?_); have hp := Hp.nil w0; refine h_run rfl ?_; skip; (first | refine H_box hp ?_ | refine H_alloc hp rfl ?_); intro w b1 hx hp; refine ops_run nopre rfl ?_; skip; (first | refine H_box hp ?_ | refine H_alloc hp rfl ?_); intro w b2 hx hp; refine ops_run nopre rfl ?_; (repeat (refine H_ldB hp rfl rfl ?_))
 refine h_cond_dec (fun h => ?_) (fun h => ?_)
 ·refine h_cond_t rfl rfl ?_; (repeat (refine R_ret ?_))
  exact ⟨by simp [key, h], hp.x⟩
 ·refine h_cond_f rfl rfl ?_; (repeat (refine H_ldB hp rfl rfl ?_))
  refine h_cond_dec (fun h2 => ?_) (fun h2 => ?_)
  ·refine h_cond_t rfl rfl ?_; (repeat (refine R_ret ?_))
   exact ⟨by simp [key, h2], hp.x⟩
  ·refine h_cond_f rfl rfl ?_; (repeat (refine H_ldB hp rfl rfl ?_))
   refine h_cond_dec (fun h3 => ?_) (fun h3 => ?_)
   ·refine h_cond_t rfl rfl ?_; (repeat (refine R_ret ?_))
    exact ⟨by simp [key, h3], hp.x⟩
   ·refine h_cond_f rfl rfl ?_; (repeat (refine R_ret ?_))
    exact ⟨by simp [key, Decidable.not_not.1 h, Decidable.not_not.1 h2, Decidable.not_not.1 h3], hp.x⟩
theorem eqSignalS_h (a b : Option Addr) (ca cb : Nat) (xs ys : List SgL) (w0 : World) (ha : Rd w0 a 3 eSg xs) (hb : Rd w0 b 3 eSg ys) (hl : xs.length < 1000000000) (hl2 : ys.length < 1000000000) :
  Ret Tryz.prog 45 [.slice a xs.length ca, .slice b ys.length cb] w0 (fun v w' => v = .bool (decide (xs = ys)) ∧ Ext w0 w') := by
 refine enter Tryz.S45ok _ _ rfl rfl (by show _ ≤ _; simp only [List.length]; decide) (fun C => ?_); have hp := Hp.nil w0; refine h_run rfl ?_; skip
 refine h_cond_dec (fun h => ?_) (fun h => ?_)
 ·refine h_cond_t rfl rfl ?_; (repeat (refine R_ret ?_))
  have hne : xs ≠ ys := fun e => h (by rw [e])
  exact ⟨by simp [hne], hp.x⟩
 ·refine h_cond_f rfl rfl ?_; skip
  have hlen : xs.length = ys.length := by omega
  refine h_loop [0, 1, 5] (fun i : Nat => [(0, .slice a xs.length ca), (1, .slice b ys.length cb), (5, .int .i64 (i : Int))])
   (fun i w' => i ≤ xs.length ∧ (∀ j, j < i → xs.getD j default = ys.getD j default) ∧ Hp w0 w' []) (fun i => xs.length - i) 0 rfl ⟨by omega, fun j hj => by omega, hp⟩ ?_
  rintro i w1 ⟨hi, hall, hp⟩ IH C
  refine h_run rfl ?_; skip
  refine h_cond_dec (fun hlt => ?_) (fun hlt => ?_)
  ·refine h_cond_t rfl rfl ?_; skip
   refine D_draw hp (by kernel_rfl) (by kernel_rfl) rfl rfl ?_; intro w hx hp; have hs := hp; (repeat (refine D_ldEN rfl (by omega) rfl rfl rfl ?_))
   refine h_callq rfl Tryz.func112 (by kernel_rfl) rfl (eqSignal_h (xs.getD i default) (ys.getD i default) _) ?_; rintro _ w ⟨rfl, hx⟩; have hp := hp.ext hx; have hs := hs.ext hx; refine ⟨fun _ => hs, ?_⟩; refine D_ops rfl rfl ?_; skip
   refine h_cond_ndec (fun hne => ?_) (fun hne => ?_)
   ·refine h_cond_t rfl rfl ?_; (repeat (refine R_ret ?_))
    have : xs ≠ ys := fun e => hne (by subst e; rfl)
    exact ⟨by simp [this], hp.x⟩
   ·refine h_cond_f rfl rfl ?_; skip
    refine IH (i + 1) _ _ _ (by omega) rfl ⟨by omega, fun j hj => ?_, hp⟩
    by_cases hj2 : j < i
    ·exact hall j hj2
    ·obtain rfl : j = i := by omega
     exact hne
  ·refine h_cond_f rfl rfl ?_; (repeat (refine R_ret ?_))
   have : xs = ys := list_eq hlen fun j h1 => hall j (by omega)
   exact ⟨by simp [this], hp.x⟩
theorem markSignalS_h {w0 w : World} {L : List Res} {a : Option Addr} {c : Nat} {X : List SgL} (hp : Hp w0 w (rO 66 3 eSg a c X :: L)) (k : Int) (hl : X.length < 1000000000) (hk : 0 ≤ k) (hk2 : k < 100000000000000) :
  Ret Tryz.prog 49 [.slice a X.length c, .int .i64 k] w (fun v w' => v = .int .i64 (k + 3 * X.length) ∧ Hp w0 w' (rO 66 3 eSg a c ((List.range X.length).map (fun (i : Nat) => (⟨k + 3 * (i : Int), k + 3 * (i : Int) + 1, k + 3 * (i : Int) + 2⟩ : SgL))) :: L)) := by
 refine enter Tryz.S49ok _ _ rfl rfl (by show _ ≤ _; simp only [List.length]; decide) (fun C => ?_); refine h_run rfl ?_
 refine h_loop [0, 1, 5] (fun i : Nat => [(0, .slice a X.length c), (1, .int .i64 (k + 3 * (i : Int))), (5, .int .i64 (i : Int))])
  (fun i w' => i ≤ X.length ∧ Hp w0 w' (rO 66 3 eSg a c (upTo (fun (i : Nat) => (⟨k + 3 * (i : Int), k + 3 * (i : Int) + 1, k + 3 * (i : Int) + 2⟩ : SgL)) i X) :: L)) (fun i => X.length - i) 0 (by rw [show k + 3 * ((0 : Nat) : Int) = k by omega]; rfl) ⟨by omega, by rw [upTo_zero]; exact hp⟩ ?_
 rintro i w1 ⟨hi, hp⟩ IH C
 have hlen := upTo_len (f := (fun (i : Nat) => (⟨k + 3 * (i : Int), k + 3 * (i : Int) + 1, k + 3 * (i : Int) + 2⟩ : SgL))) hi
 refine h_run rfl ?_; skip
 refine h_cond_dec (fun hlt => ?_) (fun hlt => ?_)
 ·have hlt' : i < X.length := by omega
  have hne : a ≠ none := nn_of hp (by omega)
  refine h_cond_t rfl rfl ?_; skip
  refine U_st1N hp (⟨k + 3 * (i : Int), (X.getD i default).width, (X.getD i default).init⟩ : SgL) rfl rfl rfl (by omega) (by decide) (by rw [upTo_at (Nat.le_refl _) hi]; rfl) rfl ?_; intro w hp; refine ops_run nopre rfl ?_; skip
  have hlen2 : ((upTo (fun (i : Nat) => (⟨k + 3 * (i : Int), k + 3 * (i : Int) + 1, k + 3 * (i : Int) + 2⟩ : SgL)) i X).set i (⟨k + 3 * (i : Int), (X.getD i default).width, (X.getD i default).init⟩ : SgL)).length = X.length := by rw [List.length_set, hlen]
  have hs1 : ((upTo (fun (i : Nat) => (⟨k + 3 * (i : Int), k + 3 * (i : Int) + 1, k + 3 * (i : Int) + 2⟩ : SgL)) i X).set i (⟨k + 3 * (i : Int), (X.getD i default).width, (X.getD i default).init⟩ : SgL)).getD i default = (⟨k + 3 * (i : Int), (X.getD i default).width, (X.getD i default).init⟩ : SgL) := set_at2 (by omega)
  refine U_st1N hp (⟨k + 3 * (i : Int), k + 3 * (i : Int) + 1, (X.getD i default).init⟩ : SgL) rfl rfl rfl (by rw [hlen2]; omega) (by decide) (by rw [hs1]; rfl) rfl ?_; intro w hp; refine ops_run nopre rfl ?_; skip
  have hlen3 : (((upTo (fun (i : Nat) => (⟨k + 3 * (i : Int), k + 3 * (i : Int) + 1, k + 3 * (i : Int) + 2⟩ : SgL)) i X).set i (⟨k + 3 * (i : Int), (X.getD i default).width, (X.getD i default).init⟩ : SgL)).set i (⟨k + 3 * (i : Int), k + 3 * (i : Int) + 1, (X.getD i default).init⟩ : SgL)).length = X.length := by rw [List.length_set, hlen2]
  have hs2 : (((upTo (fun (i : Nat) => (⟨k + 3 * (i : Int), k + 3 * (i : Int) + 1, k + 3 * (i : Int) + 2⟩ : SgL)) i X).set i (⟨k + 3 * (i : Int), (X.getD i default).width, (X.getD i default).init⟩ : SgL)).set i (⟨k + 3 * (i : Int), k + 3 * (i : Int) + 1, (X.getD i default).init⟩ : SgL)).getD i default = (⟨k + 3 * (i : Int), k + 3 * (i : Int) + 1, (X.getD i default).init⟩ : SgL) := set_at2 (by omega)
  refine U_st1N hp (⟨k + 3 * (i : Int), k + 3 * (i : Int) + 1, k + 3 * (i : Int) + 2⟩ : SgL) rfl rfl rfl (by rw [hlen3]; omega) (by decide) (by rw [hs2, show k + 3 * (i : Int) + 2 = k + 3 * (i : Int) + 1 + 1 by omega]; rfl) rfl ?_; intro w hp; refine ops_run nopre rfl ?_; skip
  refine IH (i + 1) _ _ _ (by omega) (by rw [show k + 3 * ((i + 1 : Nat) : Int) = k + 3 * (i : Int) + 1 + 1 + 1 by omega]; rfl) ⟨by omega, ?_⟩
  rw [List.set_set, List.set_set] at hp
  rw [← upTo_set (f := (fun (i : Nat) => (⟨k + 3 * (i : Int), k + 3 * (i : Int) + 1, k + 3 * (i : Int) + 2⟩ : SgL))) hlt']
  exact hp
 ·refine h_cond_f rfl rfl ?_; (repeat (refine R_ret ?_))
  obtain rfl : i = X.length := by omega
  rw [upTo_all] at hp
  exact ⟨rfl, hp⟩
theorem szMemS_h (a : Option Addr) (c n : Nat) (left : Int) (w0 : World) (h0 : 0 ≤ left) (h1 : left ≤ 1048576) (hn : (n : Int) ≤ 9223372036854775807) :
  Ret Tryz.prog 25 [.slice a n c, .int .i64 left] w0 (fun v w' => v = .int .i64 (if left < n then -1 else left - n) ∧ Ext w0 w') := by
 refine enter Tryz.S25ok _ _ rfl rfl (by show _ ≤ _; simp only [List.length]; decide) (fun C => ?_); have hp := Hp.nil w0; refine h_run rfl ?_; skip
 refine h_cond_dec (fun h => ?_) (fun h => ?_)
 ·refine h_cond_t rfl rfl ?_; (repeat (refine R_ret ?_))
  exact ⟨by rw [if_pos (by omega)], hp.x⟩
 ·refine h_cond_f rfl rfl ?_; (repeat (refine R_ret ?_))
  exact ⟨by rw [if_neg (by omega)], hp.x⟩
theorem toMem_h (p : MmL) (w0 : World) : Ret Tryz.prog 91 [.agg ⟨eMm p⟩] w0 (fun v w' => v = .agg ⟨eMm p⟩ ∧ Ext w0 w') := by
 refine enter Tryz.S91ok _ _ rfl rfl (by show _ ≤ _; simp only [List.length]; decide) (fun C => ?_); have hp := Hp.nil w0; refine h_run rfl ?_; skip; (first | refine H_box hp ?_ | refine H_alloc hp rfl ?_); intro w b1 hx hp; refine ops_run nopre rfl ?_; skip; (first | refine H_box hp ?_ | refine H_alloc hp rfl ?_); intro w b2 hx hp; refine ops_run nopre rfl ?_; skip; (first | refine H_box hp ?_ | refine H_alloc hp rfl ?_); intro w b3 hx hp; refine ops_run nopre rfl ?_; (repeat (first | (refine gLoad ?_; refine H_ldB hp rfl rfl ?_) | (refine gStore ?_; (first | refine U_stB hp rfl rfl rfl rfl ?_ | refine U_stBN hp rfl rfl rfl rfl ?_); intro w hp; refine ops_run nopre rfl ?_) | (refine gRetc ?_; refine R_ret1 hp rfl ?_)))
 exact ⟨rfl, hp.x⟩
theorem toMemS_h (a : Option Addr) (c : Nat) (xs : List MmL) (w0 : World) (ha : Rd w0 a 4 eMm xs) (hl : xs.length < 1000000000) :
  Ret Tryz.prog 35 [.slice a xs.length c] w0 (fun v w => ∃ b, v = .slice (some ⟨b, 0, none⟩) xs.length xs.length ∧ Hp w0 w [rO 70 4 eMm (some ⟨b, 0, none⟩) xs.length xs]) := by
 refine enter Tryz.S35ok _ _ rfl rfl (by show _ ≤ _; simp only [List.length]; decide) (fun C => ?_); have hp := Hp.nil w0; refine h_run rfl ?_; skip
 refine H_make hp eMm ⟨0, 0, 0, 0⟩ rfl rfl rfl rfl (s := 4) rfl (by decide) rfl (by unfold maxLen; omega) (by show 32 * _ ≤ _; omega) ?_; intro w b hx hp; refine ops_run nopre rfl ?_; skip
 refine h_loop [0, 3, 4] (fun i : Nat => [(0, .slice a xs.length c), (3, .slice (some ⟨b, 0, none⟩) xs.length xs.length), (4, .int .i64 (i : Int))])
  (fun i w' => i ≤ xs.length ∧ Hp w0 w' [rO 70 4 eMm (some ⟨b, 0, none⟩) xs.length (fillUp ⟨0, 0, 0, 0⟩ xs i)]) (fun i => xs.length - i) 0 rfl ⟨by omega, by rw [fillUp_zero]; exact hp⟩ ?_
 rintro i w2 ⟨hi, hp⟩ IH C
 refine h_run rfl ?_; skip
 refine h_cond_dec (fun hlt => ?_) (fun hlt => ?_)
 ·have hlt' : i < xs.length := by omega
  refine h_cond_t rfl rfl ?_; (repeat (refine H_ldEN hp rfl (by omega) rfl rfl ?_))
  have hfl := fillUp_len ⟨0, 0, 0, 0⟩ xs hi
  refine h_call rfl Tryz.func91 (by kernel_rfl) rfl (toMem_h (xs.getD i default) _) ?_; rintro _ w ⟨rfl, hx⟩; have hp := hp.ext hx; refine ops_run nopre rfl ?_; skip
  first | refine U_stNN hp (xs.getD i default) rfl rfl rfl (by omega) rfl ?_ | refine U_stN hp (xs.getD i default) rfl rfl rfl (by omega) (by omega) rfl ?_
  intro w hp; refine ops_run nopre rfl ?_; skip
  refine IH (i + 1) _ _ _ (by omega) rfl ⟨by omega, ?_⟩
  rw [fillUp_set ⟨0, 0, 0, 0⟩ xs hlt' (getD_some hlt')] at hp
  exact hp
 ·refine h_cond_f rfl rfl ?_; (repeat (refine R_ret ?_))
  obtain rfl : i = xs.length := by omega
  rw [fillUp_all] at hp
  exact ⟨b, rfl, hp⟩
theorem eqMem_h (p q : MmL) (w0 : World) :
  Ret Tryz.prog 115 [.agg ⟨eMm p⟩, .agg ⟨eMm q⟩] w0 (fun v w' => v = .bool (decide (p = q)) ∧ Ext w0 w') := by
 have key : p = q ↔ p.addr = q.addr ∧ p.data = q.data ∧ p.write = q.write ∧ p.out = q.out := MmL.ext_
 refine enter Tryz.S115ok _ _ rfl rfl (by show _ ≤ _; simp only [List.length]; decide) (fun C => ?_); have hp := Hp.nil w0; refine h_run rfl ?_; skip; (first | refine H_box hp ?_ | refine H_alloc hp rfl ?_); intro w b1 hx hp; refine ops_run nopre rfl ?_; skip; (first | refine H_box hp ?_ | refine H_alloc hp rfl ?_); intro w b2 hx hp; refine ops_run nopre rfl ?_; (repeat (refine H_ldB hp rfl rfl ?_))
 refine h_cond_dec (fun h => ?_) (fun h => ?_)
 ·refine h_cond_t rfl rfl ?_; (repeat (refine R_ret ?_))
  exact ⟨by simp [key, h], hp.x⟩
 ·refine h_cond_f rfl rfl ?_; (repeat (refine H_ldB hp rfl rfl ?_))
  refine h_cond_dec (fun h2 => ?_) (fun h2 => ?_)
  ·refine h_cond_t rfl rfl ?_; (repeat (refine R_ret ?_))
   exact ⟨by simp [key, h2], hp.x⟩
  ·refine h_cond_f rfl rfl ?_; (repeat (refine H_ldB hp rfl rfl ?_))
   refine h_cond_dec (fun h3 => ?_) (fun h3 => ?_)
   ·refine h_cond_t rfl rfl ?_; (repeat (refine R_ret ?_))
    exact ⟨by simp [key, h3], hp.x⟩
   ·refine h_cond_f rfl rfl ?_; (repeat (refine H_ldB hp rfl rfl ?_))
    refine h_cond_dec (fun h4 => ?_) (fun h4 => ?_)
    ·refine h_cond_t rfl rfl ?_; (repeat (refine R_ret ?_))
     exact ⟨by simp [key, h4], hp.x⟩
    ·refine h_cond_f rfl rfl ?_; (repeat (refine R_ret ?_))
     exact ⟨by simp [key, Decidable.not_not.1 h, Decidable.not_not.1 h2, Decidable.not_not.1 h3, Decidable.not_not.1 h4], hp.x⟩
theorem eqMemS_h (a b : Option Addr) (ca cb : Nat) (xs ys : List MmL) (w0 : World) (ha : Rd w0 a 4 eMm xs) (hb : Rd w0 b 4 eMm ys) (hl : xs.length < 1000000000) (hl2 : ys.length < 1000000000) :
  Ret Tryz.prog 48 [.slice a xs.length ca, .slice b ys.length cb] w0 (fun v w' => v = .bool (decide (xs = ys)) ∧ Ext w0 w') := by
 refine enter Tryz.S48ok _ _ rfl rfl (by show _ ≤ _; simp only [List.length]; decide) (fun C => ?_); have hp := Hp.nil w0; refine h_run rfl ?_; skip
 refine h_cond_dec (fun h => ?_) (fun h => ?_)
 ·refine h_cond_t rfl rfl ?_; (repeat (refine R_ret ?_))
  have hne : xs ≠ ys := fun e => h (by rw [e])
  exact ⟨by simp [hne], hp.x⟩
 ·refine h_cond_f rfl rfl ?_; skip
  have hlen : xs.length = ys.length := by omega
  refine h_loop [0, 1, 5] (fun i : Nat => [(0, .slice a xs.length ca), (1, .slice b ys.length cb), (5, .int .i64 (i : Int))])
   (fun i w' => i ≤ xs.length ∧ (∀ j, j < i → xs.getD j default = ys.getD j default) ∧ Hp w0 w' []) (fun i => xs.length - i) 0 rfl ⟨by omega, fun j hj => by omega, hp⟩ ?_
  rintro i w1 ⟨hi, hall, hp⟩ IH C
  refine h_run rfl ?_; skip
  refine h_cond_dec (fun hlt => ?_) (fun hlt => ?_)
  ·refine h_cond_t rfl rfl ?_; skip
   refine D_draw hp (by kernel_rfl) (by kernel_rfl) rfl rfl ?_; intro w hx hp; have hs := hp; (repeat (refine D_ldEN rfl (by omega) rfl rfl rfl ?_))
   refine h_callq rfl Tryz.func115 (by kernel_rfl) rfl (eqMem_h (xs.getD i default) (ys.getD i default) _) ?_; rintro _ w ⟨rfl, hx⟩; have hp := hp.ext hx; have hs := hs.ext hx; refine ⟨fun _ => hs, ?_⟩; refine D_ops rfl rfl ?_; skip
   refine h_cond_ndec (fun hne => ?_) (fun hne => ?_)
   ·refine h_cond_t rfl rfl ?_; (repeat (refine R_ret ?_))
    have : xs ≠ ys := fun e => hne (by subst e; rfl)
    exact ⟨by simp [this], hp.x⟩
   ·refine h_cond_f rfl rfl ?_; skip
    refine IH (i + 1) _ _ _ (by omega) rfl ⟨by omega, fun j hj => ?_, hp⟩
    by_cases hj2 : j < i
    ·exact hall j hj2
    ·obtain rfl : j = i := by omega
     exact hne
  ·refine h_cond_f rfl rfl ?_; (repeat (refine R_ret ?_))
   have : xs = ys := list_eq hlen fun j h1 => hall j (by omega)
   exact ⟨by simp [this], hp.x⟩
theorem markMemS_h {w0 w : World} {L : List Res} {a : Option Addr} {c : Nat} {X : List MmL} (hp : Hp w0 w (rO 70 4 eMm a c X :: L)) (k : Int) (hl : X.length < 1000000000) (hk : 0 ≤ k) (hk2 : k < 100000000000000) :
  Ret Tryz.prog 52 [.slice a X.length c, .int .i64 k] w (fun v w' => v = .int .i64 (k + 4 * X.length) ∧ Hp w0 w' (rO 70 4 eMm a c ((List.range X.length).map (fun (i : Nat) => (⟨k + 4 * (i : Int), k + 4 * (i : Int) + 1, k + 4 * (i : Int) + 2, k + 4 * (i : Int) + 3⟩ : MmL))) :: L)) := by
 refine enter Tryz.S52ok _ _ rfl rfl (by show _ ≤ _; simp only [List.length]; decide) (fun C => ?_); refine h_run rfl ?_
 refine h_loop [0, 1, 5] (fun i : Nat => [(0, .slice a X.length c), (1, .int .i64 (k + 4 * (i : Int))), (5, .int .i64 (i : Int))])
  (fun i w' => i ≤ X.length ∧ Hp w0 w' (rO 70 4 eMm a c (upTo (fun (i : Nat) => (⟨k + 4 * (i : Int), k + 4 * (i : Int) + 1, k + 4 * (i : Int) + 2, k + 4 * (i : Int) + 3⟩ : MmL)) i X) :: L)) (fun i => X.length - i) 0 (by rw [show k + 4 * ((0 : Nat) : Int) = k by omega]; rfl) ⟨by omega, by rw [upTo_zero]; exact hp⟩ ?_
 rintro i w1 ⟨hi, hp⟩ IH C
 have hlen := upTo_len (f := (fun (i : Nat) => (⟨k + 4 * (i : Int), k + 4 * (i : Int) + 1, k + 4 * (i : Int) + 2, k + 4 * (i : Int) + 3⟩ : MmL))) hi
 have hat := upTo_at (f := (fun (i : Nat) => (⟨k + 4 * (i : Int), k + 4 * (i : Int) + 1, k + 4 * (i : Int) + 2, k + 4 * (i : Int) + 3⟩ : MmL))) (Nat.le_refl i) hi
 obtain ⟨Y, hY⟩ : ∃ Y, Y = upTo (fun (i : Nat) => (⟨k + 4 * (i : Int), k + 4 * (i : Int) + 1, k + 4 * (i : Int) + 2, k + 4 * (i : Int) + 3⟩ : MmL)) i X := ⟨_, rfl⟩
 rw [← hY] at hp hlen hat
 refine h_run rfl ?_; skip
 refine h_cond_dec (fun hlt => ?_) (fun hlt => ?_)
 ·have hlt' : i < X.length := by omega
  have hne : a ≠ none := nn_of hp (by omega)
  refine h_cond_t rfl rfl ?_; skip
  refine U_st1N hp (⟨k + 4 * (i : Int), (X.getD i default).data, (X.getD i default).write, (X.getD i default).out⟩ : MmL) rfl rfl rfl (by omega) (by decide) (by rw [hat]; rfl) rfl ?_; intro w hp; refine ops_run nopre rfl ?_; skip
  have hl1 : (Y.set i (⟨k + 4 * (i : Int), (X.getD i default).data, (X.getD i default).write, (X.getD i default).out⟩ : MmL)).length = X.length := by rw [List.length_set, hlen]
  have hs1 : (Y.set i (⟨k + 4 * (i : Int), (X.getD i default).data, (X.getD i default).write, (X.getD i default).out⟩ : MmL)).getD i default = (⟨k + 4 * (i : Int), (X.getD i default).data, (X.getD i default).write, (X.getD i default).out⟩ : MmL) := set_at2 (by omega)
  refine U_st1N hp (⟨k + 4 * (i : Int), k + 4 * (i : Int) + 1, (X.getD i default).write, (X.getD i default).out⟩ : MmL) rfl rfl rfl (by rw [hl1]; omega) (by decide) (by rw [hs1]; rfl) rfl ?_; intro w hp; refine ops_run nopre rfl ?_; skip
  rw [List.set_set] at hp
  have hl2 : (Y.set i (⟨k + 4 * (i : Int), k + 4 * (i : Int) + 1, (X.getD i default).write, (X.getD i default).out⟩ : MmL)).length = X.length := by rw [List.length_set, hlen]
  have hs2 : (Y.set i (⟨k + 4 * (i : Int), k + 4 * (i : Int) + 1, (X.getD i default).write, (X.getD i default).out⟩ : MmL)).getD i default = (⟨k + 4 * (i : Int), k + 4 * (i : Int) + 1, (X.getD i default).write, (X.getD i default).out⟩ : MmL) := set_at2 (by omega)
  refine U_st1N hp (⟨k + 4 * (i : Int), k + 4 * (i : Int) + 1, k + 4 * (i : Int) + 1 + 1, (X.getD i default).out⟩ : MmL) rfl rfl rfl (by rw [hl2]; omega) (by decide) (by rw [hs2]; rfl) rfl ?_; intro w hp; refine ops_run nopre rfl ?_; skip
  rw [List.set_set] at hp
  have hl3 : (Y.set i (⟨k + 4 * (i : Int), k + 4 * (i : Int) + 1, k + 4 * (i : Int) + 1 + 1, (X.getD i default).out⟩ : MmL)).length = X.length := by rw [List.length_set, hlen]
  have hs3 : (Y.set i (⟨k + 4 * (i : Int), k + 4 * (i : Int) + 1, k + 4 * (i : Int) + 1 + 1, (X.getD i default).out⟩ : MmL)).getD i default = (⟨k + 4 * (i : Int), k + 4 * (i : Int) + 1, k + 4 * (i : Int) + 1 + 1, (X.getD i default).out⟩ : MmL) := set_at2 (by omega)
  refine U_st1N hp (⟨k + 4 * (i : Int), k + 4 * (i : Int) + 1, k + 4 * (i : Int) + 1 + 1, k + 4 * (i : Int) + 1 + 1 + 1⟩ : MmL) rfl rfl rfl (by rw [hl3]; omega) (by decide) (by rw [hs3]; rfl) rfl ?_; intro w hp; refine ops_run nopre rfl ?_; skip
  rw [List.set_set] at hp
  refine IH (i + 1) _ _ _ (by omega) (by rw [show k + 4 * ((i + 1 : Nat) : Int) = k + 4 * (i : Int) + 1 + 1 + 1 + 1 by omega]; rfl) ⟨by omega, ?_⟩
  rw [← upTo_set (f := (fun (i : Nat) => (⟨k + 4 * (i : Int), k + 4 * (i : Int) + 1, k + 4 * (i : Int) + 2, k + 4 * (i : Int) + 3⟩ : MmL))) hlt', ← hY]
  rw [show k + 4 * (i : Int) + 2 = k + 4 * (i : Int) + 1 + 1 by omega, show k + 4 * (i : Int) + 3 = k + 4 * (i : Int) + 1 + 1 + 1 by omega]
  exact hp
 ·refine h_cond_f rfl rfl ?_; (repeat (refine R_ret ?_))
  obtain rfl : i = X.length := by omega
  rw [hY, upTo_all] at hp
  exact ⟨rfl, hp⟩
theorem szInst_h (s : SeqA) (left : Int) (w0 : World) (h0 : 0 ≤ left) (h1 : left ≤ 1048576) (hn : (s.ins.length : Int) ≤ 9223372036854775807) :
  Ret Tryz.prog 74 [.agg ⟨eSq s⟩, .int .i64 left] w0 (fun v w' => v = .int .i64 (if left < s.ins.length then -1 else left - s.ins.length) ∧ Ext w0 w') := by
 refine enter Tryz.S74ok _ _ rfl rfl (by show _ ≤ _; simp only [List.length]; decide) (fun C => ?_); have hp := Hp.nil w0; refine h_run rfl ?_; skip; (first | refine H_box hp ?_ | refine H_alloc hp rfl ?_); intro w b1 hx hp; refine ops_run nopre rfl ?_; (repeat (refine H_ldB hp rfl rfl ?_))
 refine h_call rfl Tryz.func134 (by kernel_rfl) rfl (szIntS_h _ _ _ _ _ h0 h1 hn) ?_; rintro _ w ⟨rfl, hx⟩; have hp := hp.ext hx; refine ops_run nopre rfl ?_; skip
 by_cases hlt : left < s.ins.length
 ·rw [if_pos hlt]
  refine h_cond_t rfl rfl ?_; (repeat (refine R_ret ?_))
  exact ⟨rfl, hp.x⟩
 ·rw [if_neg hlt]
  refine h_cond_f (decide_eq_false (by omega)) rfl ?_; (repeat (refine R_ret ?_))
  exact ⟨rfl, hp.x⟩
theorem szInstS_h (a : Option Addr) (c : Nat) (R : List SeqA) (left : Int) (w0 : World) (ha : SeqsR w0 a R) (h0 : 0 ≤ left) (h1 : left ≤ 1048576)
  (hn : (R.length : Int) ≤ 9223372036854775807) (hin : ∀ i, i < R.length → ((R.getD i default).ins.length : Int) ≤ 9223372036854775807) :
  Ret Tryz.prog 24 [.slice a R.length c, .int .i64 left] w0 (fun v w' => (∃ z, v = .int .i64 z ∧ (z = -1 ∨ (0 ≤ z ∧ z ≤ left ∧ R.length ≤ left ∧ ∀ i, i < R.length → (R.getD i default).ins.length ≤ left))) ∧ Ext w0 w') := by
 have hr := ha.row
 refine enter Tryz.S24ok _ _ rfl rfl (by show _ ≤ _; simp only [List.length]; decide) (fun C => ?_); have hp := Hp.nil w0; refine h_run rfl ?_; skip
 refine h_cond_dec (fun h => ?_) (fun h => ?_)
 ·refine h_cond_t rfl rfl ?_; (repeat (refine R_ret ?_))
  exact ⟨⟨-1, rfl, .inl rfl⟩, hp.x⟩
 ·refine h_cond_f rfl rfl ?_; skip
  refine h_loop2 [0, 1, 5] (fun (i : Nat) (l : Int) => [(0, .slice a R.length c), (1, .int .i64 l), (5, .int .i64 (i : Int))])
   (fun i l w' => i ≤ R.length ∧ 0 ≤ l ∧ l ≤ left ∧ (∀ j, j < i → (R.getD j default).ins.length ≤ left) ∧ Hp w0 w' []) (fun i _ => R.length - i) 0 _ rfl ⟨by omega, by omega, by omega, fun j hj => by omega, hp⟩ ?_
  rintro i l w1 ⟨hi, hl0, hl1, hall, hp⟩ IH C
  refine h_run rfl ?_; skip
  refine h_cond_dec (fun hlt => ?_) (fun hlt => ?_)
  ·have hlt' : i < R.length := by omega
   refine h_cond_t rfl rfl ?_; (repeat (refine H_ldEN hp rfl (by omega) rfl rfl ?_))
   refine h_call rfl Tryz.func74 (by kernel_rfl) rfl (szInst_h (R.getD i default) l _ hl0 (by omega) (hin i hlt')) ?_; rintro _ w ⟨rfl, hx⟩; have hp := hp.ext hx; refine ops_run nopre rfl ?_; skip
   by_cases hlt : l < ((R.getD i default).ins.length : Int)
   ·rw [if_pos hlt]
    refine h_cond_t rfl rfl ?_; (repeat (refine R_ret ?_))
    exact ⟨⟨-1, rfl, .inl rfl⟩, hp.x⟩
   ·rw [if_neg hlt]
    refine h_cond_f (decide_eq_false (by omega)) rfl ?_; skip
    refine IH (i + 1) _ _ _ _ (by omega) rfl ⟨by omega, by omega, by omega, fun j hj => ?_, hp⟩
    by_cases hj2 : j < i
    ·exact hall j hj2
    ·obtain rfl : j = i := by omega
     omega
  ·refine h_cond_f rfl rfl ?_; (repeat (refine R_ret ?_))
   exact ⟨⟨_, rfl, .inr ⟨by omega, by omega, by omega, fun j hj => hall j (by omega)⟩⟩, hp.x⟩
theorem toInst_h (s : SeqA) (w0 : World) (ha : Rd w0 s.ia 1 eI s.ins) (hl : s.ins.length < 1000000000) :
  Ret Tryz.prog 90 [.agg ⟨eSq s⟩] w0 (fun v w => ∃ b, v = .agg ⟨eSq ⟨s.kind, s.init, s.ins, some ⟨b, 0, none⟩, s.ins.length⟩⟩ ∧ Hp w0 w [rO 3 1 eI (some ⟨b, 0, none⟩) s.ins.length s.ins]) := by
 refine enter Tryz.S90ok _ _ rfl rfl (by show _ ≤ _; simp only [List.length]; decide) (fun C => ?_); have hp := Hp.nil w0; refine h_run rfl ?_; skip; (first | refine H_box hp ?_ | refine H_alloc hp rfl ?_); intro w b1 hx hp; refine ops_run nopre rfl ?_; skip; (first | refine H_box hp ?_ | refine H_alloc hp rfl ?_); intro w b2 hx hp; refine ops_run nopre rfl ?_; skip; (first | refine H_box hp ?_ | refine H_alloc hp rfl ?_); intro w b3 hx hp; refine ops_run nopre rfl ?_; (repeat (first | (refine gLoad ?_; refine H_ldB hp rfl rfl ?_) | (refine gStore ?_; refine U_stB hp rfl rfl rfl rfl ?_; intro w hp; refine ops_run nopre rfl ?_)))
 refine h_call rfl Tryz.func149 (by kernel_rfl) rfl (toIntS_h _ _ s.ins _ hp.rd hl) ?_; rintro _ w ⟨b, rfl, hq⟩; have hx := hq.x; have hp := hp.call1 hq; refine ops_run nopre rfl ?_; (repeat (first | (refine gLoad ?_; refine H_ldB hp rfl rfl ?_) | (refine gStore ?_; (first | refine U_stB hp rfl rfl rfl rfl ?_ | refine U_stBN hp rfl rfl rfl rfl ?_); intro w hp; refine ops_run nopre rfl ?_) | (refine gRetc ?_; refine R_ret1 hp rfl ?_)))
 exact ⟨b, rfl, hp.sub (by simp)⟩
theorem toInstS_h (a : Option Addr) (c : Nat) (X : List SeqA) (w0 : World) (ha : SeqsR w0 a X) (hl : X.length < 1000000000) (hl2 : ∀ i, i < X.length → (X.getD i default).ins.length < 1000000000) :
  Ret Tryz.prog 34 [.slice a X.length c] w0 (fun v w => ∃ b R, seqsOf R = seqsOf X ∧ v = .slice (some ⟨b, 0, none⟩) R.length R.length ∧ Hp w0 w [rInS (some ⟨b, 0, none⟩) R.length R]) := by
 have hr := ha.row
 refine enter Tryz.S34ok _ _ rfl rfl (by show _ ≤ _; simp only [List.length]; decide) (fun C => ?_); have hp := Hp.nil w0; refine h_run rfl ?_; skip
 refine H_make hp eSq default rfl rfl rfl rfl (s := 3) rfl (by decide) rfl (by unfold maxLen; omega) (by show 40 * _ ≤ _; omega) ?_; intro w b hx hp; refine ops_run nopre rfl ?_; skip
 refine h_loop2 [0, 3, 4] (fun (i : Nat) (_ : List SeqA) => [(0, .slice a X.length c), (3, .slice (some ⟨b, 0, none⟩) X.length X.length), (4, .int .i64 (i : Int))])
  (fun i R w' => i ≤ X.length ∧ R.length = i ∧ seqsOf R = (seqsOf X).take i ∧ Hp w0 w' [rIns R, rO 150 3 eSq (some ⟨b, 0, none⟩) X.length (R ++ List.replicate (X.length - i) default)]) (fun i _ => X.length - i) 0 [] rfl ⟨by omega, rfl, rfl, rIns_nil hp⟩ ?_
 rintro i R w2 ⟨hi, hR, hRs, hp⟩ IH C
 refine h_run rfl ?_; skip
 refine h_cond_dec (fun hlt => ?_) (fun hlt => ?_)
 ·have hlt' : i < X.length := by omega
  refine h_cond_t rfl rfl ?_; (repeat (refine H_ldEN hp rfl (by omega) rfl rfl ?_))
  refine h_call rfl Tryz.func90 (by kernel_rfl) rfl (toInst_h (X.getD i default) _ ((ha.at_ hlt').ext hp.x) (hl2 i hlt')) ?_; rintro _ w ⟨b3, rfl, hq⟩; refine ops_run nopre rfl ?_; skip
  have hp := rIns_snoc (y := ⟨(X.getD i default).kind, (X.getD i default).init, (X.getD i default).ins, some ⟨b3, 0, none⟩, (X.getD i default).ins.length⟩) hp hq
  have hlen : ((R ++ List.replicate (X.length - i) default).length : Int) = X.length := by simp; omega
  first | refine U_stNN hp ((⟨(X.getD i default).kind, (X.getD i default).init, (X.getD i default).ins, some ⟨b3, 0, none⟩, (X.getD i default).ins.length⟩ : SeqA)) rfl rfl rfl (by omega) rfl ?_ | refine U_stN hp ((⟨(X.getD i default).kind, (X.getD i default).init, (X.getD i default).ins, some ⟨b3, 0, none⟩, (X.getD i default).ins.length⟩ : SeqA)) rfl rfl rfl (by omega) (by omega) rfl ?_
  intro w hp; refine ops_run nopre rfl ?_; skip
  refine IH (i + 1) (R ++ [⟨(X.getD i default).kind, (X.getD i default).init, (X.getD i default).ins, some ⟨b3, 0, none⟩, (X.getD i default).ins.length⟩]) _ _ _ (by omega) rfl ⟨by omega, by simp [hR], ?_, ?_⟩
  ·rw [take_snoc (by rw [seqsOf_len]; exact hlt'), ← hRs, seqsOf_get]; simp [seqsOf]; rfl
  ·rw [show X.length - i = X.length - (i + 1) + 1 by omega] at hp
   subst hR
   rw [row_set] at hp
   exact hp
 ·refine h_cond_f rfl rfl ?_; (repeat (refine R_ret ?_))
  obtain rfl : i = X.length := by omega
  rw [← seqsOf_len X, List.take_length] at hRs
  simp only [Nat.sub_self, List.replicate_zero, List.append_nil] at hp
  rw [← hR] at hp
  exact ⟨b, R, hRs, by rw [hR], rInS_shut hp.f1⟩
theorem eqInst_h (s t : SeqA) (w0 : World) (hs : Rd w0 s.ia 1 eI s.ins) (ht : Rd w0 t.ia 1 eI t.ins) (hl : s.ins.length < 1000000000) (hl2 : t.ins.length < 1000000000) :
  Ret Tryz.prog 114 [.agg ⟨eSq s⟩, .agg ⟨eSq t⟩] w0 (fun v w' => v = .bool (decide (s.s = t.s)) ∧ Ext w0 w') := by
 have key : s.s = t.s ↔ s.kind = t.kind ∧ s.init = t.init ∧ s.ins = t.ins := by simp [SeqA.s]
 refine enter Tryz.S114ok _ _ rfl rfl (by show _ ≤ _; simp only [List.length]; decide) (fun C => ?_); have hp := Hp.nil w0; refine h_run rfl ?_; skip; (first | refine H_box hp ?_ | refine H_alloc hp rfl ?_); intro w b1 hx hp; refine ops_run nopre rfl ?_; skip; (first | refine H_box hp ?_ | refine H_alloc hp rfl ?_); intro w b2 hx hp; refine ops_run nopre rfl ?_; (repeat (refine H_ldB hp rfl rfl ?_))
 refine h_cond_dec (fun h => ?_) (fun h => ?_)
 ·refine h_cond_t rfl rfl ?_; (repeat (refine R_ret ?_))
  exact ⟨by simp [key, h], hp.x⟩
 ·refine h_cond_f rfl rfl ?_; (repeat (refine H_ldB hp rfl rfl ?_))
  refine h_cond_dec (fun h2 => ?_) (fun h2 => ?_)
  ·refine h_cond_t rfl rfl ?_; (repeat (refine R_ret ?_))
   exact ⟨by simp [key, h2], hp.x⟩
  ·refine h_cond_f rfl rfl ?_; (repeat (refine H_ldB hp rfl rfl ?_))
   refine h_call rfl Tryz.func44 (by kernel_rfl) rfl (eqIntS_h _ _ _ _ s.ins t.ins _ hp.rd hp.rd hl hl2) ?_; rintro _ w ⟨rfl, hx⟩; have hp := hp.ext hx; refine ops_run nopre rfl ?_; skip
   refine h_cond_ndec (fun h3 => ?_) (fun h3 => ?_)
   ·refine h_cond_t rfl rfl ?_; (repeat (refine R_ret ?_))
    exact ⟨by simp [key, h3], hp.x⟩
   ·refine h_cond_f rfl rfl ?_; (repeat (refine R_ret ?_))
    have h := Decidable.not_not.1 h
    have h2 := Decidable.not_not.1 h2
    exact ⟨by simp [key, h, h2, h3], hp.x⟩
theorem eqInstS_h (a b : Option Addr) (ca cb : Nat) (xs ys : List SeqA) (w0 : World) (ha : SeqsR w0 a xs) (hb : SeqsR w0 b ys) (hl : xs.length < 1000000000) (hl2 : ys.length < 1000000000)
  (hi1 : ∀ i, i < xs.length → (xs.getD i default).ins.length < 1000000000) (hi2 : ∀ i, i < ys.length → (ys.getD i default).ins.length < 1000000000) :
  Ret Tryz.prog 47 [.slice a xs.length ca, .slice b ys.length cb] w0 (fun v w' => v = .bool (decide (seqsOf xs = seqsOf ys)) ∧ Ext w0 w') := by
 have hr1 := ha.row
 have hr2 := hb.row
 refine enter Tryz.S47ok _ _ rfl rfl (by show _ ≤ _; simp only [List.length]; decide) (fun C => ?_); have hp := Hp.nil w0; refine h_run rfl ?_; skip
 refine h_cond_dec (fun h => ?_) (fun h => ?_)
 ·refine h_cond_t rfl rfl ?_; (repeat (refine R_ret ?_))
  have hne : seqsOf xs ≠ seqsOf ys := fun e => h (by have e := congrArg List.length e; rw [seqsOf_len, seqsOf_len] at e; rw [e])
  exact ⟨by simp [hne], hp.x⟩
 ·refine h_cond_f rfl rfl ?_; skip
  have hlen : xs.length = ys.length := by omega
  refine h_loop [0, 1, 5] (fun i : Nat => [(0, .slice a xs.length ca), (1, .slice b ys.length cb), (5, .int .i64 (i : Int))])
   (fun i w' => i ≤ xs.length ∧ (∀ j, j < i → (xs.getD j default).s = (ys.getD j default).s) ∧ Hp w0 w' []) (fun i => xs.length - i) 0 rfl ⟨by omega, fun j hj => by omega, hp⟩ ?_
  rintro i w1 ⟨hi, hall, hp⟩ IH C
  refine h_run rfl ?_; skip
  refine h_cond_dec (fun hlt => ?_) (fun hlt => ?_)
  ·have hlt' : i < xs.length := by omega
   refine h_cond_t rfl rfl ?_; skip
   refine D_draw hp (by kernel_rfl) (by kernel_rfl) rfl rfl ?_; intro w hx hp; have hs := hp; (repeat (refine D_ldEN rfl (by omega) rfl rfl rfl ?_))
   refine h_callq rfl Tryz.func114 (by kernel_rfl) rfl (eqInst_h (xs.getD i default) (ys.getD i default) _ ((ha.at_ hlt').ext hp.x) ((hb.at_ (by omega)).ext hp.x) (hi1 i hlt') (hi2 i (by omega))) ?_; rintro _ w ⟨rfl, hx⟩; have hp := hp.ext hx; have hs := hs.ext hx; refine ⟨fun _ => hs, ?_⟩; refine D_ops rfl rfl ?_; skip
   refine h_cond_ndec (fun hne => ?_) (fun hne => ?_)
   ·refine h_cond_t rfl rfl ?_; (repeat (refine R_ret ?_))
    have : seqsOf xs ≠ seqsOf ys := fun e => hne (by rw [← seqsOf_get, ← seqsOf_get, e])
    exact ⟨by simp [this], hp.x⟩
   ·refine h_cond_f rfl rfl ?_; skip
    refine IH (i + 1) _ _ _ (by omega) rfl ⟨by omega, fun j hj => ?_, hp⟩
    by_cases hj2 : j < i
    ·exact hall j hj2
    ·obtain rfl : j = i := by omega
     exact hne
  ·refine h_cond_f rfl rfl ?_; (repeat (refine R_ret ?_))
   have : seqsOf xs = seqsOf ys := list_eq (by simp [seqsOf_len, hlen]) fun j h1 => by
    rw [seqsOf_get, seqsOf_get]
    rw [seqsOf_len] at h1
    exact hall j (by omega)
   exact ⟨by simp [this], hp.x⟩
theorem markInstS_h {w0 w : World} {L : List Res} {a : Option Addr} {c : Nat} {R : List SeqA} (hp : Hp w0 w (rInS a c R :: L)) (k : Int) (hl : R.length ≤ 1048576) (hl2 : ∀ i, i < R.length → (R.getD i default).ins.length ≤ 1048576) (hk : 0 ≤ k) (hk2 : k < 10000000000000) :
  Ret Tryz.prog 51 [.slice a R.length c, .int .i64 k] w (fun v w' => v = .int .i64 (kSq k R R.length) ∧ Hp w0 w' (rInS a c ((List.range R.length).map (mSq k R)) :: L)) := by
 refine enter Tryz.S51ok _ _ rfl rfl (by show _ ≤ _; simp only [List.length]; decide) (fun C => ?_); refine h_run rfl ?_
 refine h_loop [0, 1, 5] (fun i : Nat => [(0, .slice a R.length c), (1, .int .i64 (kSq k R i)), (5, .int .i64 (i : Int))])
  (fun i w' => i ≤ R.length ∧ Hp w0 w' (rO 150 3 eSq a c (upTo (mSq k R) i R) :: rIns (upTo (mSq k R) i R) :: L)) (fun i => R.length - i) 0 rfl ⟨by omega, by rw [upTo_zero]; exact rInS_open hp⟩ ?_
 rintro i w1 ⟨hi, hp⟩ IH C
 have hlen := upTo_len (f := mSq k R) hi
 have hkb := kSq_le (k := k) hl2 i hi
 refine h_run rfl ?_; skip
 refine h_cond_dec (fun hlt => ?_) (fun hlt => ?_)
 ·have hlt' : i < R.length := by omega
  have hat := upTo_at (f := mSq k R) (Nat.le_refl i) hi
  have hne : a ≠ none := nn_of hp (by omega)
  obtain ⟨Q, hq, hback⟩ := rIns_at hp.f1 (i := i) (by omega)
  rw [hat] at hq
  have hp := hq.f2
  have hl3 := hl2 i hlt'
  refine h_cond_t rfl rfl ?_; skip
  refine U_st1N hp ({ R.getD i default with kind := kSq k R i }) rfl rfl rfl (by omega) (by decide) (by rw [hat]; rfl) rfl ?_; intro w hp; refine ops_run nopre rfl ?_; skip
  have hlen2 : ((upTo (mSq k R) i R).set i { R.getD i default with kind := kSq k R i }).length = R.length := by rw [List.length_set, hlen]
  have hat2 : ((upTo (mSq k R) i R).set i { R.getD i default with kind := kSq k R i }).getD i default = { R.getD i default with kind := kSq k R i } := by rw [List.getD_eq_getElem?_getD, List.getElem?_set_self (by omega)]; rfl
  refine U_st1N hp ({ R.getD i default with kind := kSq k R i, init := kSq k R i + 1 }) rfl rfl rfl (by omega) (by decide) (by rw [hat2]; rfl) rfl ?_; intro w hp; refine ops_run nopre rfl ?_; skip
  rw [List.set_set] at hp
  have hlen3 : ((upTo (mSq k R) i R).set i { R.getD i default with kind := kSq k R i, init := kSq k R i + 1 }).length = R.length := by rw [List.length_set, hlen]
  have hat3 : ((upTo (mSq k R) i R).set i { R.getD i default with kind := kSq k R i, init := kSq k R i + 1 }).getD i default = { R.getD i default with kind := kSq k R i, init := kSq k R i + 1 } := by rw [List.getD_eq_getElem?_getD, List.getElem?_set_self (by omega)]; rfl
  refine H_ldFN hp rfl (by omega) (by rw [hat3]; rfl) rfl ?_; skip
  refine h_call rfl Tryz.func55 (by kernel_rfl) rfl (markIntS_h (xs := (R.getD i default).ins) hp (kSq k R i + 1 + 1) (by omega) (by omega) (by omega)) ?_; rintro _ w ⟨rfl, hp⟩; refine ops_run nopre rfl ?_; skip
  have hp := (hback _ _ (mSq k R i) hp.b2).f1
  refine IH (i + 1) _ _ _ (by omega) rfl ⟨by omega, ?_⟩
  rw [← upTo_set (f := mSq k R) hlt']
  exact rO_set hp (by show _ = [_, _, Value.slice _ (marks _ _).length _]; rw [marks_len]; rfl)
 ·refine h_cond_f rfl rfl ?_; (repeat (refine R_ret ?_))
  obtain rfl : i = R.length := by omega
  rw [upTo_all] at hp
  exact ⟨rfl, rInS_shut hp⟩
theorem szAssign_h (s : AsA) (left : Int) (w0 : World) (h0 : 0 ≤ left) (h1 : left ≤ 1048576) (hn : (s.ops.length : Int) ≤ 9223372036854775807) :
  Ret Tryz.prog 73 [.agg ⟨eAs s⟩, .int .i64 left] w0 (fun v w' => v = .int .i64 (if left < s.ops.length then -1 else left - s.ops.length) ∧ Ext w0 w') := by
 refine enter Tryz.S73ok _ _ rfl rfl (by show _ ≤ _; simp only [List.length]; decide) (fun C => ?_); have hp := Hp.nil w0; refine h_run rfl ?_; skip; (first | refine H_box hp ?_ | refine H_alloc hp rfl ?_); intro w b1 hx hp; refine ops_run nopre rfl ?_; (repeat (refine H_ldB hp rfl rfl ?_))
 refine h_call rfl Tryz.func133 (by kernel_rfl) rfl (szOpS_h _ _ _ _ _ h0 h1 hn) ?_; rintro _ w ⟨rfl, hx⟩; have hp := hp.ext hx; refine ops_run nopre rfl ?_; skip
 by_cases hlt : left < s.ops.length
 ·rw [if_pos hlt]
  refine h_cond_t rfl rfl ?_; (repeat (refine R_ret ?_))
  exact ⟨rfl, hp.x⟩
 ·rw [if_neg hlt]
  refine h_cond_f (decide_eq_false (by omega)) rfl ?_; (repeat (refine R_ret ?_))
  exact ⟨rfl, hp.x⟩
theorem szAssignS_h (a : Option Addr) (c : Nat) (R : List AsA) (left : Int) (w0 : World) (ha : AsR w0 a R) (h0 : 0 ≤ left) (h1 : left ≤ 1048576)
  (hn : (R.length : Int) ≤ 9223372036854775807) (hin : ∀ i, i < R.length → ((R.getD i default).ops.length : Int) ≤ 9223372036854775807) :
  Ret Tryz.prog 23 [.slice a R.length c, .int .i64 left] w0 (fun v w' => (∃ z, v = .int .i64 z ∧ (z = -1 ∨ (0 ≤ z ∧ z ≤ left ∧ R.length ≤ left ∧ ∀ i, i < R.length → (R.getD i default).ops.length ≤ left))) ∧ Ext w0 w') := by
 have hr := ha.row
 refine enter Tryz.S23ok _ _ rfl rfl (by show _ ≤ _; simp only [List.length]; decide) (fun C => ?_); have hp := Hp.nil w0; refine h_run rfl ?_; skip
 refine h_cond_dec (fun h => ?_) (fun h => ?_)
 ·refine h_cond_t rfl rfl ?_; (repeat (refine R_ret ?_))
  exact ⟨⟨-1, rfl, .inl rfl⟩, hp.x⟩
 ·refine h_cond_f rfl rfl ?_; skip
  refine h_loop2 [0, 1, 5] (fun (i : Nat) (l : Int) => [(0, .slice a R.length c), (1, .int .i64 l), (5, .int .i64 (i : Int))])
   (fun i l w' => i ≤ R.length ∧ 0 ≤ l ∧ l ≤ left ∧ (∀ j, j < i → (R.getD j default).ops.length ≤ left) ∧ Hp w0 w' []) (fun i _ => R.length - i) 0 _ rfl ⟨by omega, by omega, by omega, fun j hj => by omega, hp⟩ ?_
  rintro i l w1 ⟨hi, hl0, hl1, hall, hp⟩ IH C
  refine h_run rfl ?_; skip
  refine h_cond_dec (fun hlt => ?_) (fun hlt => ?_)
  ·have hlt' : i < R.length := by omega
   refine h_cond_t rfl rfl ?_; (repeat (refine H_ldEN hp rfl (by omega) rfl rfl ?_))
   refine h_call rfl Tryz.func73 (by kernel_rfl) rfl (szAssign_h (R.getD i default) l _ hl0 (by omega) (hin i hlt')) ?_; rintro _ w ⟨rfl, hx⟩; have hp := hp.ext hx; refine ops_run nopre rfl ?_; skip
   by_cases hlt : l < ((R.getD i default).ops.length : Int)
   ·rw [if_pos hlt]
    refine h_cond_t rfl rfl ?_; (repeat (refine R_ret ?_))
    exact ⟨⟨-1, rfl, .inl rfl⟩, hp.x⟩
   ·rw [if_neg hlt]
    refine h_cond_f (decide_eq_false (by omega)) rfl ?_; skip
    refine IH (i + 1) _ _ _ _ (by omega) rfl ⟨by omega, by omega, by omega, fun j hj => ?_, hp⟩
    by_cases hj2 : j < i
    ·exact hall j hj2
    ·obtain rfl : j = i := by omega
     omega
  ·refine h_cond_f rfl rfl ?_; (repeat (refine R_ret ?_))
   exact ⟨⟨_, rfl, .inr ⟨by omega, by omega, by omega, fun j hj => hall j (by omega)⟩⟩, hp.x⟩
theorem toAssign_h (s : AsA) (w0 : World) (ha : Rd w0 s.oa 3 eOp s.ops) (hl : s.ops.length < 1000000000) :
  Ret Tryz.prog 89 [.agg ⟨eAs s⟩] w0 (fun v w => ∃ b, v = .agg ⟨eAs ⟨s.tg, s.ops, some ⟨b, 0, none⟩, s.ops.length⟩⟩ ∧ Hp w0 w [rO 132 3 eOp (some ⟨b, 0, none⟩) s.ops.length s.ops]) := by
 refine enter Tryz.S89ok _ _ rfl rfl (by show _ ≤ _; simp only [List.length]; decide) (fun C => ?_); have hp := Hp.nil w0; refine h_run rfl ?_; skip; (first | refine H_box hp ?_ | refine H_alloc hp rfl ?_); intro w b1 hx hp; refine ops_run nopre rfl ?_; skip; (first | refine H_box hp ?_ | refine H_alloc hp rfl ?_); intro w b2 hx hp; refine ops_run nopre rfl ?_; skip; (first | refine H_box hp ?_ | refine H_alloc hp rfl ?_); intro w b3 hx hp; refine ops_run nopre rfl ?_; (repeat (first | (refine gLoad ?_; refine H_ldB hp rfl rfl ?_) | (refine gStore ?_; refine U_stB hp rfl rfl rfl rfl ?_; intro w hp; refine ops_run nopre rfl ?_)))
 refine h_call rfl Tryz.func148 (by kernel_rfl) rfl (toOpS_h _ _ s.ops _ hp.rd hl) ?_; rintro _ w ⟨b, rfl, hq⟩; have hx := hq.x; have hp := hp.call1 hq; refine ops_run nopre rfl ?_; (repeat (first | (refine gLoad ?_; refine H_ldB hp rfl rfl ?_) | (refine gStore ?_; (first | refine U_stB hp rfl rfl rfl rfl ?_ | refine U_stBN hp rfl rfl rfl rfl ?_); intro w hp; refine ops_run nopre rfl ?_) | (refine gRetc ?_; refine R_ret1 hp rfl ?_)))
 exact ⟨b, rfl, hp.sub (by simp)⟩
theorem toAssignS_h (a : Option Addr) (c : Nat) (X : List AsA) (w0 : World) (ha : AsR w0 a X) (hl : X.length < 1000000000) (hl2 : ∀ i, i < X.length → (X.getD i default).ops.length < 1000000000) :
  Ret Tryz.prog 33 [.slice a X.length c] w0 (fun v w => ∃ b R, asOf R = asOf X ∧ v = .slice (some ⟨b, 0, none⟩) R.length R.length ∧ Hp w0 w [rAs (some ⟨b, 0, none⟩) R.length R]) := by
 have hr := ha.row
 refine enter Tryz.S33ok _ _ rfl rfl (by show _ ≤ _; simp only [List.length]; decide) (fun C => ?_); have hp := Hp.nil w0; refine h_run rfl ?_; skip
 refine H_make hp eAs default rfl rfl rfl rfl (s := 2) rfl (by decide) rfl (by unfold maxLen; omega) (by show 32 * _ ≤ _; omega) ?_; intro w b hx hp; refine ops_run nopre rfl ?_; skip
 refine h_loop2 [0, 3, 4] (fun (i : Nat) (_ : List AsA) => [(0, .slice a X.length c), (3, .slice (some ⟨b, 0, none⟩) X.length X.length), (4, .int .i64 (i : Int))])
  (fun i R w' => i ≤ X.length ∧ R.length = i ∧ asOf R = (asOf X).take i ∧ Hp w0 w' [rOps R, rO 75 2 eAs (some ⟨b, 0, none⟩) X.length (R ++ List.replicate (X.length - i) default)]) (fun i _ => X.length - i) 0 [] rfl ⟨by omega, rfl, rfl, rOps_nil hp⟩ ?_
 rintro i R w2 ⟨hi, hR, hRs, hp⟩ IH C
 refine h_run rfl ?_; skip
 refine h_cond_dec (fun hlt => ?_) (fun hlt => ?_)
 ·have hlt' : i < X.length := by omega
  refine h_cond_t rfl rfl ?_; (repeat (refine H_ldEN hp rfl (by omega) rfl rfl ?_))
  refine h_call rfl Tryz.func89 (by kernel_rfl) rfl (toAssign_h (X.getD i default) _ ((ha.at_ hlt').ext hp.x) (hl2 i hlt')) ?_; rintro _ w ⟨b3, rfl, hq⟩; refine ops_run nopre rfl ?_; skip
  have hp := rOps_snoc (y := ⟨(X.getD i default).tg, (X.getD i default).ops, some ⟨b3, 0, none⟩, (X.getD i default).ops.length⟩) hp hq
  have hlen : ((R ++ List.replicate (X.length - i) default).length : Int) = X.length := by simp; omega
  first | refine U_stNN hp ((⟨(X.getD i default).tg, (X.getD i default).ops, some ⟨b3, 0, none⟩, (X.getD i default).ops.length⟩ : AsA)) rfl rfl rfl (by omega) rfl ?_ | refine U_stN hp ((⟨(X.getD i default).tg, (X.getD i default).ops, some ⟨b3, 0, none⟩, (X.getD i default).ops.length⟩ : AsA)) rfl rfl rfl (by omega) (by omega) rfl ?_
  intro w hp; refine ops_run nopre rfl ?_; skip
  refine IH (i + 1) (R ++ [⟨(X.getD i default).tg, (X.getD i default).ops, some ⟨b3, 0, none⟩, (X.getD i default).ops.length⟩]) _ _ _ (by omega) rfl ⟨by omega, by simp [hR], ?_, ?_⟩
  ·rw [take_snoc (by rw [asOf_len]; exact hlt'), ← hRs, asOf_get]; simp [asOf]; rfl
  ·rw [show X.length - i = X.length - (i + 1) + 1 by omega] at hp
   subst hR
   rw [row_set] at hp
   exact hp
 ·refine h_cond_f rfl rfl ?_; (repeat (refine R_ret ?_))
  obtain rfl : i = X.length := by omega
  rw [← asOf_len X, List.take_length] at hRs
  simp only [Nat.sub_self, List.replicate_zero, List.append_nil] at hp
  rw [← hR] at hp
  exact ⟨b, R, hRs, by rw [hR], rAs_shut hp.f1⟩
theorem eqAssign_h (s t : AsA) (w0 : World) (hs : Rd w0 s.oa 3 eOp s.ops) (ht : Rd w0 t.oa 3 eOp t.ops) (hl : s.ops.length < 1000000000) (hl2 : t.ops.length < 1000000000) :
  Ret Tryz.prog 113 [.agg ⟨eAs s⟩, .agg ⟨eAs t⟩] w0 (fun v w' => v = .bool (decide (s.s = t.s)) ∧ Ext w0 w') := by
 have key : s.s = t.s ↔ s.tg = t.tg ∧ s.ops = t.ops := by simp [AsA.s]
 refine enter Tryz.S113ok _ _ rfl rfl (by show _ ≤ _; simp only [List.length]; decide) (fun C => ?_); have hp := Hp.nil w0; refine h_run rfl ?_; skip; (first | refine H_box hp ?_ | refine H_alloc hp rfl ?_); intro w b1 hx hp; refine ops_run nopre rfl ?_; skip; (first | refine H_box hp ?_ | refine H_alloc hp rfl ?_); intro w b2 hx hp; refine ops_run nopre rfl ?_; (repeat (refine H_ldB hp rfl rfl ?_))
 refine h_cond_dec (fun h => ?_) (fun h => ?_)
 ·refine h_cond_t rfl rfl ?_; (repeat (refine R_ret ?_))
  exact ⟨by simp [key, h], hp.x⟩
 ·refine h_cond_f rfl rfl ?_; (repeat (refine H_ldB hp rfl rfl ?_))
  refine h_call rfl Tryz.func158 (by kernel_rfl) rfl (eqOpS_h _ _ _ _ s.ops t.ops _ hp.rd hp.rd hl hl2) ?_; rintro _ w ⟨rfl, hx⟩; have hp := hp.ext hx; refine ops_run nopre rfl ?_; skip
  refine h_cond_ndec (fun h3 => ?_) (fun h3 => ?_)
  ·refine h_cond_t rfl rfl ?_; (repeat (refine R_ret ?_))
   exact ⟨by simp [key, h3], hp.x⟩
  ·refine h_cond_f rfl rfl ?_; (repeat (refine R_ret ?_))
   have h := Decidable.not_not.1 h
   exact ⟨by simp [key, h, h3], hp.x⟩
theorem eqAssignS_h (a b : Option Addr) (ca cb : Nat) (xs ys : List AsA) (w0 : World) (ha : AsR w0 a xs) (hb : AsR w0 b ys) (hl : xs.length < 1000000000) (hl2 : ys.length < 1000000000)
  (hi1 : ∀ i, i < xs.length → (xs.getD i default).ops.length < 1000000000) (hi2 : ∀ i, i < ys.length → (ys.getD i default).ops.length < 1000000000) :
  Ret Tryz.prog 46 [.slice a xs.length ca, .slice b ys.length cb] w0 (fun v w' => v = .bool (decide (asOf xs = asOf ys)) ∧ Ext w0 w') := by
 have hr1 := ha.row
 have hr2 := hb.row
 refine enter Tryz.S46ok _ _ rfl rfl (by show _ ≤ _; simp only [List.length]; decide) (fun C => ?_); have hp := Hp.nil w0; refine h_run rfl ?_; skip
 refine h_cond_dec (fun h => ?_) (fun h => ?_)
 ·refine h_cond_t rfl rfl ?_; (repeat (refine R_ret ?_))
  have hne : asOf xs ≠ asOf ys := fun e => h (by have e := congrArg List.length e; rw [asOf_len, asOf_len] at e; rw [e])
  exact ⟨by simp [hne], hp.x⟩
 ·refine h_cond_f rfl rfl ?_; skip
  have hlen : xs.length = ys.length := by omega
  refine h_loop [0, 1, 5] (fun i : Nat => [(0, .slice a xs.length ca), (1, .slice b ys.length cb), (5, .int .i64 (i : Int))])
   (fun i w' => i ≤ xs.length ∧ (∀ j, j < i → (xs.getD j default).s = (ys.getD j default).s) ∧ Hp w0 w' []) (fun i => xs.length - i) 0 rfl ⟨by omega, fun j hj => by omega, hp⟩ ?_
  rintro i w1 ⟨hi, hall, hp⟩ IH C
  refine h_run rfl ?_; skip
  refine h_cond_dec (fun hlt => ?_) (fun hlt => ?_)
  ·have hlt' : i < xs.length := by omega
   refine h_cond_t rfl rfl ?_; skip
   refine D_draw hp (by kernel_rfl) (by kernel_rfl) rfl rfl ?_; intro w hx hp; have hs := hp; (repeat (refine D_ldEN rfl (by omega) rfl rfl rfl ?_))
   refine h_callq rfl Tryz.func113 (by kernel_rfl) rfl (eqAssign_h (xs.getD i default) (ys.getD i default) _ ((ha.at_ hlt').ext hp.x) ((hb.at_ (by omega)).ext hp.x) (hi1 i hlt') (hi2 i (by omega))) ?_; rintro _ w ⟨rfl, hx⟩; have hp := hp.ext hx; have hs := hs.ext hx; refine ⟨fun _ => hs, ?_⟩; refine D_ops rfl rfl ?_; skip
   refine h_cond_ndec (fun hne => ?_) (fun hne => ?_)
   ·refine h_cond_t rfl rfl ?_; (repeat (refine R_ret ?_))
    have : asOf xs ≠ asOf ys := fun e => hne (by rw [← asOf_get, ← asOf_get, e])
    exact ⟨by simp [this], hp.x⟩
   ·refine h_cond_f rfl rfl ?_; skip
    refine IH (i + 1) _ _ _ (by omega) rfl ⟨by omega, fun j hj => ?_, hp⟩
    by_cases hj2 : j < i
    ·exact hall j hj2
    ·obtain rfl : j = i := by omega
     exact hne
  ·refine h_cond_f rfl rfl ?_; (repeat (refine R_ret ?_))
   have : asOf xs = asOf ys := list_eq (by simp [asOf_len, hlen]) fun j h1 => by
    rw [asOf_get, asOf_get]
    rw [asOf_len] at h1
    exact hall j (by omega)
   exact ⟨by simp [this], hp.x⟩
def mOps (k : Int) (n : Nat) : List OpL := (List.range n).map (fun (i : Nat) => (⟨k + 3 * (i : Int), k + 3 * (i : Int) + 1, k + 3 * (i : Int) + 2⟩ : OpL))
theorem mOps_len (k : Int) (n : Nat) : (mOps k n).length = n := by simp [mOps]
def kAs (k : Int) (R : List AsA) : Nat → Int
 | 0 => k
 | i + 1 => kAs k R i + 1 + 3 * (R.getD i default).ops.length
def mAs (k : Int) (R : List AsA) (i : Nat) : AsA := ⟨kAs k R i, mOps (kAs k R i + 1) (R.getD i default).ops.length, (R.getD i default).oa, (R.getD i default).oc⟩
theorem kAs_le {k : Int} {R : List AsA} (h : ∀ i, i < R.length → (R.getD i default).ops.length ≤ 1048576) : ∀ i : Nat, i ≤ R.length → k ≤ kAs k R i ∧ kAs k R i ≤ k + 3145729 * i
 | 0, _ => by simp [kAs]
 | i + 1, hi => by
  have h1 := kAs_le (k := k) h i (by omega)
  have h2 := h i (by omega)
  simp only [kAs]
  omega
theorem markAssignS_h {w0 w : World} {L : List Res} {a : Option Addr} {c : Nat} {R : List AsA} (hp : Hp w0 w (rAs a c R :: L)) (k : Int) (hl : R.length ≤ 1048576) (hl2 : ∀ i, i < R.length → (R.getD i default).ops.length ≤ 1048576) (hk : 0 ≤ k) (hk2 : k < 10000000000000) :
  Ret Tryz.prog 50 [.slice a R.length c, .int .i64 k] w (fun v w' => v = .int .i64 (kAs k R R.length) ∧ Hp w0 w' (rAs a c ((List.range R.length).map (mAs k R)) :: L)) := by
 refine enter Tryz.S50ok _ _ rfl rfl (by show _ ≤ _; simp only [List.length]; decide) (fun C => ?_); refine h_run rfl ?_
 refine h_loop [0, 1, 5] (fun i : Nat => [(0, .slice a R.length c), (1, .int .i64 (kAs k R i)), (5, .int .i64 (i : Int))])
  (fun i w' => i ≤ R.length ∧ Hp w0 w' (rO 75 2 eAs a c (upTo (mAs k R) i R) :: rOps (upTo (mAs k R) i R) :: L)) (fun i => R.length - i) 0 rfl ⟨by omega, by rw [upTo_zero]; exact rAs_open hp⟩ ?_
 rintro i w1 ⟨hi, hp⟩ IH C
 have hlen := upTo_len (f := mAs k R) hi
 have hkb := kAs_le (k := k) hl2 i hi
 refine h_run rfl ?_; skip
 refine h_cond_dec (fun hlt => ?_) (fun hlt => ?_)
 ·have hlt' : i < R.length := by omega
  have hat := upTo_at (f := mAs k R) (Nat.le_refl i) hi
  have hne : a ≠ none := nn_of hp (by omega)
  obtain ⟨Q, hq, hback⟩ := rOps_at hp.f1 (i := i) (by omega)
  rw [hat] at hq
  have hp := hq.f2
  have hl3 := hl2 i hlt'
  refine h_cond_t rfl rfl ?_; skip
  refine U_st1N hp ({ R.getD i default with tg := kAs k R i }) rfl rfl rfl (by omega) (by decide) (by rw [hat]; rfl) rfl ?_; intro w hp; refine ops_run nopre rfl ?_; skip
  have hlen2 : ((upTo (mAs k R) i R).set i { R.getD i default with tg := kAs k R i }).length = R.length := by rw [List.length_set, hlen]
  have hat2 : ((upTo (mAs k R) i R).set i { R.getD i default with tg := kAs k R i }).getD i default = { R.getD i default with tg := kAs k R i } := by rw [List.getD_eq_getElem?_getD, List.getElem?_set_self (by omega)]; rfl
  refine H_ldFN hp rfl (by omega) (by rw [hat2]; rfl) rfl ?_; skip
  refine h_call rfl Tryz.func116 (by kernel_rfl) rfl (markOpS_u (X := (R.getD i default).ops) hp (kAs k R i + 1) (by omega) (by omega) (by omega)) ?_; rintro _ w ⟨rfl, hp⟩; refine ops_run nopre rfl ?_; skip
  have hp := (hback _ _ (mAs k R i) hp.b2).f1
  refine IH (i + 1) _ _ _ (by omega) rfl ⟨by omega, ?_⟩
  rw [← upTo_set (f := mAs k R) hlt']
  exact rO_set hp (by show _ = [_, Value.slice _ (mOps _ _).length _]; rw [mOps_len]; rfl)
 ·refine h_cond_f rfl rfl ?_; (repeat (refine R_ret ?_))
  obtain rfl : i = R.length := by omega
  rw [upTo_all] at hp
  exact ⟨rfl, rAs_shut hp⟩
theorem szModule_h (x : ModA) (left : Int) (w0 : World) (hx : ModR w0 x) (hm : ModM x.n) (h0 : 0 ≤ left) (h1 : left ≤ 1048576) :
  Ret Tryz.prog 5 [x.v, .int .i64 left] w0 (fun v w' => (∃ z, v = .int .i64 z ∧ (z = -1 ∨ (0 ≤ z ∧ z ≤ left ∧ ModS x.n))) ∧ Ext w0 w') := by
 obtain ⟨m1, m2, m3, m4, m5, m6⟩ := hm
 rw [x.alen] at m2 m3
 rw [x.ilen] at m4 m5
 simp only [x.aops] at m3
 simp only [x.iins] at m5
 have m1 : (x.sg.length : Int) ≤ 9223372036854775807 := m1
 have m6 : (x.ms.length : Int) ≤ 9223372036854775807 := m6
 refine enter Tryz.S5ok _ _ rfl rfl (by show _ ≤ _; simp only [List.length]; decide) (fun C => ?_); have hp := Hp.nil w0; refine h_run rfl ?_; skip; (first | refine H_box hp ?_ | refine H_alloc hp rfl ?_); intro w b1 hx hp; refine ops_run nopre rfl ?_; (repeat (refine H_ldB hp rfl rfl ?_))
 refine h_call rfl Tryz.func22 (by kernel_rfl) rfl (szSignalS_h _ _ _ _ _ h0 h1 m1) ?_; rintro _ w ⟨rfl, hx⟩; have hp := hp.ext hx; refine ops_run nopre rfl ?_; skip
 by_cases hl1 : left < (x.sg.length : Int)
 ·rw [if_pos hl1]
  refine h_cond_t rfl rfl ?_; (repeat (refine R_ret ?_))
  exact ⟨⟨-1, rfl, .inl rfl⟩, hp.x⟩
 ·rw [if_neg hl1]
  refine h_cond_f (decide_eq_false (by omega)) rfl ?_; (repeat (refine H_ldB hp rfl rfl ?_))
  refine h_call rfl Tryz.func23 (by kernel_rfl) rfl (szAssignS_h x.aa x.ac x.asg (left - (x.sg.length : Int)) _ hp.mod.asg (by omega) (by omega) m2 m3) ?_; rintro _ w ⟨⟨z, rfl, hz⟩, hx⟩; have hp := hp.ext hx; refine ops_run nopre rfl ?_; skip
  rcases hz with rfl | ⟨hz0, hz1, hs1, hs2⟩
  ·refine h_cond_t rfl rfl ?_; (repeat (refine R_ret ?_))
   exact ⟨⟨-1, rfl, .inl rfl⟩, hp.x⟩
  ·refine h_cond_f (decide_eq_false (by omega)) rfl ?_; (repeat (refine H_ldB hp rfl rfl ?_))
   refine h_call rfl Tryz.func24 (by kernel_rfl) rfl (szInstS_h x.ia x.ic x.ins z _ hp.mod.ins (by omega) (by omega) m4 m5) ?_; rintro _ w ⟨⟨z2, rfl, hz⟩, hx⟩; have hp := hp.ext hx; refine ops_run nopre rfl ?_; skip
   rcases hz with rfl | ⟨hy0, hy1, ht1, ht2⟩
   ·refine h_cond_t rfl rfl ?_; (repeat (refine R_ret ?_))
    exact ⟨⟨-1, rfl, .inl rfl⟩, hp.x⟩
   ·refine h_cond_f (decide_eq_false (by omega)) rfl ?_; (repeat (refine H_ldB hp rfl rfl ?_))
    refine h_call rfl Tryz.func25 (by kernel_rfl) rfl (szMemS_h _ _ _ _ _ hy0 (by omega) m6) ?_; rintro _ w ⟨rfl, hx⟩; have hp := hp.ext hx; refine ops_run nopre rfl ?_; skip
    by_cases hl2 : z2 < (x.ms.length : Int)
    ·rw [if_pos hl2]
     refine h_cond_t rfl rfl ?_; (repeat (refine R_ret ?_))
     exact ⟨⟨-1, rfl, .inl rfl⟩, hp.x⟩
    ·rw [if_neg hl2]
     refine h_cond_f (decide_eq_false (by omega)) rfl ?_; (repeat (refine R_ret ?_))
     refine ⟨⟨_, rfl, .inr ⟨by omega, by omega, ⟨?_, ?_, ?_, ?_, ?_, ?_⟩⟩⟩, hp.x⟩
     ·show x.sg.length ≤ _; omega
     ·rw [x.alen]; omega
     ·intro i hi; rw [x.alen] at hi; rw [x.aops]; have := hs2 i hi; omega
     ·rw [x.ilen]; omega
     ·intro i hi; rw [x.ilen] at hi; rw [x.iins]; have := ht2 i hi; omega
     ·show x.ms.length ≤ _; omega
theorem toModule_h (x : ModA) (w0 : World) (hx : ModR w0 x) (hs : ModS x.n) :
  Ret Tryz.prog 7 [x.v] w0 (fun v w => ∃ y, (y.n = x.n ∧ v = y.v) ∧ Hp w0 w [rMod y]) := by
 obtain ⟨s1, s2, s3, s4, s5, s6⟩ := hs
 rw [x.alen] at s2 s3
 rw [x.ilen] at s4 s5
 simp only [x.aops] at s3
 simp only [x.iins] at s5
 have s1 : x.sg.length ≤ 1048576 := s1
 have s6 : x.ms.length ≤ 1048576 := s6
 refine enter Tryz.S7ok _ _ rfl rfl (by show _ ≤ _; simp only [List.length]; decide) (fun C => ?_); have hp := Hp.nil w0; refine h_run rfl ?_; skip; (first | refine H_box hp ?_ | refine H_alloc hp rfl ?_); intro w b1 hx hp; refine ops_run nopre rfl ?_; skip; (first | refine H_box hp ?_ | refine H_alloc hp rfl ?_); intro w b2 hx hp; refine ops_run nopre rfl ?_; skip; (first | refine H_box hp ?_ | refine H_alloc hp rfl ?_); intro w b3 hx hp; refine ops_run nopre rfl ?_; (repeat (refine H_ldB hp rfl rfl ?_))
 refine h_call rfl Tryz.func32 (by kernel_rfl) rfl (toSignalS_h _ _ _ _ hp.rd (by omega)) ?_; rintro _ w ⟨c1, rfl, hq⟩; have hx := hq.x; have hp := hp.call1 hq; refine ops_run nopre rfl ?_; (repeat (first | (refine gLoad ?_; refine H_ldB hp rfl rfl ?_) | (refine gStore ?_; refine U_stB hp rfl rfl rfl rfl ?_; intro w hp; refine ops_run nopre rfl ?_)))
 refine h_call rfl Tryz.func33 (by kernel_rfl) rfl (toAssignS_h _ _ _ _ hp.mod.asg (by omega) (fun i hi => by have := s3 i hi; omega)) ?_; rintro _ w ⟨c2, R2, hR2, rfl, hq⟩; have hx := hq.x; have hp := hp.call1 hq; refine ops_run nopre rfl ?_; (repeat (first | (refine gLoad ?_; refine H_ldB hp rfl rfl ?_) | (refine gStore ?_; refine U_stB hp rfl rfl rfl rfl ?_; intro w hp; refine ops_run nopre rfl ?_)))
 refine h_call rfl Tryz.func34 (by kernel_rfl) rfl (toInstS_h _ _ _ _ hp.mod.ins (by omega) (fun i hi => by have := s5 i hi; omega)) ?_; rintro _ w ⟨c3, R3, hR3, rfl, hq⟩; have hx := hq.x; have hp := hp.call1 hq; refine ops_run nopre rfl ?_; (repeat (first | (refine gLoad ?_; refine H_ldB hp rfl rfl ?_) | (refine gStore ?_; refine U_stB hp rfl rfl rfl rfl ?_; intro w hp; refine ops_run nopre rfl ?_)))
 refine h_call rfl Tryz.func35 (by kernel_rfl) rfl (toMemS_h _ _ _ _ hp.rd (by omega)) ?_; rintro _ w ⟨c4, rfl, hq⟩; have hx := hq.x; have hp := hp.call1 hq; refine ops_run nopre rfl ?_; (repeat (first | (refine gLoad ?_; refine H_ldB hp rfl rfl ?_) | (refine gStore ?_; (first | refine U_stB hp rfl rfl rfl rfl ?_ | refine U_stBN hp rfl rfl rfl rfl ?_); intro w hp; refine ops_run nopre rfl ?_) | (refine gRetc ?_; refine R_ret1 hp rfl ?_)))
 refine ⟨⟨x.sg, some ⟨c1, 0, none⟩, x.sg.length, R2, some ⟨c2, 0, none⟩, R2.length, R3, some ⟨c3, 0, none⟩, R3.length, x.ms, some ⟨c4, 0, none⟩, x.ms.length⟩, ⟨by unfold ModA.n; rw [hR2, hR3], rfl⟩, ?_⟩
 exact Hp.sub (rMod_shut (x := ⟨x.sg, some ⟨c1, 0, none⟩, x.sg.length, R2, some ⟨c2, 0, none⟩, R2.length, R3, some ⟨c3, 0, none⟩, R3.length, x.ms, some ⟨c4, 0, none⟩, x.ms.length⟩) (hp.f1.f2.f3)) (by simp)
theorem eqModule_h (x y : ModA) (w0 : World) (hx : ModR w0 x) (hy : ModR w0 y) (sx : ModS x.n) (sy : ModS y.n) :
  Ret Tryz.prog 10 [x.v, y.v] w0 (fun v w' => v = .bool (decide (x.n = y.n)) ∧ Ext w0 w') := by
 have key : x.n = y.n ↔ x.sg = y.sg ∧ asOf x.asg = asOf y.asg ∧ seqsOf x.ins = seqsOf y.ins ∧ x.ms = y.ms := by simp [ModA.n]
 obtain ⟨s1, s2, s3, s4, s5, s6⟩ := sx
 rw [x.alen] at s2 s3
 rw [x.ilen] at s4 s5
 simp only [x.aops] at s3
 simp only [x.iins] at s5
 have s1 : x.sg.length ≤ 1048576 := s1
 have s6 : x.ms.length ≤ 1048576 := s6
 obtain ⟨t1, t2, t3, t4, t5, t6⟩ := sy
 rw [y.alen] at t2 t3
 rw [y.ilen] at t4 t5
 simp only [y.aops] at t3
 simp only [y.iins] at t5
 have t1 : y.sg.length ≤ 1048576 := t1
 have t6 : y.ms.length ≤ 1048576 := t6
 refine enter Tryz.S10ok _ _ rfl rfl (by show _ ≤ _; simp only [List.length]; decide) (fun C => ?_); have hp := Hp.nil w0; refine h_run rfl ?_; skip; (first | refine H_box hp ?_ | refine H_alloc hp rfl ?_); intro w b1 hx hp; refine ops_run nopre rfl ?_; skip; (first | refine H_box hp ?_ | refine H_alloc hp rfl ?_); intro w b2 hx hp; refine ops_run nopre rfl ?_; (repeat (refine H_ldB hp rfl rfl ?_))
 refine h_call rfl Tryz.func45 (by kernel_rfl) rfl (eqSignalS_h _ _ _ _ x.sg y.sg _ hp.rd hp.rd (by omega) (by omega)) ?_; rintro _ w ⟨rfl, hx⟩; have hp := hp.ext hx; refine ops_run nopre rfl ?_; skip
 refine h_cond_ndec (fun h1 => ?_) (fun h1 => ?_)
 ·refine h_cond_t rfl rfl ?_; (repeat (refine R_ret ?_))
  exact ⟨by simp [key, h1], hp.x⟩
 ·refine h_cond_f rfl rfl ?_; (repeat (refine H_ldB hp rfl rfl ?_))
  refine h_call rfl Tryz.func46 (by kernel_rfl) rfl (eqAssignS_h _ _ _ _ x.asg y.asg _ hp.mod.asg hp.mod.asg (by omega) (by omega) (fun i hi => by have := s3 i hi; omega) (fun i hi => by have := t3 i hi; omega)) ?_; rintro _ w ⟨rfl, hx⟩; have hp := hp.ext hx; refine ops_run nopre rfl ?_; skip
  refine h_cond_ndec (fun h2 => ?_) (fun h2 => ?_)
  ·refine h_cond_t rfl rfl ?_; (repeat (refine R_ret ?_))
   exact ⟨by simp [key, h2], hp.x⟩
  ·refine h_cond_f rfl rfl ?_; (repeat (refine H_ldB hp rfl rfl ?_))
   refine h_call rfl Tryz.func47 (by kernel_rfl) rfl (eqInstS_h _ _ _ _ x.ins y.ins _ hp.mod.ins hp.mod.ins (by omega) (by omega) (fun i hi => by have := s5 i hi; omega) (fun i hi => by have := t5 i hi; omega)) ?_; rintro _ w ⟨rfl, hx⟩; have hp := hp.ext hx; refine ops_run nopre rfl ?_; skip
   refine h_cond_ndec (fun h3 => ?_) (fun h3 => ?_)
   ·refine h_cond_t rfl rfl ?_; (repeat (refine R_ret ?_))
    exact ⟨by simp [key, h3], hp.x⟩
   ·refine h_cond_f rfl rfl ?_; (repeat (refine H_ldB hp rfl rfl ?_))
    refine h_call rfl Tryz.func48 (by kernel_rfl) rfl (eqMemS_h _ _ _ _ x.ms y.ms _ hp.rd hp.rd (by omega) (by omega)) ?_; rintro _ w ⟨rfl, hx⟩; have hp := hp.ext hx; refine ops_run nopre rfl ?_; skip
    refine h_cond_ndec (fun h4 => ?_) (fun h4 => ?_)
    ·refine h_cond_t rfl rfl ?_; (repeat (refine R_ret ?_))
     exact ⟨by simp [key, h4], hp.x⟩
    ·refine h_cond_f rfl rfl ?_; (repeat (refine R_ret ?_))
     exact ⟨by simp [key, h1, h2, h3, h4], hp.x⟩
def kMod (k : Int) (x : ModA) : Int := kSq (kAs (k + 3 * x.sg.length) x.asg x.asg.length) x.ins x.ins.length + 4 * x.ms.length
theorem markModule_h {w0 w : World} {L : List Res} {x : ModA} (hp : Hp w0 w (rMod x :: L)) (hs : ModS x.n) :
  Ret Tryz.prog 11 [x.v, .int .i64 1] w (fun v w' => ∃ y, (v = .int .i64 (kMod 1 x) ∧ 0 ≤ kMod 1 x) ∧ Hp w0 w' (rMod y :: L)) := by
 obtain ⟨s1, s2, s3, s4, s5, s6⟩ := hs
 rw [x.alen] at s2 s3
 rw [x.ilen] at s4 s5
 simp only [x.aops] at s3
 simp only [x.iins] at s5
 have s1 : x.sg.length ≤ 1048576 := s1
 have s6 : x.ms.length ≤ 1048576 := s6
 have h1 := kAs_le (k := 1 + 3 * x.sg.length) s3 _ (Nat.le_refl _)
 have h2 := kSq_le (k := kAs (1 + 3 * x.sg.length) x.asg x.asg.length) s5 _ (Nat.le_refl _)
 refine enter Tryz.S11ok _ _ rfl rfl (by show _ ≤ _; simp only [List.length]; decide) (fun C => ?_); refine h_run rfl ?_
 (first | refine H_box hp ?_ | refine H_alloc hp rfl ?_); intro w b1 hx hp; refine ops_run nopre rfl ?_; (repeat (refine H_ldB hp rfl rfl ?_))
 have hp := rMod_open hp.f1
 refine h_call rfl Tryz.func49 (by kernel_rfl) rfl (markSignalS_h hp 1 (by omega) (by omega) (by omega)) ?_; rintro _ w ⟨rfl, hp⟩; refine ops_run nopre rfl ?_; (repeat (refine H_ldB hp rfl rfl ?_))
 have hp := hp.f3.f3.f3.f3.f4
 skip
 refine h_call rfl Tryz.func50 (by kernel_rfl) rfl (markAssignS_h (hp.f4.f4.f3.f3.f4) (1 + 3 * x.sg.length) s2 s3 (by omega) (by omega)) ?_; rintro _ w ⟨rfl, hp⟩; refine ops_run nopre rfl ?_; (repeat (refine H_ldB hp rfl rfl ?_))
 have hp := hp.f4.f4.f4.f3.f4
 skip
 refine h_call rfl Tryz.func51 (by kernel_rfl) rfl (markInstS_h (hp.f4.f3.f3.f3.f4) (kAs (1 + 3 * x.sg.length) x.asg x.asg.length) s4 s5 (by omega) (by omega)) ?_; rintro _ w ⟨rfl, hp⟩; refine ops_run nopre rfl ?_; (repeat (refine H_ldB hp rfl rfl ?_))
 have hp := hp.f4.f4.f4.f3.f4
 skip
 refine h_call rfl Tryz.func52 (by kernel_rfl) rfl (markMemS_h (hp.f3.f3.f3.f3.f4) (kSq (kAs (1 + 3 * x.sg.length) x.asg x.asg.length) x.ins x.ins.length) (by omega) (by omega) (by omega)) ?_; rintro _ w ⟨rfl, hp⟩; refine ops_run nopre rfl ?_; (repeat (refine R_ret ?_))
 have hp := hp.f1.f1.f2.f3.f4
 exact ⟨(⟨(List.range x.sg.length).map (fun (i : Nat) => (⟨1 + 3 * (i : Int), 1 + 3 * (i : Int) + 1, 1 + 3 * (i : Int) + 2⟩ : SgL)), x.sa, x.sc, (List.range x.asg.length).map (mAs (1 + 3 * x.sg.length) x.asg), x.aa, x.ac, (List.range x.ins.length).map (mSq (kAs (1 + 3 * x.sg.length) x.asg x.asg.length) x.ins), x.ia, x.ic, (List.range x.ms.length).map (fun (i : Nat) => (⟨kSq (kAs (1 + 3 * x.sg.length) x.asg x.asg.length) x.ins x.ins.length + 4 * (i : Int), kSq (kAs (1 + 3 * x.sg.length) x.asg x.asg.length) x.ins x.ins.length + 4 * (i : Int) + 1, kSq (kAs (1 + 3 * x.sg.length) x.asg x.asg.length) x.ins x.ins.length + 4 * (i : Int) + 2, kSq (kAs (1 + 3 * x.sg.length) x.asg x.asg.length) x.ins x.ins.length + 4 * (i : Int) + 3⟩ : MmL)), x.ma, x.mc⟩ : ModA), ⟨rfl, by unfold kMod; omega⟩, (rMod_shut (x := (⟨(List.range x.sg.length).map (fun (i : Nat) => (⟨1 + 3 * (i : Int), 1 + 3 * (i : Int) + 1, 1 + 3 * (i : Int) + 2⟩ : SgL)), x.sa, x.sc, (List.range x.asg.length).map (mAs (1 + 3 * x.sg.length) x.asg), x.aa, x.ac, (List.range x.ins.length).map (mSq (kAs (1 + 3 * x.sg.length) x.asg x.asg.length) x.ins), x.ia, x.ic, (List.range x.ms.length).map (fun (i : Nat) => (⟨kSq (kAs (1 + 3 * x.sg.length) x.asg x.asg.length) x.ins x.ins.length + 4 * (i : Int), kSq (kAs (1 + 3 * x.sg.length) x.asg x.asg.length) x.ins x.ins.length + 4 * (i : Int) + 1, kSq (kAs (1 + 3 * x.sg.length) x.asg x.asg.length) x.ins x.ins.length + 4 * (i : Int) + 2, kSq (kAs (1 + 3 * x.sg.length) x.asg x.asg.length) x.ins x.ins.length + 4 * (i : Int) + 3⟩ : MmL)), x.ma, x.mc⟩ : ModA)) hp).f1.drop⟩
end Go.Proofs
