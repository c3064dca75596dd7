/- Texts that belong together; each under its stated conditions. -/
import Derived.Test.YtbjgekllkfnjnaaLblPr2
import Derived.Test.YtbjgekllkfnjnaaQueue2
import Derived.Test.YtbjgekllkfnjnaaHashed
set_option linter.all false
section
namespace Go.Xw
def kidL (n : NetL) (k : Nat) : List Int :=
 if k < fst_ n then [] else if (n.ands.getD (k - fst_ n) default).1 / 2 = (n.ands.getD (k - fst_ n) default).2 / 2 then [(n.ands.getD (k - fst_ n) default).1 / 2] else [(n.ands.getD (k - fst_ n) default).1 / 2, (n.ands.getD (k - fst_ n) default).2 / 2]
end Go.Xw
namespace Go.Proofs
open Go.Xw
set_option maxRecDepth 100000
set_option maxHeartbeats 2000000
attribute [local irreducible] Holds elemAddr
theorem isLeaf_h (x : NetA) (k : Nat) (w0 : World) (hb : NetB x) (hk : k ≤ 1000000) : Ret Try.prog 141 [x.v, .int .i64 (k : Int)] w0 (fun v w => v = .bool (decide (0 < k ∧ (k : Int) < firstAndL x.n)) ∧ Ext w0 w) := by
 refine enter Try.S141ok _ _ rfl rfl (by show _ ≤ _; simp only [List.length]; decide) (fun C => ?_); have hp := Hp.nil w0; refine h_run rfl ?_; skip; (first | refine H_box hp ?_ | refine H_alloc hp rfl ?_); intro w b2 hx hp; refine ops_run nopre rfl ?_; skip
 refine h_guard_by (fun h1 => ?_) (fun h1 => ?_); all_goals (rw [h1]; (first | replace h1 := of_decide_eq_true h1 | replace h1 := of_decide_eq_false h1 | skip); (repeat (first | (refine gGuard ?_; first | refine h_guard_y rfl nopre rfl ?_ | refine h_guard_n rfl nopre rfl ?_) | (refine gLoad ?_; refine H_ldB hp rfl rfl ?_) | refine R_ret ?_)))
 ·refine h_call rfl Try.func91 (by kernel_rfl) rfl (firstAnd_h x _ hb) ?_; rintro _ w ⟨rfl, hx⟩; have hp := hp.ext hx; refine ops_run nopre rfl ?_; (repeat (first | (refine gGuard ?_; refine h_guard_y rfl nopre rfl ?_) | refine R_ret ?_))
  have e : decide (0 < k ∧ (k : Int) < firstAndL x.n) = decide ((k : Int) < firstAndL x.n) := by
   by_cases h : (k : Int) < firstAndL x.n
   ·simp [h]; omega
   ·simp [h]
  rw [e]
  exact ⟨rfl, hp.x⟩
 ·rw [decide_eq_false (by omega)]
  exact ⟨rfl, hp.x⟩
theorem kidsOf_h (x : NetA) (k : Nat) (w0 : World) (hX : NetR w0 x) (hok : NetOkP x.n) (hk : k < nds x.n) :
  Ret Try.prog 92 [x.v, .int .i64 (k : Int)] w0 (fun v w => ∃ b c, v = .slice b (kidL x.n k).length c ∧ Hp w0 w [rO 3 1 eI b c (kidL x.n k)]) := by
 have hn := hok.nums
 obtain ⟨n1, n2, n3, n4, n5, n6⟩ := hn
 have hnd := hok.nodes
 have hsz := hok.size'
 have hal : x.n.ands.length = x.ands.length := rfl
 refine enter Try.S92ok _ _ rfl rfl (by show _ ≤ _; simp only [List.length]; decide) (fun C => ?_); have hp := Hp.nil w0; refine h_run rfl ?_; skip; (first | refine H_box hp ?_ | refine H_alloc hp rfl ?_); intro w b2 hx hp; refine ops_run nopre rfl ?_; (repeat (refine H_ldB hp rfl rfl ?_))
 refine h_call rfl Try.func46 (by kernel_rfl) rfl (isAnd_h x (k : Int) _ hok.b) ?_; rintro _ w ⟨rfl, hx⟩; have hp := hp.ext hx; refine ops_run nopre rfl ?_; skip
 refine h_cond_ndec (fun h1 => ?_) (fun h1 => ?_)
 ·refine h_cond_t rfl rfl ?_; (repeat (refine R_ret ?_))
  have e : kidL x.n k = [] := if_pos (by omega)
  rw [e]
  exact ⟨none, 0, rfl, (Hp.of_ext hp.x).ownN (Ext.refl _) (Own.nil _ _ _ _ _)⟩
 ·have hi : k - fst_ x.n < x.ands.length := by omega
  have ez : ((k : Int) - firstAndL x.n).toNat = k - fst_ x.n := by omega
  obtain ⟨q1, q2, q3, q4⟩ := hok.and_ hi
  have e : kidL x.n k = if (x.ands.getD (k - fst_ x.n) default).1 / 2 = (x.ands.getD (k - fst_ x.n) default).2 / 2 then [(x.ands.getD (k - fst_ x.n) default).1 / 2] else [(x.ands.getD (k - fst_ x.n) default).1 / 2, (x.ands.getD (k - fst_ x.n) default).2 / 2] := if_neg (by omega)
  refine h_cond_f rfl rfl ?_; skip
  rw [← ez] at q1 q2 q3 q4 e
  refine N_draw hp (by kernel_rfl) (by kernel_rfl) rfl rfl ?_; (repeat (refine N_ldB rfl rfl rfl ?_))
  refine N_call Try.func91 (by kernel_rfl) rfl (fun F w hp => ?_); refine Ret.mono (firstAnd_h x _ hok.b) ?_; rintro _ w ⟨rfl, hx⟩; have hp := hp.ext hx; refine ⟨fun _ => hp.sub (by (repeat (first | exact List.sublist_append_left _ _ | apply List.Sublist.cons))), _, hp, ?_⟩; clear hp; refine N_ops rfl rfl ?_; (repeat (refine N_ldE rfl (by omega) (by omega) rfl rfl rfl ?_))
  (first | refine N_box ?_ | refine N_alloc rfl ?_); intro b7; refine N_ops rfl rfl ?_; (repeat (refine N_stBN rfl rfl rfl rfl (by kernel_rfl) ?_; refine N_ops rfl rfl ?_))
  refine N_end ?_; intro w hp C; refine h_run rfl ?_; (repeat (refine H_ldB hp rfl rfl ?_))
  refine h_cond_dec (fun ha => ?_) (fun ha => ?_)
  ·rw [if_pos ha] at e
   refine h_cond_t rfl rfl ?_; (repeat (first | (refine gLoad ?_; refine H_ldB hp rfl rfl ?_) | (refine gBuild ?_; refine U_litI hp rfl rfl rfl rfl rfl rfl rfl rfl rfl rfl ?_; intro w _ hx hp; refine ops_run nopre rfl ?_) | refine R_ret ?_))
   rw [e]
   exact ⟨_, _, rfl, hp.sub (by simp)⟩
  ·rw [if_neg ha] at e
   refine h_cond_f rfl rfl ?_; (repeat (first | (refine gLoad ?_; refine H_ldB hp rfl rfl ?_) | (refine gBuild ?_; refine U_litI hp rfl rfl rfl rfl rfl rfl rfl rfl rfl rfl ?_; intro w _ hx hp; refine ops_run nopre rfl ?_) | refine R_ret ?_))
   rw [e]
   exact ⟨_, _, rfl, hp.sub (by simp)⟩
end Go.Proofs
end
section
namespace Go.Xw
def eS2 (x : Nat × Bool) : List Value := [.int .i64 (x.1 : Int), .bool x.2]
instance eS2_ok : EncOk eS2 2 := ⟨fun _ => rfl, fun x u hu => by simp [eS2] at hu; rcases hu with rfl | rfl <;> rfl⟩
end Go.Xw
namespace Go.Proofs
open Go.Xw
set_option maxRecDepth 100000
set_option maxHeartbeats 2000000
attribute [local irreducible] Holds elemAddr
theorem visit_h (x y : Nat × Bool) (hdx : dSt x) (bf bt bm : Nat) (FR : List ((Nat × Bool) × (Nat × Bool))) (a : Option Addr) (c : Nat) (X : List (Nat × Bool)) (ha : a ≠ none) (hXl : X.length ≤ 1000000) (w0 w1 : World) (L : List Res)
  (hp1 : Hp w0 w1 (rMF eSt eSt dSt bm FR :: rQ 108 2 eS2 a c X :: rB bf 103 [.map (some bm)] :: rB bt 140 [.slice a X.length c] :: L)) :
  Ret Try.prog 140 [eSt x, eSt y, .pointer (some ⟨bf, 0, none⟩), .pointer (some ⟨bt, 0, none⟩)] w1 (fun v w' => ∃ FR' X' a' c', v = .tuple ⟨[]⟩ ∧ a' ≠ none ∧ ((mget FR x ≠ none ∧ FR' = FR ∧ X' = X) ∨ (mget FR x = none ∧ FR' = FR ++ [(x, y)] ∧ X' = X ++ [x])) ∧
   Hp w0 w' (rMF eSt eSt dSt bm FR' :: rQ 108 2 eS2 a' c' X' :: rB bf 103 [.map (some bm)] :: rB bt 140 [.slice a' X'.length c'] :: L)) := by
 refine enter Try.S140ok _ _ rfl rfl (by show _ ≤ _; simp only [List.length]; decide) (fun C => ?_); have hp := hp1; refine h_run rfl ?_
 (first | refine H_box hp ?_ | refine H_alloc hp rfl ?_); intro w b4 hx hp; refine ops_run nopre rfl ?_; skip
 (first | refine H_box hp ?_ | refine H_alloc hp rfl ?_); intro w b5 hx hp; refine ops_run nopre rfl ?_; (repeat (refine H_ldB hp rfl rfl ?_))
 refine H_look (F := FR) hp step_key hdx rfl rfl rfl rfl rfl rfl rfl rfl ?_
 refine ops_run nopre rfl ?_; skip
 cases hg : mget FR x with
 | some u =>
  (first | refine H_box hp ?_ | refine H_alloc hp rfl ?_); intro w b6 hx hp; refine ops_run nopre rfl ?_; (repeat (refine U_stBN hp rfl rfl rfl rfl ?_; intro w hp; refine ops_run nopre rfl ?_))
  refine h_cond_f rfl rfl ?_; (repeat (refine R_ret ?_))
  exact ⟨FR, X, a, c, rfl, ha, .inl ⟨by simp, rfl, rfl⟩, hp.drop.drop.drop⟩
 | none =>
  (first | refine H_box hp ?_ | refine H_alloc hp rfl ?_); intro w b6 hx hp; refine ops_run nopre rfl ?_; (repeat (refine U_stBN hp rfl rfl rfl rfl ?_; intro w hp; refine ops_run nopre rfl ?_))
  refine h_cond_t rfl rfl ?_; (repeat (refine H_ldB hp rfl rfl ?_))
  have hp := hp.f2.f2.f2.f3
  refine H_upd hp step_key hdx hg y rfl rfl rfl rfl rfl rfl rfl ?_
  intro w hp
  refine ops_run nopre rfl ?_; (repeat (refine H_ldB hp rfl rfl ?_))
  refine H_lit hp eS2 [x] rfl rfl rfl rfl (s := 2) rfl (by decide) (by infer_instance) (by rfl) (by rfl) (by rfl) (by decide) ?_; intro w b9 hx hp; refine ops_run nopre rfl ?_; skip
  have hp := hp.f4.f4.f4.f4.f4.f5
  refine H_qapp (y := x) hp ha rfl rfl rfl rfl rfl rfl (by decide) rfl (by omega) rfl rfl ?_
  intro a' c' w hp ha'
  refine ops_run nopre rfl ?_; (repeat (first | (refine gStore ?_; refine U_stB hp rfl rfl rfl rfl ?_; intro w hp; refine ops_run nopre rfl ?_) | refine R_ret ?_))
  have e : X.length + 1 = (X ++ [x]).length := by simp
  rw [e] at hp
  exact ⟨FR ++ [(x, y)], X ++ [x], a', c', rfl, ha', .inr ⟨rfl, rfl, rfl⟩, ((hp.f5.f5.f5.f4).drop.drop.drop.drop).f1⟩
end Go.Proofs
end
