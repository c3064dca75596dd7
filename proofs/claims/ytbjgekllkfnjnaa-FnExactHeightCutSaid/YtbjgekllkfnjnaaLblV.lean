/- The contract of the program's visit of a side; under its stated conditions. -/
import Derived.Test.YtbjgekllkfnjnaaLblI
set_option linter.all false
namespace Go.Xw
def eS2 (x : Nat × Bool) : List Value := [.int .i64 (x.1 : Int), .bool x.2]
instance eS2_ok : EncOk eS2 2 := ⟨fun _ => rfl, fun x u hu => by simp [eS2] at hu; rcases hu with rfl | rfl <;> rfl⟩
end Go.Xw
namespace Go.Proofs
open Go.Xw
set_option maxRecDepth 100000
set_option maxHeartbeats 2000000
attribute [local irreducible] Holds elemAddr
theorem visit_h (x y : Nat × Bool) (hdx : dSt x) (bf bt bm : Nat) (FR : List ((Nat × Bool) × (Nat × Bool))) (a : Option Addr) (c : Nat) (X : List (Nat × Bool)) (ha : a ≠ none) (hXl : X.length ≤ 1000000) (w0 w1 : World) (L : List Res)
  (hp1 : Hp w0 w1 (rMF eSt eSt dSt bm FR :: rQ 108 2 eS2 a c X :: rB bf 103 [.map (some bm)] :: rB bt 140 [.slice a X.length c] :: L)) :
  Ret Try.prog 140 [eSt x, eSt y, .pointer (some ⟨bf, 0, none⟩), .pointer (some ⟨bt, 0, none⟩)] w1 (fun v w' => ∃ FR' X' a' c', v = .tuple ⟨[]⟩ ∧ a' ≠ none ∧ ((mget FR x ≠ none ∧ FR' = FR ∧ X' = X) ∨ (mget FR x = none ∧ FR' = FR ++ [(x, y)] ∧ X' = X ++ [x])) ∧
   Hp w0 w' (rMF eSt eSt dSt bm FR' :: rQ 108 2 eS2 a' c' X' :: rB bf 103 [.map (some bm)] :: rB bt 140 [.slice a' X'.length c'] :: L)) := by
 refine enter Try.S140ok _ _ rfl rfl (by show _ ≤ _; simp only [List.length]; decide) (fun C => ?_); have hp := hp1; refine h_run rfl ?_
 (first | refine H_box hp ?_ | refine H_alloc hp rfl ?_); intro w b4 hx hp; refine ops_run nopre rfl ?_; skip
 (first | refine H_box hp ?_ | refine H_alloc hp rfl ?_); intro w b5 hx hp; refine ops_run nopre rfl ?_; (repeat (refine H_ldB hp rfl rfl ?_))
 refine H_look (F := FR) hp step_key hdx rfl rfl rfl rfl rfl rfl rfl rfl ?_
 refine ops_run nopre rfl ?_; skip
 cases hg : mget FR x with
 | some u =>
  (first | refine H_box hp ?_ | refine H_alloc hp rfl ?_); intro w b6 hx hp; refine ops_run nopre rfl ?_; (repeat (refine U_stBN hp rfl rfl rfl rfl ?_; intro w hp; refine ops_run nopre rfl ?_))
  refine h_cond_f rfl rfl ?_; (repeat (refine R_ret ?_))
  exact ⟨FR, X, a, c, rfl, ha, .inl ⟨by simp, rfl, rfl⟩, hp.drop.drop.drop⟩
 | none =>
  (first | refine H_box hp ?_ | refine H_alloc hp rfl ?_); intro w b6 hx hp; refine ops_run nopre rfl ?_; (repeat (refine U_stBN hp rfl rfl rfl rfl ?_; intro w hp; refine ops_run nopre rfl ?_))
  refine h_cond_t rfl rfl ?_; (repeat (refine H_ldB hp rfl rfl ?_))
  have hp := hp.f2.f2.f2.f3
  refine H_upd hp step_key hdx hg y rfl rfl rfl rfl rfl rfl rfl ?_
  intro w hp
  refine ops_run nopre rfl ?_; (repeat (refine H_ldB hp rfl rfl ?_))
  refine H_lit hp eS2 [x] rfl rfl rfl rfl (s := 2) rfl (by decide) (by infer_instance) (by rfl) (by rfl) (by rfl) (by decide) ?_; intro w b9 hx hp; refine ops_run nopre rfl ?_; skip
  have hp := hp.f4.f4.f4.f4.f4.f5
  refine H_qapp (y := x) hp ha rfl rfl rfl rfl rfl rfl (by decide) rfl (by omega) rfl rfl ?_
  intro a' c' w hp ha'
  refine ops_run nopre rfl ?_; (repeat (first | (refine gStore ?_; refine U_stB hp rfl rfl rfl rfl ?_; intro w hp; refine ops_run nopre rfl ?_) | refine R_ret ?_))
  have e : X.length + 1 = (X ++ [x]).length := by simp
  rw [e] at hp
  exact ⟨FR ++ [(x, y)], X ++ [x], a', c', rfl, ha', .inr ⟨rfl, rfl, rfl⟩, ((hp.f5.f5.f5.f4).drop.drop.drop.drop).f1⟩
end Go.Proofs
