/- The contracts of the functions on lists of numbers; each under its stated conditions. -/
import Derived.Test.YtfcafmbcmdeomaaGraph1
import Derived.Test.YtfcafmbcmdeomaaMergeLaw
import Derived.Test.YtfcafmbcmdeomaaFam
set_option linter.all false
namespace Go.Xw
theorem own_take {w0 : World} {L : List Res} {a : Option Addr} {e : TypeId} {α : Type} [Inhabited α] {enc : α → List Value} {s c j : Nat} {X : List α} [he : EncOk enc s] (hj : j ≤ X.length) : RdH w0 (rO e s enc a c X :: L) (subA a c s 0) s enc (X.take j) :=
  ⟨fun w hp => Sl.takeL (hp.sl he) hj hp.own.cap⟩
theorem own_drop {w0 : World} {L : List Res} {a : Option Addr} {e : TypeId} {α : Type} [Inhabited α] {enc : α → List Value} {s c j : Nat} {X : List α} [he : EncOk enc s] (hj : j ≤ X.length) : RdH w0 (rO e s enc a c X :: L) (subA a c s j) s enc (X.drop j) :=
  ⟨fun w hp => Sl.dropL (hp.sl he) hj hp.own.cap⟩
end Go.Xw
namespace Go.Proofs
open Go.Xw
set_option maxRecDepth 100000
set_option maxHeartbeats 1000000
attribute [local irreducible] Holds elemAddr
theorem insertInt_h (a : Option Addr) (c : Nat) (xs : List Int) (x : Int) (hl : xs.length ≤ 100000000) {w0 w : World} {L : List Res} (hp : Hp w0 w (rO 3 1 eI a c xs :: L)) :
    Ret Try.prog 155 [.slice a xs.length c, .int .i64 x] w (fun v w' => ∃ a' c', v = .slice a' (insL xs x).length c' ∧ Hp w0 w' (rO 3 1 eI a' c' (insL xs x) :: L)) := by
  refine enter Try.S155ok _ _ rfl rfl (by show _ ≤ _; simp only [List.length]; decide) (fun C => ?_); refine h_run rfl ?_; skip
  refine h_loop [0, 1, 5] (fun i : Nat => [(0, .slice a xs.length c), (1, .int .i64 x), (5, .int .i64 (i : Int))])
    (fun i w' => i ≤ xs.length ∧ (∀ j, j < i → xs.getD j default < x) ∧ Hp w0 w' (rO 3 1 eI a c xs :: L)) (fun i => xs.length - i) 0 rfl ⟨by omega, fun j hj => by omega, hp⟩ ?_
  rintro i w1 ⟨hi, hall, hp⟩ IH C
  have hcap := hp.own.cap
  have hT : RdH w0 (rO 3 1 eI a c xs :: L) (subA a c Try.ti3.size 0) 1 eI (xs.take i) := own_take (s := 1) hi
  have hD : RdH w0 (rO 3 1 eI a c xs :: L) (subA a c Try.ti3.size ((i : Int)).toNat) 1 eI (xs.drop i) := own_drop (s := 1) hi
  have hTl : (xs.take i).length = i := by rw [List.length_take]; omega
  have hDl : (xs.drop i).length = xs.length - i := List.length_drop
  refine h_run rfl ?_; skip
  refine h_guard_by (fun hlt => ?_) (fun hlt => ?_); all_goals (rw [hlt]; (first | replace hlt := of_decide_eq_true hlt | replace hlt := of_decide_eq_false hlt | skip); (repeat (first | (refine gGuard ?_; first | refine h_guard_y rfl nopre rfl ?_ | refine h_guard_n rfl nopre rfl ?_) | (refine gLoad ?_; refine H_ldEN hp rfl (by omega) rfl rfl ?_))))
  · have hlt' : i < xs.length := by omega
    refine h_cond_dec (fun hless => ?_) (fun hless => ?_)
    · refine h_cond_t rfl rfl ?_; skip
      refine IH (i + 1) _ _ _ (by omega) rfl ⟨by omega, fun j hj => ?_, hp⟩
      by_cases h : j < i
      · exact hall j h
      · obtain rfl : j = i := by omega
        exact hless
    · refine h_cond_f rfl rfl ?_; skip
      have hat := insL_at hi hall (fun h => hless h.2)
      refine h_guard_by (fun hlt2 => ?_) (fun hlt2 => ?_); all_goals (rw [hlt2]; (first | replace hlt2 := of_decide_eq_true hlt2 | replace hlt2 := of_decide_eq_false hlt2 | skip); (repeat (first | (refine gGuard ?_; first | refine h_guard_y rfl nopre rfl ?_ | refine h_guard_n rfl nopre rfl ?_) | (refine gLoad ?_; refine H_ldEN hp rfl (by omega) rfl rfl ?_))))
      · refine h_cond_dec (fun heq => ?_) (fun heq => ?_)
        · refine h_cond_t rfl rfl ?_; (repeat (refine R_ret ?_))
          rw [if_pos ⟨hlt', heq⟩] at hat
          rw [hat]
          exact ⟨a, c, rfl, hp⟩
        · refine h_cond_f rfl rfl ?_; (repeat (refine U_litI hp rfl rfl rfl rfl rfl rfl rfl rfl rfl rfl ?_; intro w _ hx hp; refine ops_run nopre rfl ?_))
          rw [if_neg (fun h => heq h.2)] at hat
          refine U_append (Y := xs.take i) hp rfl hTl rfl rfl rfl rfl rfl (by decide) rfl (by simp only [List.length_nil]; omega) rfl rfl ?_; intro a2 c2 w hp hnil; refine ops_run nopre rfl ?_; (repeat (refine U_litI hp rfl rfl rfl rfl rfl rfl rfl rfl rfl rfl ?_; intro w _ hx hp; refine ops_run nopre rfl ?_))
          refine U_append hp rfl rfl rfl rfl rfl rfl rfl (by decide) rfl (by first | omega | (simp only [List.length_append, List.length_cons, List.length_nil, List.length_take, List.length_drop, List.length_set, List.length_replicate, List.length_map]; omega)) rfl rfl ?_; intro a3 c3 w hp hnil; refine ops_run nopre rfl ?_; skip
          refine U_append (Y := xs.drop i) hp rfl hDl rfl rfl rfl rfl rfl (by decide) rfl (by simp only [List.length_append, List.length_cons, List.length_nil]; omega) rfl rfl ?_; intro a4 c4 w hp hnil; refine ops_run nopre rfl ?_; (repeat (refine R_ret ?_))
          have e5 : [] ++ xs.take i ++ [x] ++ xs.drop i = insL xs x := by rw [hat]; simp
          rw [e5] at hp ⊢
          exact ⟨a4, c4, rfl, hp.f2.drop.f1.f1.drop⟩
      · exact absurd hlt hlt2
  · have hie : i = xs.length := by omega
    have hat := insL_at hi hall (fun h => by omega)
    rw [if_neg (by omega)] at hat
    refine h_cond_f rfl rfl ?_; skip
    refine h_guard_by (fun hlt2 => ?_) (fun hlt2 => ?_); all_goals (rw [hlt2]; (first | replace hlt2 := of_decide_eq_true hlt2 | replace hlt2 := of_decide_eq_false hlt2 | skip); (repeat (first | (refine gGuard ?_; first | refine h_guard_y rfl nopre rfl ?_ | refine h_guard_n rfl nopre rfl ?_) | (refine gLoad ?_; refine H_ldEN hp rfl (by omega) rfl rfl ?_))))
    · exact absurd hlt2 hlt
    · refine h_cond_f rfl rfl ?_; (repeat (refine U_litI hp rfl rfl rfl rfl rfl rfl rfl rfl rfl rfl ?_; intro w _ hx hp; refine ops_run nopre rfl ?_))
      refine U_append (Y := xs.take i) hp rfl hTl rfl rfl rfl rfl rfl (by decide) rfl (by simp only [List.length_nil]; omega) rfl rfl ?_; intro a2 c2 w hp hnil; refine ops_run nopre rfl ?_; (repeat (refine U_litI hp rfl rfl rfl rfl rfl rfl rfl rfl rfl rfl ?_; intro w _ hx hp; refine ops_run nopre rfl ?_))
      refine U_append hp rfl rfl rfl rfl rfl rfl rfl (by decide) rfl (by first | omega | (simp only [List.length_append, List.length_cons, List.length_nil, List.length_take, List.length_drop, List.length_set, List.length_replicate, List.length_map]; omega)) rfl rfl ?_; intro a3 c3 w hp hnil; refine ops_run nopre rfl ?_; skip
      refine U_append (Y := xs.drop i) hp rfl hDl rfl rfl rfl rfl rfl (by decide) rfl (by simp only [List.length_append, List.length_cons, List.length_nil]; omega) rfl rfl ?_; intro a4 c4 w hp hnil; refine ops_run nopre rfl ?_; (repeat (refine R_ret ?_))
      have e5 : [] ++ xs.take i ++ [x] ++ xs.drop i = insL xs x := by rw [hat]; simp
      rw [e5] at hp ⊢
      exact ⟨a4, c4, rfl, hp.f2.drop.f1.f1.drop⟩
theorem insertInt_F (a : Option Addr) (c : Nat) (xs : List Int) (x : Int) (hl : xs.length ≤ 100000000) {w0 w : World} {L F : List Res} (hp : Hp w0 w ((rO 3 1 eI a c xs :: L) ++ F)) :
    Ret Try.prog 155 [.slice a xs.length c, .int .i64 x] w (fun v w' => ∃ a' c', v = .slice a' (insL xs x).length c' ∧ Hp w0 w' ((rO 3 1 eI a' c' (insL xs x) :: L) ++ F)) :=
  insertInt_h a c xs x hl (L := L ++ F) hp
end Go.Proofs
