/- The contracts of the program's functions that give the literals below a conjunction; each under its stated conditions. -/
import Derived.Test.YtfcafmbcmdeomaaConj
set_option linter.all false
namespace Go.Proofs
open Go.Xw
set_option maxRecDepth 100000
set_option maxHeartbeats 1000000
attribute [local irreducible] Holds elemAddr

theorem AL_iff {x : NetA} (hok : NetOkP x.n) {l : Int} (h0 : 0 ≤ l) : AL x.n l ↔ l % 2 = 0 ∧ firstAndL x.n ≤ l / 2 ∧ l / 2 < nodesL x.n := by
  have hn := hok.nums
  have f2 := hn.f2
  have hnd := hok.nodes
  have hal : x.n.ands.length = x.ands.length := rfl
  constructor
  · rintro ⟨i, hi, rfl⟩; omega
  · rintro ⟨h1, h2, h3⟩
    exact ⟨(l / 2).toNat - fst_ x.n, by omega, by omega⟩
theorem conjuncts_h (x : NetA) (w0 : World) (hX : NetR w0 x) (hok : NetOkP x.n) (i : Nat) (hi : i < x.ands.length) :
    Ret Try.prog 88 [x.v, .int .i64 ((fst_ x.n + i : Nat) : Int)] w0 (fun v w => ∃ b c, v = .slice b (conjL x.n (fst_ x.n + i)).length c ∧ Hp w0 w [rO 3 1 eI b c (conjL x.n (fst_ x.n + i))]) := by
  have hn := hok.nums
  have n1 := hn.n1
  have n2 := hn.n2
  have f2 := hn.f2
  have hnd := hok.nodes
  have hal : x.n.ands.length = x.ands.length := rfl
  have hz : (((fst_ x.n + i : Nat) : Int) - firstAndL x.n).toNat = i := by omega
  have Q := hok.and_ hi
  refine enter Try.S88ok _ _ rfl rfl (by show _ ≤ _; simp only [List.length]; decide) (fun C => ?_); have hp := Hp.nil w0; refine h_run rfl ?_; skip; (first | (refine H_box hp ?_; intro w b2 hx hp) | (refine H_alloc hp rfl ?_; intro w b2 hx hp)); refine ops_run nopre rfl ?_; skip
  refine N_draw hp (by kernel_rfl) (by kernel_rfl) rfl rfl ?_; (repeat (refine N_ldB rfl rfl rfl ?_))
  refine N_call Try.func85 (by kernel_rfl) rfl (fun F w hp => ?_); refine Ret.mono (firstAnd_h x _ hok.b) ?_; rintro _ w ⟨rfl, hx⟩; have hp := hp.ext hx; refine ⟨fun _ => hp.sub (by (repeat (first | exact List.sublist_append_left _ _ | apply List.Sublist.cons))), _, hp, ?_⟩; clear hp; refine N_ops rfl rfl ?_; (repeat (refine N_ldE rfl (by omega) (by omega) rfl rfl rfl ?_))
  (first | refine N_box ?_ | refine N_alloc rfl ?_); intro b5; refine N_ops rfl rfl ?_; (repeat (refine N_stBN rfl rfl rfl rfl (by kernel_rfl) ?_; refine N_ops rfl rfl ?_))
  refine N_end ?_; intro w hp C; refine h_run rfl ?_; (repeat (first | (refine gLoad ?_; refine H_ldB hp rfl rfl ?_) | (refine gBuild ?_; refine U_litI hp rfl rfl rfl rfl rfl rfl rfl rfl rfl rfl ?_; intro w _ hx hp; refine ops_run nopre rfl ?_)))
  rw [hz] at hp ⊢
  refine h_call rfl Try.func155 (by kernel_rfl) rfl (insertInt_h _ _ [(x.ands.getD i default).1] (x.ands.getD i default).2 (by simp) hp) ?_; rintro _ w ⟨sa0, sc0, rfl, hp⟩; refine ops_run nopre rfl ?_; skip
  refine h_loop4 [2, 6] (fun (S : List Int) (_ : Nat) (sa : Option Addr) (sc : Nat) => [(2, .pointer (some ⟨b2, 0, none⟩)), (6, .slice sa S.length sc)])
    (fun S t sa sc w' => CSet x.n (fst_ x.n + i) S t ∧ Hp w0 w' [rO 3 1 eI sa sc S, rB b2 32 x.cs]) (fun _ t _ _ => t) (insL [(x.ands.getD i default).1] (x.ands.getD i default).2) (fst_ x.n + i) sa0 sc0 rfl ⟨.start hok hi, hp.f1.drop⟩ ?_
  clear hp
  rintro S t sa sc w1 ⟨hC, hp⟩ IH C
  have hlen := hC.len
  refine h_run rfl ?_; skip
  refine h_loop2 [2, 6, 7, 26, 27, 28] (fun (q : Nat) (at_ : Int) => [(2, .pointer (some ⟨b2, 0, none⟩)), (6, .slice sa S.length sc), (7, .int .i64 at_), (26, .slice sa S.length sc), (27, .int .i64 S.length), (28, .int .i64 (q : Int))])
    (fun q at_ w' => q ≤ S.length ∧ ((at_ = -1 ∧ ∀ j, j < q → ¬ AL x.n (S.getD j default)) ∨ ∃ j : Nat, at_ = j ∧ j < q ∧ AL x.n (S.getD j default) ∧ ∀ p, j < p → p < q → ¬ AL x.n (S.getD p default)) ∧ Hp w0 w' [rO 3 1 eI sa sc S, rB b2 32 x.cs]) (fun q _ => S.length - q) 0 (-1) rfl ⟨by omega, .inl ⟨rfl, fun j hj => by omega⟩, hp⟩ ?_
  rintro q at_ w2 ⟨hq, hat, hp⟩ IH2 C
  refine h_run rfl ?_; skip
  refine h_cond_dec (fun hlt => ?_) (fun hlt => ?_)
  · have hlt' : q < S.length := by omega
    have hrg := hC.rng _ (getD_mem hlt')
    have hAL := AL_iff hok hrg.1
    refine h_cond_t rfl rfl ?_; (repeat (refine H_ldEN hp rfl (by omega) rfl rfl ?_))
    refine h_guard_by (fun h1 => ?_) (fun h1 => ?_); all_goals (rw [h1]; (first | replace h1 := of_decide_eq_true h1 | replace h1 := of_decide_eq_false h1 | skip); (repeat (first | (refine gGuard ?_; first | refine h_guard_y rfl nopre rfl ?_ | refine h_guard_n rfl nopre rfl ?_) | (refine gLoad ?_; refine H_ldB hp rfl rfl ?_))))
    · refine h_call rfl Try.func69 (by kernel_rfl) rfl (isAnd_h x (S.getD q default / 2) _ hok.b) ?_; rintro _ w ⟨rfl, hx⟩; have hp := hp.ext hx; refine ops_run nopre rfl ?_; skip
      refine h_cond_dec (fun h2 => ?_) (fun h2 => ?_)
      · refine h_cond_t rfl rfl ?_; skip
        refine IH2 (q + 1) (q : Int) _ _ _ (by omega) rfl ⟨by omega, .inr ⟨q, rfl, by omega, hAL.2 ⟨h1, h2⟩, fun p h3 h4 => by omega⟩, hp⟩
      · refine h_cond_f rfl rfl ?_; skip
        refine IH2 (q + 1) at_ _ _ _ (by omega) rfl ⟨by omega, ?_, hp⟩
        have hno : ¬ AL x.n (S.getD q default) := fun h => h2 (hAL.1 h).2
        rcases hat with ⟨h3, h4⟩ | ⟨j, h3, h4, h5, h6⟩
        · refine .inl ⟨h3, fun j hj => ?_⟩
          by_cases hj2 : j < q
          · exact h4 j hj2
          · obtain rfl : j = q := by omega
            exact hno
        · refine .inr ⟨j, h3, by omega, h5, fun p hp1 hp2 => ?_⟩
          by_cases hj2 : p < q
          · exact h6 p hp1 hj2
          · obtain rfl : p = q := by omega
            exact hno
    · refine h_cond_f rfl rfl ?_; skip
      refine IH2 (q + 1) at_ _ _ _ (by omega) rfl ⟨by omega, ?_, hp⟩
      have hno : ¬ AL x.n (S.getD q default) := fun h => h1 (hAL.1 h).1
      rcases hat with ⟨h3, h4⟩ | ⟨j, h3, h4, h5, h6⟩
      · refine .inl ⟨h3, fun j hj => ?_⟩
        by_cases hj2 : j < q
        · exact h4 j hj2
        · obtain rfl : j = q := by omega
          exact hno
      · refine .inr ⟨j, h3, by omega, h5, fun p hp1 hp2 => ?_⟩
        by_cases hj2 : p < q
        · exact h6 p hp1 hj2
        · obtain rfl : p = q := by omega
          exact hno
  · obtain rfl : q = S.length := by omega
    clear IH2
    refine h_cond_f rfl rfl ?_; skip
    rcases hat with ⟨rfl, h4⟩ | ⟨j, rfl, h4, ⟨i', h5, h6⟩, h7⟩
    · refine h_cond_t rfl rfl ?_; (repeat (refine R_ret ?_))
      have e := hC.done ((mem_iff_getD (p := fun l => ¬ AL x.n l)).2 h4)
      subst e
      exact ⟨sa, sc, rfl, hp.sub (by simp)⟩
    · refine h_cond_f (decide_eq_false (by omega)) rfl ?_; skip
      obtain ⟨hD, hlt2⟩ := hC.down hok h5 h4 h6 (fun p h1 h2 => h7 p h1 h2)
      have hcap := hp.own.cap
      have Q' := hok.and_ (show i' < x.ands.length from h5)
      have hz2 : (S.getD j default / 2 - firstAndL x.n).toNat = i' := by rw [h6]; omega
      have hrg := hC.rng _ (getD_mem h4)
      have hfi : 0 ≤ S.getD j default / 2 - firstAndL x.n ∧ S.getD j default / 2 - firstAndL x.n < x.ands.length := by rw [h6]; omega
      refine N_draw hp (by kernel_rfl) (by kernel_rfl) rfl rfl ?_; (repeat (refine nLoad ?_; first | refine N_ldB rfl rfl rfl ?_ | refine N_ldEN rfl (by omega) rfl rfl rfl ?_))
      refine N_call Try.func85 (by kernel_rfl) rfl (fun F w hp => ?_); refine Ret.mono (firstAnd_h x _ hok.b) ?_; rintro _ w ⟨rfl, hx⟩; have hp := hp.ext hx; refine ⟨fun _ => hp.sub (by (repeat (first | exact List.sublist_append_left _ _ | apply List.Sublist.cons))), _, hp, ?_⟩; clear hp; refine N_ops rfl rfl ?_; (repeat (refine N_ldE rfl (by omega) (by omega) rfl rfl rfl ?_))
      (first | refine N_box ?_ | refine N_alloc rfl ?_); intro b10; refine N_ops rfl rfl ?_; (repeat (refine N_stBN rfl rfl rfl rfl (by kernel_rfl) ?_; refine N_ops rfl rfl ?_))
      refine N_end ?_; intro w hp C; refine h_run rfl ?_; skip
      rw [hz2] at hp
      have hT : RdH w0 [rO 3 1 eI sa sc S, rB b2 32 x.cs] (subA sa sc Try.ti3.size 0) 1 eI (S.take j) := own_take (s := 1) (by omega)
      have hDr : RdH w0 [rO 3 1 eI sa sc S, rB b2 32 x.cs] (subA sa sc Try.ti3.size ((j : Int) + 1).toNat) 1 eI (S.drop (j + 1)) := own_drop (s := 1) (by omega)
      have hTl : (S.take j).length = j := by rw [List.length_take]; omega
      have hDl : (S.drop (j + 1)).length = S.length - (j + 1) := List.length_drop
      have hrl : ([] ++ S.take j ++ S.drop (j + 1)).length ≤ 100000000 := by rw [List.nil_append, List.length_append]; omega
      have hil := insL_len ([] ++ S.take j ++ S.drop (j + 1)) (x.ands.getD i' default).1
      have hrl2 : ([] ++ S.take j ++ S.drop (j + 1)).length ≤ 10000 := by rw [List.nil_append, List.length_append]; omega
      refine N_draw hp (by kernel_rfl) (by kernel_rfl) rfl rfl ?_; (repeat (refine N_litI rfl rfl rfl rfl rfl rfl rfl rfl rfl rfl ?_; intro _; refine N_ops rfl rfl ?_))
      refine N_append (Y := S.take j) rfl hTl rfl rfl rfl rfl rfl (by decide) rfl (by simp only [List.length_nil]; omega) rfl rfl (fun hq => Bool.noConfusion (hq.symm.trans (by kernel_rfl : flagAt _ _ = false))) ?_; intro a2 c2 hnil; refine N_ops rfl rfl ?_; skip
      refine N_append (Y := S.drop (j + 1)) rfl hDl rfl rfl rfl rfl rfl (by decide) rfl (by simp only [List.nil_append]; omega) rfl rfl (fun hq => Bool.noConfusion (hq.symm.trans (by kernel_rfl : flagAt _ _ = false))) ?_; intro a3 c3 hnil; refine N_ops rfl rfl ?_; skip
      refine N_end ?_; intro w hp C; refine h_run rfl ?_; skip
      refine N_draw0 hp (Hp.one hp.f1) (by kernel_rfl) (by kernel_rfl) rfl rfl ?_; (repeat (refine N_ldB rfl rfl rfl ?_))
      refine N_call Try.func155 (by kernel_rfl) rfl (fun F w hp => ?_); refine Ret.mono (insertInt_F _ _ ([] ++ S.take j ++ S.drop (j + 1)) (x.ands.getD i' default).1 hrl hp) ?_; rintro _ w ⟨a4, c4, rfl, hp⟩; refine ⟨fun _ => Hp.one hp.f1, _, hp, ?_⟩; clear hp; refine N_ops rfl rfl ?_; (repeat (refine N_ldB rfl rfl rfl ?_))
      refine N_call Try.func155 (by kernel_rfl) rfl (fun F w hp => ?_); refine Ret.mono (insertInt_F _ _ (insL ([] ++ S.take j ++ S.drop (j + 1)) (x.ands.getD i' default).1) (x.ands.getD i' default).2 (by omega) hp) ?_; rintro _ w ⟨a5, c5, rfl, hp⟩; refine ⟨fun hq => Bool.noConfusion (hq.symm.trans (by kernel_rfl : flagAt _ _ = false)), _, hp, ?_⟩; clear hp; refine N_ops rfl rfl ?_; skip
      refine N_end ?_; intro w hp C; refine h_run rfl ?_; skip
      exact IH _ (fst_ x.n + i') a5 c5 _ _ _ hlt2 rfl ⟨hD, (hp.f1.drop).f1.drop⟩
end Go.Proofs
