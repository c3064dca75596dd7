/- The contracts of the reference's RetimeForward; each under its stated conditions. -/
import Derived.Test.YtfcafmbcmdeomaaRetS
import Derived.Test.YtfcafmbcmdeomaaRetLaw2
set_option linter.all false
namespace Go.Proofs
open Go.Xw
set_option maxRecDepth 100000
set_option maxHeartbeats 8000000
section
variable {S : Setting} {sz : Nat} {R : Value → World → Prop} {C : World → Prop} {w0 w : World} {F : List Res}
theorem R_ret3v [hS : S.Ok] {b o : Nat} {t tb : TypeId} {cs : List Value} {v u u' : Value} (hp : Hp w0 w F) [hb : BkH w0 F b tb cs] (hv : ldV S.tt t cs o = some v) (h : R (.tuple ⟨[v, u, u']⟩) w) : Holds S sz R C w (.retc [.at_ t ⟨b, o, none⟩, .val u, .val u']) :=
  ⟨[v, u, u'], ⟨ldV_blk hS.tt (hb.h w hp) hv, rfl, rfl, trivial⟩, h⟩
end
attribute [local irreducible] Holds elemAddr

/-- adding to a net that is being built, in the reference's way -/
theorem addF_netX {n : NetL} {S : List SeqL} {f : Int} (hok : NetOkP n) (hS : SOk n S f) {A : List (Int × Int)} {to : List Int} (hB : Bld f A to) {a b : Int} (ha : litP a (f + A.length)) (hb : litP b (f + A.length)) :
    addF (netX n S A) [a, b] (addAndL (netX n S A) a b) = if (addC f A a b).2 < 0 then (netX n S A, -1) else (netX n S (addC f A a b).1, (addC f A a b).2) := by
  have hz := netX_ok hok hS hB
  have hC : addAndL (netX n S A) a b = (netX n S (addC f A a b).1, (addC f A a b).2) := by
    rw [addAndL_C, netX_first hS]; rfl
  have hv : NetOkP (netX n S A) ∧ ∀ l, l ∈ [a, b] → litP l (nodesL (netX n S A)) := ⟨hz, two_lits.2 (by rw [netX_nodes hS]; exact ⟨ha, hb⟩)⟩
  split
  · rename_i h
    exact addF_neg hv (by rw [hC]; exact h)
  · rename_i h
    rw [addF_yes hv (by rw [hC]; exact h), hC]
theorem l15Begin_F (x : NetA) (ia : Option Addr) (ic m : Nat) (inits : List Int) (hm : inits.length = m) {w0 w : World} {L F : List Res} (hp : Hp w0 w (L ++ F)) (hX : NetR w x) (hok : NetOkP x.n) (hS : NetS x.n) (hR : Rd w ia 1 eI inits) (hmb : m ≤ 2) :
    Ret Try.prog 122 [x.v, .slice ia m ic] w (fun v w' => ∃ y b c, (y.n = netX x.n (bgS x.n inits) [] ∧ v = .tuple ⟨[y.v, .slice b (leafL x.n).length c]⟩) ∧ Hp w0 w' ((rNet y :: rO 3 1 eI b c (leafL x.n) :: L) ++ F)) := by
  refine (l15Begin_h x ia ic m inits hm w hX hok hS hR hmb).mono ?_
  rintro _ _ ⟨y, b, c, h, hq⟩
  exact ⟨y, b, c, h, hp.callF hq⟩
theorem l15Ands_h (S : List SeqL) (f skip inst : Int) (A0 : List (Int × Int)) (to0 : List Int) (y x : NetA) (ta : Option Addr) (tc m : Nat) (hm : to0.length = m) {w0 w : World} {L : List Res} (hp : Hp w0 w (rNet y :: rO 3 1 eI ta tc to0 :: L)) [hX : NetH w0 L x] (hok : NetOkP x.n) (hSO : SOk x.n S f) (hy : y.n = netX x.n S A0) (hr : RaOk f x.n (A0, to0) 0) (hinst : litP inst f) :
    Ret Try.prog 123 [y.v, .slice ta m tc, x.v, .int .i64 skip, .int .i64 inst] w (fun v w' => ∃ z b c X ok, (v = .tuple ⟨[z.v, .slice b (X : List Int).length c, .bool ok]⟩ ∧ ok = (raTo f x.n skip inst (A0, to0) x.n.ands.length).isSome ∧ ∀ P, raTo f x.n skip inst (A0, to0) x.n.ands.length = some P → z.n = netX x.n S P.1 ∧ X = P.2) ∧ Hp w0 w' (rNet z :: rO 3 1 eI b c X :: L)) := by
  subst hm
  have hn := hok.nums
  have n1 := hn.n1
  have n4 := hn.n2
  have f2 := hn.f2
  have hnd := hok.nodes
  have hsz := hok.size'
  have hal : x.n.ands.length = x.ands.length := rfl
  refine enter Try.S123ok _ _ rfl rfl (by show _ ≤ _; simp only [List.length]; decide) (fun C => ?_); refine h_run rfl ?_; skip
  (first | (refine H_box hp ?_; intro w b5 hx hp) | (refine H_alloc hp rfl ?_; intro w b5 hx hp)); refine ops_run nopre rfl ?_; skip
  (first | (refine H_box hp ?_; intro w b7 hx hp) | (refine H_alloc hp rfl ?_; intro w b7 hx hp)); refine ops_run nopre rfl ?_; skip
  (first | (refine H_box hp ?_; intro w b10 hx hp) | (refine H_alloc hp rfl ?_; intro w b10 hx hp)); refine ops_run nopre rfl ?_; skip
  refine h_loop5 [1, 3, 4, 5, 7, 10, 13] (fun (i : Nat) (T : List (Int × Int) × List Int) (_ : NetA) (tb : Option Addr) (td : Nat) => [(1, .slice tb T.2.length td), (3, .int .i64 skip), (4, .int .i64 inst), (5, .pointer (some ⟨b5, 0, none⟩)), (7, .pointer (some ⟨b7, 0, none⟩)), (10, .pointer (some ⟨b10, 0, none⟩)), (13, .int .i64 (i : Int))])
    (fun i T z tb td w' => (i ≤ x.ands.length ∧ raTo f x.n skip inst (A0, to0) i = some T ∧ z.n = netX x.n S T.1) ∧ Hp w0 w' (rB b5 32 z.cs :: rNet z :: rO 3 1 eI tb td T.2 :: rB b7 32 x.cs :: rB b10 32 (cellsV Try.ti32.zero) :: L))
    (fun i _ _ _ _ => x.ands.length - i) 0 (A0, to0) y ta tc rfl ⟨⟨by omega, rfl, hy⟩, hp.f1.f4.f4.f4⟩ ?_
  clear hp
  rintro i T z tb td w1 ⟨⟨hi, hT, hz⟩, hp⟩ IH C
  have hra := raTo_ok hok hr hinst i hi T hT
  have hTl := hra.len
  have hB := hra.b
  have g1 := hB.f1
  have g2 := hB.alen
  have hzok := netX_ok hok hSO hB
  refine h_run rfl ?_; (repeat (refine H_ldB hp rfl rfl ?_))
  refine h_cond_dec (fun hlt => ?_) (fun hlt => ?_)
  · have hlt' : i < x.ands.length := by omega
    obtain ⟨q1, q2, q3, q4⟩ := hok.and_ hlt'
    obtain ⟨l1, l2⟩ := hra.lits hok hlt'
    have l1 : litP (litV T.2 (x.ands.getD i default).1) (f + T.1.length) := l1
    have l2 : litP (litV T.2 (x.ands.getD i default).2) (f + T.1.length) := l2
    have hi1 := l1.i64 (by omega)
    have hi2 := l2.i64 (by omega)
    have hadd := addF_netX hok hSO hB l1 l2
    have hml : (mapL T.2 [(x.ands.getD i default).1, (x.ands.getD i default).2]).length = 2 := rfl
    refine h_cond_t rfl rfl ?_; skip
    refine h_cond_dec (fun his => ?_) (fun his => ?_)
    · refine h_cond_t rfl rfl ?_; (repeat (refine U_litI hp rfl rfl rfl rfl rfl rfl rfl rfl rfl rfl ?_; intro w _ hx hp; refine ops_run nopre rfl ?_))
      refine U_append hp rfl rfl rfl rfl rfl rfl rfl (by decide) rfl (by first | omega | (simp only [List.length_append, List.length_cons, List.length_nil, List.length_take, List.length_drop, List.length_set, List.length_replicate, List.length_map]; omega)) rfl rfl ?_; intro tb' td' w hp hnil; refine ops_run nopre rfl ?_; skip
      exact IH (i + 1) (T.1, T.2 ++ [inst]) z tb' td' _ _ _ (by omega) rfl ⟨⟨by omega, raTo_skip hT his, hz⟩, hp.drop⟩
    · refine h_cond_f rfl rfl ?_; skip
      refine N_draw hp (by kernel_rfl) (by kernel_rfl) rfl rfl ?_; (repeat (first | (refine nLoad ?_; first | refine N_ldB rfl rfl rfl ?_ | refine N_ldFN rfl (by omega) rfl rfl rfl ?_) | (refine nBuild ?_; refine N_litI rfl rfl rfl rfl rfl rfl rfl rfl rfl rfl ?_; intro _; refine N_ops rfl rfl ?_)))
      refine N_call Try.func124 (by kernel_rfl) rfl (fun F w hp => ?_); refine Ret.mono (l10Map_h _ _ _ _ T.2 [(x.ands.getD i default).1, (x.ands.getD i default).2] _ _ rfl rfl _ hp.pre.rd hp.pre.rd (two_in (p := fun l => 0 ≤ l ∧ l / 2 < (T.2.length : Int)) ⟨q1, by omega⟩ ⟨q3, by omega⟩) (by omega) (by simp)) ?_; rintro _ w ⟨r8, e8, rfl, hq⟩; have hp := hp.callF1 hq; refine ⟨fun _ => hp.sub (by (repeat (first | exact List.sublist_append_left _ _ | apply List.Sublist.cons))), _, hp, ?_⟩; clear hp; refine N_ops rfl rfl ?_; skip
      refine N_end ?_; intro w hp C; refine h_run rfl ?_; skip
      refine N_draw hp (by kernel_rfl) (by kernel_rfl) rfl rfl ?_; (repeat (refine nLoad ?_; first | refine N_ldB rfl rfl rfl ?_ | refine N_ldE rfl (by omega) (by omega) rfl rfl rfl ?_))
      refine N_call Try.func108 (by kernel_rfl) rfl (fun F w hp => ?_); refine Ret.mono (specAddAnd_x z (litV T.2 (x.ands.getD i default).1) (litV T.2 (x.ands.getD i default).2) _ (rNet_r (hp.pre.take (rNet z))) (by rw [hz]; exact hzok.S') (by rw [hz]; exact hzok.W) hi1 hi2) ?_; rintro _ w ⟨z', ⟨hz', rfl⟩, hq⟩; have hp := hp.callF1 hq; refine ⟨fun _ => hp.sub (by (repeat (first | exact List.sublist_append_left _ _ | apply List.Sublist.cons))), _, hp, ?_⟩; clear hp; refine N_ops rfl rfl ?_; skip
      (first | refine N_box ?_ | refine N_alloc rfl ?_); intro b15; refine N_ops rfl rfl ?_; (repeat (refine N_stBN rfl rfl rfl rfl (by kernel_rfl) ?_; refine N_ops rfl rfl ?_))
      refine N_end ?_; intro w hp C; refine h_run rfl ?_; skip
      rw [hz, hadd] at hz' ⊢
      by_cases hneg : (addC f T.1 (litV T.2 (x.ands.getD i default).1) (litV T.2 (x.ands.getD i default).2)).2 < 0
      · rw [if_pos hneg] at hz' ⊢
        refine h_cond_t rfl rfl ?_; (repeat (first | (refine gLoad ?_; refine H_ldB hp rfl rfl ?_) | (refine gStore ?_; refine U_stBN hp rfl rfl rfl rfl ?_; intro w hp; refine ops_run nopre rfl ?_)))
        have hnone : raTo f x.n skip inst (A0, to0) x.n.ands.length = none := raTo_none (raTo_no hT his hneg) (by omega)
        rw [hnone]
        refine R_ret3v hp rfl ?_
        refine ⟨z, tb, td, T.2, false, ⟨rfl, rfl, fun P hP => by cases hP⟩, ?_⟩
        exact hp.drop.drop.drop.drop.drop.f2.drop.f2.drop
      · rw [if_neg hneg] at hz' ⊢
        refine h_cond_f (decide_eq_false hneg) rfl ?_; (repeat (first | (refine gLoad ?_; refine H_ldB hp rfl rfl ?_) | (refine gStore ?_; refine U_stBN hp rfl rfl rfl rfl ?_; intro w hp; refine ops_run nopre rfl ?_) | (refine gBuild ?_; refine U_litI hp rfl rfl rfl rfl rfl rfl rfl rfl rfl rfl ?_; intro w _ hx hp; refine ops_run nopre rfl ?_)))
        refine U_append hp rfl rfl rfl rfl rfl rfl rfl (by decide) rfl (by first | omega | (simp only [List.length_append, List.length_cons, List.length_nil, List.length_take, List.length_drop, List.length_set, List.length_replicate, List.length_map]; omega)) rfl rfl ?_; intro tb' td' w hp hnil; refine ops_run nopre rfl ?_; skip
        refine IH (i + 1) ((addC f T.1 (litV T.2 (x.ands.getD i default).1) (litV T.2 (x.ands.getD i default).2)).1, T.2 ++ [(addC f T.1 (litV T.2 (x.ands.getD i default).1) (litV T.2 (x.ands.getD i default).2)).2]) z' tb' td' _ _ _ (by omega) rfl ⟨⟨by omega, raTo_yes hT his hneg, hz'⟩, ?_⟩
        exact hp.drop.drop.f1.drop.f1.drop.f2.drop.f1
  · obtain rfl : i = x.ands.length := by omega
    refine h_cond_f rfl rfl ?_; (repeat (first | (refine gLoad ?_; refine H_ldB hp rfl rfl ?_) | (refine gStore ?_; refine U_stBN hp rfl rfl rfl rfl ?_; intro w hp; refine ops_run nopre rfl ?_)))
    rw [hal, hT]
    refine R_ret3v hp rfl ?_
    refine ⟨z, tb, td, T.2, true, ⟨rfl, rfl, fun P hP => by cases hP; exact ⟨hz, rfl⟩⟩, ?_⟩
    exact hp.drop.f3.drop.f2.drop
theorem l15Ands_F (S : List SeqL) (f skip inst : Int) (A0 : List (Int × Int)) (to0 : List Int) (y x : NetA) (ta : Option Addr) (tc m : Nat) (hm : to0.length = m) {w0 w : World} {L F : List Res} (hp : Hp w0 w ((rNet y :: rO 3 1 eI ta tc to0 :: L) ++ F)) (hX : NetR w0 x) (hok : NetOkP x.n) (hSO : SOk x.n S f) (hy : y.n = netX x.n S A0) (hr : RaOk f x.n (A0, to0) 0) (hinst : litP inst f) :
    Ret Try.prog 123 [y.v, .slice ta m tc, x.v, .int .i64 skip, .int .i64 inst] w (fun v w' => ∃ z b c X ok, (v = .tuple ⟨[z.v, .slice b (X : List Int).length c, .bool ok]⟩ ∧ ok = (raTo f x.n skip inst (A0, to0) x.n.ands.length).isSome ∧ ∀ P, raTo f x.n skip inst (A0, to0) x.n.ands.length = some P → z.n = netX x.n S P.1 ∧ X = P.2) ∧ Hp w0 w' ((rNet z :: rO 3 1 eI b c X :: L) ++ F)) :=
  l15Ands_h (L := L ++ F) S f skip inst A0 to0 y x ta tc m hm hp hok hSO hy hr hinst
end Go.Proofs
