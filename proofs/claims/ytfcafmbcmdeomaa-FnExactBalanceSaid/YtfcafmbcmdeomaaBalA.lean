/- Adding AND nodes to a net that stands first in a bigger struct, and copying roots to it (printed by gen_bal.py out of XAdd and XMap); each under its stated conditions. -/
import Derived.Test.YtfcafmbcmdeomaaHash
import Derived.Test.YtfcafmbcmdeomaaSimBal
set_option linter.all false
namespace Go.Xw
/-- the cells of a struct that begins with a net -/
def NetA.cb (y : NetA) (v : Value) : List Value := [.int .i64 y.inputs, .slice y.sa y.seqs.length y.sc, .slice y.aa y.ands.length y.ac, .slice y.oa y.outs.length y.oc, v]
end Go.Xw
namespace Go.Proofs
open Go.Xw
set_option maxRecDepth 100000
set_option maxHeartbeats 1000000
attribute [local irreducible] Holds elemAddr
theorem addAndW_h (y : NetA) (bv : Value) (p : Nat) (a b : Int) {w0 w : World} {L : List Res} (hp : Hp w0 w (rB p 91 (y.cb bv) :: rO 103 2 eII y.aa y.ac y.ands :: L)) (hb : NetB y) (hl : y.ands.length ≤ 1000000) (ha : 0 ≤ a ∧ a ≤ 1000000) (hb2 : 0 ≤ b ∧ b ≤ 1000000) :
    Ret Try.prog 126 [.pointer (some ⟨p, 0, none⟩), .int .i64 a, .int .i64 b] w (fun v w' => ∃ aa ac, v = .int .i64 (addAndL y.n a b).2 ∧ Hp w0 w' (rB p 91 ((y.wA aa ac (addAndL y.n a b).1.ands).cb bv) :: rO 103 2 eII aa ac (addAndL y.n a b).1.ands :: L)) := by
  have hnc := notL_eq ha.1 (by omega)
  have hnn : ∀ v, notL a = v ↔ bits .xor .i64 a 1 = v := fun v => .rfl
  refine enter Try.S126ok _ _ rfl rfl (by show _ ≤ _; simp only [List.length]; decide) (fun C => ?_); refine h_run rfl ?_; skip
  refine h_guard_by (fun h1 => ?_) (fun h1 => ?_); all_goals (rw [h1]; (first | replace h1 := of_decide_eq_true h1 | replace h1 := of_decide_eq_false h1 | skip); (repeat (refine gGuard ?_; first | refine h_guard_y rfl nopre rfl ?_ | refine h_guard_n rfl nopre rfl ?_)))
  · refine h_cond_t rfl rfl ?_; (repeat (refine R_ret ?_))
    have e : addAndL y.n a b = (y.n, 0) := by unfold addAndL; rw [if_pos (.inl h1)]
    rw [e]
    exact ⟨y.aa, y.ac, rfl, hp⟩
  · refine h_guard_by (fun h2 => ?_) (fun h2 => ?_); all_goals (rw [h2]; (first | replace h2 := of_decide_eq_true h2 | replace h2 := of_decide_eq_false h2 | skip); (repeat (refine gGuard ?_; first | refine h_guard_y rfl nopre rfl ?_ | refine h_guard_n rfl nopre rfl ?_)))
    · refine h_cond_t rfl rfl ?_; (repeat (refine R_ret ?_))
      have e : addAndL y.n a b = (y.n, 0) := by unfold addAndL; rw [if_pos (.inr (.inl h2))]
      rw [e]
      exact ⟨y.aa, y.ac, rfl, hp⟩
    · refine h_cond_dec (fun h3 => ?_) (fun h3 => ?_)
      · refine h_cond_t rfl rfl ?_; (repeat (refine R_ret ?_))
        have e : addAndL y.n a b = (y.n, 0) := by unfold addAndL; rw [if_pos (.inr (.inr h3))]
        rw [e]
        exact ⟨y.aa, y.ac, rfl, hp⟩
      · have e0 : ¬ (a = 0 ∨ b = 0 ∨ notL a = b) := fun h => h.elim h1 fun h => h.elim h2 h3
        refine h_cond_f rfl rfl ?_; skip
        refine h_guard_by (fun h4 => ?_) (fun h4 => ?_); all_goals (rw [h4]; (first | replace h4 := of_decide_eq_true h4 | replace h4 := of_decide_eq_false h4 | skip); (repeat (refine gGuard ?_; first | refine h_guard_y rfl nopre rfl ?_ | refine h_guard_n rfl nopre rfl ?_)))
        · refine h_cond_t rfl rfl ?_; (repeat (refine R_ret ?_))
          have e : addAndL y.n a b = (y.n, b) := by unfold addAndL; rw [if_neg e0, if_pos (.inl h4)]
          rw [e]
          exact ⟨y.aa, y.ac, rfl, hp⟩
        · refine h_cond_dec (fun h5 => ?_) (fun h5 => ?_)
          · refine h_cond_t rfl rfl ?_; (repeat (refine R_ret ?_))
            have e : addAndL y.n a b = (y.n, b) := by unfold addAndL; rw [if_neg e0, if_pos (.inr h5)]
            rw [e]
            exact ⟨y.aa, y.ac, rfl, hp⟩
          · refine h_cond_f rfl rfl ?_; skip
            refine h_cond_dec (fun h6 => ?_) (fun h6 => ?_)
            · refine h_cond_t rfl rfl ?_; (repeat (refine R_ret ?_))
              have e : addAndL y.n a b = (y.n, a) := by unfold addAndL; rw [if_neg e0, if_neg (fun h => h.elim h4 h5), if_pos h6]
              rw [e]
              exact ⟨y.aa, y.ac, rfl, hp⟩
            · have e1 : addAndL y.n a b = if y.ands.idxOf (min a b, max a b) < y.ands.length then (y.n, 2 * (firstAndL y.n + (y.ands.idxOf (min a b, max a b) : Nat)))
                  else if 300 ≤ y.ands.length then (y.n, -1) else ({ y.n with ands := y.ands ++ [(min a b, max a b)] }, 2 * nodesL y.n) := by
                unfold addAndL; rw [if_neg e0, if_neg (fun h => h.elim h4 h5), if_neg h6]; rfl
              refine h_cond_f rfl rfl ?_; skip
              (first | (refine H_box hp ?_; intro w b7 hx hp) | (refine H_alloc hp rfl ?_; intro w b7 hx hp)); refine ops_run nopre rfl ?_; (repeat (first | (refine gLoad ?_; refine H_ldB hp rfl rfl ?_) | (refine gStore ?_; refine U_stBN hp rfl rfl rfl rfl ?_; intro w hp; refine ops_run nopre rfl ?_)))
              refine h_loop [0, 7, 46, 47, 48] (fun (i : Nat) => [(0, .pointer (some ⟨p, 0, none⟩)), (7, .pointer (some ⟨b7, 0, none⟩)), (46, .slice y.aa y.ands.length y.ac), (47, .int .i64 y.ands.length), (48, .int .i64 (i : Int))])
                (fun i w' => i ≤ y.ands.length ∧ (∀ j, j < i → y.ands.getD j default ≠ (min a b, max a b)) ∧ Hp w0 w' (rB b7 103 (eII (min a b, max a b)) :: rB p 91 (y.cb bv) :: rO 103 2 eII y.aa y.ac y.ands :: L)) (fun i => y.ands.length - i) 0 rfl ⟨by omega, fun j hj => by omega, hp⟩ ?_
              rintro i w2 ⟨hi, hne, hp⟩ IH C
              refine h_run rfl ?_; skip
              refine h_cond_dec (fun hlt => ?_) (fun hlt => ?_)
              · have hlt' : i < y.ands.length := by omega
                refine h_cond_t rfl rfl ?_; (repeat (refine H_ldEN hp rfl (by omega) rfl rfl ?_))
                (first | (refine H_box hp ?_; intro w b9 hx hp) | (refine H_alloc hp rfl ?_; intro w b9 hx hp)); refine ops_run nopre rfl ?_; (repeat (first | (refine gLoad ?_; refine H_ldB hp rfl rfl ?_) | (refine gStore ?_; refine U_stBN hp rfl rfl rfl rfl ?_; intro w hp; refine ops_run nopre rfl ?_)))
                refine h_cond_b (fun he => ?_) (fun he => ?_)
                · have he : y.ands.getD i default = (min a b, max a b) := by
                    simp only [Bool.and_true, Bool.and_eq_true, decide_eq_true_eq] at he
                    first | exact Prod.ext he.1 he.2 | exact Prod.ext he.1.symm he.2.symm
                  have hix := idxOf_at hne hlt' he
                  refine h_cond_t rfl rfl ?_; (repeat (refine H_ldB hp rfl rfl ?_))
                  have hfb := firstAndL_eq y
                  obtain ⟨g1, g2, g3⟩ := id hb
                  refine h_call rfl Try.func85 (by kernel_rfl) rfl (firstAnd_h y _ hb) ?_; rintro _ w ⟨rfl, hx⟩; have hp := hp.ext hx; refine ops_run nopre rfl ?_; (repeat (refine R_ret ?_))
                  rw [e1, hix, if_pos hlt']
                  skip
                  exact ⟨y.aa, y.ac, rfl, hp.drop.drop⟩
                · have he : y.ands.getD i default ≠ (min a b, max a b) := fun h2 => by
                    simp only [Bool.and_true, Bool.and_eq_false_iff, decide_eq_false_iff_not] at he
                    rcases he with he | he <;> exact he (by rw [h2])
                  refine h_cond_f rfl rfl ?_; skip
                  refine IH (i + 1) _ _ _ (by omega) rfl ⟨by omega, fun j hj => ?_, hp.drop⟩
                  by_cases hj2 : j < i
                  · exact hne j hj2
                  · obtain rfl : j = i := by omega
                    exact he
              · obtain rfl : i = y.ands.length := by omega
                have hix := idxOf_none hne
                refine h_cond_f rfl rfl ?_; (repeat (refine H_ldB hp rfl rfl ?_))
                refine h_cond_dec (fun h7 => ?_) (fun h7 => ?_)
                · refine h_cond_t rfl rfl ?_; (repeat (refine R_ret ?_))
                  rw [e1, if_neg hix, if_pos (by omega)]
                  exact ⟨y.aa, y.ac, rfl, hp.drop⟩
                · refine h_cond_f rfl rfl ?_; skip
                  refine D_draw hp (by kernel_rfl) (by kernel_rfl) rfl rfl ?_; intro w hx hp; have hs := hp; (repeat (refine D_ldB rfl rfl rfl ?_))
                  refine D_lit (fun _ hx => hs.ext hx) hp eII [(min a b, max a b)] rfl rfl rfl rfl (s := 2) rfl (by decide) (by infer_instance) (by rfl) (by rfl) (by rfl) (by decide) ?_; intro w b8 hx hp; have hs := hs.ext hx; refine D_ops rfl rfl ?_; skip
                  refine V_append hp rfl rfl rfl rfl rfl rfl rfl (by decide) rfl (by first | omega | (simp only [List.length_append, List.length_cons, List.length_nil, List.length_take, List.length_drop, List.length_set, List.length_replicate, List.length_map]; omega)) rfl rfl (by kernel_rfl) ?_; intro b' c' w hp hnil; refine D_ops rfl rfl ?_; (repeat (refine V_stB hp rfl rfl rfl rfl (by kernel_rfl) ?_; intro w hp; refine D_ops rfl rfl ?_))
                  have hb3 : NetB (y.wA b' c' (y.ands ++ [(min a b, max a b)])) := ⟨hb.1, hb.2, by show (y.ands ++ _).length ≤ _; simp; omega⟩
                  have hnd : nodesL (y.wA b' c' (y.ands ++ [(min a b, max a b)])).n = nodesL y.n + 1 := by rw [nodesL_eq, nodesL_eq]; show 1 + y.inputs + y.seqs.length + ((y.ands ++ _).length : Nat) = _; simp; omega
                  have hnd2 := nodesL_eq y
                  obtain ⟨g1, g2, g3⟩ := id hb
                  (repeat (refine H_ldB hp rfl rfl ?_))
                  refine h_call rfl Try.func87 (by kernel_rfl) rfl (nodeCount_h (y.wA b' c' (y.ands ++ [(min a b, max a b)])) _ hb3) ?_; rintro _ w ⟨rfl, hx⟩; have hp := hp.ext hx; refine ops_run nopre rfl ?_; (repeat (refine R_ret ?_))
                  rw [e1, if_neg hix, if_neg (by omega)]
                  refine ⟨b', c', by congr 1; omega, ?_⟩
                  exact hp.drop.drop
theorem copyRootsW_h (bv : Value) (p : Nat) (y x : NetA) (pa : Option Addr) (pc m : Nat) (to : List Int) (hm : to.length = m) {w0 w : World} {L : List Res} (hp : Hp w0 w (rB p 91 (y.cb bv) :: rSq y.sa y.sc y.seqs :: rO 3 1 eI y.oa y.oc y.outs :: L)) [hX : NetH w0 L x] [hT : RdH w0 L pa 1 eI to] (hok : NetOkP x.n) (hnd : nds x.n ≤ m) (hmb : m ≤ 1000000) (hyl : x.seqs.length ≤ y.seqs.length) (hyb : y.seqs.length ≤ 1000000) :
    Ret Try.prog 92 [.pointer (some ⟨p, 0, none⟩), x.v, .slice pa m pc] w (fun v w' => ∃ R oa oc, v = .tuple ⟨[]⟩ ∧ (R.length = y.seqs.length ∧ seqsOf R = upTo (crF (seqsOf y.seqs) x.n to) x.seqs.length (seqsOf y.seqs)) ∧
      Hp w0 w' (rB p 91 [.int .i64 y.inputs, .slice y.sa y.seqs.length y.sc, .slice y.aa y.ands.length y.ac, .slice oa (mapL to x.outs).length oc, bv] :: rSq y.sa y.sc R :: rO 3 1 eI oa oc (mapL to x.outs) :: L)) := by
  subst hm
  have hn := hok.nums
  have n1 := hn.n1
  have n2 := hn.n2
  have hsz := hok.size'
  have hsl := x.slen
  have hlit : ∀ l, litP l (nodesL x.n) → 0 ≤ l ∧ l / 2 < to.length := fun l h => by unfold litP at h; omega
  refine enter Try.S92ok _ _ rfl rfl (by show _ ≤ _; simp only [List.length]; decide) (fun C => ?_); refine h_run rfl ?_; skip
  (first | (refine H_box hp ?_; intro w b4 hx hp) | (refine H_alloc hp rfl ?_; intro w b4 hx hp)); refine ops_run nopre rfl ?_; (repeat (refine H_ldB hp rfl rfl ?_))
  have hp := rSq_open (hp.f3.f2.f2.f3)
  refine h_loop2 [0, 2, 4, 9, 10, 11] (fun (i : Nat) (_ : List SeqA) => [(0, .pointer (some ⟨p, 0, none⟩)), (2, .slice pa to.length pc), (4, .pointer (some ⟨b4, 0, none⟩)), (9, .slice x.sa x.seqs.length x.sc), (10, .int .i64 x.seqs.length), (11, .int .i64 (i : Int))])
    (fun i R w' => (i ≤ x.seqs.length ∧ R.length = y.seqs.length ∧ seqsOf R = upTo (crF (seqsOf y.seqs) x.n to) i (seqsOf y.seqs)) ∧ Hp w0 w' (rO 99 3 eSq y.sa y.sc R :: rIns R :: rB b4 32 x.cs :: rB p 91 (y.cb bv) :: rO 3 1 eI y.oa y.oc y.outs :: L)) (fun i _ => x.seqs.length - i) 0 y.seqs rfl
    ⟨⟨by omega, rfl, by rw [upTo_zero]⟩, hp⟩ ?_
  rintro i R w1 ⟨⟨hi, hR, hRs⟩, hp⟩ IH C
  refine h_run rfl ?_; skip
  refine h_cond_dec (fun hlt => ?_) (fun hlt => ?_)
  · have hlt' : i < x.seqs.length := by omega
    have hil := hok.ins hlt'
    have hsx := x.sins i
    have hq : ∀ j, j < (x.seqs.getD i default).ins.length → 0 ≤ (x.seqs.getD i default).ins.getD j default ∧ (x.seqs.getD i default).ins.getD j default / 2 < to.length := fun j hj =>
      hlit _ (hok.inp (getD_mem (show i < x.n.seqs.length by omega)) _ (by rw [hsx]; exact getD_mem hj))
    refine h_cond_t rfl rfl ?_; (repeat (refine H_ldEN hp rfl (by omega) rfl rfl ?_))
    have hrow := hX.in_ hlt'
    have hne : y.sa ≠ none := nn_of hp (X := R) (by omega)
    (first | (refine H_box hp ?_; intro w b7 hx hp) | (refine H_alloc hp rfl ?_; intro w b7 hx hp)); refine ops_run nopre rfl ?_; (repeat (refine U_stBN hp rfl rfl rfl rfl ?_; intro w hp; refine ops_run nopre rfl ?_))
    refine N_draw hp (by kernel_rfl) (by kernel_rfl) rfl rfl ?_; (repeat (refine N_ldB rfl rfl rfl ?_))
    refine N_call Try.func157 (by kernel_rfl) rfl (fun F w hp => ?_); refine Ret.mono (mapLits_h pa _ pc _ to (x.seqs.getD i default).ins _ _ rfl rfl _ hp.pre.rd hp.pre.rd hq (by omega) (by omega)) ?_; rintro _ w ⟨r, e, rfl, hq⟩; have hp := hp.callF1 hq; refine ⟨fun _ => hp.sub (by (repeat (first | exact List.sublist_append_left _ _ | apply List.Sublist.cons))), _, hp, ?_⟩; clear hp; refine N_ops rfl rfl ?_; skip
    first | refine N_st1N ({ R.getD i default with ins := mapL to (x.seqs.getD i default).ins, ia := r, ic := e }) rfl rfl rfl (by omega) (by decide) rfl rfl (by kernel_rfl) ?_ | refine N_st1 ({ R.getD i default with ins := mapL to (x.seqs.getD i default).ins, ia := r, ic := e }) rfl rfl rfl (by omega) (by decide) rfl rfl (by kernel_rfl) ?_
    refine N_ops rfl rfl ?_; skip
    refine N_end ?_; intro w hp C; refine h_run rfl ?_; skip
    obtain ⟨Q, hq, hback⟩ := rIns_at (hp.f1.drop.f2) (i := i) (by omega)
    have hp := (hback _ _ { R.getD i default with ins := mapL to (x.seqs.getD i default).ins, ia := r, ic := e } hq.drop.f1).f1
    refine IH (i + 1) _ _ _ _ (by omega) rfl ⟨⟨by omega, by simp; omega, ?_⟩, hp⟩
    have hix : i < (seqsOf y.seqs).length := by rw [seqsOf_len]; omega
    rw [seqsOf_set, hRs, ← upTo_set (f := crF (seqsOf y.seqs) x.n to) hix]
    congr 1
    have h1 : (R.getD i default).s = (seqsOf y.seqs).getD i default := by
      rw [← seqsOf_get, hRs, upTo_at (Nat.le_refl _) (by omega)]
    unfold crF
    rw [← h1, hsx]
    rfl
  · refine h_cond_f rfl rfl ?_; (repeat (refine H_ldB hp rfl rfl ?_))
    obtain rfl : i = x.seqs.length := by omega
    refine h_call rfl Try.func157 (by kernel_rfl) rfl (mapLits_h pa _ pc _ to x.outs _ _ rfl rfl _ hp.rd hp.rd (fun j hj => hlit _ (hok.out _ (getD_mem hj))) (by omega) (by omega)) ?_; rintro _ w ⟨r, e, rfl, hq⟩; have hx := hq.x; have hp := hp.call1 hq; refine ops_run nopre rfl ?_; (repeat (first | (refine gStore ?_; refine U_stB hp rfl rfl rfl rfl ?_; intro w hp; refine ops_run nopre rfl ?_) | refine R_ret ?_))
    have hp := rSq_shut (hp.f5.drop.f3.drop.f3.f1.f3.f3)
    exact ⟨R, r, e, rfl, ⟨hR, hRs⟩, hp.f1.f1.f2⟩
end Go.Proofs
