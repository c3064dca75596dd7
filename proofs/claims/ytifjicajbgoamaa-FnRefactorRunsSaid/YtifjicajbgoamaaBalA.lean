/- Texts that belong together; each under its stated conditions. -/
import Derived.Test.YtifjicajbgoamaaSweep
import Derived.Test.YtifjicajbgoamaaSimBal
set_option linter.all false
section
/- The contracts of the functions that hash a net; each under its stated conditions. -/
namespace Go.Proofs
open Go.Xw
set_option maxRecDepth 100000
set_option maxHeartbeats 1000000
attribute [local irreducible] Holds elemAddr

theorem haTo_succ (n : NetL) (i : Nat) : haTo n (i + 1) = ((addC (firstAndL n) (haTo n i).1 (litV (haTo n i).2 (n.ands.getD i default).1) (litV (haTo n i).2 (n.ands.getD i default).2)).1,
    (haTo n i).2 ++ [(addC (firstAndL n) (haTo n i).1 (litV (haTo n i).2 (n.ands.getD i default).1) (litV (haTo n i).2 (n.ands.getD i default).2)).2]) := rfl
theorem hashed_h (x : NetA) (w0 : World) (hX : NetR w0 x) (hok : NetOkP x.n) :
    Ret Try.prog 37 [x.v] w0 (fun v w => ∃ y, (y.n = hashL x.n ∧ v = y.v) ∧ Hp w0 w [rNet y]) := by
  have hn := hok.nums
  have n1 := hn.n1
  have n4 := hn.n2
  have f2 := hn.f2
  have hnd := hok.nodes
  have hsz := hok.size'
  have hal : x.n.ands.length = x.ands.length := rfl
  refine enter Try.S37ok _ _ rfl rfl (by show _ ≤ _; simp only [List.length]; decide) (fun C => ?_); have hp := Hp.nil w0; refine h_run rfl ?_; skip; (first | (refine H_box hp ?_; intro w b1 hx hp) | (refine H_alloc hp rfl ?_; intro w b1 hx hp)); refine ops_run nopre rfl ?_; skip; (first | (refine H_box hp ?_; intro w b2 hx hp) | (refine H_alloc hp rfl ?_; intro w b2 hx hp)); refine ops_run nopre rfl ?_; (repeat (refine H_ldB hp rfl rfl ?_))
  refine h_call rfl Try.func64 (by kernel_rfl) rfl (emptyCopy_h x _ hp.net hok) ?_; rintro _ w ⟨y0, ⟨hy0, rfl⟩, hq⟩; have hx := hq.x; have hp := hp.call1 hq; refine ops_run nopre rfl ?_; skip
  (first | (refine H_box hp ?_; intro w b3 hx hp) | (refine H_alloc hp rfl ?_; intro w b3 hx hp)); refine ops_run nopre rfl ?_; (repeat (first | (refine gLoad ?_; refine H_ldB hp rfl rfl ?_) | (refine gStore ?_; refine U_stBN hp rfl rfl rfl rfl ?_; intro w hp; refine ops_run nopre rfl ?_)))
  refine h_call rfl Try.func65 (by kernel_rfl) rfl (leafLits_h x _ hok) ?_; rintro _ w ⟨b5, c5, rfl, hq⟩; have hx := hq.x; have hp := hp.call1 hq; refine ops_run nopre rfl ?_; (repeat (refine H_ldB hp rfl rfl ?_))
  have hya : y0.ands = [] := congrArg NetL.ands hy0
  have hyi : y0.inputs = x.inputs := congrArg NetL.inputs hy0
  have hys : seqsOf y0.seqs = (begL x.n []).seqs := congrArg NetL.seqs hy0
  have hyl : y0.seqs.length = x.seqs.length := by rw [← seqsOf_len y0.seqs, hys, beg_at.1, x.slen]
  have hcs : y0.cs = (y0.wA y0.aa y0.ac []).cs := by unfold NetA.cs NetA.wA; rw [hya]
  have hp := (rNet_open hp.f2).f6.f6.f4.f3.f5.f5.f6
  rw [hya] at hp
  have hp := Hp.cgB hp hcs
  refine h_loop3 [1, 2, 3, 4, 12, 13, 14] (fun (i : Nat) (_ : Option Addr) (_ : Nat) => [(1, .pointer (some ⟨b1, 0, none⟩)), (2, .pointer (some ⟨b2, 0, none⟩)), (3, .pointer (some ⟨b3, 0, none⟩)), (4, .slice b5 (nds x.n) c5), (12, .slice x.aa x.ands.length x.ac), (13, .int .i64 x.ands.length), (14, .int .i64 (i : Int))])
    (fun i aa ac w' => i ≤ x.ands.length ∧ Hp w0 w' [rB b3 28 [.int .i64 y0.inputs, .slice y0.sa y0.seqs.length y0.sc, .slice aa ((haTo x.n i).1).length ac, .slice y0.oa y0.outs.length y0.oc], rO 66 2 eII aa ac (haTo x.n i).1, rO 3 1 eI b5 c5 ((haTo x.n i).2 ++ List.replicate (x.ands.length - i) 0), rSq y0.sa y0.sc y0.seqs, rO 3 1 eI y0.oa y0.oc y0.outs, rB b2 28 (cellsV Try.ti28.zero), rB b1 28 x.cs])
    (fun i _ _ => x.ands.length - i) 0 y0.aa y0.ac rfl ⟨by omega, hp⟩ ?_
  rintro i aa ac w1 ⟨hi, hp⟩ IH C
  have hl := haTo_len x.n i
  have hB := haTo_ok hok i hi
  have hpl : ((haTo x.n i).2 ++ List.replicate (x.ands.length - i) (0 : Int)).length = nds x.n := by simp; omega
  refine h_run rfl ?_; skip
  refine h_cond_dec (fun hlt => ?_) (fun hlt => ?_)
  · have hlt' : i < x.ands.length := by omega
    have hz : (firstAndL x.n + (i : Int)).toNat = fst_ x.n + i := by omega
    obtain ⟨q1, q2, q3, q4⟩ := hok.and_ hlt'
    have hrep : List.replicate (x.ands.length - i) (0 : Int) = List.replicate (x.ands.length - (i + 1) + 1) 0 := by rw [show x.ands.length - i = x.ands.length - (i + 1) + 1 by omega]
    have l1' : litP (litV (haTo x.n i).2 (x.ands.getD i default).1) (firstAndL x.n + (haTo x.n i).1.length) := (haTo_lits hok hlt' hB).1
    have l2' : litP (litV (haTo x.n i).2 (x.ands.getD i default).2) (firstAndL x.n + (haTo x.n i).1.length) := (haTo_lits hok hlt' hB).2
    have hne5 : b5 ≠ none := nn_of hp (X := (haTo x.n i).2 ++ List.replicate (x.ands.length - i) (0 : Int)) (by omega)
    unfold litP at l1' l2'
    have hfd : firstAndL (y0.wA aa ac (haTo x.n i).1).n = firstAndL x.n := by rw [firstAndL_eq, firstAndL_eq]; show 1 + y0.inputs + (y0.seqs.length : Nat) = _; omega
    have hC : addAndL (y0.wA aa ac (haTo x.n i).1).n (litV (haTo x.n i).2 (x.ands.getD i default).1) (litV (haTo x.n i).2 (x.ands.getD i default).2) = ({ (y0.wA aa ac (haTo x.n i).1).n with ands := (haTo x.n (i + 1)).1 }, (addC (firstAndL x.n) (haTo x.n i).1 (litV (haTo x.n i).2 (x.ands.getD i default).1) (litV (haTo x.n i).2 (x.ands.getD i default).2)).2) := by
      rw [addAndL_C, hfd]; rfl
    have hb3 : NetB (y0.wA aa ac (haTo x.n i).1) := ⟨by show _ ≤ y0.inputs ∧ y0.inputs ≤ _; omega, by show y0.seqs.length ≤ _; omega, by show (haTo x.n i).1.length ≤ _; omega⟩
    refine h_cond_t rfl rfl ?_; (repeat (refine H_ldEN hp rfl (by omega) rfl rfl ?_))
    (first | (refine H_box hp ?_; intro w b6 hx hp) | (refine H_alloc hp rfl ?_; intro w b6 hx hp)); refine ops_run nopre rfl ?_; (repeat (refine U_stBN hp rfl rfl rfl rfl ?_; intro w hp; refine ops_run nopre rfl ?_))
    refine N_draw hp (by kernel_rfl) (by kernel_rfl) rfl rfl ?_; (repeat (refine N_ldB rfl rfl rfl ?_))
    refine N_call Try.func38 (by kernel_rfl) rfl (fun F w hp => ?_); refine Ret.mono (firstAnd_h x _ hok.b) ?_; rintro _ w ⟨rfl, hx⟩; have hp := hp.ext hx; refine ⟨fun _ => hp.sub (by (repeat (first | exact List.sublist_append_left _ _ | apply List.Sublist.cons))), _, hp, ?_⟩; clear hp; refine N_ops rfl rfl ?_; (repeat (refine N_ldB rfl rfl rfl ?_))
    refine N_call Try.func68 (by kernel_rfl) rfl (fun F w hp => ?_); refine Ret.mono (mapLit_h _ _ _ _ hpl (x.ands.getD i default).1 _ hp.pre.rd q1 (by omega) (by omega)) ?_; rintro _ w ⟨rfl, hx⟩; have hp := hp.ext hx; refine ⟨fun _ => hp.sub (by (repeat (first | exact List.sublist_append_left _ _ | apply List.Sublist.cons))), _, hp, ?_⟩; clear hp; refine N_ops rfl rfl ?_; (repeat (refine N_ldB rfl rfl rfl ?_))
    refine N_call Try.func68 (by kernel_rfl) rfl (fun F w hp => ?_); refine Ret.mono (mapLit_h _ _ _ _ hpl (x.ands.getD i default).2 _ hp.pre.rd q3 (by omega) (by omega)) ?_; rintro _ w ⟨rfl, hx⟩; have hp := hp.ext hx; refine ⟨fun _ => hp.sub (by (repeat (first | exact List.sublist_append_left _ _ | apply List.Sublist.cons))), _, hp, ?_⟩; clear hp; refine N_ops rfl rfl ?_; skip
    rw [litV_pad, litV_pad]
    refine N_f2 ?_; refine N_f2 ?_
    refine N_call Try.func67 (by kernel_rfl) rfl (fun F w hp => ?_); refine Ret.mono (addAnd_F (y0.wA aa ac (haTo x.n i).1) b3 (litV (haTo x.n i).2 (x.ands.getD i default).1) (litV (haTo x.n i).2 (x.ands.getD i default).2) hp hb3 (by show (haTo x.n i).1.length ≤ _; omega) (by omega) (by omega)) ?_; rintro _ w ⟨aa', ac', rfl, hp⟩; refine ⟨fun hq => Bool.noConfusion (hq.symm.trans (by kernel_rfl : flagAt _ _ = false)), _, hp, ?_⟩; clear hp; refine N_ops rfl rfl ?_; (repeat (refine N_st0 rfl rfl rfl (by omega) (by decide) rfl rfl (by kernel_rfl) ?_; refine N_ops rfl rfl ?_))
    refine N_end ?_; intro w hp C; refine h_run rfl ?_; skip
    rw [hC, hz, hrep, show fst_ x.n + i = (haTo x.n i).2.length by omega, pad_set] at hp
    refine IH (i + 1) aa' ac' _ _ _ (by omega) rfl ⟨by omega, ?_⟩
    exact hp.f2.drop
  · refine h_cond_f rfl rfl ?_; (repeat (refine H_ldB hp rfl rfl ?_))
    obtain rfl : i = x.ands.length := by omega
    rw [Nat.sub_self, List.replicate_zero, List.append_nil] at hp hpl
    refine h_call rfl Try.func69 (by kernel_rfl) rfl (copyRoots_h b3 (y0.wA aa ac (haTo x.n x.ands.length).1) x b5 c5 (nds x.n) (haTo x.n x.ands.length).2 hpl (hp.f2.f2.f4.f4.f4) hok (Nat.le_refl _) (by omega) (by show _ ≤ y0.seqs.length; omega) (by show y0.seqs.length ≤ _; omega)) ?_; rintro _ w ⟨R, oa, oc, rfl, ⟨hR, hRs⟩, hp⟩; refine ops_run nopre rfl ?_; (repeat (refine H_ldB hp rfl rfl ?_))
    have hRl : R.length = y0.seqs.length := hR
    have hRs2 : seqsOf R = x.n.seqs.map fun s => ⟨s.kind, s.init, mapL (haTo x.n x.ands.length).2 s.ins⟩ := by
      rw [hRs]
      show upTo (crF (seqsOf y0.seqs) x.n _) x.seqs.length (seqsOf y0.seqs) = _
      rw [hys, ← x.slen]
      exact cr_all beg_at.1 beg_at.2
    have hpre : (NetA.mk y0.inputs R y0.sa y0.sc (haTo x.n x.ands.length).1 aa ac (mapL (haTo x.n x.ands.length).2 x.outs) oa oc).n = preL x.n := by
      unfold NetA.n
      rw [hRs2, hyi]
      rfl
    have hp := rNet_shut (x := ⟨y0.inputs, R, y0.sa, y0.sc, (haTo x.n x.ands.length).1, aa, ac, mapL (haTo x.n x.ands.length).2 x.outs, oa, oc⟩) (hp.f2.f3.f3)
    refine gCall ?_
    show Holds _ _ _ _ _ (.act (.call _ [.agg ⟨[.int .i64 y0.inputs, .slice y0.sa y0.seqs.length y0.sc, .slice aa (haTo x.n x.ands.length).1.length ac, .slice oa (mapL (haTo x.n x.ands.length).2 x.outs).length oc]⟩]) _)
    rw [← hRl]
    refine h_call rfl Try.func70 (by kernel_rfl) rfl (sweep_h ⟨y0.inputs, R, y0.sa, y0.sc, (haTo x.n x.ands.length).1, aa, ac, mapL (haTo x.n x.ands.length).2 x.outs, oa, oc⟩ _ hp.net (by rw [hpre]; exact preL_ok hok)) ?_; rintro _ w ⟨z, ⟨hz, rfl⟩, hq⟩; have hx := hq.x; have hp := hp.call1 hq; refine ops_run nopre rfl ?_; (repeat (first | (refine gStore ?_; refine U_stBN hp rfl rfl rfl rfl ?_; intro w hp; refine ops_run nopre rfl ?_) | (refine gRetc ?_; refine R_ret1 hp rfl ?_)))
    rw [hpre] at hz
    exact ⟨z, ⟨hz, rfl⟩, Hp.tk hp 1⟩
theorem implHash_x (x : NetA) (w0 : World) (hX : NetR w0 x) (hS : NetS x.n) (hW : NetW x.n) :
    Ret Try.prog 16 [x.v] w0 (fun v w => ∃ y, (y.n = ifNet x.n (hashL x.n) ∧ v = y.v) ∧ Hp w0 w [rNet y]) := by
  refine enter Try.S16ok _ _ rfl rfl (by show _ ≤ _; simp only [List.length]; decide) (fun C => ?_); have hp := Hp.nil w0; refine h_run rfl ?_; skip; (first | (refine H_box hp ?_; intro w b1 hx hp) | (refine H_alloc hp rfl ?_; intro w b1 hx hp)); refine ops_run nopre rfl ?_; skip; (first | (refine H_box hp ?_; intro w b2 hx hp) | (refine H_alloc hp rfl ?_; intro w b2 hx hp)); refine ops_run nopre rfl ?_; (repeat (refine H_ldB hp rfl rfl ?_))
  by_cases hok : NetOkP x.n
  · refine h_call rfl Try.func32 (by kernel_rfl) rfl ((implNetOk_h x _ hp.net hS).tt (netOkB_yes hok)) ?_; rintro _ w ⟨rfl, hx⟩; have hp := hp.ext hx; refine ops_run nopre rfl ?_; skip
    refine h_cond_f rfl rfl ?_; (repeat (refine H_ldB hp rfl rfl ?_))
    refine h_call rfl Try.func37 (by kernel_rfl) rfl (hashed_h x _ hp.net hok) ?_; rintro _ w ⟨y, ⟨hy, rfl⟩, hq⟩; have hx := hq.x; have hp := hp.call1 hq; refine ops_run nopre rfl ?_; (repeat (first | (refine gStore ?_; refine U_stBN hp rfl rfl rfl rfl ?_; intro w hp; refine ops_run nopre rfl ?_) | (refine gRetc ?_; refine R_ret1 hp rfl ?_)))
    rw [ifNet_yes hok]
    exact ⟨y, ⟨hy, rfl⟩, hp.sub (by simp)⟩
  · refine h_call rfl Try.func32 (by kernel_rfl) rfl ((implNetOk_h x _ hp.net hS).ff (netOkB_no hok)) ?_; rintro _ w ⟨rfl, hx⟩; have hp := hp.ext hx; refine ops_run nopre rfl ?_; skip
    refine h_cond_t rfl rfl ?_; (repeat (first | (refine gStore ?_; refine U_stBN hp rfl rfl rfl rfl ?_; intro w hp; refine ops_run nopre rfl ?_) | (refine gRetc ?_; refine R_ret1 hp rfl ?_)))
    rw [ifNet_no hok]
    exact ⟨nilA, ⟨rfl, rfl⟩, Hp.tk (hpNil hp) 1⟩
end Go.Proofs
end
section
/- Adding AND nodes to a net that stands first in a bigger struct, and copying roots to it (printed by gen_bal.py out of XAdd and XMap); each under its stated conditions. -/
namespace Go.Xw
/-- the cells of a struct that begins with a net -/
def NetA.cb (y : NetA) (v : Value) : List Value := [.int .i64 y.inputs, .slice y.sa y.seqs.length y.sc, .slice y.aa y.ands.length y.ac, .slice y.oa y.outs.length y.oc, v]
end Go.Xw
namespace Go.Proofs
open Go.Xw
set_option maxRecDepth 100000
set_option maxHeartbeats 1000000
attribute [local irreducible] Holds elemAddr
theorem addAndW_h (y : NetA) (bv : Value) (p : Nat) (a b : Int) {w0 w : World} {L : List Res} (hp : Hp w0 w (rB p 91 (y.cb bv) :: rO 66 2 eII y.aa y.ac y.ands :: L)) (hb : NetB y) (hl : y.ands.length ≤ 1000000) (ha : 0 ≤ a ∧ a ≤ 1000000) (hb2 : 0 ≤ b ∧ b ≤ 1000000) :
    Ret Try.prog 67 [.pointer (some ⟨p, 0, none⟩), .int .i64 a, .int .i64 b] w (fun v w' => ∃ aa ac, v = .int .i64 (addAndL y.n a b).2 ∧ Hp w0 w' (rB p 91 ((y.wA aa ac (addAndL y.n a b).1.ands).cb bv) :: rO 66 2 eII aa ac (addAndL y.n a b).1.ands :: L)) := by
  have hnc := notL_eq ha.1 (by omega)
  have hnn : ∀ v, notL a = v ↔ bits .xor .i64 a 1 = v := fun v => .rfl
  refine enter Try.S67ok _ _ rfl rfl (by show _ ≤ _; simp only [List.length]; decide) (fun C => ?_); refine h_run rfl ?_; skip
  refine h_guard_by (fun h1 => ?_) (fun h1 => ?_); all_goals (rw [h1]; (first | replace h1 := of_decide_eq_true h1 | replace h1 := of_decide_eq_false h1 | skip); (repeat (refine gGuard ?_; first | refine h_guard_y rfl nopre rfl ?_ | refine h_guard_n rfl nopre rfl ?_)))
  · refine h_cond_t rfl rfl ?_; (repeat (refine R_ret ?_))
    have e : addAndL y.n a b = (y.n, 0) := by unfold addAndL; rw [if_pos (.inl h1)]
    rw [e]
    exact ⟨y.aa, y.ac, rfl, hp⟩
  · refine h_guard_by (fun h2 => ?_) (fun h2 => ?_); all_goals (rw [h2]; (first | replace h2 := of_decide_eq_true h2 | replace h2 := of_decide_eq_false h2 | skip); (repeat (refine gGuard ?_; first | refine h_guard_y rfl nopre rfl ?_ | refine h_guard_n rfl nopre rfl ?_)))
    · refine h_cond_t rfl rfl ?_; (repeat (refine R_ret ?_))
      have e : addAndL y.n a b = (y.n, 0) := by unfold addAndL; rw [if_pos (.inr (.inl h2))]
      rw [e]
      exact ⟨y.aa, y.ac, rfl, hp⟩
    · refine h_cond_dec (fun h3 => ?_) (fun h3 => ?_)
      · refine h_cond_t rfl rfl ?_; (repeat (refine R_ret ?_))
        have e : addAndL y.n a b = (y.n, 0) := by unfold addAndL; rw [if_pos (.inr (.inr h3))]
        rw [e]
        exact ⟨y.aa, y.ac, rfl, hp⟩
      · have e0 : ¬ (a = 0 ∨ b = 0 ∨ notL a = b) := fun h => h.elim h1 fun h => h.elim h2 h3
        refine h_cond_f rfl rfl ?_; skip
        refine h_guard_by (fun h4 => ?_) (fun h4 => ?_); all_goals (rw [h4]; (first | replace h4 := of_decide_eq_true h4 | replace h4 := of_decide_eq_false h4 | skip); (repeat (refine gGuard ?_; first | refine h_guard_y rfl nopre rfl ?_ | refine h_guard_n rfl nopre rfl ?_)))
        · refine h_cond_t rfl rfl ?_; (repeat (refine R_ret ?_))
          have e : addAndL y.n a b = (y.n, b) := by unfold addAndL; rw [if_neg e0, if_pos (.inl h4)]
          rw [e]
          exact ⟨y.aa, y.ac, rfl, hp⟩
        · refine h_cond_dec (fun h5 => ?_) (fun h5 => ?_)
          · refine h_cond_t rfl rfl ?_; (repeat (refine R_ret ?_))
            have e : addAndL y.n a b = (y.n, b) := by unfold addAndL; rw [if_neg e0, if_pos (.inr h5)]
            rw [e]
            exact ⟨y.aa, y.ac, rfl, hp⟩
          · refine h_cond_f rfl rfl ?_; skip
            refine h_cond_dec (fun h6 => ?_) (fun h6 => ?_)
            · refine h_cond_t rfl rfl ?_; (repeat (refine R_ret ?_))
              have e : addAndL y.n a b = (y.n, a) := by unfold addAndL; rw [if_neg e0, if_neg (fun h => h.elim h4 h5), if_pos h6]
              rw [e]
              exact ⟨y.aa, y.ac, rfl, hp⟩
            · have e1 : addAndL y.n a b = if y.ands.idxOf (min a b, max a b) < y.ands.length then (y.n, 2 * (firstAndL y.n + (y.ands.idxOf (min a b, max a b) : Nat)))
                  else if 300 ≤ y.ands.length then (y.n, -1) else ({ y.n with ands := y.ands ++ [(min a b, max a b)] }, 2 * nodesL y.n) := by
                unfold addAndL; rw [if_neg e0, if_neg (fun h => h.elim h4 h5), if_neg h6]; rfl
              refine h_cond_f rfl rfl ?_; skip
              (first | (refine H_box hp ?_; intro w b7 hx hp) | (refine H_alloc hp rfl ?_; intro w b7 hx hp)); refine ops_run nopre rfl ?_; (repeat (first | (refine gLoad ?_; refine H_ldB hp rfl rfl ?_) | (refine gStore ?_; refine U_stBN hp rfl rfl rfl rfl ?_; intro w hp; refine ops_run nopre rfl ?_)))
              refine h_loop [0, 7, 46, 47, 48] (fun (i : Nat) => [(0, .pointer (some ⟨p, 0, none⟩)), (7, .pointer (some ⟨b7, 0, none⟩)), (46, .slice y.aa y.ands.length y.ac), (47, .int .i64 y.ands.length), (48, .int .i64 (i : Int))])
                (fun i w' => i ≤ y.ands.length ∧ (∀ j, j < i → y.ands.getD j default ≠ (min a b, max a b)) ∧ Hp w0 w' (rB b7 66 (eII (min a b, max a b)) :: rB p 91 (y.cb bv) :: rO 66 2 eII y.aa y.ac y.ands :: L)) (fun i => y.ands.length - i) 0 rfl ⟨by omega, fun j hj => by omega, hp⟩ ?_
              rintro i w2 ⟨hi, hne, hp⟩ IH C
              refine h_run rfl ?_; skip
              refine h_cond_dec (fun hlt => ?_) (fun hlt => ?_)
              · have hlt' : i < y.ands.length := by omega
                refine h_cond_t rfl rfl ?_; (repeat (refine H_ldEN hp rfl (by omega) rfl rfl ?_))
                (first | (refine H_box hp ?_; intro w b9 hx hp) | (refine H_alloc hp rfl ?_; intro w b9 hx hp)); refine ops_run nopre rfl ?_; (repeat (first | (refine gLoad ?_; refine H_ldB hp rfl rfl ?_) | (refine gStore ?_; refine U_stBN hp rfl rfl rfl rfl ?_; intro w hp; refine ops_run nopre rfl ?_)))
                refine h_cond_b (fun he => ?_) (fun he => ?_)
                · have he : y.ands.getD i default = (min a b, max a b) := by
                    simp only [Bool.and_true, Bool.and_eq_true, decide_eq_true_eq] at he
                    first | exact Prod.ext he.1 he.2 | exact Prod.ext he.1.symm he.2.symm
                  have hix := idxOf_at hne hlt' he
                  refine h_cond_t rfl rfl ?_; (repeat (refine H_ldB hp rfl rfl ?_))
                  have hfb := firstAndL_eq y
                  obtain ⟨g1, g2, g3⟩ := id hb
                  refine h_call rfl Try.func38 (by kernel_rfl) rfl (firstAnd_h y _ hb) ?_; rintro _ w ⟨rfl, hx⟩; have hp := hp.ext hx; refine ops_run nopre rfl ?_; (repeat (refine R_ret ?_))
                  rw [e1, hix, if_pos hlt']
                  skip
                  exact ⟨y.aa, y.ac, rfl, hp.drop.drop⟩
                · have he : y.ands.getD i default ≠ (min a b, max a b) := fun h2 => by
                    simp only [Bool.and_true, Bool.and_eq_false_iff, decide_eq_false_iff_not] at he
                    rcases he with he | he <;> exact he (by rw [h2])
                  refine h_cond_f rfl rfl ?_; skip
                  refine IH (i + 1) _ _ _ (by omega) rfl ⟨by omega, fun j hj => ?_, hp.drop⟩
                  by_cases hj2 : j < i
                  · exact hne j hj2
                  · obtain rfl : j = i := by omega
                    exact he
              · obtain rfl : i = y.ands.length := by omega
                have hix := idxOf_none hne
                refine h_cond_f rfl rfl ?_; (repeat (refine H_ldB hp rfl rfl ?_))
                refine h_cond_dec (fun h7 => ?_) (fun h7 => ?_)
                · refine h_cond_t rfl rfl ?_; (repeat (refine R_ret ?_))
                  rw [e1, if_neg hix, if_pos (by omega)]
                  exact ⟨y.aa, y.ac, rfl, hp.drop⟩
                · refine h_cond_f rfl rfl ?_; skip
                  refine D_draw hp (by kernel_rfl) (by kernel_rfl) rfl rfl ?_; intro w hx hp; have hs := hp; (repeat (refine D_ldB rfl rfl rfl ?_))
                  refine D_lit (fun _ hx => hs.ext hx) hp eII [(min a b, max a b)] rfl rfl rfl rfl (s := 2) rfl (by decide) (by infer_instance) (by rfl) (by rfl) (by rfl) (by decide) ?_; intro w b8 hx hp; have hs := hs.ext hx; refine D_ops rfl rfl ?_; skip
                  refine V_append hp rfl rfl rfl rfl rfl rfl rfl (by decide) rfl (by first | omega | (simp only [List.length_append, List.length_cons, List.length_nil, List.length_take, List.length_drop, List.length_set, List.length_replicate, List.length_map]; omega)) rfl rfl (by kernel_rfl) ?_; intro b' c' w hp hnil; refine D_ops rfl rfl ?_; (repeat (refine V_stB hp rfl rfl rfl rfl (by kernel_rfl) ?_; intro w hp; refine D_ops rfl rfl ?_))
                  have hb3 : NetB (y.wA b' c' (y.ands ++ [(min a b, max a b)])) := ⟨hb.1, hb.2, by show (y.ands ++ _).length ≤ _; simp; omega⟩
                  have hnd : nodesL (y.wA b' c' (y.ands ++ [(min a b, max a b)])).n = nodesL y.n + 1 := by rw [nodesL_eq, nodesL_eq]; show 1 + y.inputs + y.seqs.length + ((y.ands ++ _).length : Nat) = _; simp; omega
                  have hnd2 := nodesL_eq y
                  obtain ⟨g1, g2, g3⟩ := id hb
                  (repeat (refine H_ldB hp rfl rfl ?_))
                  refine h_call rfl Try.func56 (by kernel_rfl) rfl (nodeCount_h (y.wA b' c' (y.ands ++ [(min a b, max a b)])) _ hb3) ?_; rintro _ w ⟨rfl, hx⟩; have hp := hp.ext hx; refine ops_run nopre rfl ?_; (repeat (refine R_ret ?_))
                  rw [e1, if_neg hix, if_neg (by omega)]
                  refine ⟨b', c', by congr 1; omega, ?_⟩
                  exact hp.drop.drop
theorem copyRootsW_h (bv : Value) (p : Nat) (y x : NetA) (pa : Option Addr) (pc m : Nat) (to : List Int) (hm : to.length = m) {w0 w : World} {L : List Res} (hp : Hp w0 w (rB p 91 (y.cb bv) :: rSq y.sa y.sc y.seqs :: rO 3 1 eI y.oa y.oc y.outs :: L)) [hX : NetH w0 L x] [hT : RdH w0 L pa 1 eI to] (hok : NetOkP x.n) (hnd : nds x.n ≤ m) (hmb : m ≤ 1000000) (hyl : x.seqs.length ≤ y.seqs.length) (hyb : y.seqs.length ≤ 1000000) :
    Ret Try.prog 69 [.pointer (some ⟨p, 0, none⟩), x.v, .slice pa m pc] w (fun v w' => ∃ R oa oc, v = .tuple ⟨[]⟩ ∧ (R.length = y.seqs.length ∧ seqsOf R = upTo (crF (seqsOf y.seqs) x.n to) x.seqs.length (seqsOf y.seqs)) ∧
      Hp w0 w' (rB p 91 [.int .i64 y.inputs, .slice y.sa y.seqs.length y.sc, .slice y.aa y.ands.length y.ac, .slice oa (mapL to x.outs).length oc, bv] :: rSq y.sa y.sc R :: rO 3 1 eI oa oc (mapL to x.outs) :: L)) := by
  subst hm
  have hn := hok.nums
  have n1 := hn.n1
  have n2 := hn.n2
  have hsz := hok.size'
  have hsl := x.slen
  have hlit : ∀ l, litP l (nodesL x.n) → 0 ≤ l ∧ l / 2 < to.length := fun l h => by unfold litP at h; omega
  refine enter Try.S69ok _ _ rfl rfl (by show _ ≤ _; simp only [List.length]; decide) (fun C => ?_); refine h_run rfl ?_; skip
  (first | (refine H_box hp ?_; intro w b4 hx hp) | (refine H_alloc hp rfl ?_; intro w b4 hx hp)); refine ops_run nopre rfl ?_; (repeat (refine H_ldB hp rfl rfl ?_))
  have hp := rSq_open (hp.f3.f2.f2.f3)
  refine h_loop2 [0, 2, 4, 9, 10, 11] (fun (i : Nat) (_ : List SeqA) => [(0, .pointer (some ⟨p, 0, none⟩)), (2, .slice pa to.length pc), (4, .pointer (some ⟨b4, 0, none⟩)), (9, .slice x.sa x.seqs.length x.sc), (10, .int .i64 x.seqs.length), (11, .int .i64 (i : Int))])
    (fun i R w' => (i ≤ x.seqs.length ∧ R.length = y.seqs.length ∧ seqsOf R = upTo (crF (seqsOf y.seqs) x.n to) i (seqsOf y.seqs)) ∧ Hp w0 w' (rO 63 3 eSq y.sa y.sc R :: rIns R :: rB b4 28 x.cs :: rB p 91 (y.cb bv) :: rO 3 1 eI y.oa y.oc y.outs :: L)) (fun i _ => x.seqs.length - i) 0 y.seqs rfl
    ⟨⟨by omega, rfl, by rw [upTo_zero]⟩, hp⟩ ?_
  rintro i R w1 ⟨⟨hi, hR, hRs⟩, hp⟩ IH C
  refine h_run rfl ?_; skip
  refine h_cond_dec (fun hlt => ?_) (fun hlt => ?_)
  · have hlt' : i < x.seqs.length := by omega
    have hil := hok.ins hlt'
    have hsx := x.sins i
    have hq : ∀ j, j < (x.seqs.getD i default).ins.length → 0 ≤ (x.seqs.getD i default).ins.getD j default ∧ (x.seqs.getD i default).ins.getD j default / 2 < to.length := fun j hj =>
      hlit _ (hok.inp (getD_mem (show i < x.n.seqs.length by omega)) _ (by rw [hsx]; exact getD_mem hj))
    refine h_cond_t rfl rfl ?_; (repeat (refine H_ldEN hp rfl (by omega) rfl rfl ?_))
    have hrow := hX.in_ hlt'
    have hne : y.sa ≠ none := nn_of hp (X := R) (by omega)
    (first | (refine H_box hp ?_; intro w b7 hx hp) | (refine H_alloc hp rfl ?_; intro w b7 hx hp)); refine ops_run nopre rfl ?_; (repeat (refine U_stBN hp rfl rfl rfl rfl ?_; intro w hp; refine ops_run nopre rfl ?_))
    refine N_draw hp (by kernel_rfl) (by kernel_rfl) rfl rfl ?_; (repeat (refine N_ldB rfl rfl rfl ?_))
    refine N_call Try.func99 (by kernel_rfl) rfl (fun F w hp => ?_); refine Ret.mono (mapLits_h pa _ pc _ to (x.seqs.getD i default).ins _ _ rfl rfl _ hp.pre.rd hp.pre.rd hq (by omega) (by omega)) ?_; rintro _ w ⟨r, e, rfl, hq⟩; have hp := hp.callF1 hq; refine ⟨fun _ => hp.sub (by (repeat (first | exact List.sublist_append_left _ _ | apply List.Sublist.cons))), _, hp, ?_⟩; clear hp; refine N_ops rfl rfl ?_; skip
    first | refine N_st1N ({ R.getD i default with ins := mapL to (x.seqs.getD i default).ins, ia := r, ic := e }) rfl rfl rfl (by omega) (by decide) rfl rfl (by kernel_rfl) ?_ | refine N_st1 ({ R.getD i default with ins := mapL to (x.seqs.getD i default).ins, ia := r, ic := e }) rfl rfl rfl (by omega) (by decide) rfl rfl (by kernel_rfl) ?_
    refine N_ops rfl rfl ?_; skip
    refine N_end ?_; intro w hp C; refine h_run rfl ?_; skip
    obtain ⟨Q, hq, hback⟩ := rIns_at (hp.f1.drop.f2) (i := i) (by omega)
    have hp := (hback _ _ { R.getD i default with ins := mapL to (x.seqs.getD i default).ins, ia := r, ic := e } hq.drop.f1).f1
    refine IH (i + 1) _ _ _ _ (by omega) rfl ⟨⟨by omega, by simp; omega, ?_⟩, hp⟩
    have hix : i < (seqsOf y.seqs).length := by rw [seqsOf_len]; omega
    rw [seqsOf_set, hRs, ← upTo_set (f := crF (seqsOf y.seqs) x.n to) hix]
    congr 1
    have h1 : (R.getD i default).s = (seqsOf y.seqs).getD i default := by
      rw [← seqsOf_get, hRs, upTo_at (Nat.le_refl _) (by omega)]
    unfold crF
    rw [← h1, hsx]
    rfl
  · refine h_cond_f rfl rfl ?_; (repeat (refine H_ldB hp rfl rfl ?_))
    obtain rfl : i = x.seqs.length := by omega
    refine h_call rfl Try.func99 (by kernel_rfl) rfl (mapLits_h pa _ pc _ to x.outs _ _ rfl rfl _ hp.rd hp.rd (fun j hj => hlit _ (hok.out _ (getD_mem hj))) (by omega) (by omega)) ?_; rintro _ w ⟨r, e, rfl, hq⟩; have hx := hq.x; have hp := hp.call1 hq; refine ops_run nopre rfl ?_; (repeat (first | (refine gStore ?_; refine U_stB hp rfl rfl rfl rfl ?_; intro w hp; refine ops_run nopre rfl ?_) | refine R_ret ?_))
    have hp := rSq_shut (hp.f5.drop.f3.drop.f3.f1.f3.f3)
    exact ⟨R, r, e, rfl, ⟨hR, hRs⟩, hp.f1.f1.f2⟩
end Go.Proofs
end
