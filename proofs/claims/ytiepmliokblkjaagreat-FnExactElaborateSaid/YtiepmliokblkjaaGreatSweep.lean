/- The contracts of the functions that drop unreached nodes; each under its stated conditions. -/
import Derived.Test.YtiepmliokblkjaaGreatMap
import Derived.Test.YtiepmliokblkjaaGreatCone
set_option linter.all false
namespace Go.Proofs
open Go.Xw
set_option maxRecDepth 100000
set_option maxHeartbeats 1000000
attribute [local irreducible] Holds elemAddr
theorem sweep_h (x : NetA) (w0 : World) (hX : NetR w0 x) (hok : NetOkP x.n) :
  Ret Tryz.prog 109 [x.v] w0 (fun v w => ∃ y, (y.n = sweepL x.n ∧ v = y.v) ∧ Hp w0 w [rNet y]) := by
 have hn := hok.nums
 have n1 := hn.n1
 have n4 := hn.n2
 have f2 := hn.f2
 have hnd := hok.nodes
 have hsz := hok.size'
 have hal : x.n.ands.length = x.ands.length := rfl
 have hrl := reachedL_len' x.n
 refine enter Tryz.S109ok _ _ rfl rfl (by show _ ≤ _; simp only [List.length]; decide) (fun C => ?_); have hp := Hp.nil w0; refine h_run rfl ?_; skip; (first | refine H_box hp ?_ | refine H_alloc hp rfl ?_); intro w b1 hx hp; refine ops_run nopre rfl ?_; skip; (first | refine H_box hp ?_ | refine H_alloc hp rfl ?_); intro w b2 hx hp; refine ops_run nopre rfl ?_; (repeat (refine H_ldB hp rfl rfl ?_))
 refine h_call rfl Tryz.func69 (by kernel_rfl) rfl (implReached_h x _ hp.net hok) ?_; rintro _ w ⟨b3, c3, rfl, hq⟩; have hx := hq.x; have hp := hp.call1 hq; refine ops_run nopre rfl ?_; (repeat (refine H_ldB hp rfl rfl ?_))
 refine h_call rfl Tryz.func104 (by kernel_rfl) rfl (emptyCopy_h x _ hp.net hok) ?_; rintro _ w ⟨y0, ⟨hy0, rfl⟩, hq⟩; have hx := hq.x; have hp := hp.call1 hq; refine ops_run nopre rfl ?_; skip
 (first | refine H_box hp ?_ | refine H_alloc hp rfl ?_); intro w b4 hx hp; refine ops_run nopre rfl ?_; (repeat (first | (refine gLoad ?_; refine H_ldB hp rfl rfl ?_) | (refine gStore ?_; refine U_stBN hp rfl rfl rfl rfl ?_; intro w hp; refine ops_run nopre rfl ?_)))
 refine h_call rfl Tryz.func105 (by kernel_rfl) rfl (leafLits_h x _ hok) ?_; rintro _ w ⟨b5, c5, rfl, hq⟩; have hx := hq.x; have hp := hp.call1 hq; refine ops_run nopre rfl ?_; (repeat (refine H_ldB hp rfl rfl ?_))
 have hya : y0.ands = [] := congrArg NetL.ands hy0
 have hyi : y0.inputs = x.inputs := congrArg NetL.inputs hy0
 have hys : seqsOf y0.seqs = (begL x.n []).seqs := congrArg NetL.seqs hy0
 have hyl : y0.seqs.length = x.seqs.length := by rw [← seqsOf_len y0.seqs, hys, beg_at.1, x.slen]
 have hcs : y0.cs = (y0.wA y0.aa y0.ac []).cs := by unfold NetA.cs NetA.wA; rw [hya]
 have hp := (rNet_open hp.f2).f7.f7.f4.f3.f7.f6.f6.f7
 rw [hya] at hp
 have hp := Hp.cgB hp hcs
 refine h_loop3 [1, 2, 3, 4, 5, 16, 17, 18] (fun (i : Nat) (_ : Option Addr) (_ : Nat) => [(1, .pointer (some ⟨b1, 0, none⟩)), (2, .pointer (some ⟨b2, 0, none⟩)), (3, .slice b3 (nds x.n) c3), (4, .pointer (some ⟨b4, 0, none⟩)), (5, .slice b5 (nds x.n) c5), (16, .slice x.aa x.ands.length x.ac), (17, .int .i64 x.ands.length), (18, .int .i64 (i : Int))])
  (fun i aa ac w' => i ≤ x.ands.length ∧ Hp w0 w' [rB b4 33 [.int .i64 y0.inputs, .slice y0.sa y0.seqs.length y0.sc, .slice aa ((swTo x.n (reachedL x.n) i).1).length ac, .slice y0.oa y0.outs.length y0.oc], rO 120 2 eII aa ac (swTo x.n (reachedL x.n) i).1, rO 3 1 eI b5 c5 ((swTo x.n (reachedL x.n) i).2 ++ List.replicate (x.ands.length - i) 0), rO 4 1 eB b3 c3 (reachedL x.n), rSq y0.sa y0.sc y0.seqs, rO 3 1 eI y0.oa y0.oc y0.outs, rB b2 33 (cellsV Tryz.ti33.zero), rB b1 33 x.cs])
  (fun i _ _ => x.ands.length - i) 0 y0.aa y0.ac rfl ⟨by omega, hp⟩ ?_
 rintro i aa ac w1 ⟨hi, hp⟩ IH C
 have hl := swTo_len x.n (reachedL x.n) i
 have hB := swTo_ok hok (reachedL x.n) i hi
 have hpl : ((swTo x.n (reachedL x.n) i).2 ++ List.replicate (x.ands.length - i) (0 : Int)).length = nds x.n := by simp; omega
 refine h_run rfl ?_; skip
 refine h_cond_dec (fun hlt => ?_) (fun hlt => ?_)
 ·have hlt' : i < x.ands.length := by omega
  have hz : (firstAndL x.n + (i : Int)).toNat = fst_ x.n + i := by omega
  obtain ⟨q1, q2, q3, q4⟩ := hok.and_ hlt'
  have hrep : List.replicate (x.ands.length - i) (0 : Int) = List.replicate (x.ands.length - (i + 1) + 1) 0 := by rw [show x.ands.length - i = x.ands.length - (i + 1) + 1 by omega]
  refine h_cond_t rfl rfl ?_; (repeat (refine H_ldEN hp rfl (by omega) rfl rfl ?_))
  (first | refine H_box hp ?_ | refine H_alloc hp rfl ?_); intro w b7 hx hp; refine ops_run nopre rfl ?_; (repeat (first | (refine gLoad ?_; refine H_ldB hp rfl rfl ?_) | (refine gStore ?_; refine U_stBN hp rfl rfl rfl rfl ?_; intro w hp; refine ops_run nopre rfl ?_)))
  refine h_call rfl Tryz.func70 (by kernel_rfl) rfl (firstAnd_h x _ hok.b) ?_; rintro _ w ⟨rfl, hx⟩; have hp := hp.ext hx; refine ops_run nopre rfl ?_; (repeat (refine H_ldE hp rfl (by omega) (by omega) rfl rfl ?_))
  refine h_cond_b (fun hk => ?_) (fun hk => ?_)
  ·rw [hz] at hk
   have e1 : (swTo x.n (reachedL x.n) (i + 1)).1 = (swTo x.n (reachedL x.n) i).1 ++ [(litV (swTo x.n (reachedL x.n) i).2 (x.ands.getD i default).1, litV (swTo x.n (reachedL x.n) i).2 (x.ands.getD i default).2)] := by rw [swTo, if_pos hk]; rfl
   have e2 : (swTo x.n (reachedL x.n) (i + 1)).2 = (swTo x.n (reachedL x.n) i).2 ++ [2 * (firstAndL x.n + (swTo x.n (reachedL x.n) i).1.length)] := by rw [swTo, if_pos hk]
   have g1 := hB.f1
   have g2 := hB.alen
   refine h_cond_t rfl rfl ?_; skip
   refine N_draw hp (by kernel_rfl) (by kernel_rfl) rfl rfl ?_; (repeat (refine N_ldB rfl rfl rfl ?_))
   refine N_call Tryz.func107 (by kernel_rfl) rfl (fun F w hp => ?_); refine Ret.mono (mapLit_h _ _ _ _ hpl (x.ands.getD i default).1 _ hp.pre.rd q1 (by omega) (by omega)) ?_; rintro _ w ⟨rfl, hx⟩; have hp := hp.ext hx; refine ⟨fun _ => hp.sub (by (repeat (first | exact List.sublist_append_left _ _ | apply List.Sublist.cons))), _, hp, ?_⟩; clear hp; refine N_ops rfl rfl ?_; (repeat (refine N_ldB rfl rfl rfl ?_))
   refine N_call Tryz.func107 (by kernel_rfl) rfl (fun F w hp => ?_); refine Ret.mono (mapLit_h _ _ _ _ hpl (x.ands.getD i default).2 _ hp.pre.rd q3 (by omega) (by omega)) ?_; rintro _ w ⟨rfl, hx⟩; have hp := hp.ext hx; refine ⟨fun _ => hp.sub (by (repeat (first | exact List.sublist_append_left _ _ | apply List.Sublist.cons))), _, hp, ?_⟩; clear hp; refine N_ops rfl rfl ?_; skip
   rw [litV_pad, litV_pad]
   refine N_lit eII [(litV (swTo x.n (reachedL x.n) i).2 (x.ands.getD i default).1, litV (swTo x.n (reachedL x.n) i).2 (x.ands.getD i default).2)] rfl rfl rfl rfl (s := 2) rfl (by decide) (by infer_instance) (by rfl) (by rfl) (by rfl) (by decide) ?_; intro b42; refine N_ops rfl rfl ?_; skip
   refine N_append rfl rfl rfl rfl rfl rfl rfl (by decide) rfl (by first | omega | (simp only [List.length_append, List.length_cons, List.length_nil, List.length_take, List.length_drop, List.length_set, List.length_replicate, List.length_map]; omega)) rfl rfl (fun hq => Bool.noConfusion (hq.symm.trans (by kernel_rfl : flagAt _ _ = false))) ?_; intro aa' ac' hnil; refine N_ops rfl rfl ?_; (repeat (refine N_stB rfl rfl rfl rfl (by kernel_rfl) ?_; refine N_ops rfl rfl ?_))
   refine N_end ?_; intro w hp C; refine h_run rfl ?_; (repeat (refine H_ldB hp rfl rfl ?_))
   have hb3 : NetB (y0.wA aa' ac' ((swTo x.n (reachedL x.n) i).1 ++ [(litV (swTo x.n (reachedL x.n) i).2 (x.ands.getD i default).1, litV (swTo x.n (reachedL x.n) i).2 (x.ands.getD i default).2)])) := ⟨by show _ ≤ y0.inputs ∧ y0.inputs ≤ _; omega, by show y0.seqs.length ≤ _; omega, by show ((swTo x.n (reachedL x.n) i).1 ++ _).length ≤ _; simp; omega⟩
   have hnd3 : nodesL (y0.wA aa' ac' ((swTo x.n (reachedL x.n) i).1 ++ [(litV (swTo x.n (reachedL x.n) i).2 (x.ands.getD i default).1, litV (swTo x.n (reachedL x.n) i).2 (x.ands.getD i default).2)])).n - 1 = firstAndL x.n + (swTo x.n (reachedL x.n) i).1.length := by
    rw [nodesL_eq, firstAndL_eq]; show 1 + y0.inputs + y0.seqs.length + (((swTo x.n (reachedL x.n) i).1 ++ _).length : Nat) - 1 = _; simp; omega
   refine h_call rfl Tryz.func128 (by kernel_rfl) rfl (nodeCount_h (y0.wA aa' ac' ((swTo x.n (reachedL x.n) i).1 ++ [(litV (swTo x.n (reachedL x.n) i).2 (x.ands.getD i default).1, litV (swTo x.n (reachedL x.n) i).2 (x.ands.getD i default).2)])) _ hb3) ?_; rintro _ w ⟨rfl, hx⟩; have hp := hp.ext hx; refine ops_run nopre rfl ?_; (repeat (refine U_st0 hp rfl rfl rfl (by omega) (by decide) rfl rfl ?_; intro w hp; refine ops_run nopre rfl ?_))
   rw [hnd3, hz, hrep, show fst_ x.n + i = (swTo x.n (reachedL x.n) i).2.length by omega, pad_set] at hp
   refine IH (i + 1) aa' ac' _ _ _ (by omega) rfl ⟨by omega, ?_⟩
   rw [e1, e2]
   exact hp.drop.drop
  ·rw [hz] at hk
   have e : swTo x.n (reachedL x.n) (i + 1) = ((swTo x.n (reachedL x.n) i).1, (swTo x.n (reachedL x.n) i).2 ++ [0]) := by rw [swTo, if_neg (by rw [hk]; decide)]
   refine h_cond_f rfl rfl ?_; skip
   refine IH (i + 1) aa ac _ _ _ (by omega) rfl ⟨by omega, ?_⟩
   rw [hrep, List.replicate_succ, List.append_cons] at hp
   rw [e]
   exact hp.drop
 ·refine h_cond_f rfl rfl ?_; (repeat (refine H_ldB hp rfl rfl ?_))
  obtain rfl : i = x.ands.length := by omega
  rw [Nat.sub_self, List.replicate_zero, List.append_nil] at hp hpl
  refine h_call rfl Tryz.func108 (by kernel_rfl) rfl (copyRoots_h b4 (y0.wA aa ac (swTo x.n (reachedL x.n) x.ands.length).1) x b5 c5 (nds x.n) (swTo x.n (reachedL x.n) x.ands.length).2 hpl (hp.f2.f2.f5.f5.f4) hok (Nat.le_refl _) (by omega) (by show _ ≤ y0.seqs.length; omega) (by show y0.seqs.length ≤ _; omega)) ?_; rintro _ w ⟨R, oa, oc, rfl, ⟨hR, hRs⟩, hp⟩; refine ops_run nopre rfl ?_; (repeat (first | (refine gLoad ?_; refine H_ldB hp rfl rfl ?_) | (refine gStore ?_; refine U_stBN hp rfl rfl rfl rfl ?_; intro w hp; refine ops_run nopre rfl ?_) | (refine gRetc ?_; refine R_ret1 hp rfl ?_)))
  have hRl : R.length = y0.seqs.length := hR
  have hRs2 : seqsOf R = x.n.seqs.map fun s => ⟨s.kind, s.init, mapL (swTo x.n (reachedL x.n) x.ands.length).2 s.ins⟩ := by
   rw [hRs]
   show upTo (crF (seqsOf y0.seqs) x.n _) x.seqs.length (seqsOf y0.seqs) = _
   rw [hys, ← x.slen]
   exact cr_all beg_at.1 beg_at.2
  refine ⟨⟨x.inputs, R, y0.sa, y0.sc, (swTo x.n (reachedL x.n) x.ands.length).1, aa, ac, mapL (swTo x.n (reachedL x.n) x.ands.length).2 x.outs, oa, oc⟩, ⟨?_, ?_⟩, ?_⟩
  ·unfold NetA.n
   rw [hRs2]
   rfl
  ·unfold NetA.v NetA.cs
   rw [hRl]
   show Value.agg ⟨[.int .i64 y0.inputs, _, _, _]⟩ = _
   rw [hyi]
   rfl
  ·exact Hp.tk (rNet_shut (x := ⟨x.inputs, R, y0.sa, y0.sc, (swTo x.n (reachedL x.n) x.ands.length).1, aa, ac, mapL (swTo x.n (reachedL x.n) x.ands.length).2 x.outs, oa, oc⟩) (hp.f2.f3.f3)) 1
theorem specSweep_x (x : NetA) (w0 : World) (hX : NetR w0 x) (hS : NetS x.n) (hW : NetW x.n) :
  Ret Tryz.prog 147 [x.v] w0 (fun v w => ∃ y, (y.n = ifNet x.n (sweepL x.n) ∧ v = y.v) ∧ Hp w0 w [rNet y]) := by
 refine enter Tryz.S147ok _ _ rfl rfl (by show _ ≤ _; simp only [List.length]; decide) (fun C => ?_); have hp := Hp.nil w0; refine h_run rfl ?_; skip; (first | refine H_box hp ?_ | refine H_alloc hp rfl ?_); intro w b1 hx hp; refine ops_run nopre rfl ?_; skip; (first | refine H_box hp ?_ | refine H_alloc hp rfl ?_); intro w b2 hx hp; refine ops_run nopre rfl ?_; (repeat (refine H_ldB hp rfl rfl ?_))
 by_cases hok : NetOkP x.n
 ·have hn := hok.nums
  have n1 := hn.n1
  have n4 := hn.n2
  have f2 := hn.f2
  have hnd := hok.nodes
  have hsz := hok.size'
  have hal : x.n.ands.length = x.ands.length := rfl
  have hrl := reachedL_len' x.n
  have hll := leafL_len x.n
  rw [ifNet_yes hok]
  refine h_call rfl Tryz.func77 (by kernel_rfl) rfl ((specNetOk_h x _ hp.net hS hW).tt (netOkB_yes hok)) ?_; rintro _ w ⟨rfl, hx⟩; have hp := hp.ext hx; refine ops_run nopre rfl ?_; skip
  refine h_cond_f rfl rfl ?_; (repeat (refine H_ldB hp rfl rfl ?_))
  refine h_call rfl Tryz.func176 (by kernel_rfl) rfl (specReached_h x _ hp.net hS hW hok) ?_; rintro _ w ⟨b3, c3, rfl, hq⟩; have hx := hq.x; have hp := hp.call1 hq; refine ops_run nopre rfl ?_; (repeat (refine H_ldB hp rfl rfl ?_))
  refine h_call rfl Tryz.func85 (by kernel_rfl) rfl (l10Empty_h x _ hp.net hok hS) ?_; rintro _ w ⟨y0, b5, c5, ⟨hy0, rfl⟩, hq⟩; refine ops_run nopre rfl ?_; skip
  have hp := hp.call2 hq
  skip
  (first | refine H_box hp ?_ | refine H_alloc hp rfl ?_); intro w b4 hx hp; refine ops_run nopre rfl ?_; (repeat (first | (refine gLoad ?_; refine H_ldB hp rfl rfl ?_) | (refine gStore ?_; refine U_stBN hp rfl rfl rfl rfl ?_; intro w hp; refine ops_run nopre rfl ?_)))
  have hya : y0.ands = [] := congrArg NetL.ands hy0
  have hyi : y0.inputs = x.inputs := congrArg NetL.inputs hy0
  have hys : seqsOf y0.seqs = (zerL x.n []).seqs := congrArg NetL.seqs hy0
  have hyl : y0.seqs.length = x.seqs.length := by rw [← seqsOf_len y0.seqs, hys, zer_at.1, x.slen]
  have hcs : y0.cs = (y0.wA y0.aa y0.ac []).cs := by unfold NetA.cs NetA.wA; rw [hya]
  refine h_call rfl Tryz.func137 (by kernel_rfl) rfl (l08First_h x _ hok.b) ?_; rintro _ w ⟨rfl, hx⟩; have hp := hp.ext hx; refine ops_run nopre rfl ?_; skip
  have hp := (rNet_open hp.f1).f7.f7.f4.f3.f7.f7.f6.f7
  rw [hya] at hp
  have hp := Hp.cgB hp hcs
  refine h_loop5 [1, 2, 3, 4, 5, 6, 7] (fun (i : Nat) (_ : Option Addr) (_ : Nat) (tb : Option Addr) (tc : Nat) => [(1, .pointer (some ⟨b1, 0, none⟩)), (2, .pointer (some ⟨b2, 0, none⟩)), (3, .slice b3 (nds x.n) c3), (4, .pointer (some ⟨b4, 0, none⟩)), (5, .slice tb (swTo x.n (reachedL x.n) i).2.length tc), (6, .int .i64 (firstAndL x.n + (swTo x.n (reachedL x.n) i).1.length)), (7, .int .i64 (i : Int))])
   (fun i aa ac tb tc w' => i ≤ x.ands.length ∧ Hp w0 w' [rB b4 33 [.int .i64 y0.inputs, .slice y0.sa y0.seqs.length y0.sc, .slice aa ((swTo x.n (reachedL x.n) i).1).length ac, .slice y0.oa y0.outs.length y0.oc], rO 120 2 eII aa ac (swTo x.n (reachedL x.n) i).1, rO 3 1 eI tb tc (swTo x.n (reachedL x.n) i).2, rO 4 1 eB b3 c3 (reachedL x.n), rSq y0.sa y0.sc y0.seqs, rO 3 1 eI y0.oa y0.oc y0.outs, rB b2 33 (cellsV Tryz.ti33.zero), rB b1 33 x.cs])
   (fun i _ _ _ _ => x.ands.length - i) 0 y0.aa y0.ac b5 c5 (by rw [show firstAndL x.n + ((swTo x.n (reachedL x.n) 0).1.length : Int) = firstAndL x.n by show firstAndL x.n + ((0 : Nat) : Int) = _; omega]; rfl) ⟨by omega, hp⟩ ?_
  rintro i aa ac tb tc w1 ⟨hi, hp⟩ IH C
  have hl := swTo_len x.n (reachedL x.n) i
  have hB := swTo_ok hok (reachedL x.n) i hi
  have g1 := hB.f1
  have g2 := hB.alen
  refine h_run rfl ?_; (repeat (refine H_ldB hp rfl rfl ?_))
  refine h_cond_dec (fun hlt => ?_) (fun hlt => ?_)
  ·have hlt' : i < x.ands.length := by omega
   have hz : (firstAndL x.n + (i : Int)).toNat = fst_ x.n + i := by omega
   obtain ⟨q1, q2, q3, q4⟩ := hok.and_ hlt'
   refine h_cond_t rfl rfl ?_; (repeat (refine H_ldB hp rfl rfl ?_))
   refine h_call rfl Tryz.func137 (by kernel_rfl) rfl (l08First_h x _ hok.b) ?_; rintro _ w ⟨rfl, hx⟩; have hp := hp.ext hx; refine ops_run nopre rfl ?_; (repeat (refine H_ldE hp rfl (by omega) (by omega) rfl rfl ?_))
   refine h_cond_b (fun hk => ?_) (fun hk => ?_)
   ·rw [hz] at hk
    have hk : (reachedL x.n).getD (fst_ x.n + i) default = false := by simpa using hk
    have e : swTo x.n (reachedL x.n) (i + 1) = ((swTo x.n (reachedL x.n) i).1, (swTo x.n (reachedL x.n) i).2 ++ [0]) := by rw [swTo, if_neg (by rw [hk]; decide)]
    refine h_cond_t rfl rfl ?_; (repeat (refine U_litI hp rfl rfl rfl rfl rfl rfl rfl rfl rfl rfl ?_; intro w _ hx hp; refine ops_run nopre rfl ?_))
    refine U_append hp rfl rfl rfl rfl rfl rfl rfl (by decide) rfl (by first | omega | (simp only [List.length_append, List.length_cons, List.length_nil, List.length_take, List.length_drop, List.length_set, List.length_replicate, List.length_map]; omega)) rfl rfl ?_; intro tb' tc' w hp hnil; refine ops_run nopre rfl ?_; skip
    refine IH (i + 1) aa ac tb' tc' _ _ _ (by omega) (by rw [e]; rfl) ⟨by omega, ?_⟩
    rw [e]
    exact hp.drop
   ·rw [hz] at hk
    have hk : (reachedL x.n).getD (fst_ x.n + i) default = true := by simpa using hk
    have e1 : (swTo x.n (reachedL x.n) (i + 1)).1 = (swTo x.n (reachedL x.n) i).1 ++ [(litV (swTo x.n (reachedL x.n) i).2 (x.ands.getD i default).1, litV (swTo x.n (reachedL x.n) i).2 (x.ands.getD i default).2)] := by rw [swTo, if_pos hk]; rfl
    have e2 : (swTo x.n (reachedL x.n) (i + 1)).2 = (swTo x.n (reachedL x.n) i).2 ++ [2 * (firstAndL x.n + (swTo x.n (reachedL x.n) i).1.length)] := by rw [swTo, if_pos hk]
    refine h_cond_f rfl rfl ?_; skip
    have hml : (mapL (swTo x.n (reachedL x.n) i).2 [(x.ands.getD i default).1, (x.ands.getD i default).2]).length = 2 := rfl
    refine N_draw hp (by kernel_rfl) (by kernel_rfl) rfl rfl ?_; (repeat (first | (refine nLoad ?_; first | refine N_ldB rfl rfl rfl ?_ | refine N_ldFN rfl (by omega) rfl rfl rfl ?_) | (refine nBuild ?_; refine N_litI rfl rfl rfl rfl rfl rfl rfl rfl rfl rfl ?_; intro _; refine N_ops rfl rfl ?_)))
    refine N_call Tryz.func146 (by kernel_rfl) rfl (fun F w hp => ?_); refine Ret.mono (l10Map_h _ _ _ _ (swTo x.n (reachedL x.n) i).2 [(x.ands.getD i default).1, (x.ands.getD i default).2] _ _ rfl rfl _ hp.pre.rd hp.pre.rd (two_in (p := fun l => 0 ≤ l ∧ l / 2 < ((swTo x.n (reachedL x.n) i).2.length : Int)) ⟨q1, by omega⟩ ⟨q3, by omega⟩) (by omega) (by simp)) ?_; rintro _ w ⟨r8, e8, rfl, hq⟩; have hp := hp.callF1 hq; refine ⟨fun _ => hp.sub (by (repeat (first | exact List.sublist_append_left _ _ | apply List.Sublist.cons))), _, hp, ?_⟩; clear hp; refine N_ops rfl rfl ?_; skip
    refine N_end ?_; intro w hp C; refine h_run rfl ?_; skip
    refine N_draw hp (by kernel_rfl) (by kernel_rfl) rfl rfl ?_; (repeat (refine nLoad ?_; first | refine N_ldB rfl rfl rfl ?_ | refine N_ldE rfl (by omega) (by omega) rfl rfl rfl ?_))
    refine N_lit eII [(litV (swTo x.n (reachedL x.n) i).2 (x.ands.getD i default).1, litV (swTo x.n (reachedL x.n) i).2 (x.ands.getD i default).2)] rfl rfl rfl rfl (s := 2) rfl (by decide) (by infer_instance) (by rfl) (by rfl) (by rfl) (by decide) ?_; intro b42; refine N_ops rfl rfl ?_; skip
    refine N_append rfl rfl rfl rfl rfl rfl rfl (by decide) rfl (by first | omega | (simp only [List.length_append, List.length_cons, List.length_nil, List.length_take, List.length_drop, List.length_set, List.length_replicate, List.length_map]; omega)) rfl rfl (fun hq => Bool.noConfusion (hq.symm.trans (by kernel_rfl : flagAt _ _ = false))) ?_; intro aa' ac' hnil; refine N_ops rfl rfl ?_; (repeat (refine N_stB rfl rfl rfl rfl (by kernel_rfl) ?_; refine N_ops rfl rfl ?_))
    refine N_end ?_; intro w hp C; refine h_run rfl ?_; (repeat (refine U_litI hp rfl rfl rfl rfl rfl rfl rfl rfl rfl rfl ?_; intro w _ hx hp; refine ops_run nopre rfl ?_))
    refine U_append hp rfl rfl rfl rfl rfl rfl rfl (by decide) rfl (by first | omega | (simp only [List.length_append, List.length_cons, List.length_nil, List.length_take, List.length_drop, List.length_set, List.length_replicate, List.length_map]; omega)) rfl rfl ?_; intro tb' tc' w hp hnil; refine ops_run nopre rfl ?_; skip
    refine IH (i + 1) aa' ac' tb' tc' _ _ _ (by omega) (by rw [e1, e2, show firstAndL x.n + ((((swTo x.n (reachedL x.n) i).1 ++ [(litV (swTo x.n (reachedL x.n) i).2 (x.ands.getD i default).1, litV (swTo x.n (reachedL x.n) i).2 (x.ands.getD i default).2)]).length : Nat) : Int) = firstAndL x.n + ((swTo x.n (reachedL x.n) i).1.length : Int) + 1 by simp; omega]; rfl) ⟨by omega, ?_⟩
    rw [e1, e2]
    exact hp.drop.drop.drop.drop
  ·refine h_cond_f rfl rfl ?_; skip
   obtain rfl : i = x.ands.length := by omega
   have hp := rSq_open hp.f4
   clear IH
   have htl : (swTo x.n (reachedL x.n) x.ands.length).2.length = nds x.n := by omega
   have hlit : ∀ l, litP l (nodesL x.n) → 0 ≤ l ∧ l / 2 < ((swTo x.n (reachedL x.n) x.ands.length).2.length : Int) := fun l h => by unfold litP at h; omega
   refine h_loop2 [1, 2, 4, 5, 9] (fun (j : Nat) (_ : List SeqA) => [(1, .pointer (some ⟨b1, 0, none⟩)), (2, .pointer (some ⟨b2, 0, none⟩)), (4, .pointer (some ⟨b4, 0, none⟩)), (5, .slice tb (swTo x.n (reachedL x.n) x.ands.length).2.length tc), (9, .int .i64 (j : Int))])
    (fun j R w' => (j ≤ x.seqs.length ∧ R.length = y0.seqs.length ∧ seqsOf R = upTo (crF (seqsOf y0.seqs) x.n (swTo x.n (reachedL x.n) x.ands.length).2) j (seqsOf y0.seqs)) ∧ Hp w0 w' [rO 68 3 eSq y0.sa y0.sc R, rIns R, rB b4 33 [.int .i64 y0.inputs, .slice y0.sa y0.seqs.length y0.sc, .slice aa ((swTo x.n (reachedL x.n) x.ands.length).1).length ac, .slice y0.oa y0.outs.length y0.oc], rO 120 2 eII aa ac (swTo x.n (reachedL x.n) x.ands.length).1, rO 3 1 eI tb tc (swTo x.n (reachedL x.n) x.ands.length).2, rO 4 1 eB b3 c3 (reachedL x.n), rO 3 1 eI y0.oa y0.oc y0.outs, rB b2 33 (cellsV Tryz.ti33.zero), rB b1 33 x.cs]) (fun j _ => x.seqs.length - j) 0 y0.seqs rfl
    ⟨⟨by omega, rfl, by rw [upTo_zero]⟩, hp⟩ ?_
   rintro j R w2 ⟨⟨hj, hR, hRs⟩, hp⟩ IH C
   refine h_run rfl ?_; (repeat (refine H_ldB hp rfl rfl ?_))
   refine h_cond_dec (fun hlt2 => ?_) (fun hlt2 => ?_)
   ·have hlt2' : j < x.seqs.length := by omega
    have hil := hok.ins hlt2'
    have hsx := x.sins j
    have hq : ∀ q, q < (x.seqs.getD j default).ins.length → 0 ≤ (x.seqs.getD j default).ins.getD q default ∧ (x.seqs.getD j default).ins.getD q default / 2 < ((swTo x.n (reachedL x.n) x.ands.length).2.length : Int) := fun q hq =>
     hlit _ (hok.inp (getD_mem (show j < x.n.seqs.length by rw [x.slen]; exact hlt2')) _ (by rw [hsx]; exact getD_mem hq))
    have hrow := hX.seqs.at_ hlt2'
    have hne : y0.sa ≠ none := nn_of hp (X := R) (by omega)
    refine h_cond_t rfl rfl ?_; skip
    refine N_draw hp (by kernel_rfl) (by kernel_rfl) rfl rfl ?_; (repeat (refine nLoad ?_; first | refine N_ldB rfl rfl rfl ?_ | refine N_ldFN rfl (by omega) rfl rfl rfl ?_))
    refine N_call Tryz.func146 (by kernel_rfl) rfl (fun F w hp => ?_); refine Ret.mono (l10Map_h _ _ _ _ (swTo x.n (reachedL x.n) x.ands.length).2 (x.seqs.getD j default).ins _ _ rfl rfl _ hp.pre.rd hp.pre.rd hq (by omega) (by omega)) ?_; rintro _ w ⟨r, e, rfl, hq⟩; have hp := hp.callF1 hq; refine ⟨fun _ => hp.sub (by (repeat (first | exact List.sublist_append_left _ _ | apply List.Sublist.cons))), _, hp, ?_⟩; clear hp; refine N_ops rfl rfl ?_; skip
    first | refine N_st1N ({ R.getD j default with ins := mapL (swTo x.n (reachedL x.n) x.ands.length).2 (x.seqs.getD j default).ins, ia := r, ic := e }) rfl rfl rfl (by omega) (by decide) rfl rfl (by kernel_rfl) ?_ | refine N_st1 ({ R.getD j default with ins := mapL (swTo x.n (reachedL x.n) x.ands.length).2 (x.seqs.getD j default).ins, ia := r, ic := e }) rfl rfl rfl (by omega) (by decide) rfl rfl (by kernel_rfl) ?_
    refine N_ops rfl rfl ?_; skip
    refine N_end ?_; intro w hp C; refine h_run rfl ?_; skip
    obtain ⟨Q, hq, hback⟩ := rIns_at hp.f2 (i := j) (by omega)
    have hp := (hback _ _ { R.getD j default with ins := mapL (swTo x.n (reachedL x.n) x.ands.length).2 (x.seqs.getD j default).ins, ia := r, ic := e } hq.drop.f1).f1
    refine IH (j + 1) _ _ _ _ (by omega) rfl ⟨⟨by omega, by simp; omega, ?_⟩, hp⟩
    have hix : j < (seqsOf y0.seqs).length := by rw [seqsOf_len]; omega
    rw [seqsOf_set, hRs, ← upTo_set (f := crF (seqsOf y0.seqs) x.n (swTo x.n (reachedL x.n) x.ands.length).2) hix]
    congr 1
    have h1 : (R.getD j default).s = (seqsOf y0.seqs).getD j default := by
     rw [← seqsOf_get, hRs, upTo_at (Nat.le_refl _) (by omega)]
    unfold crF
    rw [← h1, hsx]
    rfl
   ·refine h_cond_f rfl rfl ?_; (repeat (refine H_ldB hp rfl rfl ?_))
    obtain rfl : j = x.seqs.length := by omega
    refine h_call rfl Tryz.func146 (by kernel_rfl) rfl (l10Map_h _ _ _ _ (swTo x.n (reachedL x.n) x.ands.length).2 x.outs _ _ rfl rfl _ hp.rd hp.rd (fun q hq => hlit _ (hok.out _ (getD_mem hq))) (by omega) (by omega)) ?_; rintro _ w ⟨r, e, rfl, hq⟩; have hx := hq.x; have hp := hp.call1 hq; refine ops_run nopre rfl ?_; (repeat (first | (refine gLoad ?_; refine H_ldB hp rfl rfl ?_) | (refine gStore ?_; (first | refine U_stB hp rfl rfl rfl rfl ?_ | refine U_stBN hp rfl rfl rfl rfl ?_); intro w hp; refine ops_run nopre rfl ?_) | (refine gRetc ?_; refine R_ret1 hp rfl ?_)))
    have hRs2 : seqsOf R = x.n.seqs.map fun s => ⟨s.kind, s.init, mapL (swTo x.n (reachedL x.n) x.ands.length).2 s.ins⟩ := by
     rw [hRs, hys, ← x.slen]
     exact cr_all zer_at.1 zer_at.2
    have hp := rSq_shut (hp.f2.f2)
    refine ⟨⟨x.inputs, R, y0.sa, y0.sc, (swTo x.n (reachedL x.n) x.ands.length).1, aa, ac, mapL (swTo x.n (reachedL x.n) x.ands.length).2 x.outs, r, e⟩, ⟨?_, ?_⟩, ?_⟩
    ·unfold NetA.n
     rw [hRs2]
     rfl
    ·unfold NetA.v NetA.cs
     rw [hR, hyi]
    ·exact Hp.tk (rNet_shut (x := ⟨x.inputs, R, y0.sa, y0.sc, (swTo x.n (reachedL x.n) x.ands.length).1, aa, ac, mapL (swTo x.n (reachedL x.n) x.ands.length).2 x.outs, r, e⟩) (hp.f1.f3.f2)) 1
 ·refine h_call rfl Tryz.func77 (by kernel_rfl) rfl ((specNetOk_h x _ hp.net hS hW).ff (netOkB_no hok)) ?_; rintro _ w ⟨rfl, hx⟩; have hp := hp.ext hx; refine ops_run nopre rfl ?_; skip
  refine h_cond_t rfl rfl ?_; (repeat (first | (refine gStore ?_; refine U_stBN hp rfl rfl rfl rfl ?_; intro w hp; refine ops_run nopre rfl ?_) | (refine gRetc ?_; refine R_ret1 hp rfl ?_)))
  rw [ifNet_no hok]
  exact ⟨nilA, ⟨rfl, rfl⟩, Hp.tk (hpNil hp) 1⟩
end Go.Proofs
