/- Texts that belong together; each under its stated conditions. -/
import Derived.Test.YtiepmliokblkjaaGreatSweep
import Derived.Test.YtiepmliokblkjaaGreatElabLaw3
import Derived.Test.YtiepmliokblkjaaGreatFlatI
import Derived.Test.YtiepmliokblkjaaGreatExprW
set_option linter.all false
section
namespace Go.Proofs
open Go.Xw
set_option maxRecDepth 100000
set_option maxHeartbeats 1000000
attribute [local irreducible] Holds elemAddr
theorem hashed_h (x : NetA) (w0 : World) (hX : NetR w0 x) (hok : NetOkP x.n) :
  Ret Tryz.prog 41 [x.v] w0 (fun v w => ∃ y, (y.n = hashL x.n ∧ v = y.v) ∧ Hp w0 w [rNet y]) := by
 have hn := hok.nums
 have n1 := hn.n1
 have n4 := hn.n2
 have f2 := hn.f2
 have hnd := hok.nodes
 have hsz := hok.size'
 have hal : x.n.ands.length = x.ands.length := rfl
 refine enter Tryz.S41ok _ _ rfl rfl (by show _ ≤ _; simp only [List.length]; decide) (fun C => ?_); have hp := Hp.nil w0; refine h_run rfl ?_; skip; (first | refine H_box hp ?_ | refine H_alloc hp rfl ?_); intro w b1 hx hp; refine ops_run nopre rfl ?_; skip; (first | refine H_box hp ?_ | refine H_alloc hp rfl ?_); intro w b2 hx hp; refine ops_run nopre rfl ?_; (repeat (refine H_ldB hp rfl rfl ?_))
 refine h_call rfl Tryz.func104 (by kernel_rfl) rfl (emptyCopy_h x _ hp.net hok) ?_; rintro _ w ⟨y0, ⟨hy0, rfl⟩, hq⟩; have hx := hq.x; have hp := hp.call1 hq; refine ops_run nopre rfl ?_; skip
 (first | refine H_box hp ?_ | refine H_alloc hp rfl ?_); intro w b3 hx hp; refine ops_run nopre rfl ?_; (repeat (first | (refine gLoad ?_; refine H_ldB hp rfl rfl ?_) | (refine gStore ?_; refine U_stBN hp rfl rfl rfl rfl ?_; intro w hp; refine ops_run nopre rfl ?_)))
 refine h_call rfl Tryz.func105 (by kernel_rfl) rfl (leafLits_h x _ hok) ?_; rintro _ w ⟨b5, c5, rfl, hq⟩; have hx := hq.x; have hp := hp.call1 hq; refine ops_run nopre rfl ?_; (repeat (refine H_ldB hp rfl rfl ?_))
 have hya : y0.ands = [] := congrArg NetL.ands hy0
 have hyi : y0.inputs = x.inputs := congrArg NetL.inputs hy0
 have hys : seqsOf y0.seqs = (begL x.n []).seqs := congrArg NetL.seqs hy0
 have hyl : y0.seqs.length = x.seqs.length := by rw [← seqsOf_len y0.seqs, hys, beg_at.1, x.slen]
 have hcs : y0.cs = (y0.wA y0.aa y0.ac []).cs := by unfold NetA.cs NetA.wA; rw [hya]
 have hp := (rNet_open hp.f2).f6.f6.f4.f3.f5.f5.f6
 rw [hya] at hp
 have hp := Hp.cgB hp hcs
 refine h_loop3 [1, 2, 3, 4, 12, 13, 14] (fun (i : Nat) (_ : Option Addr) (_ : Nat) => [(1, .pointer (some ⟨b1, 0, none⟩)), (2, .pointer (some ⟨b2, 0, none⟩)), (3, .pointer (some ⟨b3, 0, none⟩)), (4, .slice b5 (nds x.n) c5), (12, .slice x.aa x.ands.length x.ac), (13, .int .i64 x.ands.length), (14, .int .i64 (i : Int))])
  (fun i aa ac w' => i ≤ x.ands.length ∧ Hp w0 w' [rB b3 33 [.int .i64 y0.inputs, .slice y0.sa y0.seqs.length y0.sc, .slice aa ((haTo x.n i).1).length ac, .slice y0.oa y0.outs.length y0.oc], rO 120 2 eII aa ac (haTo x.n i).1, rO 3 1 eI b5 c5 ((haTo x.n i).2 ++ List.replicate (x.ands.length - i) 0), rSq y0.sa y0.sc y0.seqs, rO 3 1 eI y0.oa y0.oc y0.outs, rB b2 33 (cellsV Tryz.ti33.zero), rB b1 33 x.cs])
  (fun i _ _ => x.ands.length - i) 0 y0.aa y0.ac rfl ⟨by omega, hp⟩ ?_
 rintro i aa ac w1 ⟨hi, hp⟩ IH C
 have hl := haTo_len x.n i
 have hB := haTo_ok hok i hi
 have hpl : ((haTo x.n i).2 ++ List.replicate (x.ands.length - i) (0 : Int)).length = nds x.n := by simp; omega
 refine h_run rfl ?_; skip
 refine h_cond_dec (fun hlt => ?_) (fun hlt => ?_)
 ·have hlt' : i < x.ands.length := by omega
  have hz : (firstAndL x.n + (i : Int)).toNat = fst_ x.n + i := by omega
  obtain ⟨q1, q2, q3, q4⟩ := hok.and_ hlt'
  have hrep : List.replicate (x.ands.length - i) (0 : Int) = List.replicate (x.ands.length - (i + 1) + 1) 0 := by rw [show x.ands.length - i = x.ands.length - (i + 1) + 1 by omega]
  have l1' : litP (litV (haTo x.n i).2 (x.ands.getD i default).1) (firstAndL x.n + (haTo x.n i).1.length) := (haTo_lits hok hlt' hB).1
  have l2' : litP (litV (haTo x.n i).2 (x.ands.getD i default).2) (firstAndL x.n + (haTo x.n i).1.length) := (haTo_lits hok hlt' hB).2
  have hne5 : b5 ≠ none := nn_of hp (X := (haTo x.n i).2 ++ List.replicate (x.ands.length - i) (0 : Int)) (by omega)
  unfold litP at l1' l2'
  have hfd : firstAndL (y0.wA aa ac (haTo x.n i).1).n = firstAndL x.n := by rw [firstAndL_eq, firstAndL_eq]; show 1 + y0.inputs + (y0.seqs.length : Nat) = _; omega
  have hC : addAndL (y0.wA aa ac (haTo x.n i).1).n (litV (haTo x.n i).2 (x.ands.getD i default).1) (litV (haTo x.n i).2 (x.ands.getD i default).2) = ({ (y0.wA aa ac (haTo x.n i).1).n with ands := (haTo x.n (i + 1)).1 }, (addC (firstAndL x.n) (haTo x.n i).1 (litV (haTo x.n i).2 (x.ands.getD i default).1) (litV (haTo x.n i).2 (x.ands.getD i default).2)).2) := by
   rw [addAndL_C, hfd]; rfl
  have hb3 : NetB (y0.wA aa ac (haTo x.n i).1) := ⟨by show _ ≤ y0.inputs ∧ y0.inputs ≤ _; omega, by show y0.seqs.length ≤ _; omega, by show (haTo x.n i).1.length ≤ _; omega⟩
  refine h_cond_t rfl rfl ?_; (repeat (refine H_ldEN hp rfl (by omega) rfl rfl ?_))
  (first | refine H_box hp ?_ | refine H_alloc hp rfl ?_); intro w b6 hx hp; refine ops_run nopre rfl ?_; (repeat (refine U_stBN hp rfl rfl rfl rfl ?_; intro w hp; refine ops_run nopre rfl ?_))
  refine N_draw hp (by kernel_rfl) (by kernel_rfl) rfl rfl ?_; (repeat (refine N_ldB rfl rfl rfl ?_))
  refine N_call Tryz.func70 (by kernel_rfl) rfl (fun F w hp => ?_); refine Ret.mono (firstAnd_h x _ hok.b) ?_; rintro _ w ⟨rfl, hx⟩; have hp := hp.ext hx; refine ⟨fun _ => hp.sub (by (repeat (first | exact List.sublist_append_left _ _ | apply List.Sublist.cons))), _, hp, ?_⟩; clear hp; refine N_ops rfl rfl ?_; (repeat (refine N_ldB rfl rfl rfl ?_))
  refine N_call Tryz.func107 (by kernel_rfl) rfl (fun F w hp => ?_); refine Ret.mono (mapLit_h _ _ _ _ hpl (x.ands.getD i default).1 _ hp.pre.rd q1 (by omega) (by omega)) ?_; rintro _ w ⟨rfl, hx⟩; have hp := hp.ext hx; refine ⟨fun _ => hp.sub (by (repeat (first | exact List.sublist_append_left _ _ | apply List.Sublist.cons))), _, hp, ?_⟩; clear hp; refine N_ops rfl rfl ?_; (repeat (refine N_ldB rfl rfl rfl ?_))
  refine N_call Tryz.func107 (by kernel_rfl) rfl (fun F w hp => ?_); refine Ret.mono (mapLit_h _ _ _ _ hpl (x.ands.getD i default).2 _ hp.pre.rd q3 (by omega) (by omega)) ?_; rintro _ w ⟨rfl, hx⟩; have hp := hp.ext hx; refine ⟨fun _ => hp.sub (by (repeat (first | exact List.sublist_append_left _ _ | apply List.Sublist.cons))), _, hp, ?_⟩; clear hp; refine N_ops rfl rfl ?_; skip
  rw [litV_pad, litV_pad]
  refine N_f2 ?_; refine N_f2 ?_
  refine N_call Tryz.func106 (by kernel_rfl) rfl (fun F w hp => ?_); refine Ret.mono (addAnd_F (y0.wA aa ac (haTo x.n i).1) b3 (litV (haTo x.n i).2 (x.ands.getD i default).1) (litV (haTo x.n i).2 (x.ands.getD i default).2) hp hb3 (by show (haTo x.n i).1.length ≤ _; omega) (by omega) (by omega)) ?_; rintro _ w ⟨aa', ac', rfl, hp⟩; refine ⟨fun hq => Bool.noConfusion (hq.symm.trans (by kernel_rfl : flagAt _ _ = false)), _, hp, ?_⟩; clear hp; refine N_ops rfl rfl ?_; (repeat (refine N_st0 rfl rfl rfl (by omega) (by decide) rfl rfl (by kernel_rfl) ?_; refine N_ops rfl rfl ?_))
  refine N_end ?_; intro w hp C; refine h_run rfl ?_; skip
  rw [hC, hz, hrep, show fst_ x.n + i = (haTo x.n i).2.length by omega, pad_set] at hp
  refine IH (i + 1) aa' ac' _ _ _ (by omega) rfl ⟨by omega, ?_⟩
  exact hp.f2.drop
 ·refine h_cond_f rfl rfl ?_; (repeat (refine H_ldB hp rfl rfl ?_))
  obtain rfl : i = x.ands.length := by omega
  rw [Nat.sub_self, List.replicate_zero, List.append_nil] at hp hpl
  refine h_call rfl Tryz.func108 (by kernel_rfl) rfl (copyRoots_h b3 (y0.wA aa ac (haTo x.n x.ands.length).1) x b5 c5 (nds x.n) (haTo x.n x.ands.length).2 hpl (hp.f2.f2.f4.f4.f4) hok (Nat.le_refl _) (by omega) (by show _ ≤ y0.seqs.length; omega) (by show y0.seqs.length ≤ _; omega)) ?_; rintro _ w ⟨R, oa, oc, rfl, ⟨hR, hRs⟩, hp⟩; refine ops_run nopre rfl ?_; (repeat (refine H_ldB hp rfl rfl ?_))
  have hRl : R.length = y0.seqs.length := hR
  have hRs2 : seqsOf R = x.n.seqs.map fun s => ⟨s.kind, s.init, mapL (haTo x.n x.ands.length).2 s.ins⟩ := by
   rw [hRs]
   show upTo (crF (seqsOf y0.seqs) x.n _) x.seqs.length (seqsOf y0.seqs) = _
   rw [hys, ← x.slen]
   exact cr_all beg_at.1 beg_at.2
  have hpre : (NetA.mk y0.inputs R y0.sa y0.sc (haTo x.n x.ands.length).1 aa ac (mapL (haTo x.n x.ands.length).2 x.outs) oa oc).n = preL x.n := by
   unfold NetA.n
   rw [hRs2, hyi]
   rfl
  have hp := rNet_shut (x := ⟨y0.inputs, R, y0.sa, y0.sc, (haTo x.n x.ands.length).1, aa, ac, mapL (haTo x.n x.ands.length).2 x.outs, oa, oc⟩) (hp.f2.f3.f3)
  refine gCall ?_
  show Holds _ _ _ _ _ (.act (.call _ [.agg ⟨[.int .i64 y0.inputs, .slice y0.sa y0.seqs.length y0.sc, .slice aa (haTo x.n x.ands.length).1.length ac, .slice oa (mapL (haTo x.n x.ands.length).2 x.outs).length oc]⟩]) _)
  rw [← hRl]
  refine h_call rfl Tryz.func109 (by kernel_rfl) rfl (sweep_h ⟨y0.inputs, R, y0.sa, y0.sc, (haTo x.n x.ands.length).1, aa, ac, mapL (haTo x.n x.ands.length).2 x.outs, oa, oc⟩ _ hp.net (by rw [hpre]; exact preL_ok hok)) ?_; rintro _ w ⟨z, ⟨hz, rfl⟩, hq⟩; have hx := hq.x; have hp := hp.call1 hq; refine ops_run nopre rfl ?_; (repeat (first | (refine gStore ?_; refine U_stBN hp rfl rfl rfl rfl ?_; intro w hp; refine ops_run nopre rfl ?_) | (refine gRetc ?_; refine R_ret1 hp rfl ?_)))
  rw [hpre] at hz
  exact ⟨z, ⟨hz, rfl⟩, Hp.tk hp 1⟩
theorem l10Finish_h (y x : NetA) (ta : Option Addr) (tc m : Nat) (to : List Int) (hm : to.length = m) (A : List (Int × Int)) {w0 w : World} {L : List Res} (hp : Hp w0 w (rNet y :: L)) [hX : NetH w0 L x] [hT : RdH w0 L ta 1 eI to] (hok : NetOkP x.n) (hy : y.n = zerL x.n A) (hB : Bld (firstAndL x.n) A to) (hnd : nds x.n ≤ m) (hmb : m ≤ 1000000) :
  Ret Tryz.prog 87 [y.v, x.v, .slice ta m tc] w (fun v w' => ∃ z, (z.n = sweepL (finN x.n A to) ∧ v = z.v) ∧ Hp w0 w' (rNet z :: L)) := by
 subst hm
 have hn := hok.nums
 have n1 := hn.n1
 have n2 := hn.n2
 have hsz := hok.size'
 have hsl := x.slen
 have hlit : ∀ l, litP l (nodesL x.n) → 0 ≤ l ∧ l / 2 < to.length := fun l h => by unfold litP at h; omega
 have hya : y.ands = A := congrArg NetL.ands hy
 have hyi : y.inputs = x.inputs := congrArg NetL.inputs hy
 have hys : seqsOf y.seqs = (zerL x.n A).seqs := congrArg NetL.seqs hy
 have hyl : y.seqs.length = x.seqs.length := by rw [← seqsOf_len y.seqs, hys, zer_at.1, x.slen]
 refine enter Tryz.S87ok _ _ rfl rfl (by show _ ≤ _; simp only [List.length]; decide) (fun C => ?_); refine h_run rfl ?_; skip
 (first | refine H_box hp ?_ | refine H_alloc hp rfl ?_); intro w b3 hx hp; refine ops_run nopre rfl ?_; skip
 (first | refine H_box hp ?_ | refine H_alloc hp rfl ?_); intro w b4 hx hp; refine ops_run nopre rfl ?_; skip
 (first | refine H_box hp ?_ | refine H_alloc hp rfl ?_); intro w b6 hx hp; refine ops_run nopre rfl ?_; skip
 have hp := rSq_open ((rNet_open hp.f3).f2.f2.f3.f4.f5.f5)
 refine h_loop2 [2, 3, 4, 6, 7] (fun (i : Nat) (_ : List SeqA) => [(2, .slice ta to.length tc), (3, .pointer (some ⟨b3, 0, none⟩)), (4, .pointer (some ⟨b4, 0, none⟩)), (6, .pointer (some ⟨b6, 0, none⟩)), (7, .int .i64 (i : Int))])
  (fun i R w' => (i ≤ x.seqs.length ∧ R.length = y.seqs.length ∧ seqsOf R = upTo (crF (seqsOf y.seqs) x.n to) i (seqsOf y.seqs)) ∧ Hp w0 w' (rO 68 3 eSq y.sa y.sc R :: rIns R :: rB b3 33 y.cs :: rB b4 33 x.cs :: rB b6 33 (cellsV Tryz.ti33.zero) :: rO 120 2 eII y.aa y.ac y.ands :: rO 3 1 eI y.oa y.oc y.outs :: L)) (fun i _ => x.seqs.length - i) 0 y.seqs rfl
  ⟨⟨by omega, rfl, by rw [upTo_zero]⟩, hp⟩ ?_
 rintro i R w1 ⟨⟨hi, hR, hRs⟩, hp⟩ IH C
 refine h_run rfl ?_; (repeat (refine H_ldB hp rfl rfl ?_))
 refine h_cond_dec (fun hlt => ?_) (fun hlt => ?_)
 ·have hlt' : i < x.seqs.length := by omega
  have hil := hok.ins hlt'
  have hsx := x.sins i
  have hq : ∀ j, j < (x.seqs.getD i default).ins.length → 0 ≤ (x.seqs.getD i default).ins.getD j default ∧ (x.seqs.getD i default).ins.getD j default / 2 < to.length := fun j hj =>
   hlit _ (hok.inp (getD_mem (show i < x.n.seqs.length by omega)) _ (by rw [hsx]; exact getD_mem hj))
  have hrow := hX.in_ hlt'
  have hne : y.sa ≠ none := nn_of hp (X := R) (by omega)
  have hne2 : x.sa ≠ none := nn_of hp (X := x.seqs) (by omega)
  refine h_cond_t rfl rfl ?_; skip
  refine N_draw hp (by kernel_rfl) (by kernel_rfl) rfl rfl ?_; (repeat (refine nLoad ?_; first | refine N_ldB rfl rfl rfl ?_ | refine N_ldFN rfl (by omega) rfl rfl rfl ?_))
  refine N_call Tryz.func146 (by kernel_rfl) rfl (fun F w hp => ?_); refine Ret.mono (l10Map_h _ _ _ _ to (x.seqs.getD i default).ins _ _ rfl rfl _ hp.pre.rd hp.pre.rd hq (by omega) (by omega)) ?_; rintro _ w ⟨r, e, rfl, hq⟩; have hp := hp.callF1 hq; refine ⟨fun _ => hp.sub (by (repeat (first | exact List.sublist_append_left _ _ | apply List.Sublist.cons))), _, hp, ?_⟩; clear hp; refine N_ops rfl rfl ?_; skip
  first | refine N_st1N ({ R.getD i default with ins := mapL to (x.seqs.getD i default).ins, ia := r, ic := e }) rfl rfl rfl (by omega) (by decide) rfl rfl (by kernel_rfl) ?_ | refine N_st1 ({ R.getD i default with ins := mapL to (x.seqs.getD i default).ins, ia := r, ic := e }) rfl rfl rfl (by omega) (by decide) rfl rfl (by kernel_rfl) ?_
  refine N_ops rfl rfl ?_; skip
  refine N_end ?_; intro w hp C; refine h_run rfl ?_; skip
  obtain ⟨Q, hq, hback⟩ := rIns_at hp.f2 (i := i) (by omega)
  have hp := (hback _ _ { R.getD i default with ins := mapL to (x.seqs.getD i default).ins, ia := r, ic := e } hq.drop.f1).f1
  refine IH (i + 1) _ _ _ _ (by omega) rfl ⟨⟨by omega, by simp; omega, ?_⟩, hp⟩
  have hix : i < (seqsOf y.seqs).length := by rw [seqsOf_len]; omega
  rw [seqsOf_set, hRs, ← upTo_set (f := crF (seqsOf y.seqs) x.n to) hix]
  congr 1
  have h1 : (R.getD i default).s = (seqsOf y.seqs).getD i default := by
   rw [← seqsOf_get, hRs, upTo_at (Nat.le_refl _) (by omega)]
  unfold crF
  rw [← h1, hsx]
  rfl
 ·refine h_cond_f rfl rfl ?_; (repeat (refine H_ldB hp rfl rfl ?_))
  obtain rfl : i = x.seqs.length := by omega
  refine h_call rfl Tryz.func146 (by kernel_rfl) rfl (l10Map_h _ _ _ _ to x.outs _ _ rfl rfl _ hp.rd hp.rd (fun j hj => hlit _ (hok.out _ (getD_mem hj))) (by omega) (by omega)) ?_; rintro _ w ⟨r, e, rfl, hq⟩; have hx := hq.x; have hp := hp.call1 hq; refine ops_run nopre rfl ?_; (repeat (first | (refine gLoad ?_; refine H_ldB hp rfl rfl ?_) | (refine gStore ?_; refine U_stB hp rfl rfl rfl rfl ?_; intro w hp; refine ops_run nopre rfl ?_)))
  have hRs2 : seqsOf R = x.n.seqs.map fun s => ⟨s.kind, s.init, mapL to s.ins⟩ := by
   rw [hRs, hys, ← x.slen]
   exact cr_all zer_at.1 zer_at.2
  have hfin : (NetA.mk y.inputs R y.sa y.sc y.ands y.aa y.ac (mapL to x.outs) r e).n = finN x.n A to := by
   unfold NetA.n
   rw [hRs2, hyi, hya]
   rfl
  have hokF : NetOkP (NetA.mk y.inputs R y.sa y.sc y.ands y.aa y.ac (mapL to x.outs) r e).n := by rw [hfin]; exact finN_ok hok hB hnd
  have hp := rNet_shut (x := ⟨y.inputs, R, y.sa, y.sc, y.ands, y.aa, y.ac, mapL to x.outs, r, e⟩) ((rSq_shut (hp.f2.f2)).f1.f5.f2)
  refine gCall ?_
  show Holds _ _ _ _ _ (.act (.call _ [.agg ⟨[.int .i64 y.inputs, .slice y.sa y.seqs.length y.sc, .slice y.aa y.ands.length y.ac, .slice r (mapL to x.outs).length e]⟩]) _)
  rw [← hR]
  refine h_call rfl Tryz.func147 (by kernel_rfl) rfl (specSweep_x ⟨y.inputs, R, y.sa, y.sc, y.ands, y.aa, y.ac, mapL to x.outs, r, e⟩ _ hp.net hokF.S' hokF.W) ?_; rintro _ w ⟨z, ⟨hz, rfl⟩, hq⟩; have hx := hq.x; have hp := hp.call1 hq; refine ops_run nopre rfl ?_; (repeat (first | (refine gStore ?_; refine U_stBN hp rfl rfl rfl rfl ?_; intro w hp; refine ops_run nopre rfl ?_) | (refine gRetc ?_; refine R_ret1 hp rfl ?_)))
  rw [ifNet_yes hokF, hfin] at hz
  refine ⟨z, ⟨hz, rfl⟩, ?_⟩
  exact hp.f1.drop.f1.drop.f1.drop.f1.drop.f1.drop
theorem addF_bld {n : NetL} (hok : NetOkP n) {A : List (Int × Int)} {to : List Int} (hB : Bld (firstAndL n) A to) {a b : Int} (ha : litP a (firstAndL n + A.length)) (hb : litP b (firstAndL n + A.length)) :
  addF (zerL n A) [a, b] (addAndL (zerL n A) a b) = if (addC (firstAndL n) A a b).2 < 0 then (zerL n A, -1) else (zerL n (addC (firstAndL n) A a b).1, (addC (firstAndL n) A a b).2) := by
 have hz := zerL_ok hok hB
 have hnd : nodesL (zerL n A) = firstAndL n + A.length := by have := firstAndL_zer n A; unfold firstAndL at this; unfold nodesL; rw [this]; rfl
 have hC : addAndL (zerL n A) a b = (zerL n (addC (firstAndL n) A a b).1, (addC (firstAndL n) A a b).2) := by
  rw [addAndL_C, firstAndL_zer]; rfl
 have hv : NetOkP (zerL n A) ∧ ∀ l, l ∈ [a, b] → litP l (nodesL (zerL n A)) := ⟨hz, two_lits.2 (by rw [hnd]; exact ⟨ha, hb⟩)⟩
 split
 ·rename_i h
  exact addF_neg hv (by rw [hC]; exact h)
 ·rename_i h
  rw [addF_yes hv (by rw [hC]; exact h), hC]
theorem specHash_x (x : NetA) (w0 : World) (hX : NetR w0 x) (hS : NetS x.n) (hW : NetW x.n) :
  Ret Tryz.prog 31 [x.v] w0 (fun v w => ∃ y, (y.n = ifNet x.n (hashL x.n) ∧ v = y.v) ∧ Hp w0 w [rNet y]) := by
 refine enter Tryz.S31ok _ _ rfl rfl (by show _ ≤ _; simp only [List.length]; decide) (fun C => ?_); have hp := Hp.nil w0; refine h_run rfl ?_; skip; (first | refine H_box hp ?_ | refine H_alloc hp rfl ?_); intro w b1 hx hp; refine ops_run nopre rfl ?_; skip; (first | refine H_box hp ?_ | refine H_alloc hp rfl ?_); intro w b2 hx hp; refine ops_run nopre rfl ?_; (repeat (refine H_ldB hp rfl rfl ?_))
 by_cases hok : NetOkP x.n
 ·have hn := hok.nums
  have n1 := hn.n1
  have n4 := hn.n2
  have f2 := hn.f2
  have hnd := hok.nodes
  have hsz := hok.size'
  have hal : x.n.ands.length = x.ands.length := rfl
  have hll := leafL_len x.n
  rw [ifNet_yes hok]
  refine h_call rfl Tryz.func77 (by kernel_rfl) rfl ((specNetOk_h x _ hp.net hS hW).tt (netOkB_yes hok)) ?_; rintro _ w ⟨rfl, hx⟩; have hp := hp.ext hx; refine ops_run nopre rfl ?_; skip
  refine h_cond_f rfl rfl ?_; (repeat (refine H_ldB hp rfl rfl ?_))
  refine h_call rfl Tryz.func85 (by kernel_rfl) rfl (l10Empty_h x _ hp.net hok hS) ?_; rintro _ w ⟨y0, b5, c5, ⟨hy0, rfl⟩, hq⟩; refine ops_run nopre rfl ?_; skip
  have hp := hp.call2 hq
  skip
  (first | refine H_box hp ?_ | refine H_alloc hp rfl ?_); intro w b3 hx hp; refine ops_run nopre rfl ?_; (repeat (refine U_stBN hp rfl rfl rfl rfl ?_; intro w hp; refine ops_run nopre rfl ?_))
  refine h_loop4 [1, 2, 3, 4, 5] (fun (i : Nat) (_ : NetA) (tb : Option Addr) (tc : Nat) => [(1, .pointer (some ⟨b1, 0, none⟩)), (2, .pointer (some ⟨b2, 0, none⟩)), (3, .pointer (some ⟨b3, 0, none⟩)), (4, .slice tb (haTo x.n i).2.length tc), (5, .int .i64 (i : Int))])
   (fun i y tb tc w' => (i ≤ x.ands.length ∧ y.n = zerL x.n (haTo x.n i).1) ∧ Hp w0 w' [rB b3 33 y.cs, rNet y, rO 3 1 eI tb tc (haTo x.n i).2, rB b2 33 (cellsV Tryz.ti33.zero), rB b1 33 x.cs])
   (fun i _ _ _ => x.ands.length - i) 0 y0 b5 c5 rfl ⟨⟨by omega, hy0⟩, hp⟩ ?_
  rintro i y tb tc w1 ⟨⟨hi, hy⟩, hp⟩ IH C
  have hl := haTo_len x.n i
  have hB := haTo_ok hok i hi
  have hzok := zerL_ok hok hB
  refine h_run rfl ?_; (repeat (refine H_ldB hp rfl rfl ?_))
  refine h_cond_dec (fun hlt => ?_) (fun hlt => ?_)
  ·have hlt' : i < x.ands.length := by omega
   obtain ⟨q1, q2, q3, q4⟩ := hok.and_ hlt'
   have l1 : litP (litV (haTo x.n i).2 (x.ands.getD i default).1) (firstAndL x.n + (haTo x.n i).1.length) := (haTo_lits hok hlt' hB).1
   have l2 : litP (litV (haTo x.n i).2 (x.ands.getD i default).2) (firstAndL x.n + (haTo x.n i).1.length) := (haTo_lits hok hlt' hB).2
   have hadd := addF_bld hok hB l1 l2
   have hroom : ¬ (addC (firstAndL x.n) (haTo x.n i).1 (litV (haTo x.n i).2 (x.ands.getD i default).1) (litV (haTo x.n i).2 (x.ands.getD i default).2)).2 < 0 := by
    rcases hB.addLit l1 l2 with h | ⟨_, h⟩
    ·unfold litP at h; omega
    ·omega
   rw [if_neg hroom] at hadd
   have hi1 := l1.i64 (by omega)
   have hi2 := l2.i64 (by omega)
   refine h_cond_t rfl rfl ?_; skip
   refine N_draw hp (by kernel_rfl) (by kernel_rfl) rfl rfl ?_; (repeat (refine nLoad ?_; first | refine N_ldB rfl rfl rfl ?_ | refine N_ldFN rfl (by omega) rfl rfl rfl ?_ | refine N_ldE rfl (by omega) (by omega) rfl rfl rfl ?_))
   refine N_call Tryz.func86 (by kernel_rfl) rfl (fun F w hp => ?_); refine Ret.mono (specAddAnd_x y (litV (haTo x.n i).2 (x.ands.getD i default).1) (litV (haTo x.n i).2 (x.ands.getD i default).2) _ (rNet_r (hp.pre.take (rNet y))) (by rw [hy]; exact hzok.S') (by rw [hy]; exact hzok.W) hi1 hi2) ?_; rintro _ w ⟨z, ⟨hz, rfl⟩, hq⟩; have hp := hp.callF1 hq; refine ⟨fun _ => hp.sub (by (repeat (first | exact List.sublist_append_left _ _ | apply List.Sublist.cons))), _, hp, ?_⟩; clear hp; refine N_ops rfl rfl ?_; skip
   (first | refine N_box ?_ | refine N_alloc rfl ?_); intro b6; refine N_ops rfl rfl ?_; (repeat (refine N_stBN rfl rfl rfl rfl (by kernel_rfl) ?_; refine N_ops rfl rfl ?_))
   refine N_end ?_; intro w hp C; refine h_run rfl ?_; (repeat (first | (refine gLoad ?_; refine H_ldB hp rfl rfl ?_) | (refine gStore ?_; refine U_stBN hp rfl rfl rfl rfl ?_; intro w hp; refine ops_run nopre rfl ?_) | (refine gBuild ?_; refine U_litI hp rfl rfl rfl rfl rfl rfl rfl rfl rfl rfl ?_; intro w _ hx hp; refine ops_run nopre rfl ?_)))
   rw [hy, hadd] at hz
   refine U_append hp rfl rfl rfl rfl rfl rfl rfl (by decide) rfl (by first | omega | (simp only [List.length_append, List.length_cons, List.length_nil, List.length_take, List.length_drop, List.length_set, List.length_replicate, List.length_map]; omega)) rfl rfl ?_; intro tb' tc' w hp hnil; refine ops_run nopre rfl ?_; skip
   rw [hy, hadd] at hp
   refine IH (i + 1) z tb' tc' _ _ _ (by omega) ?_ ⟨⟨by omega, hz⟩, Hp.tk (hp.f7.f7.f7.f5.f6) 5⟩
   rw [hy, hadd]
   rfl
  ·refine h_cond_f rfl rfl ?_; (repeat (refine H_ldB hp rfl rfl ?_))
   obtain rfl : i = x.ands.length := by omega
   refine h_call rfl Tryz.func87 (by kernel_rfl) rfl (l10Finish_h y x tb tc _ (haTo x.n x.ands.length).2 rfl (haTo x.n x.ands.length).1 hp.f1 hok hy hB (by omega) (by omega)) ?_; rintro _ w ⟨z, ⟨hz, rfl⟩, hp⟩; refine ops_run nopre rfl ?_; (repeat (first | (refine gStore ?_; refine U_stBN hp rfl rfl rfl rfl ?_; intro w hp; refine ops_run nopre rfl ?_) | (refine gRetc ?_; refine R_ret1 hp rfl ?_)))
   exact ⟨z, ⟨hz, rfl⟩, Hp.tk hp 1⟩
 ·refine h_call rfl Tryz.func77 (by kernel_rfl) rfl ((specNetOk_h x _ hp.net hS hW).ff (netOkB_no hok)) ?_; rintro _ w ⟨rfl, hx⟩; have hp := hp.ext hx; refine ops_run nopre rfl ?_; skip
  refine h_cond_t rfl rfl ?_; (repeat (first | (refine gStore ?_; refine U_stBN hp rfl rfl rfl rfl ?_; intro w hp; refine ops_run nopre rfl ?_) | (refine gRetc ?_; refine R_ret1 hp rfl ?_)))
  rw [ifNet_no hok]
  exact ⟨nilA, ⟨rfl, rfl⟩, Hp.tk (hpNil hp) 1⟩
end Go.Proofs
end
section
namespace Go.Xw
open Go.Proofs
set_option maxHeartbeats 1000000
theorem Hp.f8 {w0 w : World} {R A_ B_ C_ D_ E_ F_ G_ H_ : Res} {L : List Res} (h : Hp w0 w (A_ :: B_ :: C_ :: D_ :: E_ :: F_ :: G_ :: H_ :: R :: L)) : Hp w0 w (R :: A_ :: B_ :: C_ :: D_ :: E_ :: F_ :: G_ :: H_ :: L) := h.perm (List.perm_middle (l₁ := [A_, B_, C_, D_, E_, F_, G_, H_]))
theorem Hp.f9 {w0 w : World} {R A_ B_ C_ D_ E_ F_ G_ H_ I_ : Res} {L : List Res} (h : Hp w0 w (A_ :: B_ :: C_ :: D_ :: E_ :: F_ :: G_ :: H_ :: I_ :: R :: L)) : Hp w0 w (R :: A_ :: B_ :: C_ :: D_ :: E_ :: F_ :: G_ :: H_ :: I_ :: L) := h.perm (List.perm_middle (l₁ := [A_, B_, C_, D_, E_, F_, G_, H_, I_]))
theorem Hp.f10 {w0 w : World} {R A_ B_ C_ D_ E_ F_ G_ H_ I_ J_ : Res} {L : List Res} (h : Hp w0 w (A_ :: B_ :: C_ :: D_ :: E_ :: F_ :: G_ :: H_ :: I_ :: J_ :: R :: L)) : Hp w0 w (R :: A_ :: B_ :: C_ :: D_ :: E_ :: F_ :: G_ :: H_ :: I_ :: J_ :: L) := h.perm (List.perm_middle (l₁ := [A_, B_, C_, D_, E_, F_, G_, H_, I_, J_]))
theorem Hp.f11 {w0 w : World} {R A_ B_ C_ D_ E_ F_ G_ H_ I_ J_ K_ : Res} {L : List Res} (h : Hp w0 w (A_ :: B_ :: C_ :: D_ :: E_ :: F_ :: G_ :: H_ :: I_ :: J_ :: K_ :: R :: L)) : Hp w0 w (R :: A_ :: B_ :: C_ :: D_ :: E_ :: F_ :: G_ :: H_ :: I_ :: J_ :: K_ :: L) := h.perm (List.perm_middle (l₁ := [A_, B_, C_, D_, E_, F_, G_, H_, I_, J_, K_]))
def qA (Q : List SeqL) : List SeqA := Q.map fun s => ⟨s.kind, s.init, [], none, 0⟩
theorem qA_len (Q : List SeqL) : (qA Q).length = Q.length := by simp [qA]
theorem qA_app (Q P : List SeqL) : qA (Q ++ P) = qA Q ++ qA P := by simp [qA]
theorem qA_seqs (Q : List SeqL) : seqsOf (qA Q) = Q.map bareS := by simp [qA, seqsOf, SeqA.s, bareS]
def gA (Q : List SeqL) : List SeqA := Q.map fun s => ⟨s.kind, s.init, s.ins, none, 0⟩
theorem gA_len (Q : List SeqL) : (gA Q).length = Q.length := by simp [gA]
theorem gA_seqs (Q : List SeqL) : seqsOf (gA Q) = Q := by
 unfold gA seqsOf
 rw [List.map_map]
 exact List.map_id' Q
def gN (N : NetL) (sa : Option Addr) (sc : Nat) : NetA := ⟨N.inputs, gA N.seqs, sa, sc, N.ands, none, 0, N.outs, none, 0⟩
theorem gN_n (N : NetL) (sa : Option Addr) (sc : Nat) : (gN N sa sc).n = N := by
 show (⟨N.inputs, seqsOf (gA N.seqs), N.ands, N.outs⟩ : NetL) = N
 rw [gA_seqs]
theorem rIns_nilsA {w0 w : World} {L : List Res} : ∀ (Q P : List SeqL), Hp w0 w (rIns (qA P) :: L) → Hp w0 w (rIns (qA (P ++ Q)) :: L)
 | [], P, h => by rw [List.append_nil]; exact h
 | s :: Q, P, h => by
  have h2 := rIns_nilsA Q (P ++ [s]) (by
   rw [qA_app]
   exact rIns_snoc (y := ⟨s.kind, s.init, [], none, 0⟩) h ((Hp.nil w).ownN (Ext.refl _) (Own.nil _ _ _ _ _)))
  rw [List.append_assoc] at h2
  exact h2
theorem rIns_nils {w0 w : World} {L : List Res} (Q : List SeqL) (h : Hp w0 w L) : Hp w0 w (rIns (qA Q) :: L) := rIns_nilsA Q [] (rIns_nil h)
theorem wsT_le {n : ModL} (hm : ModOkP n) (k : Int) : ∀ i : Nat, i ≤ n.sg.length → wsT n k i ≤ 4 * i
 | 0, _ => Nat.le_refl _
 | i + 1, hi => by
  have ih := wsT_le hm k i (by omega)
  have hw := wid_bN hm (s := (i : Nat)) (by unfold inL; omega)
  have hw2 := wN_eq hm (s := (i : Nat)) (by unfold inL; omega)
  rw [wsT]
  split <;> omega
theorem mwT_le {n : ModL} (hm : ModOkP n) : ∀ j : Nat, j ≤ n.ms.length → mwT n j ≤ 4 * j
 | 0, _ => Nat.le_refl _
 | j + 1, hj => by
  have ih := mwT_le hm j (by omega)
  have ho := (hm.ms j (by omega)).2.2.2.1
  have hw := wid_bN hm ho
  have hw2 := wN_eq hm ho
  rw [mwT]
  omega
theorem cntM_nat (R : List MmL) (s : Int) (j : Nat) : (cntM R s j).toNat ≤ j := by have := cntM_b R s j; omega
theorem lenM_b {n : ModL} (hm : ModOkP n) {j s : Nat} (hj : j ≤ n.ms.length) (hs : s < n.sg.length) : lenM n j s ≤ 8 := by
 have hw := wid_bN hm (s := (s : Nat)) (by unfold inL; omega)
 have hw2 := wN_eq hm (s := (s : Nat)) (by unfold inL; omega)
 have h1 := cntM_nat n.ms (s : Nat) j
 have h3 := hm.l3
 unfold lenM
 split
 ·omega
 ·have := Nat.mul_le_mul (show (cntM n.ms (s : Nat) j).toNat ≤ 2 by omega) (show wN n (s : Nat) ≤ 4 by omega)
  omega
structure NumB (n : ModL) (st : List (List Int) × Nat) : Prop where
 len : st.1.length = n.sg.length
 row : ∀ s, s < n.sg.length → (st.1.getD s default).length ≤ 8
 pos : st.2 ≤ 1000
theorem inN_b {n : ModL} (hm : ModOkP n) {i : Nat} (hi : i ≤ n.sg.length) : NumB n (inN n i) := by
 obtain ⟨h1, h2⟩ := inN_ok n i hi
 have h3 := wsT_le hm 0 i hi
 have h4 := hm.l1
 refine ⟨h1.len, fun s hs => ?_, by omega⟩
 rw [(h1.row s hs).1]
 have hw := wid_bN hm (s := (s : Nat)) (by unfold inL; omega)
 have hw2 := wN_eq hm (s := (s : Nat)) (by unfold inL; omega)
 split <;> omega
theorem rgN_b {n : ModL} (hm : ModOkP n) {i : Nat} (hi : i ≤ n.sg.length) : NumB n (rgN n i) := by
 obtain ⟨h1, h2⟩ := rgN_ok n i hi
 have h3 := wsT_le hm 0 n.sg.length (Nat.le_refl _)
 have h5 := wsT_le hm 3 i hi
 have h4 := hm.l1
 refine ⟨h1.len, fun s hs => ?_, by omega⟩
 rw [(h1.row s hs).1]
 have hw := wid_bN hm (s := (s : Nat)) (by unfold inL; omega)
 have hw2 := wN_eq hm (s := (s : Nat)) (by unfold inL; omega)
 split <;> omega
theorem mmN_b {n : ModL} (hm : ModOkP n) {j : Nat} (hj : j ≤ n.ms.length) : NumB n (mmN n j) := by
 obtain ⟨h1, h2⟩ := mmN_ok hm j hj
 have h3 := wsT_le hm 0 n.sg.length (Nat.le_refl _)
 have h5 := wsT_le hm 3 n.sg.length (Nat.le_refl _)
 have h6 := mwT_le hm j hj
 have h4 := hm.l1
 have h7 := hm.l3
 refine ⟨h1.len, fun s hs => ?_, by omega⟩
 rw [(h1.row s hs).1]
 exact lenM_b hm hj hs
theorem insOf_set {α : Type} (R : List (RowA α)) (i : Nat) (y : RowA α) : insOf (R.set i y) = (insOf R).set i y.ins := by simp [insOf, List.map_set]
theorem bitQ_ands (N : NetL) (q : Nat) (bits : List Int) : ∀ k, (bitQ N q bits k).ands = N.ands
 | 0 => rfl
 | k + 1 => bitQ_ands N q bits k
theorem ramT_ands (sig : List (List Int)) (x : MmL) (N : NetL) (q : Nat) : ∀ k, (ramT sig x N q k).ands = N.ands
 | 0 => rfl
 | k + 1 => ramT_ands sig x N q k
theorem memT_ands (n : ModL) (sig : List (List Int)) (N : NetL) (q : Nat) : ∀ j, (memT n sig N q j).1.ands = N.ands
 | 0 => rfl
 | j + 1 => by rw [memT]; exact (ramT_ands _ _ _ _ _).trans (memT_ands n sig N q j)
def zeroN : NetA := ⟨0, [], none, 0, [], none, 0, [], none, 0⟩
theorem rNet_zero {w0 w : World} {L : List Res} (h : Hp w0 w L) : Hp w0 w (rNet zeroN :: L) := by
 have h1 : Hp w0 w (rO 3 1 eI none 0 ([] : List Int) :: L) := h.ownN (Ext.refl _) (Own.nil _ _ _ _ _)
 have h2 : Hp w0 w (rO 120 2 eII none 0 ([] : List (Int × Int)) :: rO 3 1 eI none 0 ([] : List Int) :: L) := h1.ownN (Ext.refl _) (Own.nil _ _ _ _ _)
 have h3 : Hp w0 w (rO 68 3 eSq none 0 ([] : List SeqA) :: rIns [] :: rO 120 2 eII none 0 ([] : List (Int × Int)) :: rO 3 1 eI none 0 ([] : List Int) :: L) := (rIns_nil h2).ownN (Ext.refl _) (Own.nil _ _ _ _ _)
 exact rNet_shut (x := zeroN) (rSq_shut h3)
theorem seqsOf_set (Q : List SeqA) (i : Nat) (y : SeqA) : seqsOf (Q.set i y) = (seqsOf Q).set i y.s := by simp [seqsOf, List.map_set]
theorem seqs_put {Q : List SeqA} {M : NetL} {q : Nat} (h : seqsOf Q = rlQ M.seqs q) (hq : q < M.seqs.length) (l : List Int) (a : Option Addr) (c : Nat) : seqsOf (Q.set q { Q.getD q default with ins := l, ia := a, ic := c }) = rlQ (setQ M q l).seqs (q + 1) := by
 rw [seqsOf_set, rlQ_set hq, ← h, seqsOf_get]; rfl
end Go.Xw
namespace Go.Proofs
open Go.Xw
set_option maxRecDepth 100000
set_option maxHeartbeats 2000000
theorem expr_n (w0 : World) (R : List (RowA Int)) (n : Nat) (hn : R.length = n) (sa : Option Addr) (sc : Nat) (bx p wd : Nat) (hw : 1 ≤ wd ∧ wd ≤ 4) (y : NetA) (ops : List OpL) (oa : Option Addr) (oc : Nat) (hol : ops.length ≤ 15) (hRl : n ≤ 1000) (hRg : ∀ i, i < R.length → (R.getD i default).ins.length ≤ 1000) (t : ExT) (ht : ops = t.ser) (hok : t.ok n) (s : NetL × Bool) (hl : s.1 = { y.n with ands := s.1.ands }) (hs : NetOkP s.1) (hv : ∀ l, l ∈ insOf R → ∀ z, z ∈ l → litP z (nodesL s.1)) (aa : Option Addr) (ac : Nat) (w1 : World) (L : List Res) [h1 : RdH w0 L sa 1 eRo R] [h2 : RowsH w0 L 1 eI R] [h3 : RdH w0 L oa 3 eOp ops]
  (hp : Hp w0 w1 (rB bx 88 [.pointer (some ⟨p, 0, none⟩), .slice sa n sc, .int .i64 (wd : Int), .bool s.2] :: rB p 33 (y.wA aa ac s.1.ands).cs :: rO 120 2 eII aa ac s.1.ands :: L)) :
  Ret Tryz.prog 40 [.pointer (some ⟨bx, 0, none⟩), .slice oa ops.length oc, .int .i64 0] w1 (fun v w' => ∃ b c aa' ac' q, v = .tuple ⟨[.slice b (evA adP (insOf R) wd t s).2.length c, .int .i64 q]⟩ ∧ Hp w0 w' (rO 3 1 eI b c (evA adP (insOf R) wd t s).2 :: rB bx 88 [.pointer (some ⟨p, 0, none⟩), .slice sa n sc, .int .i64 (wd : Int), .bool (evA adP (insOf R) wd t s).1.2] :: rB p 33 (y.wA aa' ac' (evA adP (insOf R) wd t s).1.1.ands).cs :: rO 120 2 eII aa' ac' (evA adP (insOf R) wd t s).1.1.ands :: L)) := by
 subst hn
 have h := expr_h w0 R sa sc bx p wd hw y ops oa oc hol hRl hRg t [] [] (by simpa using ht) hok s hl hs hv aa ac w1 L h1 h2 h3 hp
 refine Ret.mono h ?_
 rintro v w ⟨b, c, aa', ac', h4, h5⟩
 exact ⟨b, c, aa', ac', _, h4, h5⟩
attribute [local irreducible] Holds elemAddr
theorem number_h (x : ModA) (w0 : World) (hM : ModR w0 x) (b1 b5 b6 bs p : Nat) (s : Nat) (sv : Int) (hsv : sv = (s : Nat)) (hs : s < x.sg.length) (wd : Nat) (hw : (x.sg.getD s default).width = (wd : Nat)) (hwd : wd ≤ 4) (hsl : x.sg.length ≤ 30) (R : List (RowA Int)) (hRl : R.length = x.sg.length) (hRs : (R.getD s default).ins.length ≤ 8) (hp1 : p ≤ 1000) (w : World) (L : List Res)
  (hp : Hp w0 w (rO 31 1 eRo (some ⟨bs, 0, none⟩) x.sg.length R :: rRows 3 1 eI R :: rB b6 3 [.int .i64 ((p : Nat) : Int)] :: rB b5 50 [.slice (some ⟨bs, 0, none⟩) x.sg.length x.sg.length] :: rB b1 41 x.cs :: L)) :
  Ret Tryz.prog 38 [.int .i64 sv, .pointer (some ⟨b1, 0, none⟩), .pointer (some ⟨b5, 0, none⟩), .pointer (some ⟨b6, 0, none⟩)] w (fun v w' => ∃ R', v = .tuple ⟨[]⟩ ∧ (R'.length = R.length ∧ insOf R' = (numS (insOf R, p) s wd).1) ∧
   Hp w0 w' (rO 31 1 eRo (some ⟨bs, 0, none⟩) x.sg.length R' :: rRows 3 1 eI R' :: rB b6 3 [.int .i64 ((p + wd : Nat) : Int)] :: rB b5 50 [.slice (some ⟨bs, 0, none⟩) x.sg.length x.sg.length] :: rB b1 41 x.cs :: L)) := by
 subst hsv
 refine enter Tryz.S38ok _ _ rfl rfl (by show _ ≤ _; simp only [List.length]; decide) (fun C => ?_); refine h_run rfl ?_
 skip
 refine h_loop [0, 1, 2, 3, 5] (fun (k : Nat) => [(0, .int .i64 ((s : Nat) : Int)), (1, .pointer (some ⟨b1, 0, none⟩)), (2, .pointer (some ⟨b5, 0, none⟩)), (3, .pointer (some ⟨b6, 0, none⟩)), (5, .int .i64 (k : Int))])
  (fun k w' => k ≤ wd ∧ ∃ R', (R'.length = R.length ∧ insOf R' = (numS (insOf R, p) s k).1) ∧ Hp w0 w' (rO 31 1 eRo (some ⟨bs, 0, none⟩) x.sg.length R' :: rRows 3 1 eI R' :: rB b6 3 [.int .i64 ((p + k : Nat) : Int)] :: rB b5 50 [.slice (some ⟨bs, 0, none⟩) x.sg.length x.sg.length] :: rB b1 41 x.cs :: L)) (fun k => wd - k) 0 rfl ⟨by omega, R, ⟨rfl, by rw [numS_zero (by rw [insOf_len]; omega)]⟩, hp⟩ ?_
 clear hp
 rintro k w1 ⟨hk, R', ⟨hRl', hRi'⟩, hp⟩ IH C
 refine h_run rfl ?_; (repeat (refine gLoad ?_; first | refine H_ldB hp rfl rfl ?_ | refine H_ldFN hp rfl (by omega) rfl rfl ?_))
 refine h_cond_dec (fun hlt => ?_) (fun hlt => ?_)
 ·have hlt' : k < wd := by omega
  have hne : (some ⟨bs, 0, none⟩ : Option Addr) ≠ none := by simp
  have hl2 : (R'.getD s default).ins.length ≤ 20 := by
   rw [← insOf_get, hRi']
   show (((insOf R).set s ((insOf R).getD s default ++ numsL p k)).getD s default).length ≤ 20
   rw [set_getE (by rw [insOf_len]; omega), if_pos rfl, List.length_append, insOf_get, numsL_len]
   omega
  refine h_cond_t rfl rfl ?_; skip
  obtain ⟨Q, hq, hback⟩ := rRows_at hp.f1 (show s < R'.length by omega)
  clear hp
  have hp := hq
  clear hq
  refine N_draw0 hp (Hp.drop hp) (by kernel_rfl) (by kernel_rfl) rfl rfl ?_; (repeat (first | (refine nLoad ?_; first | refine N_ldB rfl rfl rfl ?_ | refine N_ldEN rfl (by omega) rfl rfl rfl ?_) | (refine nBuild ?_; refine N_litI rfl rfl rfl rfl rfl rfl rfl rfl rfl rfl ?_; intro _; refine N_ops rfl rfl ?_)))
  rename_i bl
  refine N_append rfl rfl rfl rfl rfl rfl rfl (by decide) rfl (by first | omega | (simp only [List.length_append, List.length_cons, List.length_nil, List.length_take, List.length_drop, List.length_set, List.length_replicate, List.length_map]; omega)) rfl rfl (fun _ _ _ _ _ hp => hp.sub (by (repeat (first | exact List.sublist_append_left _ _ | apply List.Sublist.cons)))) ?_; intro a' c' hnil; refine N_ops rfl rfl ?_; skip
  first | refine N_st0N (y := (⟨(R'.getD s default).ins ++ [2 * ((p + k : Nat) : Int)], a', c'⟩ : RowA Int)) rfl rfl rfl (by omega) (by decide) (rfl) rfl (by kernel_rfl) ?_ | refine N_st0 (y := (⟨(R'.getD s default).ins ++ [2 * ((p + k : Nat) : Int)], a', c'⟩ : RowA Int)) rfl rfl rfl (by omega) (by decide) (rfl) rfl (by kernel_rfl) ?_
  refine N_ops rfl rfl ?_; skip
  refine N_end ?_; intro w hp C; refine h_run rfl ?_; (repeat (first | (refine gLoad ?_; refine H_ldB hp rfl rfl ?_) | (refine gStore ?_; refine U_stB hp rfl rfl rfl rfl ?_; intro w hp; refine ops_run nopre rfl ?_)))
  have hp := (hback _ _ (⟨(R'.getD s default).ins ++ [2 * ((p + k : Nat) : Int)], a', c'⟩ : RowA Int) hp.drop).f1
  refine IH (k + 1) _ _ _ (by omega) rfl ⟨by omega, R'.set s (⟨(R'.getD s default).ins ++ [2 * ((p + k : Nat) : Int)], a', c'⟩ : RowA Int), ⟨by rw [List.length_set]; exact hRl', ?_⟩, ?_⟩
  ·rw [insOf_set, numS_succ (by rw [insOf_len]; omega), ← hRi', insOf_get]
   rfl
  ·rw [show ((p + (k + 1) : Nat) : Int) = ((p + k : Nat) : Int) + 1 by omega]
   exact hp
 ·refine h_cond_f rfl rfl ?_; (repeat (refine R_ret ?_))
  obtain rfl : k = wd := by omega
  exact ⟨R', rfl, ⟨hRl', hRi'⟩, hp⟩
end Go.Proofs
end
