/- Texts that belong together; each under its stated conditions. -/
import Derived.Test.YtifjicajbgoamaaGreatSweep
import Derived.Test.YtifjicajbgoamaaGreatMapLaw
import Derived.Test.YtifjicajbgoamaaGreatStep
import Derived.Test.YtifjicajbgoamaaGreatGraph1
import Derived.Test.YtifjicajbgoamaaGreatFam
set_option linter.all false
section
namespace Go.Proofs
open Go.Xw
set_option maxRecDepth 100000
set_option maxHeartbeats 1000000
attribute [local irreducible] Holds elemAddr
theorem hashed_h (x : NetA) (w0 : World) (hX : NetR w0 x) (hok : NetOkP x.n) :
  Ret Tryz.prog 54 [x.v] w0 (fun v w => ∃ y, (y.n = hashL x.n ∧ v = y.v) ∧ Hp w0 w [rNet y]) := by
 have hn := hok.nums
 have n1 := hn.n1
 have n4 := hn.n2
 have f2 := hn.f2
 have hnd := hok.nodes
 have hsz := hok.size'
 have hal : x.n.ands.length = x.ands.length := rfl
 refine enter Tryz.S54ok _ _ rfl rfl (by show _ ≤ _; simp only [List.length]; decide) (fun C => ?_); have hp := Hp.nil w0; refine h_run rfl ?_; skip; (first | refine H_box hp ?_ | refine H_alloc hp rfl ?_); intro w b1 hx hp; refine ops_run nopre rfl ?_; skip; (first | refine H_box hp ?_ | refine H_alloc hp rfl ?_); intro w b2 hx hp; refine ops_run nopre rfl ?_; (repeat (refine H_ldB hp rfl rfl ?_))
 refine h_call rfl Tryz.func86 (by kernel_rfl) rfl (emptyCopy_h x _ hp.net hok) ?_; rintro _ w ⟨y0, ⟨hy0, rfl⟩, hq⟩; have hx := hq.x; have hp := hp.call1 hq; refine ops_run nopre rfl ?_; skip
 (first | refine H_box hp ?_ | refine H_alloc hp rfl ?_); intro w b3 hx hp; refine ops_run nopre rfl ?_; (repeat (first | (refine gLoad ?_; refine H_ldB hp rfl rfl ?_) | (refine gStore ?_; refine U_stBN hp rfl rfl rfl rfl ?_; intro w hp; refine ops_run nopre rfl ?_)))
 refine h_call rfl Tryz.func87 (by kernel_rfl) rfl (leafLits_h x _ hok) ?_; rintro _ w ⟨b5, c5, rfl, hq⟩; have hx := hq.x; have hp := hp.call1 hq; refine ops_run nopre rfl ?_; (repeat (refine H_ldB hp rfl rfl ?_))
 have hya : y0.ands = [] := congrArg NetL.ands hy0
 have hyi : y0.inputs = x.inputs := congrArg NetL.inputs hy0
 have hys : seqsOf y0.seqs = (begL x.n []).seqs := congrArg NetL.seqs hy0
 have hyl : y0.seqs.length = x.seqs.length := by rw [← seqsOf_len y0.seqs, hys, beg_at.1, x.slen]
 have hcs : y0.cs = (y0.wA y0.aa y0.ac []).cs := by unfold NetA.cs NetA.wA; rw [hya]
 have hp := (rNet_open hp.f2).f6.f6.f4.f3.f5.f5.f6
 rw [hya] at hp
 have hp := Hp.cgB hp hcs
 refine h_loop3 [1, 2, 3, 4, 12, 13, 14] (fun (i : Nat) (_ : Option Addr) (_ : Nat) => [(1, .pointer (some ⟨b1, 0, none⟩)), (2, .pointer (some ⟨b2, 0, none⟩)), (3, .pointer (some ⟨b3, 0, none⟩)), (4, .slice b5 (nds x.n) c5), (12, .slice x.aa x.ands.length x.ac), (13, .int .i64 x.ands.length), (14, .int .i64 (i : Int))])
  (fun i aa ac w' => i ≤ x.ands.length ∧ Hp w0 w' [rB b3 31 [.int .i64 y0.inputs, .slice y0.sa y0.seqs.length y0.sc, .slice aa ((haTo x.n i).1).length ac, .slice y0.oa y0.outs.length y0.oc], rO 62 2 eII aa ac (haTo x.n i).1, rO 3 1 eI b5 c5 ((haTo x.n i).2 ++ List.replicate (x.ands.length - i) 0), rSq y0.sa y0.sc y0.seqs, rO 3 1 eI y0.oa y0.oc y0.outs, rB b2 31 (cellsV Tryz.ti31.zero), rB b1 31 x.cs])
  (fun i _ _ => x.ands.length - i) 0 y0.aa y0.ac rfl ⟨by omega, hp⟩ ?_
 rintro i aa ac w1 ⟨hi, hp⟩ IH C
 have hl := haTo_len x.n i
 have hB := haTo_ok hok i hi
 have hpl : ((haTo x.n i).2 ++ List.replicate (x.ands.length - i) (0 : Int)).length = nds x.n := by simp; omega
 refine h_run rfl ?_; skip
 refine h_cond_dec (fun hlt => ?_) (fun hlt => ?_)
 ·have hlt' : i < x.ands.length := by omega
  have hz : (firstAndL x.n + (i : Int)).toNat = fst_ x.n + i := by omega
  obtain ⟨q1, q2, q3, q4⟩ := hok.and_ hlt'
  have hrep : List.replicate (x.ands.length - i) (0 : Int) = List.replicate (x.ands.length - (i + 1) + 1) 0 := by rw [show x.ands.length - i = x.ands.length - (i + 1) + 1 by omega]
  have l1' : litP (litV (haTo x.n i).2 (x.ands.getD i default).1) (firstAndL x.n + (haTo x.n i).1.length) := (haTo_lits hok hlt' hB).1
  have l2' : litP (litV (haTo x.n i).2 (x.ands.getD i default).2) (firstAndL x.n + (haTo x.n i).1.length) := (haTo_lits hok hlt' hB).2
  have hne5 : b5 ≠ none := nn_of hp (X := (haTo x.n i).2 ++ List.replicate (x.ands.length - i) (0 : Int)) (by omega)
  unfold litP at l1' l2'
  have hfd : firstAndL (y0.wA aa ac (haTo x.n i).1).n = firstAndL x.n := by rw [firstAndL_eq, firstAndL_eq]; show 1 + y0.inputs + (y0.seqs.length : Nat) = _; omega
  have hC : addAndL (y0.wA aa ac (haTo x.n i).1).n (litV (haTo x.n i).2 (x.ands.getD i default).1) (litV (haTo x.n i).2 (x.ands.getD i default).2) = ({ (y0.wA aa ac (haTo x.n i).1).n with ands := (haTo x.n (i + 1)).1 }, (addC (firstAndL x.n) (haTo x.n i).1 (litV (haTo x.n i).2 (x.ands.getD i default).1) (litV (haTo x.n i).2 (x.ands.getD i default).2)).2) := by
   rw [addAndL_C, hfd]; rfl
  have hb3 : NetB (y0.wA aa ac (haTo x.n i).1) := ⟨by show _ ≤ y0.inputs ∧ y0.inputs ≤ _; omega, by show y0.seqs.length ≤ _; omega, by show (haTo x.n i).1.length ≤ _; omega⟩
  refine h_cond_t rfl rfl ?_; (repeat (refine H_ldEN hp rfl (by omega) rfl rfl ?_))
  (first | refine H_box hp ?_ | refine H_alloc hp rfl ?_); intro w b6 hx hp; refine ops_run nopre rfl ?_; (repeat (refine U_stBN hp rfl rfl rfl rfl ?_; intro w hp; refine ops_run nopre rfl ?_))
  refine N_draw hp (by kernel_rfl) (by kernel_rfl) rfl rfl ?_; (repeat (refine N_ldB rfl rfl rfl ?_))
  refine N_call Tryz.func55 (by kernel_rfl) rfl (fun F w hp => ?_); refine Ret.mono (firstAnd_h x _ hok.b) ?_; rintro _ w ⟨rfl, hx⟩; have hp := hp.ext hx; refine ⟨fun _ => hp.sub (by (repeat (first | exact List.sublist_append_left _ _ | apply List.Sublist.cons))), _, hp, ?_⟩; clear hp; refine N_ops rfl rfl ?_; (repeat (refine N_ldB rfl rfl rfl ?_))
  refine N_call Tryz.func90 (by kernel_rfl) rfl (fun F w hp => ?_); refine Ret.mono (mapLit_h _ _ _ _ hpl (x.ands.getD i default).1 _ hp.pre.rd q1 (by omega) (by omega)) ?_; rintro _ w ⟨rfl, hx⟩; have hp := hp.ext hx; refine ⟨fun _ => hp.sub (by (repeat (first | exact List.sublist_append_left _ _ | apply List.Sublist.cons))), _, hp, ?_⟩; clear hp; refine N_ops rfl rfl ?_; (repeat (refine N_ldB rfl rfl rfl ?_))
  refine N_call Tryz.func90 (by kernel_rfl) rfl (fun F w hp => ?_); refine Ret.mono (mapLit_h _ _ _ _ hpl (x.ands.getD i default).2 _ hp.pre.rd q3 (by omega) (by omega)) ?_; rintro _ w ⟨rfl, hx⟩; have hp := hp.ext hx; refine ⟨fun _ => hp.sub (by (repeat (first | exact List.sublist_append_left _ _ | apply List.Sublist.cons))), _, hp, ?_⟩; clear hp; refine N_ops rfl rfl ?_; skip
  rw [litV_pad, litV_pad]
  refine N_f2 ?_; refine N_f2 ?_
  refine N_call Tryz.func89 (by kernel_rfl) rfl (fun F w hp => ?_); refine Ret.mono (addAnd_F (y0.wA aa ac (haTo x.n i).1) b3 (litV (haTo x.n i).2 (x.ands.getD i default).1) (litV (haTo x.n i).2 (x.ands.getD i default).2) hp hb3 (by show (haTo x.n i).1.length ≤ _; omega) (by omega) (by omega)) ?_; rintro _ w ⟨aa', ac', rfl, hp⟩; refine ⟨fun hq => Bool.noConfusion (hq.symm.trans (by kernel_rfl : flagAt _ _ = false)), _, hp, ?_⟩; clear hp; refine N_ops rfl rfl ?_; (repeat (refine N_st0 rfl rfl rfl (by omega) (by decide) rfl rfl (by kernel_rfl) ?_; refine N_ops rfl rfl ?_))
  refine N_end ?_; intro w hp C; refine h_run rfl ?_; skip
  rw [hC, hz, hrep, show fst_ x.n + i = (haTo x.n i).2.length by omega, pad_set] at hp
  refine IH (i + 1) aa' ac' _ _ _ (by omega) rfl ⟨by omega, ?_⟩
  exact hp.f2.drop
 ·refine h_cond_f rfl rfl ?_; (repeat (refine H_ldB hp rfl rfl ?_))
  obtain rfl : i = x.ands.length := by omega
  rw [Nat.sub_self, List.replicate_zero, List.append_nil] at hp hpl
  refine h_call rfl Tryz.func91 (by kernel_rfl) rfl (copyRoots_h b3 (y0.wA aa ac (haTo x.n x.ands.length).1) x b5 c5 (nds x.n) (haTo x.n x.ands.length).2 hpl (hp.f2.f2.f4.f4.f4) hok (Nat.le_refl _) (by omega) (by show _ ≤ y0.seqs.length; omega) (by show y0.seqs.length ≤ _; omega)) ?_; rintro _ w ⟨R, oa, oc, rfl, ⟨hR, hRs⟩, hp⟩; refine ops_run nopre rfl ?_; (repeat (refine H_ldB hp rfl rfl ?_))
  have hRl : R.length = y0.seqs.length := hR
  have hRs2 : seqsOf R = x.n.seqs.map fun s => ⟨s.kind, s.init, mapL (haTo x.n x.ands.length).2 s.ins⟩ := by
   rw [hRs]
   show upTo (crF (seqsOf y0.seqs) x.n _) x.seqs.length (seqsOf y0.seqs) = _
   rw [hys, ← x.slen]
   exact cr_all beg_at.1 beg_at.2
  have hpre : (NetA.mk y0.inputs R y0.sa y0.sc (haTo x.n x.ands.length).1 aa ac (mapL (haTo x.n x.ands.length).2 x.outs) oa oc).n = preL x.n := by
   unfold NetA.n
   rw [hRs2, hyi]
   rfl
  have hp := rNet_shut (x := ⟨y0.inputs, R, y0.sa, y0.sc, (haTo x.n x.ands.length).1, aa, ac, mapL (haTo x.n x.ands.length).2 x.outs, oa, oc⟩) (hp.f2.f3.f3)
  refine gCall ?_
  show Holds _ _ _ _ _ (.act (.call _ [.agg ⟨[.int .i64 y0.inputs, .slice y0.sa y0.seqs.length y0.sc, .slice aa (haTo x.n x.ands.length).1.length ac, .slice oa (mapL (haTo x.n x.ands.length).2 x.outs).length oc]⟩]) _)
  rw [← hRl]
  refine h_call rfl Tryz.func92 (by kernel_rfl) rfl (sweep_h ⟨y0.inputs, R, y0.sa, y0.sc, (haTo x.n x.ands.length).1, aa, ac, mapL (haTo x.n x.ands.length).2 x.outs, oa, oc⟩ _ hp.net (by rw [hpre]; exact preL_ok hok)) ?_; rintro _ w ⟨z, ⟨hz, rfl⟩, hq⟩; have hx := hq.x; have hp := hp.call1 hq; refine ops_run nopre rfl ?_; (repeat (first | (refine gStore ?_; refine U_stBN hp rfl rfl rfl rfl ?_; intro w hp; refine ops_run nopre rfl ?_) | (refine gRetc ?_; refine R_ret1 hp rfl ?_)))
  rw [hpre] at hz
  exact ⟨z, ⟨hz, rfl⟩, Hp.tk hp 1⟩
theorem l10Finish_h (y x : NetA) (ta : Option Addr) (tc m : Nat) (to : List Int) (hm : to.length = m) (A : List (Int × Int)) {w0 w : World} {L : List Res} (hp : Hp w0 w (rNet y :: L)) [hX : NetH w0 L x] [hT : RdH w0 L ta 1 eI to] (hok : NetOkP x.n) (hy : y.n = zerL x.n A) (hB : Bld (firstAndL x.n) A to) (hnd : nds x.n ≤ m) (hmb : m ≤ 1000000) :
  Ret Tryz.prog 35 [y.v, x.v, .slice ta m tc] w (fun v w' => ∃ z, (z.n = sweepL (finN x.n A to) ∧ v = z.v) ∧ Hp w0 w' (rNet z :: L)) := by
 subst hm
 have hn := hok.nums
 have n1 := hn.n1
 have n2 := hn.n2
 have hsz := hok.size'
 have hsl := x.slen
 have hlit : ∀ l, litP l (nodesL x.n) → 0 ≤ l ∧ l / 2 < to.length := fun l h => by unfold litP at h; omega
 have hya : y.ands = A := congrArg NetL.ands hy
 have hyi : y.inputs = x.inputs := congrArg NetL.inputs hy
 have hys : seqsOf y.seqs = (zerL x.n A).seqs := congrArg NetL.seqs hy
 have hyl : y.seqs.length = x.seqs.length := by rw [← seqsOf_len y.seqs, hys, zer_at.1, x.slen]
 refine enter Tryz.S35ok _ _ rfl rfl (by show _ ≤ _; simp only [List.length]; decide) (fun C => ?_); refine h_run rfl ?_; skip
 (first | refine H_box hp ?_ | refine H_alloc hp rfl ?_); intro w b3 hx hp; refine ops_run nopre rfl ?_; skip
 (first | refine H_box hp ?_ | refine H_alloc hp rfl ?_); intro w b4 hx hp; refine ops_run nopre rfl ?_; skip
 (first | refine H_box hp ?_ | refine H_alloc hp rfl ?_); intro w b6 hx hp; refine ops_run nopre rfl ?_; skip
 have hp := rSq_open ((rNet_open hp.f3).f2.f2.f3.f4.f5.f5)
 refine h_loop2 [2, 3, 4, 6, 7] (fun (i : Nat) (_ : List SeqA) => [(2, .slice ta to.length tc), (3, .pointer (some ⟨b3, 0, none⟩)), (4, .pointer (some ⟨b4, 0, none⟩)), (6, .pointer (some ⟨b6, 0, none⟩)), (7, .int .i64 (i : Int))])
  (fun i R w' => (i ≤ x.seqs.length ∧ R.length = y.seqs.length ∧ seqsOf R = upTo (crF (seqsOf y.seqs) x.n to) i (seqsOf y.seqs)) ∧ Hp w0 w' (rO 88 3 eSq y.sa y.sc R :: rIns R :: rB b3 31 y.cs :: rB b4 31 x.cs :: rB b6 31 (cellsV Tryz.ti31.zero) :: rO 62 2 eII y.aa y.ac y.ands :: rO 3 1 eI y.oa y.oc y.outs :: L)) (fun i _ => x.seqs.length - i) 0 y.seqs rfl
  ⟨⟨by omega, rfl, by rw [upTo_zero]⟩, hp⟩ ?_
 rintro i R w1 ⟨⟨hi, hR, hRs⟩, hp⟩ IH C
 refine h_run rfl ?_; (repeat (refine H_ldB hp rfl rfl ?_))
 refine h_cond_dec (fun hlt => ?_) (fun hlt => ?_)
 ·have hlt' : i < x.seqs.length := by omega
  have hil := hok.ins hlt'
  have hsx := x.sins i
  have hq : ∀ j, j < (x.seqs.getD i default).ins.length → 0 ≤ (x.seqs.getD i default).ins.getD j default ∧ (x.seqs.getD i default).ins.getD j default / 2 < to.length := fun j hj =>
   hlit _ (hok.inp (getD_mem (show i < x.n.seqs.length by omega)) _ (by rw [hsx]; exact getD_mem hj))
  have hrow := hX.in_ hlt'
  have hne : y.sa ≠ none := nn_of hp (X := R) (by omega)
  have hne2 : x.sa ≠ none := nn_of hp (X := x.seqs) (by omega)
  refine h_cond_t rfl rfl ?_; skip
  refine N_draw hp (by kernel_rfl) (by kernel_rfl) rfl rfl ?_; (repeat (refine nLoad ?_; first | refine N_ldB rfl rfl rfl ?_ | refine N_ldFN rfl (by omega) rfl rfl rfl ?_))
  refine N_call Tryz.func73 (by kernel_rfl) rfl (fun F w hp => ?_); refine Ret.mono (l10Map_h _ _ _ _ to (x.seqs.getD i default).ins _ _ rfl rfl _ hp.pre.rd hp.pre.rd hq (by omega) (by omega)) ?_; rintro _ w ⟨r, e, rfl, hq⟩; have hp := hp.callF1 hq; refine ⟨fun _ => hp.sub (by (repeat (first | exact List.sublist_append_left _ _ | apply List.Sublist.cons))), _, hp, ?_⟩; clear hp; refine N_ops rfl rfl ?_; skip
  first | refine N_st1N ({ R.getD i default with ins := mapL to (x.seqs.getD i default).ins, ia := r, ic := e }) rfl rfl rfl (by omega) (by decide) rfl rfl (by kernel_rfl) ?_ | refine N_st1 ({ R.getD i default with ins := mapL to (x.seqs.getD i default).ins, ia := r, ic := e }) rfl rfl rfl (by omega) (by decide) rfl rfl (by kernel_rfl) ?_
  refine N_ops rfl rfl ?_; skip
  refine N_end ?_; intro w hp C; refine h_run rfl ?_; skip
  obtain ⟨Q, hq, hback⟩ := rIns_at hp.f2 (i := i) (by omega)
  have hp := (hback _ _ { R.getD i default with ins := mapL to (x.seqs.getD i default).ins, ia := r, ic := e } hq.drop.f1).f1
  refine IH (i + 1) _ _ _ _ (by omega) rfl ⟨⟨by omega, by simp; omega, ?_⟩, hp⟩
  have hix : i < (seqsOf y.seqs).length := by rw [seqsOf_len]; omega
  rw [seqsOf_set, hRs, ← upTo_set (f := crF (seqsOf y.seqs) x.n to) hix]
  congr 1
  have h1 : (R.getD i default).s = (seqsOf y.seqs).getD i default := by
   rw [← seqsOf_get, hRs, upTo_at (Nat.le_refl _) (by omega)]
  unfold crF
  rw [← h1, hsx]
  rfl
 ·refine h_cond_f rfl rfl ?_; (repeat (refine H_ldB hp rfl rfl ?_))
  obtain rfl : i = x.seqs.length := by omega
  refine h_call rfl Tryz.func73 (by kernel_rfl) rfl (l10Map_h _ _ _ _ to x.outs _ _ rfl rfl _ hp.rd hp.rd (fun j hj => hlit _ (hok.out _ (getD_mem hj))) (by omega) (by omega)) ?_; rintro _ w ⟨r, e, rfl, hq⟩; have hx := hq.x; have hp := hp.call1 hq; refine ops_run nopre rfl ?_; (repeat (first | (refine gLoad ?_; refine H_ldB hp rfl rfl ?_) | (refine gStore ?_; refine U_stB hp rfl rfl rfl rfl ?_; intro w hp; refine ops_run nopre rfl ?_)))
  have hRs2 : seqsOf R = x.n.seqs.map fun s => ⟨s.kind, s.init, mapL to s.ins⟩ := by
   rw [hRs, hys, ← x.slen]
   exact cr_all zer_at.1 zer_at.2
  have hfin : (NetA.mk y.inputs R y.sa y.sc y.ands y.aa y.ac (mapL to x.outs) r e).n = finN x.n A to := by
   unfold NetA.n
   rw [hRs2, hyi, hya]
   rfl
  have hokF : NetOkP (NetA.mk y.inputs R y.sa y.sc y.ands y.aa y.ac (mapL to x.outs) r e).n := by rw [hfin]; exact finN_ok hok hB hnd
  have hp := rNet_shut (x := ⟨y.inputs, R, y.sa, y.sc, y.ands, y.aa, y.ac, mapL to x.outs, r, e⟩) ((rSq_shut (hp.f2.f2)).f1.f5.f2)
  refine gCall ?_
  show Holds _ _ _ _ _ (.act (.call _ [.agg ⟨[.int .i64 y.inputs, .slice y.sa y.seqs.length y.sc, .slice y.aa y.ands.length y.ac, .slice r (mapL to x.outs).length e]⟩]) _)
  rw [← hR]
  refine h_call rfl Tryz.func74 (by kernel_rfl) rfl (specSweep_x ⟨y.inputs, R, y.sa, y.sc, y.ands, y.aa, y.ac, mapL to x.outs, r, e⟩ _ hp.net hokF.S' hokF.W) ?_; rintro _ w ⟨z, ⟨hz, rfl⟩, hq⟩; have hx := hq.x; have hp := hp.call1 hq; refine ops_run nopre rfl ?_; (repeat (first | (refine gStore ?_; refine U_stBN hp rfl rfl rfl rfl ?_; intro w hp; refine ops_run nopre rfl ?_) | (refine gRetc ?_; refine R_ret1 hp rfl ?_)))
  rw [ifNet_yes hokF, hfin] at hz
  refine ⟨z, ⟨hz, rfl⟩, ?_⟩
  exact hp.f1.drop.f1.drop.f1.drop.f1.drop.f1.drop
theorem addF_bld {n : NetL} (hok : NetOkP n) {A : List (Int × Int)} {to : List Int} (hB : Bld (firstAndL n) A to) {a b : Int} (ha : litP a (firstAndL n + A.length)) (hb : litP b (firstAndL n + A.length)) :
  addF (zerL n A) [a, b] (addAndL (zerL n A) a b) = if (addC (firstAndL n) A a b).2 < 0 then (zerL n A, -1) else (zerL n (addC (firstAndL n) A a b).1, (addC (firstAndL n) A a b).2) := by
 have hz := zerL_ok hok hB
 have hnd : nodesL (zerL n A) = firstAndL n + A.length := by have := firstAndL_zer n A; unfold firstAndL at this; unfold nodesL; rw [this]; rfl
 have hC : addAndL (zerL n A) a b = (zerL n (addC (firstAndL n) A a b).1, (addC (firstAndL n) A a b).2) := by
  rw [addAndL_C, firstAndL_zer]; rfl
 have hv : NetOkP (zerL n A) ∧ ∀ l, l ∈ [a, b] → litP l (nodesL (zerL n A)) := ⟨hz, two_lits.2 (by rw [hnd]; exact ⟨ha, hb⟩)⟩
 split
 ·rename_i h
  exact addF_neg hv (by rw [hC]; exact h)
 ·rename_i h
  rw [addF_yes hv (by rw [hC]; exact h), hC]
theorem specHash_x (x : NetA) (w0 : World) (hX : NetR w0 x) (hS : NetS x.n) (hW : NetW x.n) :
  Ret Tryz.prog 51 [x.v] w0 (fun v w => ∃ y, (y.n = ifNet x.n (hashL x.n) ∧ v = y.v) ∧ Hp w0 w [rNet y]) := by
 refine enter Tryz.S51ok _ _ rfl rfl (by show _ ≤ _; simp only [List.length]; decide) (fun C => ?_); have hp := Hp.nil w0; refine h_run rfl ?_; skip; (first | refine H_box hp ?_ | refine H_alloc hp rfl ?_); intro w b1 hx hp; refine ops_run nopre rfl ?_; skip; (first | refine H_box hp ?_ | refine H_alloc hp rfl ?_); intro w b2 hx hp; refine ops_run nopre rfl ?_; (repeat (refine H_ldB hp rfl rfl ?_))
 by_cases hok : NetOkP x.n
 ·have hn := hok.nums
  have n1 := hn.n1
  have n4 := hn.n2
  have f2 := hn.f2
  have hnd := hok.nodes
  have hsz := hok.size'
  have hal : x.n.ands.length = x.ands.length := rfl
  have hll := leafL_len x.n
  rw [ifNet_yes hok]
  refine h_call rfl Tryz.func50 (by kernel_rfl) rfl ((specNetOk_h x _ hp.net hS hW).tt (netOkB_yes hok)) ?_; rintro _ w ⟨rfl, hx⟩; have hp := hp.ext hx; refine ops_run nopre rfl ?_; skip
  refine h_cond_f rfl rfl ?_; (repeat (refine H_ldB hp rfl rfl ?_))
  refine h_call rfl Tryz.func31 (by kernel_rfl) rfl (l10Empty_h x _ hp.net hok hS) ?_; rintro _ w ⟨y0, b5, c5, ⟨hy0, rfl⟩, hq⟩; refine ops_run nopre rfl ?_; skip
  have hp := hp.call2 hq
  skip
  (first | refine H_box hp ?_ | refine H_alloc hp rfl ?_); intro w b3 hx hp; refine ops_run nopre rfl ?_; (repeat (refine U_stBN hp rfl rfl rfl rfl ?_; intro w hp; refine ops_run nopre rfl ?_))
  refine h_loop4 [1, 2, 3, 4, 5] (fun (i : Nat) (_ : NetA) (tb : Option Addr) (tc : Nat) => [(1, .pointer (some ⟨b1, 0, none⟩)), (2, .pointer (some ⟨b2, 0, none⟩)), (3, .pointer (some ⟨b3, 0, none⟩)), (4, .slice tb (haTo x.n i).2.length tc), (5, .int .i64 (i : Int))])
   (fun i y tb tc w' => (i ≤ x.ands.length ∧ y.n = zerL x.n (haTo x.n i).1) ∧ Hp w0 w' [rB b3 31 y.cs, rNet y, rO 3 1 eI tb tc (haTo x.n i).2, rB b2 31 (cellsV Tryz.ti31.zero), rB b1 31 x.cs])
   (fun i _ _ _ => x.ands.length - i) 0 y0 b5 c5 rfl ⟨⟨by omega, hy0⟩, hp⟩ ?_
  rintro i y tb tc w1 ⟨⟨hi, hy⟩, hp⟩ IH C
  have hl := haTo_len x.n i
  have hB := haTo_ok hok i hi
  have hzok := zerL_ok hok hB
  refine h_run rfl ?_; (repeat (refine H_ldB hp rfl rfl ?_))
  refine h_cond_dec (fun hlt => ?_) (fun hlt => ?_)
  ·have hlt' : i < x.ands.length := by omega
   obtain ⟨q1, q2, q3, q4⟩ := hok.and_ hlt'
   have l1 : litP (litV (haTo x.n i).2 (x.ands.getD i default).1) (firstAndL x.n + (haTo x.n i).1.length) := (haTo_lits hok hlt' hB).1
   have l2 : litP (litV (haTo x.n i).2 (x.ands.getD i default).2) (firstAndL x.n + (haTo x.n i).1.length) := (haTo_lits hok hlt' hB).2
   have hadd := addF_bld hok hB l1 l2
   have hroom : ¬ (addC (firstAndL x.n) (haTo x.n i).1 (litV (haTo x.n i).2 (x.ands.getD i default).1) (litV (haTo x.n i).2 (x.ands.getD i default).2)).2 < 0 := by
    rcases hB.addLit l1 l2 with h | ⟨_, h⟩
    ·unfold litP at h; omega
    ·omega
   rw [if_neg hroom] at hadd
   have hi1 := l1.i64 (by omega)
   have hi2 := l2.i64 (by omega)
   refine h_cond_t rfl rfl ?_; skip
   refine N_draw hp (by kernel_rfl) (by kernel_rfl) rfl rfl ?_; (repeat (refine nLoad ?_; first | refine N_ldB rfl rfl rfl ?_ | refine N_ldFN rfl (by omega) rfl rfl rfl ?_ | refine N_ldE rfl (by omega) (by omega) rfl rfl rfl ?_))
   refine N_call Tryz.func34 (by kernel_rfl) rfl (fun F w hp => ?_); refine Ret.mono (specAddAnd_x y (litV (haTo x.n i).2 (x.ands.getD i default).1) (litV (haTo x.n i).2 (x.ands.getD i default).2) _ (rNet_r (hp.pre.take (rNet y))) (by rw [hy]; exact hzok.S') (by rw [hy]; exact hzok.W) hi1 hi2) ?_; rintro _ w ⟨z, ⟨hz, rfl⟩, hq⟩; have hp := hp.callF1 hq; refine ⟨fun _ => hp.sub (by (repeat (first | exact List.sublist_append_left _ _ | apply List.Sublist.cons))), _, hp, ?_⟩; clear hp; refine N_ops rfl rfl ?_; skip
   (first | refine N_box ?_ | refine N_alloc rfl ?_); intro b6; refine N_ops rfl rfl ?_; (repeat (refine N_stBN rfl rfl rfl rfl (by kernel_rfl) ?_; refine N_ops rfl rfl ?_))
   refine N_end ?_; intro w hp C; refine h_run rfl ?_; (repeat (first | (refine gLoad ?_; refine H_ldB hp rfl rfl ?_) | (refine gStore ?_; refine U_stBN hp rfl rfl rfl rfl ?_; intro w hp; refine ops_run nopre rfl ?_) | (refine gBuild ?_; refine U_litI hp rfl rfl rfl rfl rfl rfl rfl rfl rfl rfl ?_; intro w _ hx hp; refine ops_run nopre rfl ?_)))
   rw [hy, hadd] at hz
   refine U_append hp rfl rfl rfl rfl rfl rfl rfl (by decide) rfl (by first | omega | (simp only [List.length_append, List.length_cons, List.length_nil, List.length_take, List.length_drop, List.length_set, List.length_replicate, List.length_map]; omega)) rfl rfl ?_; intro tb' tc' w hp hnil; refine ops_run nopre rfl ?_; skip
   rw [hy, hadd] at hp
   refine IH (i + 1) z tb' tc' _ _ _ (by omega) ?_ ⟨⟨by omega, hz⟩, Hp.tk (hp.f7.f7.f7.f5.f6) 5⟩
   rw [hy, hadd]
   rfl
  ·refine h_cond_f rfl rfl ?_; (repeat (refine H_ldB hp rfl rfl ?_))
   obtain rfl : i = x.ands.length := by omega
   refine h_call rfl Tryz.func35 (by kernel_rfl) rfl (l10Finish_h y x tb tc _ (haTo x.n x.ands.length).2 rfl (haTo x.n x.ands.length).1 hp.f1 hok hy hB (by omega) (by omega)) ?_; rintro _ w ⟨z, ⟨hz, rfl⟩, hp⟩; refine ops_run nopre rfl ?_; (repeat (first | (refine gStore ?_; refine U_stBN hp rfl rfl rfl rfl ?_; intro w hp; refine ops_run nopre rfl ?_) | (refine gRetc ?_; refine R_ret1 hp rfl ?_)))
   exact ⟨z, ⟨hz, rfl⟩, Hp.tk hp 1⟩
 ·refine h_call rfl Tryz.func50 (by kernel_rfl) rfl ((specNetOk_h x _ hp.net hS hW).ff (netOkB_no hok)) ?_; rintro _ w ⟨rfl, hx⟩; have hp := hp.ext hx; refine ops_run nopre rfl ?_; skip
  refine h_cond_t rfl rfl ?_; (repeat (first | (refine gStore ?_; refine U_stBN hp rfl rfl rfl rfl ?_; intro w hp; refine ops_run nopre rfl ?_) | (refine gRetc ?_; refine R_ret1 hp rfl ?_)))
  rw [ifNet_no hok]
  exact ⟨nilA, ⟨rfl, rfl⟩, Hp.tk (hpNil hp) 1⟩
end Go.Proofs
end
section
namespace Go.Proofs
open Go.Xw
set_option maxRecDepth 100000
set_option maxHeartbeats 4000000
attribute [local irreducible] Holds elemAddr
theorem specCubeOk_h (m : Int) (c : Int × Int) (w0 : World) (hm : i64R m) (hc : i64R c.1 ∧ i64R c.2) : Ret Tryz.prog 112 [.int .i64 m, .agg ⟨eII c⟩] w0 (fun v w => v = .bool (cubeOkB m c) ∧ Ext w0 w) := by
 refine enter Tryz.S112ok _ _ rfl rfl (by show _ ≤ _; simp only [List.length]; decide) (fun C => ?_); have hp := Hp.nil w0; refine h_run rfl ?_; skip; (first | refine H_box hp ?_ | refine H_alloc hp rfl ?_); intro w b3 hx hp; refine ops_run nopre rfl ?_; skip
 refine N_draw hp (by kernel_rfl) (by kernel_rfl) rfl rfl ?_; skip
 by_cases h0 : 0 ≤ m ∧ m ≤ 4
 ·have h2 := pow_small h0
  have hbk : m ≤ ((IntKind.i64.bits : Nat) : Int) := by show m ≤ 64; omega
  refine N_call Tryz.func95 (by kernel_rfl) rfl (fun F w hp => ?_); refine Ret.mono ((l01In_h m 0 4 _).yes h0) ?_; rintro _ w ⟨rfl, hx⟩; have hp := hp.ext hx; refine ⟨fun _ => hp.sub (by (repeat (first | exact List.sublist_append_left _ _ | apply List.Sublist.cons))), _, hp, ?_⟩; clear hp; refine N_ops rfl rfl ?_; (repeat (first | (refine nGuard ?_; refine N_guard_y rfl rfl rfl ?_) | (refine nLoad ?_; refine N_ldB rfl rfl rfl ?_)))
  by_cases h1 : 0 ≤ c.1 ∧ c.1 ≤ 1 * 2 ^ m.toNat - 1
  ·refine N_call Tryz.func95 (by kernel_rfl) rfl (fun F w hp => ?_); refine Ret.mono ((l01In_h c.1 0 (1 * 2 ^ m.toNat - 1) _).yes h1) ?_; rintro _ w ⟨rfl, hx⟩; have hp := hp.ext hx; refine ⟨fun _ => hp.sub (by (repeat (first | exact List.sublist_append_left _ _ | apply List.Sublist.cons))), _, hp, ?_⟩; clear hp; refine N_ops rfl rfl ?_; (repeat (first | (refine nGuard ?_; refine N_guard_y rfl rfl rfl ?_) | (refine nLoad ?_; refine N_ldB rfl rfl rfl ?_)))
   by_cases h3 : 0 ≤ c.2 ∧ c.2 ≤ 1 * 2 ^ m.toNat - 1
   ·refine N_call Tryz.func95 (by kernel_rfl) rfl (fun F w hp => ?_); refine Ret.mono ((l01In_h c.2 0 (1 * 2 ^ m.toNat - 1) _).yes h3) ?_; rintro _ w ⟨rfl, hx⟩; have hp := hp.ext hx; refine ⟨fun _ => hp.sub (by (repeat (first | exact List.sublist_append_left _ _ | apply List.Sublist.cons))), _, hp, ?_⟩; clear hp; refine N_ops rfl rfl ?_; (repeat (first | (refine nGuard ?_; refine N_guard_y rfl rfl rfl ?_) | (refine nLoad ?_; refine N_ldB rfl rfl rfl ?_)))
    refine N_end ?_; intro w hp C; refine h_run rfl ?_; (repeat (refine R_ret ?_))
    refine ⟨?_, hp.x⟩
    by_cases h4 : bits .andNot .i64 c.2 c.1 = 0
    ·rw [decide_eq_true h4, cubeOkB_yes ⟨h0, by omega, by omega, h4⟩]
    ·rw [decide_eq_false h4, cubeOkB_no (fun h => h4 h.2.2.2)]
   ·refine N_call Tryz.func95 (by kernel_rfl) rfl (fun F w hp => ?_); refine Ret.mono ((l01In_h c.2 0 (1 * 2 ^ m.toNat - 1) _).no h3) ?_; rintro _ w ⟨rfl, hx⟩; have hp := hp.ext hx; refine ⟨fun _ => hp.sub (by (repeat (first | exact List.sublist_append_left _ _ | apply List.Sublist.cons))), _, hp, ?_⟩; clear hp; refine N_ops rfl rfl ?_; (repeat (refine N_guard_n rfl rfl rfl ?_))
    refine N_end ?_; intro w hp C; refine h_run rfl ?_; (repeat (refine R_ret ?_))
    exact ⟨by rw [cubeOkB_no (fun h => h3 (by have := h.2.2.1; omega))], hp.x⟩
  ·refine N_call Tryz.func95 (by kernel_rfl) rfl (fun F w hp => ?_); refine Ret.mono ((l01In_h c.1 0 (1 * 2 ^ m.toNat - 1) _).no h1) ?_; rintro _ w ⟨rfl, hx⟩; have hp := hp.ext hx; refine ⟨fun _ => hp.sub (by (repeat (first | exact List.sublist_append_left _ _ | apply List.Sublist.cons))), _, hp, ?_⟩; clear hp; refine N_ops rfl rfl ?_; (repeat (refine N_guard_n rfl rfl rfl ?_))
   refine N_end ?_; intro w hp C; refine h_run rfl ?_; (repeat (refine R_ret ?_))
   exact ⟨by rw [cubeOkB_no (fun h => h1 (by have := h.2.1; omega))], hp.x⟩
 ·refine N_call Tryz.func95 (by kernel_rfl) rfl (fun F w hp => ?_); refine Ret.mono ((l01In_h m 0 4 _).no h0) ?_; rintro _ w ⟨rfl, hx⟩; have hp := hp.ext hx; refine ⟨fun _ => hp.sub (by (repeat (first | exact List.sublist_append_left _ _ | apply List.Sublist.cons))), _, hp, ?_⟩; clear hp; refine N_ops rfl rfl ?_; (repeat (refine N_guard_n rfl rfl rfl ?_))
  refine N_end ?_; intro w hp C; refine h_run rfl ?_; (repeat (refine R_ret ?_))
  exact ⟨by rw [cubeOkB_no (fun h => h0 h.1)], hp.x⟩
theorem l03Ok_h (m : Int) (ca : Option Addr) (cc q : Nat) (K : List (Int × Int)) (hq : K.length = q) (w0 : World) (hm : i64R m) (hR : Rd w0 ca 2 eII K) (hK : ∀ i, i < K.length → i64R (K.getD i default).1 ∧ i64R (K.getD i default).2) (hb : q ≤ 1048576) : Ret Tryz.prog 70 [.int .i64 m, .slice ca q cc] w0 (fun v w => v = .bool (coverOkB m K) ∧ Ext w0 w) := by
 subst hq
 refine enter Tryz.S70ok _ _ rfl rfl (by show _ ≤ _; simp only [List.length]; decide) (fun C => ?_); have hp := Hp.nil w0; refine h_run rfl ?_; skip
 by_cases h0 : 0 ≤ m ∧ m ≤ 4
 ·refine h_call rfl Tryz.func95 (by kernel_rfl) rfl ((l01In_h m 0 4 _).yes h0) ?_; rintro _ w ⟨rfl, hx⟩; have hp := hp.ext hx; refine ops_run nopre rfl ?_; (repeat (refine h_guard_y rfl nopre rfl ?_))
  refine h_cond_dec (fun h1 => ?_) (fun h1 => ?_)
  ·refine h_cond_t rfl rfl ?_; (repeat (refine R_ret ?_))
   exact ⟨by rw [coverOkB_no (fun h => by have := h.2.1; omega)], hp.x⟩
  ·refine h_cond_f rfl rfl ?_; skip
   refine h_loop [0, 1, 5] (fun (i : Nat) => [(0, .int .i64 m), (1, .slice ca K.length cc), (5, .int .i64 (i : Int))])
    (fun i w' => (i ≤ K.length ∧ ∀ c, c ∈ K.take i → cubeOkP m c) ∧ Hp w0 w' []) (fun i => K.length - i) 0 rfl ⟨⟨by omega, fun c hc => by simp at hc⟩, hp⟩ ?_
   clear hp
   rintro i w1 ⟨⟨hi, hall⟩, hp⟩ IH C
   refine h_run rfl ?_; skip
   refine h_cond_dec (fun hlt => ?_) (fun hlt => ?_)
   ·have hlt' : i < K.length := by omega
    have hci := hK i hlt'
    have hne : ca ≠ none := nn_of hp (X := K) (by omega)
    refine h_cond_t rfl rfl ?_; (repeat (refine H_ldEN hp rfl (by omega) rfl rfl ?_))
    by_cases h2 : cubeOkP m (K.getD i default)
    ·refine h_call rfl Tryz.func112 (by kernel_rfl) rfl ((specCubeOk_h m (K.getD i default) _ hm hci).tt (cubeOkB_yes h2)) ?_; rintro _ w ⟨rfl, hx⟩; have hp := hp.ext hx; refine ops_run nopre rfl ?_; skip
     refine h_cond_f rfl rfl ?_; skip
     refine IH (i + 1) _ _ _ (by omega) rfl ⟨⟨by omega, fun c hc => ?_⟩, hp⟩
     rw [take_snoc hlt'] at hc
     rcases List.mem_append.1 hc with hc | hc
     ·exact hall c hc
     ·simp only [List.mem_singleton] at hc
      subst hc
      exact h2
    ·refine h_call rfl Tryz.func112 (by kernel_rfl) rfl ((specCubeOk_h m (K.getD i default) _ hm hci).ff (cubeOkB_no h2)) ?_; rintro _ w ⟨rfl, hx⟩; have hp := hp.ext hx; refine ops_run nopre rfl ?_; skip
     refine h_cond_t rfl rfl ?_; (repeat (refine R_ret ?_))
     exact ⟨by rw [coverOkB_no (fun h => h2 (h.2.2 _ (getD_mem hlt')))], Hp.x hp⟩
   ·obtain rfl : i = K.length := by omega
    refine h_cond_f rfl rfl ?_; (repeat (refine R_ret ?_))
    rw [List.take_length] at hall
    exact ⟨by rw [coverOkB_yes ⟨h0, by omega, hall⟩], hp.x⟩
 ·refine h_call rfl Tryz.func95 (by kernel_rfl) rfl ((l01In_h m 0 4 _).no h0) ?_; rintro _ w ⟨rfl, hx⟩; have hp := hp.ext hx; refine ops_run nopre rfl ?_; (repeat (refine h_guard_n rfl nopre rfl ?_))
  refine h_cond_t rfl rfl ?_; (repeat (refine R_ret ?_))
  exact ⟨by rw [coverOkB_no (fun h => h0 h.1)], hp.x⟩
end Go.Proofs
end
section
namespace Go.Xw
def insL : List Int → Int → List Int
 | [], x => [x]
 | y :: ys, x => if y < x then y :: insL ys x else if y = x then y :: ys else x :: y :: ys
theorem insL_at : ∀ {i : Nat} {xs : List Int} {x : Int}, i ≤ xs.length → (∀ j, j < i → xs.getD j default < x) → ¬ (i < xs.length ∧ xs.getD i default < x) →
  insL xs x = if i < xs.length ∧ xs.getD i default = x then xs else xs.take i ++ x :: xs.drop i := by
 intro i
 induction i with
 | zero =>
  intro xs x _ _ hn
  cases xs with
  | nil => simp [insL]
  | cons y ys =>
   simp at hn
   simp only [insL, List.length_cons, List.getD_cons_zero, List.take_zero, List.drop_zero, List.nil_append]
   rw [if_neg (by omega)]
   simp
 | succ i ih =>
  intro xs x hi hall hn
  cases xs with
  | nil => simp at hi
  | cons y ys =>
   have h0 : y < x := by simpa using hall 0 (by omega)
   have h1 := ih (xs := ys) (x := x) (by simpa using hi) (fun j hj => by simpa using hall (j + 1) (by omega)) (by simpa using hn)
   simp only [insL, if_pos h0, h1, List.length_cons, List.getD_cons_succ, List.take_succ_cons, List.drop_succ_cons, Nat.add_lt_add_iff_right, List.cons_append]
   split <;> rfl
theorem insL_len (xs : List Int) (x : Int) : (insL xs x).length ≤ xs.length + 1 := by
 induction xs with
 | nil => simp [insL]
 | cons y ys ih =>
  simp only [insL]
  split
  ·simpa using ih
  ·split <;> simp
def Asc (xs : List Int) : Prop := xs.Pairwise (· < ·)
theorem asc_get {xs : List Int} : (∀ i, 1 ≤ i → i < xs.length → xs.getD (i - 1) default < xs.getD i default) ↔ Asc xs := by
 constructor
 ·intro h
  induction xs with
  | nil => exact List.Pairwise.nil
  | cons x xs ih =>
   have h2 : Asc xs := ih fun i h1 h2 => by
    have := h (i + 1) (by omega) (by simpa using h2)
    rw [List.getD_cons_succ, show i + 1 - 1 = (i - 1) + 1 by omega, List.getD_cons_succ] at this
    exact this
   refine List.Pairwise.cons ?_ h2
   cases xs with
   | nil => simp
   | cons y ys =>
    have h3 : x < y := by simpa using h 1 (by omega) (by simp)
    intro z hz
    rcases List.mem_cons.1 hz with rfl | hz
    ·exact h3
    ·have := (List.pairwise_cons.1 h2).1 z hz
     omega
 ·intro h i h1 h2
  have := List.pairwise_iff_getElem.1 h (i - 1) i (by omega) h2 (by omega)
  simpa [List.getD_eq_getElem?_getD, h2, show i - 1 < xs.length by omega] using this
def mrg : List Int → List Int → List Int
 | [], ys => ys
 | x :: xs, [] => x :: xs
 | x :: xs, y :: ys => if x < y then x :: mrg xs (y :: ys) else if y < x then y :: mrg (x :: xs) ys else x :: mrg xs ys
termination_by xs ys => xs.length + ys.length
theorem mrg_nil (xs : List Int) : mrg xs [] = xs := by cases xs <;> simp [mrg]
theorem fold_cons {ys : List Int} : ∀ {x : Int} {xs : List Int}, (∀ y ∈ ys, x < y) → ys.foldl insL (x :: xs) = x :: ys.foldl insL xs := by
 induction ys with
 | nil => intros; rfl
 | cons y ys ih =>
  intro x xs h
  have h0 := h y (by simp)
  simp only [List.foldl_cons, insL, if_pos h0]
  exact ih fun z hz => h z (by simp [hz])
theorem fold_mrg : ∀ (n : Nat) {xs ys : List Int}, xs.length + ys.length ≤ n → Asc xs → Asc ys → ys.foldl insL xs = mrg xs ys := by
 intro n
 induction n with
 | zero =>
  intro xs ys hn _ _
  have h1 : xs = [] := List.length_eq_zero_iff.1 (by omega)
  have h2 : ys = [] := List.length_eq_zero_iff.1 (by omega)
  subst h1; subst h2
  simp [mrg]
 | succ n ih =>
  intro xs ys hn hx hy
  cases ys with
  | nil => rw [mrg_nil]; rfl
  | cons y ys =>
   have hy1 := (List.pairwise_cons.1 hy).1
   have hy2 : Asc ys := (List.pairwise_cons.1 hy).2
   cases xs with
   | nil =>
    simp only [mrg, List.foldl_cons, insL]
    rw [fold_cons hy1, ih (by simp at hn ⊢; omega) List.Pairwise.nil hy2]
    cases ys <;> simp [mrg]
   | cons x xs =>
    have hx2 : Asc xs := (List.pairwise_cons.1 hx).2
    have hx1 := (List.pairwise_cons.1 hx).1
    simp only [List.length_cons] at hn
    rcases Int.lt_trichotomy x y with h | h | h
    ·have : ∀ z ∈ y :: ys, x < z := fun z hz => by
      rcases List.mem_cons.1 hz with rfl | hz
      ·exact h
      ·have := hy1 z hz; omega
     rw [fold_cons this, ih (by simp; omega) hx2 hy]
     simp [mrg, h]
    ·subst h
     simp only [List.foldl_cons, insL]
     rw [if_neg (by omega), if_pos trivial, fold_cons hy1, ih (by omega) hx2 hy2]
     simp [mrg]
    ·simp only [List.foldl_cons, insL]
     rw [if_neg (by omega), if_neg (by omega), fold_cons hy1, ih (by simp; omega) hx hy2]
     simp [mrg, h, show ¬ x < y by omega]
theorem mrg_pos {xs ys : List Int} (h : 0 < xs.length ∨ 0 < ys.length) : 0 < (mrg xs ys).length := by
 cases xs with
 | nil => simpa [mrg] using h
 | cons x xs =>
  cases ys with
  | nil => simp [mrg]
  | cons y ys =>
   simp only [mrg]
   split
   ·simp
   ·split <;> simp
theorem drop_at {xs : List Int} {i : Nat} (h : i < xs.length) : xs.drop i = xs.getD i default :: xs.drop (i + 1) := by
 rw [List.drop_eq_getElem_cons h]
 simp [List.getD_eq_getElem?_getD, h]
theorem mrg1 {xs ys : List Int} {i j : Nat} (hi : i < xs.length) (h : j = ys.length ∨ (j < ys.length ∧ xs.getD i default < ys.getD j default)) :
  mrg (xs.drop i) (ys.drop j) = xs.getD i default :: mrg (xs.drop (i + 1)) (ys.drop j) := by
 rcases h with h | ⟨hj, h⟩
 ·subst h
  rw [List.drop_length, mrg_nil, mrg_nil, drop_at hi]
 ·rw [drop_at hi, drop_at hj]
  simp only [mrg, if_pos h]
theorem mrg2 {xs ys : List Int} {i j : Nat} (hj : j < ys.length) (h : i = xs.length ∨ (i < xs.length ∧ ys.getD j default < xs.getD i default)) :
  mrg (xs.drop i) (ys.drop j) = ys.getD j default :: mrg (xs.drop i) (ys.drop (j + 1)) := by
 rcases h with h | ⟨hi, h⟩
 ·subst h
  rw [List.drop_length, drop_at hj]
  simp only [mrg]
 ·rw [drop_at hi, drop_at hj]
  simp only [mrg]
  rw [if_neg (by omega), if_pos h]
theorem mrg3 {xs ys : List Int} {i j : Nat} (hi : i < xs.length) (hj : j < ys.length) (h : xs.getD i default = ys.getD j default) :
  mrg (xs.drop i) (ys.drop j) = xs.getD i default :: mrg (xs.drop (i + 1)) (ys.drop (j + 1)) := by
 rw [drop_at hi, drop_at hj]
 simp only [mrg]
 rw [if_neg (by omega), if_neg (by omega)]
end Go.Xw
end
section
namespace Go.Xw
theorem own_take {w0 : World} {L : List Res} {a : Option Addr} {e : TypeId} {α : Type} [Inhabited α] {enc : α → List Value} {s c j : Nat} {X : List α} [he : EncOk enc s] (hj : j ≤ X.length) : RdH w0 (rO e s enc a c X :: L) (subA a c s 0) s enc (X.take j) :=
 ⟨fun w hp => Sl.takeL (hp.sl he) hj hp.own.cap⟩
theorem own_drop {w0 : World} {L : List Res} {a : Option Addr} {e : TypeId} {α : Type} [Inhabited α] {enc : α → List Value} {s c j : Nat} {X : List α} [he : EncOk enc s] (hj : j ≤ X.length) : RdH w0 (rO e s enc a c X :: L) (subA a c s j) s enc (X.drop j) :=
 ⟨fun w hp => Sl.dropL (hp.sl he) hj hp.own.cap⟩
end Go.Xw
namespace Go.Proofs
open Go.Xw
set_option maxRecDepth 100000
set_option maxHeartbeats 1000000
attribute [local irreducible] Holds elemAddr
theorem insertInt_h (a : Option Addr) (c : Nat) (xs : List Int) (x : Int) (hl : xs.length ≤ 100000000) {w0 w : World} {L : List Res} (hp : Hp w0 w (rO 3 1 eI a c xs :: L)) :
  Ret Tryz.prog 136 [.slice a xs.length c, .int .i64 x] w (fun v w' => ∃ a' c', v = .slice a' (insL xs x).length c' ∧ Hp w0 w' (rO 3 1 eI a' c' (insL xs x) :: L)) := by
 refine enter Tryz.S136ok _ _ rfl rfl (by show _ ≤ _; simp only [List.length]; decide) (fun C => ?_); refine h_run rfl ?_; skip
 refine h_loop [0, 1, 5] (fun i : Nat => [(0, .slice a xs.length c), (1, .int .i64 x), (5, .int .i64 (i : Int))])
  (fun i w' => i ≤ xs.length ∧ (∀ j, j < i → xs.getD j default < x) ∧ Hp w0 w' (rO 3 1 eI a c xs :: L)) (fun i => xs.length - i) 0 rfl ⟨by omega, fun j hj => by omega, hp⟩ ?_
 rintro i w1 ⟨hi, hall, hp⟩ IH C
 have hcap := hp.own.cap
 have hT : RdH w0 (rO 3 1 eI a c xs :: L) (subA a c Tryz.ti3.size 0) 1 eI (xs.take i) := own_take (s := 1) hi
 have hD : RdH w0 (rO 3 1 eI a c xs :: L) (subA a c Tryz.ti3.size ((i : Int)).toNat) 1 eI (xs.drop i) := own_drop (s := 1) hi
 have hTl : (xs.take i).length = i := by rw [List.length_take]; omega
 have hDl : (xs.drop i).length = xs.length - i := List.length_drop
 refine h_run rfl ?_; skip
 refine h_guard_by (fun hlt => ?_) (fun hlt => ?_); all_goals (rw [hlt]; (first | replace hlt := of_decide_eq_true hlt | replace hlt := of_decide_eq_false hlt | skip); (repeat (first | (refine gGuard ?_; first | refine h_guard_y rfl nopre rfl ?_ | refine h_guard_n rfl nopre rfl ?_) | (refine gLoad ?_; refine H_ldEN hp rfl (by omega) rfl rfl ?_))))
 ·have hlt' : i < xs.length := by omega
  refine h_cond_dec (fun hless => ?_) (fun hless => ?_)
  ·refine h_cond_t rfl rfl ?_; skip
   refine IH (i + 1) _ _ _ (by omega) rfl ⟨by omega, fun j hj => ?_, hp⟩
   by_cases h : j < i
   ·exact hall j h
   ·obtain rfl : j = i := by omega
    exact hless
  ·refine h_cond_f rfl rfl ?_; skip
   have hat := insL_at hi hall (fun h => hless h.2)
   refine h_guard_by (fun hlt2 => ?_) (fun hlt2 => ?_); all_goals (rw [hlt2]; (first | replace hlt2 := of_decide_eq_true hlt2 | replace hlt2 := of_decide_eq_false hlt2 | skip); (repeat (first | (refine gGuard ?_; first | refine h_guard_y rfl nopre rfl ?_ | refine h_guard_n rfl nopre rfl ?_) | (refine gLoad ?_; refine H_ldEN hp rfl (by omega) rfl rfl ?_))))
   ·refine h_cond_dec (fun heq => ?_) (fun heq => ?_)
    ·refine h_cond_t rfl rfl ?_; (repeat (refine R_ret ?_))
     rw [if_pos ⟨hlt', heq⟩] at hat
     rw [hat]
     exact ⟨a, c, rfl, hp⟩
    ·refine h_cond_f rfl rfl ?_; (repeat (refine U_litI hp rfl rfl rfl rfl rfl rfl rfl rfl rfl rfl ?_; intro w _ hx hp; refine ops_run nopre rfl ?_))
     rw [if_neg (fun h => heq h.2)] at hat
     refine U_append (Y := xs.take i) hp rfl hTl rfl rfl rfl rfl rfl (by decide) rfl (by simp only [List.length_nil]; omega) rfl rfl ?_; intro a2 c2 w hp hnil; refine ops_run nopre rfl ?_; (repeat (refine U_litI hp rfl rfl rfl rfl rfl rfl rfl rfl rfl rfl ?_; intro w _ hx hp; refine ops_run nopre rfl ?_))
     refine U_append hp rfl rfl rfl rfl rfl rfl rfl (by decide) rfl (by first | omega | (simp only [List.length_append, List.length_cons, List.length_nil, List.length_take, List.length_drop, List.length_set, List.length_replicate, List.length_map]; omega)) rfl rfl ?_; intro a3 c3 w hp hnil; refine ops_run nopre rfl ?_; skip
     refine U_append (Y := xs.drop i) hp rfl hDl rfl rfl rfl rfl rfl (by decide) rfl (by simp only [List.length_append, List.length_cons, List.length_nil]; omega) rfl rfl ?_; intro a4 c4 w hp hnil; refine ops_run nopre rfl ?_; (repeat (refine R_ret ?_))
     have e5 : [] ++ xs.take i ++ [x] ++ xs.drop i = insL xs x := by rw [hat]; simp
     rw [e5] at hp ⊢
     exact ⟨a4, c4, rfl, hp.f2.drop.f1.f1.drop⟩
   ·exact absurd hlt hlt2
 ·have hie : i = xs.length := by omega
  have hat := insL_at hi hall (fun h => by omega)
  rw [if_neg (by omega)] at hat
  refine h_cond_f rfl rfl ?_; skip
  refine h_guard_by (fun hlt2 => ?_) (fun hlt2 => ?_); all_goals (rw [hlt2]; (first | replace hlt2 := of_decide_eq_true hlt2 | replace hlt2 := of_decide_eq_false hlt2 | skip); (repeat (first | (refine gGuard ?_; first | refine h_guard_y rfl nopre rfl ?_ | refine h_guard_n rfl nopre rfl ?_) | (refine gLoad ?_; refine H_ldEN hp rfl (by omega) rfl rfl ?_))))
  ·exact absurd hlt2 hlt
  ·refine h_cond_f rfl rfl ?_; (repeat (refine U_litI hp rfl rfl rfl rfl rfl rfl rfl rfl rfl rfl ?_; intro w _ hx hp; refine ops_run nopre rfl ?_))
   refine U_append (Y := xs.take i) hp rfl hTl rfl rfl rfl rfl rfl (by decide) rfl (by simp only [List.length_nil]; omega) rfl rfl ?_; intro a2 c2 w hp hnil; refine ops_run nopre rfl ?_; (repeat (refine U_litI hp rfl rfl rfl rfl rfl rfl rfl rfl rfl rfl ?_; intro w _ hx hp; refine ops_run nopre rfl ?_))
   refine U_append hp rfl rfl rfl rfl rfl rfl rfl (by decide) rfl (by first | omega | (simp only [List.length_append, List.length_cons, List.length_nil, List.length_take, List.length_drop, List.length_set, List.length_replicate, List.length_map]; omega)) rfl rfl ?_; intro a3 c3 w hp hnil; refine ops_run nopre rfl ?_; skip
   refine U_append (Y := xs.drop i) hp rfl hDl rfl rfl rfl rfl rfl (by decide) rfl (by simp only [List.length_append, List.length_cons, List.length_nil]; omega) rfl rfl ?_; intro a4 c4 w hp hnil; refine ops_run nopre rfl ?_; (repeat (refine R_ret ?_))
   have e5 : [] ++ xs.take i ++ [x] ++ xs.drop i = insL xs x := by rw [hat]; simp
   rw [e5] at hp ⊢
   exact ⟨a4, c4, rfl, hp.f2.drop.f1.f1.drop⟩
theorem insertInt_F (a : Option Addr) (c : Nat) (xs : List Int) (x : Int) (hl : xs.length ≤ 100000000) {w0 w : World} {L F : List Res} (hp : Hp w0 w ((rO 3 1 eI a c xs :: L) ++ F)) :
  Ret Tryz.prog 136 [.slice a xs.length c, .int .i64 x] w (fun v w' => ∃ a' c', v = .slice a' (insL xs x).length c' ∧ Hp w0 w' ((rO 3 1 eI a' c' (insL xs x) :: L) ++ F)) :=
 insertInt_h a c xs x hl (L := L ++ F) hp
end Go.Proofs
end
