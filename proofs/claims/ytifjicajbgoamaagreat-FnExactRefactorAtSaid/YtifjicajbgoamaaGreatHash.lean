/- The contracts of the functions that hash a net; each under its stated conditions. -/
import Derived.Test.YtifjicajbgoamaaGreatSweep
set_option linter.all false
namespace Go.Proofs
open Go.Xw
set_option maxRecDepth 100000
set_option maxHeartbeats 1000000
attribute [local irreducible] Holds elemAddr

theorem l10Finish_h (y x : NetA) (ta : Option Addr) (tc m : Nat) (to : List Int) (hm : to.length = m) (A : List (Int × Int)) {w0 w : World} {L : List Res} (hp : Hp w0 w (rNet y :: L)) [hX : NetH w0 L x] [hT : RdH w0 L ta 1 eI to] (hok : NetOkP x.n) (hy : y.n = zerL x.n A) (hB : Bld (firstAndL x.n) A to) (hnd : nds x.n ≤ m) (hmb : m ≤ 1000000) :
    Ret Tryz.prog 35 [y.v, x.v, .slice ta m tc] w (fun v w' => ∃ z, (z.n = sweepL (finN x.n A to) ∧ v = z.v) ∧ Hp w0 w' (rNet z :: L)) := by
  subst hm
  have hn := hok.nums
  have n1 := hn.n1
  have n2 := hn.n2
  have hsz := hok.size'
  have hsl := x.slen
  have hlit : ∀ l, litP l (nodesL x.n) → 0 ≤ l ∧ l / 2 < to.length := fun l h => by unfold litP at h; omega
  have hya : y.ands = A := congrArg NetL.ands hy
  have hyi : y.inputs = x.inputs := congrArg NetL.inputs hy
  have hys : seqsOf y.seqs = (zerL x.n A).seqs := congrArg NetL.seqs hy
  have hyl : y.seqs.length = x.seqs.length := by rw [← seqsOf_len y.seqs, hys, zer_at.1, x.slen]
  refine enter Tryz.S35ok _ _ rfl rfl (by show _ ≤ _; simp only [List.length]; decide) (fun C => ?_); refine h_run rfl ?_; skip
  (first | (refine H_box hp ?_; intro w b3 hx hp) | (refine H_alloc hp rfl ?_; intro w b3 hx hp)); refine ops_run nopre rfl ?_; skip
  (first | (refine H_box hp ?_; intro w b4 hx hp) | (refine H_alloc hp rfl ?_; intro w b4 hx hp)); refine ops_run nopre rfl ?_; skip
  (first | (refine H_box hp ?_; intro w b6 hx hp) | (refine H_alloc hp rfl ?_; intro w b6 hx hp)); refine ops_run nopre rfl ?_; skip
  have hp := rSq_open ((rNet_open hp.f3).f2.f2.f3.f4.f5.f5)
  refine h_loop2 [2, 3, 4, 6, 7] (fun (i : Nat) (_ : List SeqA) => [(2, .slice ta to.length tc), (3, .pointer (some ⟨b3, 0, none⟩)), (4, .pointer (some ⟨b4, 0, none⟩)), (6, .pointer (some ⟨b6, 0, none⟩)), (7, .int .i64 (i : Int))])
    (fun i R w' => (i ≤ x.seqs.length ∧ R.length = y.seqs.length ∧ seqsOf R = upTo (crF (seqsOf y.seqs) x.n to) i (seqsOf y.seqs)) ∧ Hp w0 w' (rO 88 3 eSq y.sa y.sc R :: rIns R :: rB b3 31 y.cs :: rB b4 31 x.cs :: rB b6 31 (cellsV Tryz.ti31.zero) :: rO 62 2 eII y.aa y.ac y.ands :: rO 3 1 eI y.oa y.oc y.outs :: L)) (fun i _ => x.seqs.length - i) 0 y.seqs rfl
    ⟨⟨by omega, rfl, by rw [upTo_zero]⟩, hp⟩ ?_
  rintro i R w1 ⟨⟨hi, hR, hRs⟩, hp⟩ IH C
  refine h_run rfl ?_; (repeat (refine H_ldB hp rfl rfl ?_))
  refine h_cond_dec (fun hlt => ?_) (fun hlt => ?_)
  · have hlt' : i < x.seqs.length := by omega
    have hil := hok.ins hlt'
    have hsx := x.sins i
    have hq : ∀ j, j < (x.seqs.getD i default).ins.length → 0 ≤ (x.seqs.getD i default).ins.getD j default ∧ (x.seqs.getD i default).ins.getD j default / 2 < to.length := fun j hj =>
      hlit _ (hok.inp (getD_mem (show i < x.n.seqs.length by omega)) _ (by rw [hsx]; exact getD_mem hj))
    have hrow := hX.in_ hlt'
    have hne : y.sa ≠ none := nn_of hp (X := R) (by omega)
    have hne2 : x.sa ≠ none := nn_of hp (X := x.seqs) (by omega)
    refine h_cond_t rfl rfl ?_; skip
    refine N_draw hp (by kernel_rfl) (by kernel_rfl) rfl rfl ?_; (repeat (refine nLoad ?_; first | refine N_ldB rfl rfl rfl ?_ | refine N_ldFN rfl (by omega) rfl rfl rfl ?_))
    refine N_call Tryz.func73 (by kernel_rfl) rfl (fun F w hp => ?_); refine Ret.mono (l10Map_h _ _ _ _ to (x.seqs.getD i default).ins _ _ rfl rfl _ hp.pre.rd hp.pre.rd hq (by omega) (by omega)) ?_; rintro _ w ⟨r, e, rfl, hq⟩; have hp := hp.callF1 hq; refine ⟨fun _ => hp.sub (by (repeat (first | exact List.sublist_append_left _ _ | apply List.Sublist.cons))), _, hp, ?_⟩; clear hp; refine N_ops rfl rfl ?_; skip
    first | refine N_st1N ({ R.getD i default with ins := mapL to (x.seqs.getD i default).ins, ia := r, ic := e }) rfl rfl rfl (by omega) (by decide) rfl rfl (by kernel_rfl) ?_ | refine N_st1 ({ R.getD i default with ins := mapL to (x.seqs.getD i default).ins, ia := r, ic := e }) rfl rfl rfl (by omega) (by decide) rfl rfl (by kernel_rfl) ?_
    refine N_ops rfl rfl ?_; skip
    refine N_end ?_; intro w hp C; refine h_run rfl ?_; skip
    obtain ⟨Q, hq, hback⟩ := rIns_at hp.f2 (i := i) (by omega)
    have hp := (hback _ _ { R.getD i default with ins := mapL to (x.seqs.getD i default).ins, ia := r, ic := e } hq.drop.f1).f1
    refine IH (i + 1) _ _ _ _ (by omega) rfl ⟨⟨by omega, by simp; omega, ?_⟩, hp⟩
    have hix : i < (seqsOf y.seqs).length := by rw [seqsOf_len]; omega
    rw [seqsOf_set, hRs, ← upTo_set (f := crF (seqsOf y.seqs) x.n to) hix]
    congr 1
    have h1 : (R.getD i default).s = (seqsOf y.seqs).getD i default := by
      rw [← seqsOf_get, hRs, upTo_at (Nat.le_refl _) (by omega)]
    unfold crF
    rw [← h1, hsx]
    rfl
  · refine h_cond_f rfl rfl ?_; (repeat (refine H_ldB hp rfl rfl ?_))
    obtain rfl : i = x.seqs.length := by omega
    refine h_call rfl Tryz.func73 (by kernel_rfl) rfl (l10Map_h _ _ _ _ to x.outs _ _ rfl rfl _ hp.rd hp.rd (fun j hj => hlit _ (hok.out _ (getD_mem hj))) (by omega) (by omega)) ?_; rintro _ w ⟨r, e, rfl, hq⟩; have hx := hq.x; have hp := hp.call1 hq; refine ops_run nopre rfl ?_; (repeat (first | (refine gLoad ?_; refine H_ldB hp rfl rfl ?_) | (refine gStore ?_; refine U_stB hp rfl rfl rfl rfl ?_; intro w hp; refine ops_run nopre rfl ?_)))
    have hRs2 : seqsOf R = x.n.seqs.map fun s => ⟨s.kind, s.init, mapL to s.ins⟩ := by
      rw [hRs, hys, ← x.slen]
      exact cr_all zer_at.1 zer_at.2
    have hfin : (NetA.mk y.inputs R y.sa y.sc y.ands y.aa y.ac (mapL to x.outs) r e).n = finN x.n A to := by
      unfold NetA.n
      rw [hRs2, hyi, hya]
      rfl
    have hokF : NetOkP (NetA.mk y.inputs R y.sa y.sc y.ands y.aa y.ac (mapL to x.outs) r e).n := by rw [hfin]; exact finN_ok hok hB hnd
    have hp := rNet_shut (x := ⟨y.inputs, R, y.sa, y.sc, y.ands, y.aa, y.ac, mapL to x.outs, r, e⟩) ((rSq_shut (hp.f2.f2)).f1.f5.f2)
    refine gCall ?_
    show Holds _ _ _ _ _ (.act (.call _ [.agg ⟨[.int .i64 y.inputs, .slice y.sa y.seqs.length y.sc, .slice y.aa y.ands.length y.ac, .slice r (mapL to x.outs).length e]⟩]) _)
    rw [← hR]
    refine h_call rfl Tryz.func74 (by kernel_rfl) rfl (specSweep_x ⟨y.inputs, R, y.sa, y.sc, y.ands, y.aa, y.ac, mapL to x.outs, r, e⟩ _ hp.net hokF.S' hokF.W) ?_; rintro _ w ⟨z, ⟨hz, rfl⟩, hq⟩; have hx := hq.x; have hp := hp.call1 hq; refine ops_run nopre rfl ?_; (repeat (first | (refine gStore ?_; refine U_stBN hp rfl rfl rfl rfl ?_; intro w hp; refine ops_run nopre rfl ?_) | (refine gRetc ?_; refine R_ret1 hp rfl ?_)))
    rw [ifNet_yes hokF, hfin] at hz
    refine ⟨z, ⟨hz, rfl⟩, ?_⟩
    exact hp.f1.drop.f1.drop.f1.drop.f1.drop.f1.drop

/-- adding to a net that is being built, in the reference's way -/
theorem addF_bld {n : NetL} (hok : NetOkP n) {A : List (Int × Int)} {to : List Int} (hB : Bld (firstAndL n) A to) {a b : Int} (ha : litP a (firstAndL n + A.length)) (hb : litP b (firstAndL n + A.length)) :
    addF (zerL n A) [a, b] (addAndL (zerL n A) a b) = if (addC (firstAndL n) A a b).2 < 0 then (zerL n A, -1) else (zerL n (addC (firstAndL n) A a b).1, (addC (firstAndL n) A a b).2) := by
  have hz := zerL_ok hok hB
  have hnd : nodesL (zerL n A) = firstAndL n + A.length := by have := firstAndL_zer n A; unfold firstAndL at this; unfold nodesL; rw [this]; rfl
  have hC : addAndL (zerL n A) a b = (zerL n (addC (firstAndL n) A a b).1, (addC (firstAndL n) A a b).2) := by
    rw [addAndL_C, firstAndL_zer]; rfl
  have hv : NetOkP (zerL n A) ∧ ∀ l, l ∈ [a, b] → litP l (nodesL (zerL n A)) := ⟨hz, two_lits.2 (by rw [hnd]; exact ⟨ha, hb⟩)⟩
  split
  · rename_i h
    exact addF_neg hv (by rw [hC]; exact h)
  · rename_i h
    rw [addF_yes hv (by rw [hC]; exact h), hC]
end Go.Proofs
