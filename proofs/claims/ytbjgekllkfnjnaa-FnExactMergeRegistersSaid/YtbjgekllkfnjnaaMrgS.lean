/- The contract of the reference's function that merges registers; under its stated conditions. -/
import Derived.Test.YtbjgekllkfnjnaaMrg
import Derived.Test.YtbjgekllkfnjnaaClsS
import Derived.Test.YtbjgekllkfnjnaaPruneS
set_option linter.all false
namespace Go.Xw
open Go.Proofs
/-- the AND nodes of n, those of the first i through the literals -/
def mpA (to : List Int) (A : List (Int × Int)) (i : Nat) : Int × Int := (litV to (A.getD i default).1, litV to (A.getD i default).2)
theorem mpA_all (to : List Int) (A : List (Int × Int)) : upTo (mpA to A) A.length A = mapA to A := by
  rw [upTo_all]
  refine list_eq (by rw [mapA_len]; simp) fun i hi => ?_
  rw [List.length_map, List.length_range] at hi
  rw [range_get (f := mpA to A) hi, mapA_get hi]
  rfl
end Go.Xw
namespace Go.Proofs
open Go.Xw
set_option maxRecDepth 100000
set_option maxHeartbeats 2000000
attribute [local irreducible] Holds elemAddr
theorem specMergeRegisters_x (x : NetA) (w0 : World) (hX : NetR w0 x) (hS : NetS x.n) (hW : NetW x.n) :
    Ret Try.prog 38 [x.v] w0 (fun v w => ∃ y, (y.n = ifNet x.n (mrgR x.n) ∧ v = y.v) ∧ Hp w0 w [rNet y]) := by
  refine enter Try.S38ok _ _ rfl rfl (by show _ ≤ _; simp only [List.length]; decide) (fun C => ?_); have hp := Hp.nil w0; refine h_run rfl ?_; skip; (first | (refine H_box hp ?_; intro w b1 hx hp) | (refine H_alloc hp rfl ?_; intro w b1 hx hp)); refine ops_run nopre rfl ?_; skip; (first | (refine H_box hp ?_; intro w b2 hx hp) | (refine H_alloc hp rfl ?_; intro w b2 hx hp)); refine ops_run nopre rfl ?_; (repeat (refine H_ldB hp rfl rfl ?_))
  by_cases hok : NetOkP x.n
  · rw [ifNet_yes hok]
    have hn := hok.nums
    have n1 := hn.n1
    have n4 := hn.n2
    have f2 := hn.f2
    have hnd := hok.nodes
    have hsz := hok.size'
    have hal : x.n.ands.length = x.ands.length := rfl
    have hq := hok.fsq
    have hin : x.n.inputs = x.inputs := rfl
    have hxs := x.slen
    have hcl := regL_P x.n
    have hcll : (regL x.n).length = x.seqs.length := by rw [regL_len, hxs]
    have hcnt : nodeCountL x.n = (nds x.n : Int) := by rw [nodeCountL, if_pos hok.size, n4]
    refine h_call rfl Try.func56 (by kernel_rfl) rfl ((specNetOk_h x _ hp.net hS hW).tt (netOkB_yes hok)) ?_; rintro _ w ⟨rfl, hx⟩; have hp := hp.ext hx; refine ops_run nopre rfl ?_; skip
    refine h_cond_f rfl rfl ?_; (repeat (refine H_ldB hp rfl rfl ?_))
    refine h_call rfl Try.func79 (by kernel_rfl) rfl (specRegisterClasses_x x _ hp.net hS hW) ?_; rintro _ w ⟨bc, cc, rfl, hq⟩; have hx := hq.x; have hp := hp.call1 hq; refine ops_run nopre rfl ?_; (repeat (refine H_ldB hp rfl rfl ?_))
    rw [ifOk_yes hok] at hp ⊢
    refine h_call rfl Try.func80 (by kernel_rfl) rfl (specCopyNet_h x _ hp.net hS) ?_; rintro _ w ⟨y, ⟨hy, rfl⟩, hq⟩; have hx := hq.x; have hp := hp.call1 hq; refine ops_run nopre rfl ?_; skip
    have hya : y.ands = x.ands := congrArg NetL.ands hy
    have hyo : y.outs = x.outs := congrArg NetL.outs hy
    have hyi : y.inputs = x.inputs := congrArg NetL.inputs hy
    have hys : seqsOf y.seqs = seqsOf x.seqs := congrArg NetL.seqs hy
    have hyl : y.seqs.length = x.seqs.length := by rw [← seqsOf_len y.seqs, hys, seqsOf_len]
    (first | (refine H_box hp ?_; intro w b4 hx hp) | (refine H_alloc hp rfl ?_; intro w b4 hx hp)); refine ops_run nopre rfl ?_; (repeat (first | (refine gStore ?_; refine U_stBN hp rfl rfl rfl rfl ?_; intro w hp; refine ops_run nopre rfl ?_) | (refine gBuild ?_; refine U_litI hp rfl rfl rfl rfl rfl rfl rfl rfl rfl rfl ?_; intro w _ hx hp; refine ops_run nopre rfl ?_)))
    obtain ⟨P, hP⟩ : ∃ P, P = placeL x.n (regL x.n) := ⟨_, rfl⟩
    have hPl : P.length = nds x.n := by rw [hP, placeL_len]
    have hPg : ∀ k, k < nds x.n → P.getD k default = if fsq x.n ≤ k ∧ k < fsq x.n + (regL x.n).length then 2 * ((fsq x.n : Int) + (regL x.n).getD (k - fsq x.n) default) else 2 * ((k : Nat) : Int) := fun k hk => by
      rw [hP]; exact plTo_get hk
    refine h_loop3 [1, 2, 3, 4, 5, 6] (fun (k : Nat) (tb : Option Addr) (tc : Nat) => [(1, .pointer (some ⟨b1, 0, none⟩)), (2, .pointer (some ⟨b2, 0, none⟩)), (3, .slice bc (regL x.n).length cc), (4, .pointer (some ⟨b4, 0, none⟩)), (5, .slice tb (P.take k).length tc), (6, .int .i64 (k : Int))])
      (fun k tb tc w' => k ≤ nds x.n ∧ Hp w0 w' [rO 3 1 eI tb tc (P.take k), rB b4 28 y.cs, rNet y, rO 3 1 eI bc cc (regL x.n), rB b2 28 (cellsV Try.ti28.zero), rB b1 28 x.cs]) (fun k _ _ => nds x.n - k) 0 _ _ rfl ⟨by omega, hp⟩ ?_
    clear hp
    rintro k tb tc w1 ⟨hk, hp⟩ IH C
    refine h_run rfl ?_; (repeat (refine H_ldB hp rfl rfl ?_))
    refine h_call rfl Try.func13 (by kernel_rfl) rfl (specNodeCount_h x _) ?_; rintro _ w ⟨rfl, hx⟩; have hp := hp.ext hx; refine ops_run nopre rfl ?_; skip
    rw [hcnt]
    refine h_cond_dec (fun hlt => ?_) (fun hlt => ?_)
    · have hlt' : k < nds x.n := by omega
      have hg := hPg k hlt'
      have e : P.take (k + 1) = P.take k ++ [P.getD k default] := take_snoc (by omega)
      have hcap := hp.f3.own.cap
      refine h_cond_t rfl rfl ?_; (repeat (refine H_ldB hp rfl rfl ?_))
      refine h_guard_by (fun h1 => ?_) (fun h1 => ?_); all_goals (rw [h1]; (first | replace h1 := of_decide_eq_true h1 | replace h1 := of_decide_eq_false h1 | skip); (repeat (refine gGuard ?_; first | refine h_guard_y rfl nopre rfl ?_ | refine h_guard_n rfl nopre rfl ?_)))
      · refine h_cond_dec (fun h2 => ?_) (fun h2 => ?_)
        · have hci := (hcl.2 (k - fsq x.n) (by omega)).1
          have ez : ((k : Int) - 1 - x.inputs).toNat = k - fsq x.n := by omega
          refine h_cond_t rfl rfl ?_; skip
          have e' : P.take (k + 1) = P.take k ++ [2 * (1 + x.inputs + (regL x.n).getD ((k : Int) - 1 - x.inputs).toNat default)] := by
            rw [e, hg, if_pos ⟨by omega, by omega⟩, ez, show (2 : Int) * (1 + x.inputs + (regL x.n).getD (k - fsq x.n) default) = 2 * ((fsq x.n : Int) + (regL x.n).getD (k - fsq x.n) default) by omega]
          rw [← ez] at hci
          refine D_draw hp (by kernel_rfl) (by kernel_rfl) rfl rfl ?_; intro w hx hp; have hs := hp; (repeat (first | (refine gLoad ?_; first | refine D_ldB rfl rfl rfl ?_ | refine D_ldE rfl (by omega) (by omega) rfl rfl rfl ?_) | (refine gBuild ?_; refine V_litI (fun _ hx => hs.ext hx) hp rfl rfl rfl rfl rfl rfl rfl rfl rfl rfl ?_; intro w _ hx hp; have hs := hs.ext hx; refine D_ops rfl rfl ?_)))
          refine V_append hp rfl rfl rfl rfl rfl rfl rfl (by decide) rfl (by first | omega | (simp only [List.length_append, List.length_cons, List.length_nil, List.length_take, List.length_drop, List.length_set, List.length_replicate, List.length_map]; omega)) rfl rfl (by kernel_rfl) ?_; intro tb' tc' w hp hnil; refine D_ops rfl rfl ?_; skip
          refine IH (k + 1) tb' tc' _ _ _ (by omega) (by rw [e']; rfl) ⟨by omega, ?_⟩
          rw [e']
          exact hp.drop
        · refine h_cond_f rfl rfl ?_; (repeat (refine U_litI hp rfl rfl rfl rfl rfl rfl rfl rfl rfl rfl ?_; intro w _ hx hp; refine ops_run nopre rfl ?_))
          have e' : P.take (k + 1) = P.take k ++ [2 * (k : Int)] := by rw [e, hg, if_neg (by omega)]
          refine U_append hp rfl rfl rfl rfl rfl rfl rfl (by decide) rfl (by first | omega | (simp only [List.length_append, List.length_cons, List.length_nil, List.length_take, List.length_drop, List.length_set, List.length_replicate, List.length_map]; omega)) rfl rfl ?_; intro tb' tc' w hp hnil; refine ops_run nopre rfl ?_; skip
          refine IH (k + 1) tb' tc' _ _ _ (by omega) (by rw [e']; rfl) ⟨by omega, ?_⟩
          rw [e']
          exact hp.drop
      · refine h_cond_f rfl rfl ?_; (repeat (refine U_litI hp rfl rfl rfl rfl rfl rfl rfl rfl rfl rfl ?_; intro w _ hx hp; refine ops_run nopre rfl ?_))
        have e' : P.take (k + 1) = P.take k ++ [2 * (k : Int)] := by rw [e, hg, if_neg (by omega)]
        refine U_append hp rfl rfl rfl rfl rfl rfl rfl (by decide) rfl (by first | omega | (simp only [List.length_append, List.length_cons, List.length_nil, List.length_take, List.length_drop, List.length_set, List.length_replicate, List.length_map]; omega)) rfl rfl ?_; intro tb' tc' w hp hnil; refine ops_run nopre rfl ?_; skip
        refine IH (k + 1) tb' tc' _ _ _ (by omega) (by rw [e']; rfl) ⟨by omega, ?_⟩
        rw [e']
        exact hp.drop
    · obtain rfl : k = nds x.n := by omega
      clear IH
      rw [← hPl, List.take_length] at hp ⊢
      refine h_cond_f rfl rfl ?_; skip
      have hlit : ∀ l, litP l (nodesL x.n) → 0 ≤ l ∧ l / 2 < P.length := fun l h => by unfold litP at h; omega
      have hp := (rNet_open hp.f2).f6.f3.f3.f3.f4.f5
      rw [hya] at hp
      have hcs : y.cs = [.int .i64 y.inputs, .slice y.sa y.seqs.length y.sc, .slice y.aa x.ands.length y.ac, .slice y.oa y.outs.length y.oc] := by unfold NetA.cs; rw [hya]
      have hp := Hp.cgB hp hcs
      refine h_loop [2, 4, 5, 8] (fun (i : Nat) => [(2, .pointer (some ⟨b2, 0, none⟩)), (4, .pointer (some ⟨b4, 0, none⟩)), (5, .slice tb P.length tc), (8, .int .i64 (i : Int))])
        (fun i w' => i ≤ x.ands.length ∧ Hp w0 w' [rB b4 28 [.int .i64 y.inputs, .slice y.sa y.seqs.length y.sc, .slice y.aa x.ands.length y.ac, .slice y.oa y.outs.length y.oc], rO 3 1 eI tb tc P, rSq y.sa y.sc y.seqs, rO 79 2 eII y.aa y.ac (upTo (mpA P x.ands) i x.ands), rO 3 1 eI y.oa y.oc y.outs, rB b2 28 (cellsV Try.ti28.zero)])
        (fun i => x.ands.length - i) 0 rfl ⟨by omega, by rw [upTo_zero]; exact hp.tk 6⟩ ?_
      clear hp
      rintro i w1 ⟨hi, hp⟩ IH C
      have hul := upTo_len (f := mpA P x.ands) (X := x.ands) hi
      refine h_run rfl ?_; (repeat (refine H_ldB hp rfl rfl ?_))
      refine h_cond_dec (fun hlt2 => ?_) (fun hlt2 => ?_)
      · have hlt' : i < x.ands.length := by omega
        obtain ⟨q1, q2, q3, q4⟩ := hok.and_ hlt'
        have ea : (upTo (mpA P x.ands) i x.ands).getD i default = x.ands.getD i default := upTo_at (Nat.le_refl _) (by omega)
        have hne : y.aa ≠ none := nn_of hp (X := upTo (mpA P x.ands) i x.ands) (by omega)
        refine h_cond_t rfl rfl ?_; skip
        refine N_draw hp (by kernel_rfl) (by kernel_rfl) rfl rfl ?_; (repeat (first | (refine nLoad ?_; first | refine N_ldB rfl rfl rfl ?_ | refine N_ldFN rfl (by omega) rfl rfl rfl ?_) | (refine nBuild ?_; refine N_litI rfl rfl rfl rfl rfl rfl rfl rfl rfl rfl ?_; intro _; refine N_ops rfl rfl ?_)))
        refine N_call Try.func81 (by kernel_rfl) rfl (fun F w hp => ?_); refine Ret.mono (l10Map_h _ _ _ _ P [((upTo (mpA P x.ands) i x.ands).getD i default).1, ((upTo (mpA P x.ands) i x.ands).getD i default).2] _ _ rfl rfl _ hp.pre.rd hp.pre.rd (by rw [ea]; exact two_in (p := fun l => 0 ≤ l ∧ l / 2 < ((P.length : Nat) : Int)) ⟨q1, by omega⟩ ⟨q3, by omega⟩) (by omega) (by simp)) ?_; rintro _ w ⟨r8, e8, rfl, hq⟩; have hp := hp.callF1 hq; refine ⟨fun _ => hp.sub (by (repeat (first | exact List.sublist_append_left _ _ | apply List.Sublist.cons))), _, hp, ?_⟩; clear hp; refine N_ops rfl rfl ?_; skip
        refine N_end ?_; intro w hp C; refine h_run rfl ?_; skip
        have em : mapL P [((upTo (mpA P x.ands) i x.ands).getD i default).1, ((upTo (mpA P x.ands) i x.ands).getD i default).2] = [litV P (x.ands.getD i default).1, litV P (x.ands.getD i default).2] := by rw [ea]; rfl
        rw [em] at hp ⊢
        have hp := hp.f7.f7.f6.f6.f5.f6.f6.f7
        have hne8 : r8 ≠ none := nn_of hp (X := [litV P (x.ands.getD i default).1, litV P (x.ands.getD i default).2]) (by simp)
        have hl2 : [litV P (x.ands.getD i default).1, litV P (x.ands.getD i default).2].length = 2 := rfl
        refine D_draw hp (by kernel_rfl) (by kernel_rfl) rfl rfl ?_; intro w hx hp; have hs := hp; (repeat (refine gLoad ?_; first | refine D_ldB rfl rfl rfl ?_ | refine D_ldE rfl (by omega) (by omega) rfl rfl rfl ?_))
        first | refine V_stNN hp ((litV P (x.ands.getD i default).1, litV P (x.ands.getD i default).2)) rfl rfl rfl (by omega) rfl (by kernel_rfl) ?_ | refine V_stN hp ((litV P (x.ands.getD i default).1, litV P (x.ands.getD i default).2)) rfl rfl rfl (by omega) (by omega) rfl (by kernel_rfl) ?_
        intro w hp; refine D_ops rfl rfl ?_; skip
        refine IH (i + 1) _ _ _ (by omega) rfl ⟨by omega, ?_⟩
        rw [← upTo_set (f := mpA P x.ands) hlt']
        exact (hp.f7.f7.f2.f7.f7.f6).tk 6
      · obtain rfl : i = x.ands.length := by omega
        clear IH
        rw [mpA_all] at hp
        refine h_cond_f rfl rfl ?_; skip
        have hp := rSq_open hp.f2
        refine h_loop2 [2, 4, 5, 10] (fun (i : Nat) (_ : List SeqA) => [(2, .pointer (some ⟨b2, 0, none⟩)), (4, .pointer (some ⟨b4, 0, none⟩)), (5, .slice tb P.length tc), (10, .int .i64 (i : Int))])
          (fun i R w' => (i ≤ x.seqs.length ∧ R.length = y.seqs.length ∧ seqsOf R = upTo (crF (seqsOf y.seqs) x.n P) i (seqsOf y.seqs)) ∧ Hp w0 w' [rO 91 3 eSq y.sa y.sc R, rIns R, rB b4 28 [.int .i64 y.inputs, .slice y.sa y.seqs.length y.sc, .slice y.aa x.ands.length y.ac, .slice y.oa y.outs.length y.oc], rO 3 1 eI tb tc P, rO 79 2 eII y.aa y.ac (mapA P x.ands), rO 3 1 eI y.oa y.oc y.outs, rB b2 28 (cellsV Try.ti28.zero)]) (fun i _ => x.seqs.length - i) 0 y.seqs rfl
          ⟨⟨by omega, rfl, by rw [upTo_zero]⟩, hp⟩ ?_
        clear hp
        rintro i R w1 ⟨⟨hi, hR, hRs⟩, hp⟩ IH C
        refine h_run rfl ?_; (repeat (refine H_ldB hp rfl rfl ?_))
        refine h_cond_dec (fun hlt3 => ?_) (fun hlt3 => ?_)
        · have hlt' : i < x.seqs.length := by omega
          have hil := hok.ins hlt'
          have hsx := x.sins i
          have h1 : (R.getD i default).s = (seqsOf y.seqs).getD i default := by
            rw [← seqsOf_get, hRs, upTo_at (Nat.le_refl _) (by rw [seqsOf_len]; omega)]
          have h2 : (R.getD i default).ins = (x.seqs.getD i default).ins := by
            have h3 : (seqsOf y.seqs).getD i default = (seqsOf x.seqs).getD i default := by rw [hys]
            rw [seqsOf_get x.seqs] at h3
            exact congrArg SeqL.ins (h1.trans h3)
          have hq : ∀ j, j < (R.getD i default).ins.length → 0 ≤ (R.getD i default).ins.getD j default ∧ (R.getD i default).ins.getD j default / 2 < P.length := fun j hj => by
            rw [h2] at hj ⊢
            exact hlit _ (hok.inp (getD_mem (show i < x.n.seqs.length by omega)) _ (by rw [hsx]; exact getD_mem hj))
          have hne : y.sa ≠ none := nn_of hp (X := R) (by omega)
          have h4 : (R.getD i default).ins.length ≤ 1000000 := by rw [h2]; omega
          obtain ⟨Q, hp2, hback⟩ := rIns_at hp.f1 (i := i) (by omega)
          have hp := hp2
          refine h_cond_t rfl rfl ?_; skip
          refine N_draw hp (by kernel_rfl) (by kernel_rfl) rfl rfl ?_; (repeat (refine nLoad ?_; first | refine N_ldB rfl rfl rfl ?_ | refine N_ldFN rfl (by omega) rfl rfl rfl ?_))
          refine N_call Try.func81 (by kernel_rfl) rfl (fun F w hp => ?_); refine Ret.mono (l10Map_h _ _ _ _ P (R.getD i default).ins _ _ rfl rfl _ hp.pre.rd hp.pre.rd hq (by omega) h4) ?_; rintro _ w ⟨r, e, rfl, hq⟩; have hp := hp.callF1 hq; refine ⟨fun _ => hp.sub (by (repeat (first | exact List.sublist_append_left _ _ | apply List.Sublist.cons))), _, hp, ?_⟩; clear hp; refine N_ops rfl rfl ?_; skip
          first | refine N_st1N ({ R.getD i default with ins := mapL P (R.getD i default).ins, ia := r, ic := e }) rfl rfl rfl (by omega) (by decide) rfl rfl (by kernel_rfl) ?_ | refine N_st1 ({ R.getD i default with ins := mapL P (R.getD i default).ins, ia := r, ic := e }) rfl rfl rfl (by omega) (by decide) rfl rfl (by kernel_rfl) ?_
          refine N_ops rfl rfl ?_; skip
          refine N_end ?_; intro w hp C; refine h_run rfl ?_; skip
          have hp := (hback _ _ { R.getD i default with ins := mapL P (R.getD i default).ins, ia := r, ic := e } (hp.f2.f1)).f7.f7.f7.f7.f7.f5.f7
          refine IH (i + 1) _ _ _ _ (by omega) rfl ⟨⟨by omega, by simp; omega, ?_⟩, hp.tk 7⟩
          have hix : i < (seqsOf y.seqs).length := by rw [seqsOf_len]; omega
          rw [seqsOf_set, hRs, ← upTo_set (f := crF (seqsOf y.seqs) x.n P) hix]
          congr 1
          unfold crF
          rw [← h1, hsx, ← h2]
          rfl
        · obtain rfl : i = x.seqs.length := by omega
          refine h_cond_f rfl rfl ?_; (repeat (refine H_ldB hp rfl rfl ?_))
          have hsz2 : y.outs.length ≤ 1000000 := by rw [hyo]; omega
          refine h_call rfl Try.func81 (by kernel_rfl) rfl (l10Map_h _ _ _ _ P y.outs _ _ rfl rfl _ hp.rd hp.rd (fun j hj => by rw [hyo] at hj ⊢; exact hlit _ (hok.out _ (getD_mem hj))) (by omega) hsz2) ?_; rintro _ w ⟨r, e, rfl, hq⟩; have hx := hq.x; have hp := hp.call1 hq; refine ops_run nopre rfl ?_; (repeat (first | (refine gLoad ?_; refine H_ldB hp rfl rfl ?_) | (refine gStore ?_; refine U_stB hp rfl rfl rfl rfl ?_; intro w hp; refine ops_run nopre rfl ?_)))
          have hRs2 : seqsOf R = x.n.seqs.map fun s => ⟨s.kind, s.init, mapL P s.ins⟩ := by
            rw [hRs, hys, ← x.slen]
            exact cr_all rfl fun _ _ => ⟨rfl, rfl⟩
          have hpre : (NetA.mk y.inputs R y.sa y.sc (mapA P x.ands) y.aa y.ac (mapL P y.outs) r e).n = mrgN x.n := by
            have e0 : mrgN x.n = finN x.n (mapA P x.n.ands) P := by unfold mrgN; rw [hP]
            rw [e0]
            unfold NetA.n
            rw [hRs2, hyi, hyo]
            rfl
          have hmok := mrgN_ok hok
          have hp := rNet_shut (x := ⟨y.inputs, R, y.sa, y.sc, mapA P x.ands, y.aa, y.ac, mapL P y.outs, r, e⟩) ((rSq_shut (hp.f2.f2)).f1.f4.f2)
          refine gCall ?_
          show Holds _ _ _ _ _ (.act (.call _ [.agg ⟨[.int .i64 y.inputs, .slice y.sa y.seqs.length y.sc, .slice y.aa x.ands.length y.ac, .slice r (mapL P y.outs).length e]⟩]) _)
          rw [← hR, ← mapA_len P x.ands]
          refine h_call rfl Try.func83 (by kernel_rfl) rfl (specHash_x ⟨y.inputs, R, y.sa, y.sc, mapA P x.ands, y.aa, y.ac, mapL P y.outs, r, e⟩ _ hp.net (by rw [hpre]; exact hmok.S') (by rw [hpre]; exact hmok.W)) ?_; rintro _ w ⟨z, ⟨hz, rfl⟩, hq⟩; have hx := hq.x; have hp := hp.call1 hq; refine ops_run nopre rfl ?_; skip
          rw [hpre, ifNet_yes hmok] at hz
          refine h_call rfl Try.func82 (by kernel_rfl) rfl (specPrune_x z _ hp.net (by rw [hz]; exact (hashL_ok hmok).S') (by rw [hz]; exact (hashL_ok hmok).W)) ?_; rintro _ w ⟨u, ⟨hu, rfl⟩, hq⟩; have hx := hq.x; have hp := hp.call1 hq; refine ops_run nopre rfl ?_; (repeat (first | (refine gStore ?_; refine U_stBN hp rfl rfl rfl rfl ?_; intro w hp; refine ops_run nopre rfl ?_) | (refine gRetc ?_; refine R_ret1 hp rfl ?_)))
          rw [hz, ifNet_yes (hashL_ok hmok)] at hu
          exact ⟨u, ⟨hu, rfl⟩, Hp.tk hp 1⟩
  · refine h_call rfl Try.func56 (by kernel_rfl) rfl ((specNetOk_h x _ hp.net hS hW).ff (netOkB_no hok)) ?_; rintro _ w ⟨rfl, hx⟩; have hp := hp.ext hx; refine ops_run nopre rfl ?_; skip
    refine h_cond_t rfl rfl ?_; (repeat (first | (refine gStore ?_; refine U_stBN hp rfl rfl rfl rfl ?_; intro w hp; refine ops_run nopre rfl ?_) | (refine gRetc ?_; refine R_ret1 hp rfl ?_)))
    rw [ifNet_no hok]
    exact ⟨nilA, ⟨rfl, rfl⟩, Hp.tk (hpNil hp) 1⟩
end Go.Proofs
