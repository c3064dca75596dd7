/- The contract of the program's function that merges registers; under its stated conditions. -/
import Derived.Test.YtbjgekllkfnjnaaMrgLaw
import Derived.Test.YtbjgekllkfnjnaaClsI
import Derived.Test.YtbjgekllkfnjnaaHash
import Derived.Test.YtbjgekllkfnjnaaPrune
set_option linter.all false
namespace Go.Proofs
open Go.Xw
set_option maxRecDepth 100000
set_option maxHeartbeats 2000000
attribute [local irreducible] Holds elemAddr
theorem implMergeRegisters_x (x : NetA) (w0 : World) (hX : NetR w0 x) (hS : NetS x.n) (hW : NetW x.n) :
    Ret Try.prog 34 [x.v] w0 (fun v w => ∃ y, (y.n = ifNet x.n (mrgR x.n) ∧ v = y.v) ∧ Hp w0 w [rNet y]) := by
  refine enter Try.S34ok _ _ rfl rfl (by show _ ≤ _; simp only [List.length]; decide) (fun C => ?_); have hp := Hp.nil w0; refine h_run rfl ?_; skip; (first | (refine H_box hp ?_; intro w b1 hx hp) | (refine H_alloc hp rfl ?_; intro w b1 hx hp)); refine ops_run nopre rfl ?_; skip; (first | (refine H_box hp ?_; intro w b2 hx hp) | (refine H_alloc hp rfl ?_; intro w b2 hx hp)); refine ops_run nopre rfl ?_; (repeat (refine H_ldB hp rfl rfl ?_))
  by_cases hok : NetOkP x.n
  · rw [ifNet_yes hok]
    have hn := hok.nums
    have n1 := hn.n1
    have n4 := hn.n2
    have f2 := hn.f2
    have hnd := hok.nodes
    have hsz := hok.size'
    have hal : x.n.ands.length = x.ands.length := rfl
    have hq := hok.fsq
    have hin : x.n.inputs = x.inputs := rfl
    have hxs := x.slen
    have hcl := regL_P x.n
    have hcll : (regL x.n).length = x.seqs.length := by rw [regL_len, hxs]
    refine h_call rfl Try.func43 (by kernel_rfl) rfl ((implNetOk_h x _ hp.net hS).tt (netOkB_yes hok)) ?_; rintro _ w ⟨rfl, hx⟩; have hp := hp.ext hx; refine ops_run nopre rfl ?_; skip
    refine h_cond_f rfl rfl ?_; (repeat (refine H_ldB hp rfl rfl ?_))
    refine h_call rfl Try.func49 (by kernel_rfl) rfl (nodeCount_h x _ hok.b) ?_; rintro _ w ⟨rfl, hx⟩; have hp := hp.ext hx; refine ops_run nopre rfl ?_; skip
    rw [← n4]
    refine H_make hp eI 0 rfl rfl rfl rfl (s := 1) rfl (by decide) rfl (by unfold maxLen; omega) (by show 8 * _ ≤ _; omega) ?_; intro w b3 hx hp; refine ops_run nopre rfl ?_; skip
    refine h_loop [1, 2, 3, 18, 19] (fun (i : Nat) => [(1, .pointer (some ⟨b1, 0, none⟩)), (2, .pointer (some ⟨b2, 0, none⟩)), (3, .slice (some ⟨b3, 0, none⟩) (nds x.n) (nds x.n)), (18, .int .i64 (nds x.n : Int)), (19, .int .i64 (i : Int))])
      (fun i w' => i ≤ nds x.n ∧ Hp w0 w' [rO 3 1 eI (some ⟨b3, 0, none⟩) (nds x.n) (upTo (fun k => 2 * ((k : Nat) : Int)) i (List.replicate (nds x.n) 0)), rB b2 28 (cellsV Try.ti28.zero), rB b1 28 x.cs]) (fun i => nds x.n - i) 0 rfl ⟨by omega, by rw [upTo_zero]; exact hp⟩ ?_
    clear hp
    rintro i w1 ⟨hi, hp⟩ IH C
    have hrl : (List.replicate (nds x.n) (0 : Int)).length = nds x.n := by simp
    have hul := upTo_len (f := fun k => 2 * ((k : Nat) : Int)) (X := List.replicate (nds x.n) (0 : Int)) (i := i) (by omega)
    refine h_run rfl ?_; skip
    refine h_cond_dec (fun hlt => ?_) (fun hlt => ?_)
    · refine h_cond_t rfl rfl ?_; (repeat (refine U_st0N hp rfl rfl rfl (by omega) (by decide) rfl rfl ?_; intro w hp; refine ops_run nopre rfl ?_))
      refine IH (i + 1) _ _ _ (by omega) rfl ⟨by omega, ?_⟩
      rw [upTo_set (f := fun k => 2 * ((k : Nat) : Int)) (by omega)] at hp
      exact hp
    · obtain rfl : i = nds x.n := by omega
      have e : upTo (fun k => 2 * ((k : Nat) : Int)) (nds x.n) (List.replicate (nds x.n) 0) = plTo x.n (regL x.n) 0 := by
        rw [plTo_zero]
        unfold upTo
        rw [List.drop_of_length_le (by simp), List.append_nil]
      rw [e] at hp
      clear IH hul
      refine h_cond_f rfl rfl ?_; (repeat (refine H_ldB hp rfl rfl ?_))
      refine h_call rfl Try.func68 (by kernel_rfl) rfl (registerClasses_h x _ hp.net hok) ?_; rintro _ w ⟨bc, cc, rfl, hq⟩; have hx := hq.x; have hp := hp.call1 hq; refine ops_run nopre rfl ?_; skip
      refine h_loop [1, 2, 3, 29, 30, 31] (fun (i : Nat) => [(1, .pointer (some ⟨b1, 0, none⟩)), (2, .pointer (some ⟨b2, 0, none⟩)), (3, .slice (some ⟨b3, 0, none⟩) (nds x.n) (nds x.n)), (29, .slice bc (regL x.n).length cc), (30, .int .i64 ((regL x.n).length : Int)), (31, .int .i64 (i : Int))])
        (fun i w' => i ≤ (regL x.n).length ∧ Hp w0 w' [rO 3 1 eI bc cc (regL x.n), rO 3 1 eI (some ⟨b3, 0, none⟩) (nds x.n) (plTo x.n (regL x.n) i), rB b2 28 (cellsV Try.ti28.zero), rB b1 28 x.cs]) (fun i => (regL x.n).length - i) 0 rfl ⟨by omega, hp⟩ ?_
      clear hp
      rintro i w1 ⟨hi, hp⟩ IH C
      have hpl := plTo_len x.n (regL x.n) i
      refine h_run rfl ?_; skip
      refine h_cond_dec (fun hlt2 => ?_) (fun hlt2 => ?_)
      · have hlt2' : i < (regL x.n).length := by omega
        have hci := (hcl.2 i hlt2').1
        have ez : (1 + x.inputs + (i : Int)).toNat = fsq x.n + i := by omega
        refine h_cond_t rfl rfl ?_; (repeat (refine H_ldEN hp rfl (by omega) rfl rfl ?_))
        refine N_draw hp (by kernel_rfl) (by kernel_rfl) rfl rfl ?_; (repeat (refine N_ldB rfl rfl rfl ?_))
        refine N_call Try.func69 (by kernel_rfl) rfl (fun F w hp => ?_); refine Ret.mono (firstSeq_h x _ hok.b) ?_; rintro _ w ⟨rfl, hx⟩; have hp := hp.ext hx; refine ⟨fun _ => hp.sub (by (repeat (first | exact List.sublist_append_left _ _ | apply List.Sublist.cons))), _, hp, ?_⟩; clear hp; refine N_ops rfl rfl ?_; (repeat (refine N_ldB rfl rfl rfl ?_))
        refine N_call Try.func69 (by kernel_rfl) rfl (fun F w hp => ?_); refine Ret.mono (firstSeq_h x _ hok.b) ?_; rintro _ w ⟨rfl, hx⟩; have hp := hp.ext hx; refine ⟨fun _ => hp.sub (by (repeat (first | exact List.sublist_append_left _ _ | apply List.Sublist.cons))), _, hp, ?_⟩; clear hp; refine N_ops rfl rfl ?_; (repeat (refine N_st0 rfl rfl rfl (by omega) (by decide) rfl rfl (by kernel_rfl) ?_; refine N_ops rfl rfl ?_))
        refine N_end ?_; intro w hp C; refine h_run rfl ?_; skip
        refine IH (i + 1) _ _ _ (by omega) rfl ⟨by omega, ?_⟩
        rw [ez, show (2 : Int) * (1 + x.inputs + (regL x.n).getD i default) = 2 * ((fsq x.n : Int) + (regL x.n).getD i default) by omega, plTo_set (by omega)] at hp
        exact hp
      · obtain rfl : i = (regL x.n).length := by omega
        refine h_cond_f rfl rfl ?_; (repeat (refine H_ldB hp rfl rfl ?_))
        refine h_call rfl Try.func70 (by kernel_rfl) rfl (emptyCopy_h x _ hp.net hok) ?_; rintro _ w ⟨y0, ⟨hy0, rfl⟩, hq⟩; have hx := hq.x; have hp := hp.call1 hq; refine ops_run nopre rfl ?_; skip
        (first | (refine H_box hp ?_; intro w b7 hx hp) | (refine H_alloc hp rfl ?_; intro w b7 hx hp)); refine ops_run nopre rfl ?_; (repeat (first | (refine gLoad ?_; refine H_ldB hp rfl rfl ?_) | (refine gStore ?_; refine U_stBN hp rfl rfl rfl rfl ?_; intro w hp; refine ops_run nopre rfl ?_)))
        have hya : y0.ands = [] := congrArg NetL.ands hy0
        have hyi : y0.inputs = x.inputs := congrArg NetL.inputs hy0
        have hys : seqsOf y0.seqs = (begL x.n []).seqs := congrArg NetL.seqs hy0
        have hyl : y0.seqs.length = x.seqs.length := by rw [← seqsOf_len y0.seqs, hys, beg_at.1, x.slen]
        have hcs : y0.cs = (y0.wA y0.aa y0.ac []).cs := by unfold NetA.cs NetA.wA; rw [hya]
        have hp := (rNet_open hp.f1).f7.f7.f7.f5.f4.f5.f6
        rw [hya] at hp
        have hp := Hp.cgB hp hcs
        obtain ⟨P, hP⟩ : ∃ P, P = placeL x.n (regL x.n) := ⟨_, rfl⟩
        have hP' : plTo x.n (regL x.n) (regL x.n).length = P := hP.symm
        rw [hP'] at hp
        have hPl : P.length = nds x.n := by rw [hP, placeL_len]
        refine h_loop3 [1, 2, 3, 7, 51, 52, 53] (fun (i : Nat) (_ : Option Addr) (_ : Nat) => [(1, .pointer (some ⟨b1, 0, none⟩)), (2, .pointer (some ⟨b2, 0, none⟩)), (3, .slice (some ⟨b3, 0, none⟩) (nds x.n) (nds x.n)), (7, .pointer (some ⟨b7, 0, none⟩)), (51, .slice x.aa x.ands.length x.ac), (52, .int .i64 x.ands.length), (53, .int .i64 (i : Int))])
          (fun i aa ac w' => i ≤ x.ands.length ∧ Hp w0 w' [rB b7 28 [.int .i64 y0.inputs, .slice y0.sa y0.seqs.length y0.sc, .slice aa ((mapA P (x.ands.take i))).length ac, .slice y0.oa y0.outs.length y0.oc], rO 79 2 eII aa ac (mapA P (x.ands.take i)), rSq y0.sa y0.sc y0.seqs, rO 3 1 eI y0.oa y0.oc y0.outs, rO 3 1 eI (some ⟨b3, 0, none⟩) (nds x.n) P, rB b2 28 (cellsV Try.ti28.zero), rB b1 28 x.cs])
          (fun i _ _ => x.ands.length - i) 0 y0.aa y0.ac rfl ⟨by omega, hp.tk 7⟩ ?_
        clear hp
        rintro i aa ac w1 ⟨hi, hp⟩ IH C
        have hml : (mapA P (x.ands.take i)).length = i := by rw [mapA_len, List.length_take]; omega
        refine h_run rfl ?_; skip
        refine h_cond_dec (fun hlt3 => ?_) (fun hlt3 => ?_)
        · have hlt3' : i < x.ands.length := by omega
          obtain ⟨q1, q2, q3, q4⟩ := hok.and_ hlt3'
          refine h_cond_t rfl rfl ?_; (repeat (refine H_ldEN hp rfl (by omega) rfl rfl ?_))
          (first | (refine H_box hp ?_; intro w b9 hx hp) | (refine H_alloc hp rfl ?_; intro w b9 hx hp)); refine ops_run nopre rfl ?_; (repeat (refine U_stBN hp rfl rfl rfl rfl ?_; intro w hp; refine ops_run nopre rfl ?_))
          refine N_draw hp (by kernel_rfl) (by kernel_rfl) rfl rfl ?_; (repeat (refine N_ldB rfl rfl rfl ?_))
          refine N_call Try.func71 (by kernel_rfl) rfl (fun F w hp => ?_); refine Ret.mono (mapLit_h _ _ _ _ hPl (x.ands.getD i default).1 _ hp.pre.rd q1 (by omega) (by omega)) ?_; rintro _ w ⟨rfl, hx⟩; have hp := hp.ext hx; refine ⟨fun _ => hp.sub (by (repeat (first | exact List.sublist_append_left _ _ | apply List.Sublist.cons))), _, hp, ?_⟩; clear hp; refine N_ops rfl rfl ?_; (repeat (refine N_ldB rfl rfl rfl ?_))
          refine N_call Try.func71 (by kernel_rfl) rfl (fun F w hp => ?_); refine Ret.mono (mapLit_h _ _ _ _ hPl (x.ands.getD i default).2 _ hp.pre.rd q3 (by omega) (by omega)) ?_; rintro _ w ⟨rfl, hx⟩; have hp := hp.ext hx; refine ⟨fun _ => hp.sub (by (repeat (first | exact List.sublist_append_left _ _ | apply List.Sublist.cons))), _, hp, ?_⟩; clear hp; refine N_ops rfl rfl ?_; skip
          refine N_lit eII [(litV P (x.ands.getD i default).1, litV P (x.ands.getD i default).2)] rfl rfl rfl rfl (s := 2) rfl (by decide) (by infer_instance) (by rfl) (by rfl) (by rfl) (by decide) ?_; intro b30; refine N_ops rfl rfl ?_; skip
          refine N_append rfl rfl rfl rfl rfl rfl rfl (by decide) rfl (by first | omega | (simp only [List.length_append, List.length_cons, List.length_nil, List.length_take, List.length_drop, List.length_set, List.length_replicate, List.length_map]; omega)) rfl rfl (fun hq => Bool.noConfusion (hq.symm.trans (by kernel_rfl : flagAt _ _ = false))) ?_; intro aa' ac' hnil; refine N_ops rfl rfl ?_; (repeat (refine N_stB rfl rfl rfl rfl (by kernel_rfl) ?_; refine N_ops rfl rfl ?_))
          refine N_end ?_; intro w hp C; refine h_run rfl ?_; skip
          have hp := hp.drop.drop
          refine IH (i + 1) aa' ac' _ _ _ (by omega) rfl ⟨by omega, ?_⟩
          rw [mapA_snoc hlt3']
          exact hp
        · obtain rfl : i = x.ands.length := by omega
          rw [List.take_length] at hp hml
          refine h_cond_f rfl rfl ?_; (repeat (refine H_ldB hp rfl rfl ?_))
          have hbl : Bld (firstAndL x.n) (mapA P x.ands) P := by rw [hP]; exact mrg_bld hok hcl
          refine h_call rfl Try.func72 (by kernel_rfl) rfl (copyRoots_h b7 (y0.wA aa ac (mapA P x.ands)) x (some ⟨b3, 0, none⟩) (nds x.n) (nds x.n) P hPl (hp.f1.f3.f3.f3) hok (Nat.le_refl _) (by omega) (by show _ ≤ y0.seqs.length; omega) (by show y0.seqs.length ≤ _; omega)) ?_; rintro _ w ⟨R, oa, oc, rfl, ⟨hR, hRs⟩, hp⟩; refine ops_run nopre rfl ?_; (repeat (refine H_ldB hp rfl rfl ?_))
          have hRl : R.length = y0.seqs.length := hR
          have hRs2 : seqsOf R = x.n.seqs.map fun s => ⟨s.kind, s.init, mapL P s.ins⟩ := by
            rw [hRs]
            show upTo (crF (seqsOf y0.seqs) x.n _) x.seqs.length (seqsOf y0.seqs) = _
            rw [hys, ← x.slen]
            exact cr_all beg_at.1 beg_at.2
          have hpre : (NetA.mk y0.inputs R y0.sa y0.sc (mapA P x.ands) aa ac (mapL P x.outs) oa oc).n = mrgN x.n := by
            have e0 : mrgN x.n = finN x.n (mapA P x.n.ands) P := by unfold mrgN; rw [hP]
            rw [e0]
            unfold NetA.n
            rw [hRs2, hyi]
            rfl
          have hp := rNet_shut (x := ⟨y0.inputs, R, y0.sa, y0.sc, (mapA P x.ands), aa, ac, mapL P x.outs, oa, oc⟩) (hp.f2.f3.f3)
          refine gCall ?_
          show Holds _ _ _ _ _ (.act (.call _ [.agg ⟨[.int .i64 y0.inputs, .slice y0.sa y0.seqs.length y0.sc, .slice aa (mapA P x.ands).length ac, .slice oa (mapL P x.outs).length oc]⟩]) _)
          rw [← hRl]
          refine h_call rfl Try.func74 (by kernel_rfl) rfl (hashed_h ⟨y0.inputs, R, y0.sa, y0.sc, (mapA P x.ands), aa, ac, mapL P x.outs, oa, oc⟩ _ hp.net (by rw [hpre]; exact mrgN_ok hok)) ?_; rintro _ w ⟨z, ⟨hz, rfl⟩, hq⟩; have hx := hq.x; have hp := hp.call1 hq; refine ops_run nopre rfl ?_; skip
          rw [hpre] at hz
          refine h_call rfl Try.func73 (by kernel_rfl) rfl (prune_h z _ hp.net (by rw [hz]; exact hashL_ok (mrgN_ok hok))) ?_; rintro _ w ⟨u, ⟨hu, rfl⟩, hq⟩; have hx := hq.x; have hp := hp.call1 hq; refine ops_run nopre rfl ?_; (repeat (first | (refine gStore ?_; refine U_stBN hp rfl rfl rfl rfl ?_; intro w hp; refine ops_run nopre rfl ?_) | (refine gRetc ?_; refine R_ret1 hp rfl ?_)))
          rw [hz] at hu
          exact ⟨u, ⟨hu, rfl⟩, Hp.tk hp 1⟩
  · refine h_call rfl Try.func43 (by kernel_rfl) rfl ((implNetOk_h x _ hp.net hS).ff (netOkB_no hok)) ?_; rintro _ w ⟨rfl, hx⟩; have hp := hp.ext hx; refine ops_run nopre rfl ?_; skip
    refine h_cond_t rfl rfl ?_; (repeat (first | (refine gStore ?_; refine U_stBN hp rfl rfl rfl rfl ?_; intro w hp; refine ops_run nopre rfl ?_) | (refine gRetc ?_; refine R_ret1 hp rfl ?_)))
    rw [ifNet_no hok]
    exact ⟨nilA, ⟨rfl, rfl⟩, Hp.tk (hpNil hp) 1⟩
end Go.Proofs
