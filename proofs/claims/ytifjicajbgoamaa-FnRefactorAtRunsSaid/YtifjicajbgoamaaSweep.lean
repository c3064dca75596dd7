/- Texts that belong together; each under its stated conditions. -/
import Derived.Test.YtifjicajbgoamaaBalLaw
import Derived.Test.YtifjicajbgoamaaSimRf
import Derived.Test.YtifjicajbgoamaaCutsOk
import Derived.Test.YtifjicajbgoamaaMap
import Derived.Test.YtifjicajbgoamaaMergeLaw
set_option linter.all false
section
/- A balanced net has the runs of the net and is not deeper; plain data, no condition. -/
namespace Go.Xw
open Go.Proofs
set_option maxHeartbeats 1000000

/-! ### values -/
/-! ### levels -/
end Go.Xw
end
section
/- Refactoring and the whole optimization, as plain data; no condition but the stated ones. -/
namespace Go.Xw
open Go.Proofs
set_option maxHeartbeats 1000000
/-- the cuts but for the trivial one -/
noncomputable def cutsM (h : NetL) (i : Nat) : List (List Int) := (cutsOf h (fst_ h + i)).dropLast
theorem rfF_ok {n : NetL} (hok : NetOkP n) (k : Int) (cut : List Int) : NetOkP (rfF n k cut).1 := by
  by_cases h1 : rfP n k cut
  · cases h2 : rfN n (k.toNat - fst_ n) cut with
    | none => rw [rfF_no h1 h2]; exact hok
    | some m => rw [rfF_yes h1 h2]; exact rfN_ok hok (rfP_bel h1) h2
  · rw [rfF_bad h1]; exact hok
/-- the enumerated cuts serve -/
theorem cuts_rfP {n : NetL} (h : NetOkP n) {i : Nat} (hi : i < n.ands.length) {u : List Int} (hu : u ∈ cutsM n i) : rfP n ((fst_ n + i : Nat) : Int) u := by
  have n1 := h.nums.n1
  have n2 := h.nums.n2
  have hu2 : u ∈ selL (cutsOf n (kA n i)) (cutsOf n (kB n i)) := by
    unfold cutsM at hu
    rw [cutsOf_and h hi, List.dropLast_concat] at hu
    exact hu
  have hm : u ∈ cutsOf n (fst_ n + i) := by rw [cutsOf_and h hi]; exact List.mem_append_left _ hu2
  refine ⟨⟨h, by omega, ?_⟩, by omega, cuts_not h hi hu2⟩
  rw [Int.toNat_natCast]
  exact cuts_P h (by omega) hm
end Go.Xw
end
section
/- The contracts of the functions that drop unreached nodes; each under its stated conditions. -/
namespace Go.Proofs
open Go.Xw
set_option maxRecDepth 100000
set_option maxHeartbeats 1000000
attribute [local irreducible] Holds elemAddr

theorem sweep_h (x : NetA) (w0 : World) (hX : NetR w0 x) (hok : NetOkP x.n) :
    Ret Try.prog 70 [x.v] w0 (fun v w => ∃ y, (y.n = sweepL x.n ∧ v = y.v) ∧ Hp w0 w [rNet y]) := by
  have hn := hok.nums
  have n1 := hn.n1
  have n4 := hn.n2
  have f2 := hn.f2
  have hnd := hok.nodes
  have hsz := hok.size'
  have hal : x.n.ands.length = x.ands.length := rfl
  have hrl := reachedL_len' x.n
  refine enter Try.S70ok _ _ rfl rfl (by show _ ≤ _; simp only [List.length]; decide) (fun C => ?_); have hp := Hp.nil w0; refine h_run rfl ?_; skip; (first | (refine H_box hp ?_; intro w b1 hx hp) | (refine H_alloc hp rfl ?_; intro w b1 hx hp)); refine ops_run nopre rfl ?_; skip; (first | (refine H_box hp ?_; intro w b2 hx hp) | (refine H_alloc hp rfl ?_; intro w b2 hx hp)); refine ops_run nopre rfl ?_; (repeat (refine H_ldB hp rfl rfl ?_))
  refine h_call rfl Try.func100 (by kernel_rfl) rfl (implReached_h x _ hp.net hok) ?_; rintro _ w ⟨b3, c3, rfl, hq⟩; have hx := hq.x; have hp := hp.call1 hq; refine ops_run nopre rfl ?_; (repeat (refine H_ldB hp rfl rfl ?_))
  refine h_call rfl Try.func64 (by kernel_rfl) rfl (emptyCopy_h x _ hp.net hok) ?_; rintro _ w ⟨y0, ⟨hy0, rfl⟩, hq⟩; have hx := hq.x; have hp := hp.call1 hq; refine ops_run nopre rfl ?_; skip
  (first | (refine H_box hp ?_; intro w b4 hx hp) | (refine H_alloc hp rfl ?_; intro w b4 hx hp)); refine ops_run nopre rfl ?_; (repeat (first | (refine gLoad ?_; refine H_ldB hp rfl rfl ?_) | (refine gStore ?_; refine U_stBN hp rfl rfl rfl rfl ?_; intro w hp; refine ops_run nopre rfl ?_)))
  refine h_call rfl Try.func65 (by kernel_rfl) rfl (leafLits_h x _ hok) ?_; rintro _ w ⟨b5, c5, rfl, hq⟩; have hx := hq.x; have hp := hp.call1 hq; refine ops_run nopre rfl ?_; (repeat (refine H_ldB hp rfl rfl ?_))
  have hya : y0.ands = [] := congrArg NetL.ands hy0
  have hyi : y0.inputs = x.inputs := congrArg NetL.inputs hy0
  have hys : seqsOf y0.seqs = (begL x.n []).seqs := congrArg NetL.seqs hy0
  have hyl : y0.seqs.length = x.seqs.length := by rw [← seqsOf_len y0.seqs, hys, beg_at.1, x.slen]
  have hcs : y0.cs = (y0.wA y0.aa y0.ac []).cs := by unfold NetA.cs NetA.wA; rw [hya]
  have hp := (rNet_open hp.f2).f7.f7.f4.f3.f7.f6.f6.f7
  rw [hya] at hp
  have hp := Hp.cgB hp hcs
  refine h_loop3 [1, 2, 3, 4, 5, 16, 17, 18] (fun (i : Nat) (_ : Option Addr) (_ : Nat) => [(1, .pointer (some ⟨b1, 0, none⟩)), (2, .pointer (some ⟨b2, 0, none⟩)), (3, .slice b3 (nds x.n) c3), (4, .pointer (some ⟨b4, 0, none⟩)), (5, .slice b5 (nds x.n) c5), (16, .slice x.aa x.ands.length x.ac), (17, .int .i64 x.ands.length), (18, .int .i64 (i : Int))])
    (fun i aa ac w' => i ≤ x.ands.length ∧ Hp w0 w' [rB b4 28 [.int .i64 y0.inputs, .slice y0.sa y0.seqs.length y0.sc, .slice aa ((swTo x.n (reachedL x.n) i).1).length ac, .slice y0.oa y0.outs.length y0.oc], rO 66 2 eII aa ac (swTo x.n (reachedL x.n) i).1, rO 3 1 eI b5 c5 ((swTo x.n (reachedL x.n) i).2 ++ List.replicate (x.ands.length - i) 0), rO 4 1 eB b3 c3 (reachedL x.n), rSq y0.sa y0.sc y0.seqs, rO 3 1 eI y0.oa y0.oc y0.outs, rB b2 28 (cellsV Try.ti28.zero), rB b1 28 x.cs])
    (fun i _ _ => x.ands.length - i) 0 y0.aa y0.ac rfl ⟨by omega, hp⟩ ?_
  rintro i aa ac w1 ⟨hi, hp⟩ IH C
  have hl := swTo_len x.n (reachedL x.n) i
  have hB := swTo_ok hok (reachedL x.n) i hi
  have hpl : ((swTo x.n (reachedL x.n) i).2 ++ List.replicate (x.ands.length - i) (0 : Int)).length = nds x.n := by simp; omega
  refine h_run rfl ?_; skip
  refine h_cond_dec (fun hlt => ?_) (fun hlt => ?_)
  · have hlt' : i < x.ands.length := by omega
    have hz : (firstAndL x.n + (i : Int)).toNat = fst_ x.n + i := by omega
    obtain ⟨q1, q2, q3, q4⟩ := hok.and_ hlt'
    have hrep : List.replicate (x.ands.length - i) (0 : Int) = List.replicate (x.ands.length - (i + 1) + 1) 0 := by rw [show x.ands.length - i = x.ands.length - (i + 1) + 1 by omega]
    refine h_cond_t rfl rfl ?_; (repeat (refine H_ldEN hp rfl (by omega) rfl rfl ?_))
    (first | (refine H_box hp ?_; intro w b7 hx hp) | (refine H_alloc hp rfl ?_; intro w b7 hx hp)); refine ops_run nopre rfl ?_; (repeat (first | (refine gLoad ?_; refine H_ldB hp rfl rfl ?_) | (refine gStore ?_; refine U_stBN hp rfl rfl rfl rfl ?_; intro w hp; refine ops_run nopre rfl ?_)))
    refine h_call rfl Try.func38 (by kernel_rfl) rfl (firstAnd_h x _ hok.b) ?_; rintro _ w ⟨rfl, hx⟩; have hp := hp.ext hx; refine ops_run nopre rfl ?_; (repeat (refine H_ldE hp rfl (by omega) (by omega) rfl rfl ?_))
    refine h_cond_b (fun hk => ?_) (fun hk => ?_)
    · rw [hz] at hk
      have e1 : (swTo x.n (reachedL x.n) (i + 1)).1 = (swTo x.n (reachedL x.n) i).1 ++ [(litV (swTo x.n (reachedL x.n) i).2 (x.ands.getD i default).1, litV (swTo x.n (reachedL x.n) i).2 (x.ands.getD i default).2)] := by rw [swTo, if_pos hk]; rfl
      have e2 : (swTo x.n (reachedL x.n) (i + 1)).2 = (swTo x.n (reachedL x.n) i).2 ++ [2 * (firstAndL x.n + (swTo x.n (reachedL x.n) i).1.length)] := by rw [swTo, if_pos hk]
      have g1 := hB.f1
      have g2 := hB.alen
      refine h_cond_t rfl rfl ?_; skip
      refine N_draw hp (by kernel_rfl) (by kernel_rfl) rfl rfl ?_; (repeat (refine N_ldB rfl rfl rfl ?_))
      refine N_call Try.func68 (by kernel_rfl) rfl (fun F w hp => ?_); refine Ret.mono (mapLit_h _ _ _ _ hpl (x.ands.getD i default).1 _ hp.pre.rd q1 (by omega) (by omega)) ?_; rintro _ w ⟨rfl, hx⟩; have hp := hp.ext hx; refine ⟨fun _ => hp.sub (by (repeat (first | exact List.sublist_append_left _ _ | apply List.Sublist.cons))), _, hp, ?_⟩; clear hp; refine N_ops rfl rfl ?_; (repeat (refine N_ldB rfl rfl rfl ?_))
      refine N_call Try.func68 (by kernel_rfl) rfl (fun F w hp => ?_); refine Ret.mono (mapLit_h _ _ _ _ hpl (x.ands.getD i default).2 _ hp.pre.rd q3 (by omega) (by omega)) ?_; rintro _ w ⟨rfl, hx⟩; have hp := hp.ext hx; refine ⟨fun _ => hp.sub (by (repeat (first | exact List.sublist_append_left _ _ | apply List.Sublist.cons))), _, hp, ?_⟩; clear hp; refine N_ops rfl rfl ?_; skip
      rw [litV_pad, litV_pad]
      refine N_lit eII [(litV (swTo x.n (reachedL x.n) i).2 (x.ands.getD i default).1, litV (swTo x.n (reachedL x.n) i).2 (x.ands.getD i default).2)] rfl rfl rfl rfl (s := 2) rfl (by decide) (by infer_instance) (by rfl) (by rfl) (by rfl) (by decide) ?_; intro b42; refine N_ops rfl rfl ?_; skip
      refine N_append rfl rfl rfl rfl rfl rfl rfl (by decide) rfl (by first | omega | (simp only [List.length_append, List.length_cons, List.length_nil, List.length_take, List.length_drop, List.length_set, List.length_replicate, List.length_map]; omega)) rfl rfl (fun hq => Bool.noConfusion (hq.symm.trans (by kernel_rfl : flagAt _ _ = false))) ?_; intro aa' ac' hnil; refine N_ops rfl rfl ?_; (repeat (refine N_stB rfl rfl rfl rfl (by kernel_rfl) ?_; refine N_ops rfl rfl ?_))
      refine N_end ?_; intro w hp C; refine h_run rfl ?_; (repeat (refine H_ldB hp rfl rfl ?_))
      have hb3 : NetB (y0.wA aa' ac' ((swTo x.n (reachedL x.n) i).1 ++ [(litV (swTo x.n (reachedL x.n) i).2 (x.ands.getD i default).1, litV (swTo x.n (reachedL x.n) i).2 (x.ands.getD i default).2)])) := ⟨by show _ ≤ y0.inputs ∧ y0.inputs ≤ _; omega, by show y0.seqs.length ≤ _; omega, by show ((swTo x.n (reachedL x.n) i).1 ++ _).length ≤ _; simp; omega⟩
      have hnd3 : nodesL (y0.wA aa' ac' ((swTo x.n (reachedL x.n) i).1 ++ [(litV (swTo x.n (reachedL x.n) i).2 (x.ands.getD i default).1, litV (swTo x.n (reachedL x.n) i).2 (x.ands.getD i default).2)])).n - 1 = firstAndL x.n + (swTo x.n (reachedL x.n) i).1.length := by
        rw [nodesL_eq, firstAndL_eq]; show 1 + y0.inputs + y0.seqs.length + (((swTo x.n (reachedL x.n) i).1 ++ _).length : Nat) - 1 = _; simp; omega
      refine h_call rfl Try.func56 (by kernel_rfl) rfl (nodeCount_h (y0.wA aa' ac' ((swTo x.n (reachedL x.n) i).1 ++ [(litV (swTo x.n (reachedL x.n) i).2 (x.ands.getD i default).1, litV (swTo x.n (reachedL x.n) i).2 (x.ands.getD i default).2)])) _ hb3) ?_; rintro _ w ⟨rfl, hx⟩; have hp := hp.ext hx; refine ops_run nopre rfl ?_; (repeat (refine U_st0 hp rfl rfl rfl (by omega) (by decide) rfl rfl ?_; intro w hp; refine ops_run nopre rfl ?_))
      rw [hnd3, hz, hrep, show fst_ x.n + i = (swTo x.n (reachedL x.n) i).2.length by omega, pad_set] at hp
      refine IH (i + 1) aa' ac' _ _ _ (by omega) rfl ⟨by omega, ?_⟩
      rw [e1, e2]
      exact hp.drop.drop
    · rw [hz] at hk
      have e : swTo x.n (reachedL x.n) (i + 1) = ((swTo x.n (reachedL x.n) i).1, (swTo x.n (reachedL x.n) i).2 ++ [0]) := by rw [swTo, if_neg (by rw [hk]; decide)]
      refine h_cond_f rfl rfl ?_; skip
      refine IH (i + 1) aa ac _ _ _ (by omega) rfl ⟨by omega, ?_⟩
      rw [hrep, List.replicate_succ, List.append_cons] at hp
      rw [e]
      exact hp.drop
  · refine h_cond_f rfl rfl ?_; (repeat (refine H_ldB hp rfl rfl ?_))
    obtain rfl : i = x.ands.length := by omega
    rw [Nat.sub_self, List.replicate_zero, List.append_nil] at hp hpl
    refine h_call rfl Try.func69 (by kernel_rfl) rfl (copyRoots_h b4 (y0.wA aa ac (swTo x.n (reachedL x.n) x.ands.length).1) x b5 c5 (nds x.n) (swTo x.n (reachedL x.n) x.ands.length).2 hpl (hp.f2.f2.f5.f5.f4) hok (Nat.le_refl _) (by omega) (by show _ ≤ y0.seqs.length; omega) (by show y0.seqs.length ≤ _; omega)) ?_; rintro _ w ⟨R, oa, oc, rfl, ⟨hR, hRs⟩, hp⟩; refine ops_run nopre rfl ?_; (repeat (first | (refine gLoad ?_; refine H_ldB hp rfl rfl ?_) | (refine gStore ?_; refine U_stBN hp rfl rfl rfl rfl ?_; intro w hp; refine ops_run nopre rfl ?_) | (refine gRetc ?_; refine R_ret1 hp rfl ?_)))
    have hRl : R.length = y0.seqs.length := hR
    have hRs2 : seqsOf R = x.n.seqs.map fun s => ⟨s.kind, s.init, mapL (swTo x.n (reachedL x.n) x.ands.length).2 s.ins⟩ := by
      rw [hRs]
      show upTo (crF (seqsOf y0.seqs) x.n _) x.seqs.length (seqsOf y0.seqs) = _
      rw [hys, ← x.slen]
      exact cr_all beg_at.1 beg_at.2
    refine ⟨⟨x.inputs, R, y0.sa, y0.sc, (swTo x.n (reachedL x.n) x.ands.length).1, aa, ac, mapL (swTo x.n (reachedL x.n) x.ands.length).2 x.outs, oa, oc⟩, ⟨?_, ?_⟩, ?_⟩
    · unfold NetA.n
      rw [hRs2]
      rfl
    · unfold NetA.v NetA.cs
      rw [hRl]
      show Value.agg ⟨[.int .i64 y0.inputs, _, _, _]⟩ = _
      rw [hyi]
      rfl
    · exact Hp.tk (rNet_shut (x := ⟨x.inputs, R, y0.sa, y0.sc, (swTo x.n (reachedL x.n) x.ands.length).1, aa, ac, mapL (swTo x.n (reachedL x.n) x.ands.length).2 x.outs, oa, oc⟩) (hp.f2.f3.f3)) 1
end Go.Proofs
end
