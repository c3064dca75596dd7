/- The contract of the reference's RetimeBackward; each under its stated conditions. -/
import Derived.Test.YtfcafmbcmdeomaaRetT
import Derived.Test.YtfcafmbcmdeomaaRetB
set_option linter.all false
namespace Go.Proofs
open Go.Xw
set_option maxRecDepth 100000
set_option maxHeartbeats 8000000
attribute [local irreducible] Holds elemAddr

/-- the sequential elements of n through to, but the one with index s -/
def crG (S : List SeqL) (n : NetL) (to : List Int) (s i : Nat) : SeqL := if i = s then S.getD i default else crF S n to i
theorem crG_set {S : List SeqL} {n : NetL} {to : List Int} {s i : Nat} (hi : i < S.length) (hs : i = s) : upTo (crG S n to s) (i + 1) S = upTo (crG S n to s) i S := by
  rw [← upTo_set hi]
  refine list_eq (by simp) fun j hj => ?_
  rw [List.length_set, upTo_len (by omega)] at hj
  by_cases hij : i = j
  · subst hij
    rw [show ((upTo (crG S n to s) i S).set i (crG S n to s i)).getD i default = crG S n to s i by simp [List.getD_eq_getElem?_getD, upTo_len (show i ≤ S.length by omega), hi], upTo_at (Nat.le_refl _) (by omega)]
    unfold crG
    rw [if_pos hs]
  · simp [List.getD_eq_getElem?_getD, List.getElem?_set_ne hij]
theorem crG_all {n : NetL} {to : List Int} {X : List SeqL} {s : Nat} {z z' : SeqL} (hl : X.length = n.seqs.length) (hs : s < n.seqs.length) (h : ∀ i, i < n.seqs.length → (X.getD i default).kind = (n.seqs.getD i default).kind ∧ (X.getD i default).init = (n.seqs.getD i default).init) :
    upTo (crG (X ++ [z, z']) n to s) n.seqs.length (X ++ [z, z']) = (mapS n to).set s (X.getD s default) ++ [z, z'] := by
  unfold upTo
  rw [show (X ++ [z, z']).drop n.seqs.length = [z, z'] by rw [← hl, List.drop_left]]
  congr 1
  refine list_eq (by simp [mapS]) fun i hi => ?_
  simp at hi
  rw [range_get hi]
  have hX : (X ++ [z, z']).getD i default = X.getD i default := by simp [List.getD_eq_getElem?_getD, List.getElem?_append_left (show i < X.length by omega)]
  unfold crG
  by_cases his : i = s
  · subst his
    rw [if_pos rfl, hX]
    simp [List.getD_eq_getElem?_getD, mapS, hi]
  · rw [if_neg his]
    rw [show ((mapS n to).set s (X.getD s default)).getD i default = (mapS n to).getD i default by simp [List.getD_eq_getElem?_getD, List.getElem?_set_ne (fun h => his h.symm)]]
    unfold mapS crF
    rw [map_getD hi, hX, (h i hi).1, (h i hi).2]
theorem specRetimeBackward_x (x : NetA) (k : Int) (w0 : World) (hX : NetR w0 x) (hS : NetS x.n) (hW : NetW x.n) (hK : i64R k) :
    Ret Try.prog 49 [x.v, .int .i64 k] w0 (fun v w => ∃ y, (y.n = (rbL x.n k).1 ∧ v = .tuple ⟨[y.v, .bool (rbL x.n k).2]⟩) ∧ Hp w0 w [rNet y]) := by
  have hal : x.n.ands.length = x.ands.length := rfl
  have hsl := x.slen
  refine enter Try.S49ok _ _ rfl rfl (by show _ ≤ _; simp only [List.length]; decide) (fun C => ?_); have hp := Hp.nil w0; refine h_run rfl ?_; skip; (first | (refine H_box hp ?_; intro w b2 hx hp) | (refine H_alloc hp rfl ?_; intro w b2 hx hp)); refine ops_run nopre rfl ?_; skip; (first | (refine H_box hp ?_; intro w b4 hx hp) | (refine H_alloc hp rfl ?_; intro w b4 hx hp)); refine ops_run nopre rfl ?_; (repeat (refine H_ldB hp rfl rfl ?_))
  by_cases hok : NetOkP x.n
  · have hn := hok.nums
    have n1 := hn.n1
    have n4 := hn.n2
    have f2 := hn.f2
    have hnd := hok.nodes
    have hsz := hok.size'
    refine h_call rfl Try.func62 (by kernel_rfl) rfl ((specNetOk_h x _ hp.net hS hW).tt (netOkB_yes hok)) ?_; rintro _ w ⟨rfl, hx⟩; have hp := hp.ext hx; refine ops_run nopre rfl ?_; (repeat (refine h_guard_y rfl nopre rfl ?_))
    refine h_guard_by (fun h0 => ?_) (fun h0 => ?_); all_goals (rw [h0]; (first | replace h0 := of_decide_eq_true h0 | replace h0 := of_decide_eq_false h0 | skip); (repeat (first | (refine gGuard ?_; first | refine h_guard_y rfl nopre rfl ?_ | refine h_guard_n rfl nopre rfl ?_) | (refine gLoad ?_; refine H_ldB hp rfl rfl ?_))))
    · have hbad : ¬ bwOkP x.n k := fun h => by have := h.2.1; omega
      refine h_cond_t rfl rfl ?_; (repeat (refine H_ldB hp rfl rfl ?_))
      refine h_call rfl Try.func106 (by kernel_rfl) rfl (specCopyNet_h x _ hp.net hS) ?_; rintro _ w ⟨z, ⟨hz, rfl⟩, hq⟩; have hx := hq.x; have hp := hp.call1 hq; refine ops_run nopre rfl ?_; (repeat (first | (refine gStore ?_; refine U_stBN hp rfl rfl rfl rfl ?_; intro w hp; refine ops_run nopre rfl ?_) | (refine gRetc ?_; refine R_ret2v hp rfl ?_)))
      rw [rbL_no (bwO_bad hbad)]
      exact ⟨z, ⟨hz, rfl⟩, Hp.tk hp 1⟩
    · refine h_guard_by (fun h00 => ?_) (fun h00 => ?_); all_goals (rw [h00]; (first | replace h00 := of_decide_eq_true h00 | replace h00 := of_decide_eq_false h00 | skip); (repeat (first | (refine gGuard ?_; first | refine h_guard_y rfl nopre rfl ?_ | refine h_guard_n rfl nopre rfl ?_) | (refine gLoad ?_; first | refine H_ldB hp rfl rfl ?_ | refine H_ldF hp rfl (by omega) (by omega) rfl rfl ?_))))
      · have hbad : ¬ bwOkP x.n k := fun h => by have := h.2.1; omega
        refine h_cond_t rfl rfl ?_; (repeat (refine H_ldB hp rfl rfl ?_))
        refine h_call rfl Try.func106 (by kernel_rfl) rfl (specCopyNet_h x _ hp.net hS) ?_; rintro _ w ⟨z, ⟨hz, rfl⟩, hq⟩; have hx := hq.x; have hp := hp.call1 hq; refine ops_run nopre rfl ?_; (repeat (first | (refine gStore ?_; refine U_stBN hp rfl rfl rfl rfl ?_; intro w hp; refine ops_run nopre rfl ?_) | (refine gRetc ?_; refine R_ret2v hp rfl ?_)))
        rw [rbL_no (bwO_bad hbad)]
        exact ⟨z, ⟨hz, rfl⟩, Hp.tk hp 1⟩
      · obtain ⟨k', rfl⟩ := Int.eq_ofNat_of_zero_le (show 0 ≤ k by omega)
        have hk' : k' < x.seqs.length := by omega
        have hil := hok.ins hk'
        have hsx := x.sins k'
        have hrow := hX.seqs.at_ hk'
        have hpos : 0 < (x.seqs.getD k' default).ins.length := by omega
        have hl0 := hok.inp (getD_mem (show k' < x.n.seqs.length by omega)) ((x.seqs.getD k' default).ins.getD 0 default) (by rw [x.sins]; exact getD_mem hpos)
        have hl0' := hl0
        unfold litP at hl0'
        have hl0r : 0 ≤ (x.seqs.getD k' default).ins.getD (nat_lit 0) default ∧ (x.seqs.getD k' default).ins.getD (nat_lit 0) default / 2 < nodesL x.n := hl0'
        have eIn : bwI x.n k' = (x.seqs.getD k' default).ins.getD 0 default := by unfold bwI; rw [show ((k' : Nat) : Int).toNat = k' by omega, x.sins]
        have eV : bwV x.n k' = bits .xor .i64 (x.seqs.getD k' default).init (bits .and .i64 ((x.seqs.getD k' default).ins.getD 0 default) 1) := by unfold bwV bitX; rw [eIn, show ((k' : Nat) : Int).toNat = k' by omega, x.sinit]
        have eK : (x.n.seqs.getD ((k' : Nat) : Int).toNat default).kind = (x.seqs.getD k' default).kind := by rw [show ((k' : Nat) : Int).toNat = k' by omega, x.skind]
        have hne2 : x.sa ≠ none := nn_of hp (X := x.seqs) (by omega)
        skip
        refine h_guard_by (fun hkd => ?_) (fun hkd => ?_); all_goals (rw [hkd]; (first | replace hkd := of_decide_eq_true hkd | replace hkd := of_decide_eq_false hkd | skip); (repeat (first | (refine gGuard ?_; first | refine h_guard_y rfl nopre rfl ?_ | refine h_guard_n rfl nopre rfl ?_) | (refine gLoad ?_; refine H_ldB hp rfl rfl ?_))))
        · have hbad : ¬ bwOkP x.n k' := fun h => hkd (by have := h.2.2.1; rw [eK] at this; exact this)
          refine h_cond_t rfl rfl ?_; (repeat (refine H_ldB hp rfl rfl ?_))
          refine h_call rfl Try.func106 (by kernel_rfl) rfl (specCopyNet_h x _ hp.net hS) ?_; rintro _ w ⟨z, ⟨hz, rfl⟩, hq⟩; have hx := hq.x; have hp := hp.call1 hq; refine ops_run nopre rfl ?_; (repeat (first | (refine gStore ?_; refine U_stBN hp rfl rfl rfl rfl ?_; intro w hp; refine ops_run nopre rfl ?_) | (refine gRetc ?_; refine R_ret2v hp rfl ?_)))
          rw [rbL_no (bwO_bad hbad)]
          exact ⟨z, ⟨hz, rfl⟩, Hp.tk hp 1⟩
        · have hkd : (x.seqs.getD k' default).kind = 0 := by first | omega | exact Decidable.not_not.1 hkd | simpa using hkd
          refine h_cond_dec (fun hlen => ?_) (fun hlen => ?_)
          · have hbad : ¬ bwOkP x.n k' := fun h => by have := h.2.2.2.1; omega
            refine h_cond_t rfl rfl ?_; (repeat (refine H_ldB hp rfl rfl ?_))
            refine h_call rfl Try.func106 (by kernel_rfl) rfl (specCopyNet_h x _ hp.net hS) ?_; rintro _ w ⟨z, ⟨hz, rfl⟩, hq⟩; have hx := hq.x; have hp := hp.call1 hq; refine ops_run nopre rfl ?_; (repeat (first | (refine gStore ?_; refine U_stBN hp rfl rfl rfl rfl ?_; intro w hp; refine ops_run nopre rfl ?_) | (refine gRetc ?_; refine R_ret2v hp rfl ?_)))
            rw [rbL_no (bwO_bad hbad)]
            exact ⟨z, ⟨hz, rfl⟩, Hp.tk hp 1⟩
          · refine h_cond_f rfl rfl ?_; skip
            refine N_draw hp (by kernel_rfl) (by kernel_rfl) rfl rfl ?_; (repeat (refine nLoad ?_; first | refine N_ldB rfl rfl rfl ?_ | refine N_ldEN rfl (by omega) rfl rfl rfl ?_ | refine N_ldFN rfl (by omega) rfl rfl rfl ?_))
            refine N_call Try.func63 (by kernel_rfl) rfl (fun F w hp => ?_); refine Ret.mono (l08First_h x _ hok.b) ?_; rintro _ w ⟨rfl, hx⟩; have hp := hp.ext hx; refine ⟨fun _ => hp.sub (by (repeat (first | exact List.sublist_append_left _ _ | apply List.Sublist.cons))), _, hp, ?_⟩; clear hp; refine N_ops rfl rfl ?_; skip
            refine N_end ?_; intro w hp C; refine h_run rfl ?_; skip
            refine h_cond_dec (fun hand => ?_) (fun hand => ?_)
            · have hand' : (x.seqs.getD k' default).ins.getD 0 default / 2 - firstAndL x.n < 0 := hand
              have hbad : ¬ bwOkP x.n k' := fun h => by have := h.2.2.2.2; rw [eIn] at this; omega
              refine h_cond_t rfl rfl ?_; (repeat (refine H_ldB hp rfl rfl ?_))
              refine h_call rfl Try.func106 (by kernel_rfl) rfl (specCopyNet_h x _ hp.net hS) ?_; rintro _ w ⟨z, ⟨hz, rfl⟩, hq⟩; have hx := hq.x; have hp := hp.call1 hq; refine ops_run nopre rfl ?_; (repeat (first | (refine gStore ?_; refine U_stBN hp rfl rfl rfl rfl ?_; intro w hp; refine ops_run nopre rfl ?_) | (refine gRetc ?_; refine R_ret2v hp rfl ?_)))
              rw [rbL_no (bwO_bad hbad)]
              exact ⟨z, ⟨hz, rfl⟩, Hp.tk hp 1⟩
            · have hand' : ¬ (x.seqs.getD k' default).ins.getD 0 default / 2 - firstAndL x.n < 0 := hand
              have hgood : bwOkP x.n k' := ⟨hok, ⟨by omega, by omega⟩, by rw [eK]; exact hkd, by omega, by rw [eIn]; omega⟩
              have hV := bwV_01 hgood
              have hki := bwK_lt hgood
              have hK2 : 0 ≤ (x.seqs.getD k' default).ins.getD 0 default / 2 - firstAndL x.n ∧ (x.seqs.getD k' default).ins.getD 0 default / 2 - firstAndL x.n < x.ands.length := by rw [eIn] at hki; exact hki
              obtain ⟨iv, hiv⟩ : ∃ iv, iv = bwV x.n k' := ⟨_, rfl⟩
              rw [← hiv] at hV eV
              have hSO : SOk x.n (bgS x.n [iv, iv]) (firstAndL x.n + 2) := bgS_ok hok (inits := [iv, iv]) (by simp; omega) (by simp; exact hV)
              have hll := leafL_len x.n
              refine h_cond_f rfl rfl ?_; (repeat (first | (refine gLoad ?_; first | refine H_ldB hp rfl rfl ?_ | refine H_ldEN hp rfl (by omega) rfl rfl ?_ | refine H_ldFN hp rfl (by omega) rfl rfl ?_) | (refine gBuild ?_; refine U_litI hp rfl rfl rfl rfl rfl rfl rfl rfl rfl rfl ?_; intro w _ hx hp; refine ops_run nopre rfl ?_)))
              have eVr : iv = bits .xor .i64 (x.seqs.getD k' default).init (bits .and .i64 ((x.seqs.getD k' default).ins.getD (nat_lit 0) default) 1) := eV
              rw [← eVr] at hp ⊢
              refine h_call rfl Try.func122 (by kernel_rfl) rfl (l15Begin_h x _ _ 2 [iv, iv] rfl _ hp.net hok hS hp.rd (by omega)) ?_; rintro _ w ⟨y0, b5, c5, ⟨hy0, rfl⟩, hq⟩; have hx := hq.x; have hp := hp.call2 hq; refine ops_run nopre rfl ?_; skip
              have hy0 : y0.n = netX x.n (bgS x.n [iv, iv]) [] := hy0
              (first | (refine H_box hp ?_; intro w b9 hx hp) | (refine H_alloc hp rfl ?_; intro w b9 hx hp)); refine ops_run nopre rfl ?_; (repeat (first | (refine gLoad ?_; refine H_ldB hp rfl rfl ?_) | (refine gStore ?_; refine U_stBN hp rfl rfl rfl rfl ?_; intro w hp; refine ops_run nopre rfl ?_)))
              refine h_call rfl Try.func63 (by kernel_rfl) rfl (l08First_h x _ hok.b) ?_; rintro _ w ⟨rfl, hx⟩; have hp := hp.ext hx; refine ops_run nopre rfl ?_; (repeat (refine H_ldB hp rfl rfl ?_))
              have hb0 := bw_bld hok hgood.2.2.2.1
              obtain ⟨l1, l2⟩ := bw_two hok
              have hadd : addF (netX x.n (bgS x.n [iv, iv]) []) [2 * firstAndL x.n, 2 * firstAndL x.n + 2] (addAndL (netX x.n (bgS x.n [iv, iv]) []) (2 * firstAndL x.n) (2 * firstAndL x.n + 2)) = if (bwP x.n).2 < 0 then (netX x.n (bgS x.n [iv, iv]) [], -1) else (netX x.n (bgS x.n [iv, iv]) (bwP x.n).1, (bwP x.n).2) := addF_netX hok hSO hb0 (l1.mono (by simp)) (l2.mono (by simp))
              have hz0 := netX_ok hok hSO hb0
              have hj1 := l1.i64 (by omega)
              have hj2 := l2.i64 (by omega)
              refine h_call rfl Try.func108 (by kernel_rfl) rfl (specAddAnd_x y0 (2 * firstAndL x.n) (2 * firstAndL x.n + 2) _ (rNet_r (hp.take (rNet y0))) (by rw [hy0]; exact hz0.S') (by rw [hy0]; exact hz0.W) hj1 hj2) ?_; rintro _ w ⟨y1, ⟨hy1, rfl⟩, hq⟩; have hx := hq.x; have hp := hp.call1 hq; refine ops_run nopre rfl ?_; (repeat (refine U_stBN hp rfl rfl rfl rfl ?_; intro w hp; refine ops_run nopre rfl ?_))
              rw [hy0, hadd] at hy1 ⊢
              by_cases hneg0 : (bwP x.n).2 < 0
              · rw [if_pos hneg0] at hy1 ⊢
                refine h_cond_t rfl rfl ?_; (repeat (refine H_ldB hp rfl rfl ?_))
                refine h_call rfl Try.func106 (by kernel_rfl) rfl (specCopyNet_h x _ hp.net hS) ?_; rintro _ w ⟨z, ⟨hz, rfl⟩, hq⟩; have hx := hq.x; have hp := hp.call1 hq; refine ops_run nopre rfl ?_; (repeat (first | (refine gStore ?_; refine U_stBN hp rfl rfl rfl rfl ?_; intro w hp; refine ops_run nopre rfl ?_) | (refine gRetc ?_; refine R_ret2v hp rfl ?_)))
                rw [rbL_no (bwO_full hgood hneg0)]
                exact ⟨z, ⟨hz, rfl⟩, Hp.tk hp 1⟩
              · rw [if_neg hneg0] at hy1 ⊢
                have hy1 : y1.n = netX x.n (bgS x.n [iv, iv]) (bwP x.n).1 := hy1
                have hfs := hok.fsq
                have hfa5 : firstAndL x.n = 1 + x.inputs + x.seqs.length := firstAndL_eq x
                have hne5 : b5 ≠ none := nn_of hp (X := leafL x.n) (by omega)
                have hstart := bw_start hgood hneg0
                refine h_cond_f (decide_eq_false hneg0) rfl ?_; (repeat (first | (refine gLoad ?_; refine H_ldB hp rfl rfl ?_) | (refine gStore ?_; refine U_st0 hp rfl rfl rfl (by omega) (by decide) rfl rfl ?_; intro w hp; refine ops_run nopre rfl ?_)))
                have e7 : (leafL x.n).set (1 + x.inputs + (k' : Int)).toNat (bits .xor .i64 (bwP x.n).2 (bits .and .i64 ((x.seqs.getD k' default).ins.getD 0 default) 1)) = (bwS x.n k').2 := by
                  unfold bwS bitX
                  rw [eIn]
                  rfl
                rw [show (leafL x.n).set (1 + x.inputs + (k' : Int)).toNat _ = _ from e7] at hp
                have hlitz : litP 0 (firstAndL x.n + 2) := by unfold litP; omega
                refine h_call rfl Try.func123 (by kernel_rfl) rfl (l15Ands_h (bgS x.n [iv, iv]) (firstAndL x.n + 2) (-1) 0 (bwP x.n).1 (bwS x.n k').2 y1 x b5 c5 _ (by unfold bwS; simp) (hp.f3.f1) hok hSO hy1 hstart hlitz) ?_; rintro _ w ⟨z, tb, tc, X, ok, ⟨rfl, hokb, hT⟩, hp⟩; refine ops_run nopre rfl ?_; (repeat (refine U_stBN hp rfl rfl rfl rfl ?_; intro w hp; refine ops_run nopre rfl ?_))
                have hokb : ok = (bwT x.n k' x.n.ands.length).isSome := hokb
                have hT : ∀ P, bwT x.n k' x.n.ands.length = some P → z.n = netX x.n (bgS x.n [iv, iv]) P.1 ∧ X = P.2 := hT
                cases hTT : bwT x.n k' x.n.ands.length with
                | none =>
                  rw [hTT] at hokb
                  obtain rfl : ok = false := hokb
                  refine h_cond_t rfl rfl ?_; (repeat (refine H_ldB hp rfl rfl ?_))
                  refine h_call rfl Try.func106 (by kernel_rfl) rfl (specCopyNet_h x _ hp.net hS) ?_; rintro _ w ⟨u, ⟨hu, rfl⟩, hq⟩; have hx := hq.x; have hp := hp.call1 hq; refine ops_run nopre rfl ?_; (repeat (first | (refine gStore ?_; refine U_stBN hp rfl rfl rfl rfl ?_; intro w hp; refine ops_run nopre rfl ?_) | (refine gRetc ?_; refine R_ret2v hp rfl ?_)))
                  rw [rbL_no (bwO_none hgood hneg0 (Nat.le_refl _) hTT)]
                  exact ⟨u, ⟨hu, rfl⟩, Hp.tk hp 1⟩
                | some T =>
                  rw [hTT] at hokb
                  obtain rfl : ok = true := hokb
                  obtain ⟨hz, rfl⟩ := hT T hTT
                  clear hT
                  have hra := bwT_ok hgood hneg0 (Nat.le_refl _) hTT
                  have hTl := hra.len
                  have hB := hra.b
                  have g1 := hB.f1
                  have g2 := hB.alen
                  have hsome := bwO_some hgood hneg0 hTT
                  have hokN := bwN_ok hgood hra
                  have hza : z.ands = T.1 := congrArg NetL.ands hz
                  have hzi : z.inputs = x.inputs := congrArg NetL.inputs hz
                  have hzs : seqsOf z.seqs = bgS x.n [iv, iv] := congrArg NetL.seqs hz
                  have hzl : z.seqs.length = x.seqs.length + 2 := by rw [← seqsOf_len z.seqs, hzs, bgS_len, x.slen]; rfl
                  have hlit : ∀ l, litP l (nodesL x.n) → 0 ≤ l ∧ l / 2 < (T.2.length : Int) := fun l h => by unfold litP at h; omega
                  refine h_cond_f rfl rfl ?_; skip
                  have hp := rSq_open (rNet_open hp.f3.drop.f3.drop)
                  refine h_loop2 [1, 2, 4, 6, 9, 10, 14] (fun (i : Nat) (_ : List SeqA) => [(1, .int .i64 (k' : Int)), (2, .pointer (some ⟨b2, 0, none⟩)), (4, .pointer (some ⟨b4, 0, none⟩)), (6, .int .i64 ((x.seqs.getD k' default).ins.getD 0 default / 2 - firstAndL x.n)), (9, .pointer (some ⟨b9, 0, none⟩)), (10, .slice tb T.2.length tc), (14, .int .i64 (i : Int))])
                    (fun i R w' => (i ≤ x.seqs.length ∧ R.length = z.seqs.length ∧ seqsOf R = upTo (crG (seqsOf z.seqs) x.n T.2 k') i (seqsOf z.seqs)) ∧ Hp w0 w' [rO 99 3 eSq z.sa z.sc R, rIns R, rO 103 2 eII z.aa z.ac z.ands, rO 3 1 eI z.oa z.oc z.outs, rO 3 1 eI tb tc T.2, rB b9 32 z.cs, rB b4 32 (cellsV Try.ti32.zero), rB b2 32 x.cs]) (fun i _ => x.seqs.length - i) 0 z.seqs rfl
                    ⟨⟨by omega, rfl, by rw [upTo_zero]⟩, hp⟩ ?_
                  clear hp
                  rintro i R w1 ⟨⟨hi, hR, hRs⟩, hp⟩ IH C
                  refine h_run rfl ?_; (repeat (refine H_ldB hp rfl rfl ?_))
                  refine h_cond_dec (fun hlt => ?_) (fun hlt => ?_)
                  · have hlt' : i < x.seqs.length := by omega
                    refine h_cond_t rfl rfl ?_; skip
                    refine h_cond_dec (fun hne0 => ?_) (fun hne0 => ?_)
                    · have hne' : ¬ i = k' := by omega
                      refine h_cond_t rfl rfl ?_; skip
                      have hil := hok.ins hlt'
                      have hsx := x.sins i
                      have hq : ∀ j, j < (x.seqs.getD i default).ins.length → 0 ≤ (x.seqs.getD i default).ins.getD j default ∧ (x.seqs.getD i default).ins.getD j default / 2 < (T.2.length : Int) := fun j hj =>
                        hlit _ (hok.inp (getD_mem (show i < x.n.seqs.length by omega)) _ (by rw [hsx]; exact getD_mem hj))
                      have hrow := hX.seqs.at_ hlt'
                      have hne : z.sa ≠ none := nn_of hp (X := R) (by omega)
                      refine N_draw hp (by kernel_rfl) (by kernel_rfl) rfl rfl ?_; (repeat (refine nLoad ?_; first | refine N_ldB rfl rfl rfl ?_ | refine N_ldFN rfl (by omega) rfl rfl rfl ?_))
                      refine N_call Try.func124 (by kernel_rfl) rfl (fun F w hp => ?_); refine Ret.mono (l10Map_h _ _ _ _ T.2 (x.seqs.getD i default).ins _ _ rfl rfl _ hp.pre.rd hp.pre.rd hq (by omega) (by omega)) ?_; rintro _ w ⟨r, e, rfl, hq⟩; have hp := hp.callF1 hq; refine ⟨fun _ => hp.sub (by (repeat (first | exact List.sublist_append_left _ _ | apply List.Sublist.cons))), _, hp, ?_⟩; clear hp; refine N_ops rfl rfl ?_; skip
                      first | refine N_st1N ({ R.getD i default with ins := mapL T.2 (x.seqs.getD i default).ins, ia := r, ic := e }) rfl rfl rfl (by omega) (by decide) rfl rfl (by kernel_rfl) ?_ | refine N_st1 ({ R.getD i default with ins := mapL T.2 (x.seqs.getD i default).ins, ia := r, ic := e }) rfl rfl rfl (by omega) (by decide) rfl rfl (by kernel_rfl) ?_
                      refine N_ops rfl rfl ?_; skip
                      refine N_end ?_; intro w hp C; refine h_run rfl ?_; skip
                      obtain ⟨Q, hq, hback⟩ := rIns_at hp.f2 (i := i) (by omega)
                      have hp := (hback _ _ { R.getD i default with ins := mapL T.2 (x.seqs.getD i default).ins, ia := r, ic := e } hq.drop.f1).f1
                      refine IH (i + 1) _ _ _ _ (by omega) rfl ⟨⟨by omega, by simp; omega, ?_⟩, hp⟩
                      have hix : i < (seqsOf z.seqs).length := by rw [seqsOf_len]; omega
                      rw [seqsOf_set, hRs, ← upTo_set (f := crG (seqsOf z.seqs) x.n T.2 k') hix]
                      congr 1
                      have h1 : (R.getD i default).s = (seqsOf z.seqs).getD i default := by
                        rw [← seqsOf_get, hRs, upTo_at (Nat.le_refl _) (by omega)]
                      unfold crG crF
                      rw [if_neg hne']
                      rw [← h1, hsx]
                      rfl
                    · have hik : i = k' := by omega
                      refine h_cond_f rfl rfl ?_; skip
                      refine IH (i + 1) _ _ _ _ (by omega) rfl ⟨⟨by omega, hR, ?_⟩, hp⟩
                      rw [crG_set (by rw [seqsOf_len]; omega) hik]
                      exact hRs
                  · obtain rfl : i = x.seqs.length := by omega
                    clear IH
                    have hRs2 : seqsOf R = (mapS x.n T.2).set k' ((zerL x.n []).seqs.getD k' default) ++ [⟨0, iv, [0]⟩, ⟨0, iv, [0]⟩] := by
                      rw [hRs, hzs, ← x.slen]
                      exact crG_all zer_at.1 (by rw [x.slen]; exact hk') zer_at.2
                    have hz1 : (zerL x.n []).seqs.getD k' default = ⟨0, (x.n.seqs.getD k' default).init, [0]⟩ := by
                      show ((x.n.seqs.map fun s => (⟨s.kind, s.init, List.replicate s.ins.length 0⟩ : SeqL))).getD k' default = _
                      have hin1 := (bwI_lit hgood).2.1
                      rw [show ((k' : Nat) : Int).toNat = k' by omega] at hin1
                      rw [map_getD (by rw [x.slen]; exact hk'), hin1, x.skind, hkd]
                      rfl
                    rw [hz1] at hRs2
                    have hml2 : ((mapS x.n T.2).set k' (⟨0, (x.n.seqs.getD k' default).init, [0]⟩ : SeqL)).length = x.seqs.length := by rw [List.length_set, mapS_len, x.slen]
                    have hne : z.sa ≠ none := nn_of hp (X := R) (by omega)
                    obtain ⟨m1, m2, m3, m4⟩ := hok.and_ (i := ((x.seqs.getD k' default).ins.getD 0 default / 2 - firstAndL x.n).toNat) (by omega)
                    have eAx : bwA x.n k' = x.ands.getD ((x.seqs.getD k' default).ins.getD 0 default / 2 - firstAndL x.n).toNat default := by unfold bwA; rw [eIn]; rfl
                    obtain ⟨ax, hax⟩ : ∃ ax, ax = x.ands.getD ((x.seqs.getD k' default).ins.getD 0 default / 2 - firstAndL x.n).toNat default := ⟨_, rfl⟩
                    rw [← hax] at m1 m2 m3 m4 eAx
                    have hml : (mapL T.2 [ax.1, ax.2]).length = 2 := rfl
                    refine h_cond_f rfl rfl ?_; skip
                    refine N_draw hp (by kernel_rfl) (by kernel_rfl) rfl rfl ?_; (repeat (first | (refine nLoad ?_; first | refine N_ldB rfl rfl rfl ?_ | refine N_ldF rfl (by omega) (by omega) rfl rfl rfl ?_) | (refine nBuild ?_; refine N_litI rfl rfl rfl rfl rfl rfl rfl rfl rfl rfl ?_; intro _; refine N_ops rfl rfl ?_)))
                    rw [← hax]
                    refine N_call Try.func124 (by kernel_rfl) rfl (fun F w hp => ?_); refine Ret.mono (l10Map_h _ _ _ _ T.2 [ax.1, ax.2] _ _ rfl rfl _ hp.pre.rd hp.pre.rd (two_in (p := fun l => 0 ≤ l ∧ l / 2 < (T.2.length : Int)) ⟨m1, by omega⟩ ⟨m3, by omega⟩) (by omega) (by simp)) ?_; rintro _ w ⟨r8, e8, rfl, hq⟩; have hp := hp.callF1 hq; refine ⟨fun _ => hp.sub (by (repeat (first | exact List.sublist_append_left _ _ | apply List.Sublist.cons))), _, hp, ?_⟩; clear hp; refine N_ops rfl rfl ?_; skip
                    refine N_end ?_; intro w hp C; refine h_run rfl ?_; skip
                    refine N_draw hp (by kernel_rfl) (by kernel_rfl) rfl rfl ?_; (repeat (first | (refine nLoad ?_; first | refine N_ldB rfl rfl rfl ?_ | refine N_ldE rfl (by omega) (by omega) rfl rfl rfl ?_) | (refine nBuild ?_; refine N_litI rfl rfl rfl rfl rfl rfl rfl rfl rfl rfl ?_; intro _; refine N_ops rfl rfl ?_)))
                    rename_i b17
                    first | refine N_st1N ({ R.getD x.seqs.length default with ins := [litV T.2 ax.1], ia := some ⟨b17, 0, none⟩, ic := 1 }) rfl rfl rfl (by omega) (by decide) rfl rfl (by kernel_rfl) ?_ | refine N_st1 ({ R.getD x.seqs.length default with ins := [litV T.2 ax.1], ia := some ⟨b17, 0, none⟩, ic := 1 }) rfl rfl rfl (by omega) (by decide) rfl rfl (by kernel_rfl) ?_
                    refine N_ops rfl rfl ?_; skip
                    refine N_end ?_; intro w hp C; refine h_run rfl ?_; skip
                    obtain ⟨Q, hq, hback⟩ := rIns_at hp.f4 (i := x.seqs.length) (by omega)
                    have hp := hback _ _ { R.getD x.seqs.length default with ins := [litV T.2 ax.1], ia := some ⟨b17, 0, none⟩, ic := 1 } hq.drop.f1
                    obtain ⟨R2, hR2⟩ : ∃ R2, R2 = R.set x.seqs.length { R.getD x.seqs.length default with ins := [litV T.2 ax.1], ia := some ⟨b17, 0, none⟩, ic := 1 } := ⟨_, rfl⟩
                    have hR2l : R2.length = x.seqs.length + 2 := by rw [hR2, List.length_set]; omega
                    rw [← hR2] at hp
                    have hne2 : z.sa ≠ none := nn_of hp (X := R2) (by omega)
                    refine N_draw hp (by kernel_rfl) (by kernel_rfl) rfl rfl ?_; (repeat (first | (refine nLoad ?_; first | refine N_ldB rfl rfl rfl ?_ | refine N_ldE rfl (by omega) (by omega) rfl rfl rfl ?_) | (refine nBuild ?_; refine N_litI rfl rfl rfl rfl rfl rfl rfl rfl rfl rfl ?_; intro _; refine N_ops rfl rfl ?_)))
                    rename_i b18
                    first | refine N_st1N ({ R2.getD ((x.seqs.length : Int) + 1).toNat default with ins := [litV T.2 ax.2], ia := some ⟨b18, 0, none⟩, ic := 1 }) rfl rfl rfl (by omega) (by decide) rfl rfl (by kernel_rfl) ?_ | refine N_st1 ({ R2.getD ((x.seqs.length : Int) + 1).toNat default with ins := [litV T.2 ax.2], ia := some ⟨b18, 0, none⟩, ic := 1 }) rfl rfl rfl (by omega) (by decide) rfl rfl (by kernel_rfl) ?_
                    refine N_ops rfl rfl ?_; skip
                    refine N_end ?_; intro w hp C; refine h_run rfl ?_; (repeat (refine H_ldB hp rfl rfl ?_))
                    have e1 : ((x.seqs.length : Int) + 1).toNat = x.seqs.length + 1 := by omega
                    rw [e1] at hp
                    obtain ⟨Q, hq, hback⟩ := rIns_at hp.f1 (i := x.seqs.length + 1) (by omega)
                    have hp := hback _ _ { R2.getD (x.seqs.length + 1) default with ins := [litV T.2 ax.2], ia := some ⟨b18, 0, none⟩, ic := 1 } hq.drop.f1
                    obtain ⟨R3, hR3⟩ : ∃ R3, R3 = R2.set (x.seqs.length + 1) { R2.getD (x.seqs.length + 1) default with ins := [litV T.2 ax.2], ia := some ⟨b18, 0, none⟩, ic := 1 } := ⟨_, rfl⟩
                    have hR3l : R3.length = z.seqs.length := by rw [hR3, List.length_set]; omega
                    rw [← hR3] at hp
                    have hat : ∀ j, j < 2 → (R.getD (x.seqs.length + j) default).kind = 0 ∧ (R.getD (x.seqs.length + j) default).init = iv := fun j hj => by
                      have h1 : (R.getD (x.seqs.length + j) default).s = (⟨0, iv, [0]⟩ : SeqL) := by
                        rw [← seqsOf_get, hRs2, ← hml2]
                        obtain rfl | rfl : j = 0 ∨ j = 1 := by omega
                        · simp [List.getD_eq_getElem?_getD, List.getElem?_append_right]
                        · simp [List.getD_eq_getElem?_getD, List.getElem?_append_right]
                      exact ⟨congrArg SeqL.kind h1, congrArg SeqL.init h1⟩
                    have hs3 : seqsOf R3 = (mapS x.n T.2).set ((k' : Nat) : Int).toNat ⟨0, (x.n.seqs.getD ((k' : Nat) : Int).toNat default).init, [0]⟩ ++ [⟨0, iv, [litV T.2 ax.1]⟩, ⟨0, iv, [litV T.2 ax.2]⟩] := by
                      have h0 := hat 0 (by omega)
                      have h1 := hat 1 (by omega)
                      rw [Nat.add_zero] at h0
                      have e2 : (SeqA.s { R.getD x.seqs.length default with ins := [litV T.2 ax.1], ia := some ⟨b17, 0, none⟩, ic := 1 }) = ⟨0, iv, [litV T.2 ax.1]⟩ := by
                        show SeqL.mk (R.getD x.seqs.length default).kind (R.getD x.seqs.length default).init [litV T.2 ax.1] = _
                        rw [h0.1, h0.2]
                      have e3 : (SeqA.s { R.getD (x.seqs.length + 1) default with ins := [litV T.2 ax.2], ia := some ⟨b18, 0, none⟩, ic := 1 }) = ⟨0, iv, [litV T.2 ax.2]⟩ := by
                        show SeqL.mk (R.getD (x.seqs.length + 1) default).kind (R.getD (x.seqs.length + 1) default).init [litV T.2 ax.2] = _
                        rw [h1.1, h1.2]
                      rw [hR3, hR2, show (R.set x.seqs.length ({ R.getD x.seqs.length default with ins := [litV T.2 ax.1], ia := some ⟨b17, 0, none⟩, ic := 1 })).getD (x.seqs.length + 1) default = R.getD (x.seqs.length + 1) default by simp [List.getD_eq_getElem?_getD, List.getElem?_set_ne], seqsOf_set, seqsOf_set, e2, e3, hRs2, show ((k' : Nat) : Int).toNat = k' by omega, ← hml2, List.set_append_right _ _ (Nat.le_refl _), Nat.sub_self, List.set_append_right _ _ (by omega), Nat.add_sub_cancel_left]
                      rfl
                    refine h_call rfl Try.func124 (by kernel_rfl) rfl (l10Map_h _ _ _ _ T.2 x.outs _ _ rfl rfl _ hp.rd hp.rd (fun j hj => hlit _ (hok.out _ (getD_mem hj))) (by omega) (by omega)) ?_; rintro _ w ⟨r, e, rfl, hq⟩; have hx := hq.x; have hp := hp.call1 hq; refine ops_run nopre rfl ?_; (repeat (first | (refine gLoad ?_; refine H_ldB hp rfl rfl ?_) | (refine gStore ?_; refine U_stB hp rfl rfl rfl rfl ?_; intro w hp; refine ops_run nopre rfl ?_)))
                    have hzn : (NetA.mk z.inputs R3 z.sa z.sc z.ands z.aa z.ac (mapL T.2 x.outs) r e).n = bwN x.n k' T := by
                      show NetL.mk z.inputs (seqsOf R3) z.ands (mapL T.2 x.outs) = _
                      unfold bwN finX
                      rw [hs3, hzi, hza, eAx, ← hiv]
                      rfl
                    have hp := rNet_shut (x := NetA.mk z.inputs R3 z.sa z.sc z.ands z.aa z.ac (mapL T.2 x.outs) r e) ((rSq_shut (hp.f1.f4)).f1.f4.f2)
                    refine gCall ?_
                    show Holds _ _ _ _ _ (.act (.call _ [.agg ⟨[.int .i64 z.inputs, .slice z.sa z.seqs.length z.sc, .slice z.aa z.ands.length z.ac, .slice r (mapL T.2 x.outs).length e]⟩]) _)
                    rw [← hR3l]
                    refine h_call rfl Try.func125 (by kernel_rfl) rfl (specPrune_x (NetA.mk z.inputs R3 z.sa z.sc z.ands z.aa z.ac (mapL T.2 x.outs) r e) _ hp.net (by rw [hzn]; exact hokN.S') (by rw [hzn]; exact hokN.W)) ?_; rintro _ w ⟨u, ⟨hu, rfl⟩, hq⟩; have hx := hq.x; have hp := hp.call1 hq; refine ops_run nopre rfl ?_; (repeat (first | (refine gStore ?_; refine U_stBN hp rfl rfl rfl rfl ?_; intro w hp; refine ops_run nopre rfl ?_) | (refine gRetc ?_; refine R_ret2v hp rfl ?_)))
                    rw [hzn, ifNet_yes hokN] at hu
                    rw [rbL_yes hsome]
                    exact ⟨u, ⟨hu, rfl⟩, Hp.tk hp 1⟩
  · refine h_call rfl Try.func62 (by kernel_rfl) rfl ((specNetOk_h x _ hp.net hS hW).ff (netOkB_no hok)) ?_; rintro _ w ⟨rfl, hx⟩; have hp := hp.ext hx; refine ops_run nopre rfl ?_; (repeat (refine h_guard_n rfl nopre rfl ?_))
    have hbad : ¬ bwOkP x.n k := fun h => hok h.1
    refine h_cond_t rfl rfl ?_; (repeat (refine H_ldB hp rfl rfl ?_))
    refine h_call rfl Try.func106 (by kernel_rfl) rfl (specCopyNet_h x _ hp.net hS) ?_; rintro _ w ⟨z, ⟨hz, rfl⟩, hq⟩; have hx := hq.x; have hp := hp.call1 hq; refine ops_run nopre rfl ?_; (repeat (first | (refine gStore ?_; refine U_stBN hp rfl rfl rfl rfl ?_; intro w hp; refine ops_run nopre rfl ?_) | (refine gRetc ?_; refine R_ret2v hp rfl ?_)))
    rw [rbL_no (bwO_bad hbad)]
    exact ⟨z, ⟨hz, rfl⟩, Hp.tk hp 1⟩
end Go.Proofs
