/- The contracts of the program's exported functions that refactor; each under its stated conditions. -/
import Derived.Test.YtifjicajbgoamaaGreatRefI
import Derived.Test.YtifjicajbgoamaaGreatGraph4
set_option linter.all false
namespace Go.Proofs
open Go.Xw
set_option maxRecDepth 100000
set_option maxHeartbeats 4000000
attribute [local irreducible] Holds elemAddr
theorem implRefactor_x (x : NetA) (w0 : World) (hX : NetR w0 x) (hS : NetS x.n) (hW : NetW x.n) :
    Ret Tryz.prog 17 [x.v] w0 (fun v w => ∃ y, (y.n = ifNet x.n (refL x.n) ∧ v = y.v) ∧ Hp w0 w [rNet y]) := by
  refine enter Tryz.S17ok _ _ rfl rfl (by show _ ≤ _; simp only [List.length]; decide) (fun C => ?_); have hp := Hp.nil w0; refine h_run rfl ?_; skip; (first | (refine H_box hp ?_; intro w b1 hx hp) | (refine H_alloc hp rfl ?_; intro w b1 hx hp)); refine ops_run nopre rfl ?_; skip; (first | (refine H_box hp ?_; intro w b2 hx hp) | (refine H_alloc hp rfl ?_; intro w b2 hx hp)); refine ops_run nopre rfl ?_; (repeat (refine H_ldB hp rfl rfl ?_))
  by_cases hok : NetOkP x.n
  · rw [ifNet_yes hok]
    refine h_call rfl Tryz.func53 (by kernel_rfl) rfl ((implNetOk_h x _ hp.net hS).tt (netOkB_yes hok)) ?_; rintro _ w ⟨rfl, hx⟩; have hp := hp.ext hx; refine ops_run nopre rfl ?_; skip
    refine h_cond_f rfl rfl ?_; (repeat (refine H_ldB hp rfl rfl ?_))
    refine h_call rfl Tryz.func54 (by kernel_rfl) rfl (hashed_h x _ hp.net hok) ?_; rintro _ w ⟨y0, ⟨hy0, rfl⟩, hq⟩; have hx := hq.x; have hp := hp.call1 hq; refine ops_run nopre rfl ?_; skip
    (first | (refine H_box hp ?_; intro w b3 hx hp) | (refine H_alloc hp rfl ?_; intro w b3 hx hp)); refine ops_run nopre rfl ?_; (repeat (first | (refine gLoad ?_; refine H_ldB hp rfl rfl ?_) | (refine gStore ?_; refine U_stBN hp rfl rfl rfl rfl ?_; intro w hp; refine ops_run nopre rfl ?_)))
    have hok0 : NetOkP y0.n := by rw [hy0]; exact hashL_ok hok
    have ha0 : y0.ands.length = (hashL x.n).ands.length := by rw [← hy0]; rfl
    refine h_cond_dec (fun hbig => ?_) (fun hbig => ?_)
    · refine h_cond_t rfl rfl ?_; (repeat (first | (refine gLoad ?_; refine H_ldB hp rfl rfl ?_) | (refine gStore ?_; refine U_stBN hp rfl rfl rfl rfl ?_; intro w hp; refine ops_run nopre rfl ?_) | (refine gRetc ?_; refine R_ret1 hp rfl ?_)))
      have e : refL x.n = hashL x.n := by unfold refL; rw [if_pos (by omega)]
      rw [e]
      exact ⟨y0, ⟨hy0, rfl⟩, (hp.f1).tk 1⟩
    · have e : refL x.n = refG ((hashL x.n).ands.length + 1) 0 y0.n := by unfold refL; rw [if_neg (by omega), hy0]
      rw [e]
      obtain ⟨R, hR⟩ : ∃ R, R = refG ((hashL x.n).ands.length + 1) 0 y0.n := ⟨_, rfl⟩
      rw [← hR]
      refine h_cond_f rfl rfl ?_; skip
      refine h_loop3 [2, 3, 4] (fun (i : Nat) (_ : NetA) (_ : Nat) => [(2, .pointer (some ⟨b2, 0, none⟩)), (3, .pointer (some ⟨b3, 0, none⟩)), (4, .int .i64 (i : Int))])
        (fun i y f w' => (NetOkP y.n ∧ refG f i y.n = R ∧ y.ands.length < f + i ∧ i ≤ 300) ∧ Hp w0 w' [rB b3 31 y.cs, rNet y, rB b2 31 (cellsV Tryz.ti31.zero)]) (fun _ _ f => f) 0 y0 ((hashL x.n).ands.length + 1) rfl ⟨⟨hok0, hR.symm, by omega, by omega⟩, ?_⟩ ?_
      · exact hp.tk 3
      clear hp
      rintro i y f w1 ⟨⟨hoky, hg, hf, hi3⟩, hp⟩ IH C
      have hn := hoky.nums
      have n1 := hn.n1
      have n4 := hn.n2
      have f2 := hn.f2
      have hnd := hoky.nodes
      have hsz := hoky.size'
      have hyal : y.n.ands.length = y.ands.length := rfl
      refine h_run rfl ?_; (repeat (refine H_ldB hp rfl rfl ?_))
      refine h_cond_dec (fun hlt => ?_) (fun hlt => ?_)
      · have hlt' : i < y.ands.length := by omega
        obtain ⟨f', rfl⟩ : ∃ f', f = f' + 1 := ⟨f - 1, by omega⟩
        rw [refG, if_pos (by omega)] at hg
        refine h_cond_t rfl rfl ?_; (repeat (refine H_ldB hp rfl rfl ?_))
        refine h_call rfl Tryz.func55 (by kernel_rfl) rfl (firstAnd_h y _ hoky.b) ?_; rintro _ w ⟨rfl, hx⟩; have hp := hp.ext hx; refine ops_run nopre rfl ?_; (repeat (refine H_ldB hp rfl rfl ?_))
        rw [show firstAndL y.n + (i : Int) = ((fst_ y.n + i : Nat) : Int) by omega]
        refine h_call rfl Tryz.func56 (by kernel_rfl) rfl (allCuts_h y (fst_ y.n + i) _ (rNet_r (hp.take (rNet y))) hoky (by omega)) ?_; rintro _ w ⟨b5, c5, Q, P, ⟨rfl, hQ⟩, hq⟩
        have hp : Hp w0 _ [rO 72 1 eRo b5 c5 Q, rRows 24 1 eRo Q, rRows 3 1 eI P, rB b3 31 y.cs, rNet y, rB b2 31 (cellsV Tryz.ti31.zero)] := hp.call hq
        have hQl := hQ.len
        have hcm := hQ.cuts (fst_ y.n + i) (by omega)
        have hmm := hQ.mem (fst_ y.n + i) (by omega)
        have hlen := cutsOf_len hoky (k := fst_ y.n + i) (by omega)
        have hrow : RdH w0 [rO 72 1 eRo b5 c5 Q, rRows 24 1 eRo Q, rRows 3 1 eI P, rB b3 31 y.cs, rNet y, rB b2 31 (cellsV Tryz.ti31.zero)] (Q.getD (fst_ y.n + i) default).ia 1 eRo (Q.getD (fst_ y.n + i) default).ins := RowsH.at_ (inferInstance : RowsH w0 _ 1 eRo Q) (by omega)
        have hrl : (Q.getD (fst_ y.n + i) default).ins.length ≤ 8 ∧ 0 < (Q.getD (fst_ y.n + i) default).ins.length := by rw [← insOf_len, hcm]; exact ⟨hlen.2, hlen.1⟩
        have hcap : (Q.getD (fst_ y.n + i) default).ins.length ≤ (Q.getD (fst_ y.n + i) default).ic := by
          obtain ⟨Qr, h2, _⟩ := rRows_at hp.f1 (i := fst_ y.n + i) (by omega)
          exact h2.own.cap
        have hne5 : b5 ≠ none := nn_of hp (X := Q) (by omega)
        refine ops_run nopre rfl ?_; (repeat (refine H_ldEN hp rfl (by omega) rfl rfl ?_))
        obtain ⟨T, hT⟩ : ∃ T, T = Q.getD (fst_ y.n + i) default := ⟨_, rfl⟩
        rw [← hT] at hcm hmm hrl hcap hrow ⊢
        show Holds _ _ _ _ _ (G.code _ _)
        obtain ⟨S0, hS0⟩ : ∃ S0, S0 = T.ins.take (T.ins.length - 1) := ⟨_, rfl⟩
        have hSl : S0.length = T.ins.length - 1 := by rw [hS0, List.length_take]; omega
        have hSi : insOf S0 = cutsM y.n i := by
          unfold cutsM
          rw [hS0, ← hcm, List.dropLast_eq_take, insOf_len]
          unfold insOf
          rw [List.map_take]
        have hSm : ∀ r, r ∈ S0 → r ∈ P := fun r hr => hmm r (List.mem_of_mem_take (by rw [hS0] at hr; exact hr))
        have hpre : RdH w0 [rO 72 1 eRo b5 c5 Q, rRows 24 1 eRo Q, rRows 3 1 eI P, rB b3 31 y.cs, rNet y, rB b2 31 (cellsV Tryz.ti31.zero)] (subA T.ia T.ic Tryz.ti24.size 0) 1 eRo S0 := by
          rw [hS0]; exact ⟨fun w hp => (hrow.h w hp).takeL (by omega) hcap⟩
        have hneS : 0 < S0.length → subA T.ia T.ic Tryz.ti24.size 0 ≠ none := fun h => (hpre.h _ hp).1 h
        refine h_loop [2, 3, 4, 5, 43, 44, 45] (fun (j : Nat) => [(2, .pointer (some ⟨b2, 0, none⟩)), (3, .pointer (some ⟨b3, 0, none⟩)), (4, .int .i64 (i : Int)), (5, .int .i64 ((fst_ y.n + i : Nat) : Int)), (43, .slice (subA T.ia T.ic Tryz.ti24.size 0) S0.length (T.ic - 0)), (44, .int .i64 S0.length), (45, .int .i64 (j : Int))])
          (fun j w' => (j ≤ S0.length ∧ pickL y.n ((fst_ y.n + i : Nat) : Int) ((insOf S0).drop j) = refS y.n i) ∧ Hp w0 w' [rO 72 1 eRo b5 c5 Q, rRows 24 1 eRo Q, rRows 3 1 eI P, rB b3 31 y.cs, rNet y, rB b2 31 (cellsV Tryz.ti31.zero)]) (fun j => S0.length - j) 0
          (by rw [show S0.length = ((T.ins.length : Int) - 1).toNat - 0 by omega]; rfl) ⟨⟨by omega, by rw [List.drop_zero, hSi]; rfl⟩, hp⟩ ?_
        clear hp
        rintro j w2 ⟨⟨hj, hpk⟩, hp⟩ IH2 C2
        have hlike := pick_like hoky ((fst_ y.n + i : Nat) : Int) (cutsM y.n i)
        have hsl : (refS y.n i).ands.length ≤ y.n.ands.length := hlike.le
        refine h_run rfl ?_; skip
        refine h_cond_dec (fun hlt2 => ?_) (fun hlt2 => ?_)
        · have hlt2' : j < S0.length := by omega
          have hmem := getD_memR hlt2'
          have hcm2 : (S0.getD j default).ins ∈ cutsM y.n i := by rw [← hSi]; exact List.mem_map.2 ⟨_, hmem, rfl⟩
          have hdr : (insOf S0).drop j = (S0.getD j default).ins :: (insOf S0).drop (j + 1) := by
            rw [← insOf_get, List.getD_eq_getElem?_getD, List.getElem?_eq_getElem (by rw [insOf_len]; exact hlt2'), Option.getD_some, ← List.drop_eq_getElem_cons]
          rw [hdr] at hpk
          have hP := cuts_rfP hoky (show i < y.n.ands.length by omega) hcm2
          have hqq : ((fst_ y.n + i : Nat) : Int).toNat - fst_ y.n = i := by omega
          have hneS' := hneS (by omega)
          refine h_cond_t rfl rfl ?_; (repeat (refine gLoad ?_; first | refine H_ldB hp rfl rfl ?_ | refine H_ldEN hp rfl (by omega) rfl rfl ?_))
          refine h_call rfl Tryz.func42 (by kernel_rfl) rfl (refactorAt_h y i _ _ (S0.getD j default).ins _ (rNet_r (hp.take (rNet y))) ((hp.rows hSm).at_ hlt2') hP) ?_; rintro _ w ⟨z, ⟨rfl, hz⟩, hq⟩; have hx := hq.x; have hp := hp.call1 hq; refine ops_run nopre rfl ?_; skip
          (first | (refine H_box hp ?_; intro w b9 hx hp) | (refine H_alloc hp rfl ?_; intro w b9 hx hp)); refine ops_run nopre rfl ?_; (repeat (refine U_stBN hp rfl rfl rfl rfl ?_; intro w hp; refine ops_run nopre rfl ?_))
          cases hN : rfN y.n i (S0.getD j default).ins with
          | none =>
            have hno : ¬ rfLess y.n ((fst_ y.n + i : Nat) : Int) (S0.getD j default).ins := fun h => by
              have h1 := h.1
              rw [rfF_no hP (by rw [hqq]; exact hN)] at h1
              cases h1
            rw [pickL_no hno] at hpk
            (repeat (refine h_guard_n rfl nopre rfl ?_))
            refine h_cond_f rfl rfl ?_; skip
            refine IH2 (j + 1) _ _ _ (by omega) rfl ⟨⟨by omega, hpk⟩, hp.drop.drop⟩
          | some m =>
            rw [hN] at hz
            have hzm : z.n = m := hz
            have hF := rfF_yes hP (by rw [hqq]; exact hN)
            (repeat (first | (refine gGuard ?_; refine h_guard_y rfl nopre rfl ?_) | (refine gLoad ?_; refine H_ldB hp rfl rfl ?_)))
            refine h_cond_dec (fun hless => ?_) (fun hless => ?_)
            · have hyes : rfLess y.n ((fst_ y.n + i : Nat) : Int) (S0.getD j default).ins := ⟨by rw [hF], by rw [hF, ← hzm]; show z.ands.length < y.ands.length; omega⟩
              rw [pickL_yes hyes, hF] at hpk
              have hzr : z.n = refS y.n i := by rw [hzm]; exact hpk
              have hzl : z.ands.length ≤ y.ands.length := by
                have h1 : z.n.ands.length ≤ y.n.ands.length := by rw [hzr]; exact hsl
                exact h1
              refine h_cond_t rfl rfl ?_; (repeat (first | (refine gLoad ?_; refine H_ldB hp rfl rfl ?_) | (refine gStore ?_; refine U_stBN hp rfl rfl rfl rfl ?_; intro w hp; refine ops_run nopre rfl ?_)))
              refine IH (i + 1) z f' _ _ _ (by omega) rfl ⟨⟨by rw [hzr]; exact hlike.ok, by rw [hzr]; exact hg, by omega, by omega⟩, ?_⟩
              exact (hp.f7.f2.f6).tk 3
            · have hno : ¬ rfLess y.n ((fst_ y.n + i : Nat) : Int) (S0.getD j default).ins := fun h => by
                have h2 := h.2
                rw [hF, ← hzm] at h2
                have h3 : z.n.ands.length = z.ands.length := rfl
                dsimp only at h2
                omega
              rw [pickL_no hno] at hpk
              refine h_cond_f rfl rfl ?_; skip
              refine IH2 (j + 1) _ _ _ (by omega) rfl ⟨⟨by omega, hpk⟩, hp.drop.drop⟩
        · obtain rfl : j = S0.length := by omega
          have hpy : refS y.n i = y.n := by
            rw [← hpk, List.drop_of_length_le (by rw [insOf_len]; exact Nat.le_refl _)]; rfl
          rw [hpy] at hg
          refine h_cond_f rfl rfl ?_; skip
          exact IH (i + 1) y f' _ _ _ (by omega) rfl ⟨⟨hoky, hg, by omega, by omega⟩, (hp.f5.f5.f5).tk 3⟩
      · have hyR : y.n = R := by
          rw [← hg]
          cases f with
          | zero => rfl
          | succ f => rw [refG, if_neg (by omega)]
        refine h_cond_f rfl rfl ?_; (repeat (first | (refine gLoad ?_; refine H_ldB hp rfl rfl ?_) | (refine gStore ?_; refine U_stBN hp rfl rfl rfl rfl ?_; intro w hp; refine ops_run nopre rfl ?_) | (refine gRetc ?_; refine R_ret1 hp rfl ?_)))
        exact ⟨y, ⟨hyR, rfl⟩, (hp.f1).tk 1⟩
  · refine h_call rfl Tryz.func53 (by kernel_rfl) rfl ((implNetOk_h x _ hp.net hS).ff (netOkB_no hok)) ?_; rintro _ w ⟨rfl, hx⟩; have hp := hp.ext hx; refine ops_run nopre rfl ?_; skip
    refine h_cond_t rfl rfl ?_; (repeat (first | (refine gStore ?_; refine U_stBN hp rfl rfl rfl rfl ?_; intro w hp; refine ops_run nopre rfl ?_) | (refine gRetc ?_; refine R_ret1 hp rfl ?_)))
    rw [ifNet_no hok]
    exact ⟨nilA, ⟨rfl, rfl⟩, Hp.tk (hpNil hp) 1⟩
end Go.Proofs
