/- The contracts of the program's exported functions that refactor; each under its stated conditions. -/
import Derived.Test.YtifjicajbgoamaaRefI
import Derived.Test.YtifjicajbgoamaaGraph4
set_option linter.all false
namespace Go.Proofs
open Go.Xw
set_option maxRecDepth 100000
set_option maxHeartbeats 4000000
attribute [local irreducible] Holds elemAddr
theorem implRefactorAt_x (x : NetA) (k : Int) (a : Option Addr) (c : Nat) (cut : List Int) (w0 : World) (hX : NetR w0 x) (hS : NetS x.n) (hW : NetW x.n) (hK : i64R k) (hR : Rd w0 a 1 eI cut) (hL : cut.length ≤ 1048576) (hV : ∀ i, i < cut.length → i64R (cut.getD i default)) :
    Ret Try.prog 10 [x.v, .int .i64 k, .slice a cut.length c] w0 (fun v w => ∃ y, (y.n = (rfF x.n k cut).1 ∧ v = .tuple ⟨[y.v, .bool (rfF x.n k cut).2]⟩) ∧ Hp w0 w [rNet y]) := by
  refine enter Try.S10ok _ _ rfl rfl (by show _ ≤ _; simp only [List.length]; decide) (fun C => ?_); have hp := Hp.nil w0; refine h_run rfl ?_; skip; (first | (refine H_box hp ?_; intro w b3 hx hp) | (refine H_alloc hp rfl ?_; intro w b3 hx hp)); refine ops_run nopre rfl ?_; skip; (first | (refine H_box hp ?_; intro w b6 hx hp) | (refine H_alloc hp rfl ?_; intro w b6 hx hp)); refine ops_run nopre rfl ?_; (repeat (refine H_ldB hp rfl rfl ?_))
  by_cases h1 : NetOkP x.n ∧ (0 ≤ k ∧ k < nodesL x.n) ∧ cutP x.n k.toNat cut
  · have hok := h1.1
    have hn := hok.nums
    have n1 := hn.n1
    have n4 := hn.n2
    have f2 := hn.f2
    have hc4 := h1.2.2.1.1
    refine h_call rfl Try.func27 (by kernel_rfl) rfl ((implCutOk_x x k a c cut _ hp.net hS hW hK hp.rd hL hV).tt (cutOkB_yes h1)) ?_; rintro _ w ⟨rfl, hx⟩; have hp := hp.ext hx; refine ops_run nopre rfl ?_; (repeat (first | (refine gGuard ?_; refine h_guard_y rfl nopre rfl ?_) | (refine gLoad ?_; refine H_ldB hp rfl rfl ?_)))
    by_cases h2 : firstAndL x.n ≤ k ∧ k < nodesL x.n
    · refine h_call rfl Try.func28 (by kernel_rfl) rfl ((isAnd_h x k _ hok.b).yes h2) ?_; rintro _ w ⟨rfl, hx⟩; have hp := hp.ext hx; refine ops_run nopre rfl ?_; (repeat (refine h_guard_y rfl nopre rfl ?_))
      by_cases h3 : k ∈ cut
      · have hbad : ¬ rfP x.n k cut := fun h => h.2.2 h3
        refine h_call rfl Try.func29 (by kernel_rfl) rfl ((hasInt_h a c _ cut rfl k _ hp.rd (by omega)).yes h3) ?_; rintro _ w ⟨rfl, hx⟩; have hp := hp.ext hx; refine ops_run nopre rfl ?_; skip
        refine h_cond_t rfl rfl ?_; (repeat (refine H_ldB hp rfl rfl ?_))
        rw [rfF_bad hbad]
        refine h_call rfl Try.func30 (by kernel_rfl) rfl (implCopyNet_h x _ hp.net hS) ?_; rintro _ w ⟨z, ⟨hz, rfl⟩, hq⟩; have hx := hq.x; have hp := hp.call1 hq; refine ops_run nopre rfl ?_; (repeat (first | (refine gStore ?_; refine U_stBN hp rfl rfl rfl rfl ?_; intro w hp; refine ops_run nopre rfl ?_) | (refine gRetc ?_; refine R_ret2v hp rfl ?_)))
        exact ⟨z, ⟨hz, rfl⟩, Hp.tk hp 1⟩
      · have hP : rfP x.n k cut := ⟨h1, by omega, h3⟩
        obtain ⟨q, rfl⟩ : ∃ q : Nat, k = ((fst_ x.n + q : Nat) : Int) := ⟨k.toNat - fst_ x.n, by omega⟩
        have hqq : ((fst_ x.n + q : Nat) : Int).toNat - fst_ x.n = q := by omega
        refine h_call rfl Try.func29 (by kernel_rfl) rfl ((hasInt_h a c _ cut rfl ((fst_ x.n + q : Nat) : Int) _ hp.rd (by omega)).no h3) ?_; rintro _ w ⟨rfl, hx⟩; have hp := hp.ext hx; refine ops_run nopre rfl ?_; skip
        refine h_cond_f rfl rfl ?_; (repeat (refine H_ldB hp rfl rfl ?_))
        refine h_call rfl Try.func31 (by kernel_rfl) rfl (refactorAt_h x q a c cut _ hp.net hp.rd hP) ?_; rintro _ w ⟨y, ⟨rfl, hy⟩, hq⟩; have hx := hq.x; have hp := hp.call1 hq; refine ops_run nopre rfl ?_; skip
        (first | (refine H_box hp ?_; intro w b8 hx hp) | (refine H_alloc hp rfl ?_; intro w b8 hx hp)); refine ops_run nopre rfl ?_; (repeat (refine U_stBN hp rfl rfl rfl rfl ?_; intro w hp; refine ops_run nopre rfl ?_))
        cases hN : rfN x.n q cut with
        | none =>
          rw [rfF_no hP (by rw [hqq]; exact hN)]
          refine h_cond_t rfl rfl ?_; (repeat (refine H_ldB hp rfl rfl ?_))
          refine h_call rfl Try.func30 (by kernel_rfl) rfl (implCopyNet_h x _ hp.net hS) ?_; rintro _ w ⟨z, ⟨hz, rfl⟩, hq⟩; have hx := hq.x; have hp := hp.call1 hq; refine ops_run nopre rfl ?_; (repeat (first | (refine gStore ?_; refine U_stBN hp rfl rfl rfl rfl ?_; intro w hp; refine ops_run nopre rfl ?_) | (refine gRetc ?_; refine R_ret2v hp rfl ?_)))
          exact ⟨z, ⟨hz, rfl⟩, Hp.tk hp 1⟩
        | some m =>
          rw [rfF_yes hP (by rw [hqq]; exact hN)]
          rw [hN] at hy
          refine h_cond_f rfl rfl ?_; (repeat (first | (refine gLoad ?_; refine H_ldB hp rfl rfl ?_) | (refine gStore ?_; refine U_stBN hp rfl rfl rfl rfl ?_; intro w hp; refine ops_run nopre rfl ?_) | (refine gRetc ?_; refine R_ret2v hp rfl ?_)))
          exact ⟨y, ⟨hy, rfl⟩, (hp.f1).tk 1⟩
    · have hbad : ¬ rfP x.n k cut := fun h => by have h3 := h.2.1; omega
      refine h_call rfl Try.func28 (by kernel_rfl) rfl ((isAnd_h x k _ hok.b).no h2) ?_; rintro _ w ⟨rfl, hx⟩; have hp := hp.ext hx; refine ops_run nopre rfl ?_; (repeat (refine gGuard ?_; first | refine h_guard_y rfl nopre rfl ?_ | refine h_guard_n rfl nopre rfl ?_))
      refine h_cond_t rfl rfl ?_; (repeat (refine H_ldB hp rfl rfl ?_))
      rw [rfF_bad hbad]
      refine h_call rfl Try.func30 (by kernel_rfl) rfl (implCopyNet_h x _ hp.net hS) ?_; rintro _ w ⟨z, ⟨hz, rfl⟩, hq⟩; have hx := hq.x; have hp := hp.call1 hq; refine ops_run nopre rfl ?_; (repeat (first | (refine gStore ?_; refine U_stBN hp rfl rfl rfl rfl ?_; intro w hp; refine ops_run nopre rfl ?_) | (refine gRetc ?_; refine R_ret2v hp rfl ?_)))
      exact ⟨z, ⟨hz, rfl⟩, Hp.tk hp 1⟩
  · have hbad : ¬ rfP x.n k cut := fun h => h1 h.1
    refine h_call rfl Try.func27 (by kernel_rfl) rfl ((implCutOk_x x k a c cut _ hp.net hS hW hK hp.rd hL hV).ff (cutOkB_no h1)) ?_; rintro _ w ⟨rfl, hx⟩; have hp := hp.ext hx; refine ops_run nopre rfl ?_; (repeat (refine h_guard_n rfl nopre rfl ?_))
    refine h_cond_t rfl rfl ?_; (repeat (refine H_ldB hp rfl rfl ?_))
    rw [rfF_bad hbad]
    refine h_call rfl Try.func30 (by kernel_rfl) rfl (implCopyNet_h x _ hp.net hS) ?_; rintro _ w ⟨z, ⟨hz, rfl⟩, hq⟩; have hx := hq.x; have hp := hp.call1 hq; refine ops_run nopre rfl ?_; (repeat (first | (refine gStore ?_; refine U_stBN hp rfl rfl rfl rfl ?_; intro w hp; refine ops_run nopre rfl ?_) | (refine gRetc ?_; refine R_ret2v hp rfl ?_)))
    exact ⟨z, ⟨hz, rfl⟩, Hp.tk hp 1⟩
theorem implRefactor_x (x : NetA) (w0 : World) (hX : NetR w0 x) (hS : NetS x.n) (hW : NetW x.n) :
    Ret Try.prog 14 [x.v] w0 (fun v w => ∃ y, (y.n = ifNet x.n (refL x.n) ∧ v = y.v) ∧ Hp w0 w [rNet y]) := by
  refine enter Try.S14ok _ _ rfl rfl (by show _ ≤ _; simp only [List.length]; decide) (fun C => ?_); have hp := Hp.nil w0; refine h_run rfl ?_; skip; (first | (refine H_box hp ?_; intro w b1 hx hp) | (refine H_alloc hp rfl ?_; intro w b1 hx hp)); refine ops_run nopre rfl ?_; skip; (first | (refine H_box hp ?_; intro w b2 hx hp) | (refine H_alloc hp rfl ?_; intro w b2 hx hp)); refine ops_run nopre rfl ?_; (repeat (refine H_ldB hp rfl rfl ?_))
  by_cases hok : NetOkP x.n
  · rw [ifNet_yes hok]
    refine h_call rfl Try.func32 (by kernel_rfl) rfl ((implNetOk_h x _ hp.net hS).tt (netOkB_yes hok)) ?_; rintro _ w ⟨rfl, hx⟩; have hp := hp.ext hx; refine ops_run nopre rfl ?_; skip
    refine h_cond_f rfl rfl ?_; (repeat (refine H_ldB hp rfl rfl ?_))
    refine h_call rfl Try.func37 (by kernel_rfl) rfl (hashed_h x _ hp.net hok) ?_; rintro _ w ⟨y0, ⟨hy0, rfl⟩, hq⟩; have hx := hq.x; have hp := hp.call1 hq; refine ops_run nopre rfl ?_; skip
    (first | (refine H_box hp ?_; intro w b3 hx hp) | (refine H_alloc hp rfl ?_; intro w b3 hx hp)); refine ops_run nopre rfl ?_; (repeat (first | (refine gLoad ?_; refine H_ldB hp rfl rfl ?_) | (refine gStore ?_; refine U_stBN hp rfl rfl rfl rfl ?_; intro w hp; refine ops_run nopre rfl ?_)))
    have hok0 : NetOkP y0.n := by rw [hy0]; exact hashL_ok hok
    have ha0 : y0.ands.length = (hashL x.n).ands.length := by rw [← hy0]; rfl
    refine h_cond_dec (fun hbig => ?_) (fun hbig => ?_)
    · refine h_cond_t rfl rfl ?_; (repeat (first | (refine gLoad ?_; refine H_ldB hp rfl rfl ?_) | (refine gStore ?_; refine U_stBN hp rfl rfl rfl rfl ?_; intro w hp; refine ops_run nopre rfl ?_) | (refine gRetc ?_; refine R_ret1 hp rfl ?_)))
      have e : refL x.n = hashL x.n := by unfold refL; rw [if_pos (by omega)]
      rw [e]
      exact ⟨y0, ⟨hy0, rfl⟩, (hp.f1).tk 1⟩
    · have e : refL x.n = refG ((hashL x.n).ands.length + 1) 0 y0.n := by unfold refL; rw [if_neg (by omega), hy0]
      rw [e]
      obtain ⟨R, hR⟩ : ∃ R, R = refG ((hashL x.n).ands.length + 1) 0 y0.n := ⟨_, rfl⟩
      rw [← hR]
      refine h_cond_f rfl rfl ?_; skip
      refine h_loop3 [2, 3, 4] (fun (i : Nat) (_ : NetA) (_ : Nat) => [(2, .pointer (some ⟨b2, 0, none⟩)), (3, .pointer (some ⟨b3, 0, none⟩)), (4, .int .i64 (i : Int))])
        (fun i y f w' => (NetOkP y.n ∧ refG f i y.n = R ∧ y.ands.length < f + i ∧ i ≤ 300) ∧ Hp w0 w' [rB b3 28 y.cs, rNet y, rB b2 28 (cellsV Try.ti28.zero)]) (fun _ _ f => f) 0 y0 ((hashL x.n).ands.length + 1) rfl ⟨⟨hok0, hR.symm, by omega, by omega⟩, ?_⟩ ?_
      · exact hp.tk 3
      clear hp
      rintro i y f w1 ⟨⟨hoky, hg, hf, hi3⟩, hp⟩ IH C
      have hn := hoky.nums
      have n1 := hn.n1
      have n4 := hn.n2
      have f2 := hn.f2
      have hnd := hoky.nodes
      have hsz := hoky.size'
      have hyal : y.n.ands.length = y.ands.length := rfl
      refine h_run rfl ?_; (repeat (refine H_ldB hp rfl rfl ?_))
      refine h_cond_dec (fun hlt => ?_) (fun hlt => ?_)
      · have hlt' : i < y.ands.length := by omega
        obtain ⟨f', rfl⟩ : ∃ f', f = f' + 1 := ⟨f - 1, by omega⟩
        rw [refG, if_pos (by omega)] at hg
        refine h_cond_t rfl rfl ?_; (repeat (refine H_ldB hp rfl rfl ?_))
        refine h_call rfl Try.func38 (by kernel_rfl) rfl (firstAnd_h y _ hoky.b) ?_; rintro _ w ⟨rfl, hx⟩; have hp := hp.ext hx; refine ops_run nopre rfl ?_; (repeat (refine H_ldB hp rfl rfl ?_))
        rw [show firstAndL y.n + (i : Int) = ((fst_ y.n + i : Nat) : Int) by omega]
        refine h_call rfl Try.func39 (by kernel_rfl) rfl (allCuts_h y (fst_ y.n + i) _ (rNet_r (hp.take (rNet y))) hoky (by omega)) ?_; rintro _ w ⟨b5, c5, Q, P, ⟨rfl, hQ⟩, hq⟩
        have hp : Hp w0 _ [rO 33 1 eRo b5 c5 Q, rRows 26 1 eRo Q, rRows 3 1 eI P, rB b3 28 y.cs, rNet y, rB b2 28 (cellsV Try.ti28.zero)] := hp.call hq
        have hQl := hQ.len
        have hcm := hQ.cuts (fst_ y.n + i) (by omega)
        have hmm := hQ.mem (fst_ y.n + i) (by omega)
        have hlen := cutsOf_len hoky (k := fst_ y.n + i) (by omega)
        have hrow : RdH w0 [rO 33 1 eRo b5 c5 Q, rRows 26 1 eRo Q, rRows 3 1 eI P, rB b3 28 y.cs, rNet y, rB b2 28 (cellsV Try.ti28.zero)] (Q.getD (fst_ y.n + i) default).ia 1 eRo (Q.getD (fst_ y.n + i) default).ins := RowsH.at_ (inferInstance : RowsH w0 _ 1 eRo Q) (by omega)
        have hrl : (Q.getD (fst_ y.n + i) default).ins.length ≤ 8 ∧ 0 < (Q.getD (fst_ y.n + i) default).ins.length := by rw [← insOf_len, hcm]; exact ⟨hlen.2, hlen.1⟩
        have hcap : (Q.getD (fst_ y.n + i) default).ins.length ≤ (Q.getD (fst_ y.n + i) default).ic := by
          obtain ⟨Qr, h2, _⟩ := rRows_at hp.f1 (i := fst_ y.n + i) (by omega)
          exact h2.own.cap
        have hne5 : b5 ≠ none := nn_of hp (X := Q) (by omega)
        refine ops_run nopre rfl ?_; (repeat (refine H_ldEN hp rfl (by omega) rfl rfl ?_))
        obtain ⟨T, hT⟩ : ∃ T, T = Q.getD (fst_ y.n + i) default := ⟨_, rfl⟩
        rw [← hT] at hcm hmm hrl hcap hrow ⊢
        show Holds _ _ _ _ _ (G.code _ _)
        obtain ⟨S0, hS0⟩ : ∃ S0, S0 = T.ins.take (T.ins.length - 1) := ⟨_, rfl⟩
        have hSl : S0.length = T.ins.length - 1 := by rw [hS0, List.length_take]; omega
        have hSi : insOf S0 = cutsM y.n i := by
          unfold cutsM
          rw [hS0, ← hcm, List.dropLast_eq_take, insOf_len]
          unfold insOf
          rw [List.map_take]
        have hSm : ∀ r, r ∈ S0 → r ∈ P := fun r hr => hmm r (List.mem_of_mem_take (by rw [hS0] at hr; exact hr))
        have hpre : RdH w0 [rO 33 1 eRo b5 c5 Q, rRows 26 1 eRo Q, rRows 3 1 eI P, rB b3 28 y.cs, rNet y, rB b2 28 (cellsV Try.ti28.zero)] (subA T.ia T.ic Try.ti26.size 0) 1 eRo S0 := by
          rw [hS0]; exact ⟨fun w hp => (hrow.h w hp).takeL (by omega) hcap⟩
        have hneS : 0 < S0.length → subA T.ia T.ic Try.ti26.size 0 ≠ none := fun h => (hpre.h _ hp).1 h
        refine h_loop [2, 3, 4, 5, 43, 44, 45] (fun (j : Nat) => [(2, .pointer (some ⟨b2, 0, none⟩)), (3, .pointer (some ⟨b3, 0, none⟩)), (4, .int .i64 (i : Int)), (5, .int .i64 ((fst_ y.n + i : Nat) : Int)), (43, .slice (subA T.ia T.ic Try.ti26.size 0) S0.length (T.ic - 0)), (44, .int .i64 S0.length), (45, .int .i64 (j : Int))])
          (fun j w' => (j ≤ S0.length ∧ pickL y.n ((fst_ y.n + i : Nat) : Int) ((insOf S0).drop j) = refS y.n i) ∧ Hp w0 w' [rO 33 1 eRo b5 c5 Q, rRows 26 1 eRo Q, rRows 3 1 eI P, rB b3 28 y.cs, rNet y, rB b2 28 (cellsV Try.ti28.zero)]) (fun j => S0.length - j) 0
          (by rw [show S0.length = ((T.ins.length : Int) - 1).toNat - 0 by omega]; rfl) ⟨⟨by omega, by rw [List.drop_zero, hSi]; rfl⟩, hp⟩ ?_
        clear hp
        rintro j w2 ⟨⟨hj, hpk⟩, hp⟩ IH2 C2
        have hlike := pick_like hoky ((fst_ y.n + i : Nat) : Int) (cutsM y.n i)
        have hsl : (refS y.n i).ands.length ≤ y.n.ands.length := hlike.le
        refine h_run rfl ?_; skip
        refine h_cond_dec (fun hlt2 => ?_) (fun hlt2 => ?_)
        · have hlt2' : j < S0.length := by omega
          have hmem := getD_memR hlt2'
          have hcm2 : (S0.getD j default).ins ∈ cutsM y.n i := by rw [← hSi]; exact List.mem_map.2 ⟨_, hmem, rfl⟩
          have hdr : (insOf S0).drop j = (S0.getD j default).ins :: (insOf S0).drop (j + 1) := by
            rw [← insOf_get, List.getD_eq_getElem?_getD, List.getElem?_eq_getElem (by rw [insOf_len]; exact hlt2'), Option.getD_some, ← List.drop_eq_getElem_cons]
          rw [hdr] at hpk
          have hP := cuts_rfP hoky (show i < y.n.ands.length by omega) hcm2
          have hqq : ((fst_ y.n + i : Nat) : Int).toNat - fst_ y.n = i := by omega
          have hneS' := hneS (by omega)
          refine h_cond_t rfl rfl ?_; (repeat (refine gLoad ?_; first | refine H_ldB hp rfl rfl ?_ | refine H_ldEN hp rfl (by omega) rfl rfl ?_))
          refine h_call rfl Try.func31 (by kernel_rfl) rfl (refactorAt_h y i _ _ (S0.getD j default).ins _ (rNet_r (hp.take (rNet y))) ((hp.rows hSm).at_ hlt2') hP) ?_; rintro _ w ⟨z, ⟨rfl, hz⟩, hq⟩; have hx := hq.x; have hp := hp.call1 hq; refine ops_run nopre rfl ?_; skip
          (first | (refine H_box hp ?_; intro w b9 hx hp) | (refine H_alloc hp rfl ?_; intro w b9 hx hp)); refine ops_run nopre rfl ?_; (repeat (refine U_stBN hp rfl rfl rfl rfl ?_; intro w hp; refine ops_run nopre rfl ?_))
          cases hN : rfN y.n i (S0.getD j default).ins with
          | none =>
            have hno : ¬ rfLess y.n ((fst_ y.n + i : Nat) : Int) (S0.getD j default).ins := fun h => by
              have h1 := h.1
              rw [rfF_no hP (by rw [hqq]; exact hN)] at h1
              cases h1
            rw [pickL_no hno] at hpk
            (repeat (refine h_guard_n rfl nopre rfl ?_))
            refine h_cond_f rfl rfl ?_; skip
            refine IH2 (j + 1) _ _ _ (by omega) rfl ⟨⟨by omega, hpk⟩, hp.drop.drop⟩
          | some m =>
            rw [hN] at hz
            have hzm : z.n = m := hz
            have hF := rfF_yes hP (by rw [hqq]; exact hN)
            (repeat (first | (refine gGuard ?_; refine h_guard_y rfl nopre rfl ?_) | (refine gLoad ?_; refine H_ldB hp rfl rfl ?_)))
            refine h_cond_dec (fun hless => ?_) (fun hless => ?_)
            · have hyes : rfLess y.n ((fst_ y.n + i : Nat) : Int) (S0.getD j default).ins := ⟨by rw [hF], by rw [hF, ← hzm]; show z.ands.length < y.ands.length; omega⟩
              rw [pickL_yes hyes, hF] at hpk
              have hzr : z.n = refS y.n i := by rw [hzm]; exact hpk
              have hzl : z.ands.length ≤ y.ands.length := by
                have h1 : z.n.ands.length ≤ y.n.ands.length := by rw [hzr]; exact hsl
                exact h1
              refine h_cond_t rfl rfl ?_; (repeat (first | (refine gLoad ?_; refine H_ldB hp rfl rfl ?_) | (refine gStore ?_; refine U_stBN hp rfl rfl rfl rfl ?_; intro w hp; refine ops_run nopre rfl ?_)))
              refine IH (i + 1) z f' _ _ _ (by omega) rfl ⟨⟨by rw [hzr]; exact hlike.ok, by rw [hzr]; exact hg, by omega, by omega⟩, ?_⟩
              exact (hp.f7.f2.f6).tk 3
            · have hno : ¬ rfLess y.n ((fst_ y.n + i : Nat) : Int) (S0.getD j default).ins := fun h => by
                have h2 := h.2
                rw [hF, ← hzm] at h2
                have h3 : z.n.ands.length = z.ands.length := rfl
                dsimp only at h2
                omega
              rw [pickL_no hno] at hpk
              refine h_cond_f rfl rfl ?_; skip
              refine IH2 (j + 1) _ _ _ (by omega) rfl ⟨⟨by omega, hpk⟩, hp.drop.drop⟩
        · obtain rfl : j = S0.length := by omega
          have hpy : refS y.n i = y.n := by
            rw [← hpk, List.drop_of_length_le (by rw [insOf_len]; exact Nat.le_refl _)]; rfl
          rw [hpy] at hg
          refine h_cond_f rfl rfl ?_; skip
          exact IH (i + 1) y f' _ _ _ (by omega) rfl ⟨⟨hoky, hg, by omega, by omega⟩, (hp.f5.f5.f5).tk 3⟩
      · have hyR : y.n = R := by
          rw [← hg]
          cases f with
          | zero => rfl
          | succ f => rw [refG, if_neg (by omega)]
        refine h_cond_f rfl rfl ?_; (repeat (first | (refine gLoad ?_; refine H_ldB hp rfl rfl ?_) | (refine gStore ?_; refine U_stBN hp rfl rfl rfl rfl ?_; intro w hp; refine ops_run nopre rfl ?_) | (refine gRetc ?_; refine R_ret1 hp rfl ?_)))
        exact ⟨y, ⟨hyR, rfl⟩, (hp.f1).tk 1⟩
  · refine h_call rfl Try.func32 (by kernel_rfl) rfl ((implNetOk_h x _ hp.net hS).ff (netOkB_no hok)) ?_; rintro _ w ⟨rfl, hx⟩; have hp := hp.ext hx; refine ops_run nopre rfl ?_; skip
    refine h_cond_t rfl rfl ?_; (repeat (first | (refine gStore ?_; refine U_stBN hp rfl rfl rfl rfl ?_; intro w hp; refine ops_run nopre rfl ?_) | (refine gRetc ?_; refine R_ret1 hp rfl ?_)))
    rw [ifNet_no hok]
    exact ⟨nilA, ⟨rfl, rfl⟩, Hp.tk (hpNil hp) 1⟩
theorem implOptimize_x (x : NetA) (w0 : World) (hX : NetR w0 x) (hS : NetS x.n) (hW : NetW x.n) :
    Ret Try.prog 15 [x.v] w0 (fun v w => ∃ y, (y.n = optL x.n ∧ v = y.v) ∧ Hp w0 w [rNet y]) := by
  refine enter Try.S15ok _ _ rfl rfl (by show _ ≤ _; simp only [List.length]; decide) (fun C => ?_); have hp := Hp.nil w0; refine h_run rfl ?_; skip; (first | (refine H_box hp ?_; intro w b1 hx hp) | (refine H_alloc hp rfl ?_; intro w b1 hx hp)); refine ops_run nopre rfl ?_; skip; (first | (refine H_box hp ?_; intro w b2 hx hp) | (refine H_alloc hp rfl ?_; intro w b2 hx hp)); refine ops_run nopre rfl ?_; (repeat (refine H_ldB hp rfl rfl ?_))
  refine h_call rfl Try.func14 (by kernel_rfl) rfl (implRefactor_x x _ hp.net hS hW) ?_; rintro _ w ⟨a, ⟨ha, rfl⟩, hq⟩; have hx := hq.x; have hp := hp.call1 hq; refine ops_run nopre rfl ?_; skip
  have hae : a.n = refF x.n := ha
  have haok : NetOkP a.n := by rw [hae]; exact refF_ok x.n
  (first | (refine H_box hp ?_; intro w b3 hx hp) | (refine H_alloc hp rfl ?_; intro w b3 hx hp)); refine ops_run nopre rfl ?_; (repeat (first | (refine gLoad ?_; refine H_ldB hp rfl rfl ?_) | (refine gStore ?_; refine U_stBN hp rfl rfl rfl rfl ?_; intro w hp; refine ops_run nopre rfl ?_)))
  refine h_call rfl Try.func40 (by kernel_rfl) rfl (implBalance_x x _ hp.net hS hW) ?_; rintro _ w ⟨c, ⟨hc, rfl⟩, hq⟩; have hx := hq.x; have hp := hp.call1 hq; refine ops_run nopre rfl ?_; skip
  have hce : c.n = balF x.n := hc
  have hcok : NetOkP c.n := by rw [hce]; exact balF_ok' x.n
  refine h_call rfl Try.func14 (by kernel_rfl) rfl (implRefactor_x c _ hp.net hcok.S' hcok.W) ?_; rintro _ w ⟨d, ⟨hd, rfl⟩, hq⟩; have hx := hq.x; have hp := hp.call1 hq; refine ops_run nopre rfl ?_; skip
  have hde : d.n = refF (balF x.n) := by rw [← hce]; exact hd
  have hdok : NetOkP d.n := by rw [hde]; exact refF_ok _
  refine h_call rfl Try.func40 (by kernel_rfl) rfl (implBalance_x d _ hp.net hdok.S' hdok.W) ?_; rintro _ w ⟨b, ⟨hb, rfl⟩, hq⟩; have hx := hq.x; have hp := hp.call1 hq; refine ops_run nopre rfl ?_; skip
  have hbe : b.n = optB x.n := by
    have h : b.n = balF d.n := hb
    rw [h, hde]; rfl
  have hbok : NetOkP b.n := by rw [hbe]; exact balF_ok' _
  (first | (refine H_box hp ?_; intro w b4 hx hp) | (refine H_alloc hp rfl ?_; intro w b4 hx hp)); refine ops_run nopre rfl ?_; (repeat (refine U_stBN hp rfl rfl rfl rfl ?_; intro w hp; refine ops_run nopre rfl ?_))
  have hp : Hp w0 _ [_, _, _, _, _] := (hp.f6.f6.f6.f4.f4).tk 5
  refine N_draw hp (by kernel_rfl) (by kernel_rfl) rfl rfl ?_; (repeat (refine N_ldB rfl rfl rfl ?_))
  refine N_call Try.func17 (by kernel_rfl) rfl (fun F w hp => ?_); refine Ret.mono (implDepth_x b _ (rNet_r (hp.pre.take (rNet b))) hbok.S' hbok.W) ?_; rintro _ w ⟨rfl, hx⟩; have hp := hp.ext hx; refine ⟨fun _ => hp.sub (by (repeat (first | exact List.sublist_append_left _ _ | apply List.Sublist.cons))), _, hp, ?_⟩; clear hp; refine N_ops rfl rfl ?_; (repeat (refine N_ldB rfl rfl rfl ?_))
  refine N_call Try.func17 (by kernel_rfl) rfl (fun F w hp => ?_); refine Ret.mono (implDepth_x a _ (rNet_r (hp.pre.take (rNet a))) haok.S' haok.W) ?_; rintro _ w ⟨rfl, hx⟩; have hp := hp.ext hx; refine ⟨fun _ => hp.sub (by (repeat (first | exact List.sublist_append_left _ _ | apply List.Sublist.cons))), _, hp, ?_⟩; clear hp; refine N_ops rfl rfl ?_; skip
  by_cases h1 : depthL b.n < depthL a.n
  · rw [decide_eq_true h1]
    (repeat (refine N_guard_n rfl rfl rfl ?_))
    refine N_end ?_; intro w hp C; refine h_run rfl ?_; skip
    have hopt : optP (refF x.n) (optB x.n) := by rw [← hae, ← hbe]; exact .inl h1
    rw [optL_yes hopt]
    refine h_cond_t rfl rfl ?_; (repeat (first | (refine gLoad ?_; refine H_ldB hp rfl rfl ?_) | (refine gStore ?_; refine U_stBN hp rfl rfl rfl rfl ?_; intro w hp; refine ops_run nopre rfl ?_) | (refine gRetc ?_; refine R_ret1 hp rfl ?_)))
    exact ⟨b, ⟨hbe, rfl⟩, (hp.f1).tk 1⟩
  · rw [decide_eq_false h1]
    (repeat (first | (refine nGuard ?_; refine N_guard_y rfl rfl rfl ?_) | (refine nLoad ?_; refine N_ldB rfl rfl rfl ?_)))
    refine N_call Try.func17 (by kernel_rfl) rfl (fun F w hp => ?_); refine Ret.mono (implDepth_x b _ (rNet_r (hp.pre.take (rNet b))) hbok.S' hbok.W) ?_; rintro _ w ⟨rfl, hx⟩; have hp := hp.ext hx; refine ⟨fun _ => hp.sub (by (repeat (first | exact List.sublist_append_left _ _ | apply List.Sublist.cons))), _, hp, ?_⟩; clear hp; refine N_ops rfl rfl ?_; (repeat (first | (refine nGuard ?_; refine N_guard_y rfl rfl rfl ?_) | (refine nLoad ?_; refine N_ldB rfl rfl rfl ?_)))
    refine N_call Try.func17 (by kernel_rfl) rfl (fun F w hp => ?_); refine Ret.mono (implDepth_x a _ (rNet_r (hp.pre.take (rNet a))) haok.S' haok.W) ?_; rintro _ w ⟨rfl, hx⟩; have hp := hp.ext hx; refine ⟨fun _ => hp.sub (by (repeat (first | exact List.sublist_append_left _ _ | apply List.Sublist.cons))), _, hp, ?_⟩; clear hp; refine N_ops rfl rfl ?_; (repeat (refine N_guard_y rfl rfl rfl ?_))
    by_cases h2 : depthL b.n = depthL a.n
    · rw [decide_eq_true h2]
      (repeat (first | (refine nGuard ?_; refine N_guard_y rfl rfl rfl ?_) | (refine nLoad ?_; refine N_ldB rfl rfl rfl ?_)))
      refine N_end ?_; intro w hp C; refine h_run rfl ?_; skip
      have hbl : b.n.ands.length = b.ands.length := rfl
      have hal : a.n.ands.length = a.ands.length := rfl
      refine h_cond_dec (fun h3 => ?_) (fun h3 => ?_)
      · have hopt : optP (refF x.n) (optB x.n) := by rw [← hae, ← hbe]; exact .inr ⟨h2, by omega⟩
        rw [optL_yes hopt]
        refine h_cond_t rfl rfl ?_; (repeat (first | (refine gLoad ?_; refine H_ldB hp rfl rfl ?_) | (refine gStore ?_; refine U_stBN hp rfl rfl rfl rfl ?_; intro w hp; refine ops_run nopre rfl ?_) | (refine gRetc ?_; refine R_ret1 hp rfl ?_)))
        exact ⟨b, ⟨hbe, rfl⟩, (hp.f1).tk 1⟩
      · have hopt : ¬ optP (refF x.n) (optB x.n) := by rw [← hae, ← hbe]; unfold optP; omega
        rw [optL_no hopt]
        refine h_cond_f rfl rfl ?_; (repeat (first | (refine gLoad ?_; refine H_ldB hp rfl rfl ?_) | (refine gStore ?_; refine U_stBN hp rfl rfl rfl rfl ?_; intro w hp; refine ops_run nopre rfl ?_) | (refine gRetc ?_; refine R_ret1 hp rfl ?_)))
        exact ⟨a, ⟨hae, rfl⟩, (hp.f3).tk 1⟩
    · rw [decide_eq_false h2]
      (repeat (refine nGuard ?_; first | refine N_guard_y rfl rfl rfl ?_ | refine N_guard_n rfl rfl rfl ?_))
      refine N_end ?_; intro w hp C; refine h_run rfl ?_; skip
      have hopt : ¬ optP (refF x.n) (optB x.n) := by rw [← hae, ← hbe]; unfold optP; omega
      rw [optL_no hopt]
      refine h_cond_f rfl rfl ?_; (repeat (first | (refine gLoad ?_; refine H_ldB hp rfl rfl ?_) | (refine gStore ?_; refine U_stBN hp rfl rfl rfl rfl ?_; intro w hp; refine ops_run nopre rfl ?_) | (refine gRetc ?_; refine R_ret1 hp rfl ?_)))
      exact ⟨a, ⟨hae, rfl⟩, (hp.f3).tk 1⟩
end Go.Proofs
