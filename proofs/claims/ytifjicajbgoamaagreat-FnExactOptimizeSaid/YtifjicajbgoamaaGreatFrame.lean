/- Texts that belong together; each under its stated conditions. -/
import Derived.Test.YtifjicajbgoamaaGreatRefI
import Derived.Test.YtifjicajbgoamaaGreatGraph4
import Derived.Test.YtifjicajbgoamaaGreatProg
import Derived.Test.YtifjicajbgoamaaGreatNetR
import Derived.KernelRfl
import Derived.ProofKit
import Derived.Deep.Slices
import Derived.Deep.Fields
import Derived.ChangeSame
import Derived.ChangeArms
import Derived.ChangeShapes
import Derived.Test.YtifjicajbgoamaaGreatStep
set_option linter.all false
section
namespace Go.Proofs
open Go.Xw
set_option maxRecDepth 100000
set_option maxHeartbeats 4000000
attribute [local irreducible] Holds elemAddr
theorem implRefactor_x (x : NetA) (w0 : World) (hX : NetR w0 x) (hS : NetS x.n) (hW : NetW x.n) :
  Ret Tryz.prog 17 [x.v] w0 (fun v w => ∃ y, (y.n = ifNet x.n (refL x.n) ∧ v = y.v) ∧ Hp w0 w [rNet y]) := by
 refine enter Tryz.S17ok _ _ rfl rfl (by show _ ≤ _; simp only [List.length]; decide) (fun C => ?_); have hp := Hp.nil w0; refine h_run rfl ?_; skip; (first | refine H_box hp ?_ | refine H_alloc hp rfl ?_); intro w b1 hx hp; refine ops_run nopre rfl ?_; skip; (first | refine H_box hp ?_ | refine H_alloc hp rfl ?_); intro w b2 hx hp; refine ops_run nopre rfl ?_; (repeat (refine H_ldB hp rfl rfl ?_))
 by_cases hok : NetOkP x.n
 ·rw [ifNet_yes hok]
  refine h_call rfl Tryz.func53 (by kernel_rfl) rfl ((implNetOk_h x _ hp.net hS).tt (netOkB_yes hok)) ?_; rintro _ w ⟨rfl, hx⟩; have hp := hp.ext hx; refine ops_run nopre rfl ?_; skip
  refine h_cond_f rfl rfl ?_; (repeat (refine H_ldB hp rfl rfl ?_))
  refine h_call rfl Tryz.func54 (by kernel_rfl) rfl (hashed_h x _ hp.net hok) ?_; rintro _ w ⟨y0, ⟨hy0, rfl⟩, hq⟩; have hx := hq.x; have hp := hp.call1 hq; refine ops_run nopre rfl ?_; skip
  (first | refine H_box hp ?_ | refine H_alloc hp rfl ?_); intro w b3 hx hp; refine ops_run nopre rfl ?_; (repeat (first | (refine gLoad ?_; refine H_ldB hp rfl rfl ?_) | (refine gStore ?_; refine U_stBN hp rfl rfl rfl rfl ?_; intro w hp; refine ops_run nopre rfl ?_)))
  have hok0 : NetOkP y0.n := by rw [hy0]; exact hashL_ok hok
  have ha0 : y0.ands.length = (hashL x.n).ands.length := by rw [← hy0]; rfl
  refine h_cond_dec (fun hbig => ?_) (fun hbig => ?_)
  ·refine h_cond_t rfl rfl ?_; (repeat (first | (refine gLoad ?_; refine H_ldB hp rfl rfl ?_) | (refine gStore ?_; refine U_stBN hp rfl rfl rfl rfl ?_; intro w hp; refine ops_run nopre rfl ?_) | (refine gRetc ?_; refine R_ret1 hp rfl ?_)))
   have e : refL x.n = hashL x.n := by unfold refL; rw [if_pos (by omega)]
   rw [e]
   exact ⟨y0, ⟨hy0, rfl⟩, (hp.f1).tk 1⟩
  ·have e : refL x.n = refG ((hashL x.n).ands.length + 1) 0 y0.n := by unfold refL; rw [if_neg (by omega), hy0]
   rw [e]
   obtain ⟨R, hR⟩ : ∃ R, R = refG ((hashL x.n).ands.length + 1) 0 y0.n := ⟨_, rfl⟩
   rw [← hR]
   refine h_cond_f rfl rfl ?_; skip
   refine h_loop3 [2, 3, 4] (fun (i : Nat) (_ : NetA) (_ : Nat) => [(2, .pointer (some ⟨b2, 0, none⟩)), (3, .pointer (some ⟨b3, 0, none⟩)), (4, .int .i64 (i : Int))])
    (fun i y f w' => (NetOkP y.n ∧ refG f i y.n = R ∧ y.ands.length < f + i ∧ i ≤ 300) ∧ Hp w0 w' [rB b3 31 y.cs, rNet y, rB b2 31 (cellsV Tryz.ti31.zero)]) (fun _ _ f => f) 0 y0 ((hashL x.n).ands.length + 1) rfl ⟨⟨hok0, hR.symm, by omega, by omega⟩, ?_⟩ ?_
   ·exact hp.tk 3
   clear hp
   rintro i y f w1 ⟨⟨hoky, hg, hf, hi3⟩, hp⟩ IH C
   have hn := hoky.nums
   have n1 := hn.n1
   have n4 := hn.n2
   have f2 := hn.f2
   have hnd := hoky.nodes
   have hsz := hoky.size'
   have hyal : y.n.ands.length = y.ands.length := rfl
   refine h_run rfl ?_; (repeat (refine H_ldB hp rfl rfl ?_))
   refine h_cond_dec (fun hlt => ?_) (fun hlt => ?_)
   ·have hlt' : i < y.ands.length := by omega
    obtain ⟨f', rfl⟩ : ∃ f', f = f' + 1 := ⟨f - 1, by omega⟩
    rw [refG, if_pos (by omega)] at hg
    refine h_cond_t rfl rfl ?_; (repeat (refine H_ldB hp rfl rfl ?_))
    refine h_call rfl Tryz.func55 (by kernel_rfl) rfl (firstAnd_h y _ hoky.b) ?_; rintro _ w ⟨rfl, hx⟩; have hp := hp.ext hx; refine ops_run nopre rfl ?_; (repeat (refine H_ldB hp rfl rfl ?_))
    rw [show firstAndL y.n + (i : Int) = ((fst_ y.n + i : Nat) : Int) by omega]
    refine h_call rfl Tryz.func56 (by kernel_rfl) rfl (allCuts_h y (fst_ y.n + i) _ (rNet_r (hp.take (rNet y))) hoky (by omega)) ?_; rintro _ w ⟨b5, c5, Q, P, ⟨rfl, hQ⟩, hq⟩
    have hp : Hp w0 _ [rO 72 1 eRo b5 c5 Q, rRows 24 1 eRo Q, rRows 3 1 eI P, rB b3 31 y.cs, rNet y, rB b2 31 (cellsV Tryz.ti31.zero)] := hp.call hq
    have hQl := hQ.len
    have hcm := hQ.cuts (fst_ y.n + i) (by omega)
    have hmm := hQ.mem (fst_ y.n + i) (by omega)
    have hlen := cutsOf_len hoky (k := fst_ y.n + i) (by omega)
    have hrow : RdH w0 [rO 72 1 eRo b5 c5 Q, rRows 24 1 eRo Q, rRows 3 1 eI P, rB b3 31 y.cs, rNet y, rB b2 31 (cellsV Tryz.ti31.zero)] (Q.getD (fst_ y.n + i) default).ia 1 eRo (Q.getD (fst_ y.n + i) default).ins := RowsH.at_ (inferInstance : RowsH w0 _ 1 eRo Q) (by omega)
    have hrl : (Q.getD (fst_ y.n + i) default).ins.length ≤ 8 ∧ 0 < (Q.getD (fst_ y.n + i) default).ins.length := by rw [← insOf_len, hcm]; exact ⟨hlen.2, hlen.1⟩
    have hcap : (Q.getD (fst_ y.n + i) default).ins.length ≤ (Q.getD (fst_ y.n + i) default).ic := by
     obtain ⟨Qr, h2, _⟩ := rRows_at hp.f1 (i := fst_ y.n + i) (by omega)
     exact h2.own.cap
    have hne5 : b5 ≠ none := nn_of hp (X := Q) (by omega)
    refine ops_run nopre rfl ?_; (repeat (refine H_ldEN hp rfl (by omega) rfl rfl ?_))
    obtain ⟨T, hT⟩ : ∃ T, T = Q.getD (fst_ y.n + i) default := ⟨_, rfl⟩
    rw [← hT] at hcm hmm hrl hcap hrow ⊢
    show Holds _ _ _ _ _ (G.code _ _)
    obtain ⟨S0, hS0⟩ : ∃ S0, S0 = T.ins.take (T.ins.length - 1) := ⟨_, rfl⟩
    have hSl : S0.length = T.ins.length - 1 := by rw [hS0, List.length_take]; omega
    have hSi : insOf S0 = cutsM y.n i := by
     unfold cutsM
     rw [hS0, ← hcm, List.dropLast_eq_take, insOf_len]
     unfold insOf
     rw [List.map_take]
    have hSm : ∀ r, r ∈ S0 → r ∈ P := fun r hr => hmm r (List.mem_of_mem_take (by rw [hS0] at hr; exact hr))
    have hpre : RdH w0 [rO 72 1 eRo b5 c5 Q, rRows 24 1 eRo Q, rRows 3 1 eI P, rB b3 31 y.cs, rNet y, rB b2 31 (cellsV Tryz.ti31.zero)] (subA T.ia T.ic Tryz.ti24.size 0) 1 eRo S0 := by
     rw [hS0]; exact ⟨fun w hp => (hrow.h w hp).takeL (by omega) hcap⟩
    have hneS : 0 < S0.length → subA T.ia T.ic Tryz.ti24.size 0 ≠ none := fun h => (hpre.h _ hp).1 h
    refine h_loop [2, 3, 4, 5, 43, 44, 45] (fun (j : Nat) => [(2, .pointer (some ⟨b2, 0, none⟩)), (3, .pointer (some ⟨b3, 0, none⟩)), (4, .int .i64 (i : Int)), (5, .int .i64 ((fst_ y.n + i : Nat) : Int)), (43, .slice (subA T.ia T.ic Tryz.ti24.size 0) S0.length (T.ic - 0)), (44, .int .i64 S0.length), (45, .int .i64 (j : Int))])
     (fun j w' => (j ≤ S0.length ∧ pickL y.n ((fst_ y.n + i : Nat) : Int) ((insOf S0).drop j) = refS y.n i) ∧ Hp w0 w' [rO 72 1 eRo b5 c5 Q, rRows 24 1 eRo Q, rRows 3 1 eI P, rB b3 31 y.cs, rNet y, rB b2 31 (cellsV Tryz.ti31.zero)]) (fun j => S0.length - j) 0
     (by rw [show S0.length = ((T.ins.length : Int) - 1).toNat - 0 by omega]; rfl) ⟨⟨by omega, by rw [List.drop_zero, hSi]; rfl⟩, hp⟩ ?_
    clear hp
    rintro j w2 ⟨⟨hj, hpk⟩, hp⟩ IH2 C2
    have hlike := pick_like hoky ((fst_ y.n + i : Nat) : Int) (cutsM y.n i)
    have hsl : (refS y.n i).ands.length ≤ y.n.ands.length := hlike.le
    refine h_run rfl ?_; skip
    refine h_cond_dec (fun hlt2 => ?_) (fun hlt2 => ?_)
    ·have hlt2' : j < S0.length := by omega
     have hmem := getD_memR hlt2'
     have hcm2 : (S0.getD j default).ins ∈ cutsM y.n i := by rw [← hSi]; exact List.mem_map.2 ⟨_, hmem, rfl⟩
     have hdr : (insOf S0).drop j = (S0.getD j default).ins :: (insOf S0).drop (j + 1) := by
      rw [← insOf_get, List.getD_eq_getElem?_getD, List.getElem?_eq_getElem (by rw [insOf_len]; exact hlt2'), Option.getD_some, ← List.drop_eq_getElem_cons]
     rw [hdr] at hpk
     have hP := cuts_rfP hoky (show i < y.n.ands.length by omega) hcm2
     have hqq : ((fst_ y.n + i : Nat) : Int).toNat - fst_ y.n = i := by omega
     have hneS' := hneS (by omega)
     refine h_cond_t rfl rfl ?_; (repeat (refine gLoad ?_; first | refine H_ldB hp rfl rfl ?_ | refine H_ldEN hp rfl (by omega) rfl rfl ?_))
     refine h_call rfl Tryz.func42 (by kernel_rfl) rfl (refactorAt_h y i _ _ (S0.getD j default).ins _ (rNet_r (hp.take (rNet y))) ((hp.rows hSm).at_ hlt2') hP) ?_; rintro _ w ⟨z, ⟨rfl, hz⟩, hq⟩; have hx := hq.x; have hp := hp.call1 hq; refine ops_run nopre rfl ?_; skip
     (first | refine H_box hp ?_ | refine H_alloc hp rfl ?_); intro w b9 hx hp; refine ops_run nopre rfl ?_; (repeat (refine U_stBN hp rfl rfl rfl rfl ?_; intro w hp; refine ops_run nopre rfl ?_))
     cases hN : rfN y.n i (S0.getD j default).ins with
     | none =>
      have hno : ¬ rfLess y.n ((fst_ y.n + i : Nat) : Int) (S0.getD j default).ins := fun h => by
       have h1 := h.1
       rw [rfF_no hP (by rw [hqq]; exact hN)] at h1
       cases h1
      rw [pickL_no hno] at hpk
      (repeat (refine h_guard_n rfl nopre rfl ?_))
      refine h_cond_f rfl rfl ?_; skip
      refine IH2 (j + 1) _ _ _ (by omega) rfl ⟨⟨by omega, hpk⟩, hp.drop.drop⟩
     | some m =>
      rw [hN] at hz
      have hzm : z.n = m := hz
      have hF := rfF_yes hP (by rw [hqq]; exact hN)
      (repeat (first | (refine gGuard ?_; refine h_guard_y rfl nopre rfl ?_) | (refine gLoad ?_; refine H_ldB hp rfl rfl ?_)))
      refine h_cond_dec (fun hless => ?_) (fun hless => ?_)
      ·have hyes : rfLess y.n ((fst_ y.n + i : Nat) : Int) (S0.getD j default).ins := ⟨by rw [hF], by rw [hF, ← hzm]; show z.ands.length < y.ands.length; omega⟩
       rw [pickL_yes hyes, hF] at hpk
       have hzr : z.n = refS y.n i := by rw [hzm]; exact hpk
       have hzl : z.ands.length ≤ y.ands.length := by
        have h1 : z.n.ands.length ≤ y.n.ands.length := by rw [hzr]; exact hsl
        exact h1
       refine h_cond_t rfl rfl ?_; (repeat (first | (refine gLoad ?_; refine H_ldB hp rfl rfl ?_) | (refine gStore ?_; refine U_stBN hp rfl rfl rfl rfl ?_; intro w hp; refine ops_run nopre rfl ?_)))
       refine IH (i + 1) z f' _ _ _ (by omega) rfl ⟨⟨by rw [hzr]; exact hlike.ok, by rw [hzr]; exact hg, by omega, by omega⟩, ?_⟩
       exact (hp.f7.f2.f6).tk 3
      ·have hno : ¬ rfLess y.n ((fst_ y.n + i : Nat) : Int) (S0.getD j default).ins := fun h => by
        have h2 := h.2
        rw [hF, ← hzm] at h2
        have h3 : z.n.ands.length = z.ands.length := rfl
        dsimp only at h2
        omega
       rw [pickL_no hno] at hpk
       refine h_cond_f rfl rfl ?_; skip
       refine IH2 (j + 1) _ _ _ (by omega) rfl ⟨⟨by omega, hpk⟩, hp.drop.drop⟩
    ·obtain rfl : j = S0.length := by omega
     have hpy : refS y.n i = y.n := by
      rw [← hpk, List.drop_of_length_le (by rw [insOf_len]; exact Nat.le_refl _)]; rfl
     rw [hpy] at hg
     refine h_cond_f rfl rfl ?_; skip
     exact IH (i + 1) y f' _ _ _ (by omega) rfl ⟨⟨hoky, hg, by omega, by omega⟩, (hp.f5.f5.f5).tk 3⟩
   ·have hyR : y.n = R := by
     rw [← hg]
     cases f with
     | zero => rfl
     | succ f => rw [refG, if_neg (by omega)]
    refine h_cond_f rfl rfl ?_; (repeat (first | (refine gLoad ?_; refine H_ldB hp rfl rfl ?_) | (refine gStore ?_; refine U_stBN hp rfl rfl rfl rfl ?_; intro w hp; refine ops_run nopre rfl ?_) | (refine gRetc ?_; refine R_ret1 hp rfl ?_)))
    exact ⟨y, ⟨hyR, rfl⟩, (hp.f1).tk 1⟩
 ·refine h_call rfl Tryz.func53 (by kernel_rfl) rfl ((implNetOk_h x _ hp.net hS).ff (netOkB_no hok)) ?_; rintro _ w ⟨rfl, hx⟩; have hp := hp.ext hx; refine ops_run nopre rfl ?_; skip
  refine h_cond_t rfl rfl ?_; (repeat (first | (refine gStore ?_; refine U_stBN hp rfl rfl rfl rfl ?_; intro w hp; refine ops_run nopre rfl ?_) | (refine gRetc ?_; refine R_ret1 hp rfl ?_)))
  rw [ifNet_no hok]
  exact ⟨nilA, ⟨rfl, rfl⟩, Hp.tk (hpNil hp) 1⟩
theorem implOptimize_x (x : NetA) (w0 : World) (hX : NetR w0 x) (hS : NetS x.n) (hW : NetW x.n) :
  Ret Tryz.prog 19 [x.v] w0 (fun v w => ∃ y, (y.n = optL x.n ∧ v = y.v) ∧ Hp w0 w [rNet y]) := by
 refine enter Tryz.S19ok _ _ rfl rfl (by show _ ≤ _; simp only [List.length]; decide) (fun C => ?_); have hp := Hp.nil w0; refine h_run rfl ?_; skip; (first | refine H_box hp ?_ | refine H_alloc hp rfl ?_); intro w b1 hx hp; refine ops_run nopre rfl ?_; skip; (first | refine H_box hp ?_ | refine H_alloc hp rfl ?_); intro w b2 hx hp; refine ops_run nopre rfl ?_; (repeat (refine H_ldB hp rfl rfl ?_))
 refine h_call rfl Tryz.func17 (by kernel_rfl) rfl (implRefactor_x x _ hp.net hS hW) ?_; rintro _ w ⟨a, ⟨ha, rfl⟩, hq⟩; have hx := hq.x; have hp := hp.call1 hq; refine ops_run nopre rfl ?_; skip
 have hae : a.n = refF x.n := ha
 have haok : NetOkP a.n := by rw [hae]; exact refF_ok x.n
 (first | refine H_box hp ?_ | refine H_alloc hp rfl ?_); intro w b3 hx hp; refine ops_run nopre rfl ?_; (repeat (first | (refine gLoad ?_; refine H_ldB hp rfl rfl ?_) | (refine gStore ?_; refine U_stBN hp rfl rfl rfl rfl ?_; intro w hp; refine ops_run nopre rfl ?_)))
 refine h_call rfl Tryz.func59 (by kernel_rfl) rfl (implBalance_x x _ hp.net hS hW) ?_; rintro _ w ⟨c, ⟨hc, rfl⟩, hq⟩; have hx := hq.x; have hp := hp.call1 hq; refine ops_run nopre rfl ?_; skip
 have hce : c.n = balF x.n := hc
 have hcok : NetOkP c.n := by rw [hce]; exact balF_ok' x.n
 refine h_call rfl Tryz.func17 (by kernel_rfl) rfl (implRefactor_x c _ hp.net hcok.S' hcok.W) ?_; rintro _ w ⟨d, ⟨hd, rfl⟩, hq⟩; have hx := hq.x; have hp := hp.call1 hq; refine ops_run nopre rfl ?_; skip
 have hde : d.n = refF (balF x.n) := by rw [← hce]; exact hd
 have hdok : NetOkP d.n := by rw [hde]; exact refF_ok _
 refine h_call rfl Tryz.func59 (by kernel_rfl) rfl (implBalance_x d _ hp.net hdok.S' hdok.W) ?_; rintro _ w ⟨b, ⟨hb, rfl⟩, hq⟩; have hx := hq.x; have hp := hp.call1 hq; refine ops_run nopre rfl ?_; skip
 have hbe : b.n = optB x.n := by
  have h : b.n = balF d.n := hb
  rw [h, hde]; rfl
 have hbok : NetOkP b.n := by rw [hbe]; exact balF_ok' _
 (first | refine H_box hp ?_ | refine H_alloc hp rfl ?_); intro w b4 hx hp; refine ops_run nopre rfl ?_; (repeat (refine U_stBN hp rfl rfl rfl rfl ?_; intro w hp; refine ops_run nopre rfl ?_))
 have hp : Hp w0 _ [_, _, _, _, _] := (hp.f6.f6.f6.f4.f4).tk 5
 refine N_draw hp (by kernel_rfl) (by kernel_rfl) rfl rfl ?_; (repeat (refine N_ldB rfl rfl rfl ?_))
 refine N_call Tryz.func60 (by kernel_rfl) rfl (fun F w hp => ?_); refine Ret.mono (implDepth_x b _ (rNet_r (hp.pre.take (rNet b))) hbok.S' hbok.W) ?_; rintro _ w ⟨rfl, hx⟩; have hp := hp.ext hx; refine ⟨fun _ => hp.sub (by (repeat (first | exact List.sublist_append_left _ _ | apply List.Sublist.cons))), _, hp, ?_⟩; clear hp; refine N_ops rfl rfl ?_; (repeat (refine N_ldB rfl rfl rfl ?_))
 refine N_call Tryz.func60 (by kernel_rfl) rfl (fun F w hp => ?_); refine Ret.mono (implDepth_x a _ (rNet_r (hp.pre.take (rNet a))) haok.S' haok.W) ?_; rintro _ w ⟨rfl, hx⟩; have hp := hp.ext hx; refine ⟨fun _ => hp.sub (by (repeat (first | exact List.sublist_append_left _ _ | apply List.Sublist.cons))), _, hp, ?_⟩; clear hp; refine N_ops rfl rfl ?_; skip
 by_cases h1 : depthL b.n < depthL a.n
 ·rw [decide_eq_true h1]
  (repeat (refine N_guard_n rfl rfl rfl ?_))
  refine N_end ?_; intro w hp C; refine h_run rfl ?_; skip
  have hopt : optP (refF x.n) (optB x.n) := by rw [← hae, ← hbe]; exact .inl h1
  rw [optL_yes hopt]
  refine h_cond_t rfl rfl ?_; (repeat (first | (refine gLoad ?_; refine H_ldB hp rfl rfl ?_) | (refine gStore ?_; refine U_stBN hp rfl rfl rfl rfl ?_; intro w hp; refine ops_run nopre rfl ?_) | (refine gRetc ?_; refine R_ret1 hp rfl ?_)))
  exact ⟨b, ⟨hbe, rfl⟩, (hp.f1).tk 1⟩
 ·rw [decide_eq_false h1]
  (repeat (first | (refine nGuard ?_; refine N_guard_y rfl rfl rfl ?_) | (refine nLoad ?_; refine N_ldB rfl rfl rfl ?_)))
  refine N_call Tryz.func60 (by kernel_rfl) rfl (fun F w hp => ?_); refine Ret.mono (implDepth_x b _ (rNet_r (hp.pre.take (rNet b))) hbok.S' hbok.W) ?_; rintro _ w ⟨rfl, hx⟩; have hp := hp.ext hx; refine ⟨fun _ => hp.sub (by (repeat (first | exact List.sublist_append_left _ _ | apply List.Sublist.cons))), _, hp, ?_⟩; clear hp; refine N_ops rfl rfl ?_; (repeat (first | (refine nGuard ?_; refine N_guard_y rfl rfl rfl ?_) | (refine nLoad ?_; refine N_ldB rfl rfl rfl ?_)))
  refine N_call Tryz.func60 (by kernel_rfl) rfl (fun F w hp => ?_); refine Ret.mono (implDepth_x a _ (rNet_r (hp.pre.take (rNet a))) haok.S' haok.W) ?_; rintro _ w ⟨rfl, hx⟩; have hp := hp.ext hx; refine ⟨fun _ => hp.sub (by (repeat (first | exact List.sublist_append_left _ _ | apply List.Sublist.cons))), _, hp, ?_⟩; clear hp; refine N_ops rfl rfl ?_; (repeat (refine N_guard_y rfl rfl rfl ?_))
  by_cases h2 : depthL b.n = depthL a.n
  ·rw [decide_eq_true h2]
   (repeat (first | (refine nGuard ?_; refine N_guard_y rfl rfl rfl ?_) | (refine nLoad ?_; refine N_ldB rfl rfl rfl ?_)))
   refine N_end ?_; intro w hp C; refine h_run rfl ?_; skip
   have hbl : b.n.ands.length = b.ands.length := rfl
   have hal : a.n.ands.length = a.ands.length := rfl
   refine h_cond_dec (fun h3 => ?_) (fun h3 => ?_)
   ·have hopt : optP (refF x.n) (optB x.n) := by rw [← hae, ← hbe]; exact .inr ⟨h2, by omega⟩
    rw [optL_yes hopt]
    refine h_cond_t rfl rfl ?_; (repeat (first | (refine gLoad ?_; refine H_ldB hp rfl rfl ?_) | (refine gStore ?_; refine U_stBN hp rfl rfl rfl rfl ?_; intro w hp; refine ops_run nopre rfl ?_) | (refine gRetc ?_; refine R_ret1 hp rfl ?_)))
    exact ⟨b, ⟨hbe, rfl⟩, (hp.f1).tk 1⟩
   ·have hopt : ¬ optP (refF x.n) (optB x.n) := by rw [← hae, ← hbe]; unfold optP; omega
    rw [optL_no hopt]
    refine h_cond_f rfl rfl ?_; (repeat (first | (refine gLoad ?_; refine H_ldB hp rfl rfl ?_) | (refine gStore ?_; refine U_stBN hp rfl rfl rfl rfl ?_; intro w hp; refine ops_run nopre rfl ?_) | (refine gRetc ?_; refine R_ret1 hp rfl ?_)))
    exact ⟨a, ⟨hae, rfl⟩, (hp.f3).tk 1⟩
  ·rw [decide_eq_false h2]
   (repeat (refine nGuard ?_; first | refine N_guard_y rfl rfl rfl ?_ | refine N_guard_n rfl rfl rfl ?_))
   refine N_end ?_; intro w hp C; refine h_run rfl ?_; skip
   have hopt : ¬ optP (refF x.n) (optB x.n) := by rw [← hae, ← hbe]; unfold optP; omega
   rw [optL_no hopt]
   refine h_cond_f rfl rfl ?_; (repeat (first | (refine gLoad ?_; refine H_ldB hp rfl rfl ?_) | (refine gStore ?_; refine U_stBN hp rfl rfl rfl rfl ?_; intro w hp; refine ops_run nopre rfl ?_) | (refine gRetc ?_; refine R_ret1 hp rfl ?_)))
   exact ⟨a, ⟨hae, rfl⟩, (hp.f3).tk 1⟩
end Go.Proofs
end
section
namespace Go.Proofs
open Go.Xw
set_option maxRecDepth 100000
set_option maxHeartbeats 1000000
attribute [local irreducible] Holds elemAddr
theorem heldAndS_h (a : Option Addr) (c n : Nat) (k : Int) (w0 : World) (ha : Rd w0 a 2 eII ((List.range n).map fun (i : Nat) => (k + 2 * (i : Int), k + 2 * (i : Int) + 1))) (hl : n < 1000000000) (hk : 0 ≤ k) (hk2 : k < 100000000000000) :
  Ret Tryz.prog 48 [.slice a n c, .int .i64 k] w0 (fun v w' => v = .int .i64 (k + 2 * n) ∧ Ext w0 w') := by
 have hlen : ((List.range n).map fun (i : Nat) => (k + 2 * (i : Int), k + 2 * (i : Int) + 1)).length = n := by simp
 refine enter Tryz.S48ok _ _ rfl rfl (by show _ ≤ _; simp only [List.length]; decide) (fun C => ?_); have hp := Hp.nil w0; refine h_run rfl ?_; skip
 refine h_loop [0, 1, 5] (fun i : Nat => [(0, .slice a n c), (1, .int .i64 (k + 2 * (i : Int))), (5, .int .i64 (i : Int))])
  (fun i w' => i ≤ n ∧ Hp w0 w' []) (fun i => n - i) 0 (by rw [show k + 2 * ((0 : Nat) : Int) = k by omega]; rfl) ⟨by omega, hp⟩ ?_
 rintro i w1 ⟨hi, hp⟩ IH C
 refine h_run rfl ?_; skip
 refine h_cond_dec (fun hlt => ?_) (fun hlt => ?_)
 ·have hlt' : i < n := by omega
  have hat := range_get (f := fun (i : Nat) => (k + 2 * (i : Int), k + 2 * (i : Int) + 1)) hlt'
  have hat1 : (((List.range n).map fun (i : Nat) => (k + 2 * (i : Int), k + 2 * (i : Int) + 1)).getD i default).1 = k + 2 * (i : Int) := by rw [hat]
  have hat2 : (((List.range n).map fun (i : Nat) => (k + 2 * (i : Int), k + 2 * (i : Int) + 1)).getD i default).2 = k + 2 * (i : Int) + 1 := by rw [hat]
  refine h_cond_t rfl rfl ?_; (repeat (refine H_ldFN hp rfl (by omega) rfl rfl ?_))
  refine h_cond_f (decide_eq_false (by rw [hat1]; simp)) rfl ?_; (repeat (refine H_ldFN hp rfl (by omega) rfl rfl ?_))
  refine h_cond_f (decide_eq_false (by rw [hat2]; simp)) rfl ?_; skip
  exact IH (i + 1) _ _ _ (by omega) (by rw [show k + 2 * ((i + 1 : Nat) : Int) = k + 2 * (i : Int) + 1 + 1 by omega]; rfl) ⟨by omega, hp⟩
 ·refine h_cond_f rfl rfl ?_; (repeat (refine R_ret ?_))
  obtain rfl : i = n := by omega
  exact ⟨rfl, hp.x⟩
theorem heldSeqS_h (a : Option Addr) (c : Nat) (R : List SeqA) (m : Nat) (hm : R.length = m) (k : Int) (w0 : World) (ha : SeqsR w0 a ((List.range m).map (mSq k R))) (hl : m ≤ 1048576) (hl2 : ∀ i, i < R.length → (R.getD i default).ins.length ≤ 1048576) (hk : 0 ≤ k) (hk2 : k < 10000000000000) :
  Ret Tryz.prog 47 [.slice a m c, .int .i64 k] w0 (fun v w' => v = .int .i64 (kSq k R m) ∧ Ext w0 w') := by
 subst hm
 have hlen : ((List.range R.length).map (mSq k R)).length = R.length := by simp
 have hrow := ha.row
 refine enter Tryz.S47ok _ _ rfl rfl (by show _ ≤ _; simp only [List.length]; decide) (fun C => ?_); have hp := Hp.nil w0; refine h_run rfl ?_; skip
 refine h_loop [0, 1, 5] (fun i : Nat => [(0, .slice a R.length c), (1, .int .i64 (kSq k R i)), (5, .int .i64 (i : Int))])
  (fun i w' => i ≤ R.length ∧ Hp w0 w' []) (fun i => R.length - i) 0 rfl ⟨by omega, hp⟩ ?_
 rintro i w1 ⟨hi, hp⟩ IH C
 have hkb := kSq_le (k := k) hl2 i hi
 refine h_run rfl ?_; skip
 refine h_cond_dec (fun hlt => ?_) (fun hlt => ?_)
 ·have hlt' : i < R.length := by omega
  have hat := range_get (f := mSq k R) hlt'
  have hat1 : (((List.range R.length).map (mSq k R)).getD i default).kind = kSq k R i := by rw [hat]; rfl
  have hat2 : (((List.range R.length).map (mSq k R)).getD i default).init = kSq k R i + 1 := by rw [hat]; rfl
  have hin := ha.at_ (i := i) (by omega)
  have hat3 : (((List.range R.length).map (mSq k R)).getD i default).ins = marks (kSq k R i + 1 + 1) (R.getD i default).ins.length := by rw [hat]; rfl
  have hl3 := hl2 i hlt'
  rw [hat3] at hin
  refine h_cond_t rfl rfl ?_; (repeat (refine H_ldFN hp rfl (by omega) rfl rfl ?_))
  refine h_cond_f (decide_eq_false (by rw [hat1]; simp)) rfl ?_; (repeat (refine H_ldFN hp rfl (by omega) rfl rfl ?_))
  refine h_cond_f (decide_eq_false (by rw [hat2]; simp)) rfl ?_; (repeat (refine H_ldFN hp rfl (by omega) rfl rfl ?_))
  refine gCall ?_
  rw [hat3, marks_len]
  refine h_call rfl Tryz.func49 (by kernel_rfl) rfl (heldIntS_h _ _ _ (kSq k R i + 1 + 1) _ hp.rd (by omega) (by omega) (by omega)) ?_; rintro _ w ⟨rfl, hx⟩; have hp := hp.ext hx; refine ops_run nopre rfl ?_; skip
  refine h_cond_f (decide_eq_false (by omega)) rfl ?_; skip
  exact IH (i + 1) _ _ _ (by omega) rfl ⟨by omega, hp⟩
 ·refine h_cond_f rfl rfl ?_; (repeat (refine R_ret ?_))
  obtain rfl : i = R.length := by omega
  exact ⟨rfl, hp.x⟩
theorem heldNet_h (x : NetA) (k : Int) (w0 : World) (hX : NetR w0 (mNet k x)) (hs : NetS x.n) (hk : 0 ≤ k) (hk2 : k < 1000000000000) :
  Ret Tryz.prog 15 [x.v, .int .i64 k] w0 (fun v w' => v = .int .i64 (kNet k x) ∧ Ext w0 w') := by
 have hb := kNet_le (k := k) hs
 obtain ⟨s1, s2, s3, s4⟩ := hs
 rw [x.slen] at s1 s2
 simp only [x.sins] at s2
 have s3 : x.ands.length ≤ 1048576 := s3
 have s4 : x.outs.length ≤ 1048576 := s4
 have h1 := kSq_le (k := k) s2 _ (Nat.le_refl _)
 have r1 : SeqsR w0 x.sa ((List.range x.seqs.length).map (mSq k x.seqs)) := hX.seqs
 have r2 : Rd w0 x.aa 2 eII ((List.range x.ands.length).map fun (i : Nat) => (kSq k x.seqs x.seqs.length + 2 * (i : Int), kSq k x.seqs x.seqs.length + 2 * (i : Int) + 1)) := hX.ands
 have r3 : Rd w0 x.oa 1 eI (marks (kSq k x.seqs x.seqs.length + 2 * x.ands.length) x.outs.length) := hX.outs
 refine enter Tryz.S15ok _ _ rfl rfl (by show _ ≤ _; simp only [List.length]; decide) (fun C => ?_); have hp := Hp.nil w0; refine h_run rfl ?_; skip; (first | refine H_box hp ?_ | refine H_alloc hp rfl ?_); intro w b2 hx hp; refine ops_run nopre rfl ?_; (repeat (refine H_ldB hp rfl rfl ?_))
 refine h_call rfl Tryz.func47 (by kernel_rfl) rfl (heldSeqS_h _ _ x.seqs _ rfl k _ (r1.ext hp.x) s1 s2 hk (by omega)) ?_; rintro _ w ⟨rfl, hx⟩; have hp := hp.ext hx; refine ops_run nopre rfl ?_; skip
 refine h_cond_f (decide_eq_false (by omega)) rfl ?_; (repeat (refine H_ldB hp rfl rfl ?_))
 refine h_call rfl Tryz.func48 (by kernel_rfl) rfl (heldAndS_h _ _ _ (kSq k x.seqs x.seqs.length) _ hp.rd (by omega) (by omega) (by omega)) ?_; rintro _ w ⟨rfl, hx⟩; have hp := hp.ext hx; refine ops_run nopre rfl ?_; skip
 refine h_cond_f (decide_eq_false (by omega)) rfl ?_; (repeat (refine H_ldB hp rfl rfl ?_))
 refine h_call rfl Tryz.func49 (by kernel_rfl) rfl (heldIntS_h _ _ _ (kSq k x.seqs x.seqs.length + 2 * x.ands.length) _ hp.rd (by omega) (by omega) (by omega)) ?_; rintro _ w ⟨rfl, hx⟩; have hp := hp.ext hx; refine ops_run nopre rfl ?_; skip
 refine h_cond_f (decide_eq_false (by omega)) rfl ?_; (repeat (refine R_ret ?_))
 exact ⟨rfl, hp.x⟩
end Go.Proofs
end
section
namespace Go.Proofs
open Go.Xw Go.Deep Go.ChangeShapes Go.WideShapes
set_option maxRecDepth 100000
theorem dec_int {H : Type} {enc : TypeId × Value → H} {P : Program} {w : World} {base : Nat} {spare : Nat → Bool} {held : Bool} {t : TypeId} {fuel : Nat} {cs : List Value} {y : DataW H × List MemPlace}
  (ht : P.underlying t = some (.int .i64)) (h : DataW.trod enc P w base spare held fuel t cs = some y) : ∃ x : Int, cs = eI x ∧ i64R x := by
 obtain ⟨n, h1, _, h2⟩ := DataW.trod_int ht h
 refine ⟨n, h1, ?_⟩
 have e1 : IntKind.i64.min = -9223372036854775808 := rfl
 have e2 : IntKind.i64.max = 9223372036854775807 := rfl
 simp only [Lit.wf, Bool.and_eq_true, decide_eq_true_eq] at h2
 unfold i64R
 omega
theorem dec_slice {H : Type} {enc : TypeId × Value → H} {P : Program} {w : World} {base : Nat} {spare : Nat → Bool} {held : Bool} {t e : TypeId} {fuel s : Nat} {cs : List Value} {y : DataW H × List MemPlace} {α : Type} [Inhabited α] {en : α → List Value} {Q : α → Prop}
  (ht : P.underlying t = some (.slice e)) (hs : P.cellsOf e = s) (he : EncOk en s) (hd : ∀ (n : Nat) (cs : List Value) (z : DataW H × List MemPlace), DataW.trod enc P w base spare held n e cs = some z → ∃ x, cs = en x ∧ Q x)
  (h : DataW.trod enc P w base spare held fuel t cs = some y) : ∃ (a : Option Addr) (X : List α) (c : Nat), cs = [.slice a X.length c] ∧ Sl w a X.length s (fL en X) ∧ X.length ≤ c ∧ X.length ≤ maxLen ∧ ∀ i, i < X.length → Q (X.getD i default) := by
 rcases open_slice ht h with ⟨h1, _⟩ | ⟨a, len, cap, m, n, D, Pl, hcs, hb, hl, hm, hmm, hx, hi⟩
 ·exact ⟨none, [], 0, h1, Sl.nil _ _ _ _, by simp, by simp, fun i hi => absurd hi (by simp)⟩
 ·have hlm : len ≤ m := by
   rw [hmm]
   by_cases h2 : spare a.block = true
   ·rw [if_pos h2]; exact hl
   ·rw [if_neg h2]; exact Nat.le_refl _
  rw [hs] at hi
  have key : ∀ i, ∃ x : α, i < m → (∀ j, j < s → w.cell? ((a.add (i * s)).add j) = (en x)[j]?) ∧ Q x := fun i => by
   by_cases him : i < m
   ·obtain ⟨cs', hc, ht'⟩ := hi i him
    obtain ⟨_, hcl, hat⟩ := World.cells?_some hc
    obtain ⟨x, hx, hq⟩ := hd _ _ _ ht'
    exact ⟨x, fun _ => ⟨fun j hj => by rw [hat j hj, hx], hq⟩⟩
   ·exact ⟨default, fun h => absurd h him⟩
  have hget : ∀ i, i < len → ((List.range len).map fun i => Classical.choose (key i)).getD i default = Classical.choose (key i) := fun i hi => by
   simp [List.getD_eq_getElem?_getD, hi]
  have hlen : ((List.range len).map fun i => Classical.choose (key i)).length = len := by simp
  refine ⟨some a, (List.range len).map fun i => Classical.choose (key i), cap, by rw [hlen]; exact hcs, ?_, by rw [hlen]; omega, by rw [hlen]; omega, fun i hi => ?_⟩
  ·rw [hlen]
   refine ⟨fun _ => by simp, fun i j hi hj => ?_⟩
   have h3 := (Classical.choose_spec (key i) (by omega)).1 j hj
   simp only [elemAddr, Option.getD_some, Int.toNat_natCast]
   rw [h3]
   have h4 : j < (en (Classical.choose (key i))).length := by rw [he.len]; exact hj
   simp only [fL, nthL_eq]
   rw [hget i hi, List.getElem?_eq_getElem h4]
  ·rw [hlen] at hi
   rw [hget i hi]
   exact (Classical.choose_spec (key i) (by omega)).2
theorem dec_fields {H : Type} {enc : TypeId × Value → H} {P : Program} {w : World} {base : Nat} {spare : Nat → Bool} {held : Bool} {t : TypeId} {fuel : Nat} {cs : List Value} {y : DataW H × List MemPlace} {fs : Array Field}
  (ht : P.underlying t = some (.struct fs)) (hone : oneCellFields P fs = true) (hC : P.cellsOf t = fs.size) (h : DataW.trod enc P w base spare held fuel t cs = some y) :
  cs.length = fs.size ∧ ∀ (i : Nat) (f : Field), fs[i]? = some f → ∃ (n : Nat) (v : Value) (z : DataW H × List MemPlace), cs[i]? = some v ∧ DataW.trod enc P w base spare held n f.type [v] = some z := by
 obtain ⟨ys, n', _, _, hlen, hyl, hf⟩ := DataW.trod_struct ht h
 rw [hC] at hlen
 refine ⟨hlen, fun i f hi => ?_⟩
 obtain ⟨ho, hk⟩ := hone_of hone i f hi
 have hil : i < fs.size := (Array.getElem?_eq_some_iff.1 hi).1
 have h1 := hf i f hi
 rw [ho, hk] at h1
 have hone' : (cs.drop i).take 1 = [cs[i]'(by omega)] := by
  rw [List.drop_eq_getElem_cons (by omega)]
  rfl
 rw [hone'] at h1
 have hys : ys[i]? = some (ys[i]'(by omega)) := List.getElem?_eq_getElem (by omega)
 exact ⟨n', _, _, List.getElem?_eq_getElem (by omega), h1.trans hys⟩
theorem dec_ints {H : Type} {enc : TypeId × Value → H} {w : World} {base : Nat} {spare : Nat → Bool} {held : Bool} {fuel : Nat} {cs : List Value} {y : DataW H × List MemPlace}
  (h : DataW.trod enc Tryz.prog w base spare held fuel 24 cs = some y) : ∃ (a : Option Addr) (X : List Int) (c : Nat), cs = [.slice a X.length c] ∧ Sl w a X.length 1 (fL eI X) ∧ X.length ≤ maxLen ∧ ∀ i, i < X.length → i64R (X.getD i default) := by
 obtain ⟨a, X, c, h1, h2, _, h3, h4⟩ := dec_slice Tryz.underlying24 (by kernel_rfl) eI_ok (fun _ _ _ hz => dec_int Tryz.underlying3 hz) h
 exact ⟨a, X, c, h1, h2, h3, h4⟩
theorem dec_and {H : Type} {enc : TypeId × Value → H} {w : World} {base : Nat} {spare : Nat → Bool} {held : Bool} {fuel : Nat} {cs : List Value} {y : DataW H × List MemPlace}
  (h : DataW.trod enc Tryz.prog w base spare held fuel 93 cs = some y) : ∃ p : Int × Int, cs = eII p ∧ i64R p.1 ∧ i64R p.2 := by
 obtain ⟨h1, h2⟩ := dec_fields Tryz.underlying93 (by kernel_rfl) (by kernel_rfl) h
 obtain ⟨n0, v0, z0, c0, t0⟩ := h2 0 _ rfl
 obtain ⟨n1, v1, z1, c1, t1⟩ := h2 1 _ rfl
 obtain ⟨x0, e0, r0⟩ := dec_int Tryz.underlying3 t0
 obtain ⟨x1, e1, r1⟩ := dec_int Tryz.underlying3 t1
 injection e0 with e0 _
 injection e1 with e1 _
 subst e0; subst e1
 refine ⟨(x0, x1), ?_, r0, r1⟩
 match cs, h1 with
 | [a, b], _ => simp at c0 c1; rw [c0, c1]; rfl
theorem dec_seq {H : Type} {enc : TypeId × Value → H} {w : World} {base : Nat} {spare : Nat → Bool} {held : Bool} {fuel : Nat} {cs : List Value} {y : DataW H × List MemPlace}
  (h : DataW.trod enc Tryz.prog w base spare held fuel 78 cs = some y) : ∃ s : SeqA, cs = eSq s ∧ Sl w s.ia s.ins.length 1 (fL eI s.ins) ∧ s.ins.length ≤ maxLen ∧ ∀ i, i < s.ins.length → i64R (s.ins.getD i default) := by
 obtain ⟨h1, h2⟩ := dec_fields Tryz.underlying78 (by kernel_rfl) (by kernel_rfl) h
 obtain ⟨n0, v0, z0, c0, t0⟩ := h2 0 _ rfl
 obtain ⟨n1, v1, z1, c1, t1⟩ := h2 1 _ rfl
 obtain ⟨n2, v2, z2, c2, t2⟩ := h2 2 _ rfl
 obtain ⟨x0, e0, r0⟩ := dec_int Tryz.underlying3 t0
 obtain ⟨x1, e1, r1⟩ := dec_int Tryz.underlying3 t1
 obtain ⟨a, X, c, e2, hs, hm, hr⟩ := dec_ints t2
 injection e0 with e0 _
 injection e1 with e1 _
 injection e2 with e2 _
 subst e0; subst e1; subst e2
 refine ⟨⟨x0, x1, X, a, c⟩, ?_, hs, hm, hr⟩
 match cs, h1 with
 | [a, b, c], _ => simp at c0 c1 c2; rw [c0, c1, c2]; rfl
theorem dec_net {H : Type} {enc : TypeId × Value → H} {w : World} {base : Nat} {spare : Nat → Bool} {held : Bool} {fuel : Nat} {cs : List Value} {y : DataW H × List MemPlace}
  (h : DataW.trod enc Tryz.prog w base spare held fuel 26 cs = some y) : ∃ x : NetA, cs = x.cs ∧ NetR w x ∧ NetM x.n ∧ NetW x.n ∧ i64R x.inputs := by
 obtain ⟨h1, h2⟩ := dec_fields Tryz.underlying26 (by kernel_rfl) (by kernel_rfl) h
 obtain ⟨n0, v0, z0, c0, t0⟩ := h2 0 _ rfl
 obtain ⟨n1, v1, z1, c1, t1⟩ := h2 1 _ rfl
 obtain ⟨n2, v2, z2, c2, t2⟩ := h2 2 _ rfl
 obtain ⟨n3, v3, z3, c3, t3⟩ := h2 3 _ rfl
 obtain ⟨x0, e0, r0⟩ := dec_int Tryz.underlying3 t0
 obtain ⟨sa, S, sc, e1, hs1, _, hm1, hr1⟩ := dec_slice Tryz.underlying22 (by kernel_rfl) eSq_ok (fun _ _ _ hz => dec_seq hz) t1
 obtain ⟨aa, Y, ac, e2, hs2, hcap, hm2, hr2⟩ := dec_slice Tryz.underlying23 (by kernel_rfl) eII_ok (fun _ _ _ hz => dec_and hz) t2
 obtain ⟨oa, Z, oc, e3, hs3, hm3, hr3⟩ := dec_ints t3
 injection e0 with e0 _
 injection e1 with e1 _
 injection e2 with e2 _
 injection e3 with e3 _
 subst e0; subst e1; subst e2; subst e3
 refine ⟨⟨x0, S, sa, sc, Y, aa, ac, Z, oa, oc⟩, ?_, ⟨⟨⟨hs1⟩, fun s hs => ?_⟩, ⟨hs2⟩, ⟨hs3⟩, hcap⟩, ⟨?_, ?_, ?_, ?_⟩, ⟨hr3, ?_, hr2⟩, r0⟩
 ·match cs, h1 with
  | [a, b, c, d], _ => simp at c0 c1 c2 c3; rw [c0, c1, c2, c3]; rfl
 ·obtain ⟨i, hi, rfl⟩ := List.getElem_of_mem hs
  have := (hr1 i hi).1
  rw [List.getD_eq_getElem?_getD, List.getElem?_eq_getElem hi] at this
  exact ⟨this⟩
 ·show ((seqsOf S).length : Int) ≤ _
  rw [seqsOf_len]; unfold maxLen at hm1; omega
 ·intro i hi
  show (((seqsOf S).getD i default).ins.length : Int) ≤ _
  have hi : i < (seqsOf S).length := hi
  rw [seqsOf_len] at hi
  have := (hr1 i hi).2.1
  rw [seqsOf_get]
  show ((S.getD i default).ins.length : Int) ≤ _
  unfold maxLen at this; omega
 ·show (Y.length : Int) ≤ _
  unfold maxLen at hm2; omega
 ·show (Z.length : Int) ≤ _
  unfold maxLen at hm3; omega
 ·intro i hi j hj
  have hi : i < (seqsOf S).length := hi
  have hj : j < ((seqsOf S).getD i default).ins.length := hj
  show i64R (((seqsOf S).getD i default).ins.getD j default)
  rw [seqsOf_len] at hi
  rw [seqsOf_get] at hj ⊢
  exact (hr1 i hi).2.2 j hj
end Go.Proofs
end
section
namespace Go.Xw
open Go.RowKit
theorem row_sl {k : IntKind} {enc : Int → List Value} (henc : ∀ x, enc x = [.int k x]) {w : World} {a : Option Addr} {len cap : Nat} {zs : List Int}
  (h : (a = none ∧ len = 0 ∧ cap = 0 ∧ zs = []) ∨ ∃ x, a = some x ∧ len ≤ cap ∧ cap ≤ maxLen ∧ zs.length = cap ∧ (∀ i, i < zs.length → w.cell? (x.add i) = some (.int k (zs.getD i 0))) ∧ ∀ n ∈ zs, (Lit.int k n).wf = true) :
  ∃ xs : List Int, xs.length = len ∧ Sl w a xs.length 1 (fL enc xs) ∧ ∀ x ∈ xs, (Lit.int k x).wf = true := by
 rcases h with ⟨rfl, rfl, _, _⟩ | ⟨x, rfl, hl, _, hz, hc, hw⟩
 ·exact ⟨[], rfl, Sl.nil _ _ _ _, fun x hx => by simp at hx⟩
 ·refine ⟨zs.take len, by simp; omega, ⟨fun _ => by simp, fun i j hi hj => ?_⟩, fun x hx => hw x (List.mem_of_mem_take hx)⟩
  obtain rfl : j = 0 := by omega
  simp only [List.length_take] at hi
  have h1 := hc i (by omega)
  have ha : (elemAddr (some x) 1 (i : Int)).add 0 = x.add i := by
   simp [elemAddr, Addr.add]
  rw [ha, h1]
  simp only [fL, henc, nthL]
  congr 2
  rw [List.getD_eq_getElem?_getD, List.getD_eq_getElem?_getD, List.getElem?_take, if_pos (by omega)]
  rfl
theorem wf_i64 {x : Int} (h : (Lit.int .i64 x).wf = true) : -9223372036854775808 ≤ x ∧ x ≤ 9223372036854775807 := by
 have h1 : IntKind.i64.min = -9223372036854775808 := rfl
 have h2 : IntKind.i64.max = 9223372036854775807 := rfl
 simp only [Lit.wf, Bool.and_eq_true, decide_eq_true_eq] at h
 omega
theorem wf_u8 {x : Int} (h : (Lit.int .u8 x).wf = true) : 0 ≤ x ∧ x ≤ 255 := by
 have h1 : IntKind.u8.min = 0 := rfl
 have h2 : IntKind.u8.max = 255 := rfl
 simp only [Lit.wf, Bool.and_eq_true, decide_eq_true_eq] at h
 omega
theorem law_calls {P : Program} {f : FuncId} {args : List Value} {w : World} (h : Ret P f args w fun v w' => v = .bool true ∧ Ext w w') :
  Calls P f ⟨args⟩ w fun e w' => e = .returned (.bool true) ∧ Below w.heap.size w w' :=
 Calls.mono h fun _ _ ⟨_, he, hv, hx⟩ => ⟨by rw [he, hv], hx⟩
end Go.Xw
end
