/- The contracts of the reference's functions that refactor; each under its stated conditions. -/
import Derived.Test.YtifjicajbgoamaaGreatPrmS
import Derived.Test.YtifjicajbgoamaaGreatCovT
import Derived.Test.YtifjicajbgoamaaGreatBalA
import Derived.Test.YtifjicajbgoamaaGreatBalS
import Derived.Test.YtifjicajbgoamaaGreatEnumT
import Derived.Test.YtifjicajbgoamaaGreatGraph4
set_option linter.all false
namespace Go.Proofs
open Go.Xw
set_option maxRecDepth 100000
set_option maxHeartbeats 4000000
attribute [local irreducible] Holds elemAddr
theorem l07Bit_d (b : Bool) (w : World) : Ret Tryz.prog 33 [.bool b] w (fun v w' => v = .int .i64 (if b = true then 1 else 0) ∧ Ext w w') := by
 have hp := Hp.nil w
 refine enter Tryz.S33ok _ _ rfl rfl (by show _ ≤ _; simp only [List.length]; decide) (fun C => ?_)
 refine h_run rfl ?_
 cases b
 ·refine h_cond_f rfl rfl ?_; (repeat (refine R_ret ?_))
  exact ⟨rfl, hp.x⟩
 ·refine h_cond_t rfl rfl ?_; (repeat (refine R_ret ?_))
  exact ⟨rfl, hp.x⟩
theorem specRefactorAt_x (x : NetA) (k : Int) (ca : Option Addr) (cc : Nat) (cut : List Int) (w0 : World) (hX : NetR w0 x) (hS : NetS x.n) (hW : NetW x.n) (hK : i64R k) (hR : Rd w0 ca 1 eI cut) (hL : cut.length ≤ 1048576) (hV : ∀ i, i < cut.length → i64R (cut.getD i default)) :
  Ret Tryz.prog 7 [x.v, .int .i64 k, .slice ca cut.length cc] w0 (fun v w => ∃ y, (y.n = (rfF x.n k cut).1 ∧ v = .tuple ⟨[y.v, .bool (rfF x.n k cut).2]⟩) ∧ Hp w0 w [rNet y]) := by
 refine enter Tryz.S7ok _ _ rfl rfl (by show _ ≤ _; simp only [List.length]; decide) (fun C => ?_); have hp := Hp.nil w0; refine h_run rfl ?_; skip; (first | refine H_box hp ?_ | refine H_alloc hp rfl ?_); intro w b3 hx hp; refine ops_run nopre rfl ?_; skip; (first | refine H_box hp ?_ | refine H_alloc hp rfl ?_); intro w b6 hx hp; refine ops_run nopre rfl ?_; (repeat (refine H_ldB hp rfl rfl ?_))
 by_cases h1 : NetOkP x.n ∧ (0 ≤ k ∧ k < nodesL x.n) ∧ cutP x.n k.toNat cut
 ·have hok := h1.1
  have hn := hok.nums
  have n1 := hn.n1
  have n4 := hn.n2
  have f2 := hn.f2
  have hnd := hok.nodes
  have hsz := hok.size'
  have hal : x.n.ands.length = x.ands.length := rfl
  have hm := h1.2.2.1.1
  refine h_call rfl Tryz.func23 (by kernel_rfl) rfl ((specCutOk_x x k ca cc cut _ hp.net hS hW hK hp.rd hL hV).tt (cutOkB_yes h1)) ?_; rintro _ w ⟨rfl, hx⟩; have hp := hp.ext hx; refine ops_run nopre rfl ?_; (repeat (first | (refine gGuard ?_; refine h_guard_y rfl nopre rfl ?_) | (refine gLoad ?_; refine H_ldB hp rfl rfl ?_)))
  refine h_call rfl Tryz.func24 (by kernel_rfl) rfl (l08First_h x _ hok.b) ?_; rintro _ w ⟨rfl, hx⟩; have hp := hp.ext hx; refine ops_run nopre rfl ?_; (repeat (refine h_guard_y rfl nopre rfl ?_))
  by_cases h2 : k < firstAndL x.n
  ·have hbad : ¬ rfP x.n k cut := fun h => by have h3 := h.2.1; omega
   rw [decide_eq_true h2]
   (repeat (refine h_guard_n rfl nopre rfl ?_))
   refine h_cond_t rfl rfl ?_; (repeat (refine H_ldB hp rfl rfl ?_))
   rw [rfF_bad hbad]
   refine h_call rfl Tryz.func26 (by kernel_rfl) rfl (specCopyNet_h x _ hp.net hS) ?_; rintro _ w ⟨z, ⟨hz, rfl⟩, hq⟩; have hx := hq.x; have hp := hp.call1 hq; refine ops_run nopre rfl ?_; (repeat (first | (refine gStore ?_; refine U_stBN hp rfl rfl rfl rfl ?_; intro w hp; refine ops_run nopre rfl ?_) | (refine gRetc ?_; refine R_ret2v hp rfl ?_)))
   exact ⟨z, ⟨hz, rfl⟩, Hp.tk hp 1⟩
  ·rw [decide_eq_false h2]
   (repeat (refine h_guard_y rfl nopre rfl ?_))
   by_cases h3 : k ∈ cut
   ·have hbad : ¬ rfP x.n k cut := fun h => h.2.2 h3
    refine h_call rfl Tryz.func25 (by kernel_rfl) rfl ((l13Has_h ca cc _ cut rfl k _ hp.rd (by omega)).yes h3) ?_; rintro _ w ⟨rfl, hx⟩; have hp := hp.ext hx; refine ops_run nopre rfl ?_; skip
    refine h_cond_t rfl rfl ?_; (repeat (refine H_ldB hp rfl rfl ?_))
    rw [rfF_bad hbad]
    refine h_call rfl Tryz.func26 (by kernel_rfl) rfl (specCopyNet_h x _ hp.net hS) ?_; rintro _ w ⟨z, ⟨hz, rfl⟩, hq⟩; have hx := hq.x; have hp := hp.call1 hq; refine ops_run nopre rfl ?_; (repeat (first | (refine gStore ?_; refine U_stBN hp rfl rfl rfl rfl ?_; intro w hp; refine ops_run nopre rfl ?_) | (refine gRetc ?_; refine R_ret2v hp rfl ?_)))
    exact ⟨z, ⟨hz, rfl⟩, Hp.tk hp 1⟩
   ·have hP : rfP x.n k cut := ⟨h1, by omega, h3⟩
    obtain ⟨q, rfl⟩ : ∃ q : Nat, k = ((fst_ x.n + q : Nat) : Int) := ⟨k.toNat - fst_ x.n, by omega⟩
    have hqq : ((fst_ x.n + q : Nat) : Int).toNat - fst_ x.n = q := by omega
    have hbel : rfBel x.n q cut := by have := rfP_bel hP; rw [hqq] at this; exact this
    obtain ⟨b, hb⟩ : ∃ b, b = tbTo x.n cut (fst_ x.n + q) (2 ^ cut.length) := ⟨_, rfl⟩
    have htl := tbTo_lt x.n cut (fst_ x.n + q) (2 ^ cut.length)
    rw [← hb] at htl
    obtain ⟨h0, h1b⟩ := htl
    have hnt := notT_b h0 h1b
    have et : eII (tabF x.n ((fst_ x.n + q : Nat) : Int) cut) = [.int .i64 (cut.length : Int), .int .i64 b] := by
     unfold tabF; rw [if_pos (cutOkB_yes h1), Int.toNat_natCast, hb]; rfl
    refine h_call rfl Tryz.func25 (by kernel_rfl) rfl ((l13Has_h ca cc _ cut rfl ((fst_ x.n + q : Nat) : Int) _ hp.rd (by omega)).no h3) ?_; rintro _ w ⟨rfl, hx⟩; have hp := hp.ext hx; refine ops_run nopre rfl ?_; skip
    refine h_cond_f rfl rfl ?_; (repeat (refine H_ldB hp rfl rfl ?_))
    refine h_call rfl Tryz.func27 (by kernel_rfl) rfl (specCutTable_x x ((fst_ x.n + q : Nat) : Int) ca cc cut _ hp.net hS hW hK hp.rd hL hV) ?_; rintro _ w ⟨rfl, hx⟩; have hp := hp.ext hx; refine ops_run nopre rfl ?_; skip
    rw [et]
    (first | refine H_box hp ?_ | refine H_alloc hp rfl ?_); intro w b8 hx hp; refine ops_run nopre rfl ?_; (repeat (first | (refine gLoad ?_; refine H_ldB hp rfl rfl ?_) | (refine gStore ?_; refine U_stBN hp rfl rfl rfl rfl ?_; intro w hp; refine ops_run nopre rfl ?_)))
    refine h_call rfl Tryz.func28 (by kernel_rfl) rfl (specMinimalCover_h cut.length b _ hm h0 h1b) ?_; rintro _ w ⟨a1, c1, rfl, hq⟩; have hx := hq.x; have hp := hp.call1 hq; refine ops_run nopre rfl ?_; (repeat (refine H_ldB hp rfl rfl ?_))
    refine h_call rfl Tryz.func29 (by kernel_rfl) rfl (specTableNot_h cut.length b _ hm h0 h1b) ?_; rintro _ w ⟨rfl, hx⟩; have hp := hp.ext hx; refine ops_run nopre rfl ?_; skip
    refine h_call rfl Tryz.func28 (by kernel_rfl) rfl (specMinimalCover_h cut.length (notT cut.length b) _ hm hnt.1 hnt.2) ?_; rintro _ w ⟨a2, c2, rfl, hq⟩; have hx := hq.x; have hp := hp.call1 hq; refine ops_run nopre rfl ?_; skip
    have hk1 := minL_ok hm b
    have hk2 := minL_ok hm (notT cut.length b)
    refine N_draw hp (by kernel_rfl) (by kernel_rfl) rfl rfl ?_; (repeat (refine N_ldB rfl rfl rfl ?_))
    refine N_call Tryz.func30 (by kernel_rfl) rfl (fun F w hp => ?_); refine Ret.mono (specCoverLiterals_h cut.length hm a2 c2 _ (minL cut.length (notT cut.length b)) rfl hk2 _ hp.pre.rd) ?_; rintro _ w ⟨rfl, hx⟩; have hp := hp.ext hx; refine ⟨fun _ => hp.sub (by (repeat (first | exact List.sublist_append_left _ _ | apply List.Sublist.cons))), _, hp, ?_⟩; clear hp; refine N_ops rfl rfl ?_; (repeat (refine N_ldB rfl rfl rfl ?_))
    refine N_call Tryz.func30 (by kernel_rfl) rfl (fun F w hp => ?_); refine Ret.mono (specCoverLiterals_h cut.length hm a1 c1 _ (minL cut.length b) rfl hk1 _ hp.pre.rd) ?_; rintro _ w ⟨rfl, hx⟩; have hp := hp.ext hx; refine ⟨fun _ => hp.sub (by (repeat (first | exact List.sublist_append_left _ _ | apply List.Sublist.cons))), _, hp, ?_⟩; clear hp; refine N_ops rfl rfl ?_; skip
    refine N_end ?_; intro w hp C; refine h_run rfl ?_; skip
    have hcok := cvrL_ok hm b
    have hfl01 := cvrF_01 cut.length b
    obtain ⟨K, hK2⟩ : ∃ K, K = cvrL cut.length b := ⟨_, rfl⟩
    obtain ⟨fl, hfl⟩ : ∃ fl, fl = cvrF cut.length b := ⟨_, rfl⟩
    have hKc := hK2.symm
    have hfc := hfl.symm
    rw [← hK2] at hcok
    rw [← hfl] at hfl01
    by_cases hl : clL cut.length (minL cut.length (notT cut.length b)) < clL cut.length (minL cut.length b)
    ·have hK3 : minL cut.length (notT cut.length b) = K := by rw [hK2]; unfold cvrL; rw [if_pos hl]
     have hfl1 : fl = 1 := by rw [hfl]; unfold cvrF; rw [if_pos hl]
     rw [decide_eq_true hl]
     obtain ⟨fB, hfB⟩ : ∃ fB, fB = true := ⟨_, rfl⟩
     have hfBi : (if fB = true then (1 : Int) else 0) = fl := by rw [hfB, hfl1]; rfl
     refine h_cond_t rfl rfl ?_; (repeat (refine H_ldB hp rfl rfl ?_))
     have hp : Hp w0 _ [_, _, _] := (hp.f4.f4.f2).tk 3
     rw [hK3] at hp ⊢
     obtain ⟨aK, haK⟩ : ∃ aK, aK = a2 := ⟨_, rfl⟩
     obtain ⟨cK, hcK⟩ : ∃ cK, cK = c2 := ⟨_, rfl⟩
     rw [← haK, ← hcK] at hp ⊢
     refine h_call rfl Tryz.func31 (by kernel_rfl) rfl (l10Empty_h x _ hp.net hok hS) ?_; rintro _ w ⟨y0, b5, c5, ⟨hy0, rfl⟩, hq⟩; refine ops_run nopre rfl ?_; skip
     have hp := hp.call2 hq
     skip
     (first | refine H_box hp ?_ | refine H_alloc hp rfl ?_); intro w b12 hx hp; refine ops_run nopre rfl ?_; (repeat (refine U_stBN hp rfl rfl rfl rfl ?_; intro w hp; refine ops_run nopre rfl ?_))
     refine h_loop5 [1, 2, 3, 6, 9, 11, 12, 13, 14] (fun (i : Nat) (S : List (Int × Int) × List Int) (_ : NetA) (tb : Option Addr) (tc : Nat) => [(1, .int .i64 ((fst_ x.n + q : Nat) : Int)), (2, .slice ca cut.length cc), (3, .pointer (some ⟨b3, 0, none⟩)), (6, .pointer (some ⟨b6, 0, none⟩)), (9, .slice aK K.length cK), (11, .bool fB), (12, .pointer (some ⟨b12, 0, none⟩)), (13, .slice tb S.2.length tc), (14, .int .i64 (i : Int))])
      (fun i S y tb tc w' => (i ≤ x.ands.length ∧ rfTo x.n q cut K fl i = some S ∧ y.n = zerL x.n S.1) ∧ Hp w0 w' [rB b12 31 y.cs, rNet y, rO 3 1 eI tb tc S.2, rO 87 2 eII aK cK K, rB b6 31 (cellsV Tryz.ti31.zero), rB b3 31 x.cs])
      (fun i _ _ _ _ => x.ands.length - i) 0 ([], leafL x.n) y0 b5 c5 (by first | rfl | (rw [hfB]; rfl)) ⟨⟨by omega, rfl, hy0⟩, hp⟩ ?_
     clear hp hq
     rintro i S y tb tc w1 ⟨⟨hi, hS2, hy⟩, hp⟩ IH C
     have r := rfTo_ok hok hbel hfl01 i hi S hS2
     have hB := r.b
     have rl := r.len
     have f1 := hB.f1
     have f3 := hB.alen
     have hzok := zerL_ok hok hB
     have hyok : NetOkP y.n := by rw [hy]; exact hzok
     have hcap := (hp.f2).own.cap
     refine h_run rfl ?_; (repeat (refine H_ldB hp rfl rfl ?_))
     refine h_cond_dec (fun hlt => ?_) (fun hlt => ?_)
     ·have hlt' : i < x.ands.length := by omega
      obtain ⟨q1, q2, q3, q4⟩ := hok.and_ hlt'
      have hnone : (rfS x.n q cut K fl S i).2 < 0 → rfF x.n ((fst_ x.n + q : Nat) : Int) cut = (x.n, false) := fun hneg => by
       refine rfF_no hP ?_
       rw [hqq]
       unfold rfN
       have h1 := rfTo_stay (rfTo_no hS2 hneg) (m := x.n.ands.length) (by omega)
       rw [show (tabL x.n cut (fst_ x.n + q)).2 = b from hb.symm, hKc, hfc, h1]; rfl
      have hstep : ¬ (rfS x.n q cut K fl S i).2 < 0 → rfTo x.n q cut K fl (i + 1) = some ((rfS x.n q cut K fl S i).1, S.2 ++ [(rfS x.n q cut K fl S i).2]) := fun h => rfTo_yes hS2 h
      refine h_cond_t rfl rfl ?_; (repeat (refine H_ldB hp rfl rfl ?_))
      (first | refine H_box hp ?_ | refine H_alloc hp rfl ?_); intro w b15 hx hp; refine ops_run nopre rfl ?_; (repeat (first | (refine gLoad ?_; refine H_ldB hp rfl rfl ?_) | (refine gStore ?_; refine U_stBN hp rfl rfl rfl rfl ?_; intro w hp; refine ops_run nopre rfl ?_)))
      refine h_call rfl Tryz.func24 (by kernel_rfl) rfl (l08First_h x _ hok.b) ?_; rintro _ w ⟨rfl, hx⟩; have hp := hp.ext hx; refine ops_run nopre rfl ?_; skip
      refine h_cond_dec (fun hk => ?_) (fun hk => ?_)
      ·obtain rfl : i = q := by omega
       have hll := rfLits_ok hbel hB rl
       have hg := rfV_good hok hbel (C := K) hB rl
       have hgb := hg.b
       have hsi : rfS x.n i cut K fl S i = ((rfV x.n cut K S).1.ands, if (rfV x.n cut K S).2 < 0 then -1 else xorL (rfV x.n cut K S).2 fl) := by unfold rfS; rw [if_pos rfl]
       have hrl := rfLits_len cut S.2
       refine h_cond_t rfl rfl ?_; (repeat (refine U_litI hp rfl rfl rfl rfl rfl rfl rfl rfl rfl rfl ?_; intro w _ hx hp; refine ops_run nopre rfl ?_))
       refine h_loop3 [1, 2, 3, 6, 9, 11, 12, 13, 14, 15, 17, 18] (fun (j : Nat) (d : Option Addr) (e : Nat) => [(1, .int .i64 ((fst_ x.n + i : Nat) : Int)), (2, .slice ca cut.length cc), (3, .pointer (some ⟨b3, 0, none⟩)), (6, .pointer (some ⟨b6, 0, none⟩)), (9, .slice aK K.length cK), (11, .bool fB), (12, .pointer (some ⟨b12, 0, none⟩)), (13, .slice tb S.2.length tc), (14, .int .i64 (i : Int)), (15, .pointer (some ⟨b15, 0, none⟩)), (17, .slice d ((rfLits cut S.2).take j).length e), (18, .int .i64 (j : Int))])
        (fun j d e w' => j ≤ cut.length ∧ Hp w0 w' [rO 3 1 eI d e ((rfLits cut S.2).take j), rB b15 31 y.cs, rB b12 31 y.cs, rNet y, rO 3 1 eI tb tc S.2, rO 87 2 eII aK cK K, rB b6 31 (cellsV Tryz.ti31.zero), rB b3 31 x.cs])
        (fun j _ _ => cut.length - j) 0 _ _ rfl ⟨by omega, hp⟩ ?_
       clear hp
       rintro j d e w2 ⟨hj, hp⟩ IH2 C2
       have htl : ((rfLits cut S.2).take j).length = j := by rw [List.length_take]; omega
       refine h_run rfl ?_; skip
       refine h_cond_dec (fun hlt2 => ?_) (fun hlt2 => ?_)
       ·have hlt2' : j < cut.length := by omega
        have hcj := hbel.2 (cut.getD j default) (getD_mem hlt2')
        have hnec : ca ≠ none := nn_of hp (X := cut) (by omega)
        have hnet : tb ≠ none := nn_of hp (X := S.2) (by omega)
        have e1 : (rfLits cut S.2).take (j + 1) = (rfLits cut S.2).take j ++ [S.2.getD (cut.getD j default).toNat default] := by
         rw [take_snoc (by omega)]
         congr 2
         exact map_getD (f := fun c : Int => S.2.getD c.toNat default) hlt2'
        refine h_cond_t rfl rfl ?_; (repeat (first | (refine gLoad ?_; first | refine H_ldEN hp rfl (by omega) rfl rfl ?_ | refine H_ldE hp rfl (by omega) (by omega) rfl rfl ?_) | (refine gBuild ?_; refine U_litI hp rfl rfl rfl rfl rfl rfl rfl rfl rfl rfl ?_; intro w _ hx hp; refine ops_run nopre rfl ?_)))
        refine U_append hp rfl rfl rfl rfl rfl rfl rfl (by decide) rfl (by first | omega | (simp only [List.length_append, List.length_cons, List.length_nil, List.length_take, List.length_drop, List.length_set, List.length_replicate, List.length_map]; omega)) rfl rfl ?_; intro d' e' w hp hnil; refine ops_run nopre rfl ?_; skip
        refine IH2 (j + 1) d' e' _ _ _ (by omega) (by rw [e1]; rfl) ⟨by omega, ?_⟩
        rw [e1]
        exact hp.drop
       ·obtain rfl : j = cut.length := by omega
        have htk : (rfLits cut S.2).take cut.length = rfLits cut S.2 := List.take_of_length_le (by omega)
        rw [htk] at hp ⊢
        have hli : ∀ j, j < (rfLits cut S.2).length → i64R ((rfLits cut S.2).getD j default) := fun j hj => by
         have h1 := hll _ (getD_mem hj)
         rw [zerL_nodes] at h1
         exact h1.i64 (by omega)
        have hKi : ∀ j, j < K.length → i64R (K.getD j default).1 ∧ i64R (K.getD j default).2 := fun j hj => by
         obtain ⟨_, h1, h2, _⟩ := hcok.2.2 _ (getD_mem hj)
         have h3 := pow_small (m := (cut.length : Int)) (by omega)
         unfold i64R; omega
        have hcF : covF (zerL x.n S.1) (rfLits cut S.2) K = addF (zerL x.n S.1) (rfLits cut S.2) (rfV x.n cut K S) := covF_yes (by rw [hrl]; exact hcok)
        refine h_cond_f rfl rfl ?_; (repeat (refine H_ldB hp rfl rfl ?_))
        refine h_call rfl Tryz.func32 (by kernel_rfl) rfl (specAddCover_x y d e (rfLits cut S.2) aK cK K _ (rNet_r (hp.take (rNet y))) hyok.S' hyok.W hp.rd (by omega) hli hp.rd (by have := hcok.2.1; omega) hKi) ?_; rintro _ w ⟨z, ⟨hz, rfl⟩, hq⟩; have hx := hq.x; have hp := hp.call1 hq; refine ops_run nopre rfl ?_; (repeat (refine U_stBN hp rfl rfl rfl rfl ?_; intro w hp; refine ops_run nopre rfl ?_))
        rw [hy, hcF] at hz ⊢
        by_cases hneg : (rfV x.n cut K S).2 < 0
        ·have hse : (rfS x.n i cut K fl S i).2 < 0 := by rw [hsi]; dsimp only; rw [if_pos hneg]; decide
         rw [addF_neg ⟨hzok, hll⟩ hneg] at hz ⊢
         skip
         refine h_cond_f (decide_eq_false (by show ¬ (0 : Int) ≤ -1; decide)) rfl ?_; skip
         refine h_cond_t rfl rfl ?_; (repeat (refine H_ldB hp rfl rfl ?_))
         refine h_call rfl Tryz.func26 (by kernel_rfl) rfl (specCopyNet_h x _ hp.net hS) ?_; rintro _ w ⟨u, ⟨hu, rfl⟩, hq⟩; have hx := hq.x; have hp := hp.call1 hq; refine ops_run nopre rfl ?_; (repeat (first | (refine gStore ?_; refine U_stBN hp rfl rfl rfl rfl ?_; intro w hp; refine ops_run nopre rfl ?_) | (refine gRetc ?_; refine R_ret2v hp rfl ?_)))
         rw [hnone hse]
         exact ⟨u, ⟨hu, rfl⟩, Hp.tk hp 1⟩
        ·have hsi2 : rfS x.n i cut K fl S i = ((rfV x.n cut K S).1.ands, xorL (rfV x.n cut K S).2 fl) := by rw [hsi, if_neg hneg]
         have hx := xorL_litP (hg.litP hneg) (by have := hg.ok.count; omega) hfl01
         have hx' := hx
         unfold litP at hx'
         rw [addF_yes ⟨hzok, hll⟩ hneg] at hz ⊢
         skip
         refine h_cond_t (decide_eq_true (by omega)) rfl ?_; skip
         refine h_call rfl Tryz.func33 (by kernel_rfl) rfl (l07Bit_d fB _) ?_; rintro _ w ⟨rfl, hx⟩; have hp := hp.ext hx; refine ops_run nopre rfl ?_; skip
         rw [hfBi]
         refine h_cond_f (decide_eq_false (by show ¬ xorL (rfV x.n cut K S).2 fl < 0; omega)) rfl ?_; (repeat (first | (refine gLoad ?_; refine H_ldB hp rfl rfl ?_) | (refine gStore ?_; refine U_stBN hp rfl rfl rfl rfl ?_; intro w hp; refine ops_run nopre rfl ?_) | (refine gBuild ?_; refine U_litI hp rfl rfl rfl rfl rfl rfl rfl rfl rfl rfl ?_; intro w _ hx hp; refine ops_run nopre rfl ?_)))
         refine U_append hp rfl rfl rfl rfl rfl rfl rfl (by decide) rfl (by first | omega | (simp only [List.length_append, List.length_cons, List.length_nil, List.length_take, List.length_drop, List.length_set, List.length_replicate, List.length_map]; omega)) rfl rfl ?_; intro t' s' w hp hnil; refine ops_run nopre rfl ?_; skip
         have hzz : z.n = zerL x.n (rfV x.n cut K S).1.ands := by rw [hz]; exact goodN_zer hg
         refine IH (i + 1) ((rfS x.n i cut K fl S i).1, S.2 ++ [(rfS x.n i cut K fl S i).2]) z t' s' _ _ _ (by omega) (by rw [hsi2]; rfl) ⟨⟨by omega, hstep (by rw [hsi2]; dsimp only; omega), by rw [hsi2]; exact hzz⟩, ?_⟩
         rw [hsi2]
         exact hp.drop.f1.drop.f1.drop.f2.drop.f1
      ·have hiq : i ≠ q := fun h => hk (by omega)
       have l1 : litP (litV S.2 (x.ands.getD i default).1) (firstAndL x.n + S.1.length) := hB.lit (by omega)
       have l2 : litP (litV S.2 (x.ands.getD i default).2) (firstAndL x.n + S.1.length) := hB.lit (by omega)
       have hadd := addF_bld hok hB l1 l2
       have hsi : rfS x.n q cut K fl S i = addC (firstAndL x.n) S.1 (litV S.2 (x.ands.getD i default).1) (litV S.2 (x.ands.getD i default).2) := by unfold rfS; rw [if_neg hiq]; rfl
       rw [← hsi] at hadd
       have hi1 := l1.i64 (by omega)
       have hi2 := l2.i64 (by omega)
       have hsb : -1 ≤ (rfS x.n q cut K fl S i).2 ∧ (rfS x.n q cut K fl S i).2 ≤ 1000 := by
        rw [hsi]
        rcases hB.addLit (hB.lit (l := (x.ands.getD i default).1) (by omega)) (hB.lit (l := (x.ands.getD i default).2) (by omega)) with h | ⟨h, _⟩
        ·have := (addC_len (firstAndL x.n) S.1 (litV S.2 (x.ands.getD i default).1) (litV S.2 (x.ands.getD i default).2)).2
         unfold litP at h; omega
        ·rw [h]; dsimp only; omega
       refine h_cond_f rfl rfl ?_; skip
       refine N_draw hp (by kernel_rfl) (by kernel_rfl) rfl rfl ?_; (repeat (refine nLoad ?_; first | refine N_ldB rfl rfl rfl ?_ | refine N_ldFN rfl (by omega) rfl rfl rfl ?_ | refine N_ldE rfl (by omega) (by omega) rfl rfl rfl ?_))
       refine N_call Tryz.func34 (by kernel_rfl) rfl (fun F w hp => ?_); refine Ret.mono (specAddAnd_x y (litV S.2 (x.ands.getD i default).1) (litV S.2 (x.ands.getD i default).2) _ (rNet_r (hp.pre.take (rNet y))) hyok.S' hyok.W hi1 hi2) ?_; rintro _ w ⟨z, ⟨hz, rfl⟩, hq⟩; have hp := hp.callF1 hq; refine ⟨fun _ => hp.sub (by (repeat (first | exact List.sublist_append_left _ _ | apply List.Sublist.cons))), _, hp, ?_⟩; clear hp; refine N_ops rfl rfl ?_; (repeat (refine N_stBN rfl rfl rfl rfl (by kernel_rfl) ?_; refine N_ops rfl rfl ?_))
       refine N_end ?_; intro w hp C; refine h_run rfl ?_; skip
       rw [hy, hadd] at hz
       by_cases hneg : (rfS x.n q cut K fl S i).2 < 0
       ·rw [hy, hadd, if_pos hneg]
        skip
        refine h_cond_t rfl rfl ?_; (repeat (refine H_ldB hp rfl rfl ?_))
        refine h_call rfl Tryz.func26 (by kernel_rfl) rfl (specCopyNet_h x _ hp.net hS) ?_; rintro _ w ⟨u, ⟨hu, rfl⟩, hq⟩; have hx := hq.x; have hp := hp.call1 hq; refine ops_run nopre rfl ?_; (repeat (first | (refine gStore ?_; refine U_stBN hp rfl rfl rfl rfl ?_; intro w hp; refine ops_run nopre rfl ?_) | (refine gRetc ?_; refine R_ret2v hp rfl ?_)))
        rw [hnone hneg]
        exact ⟨u, ⟨hu, rfl⟩, Hp.tk hp 1⟩
       ·rw [if_neg hneg] at hz
        rw [hy, hadd, if_neg hneg]
        skip
        refine h_cond_f (decide_eq_false hneg) rfl ?_; (repeat (first | (refine gLoad ?_; refine H_ldB hp rfl rfl ?_) | (refine gStore ?_; refine U_stBN hp rfl rfl rfl rfl ?_; intro w hp; refine ops_run nopre rfl ?_) | (refine gBuild ?_; refine U_litI hp rfl rfl rfl rfl rfl rfl rfl rfl rfl rfl ?_; intro w _ hx hp; refine ops_run nopre rfl ?_)))
        refine U_append hp rfl rfl rfl rfl rfl rfl rfl (by decide) rfl (by first | omega | (simp only [List.length_append, List.length_cons, List.length_nil, List.length_take, List.length_drop, List.length_set, List.length_replicate, List.length_map]; omega)) rfl rfl ?_; intro t' s' w hp hnil; refine ops_run nopre rfl ?_; skip
        refine IH (i + 1) ((rfS x.n q cut K fl S i).1, S.2 ++ [(rfS x.n q cut K fl S i).2]) z t' s' _ _ _ (by omega) rfl ⟨⟨by omega, hstep hneg, hz⟩, ?_⟩
        exact hp.drop.f1.drop.f2.drop.f1
     ·obtain rfl : i = x.ands.length := by omega
      refine h_cond_f rfl rfl ?_; (repeat (refine H_ldB hp rfl rfl ?_))
      refine h_call rfl Tryz.func35 (by kernel_rfl) rfl (l10Finish_h y x tb tc _ S.2 rfl S.1 hp.f1 hok hy hB (by omega) (by omega)) ?_; rintro _ w ⟨z, ⟨hz, rfl⟩, hp⟩; refine ops_run nopre rfl ?_; (repeat (first | (refine gStore ?_; refine U_stBN hp rfl rfl rfl rfl ?_; intro w hp; refine ops_run nopre rfl ?_) | (refine gRetc ?_; refine R_ret2v hp rfl ?_)))
      have e : rfN x.n q cut = some (sweepL (finN x.n S.1 S.2)) := by
       unfold rfN
       rw [show (tabL x.n cut (fst_ x.n + q)).2 = b from hb.symm, hKc, hfc]
       have hS' : rfTo x.n q cut K fl x.n.ands.length = some S := hS2
       rw [hS']; rfl
      rw [rfF_yes hP (by rw [hqq]; exact e)]
      exact ⟨z, ⟨hz, rfl⟩, Hp.tk hp 1⟩
    ·have hK3 : minL cut.length b = K := by rw [hK2]; unfold cvrL; rw [if_neg hl]
     have hfl1 : fl = 0 := by rw [hfl]; unfold cvrF; rw [if_neg hl]
     rw [decide_eq_false hl]
     obtain ⟨fB, hfB⟩ : ∃ fB, fB = false := ⟨_, rfl⟩
     have hfBi : (if fB = true then (1 : Int) else 0) = fl := by rw [hfB, hfl1]; rfl
     refine h_cond_f rfl rfl ?_; (repeat (refine H_ldB hp rfl rfl ?_))
     have hp : Hp w0 _ [_, _, _] := (hp.f4.f4.f3).tk 3
     rw [hK3] at hp ⊢
     obtain ⟨aK, haK⟩ : ∃ aK, aK = a1 := ⟨_, rfl⟩
     obtain ⟨cK, hcK⟩ : ∃ cK, cK = c1 := ⟨_, rfl⟩
     rw [← haK, ← hcK] at hp ⊢
     refine h_call rfl Tryz.func31 (by kernel_rfl) rfl (l10Empty_h x _ hp.net hok hS) ?_; rintro _ w ⟨y0, b5, c5, ⟨hy0, rfl⟩, hq⟩; refine ops_run nopre rfl ?_; skip
     have hp := hp.call2 hq
     skip
     (first | refine H_box hp ?_ | refine H_alloc hp rfl ?_); intro w b12 hx hp; refine ops_run nopre rfl ?_; (repeat (refine U_stBN hp rfl rfl rfl rfl ?_; intro w hp; refine ops_run nopre rfl ?_))
     refine h_loop5 [1, 2, 3, 6, 9, 11, 12, 13, 14] (fun (i : Nat) (S : List (Int × Int) × List Int) (_ : NetA) (tb : Option Addr) (tc : Nat) => [(1, .int .i64 ((fst_ x.n + q : Nat) : Int)), (2, .slice ca cut.length cc), (3, .pointer (some ⟨b3, 0, none⟩)), (6, .pointer (some ⟨b6, 0, none⟩)), (9, .slice aK K.length cK), (11, .bool fB), (12, .pointer (some ⟨b12, 0, none⟩)), (13, .slice tb S.2.length tc), (14, .int .i64 (i : Int))])
      (fun i S y tb tc w' => (i ≤ x.ands.length ∧ rfTo x.n q cut K fl i = some S ∧ y.n = zerL x.n S.1) ∧ Hp w0 w' [rB b12 31 y.cs, rNet y, rO 3 1 eI tb tc S.2, rO 87 2 eII aK cK K, rB b6 31 (cellsV Tryz.ti31.zero), rB b3 31 x.cs])
      (fun i _ _ _ _ => x.ands.length - i) 0 ([], leafL x.n) y0 b5 c5 (by first | rfl | (rw [hfB]; rfl)) ⟨⟨by omega, rfl, hy0⟩, hp⟩ ?_
     clear hp hq
     rintro i S y tb tc w1 ⟨⟨hi, hS2, hy⟩, hp⟩ IH C
     have r := rfTo_ok hok hbel hfl01 i hi S hS2
     have hB := r.b
     have rl := r.len
     have f1 := hB.f1
     have f3 := hB.alen
     have hzok := zerL_ok hok hB
     have hyok : NetOkP y.n := by rw [hy]; exact hzok
     have hcap := (hp.f2).own.cap
     refine h_run rfl ?_; (repeat (refine H_ldB hp rfl rfl ?_))
     refine h_cond_dec (fun hlt => ?_) (fun hlt => ?_)
     ·have hlt' : i < x.ands.length := by omega
      obtain ⟨q1, q2, q3, q4⟩ := hok.and_ hlt'
      have hnone : (rfS x.n q cut K fl S i).2 < 0 → rfF x.n ((fst_ x.n + q : Nat) : Int) cut = (x.n, false) := fun hneg => by
       refine rfF_no hP ?_
       rw [hqq]
       unfold rfN
       have h1 := rfTo_stay (rfTo_no hS2 hneg) (m := x.n.ands.length) (by omega)
       rw [show (tabL x.n cut (fst_ x.n + q)).2 = b from hb.symm, hKc, hfc, h1]; rfl
      have hstep : ¬ (rfS x.n q cut K fl S i).2 < 0 → rfTo x.n q cut K fl (i + 1) = some ((rfS x.n q cut K fl S i).1, S.2 ++ [(rfS x.n q cut K fl S i).2]) := fun h => rfTo_yes hS2 h
      refine h_cond_t rfl rfl ?_; (repeat (refine H_ldB hp rfl rfl ?_))
      (first | refine H_box hp ?_ | refine H_alloc hp rfl ?_); intro w b15 hx hp; refine ops_run nopre rfl ?_; (repeat (first | (refine gLoad ?_; refine H_ldB hp rfl rfl ?_) | (refine gStore ?_; refine U_stBN hp rfl rfl rfl rfl ?_; intro w hp; refine ops_run nopre rfl ?_)))
      refine h_call rfl Tryz.func24 (by kernel_rfl) rfl (l08First_h x _ hok.b) ?_; rintro _ w ⟨rfl, hx⟩; have hp := hp.ext hx; refine ops_run nopre rfl ?_; skip
      refine h_cond_dec (fun hk => ?_) (fun hk => ?_)
      ·obtain rfl : i = q := by omega
       have hll := rfLits_ok hbel hB rl
       have hg := rfV_good hok hbel (C := K) hB rl
       have hgb := hg.b
       have hsi : rfS x.n i cut K fl S i = ((rfV x.n cut K S).1.ands, if (rfV x.n cut K S).2 < 0 then -1 else xorL (rfV x.n cut K S).2 fl) := by unfold rfS; rw [if_pos rfl]
       have hrl := rfLits_len cut S.2
       refine h_cond_t rfl rfl ?_; (repeat (refine U_litI hp rfl rfl rfl rfl rfl rfl rfl rfl rfl rfl ?_; intro w _ hx hp; refine ops_run nopre rfl ?_))
       refine h_loop3 [1, 2, 3, 6, 9, 11, 12, 13, 14, 15, 17, 18] (fun (j : Nat) (d : Option Addr) (e : Nat) => [(1, .int .i64 ((fst_ x.n + i : Nat) : Int)), (2, .slice ca cut.length cc), (3, .pointer (some ⟨b3, 0, none⟩)), (6, .pointer (some ⟨b6, 0, none⟩)), (9, .slice aK K.length cK), (11, .bool fB), (12, .pointer (some ⟨b12, 0, none⟩)), (13, .slice tb S.2.length tc), (14, .int .i64 (i : Int)), (15, .pointer (some ⟨b15, 0, none⟩)), (17, .slice d ((rfLits cut S.2).take j).length e), (18, .int .i64 (j : Int))])
        (fun j d e w' => j ≤ cut.length ∧ Hp w0 w' [rO 3 1 eI d e ((rfLits cut S.2).take j), rB b15 31 y.cs, rB b12 31 y.cs, rNet y, rO 3 1 eI tb tc S.2, rO 87 2 eII aK cK K, rB b6 31 (cellsV Tryz.ti31.zero), rB b3 31 x.cs])
        (fun j _ _ => cut.length - j) 0 _ _ rfl ⟨by omega, hp⟩ ?_
       clear hp
       rintro j d e w2 ⟨hj, hp⟩ IH2 C2
       have htl : ((rfLits cut S.2).take j).length = j := by rw [List.length_take]; omega
       refine h_run rfl ?_; skip
       refine h_cond_dec (fun hlt2 => ?_) (fun hlt2 => ?_)
       ·have hlt2' : j < cut.length := by omega
        have hcj := hbel.2 (cut.getD j default) (getD_mem hlt2')
        have hnec : ca ≠ none := nn_of hp (X := cut) (by omega)
        have hnet : tb ≠ none := nn_of hp (X := S.2) (by omega)
        have e1 : (rfLits cut S.2).take (j + 1) = (rfLits cut S.2).take j ++ [S.2.getD (cut.getD j default).toNat default] := by
         rw [take_snoc (by omega)]
         congr 2
         exact map_getD (f := fun c : Int => S.2.getD c.toNat default) hlt2'
        refine h_cond_t rfl rfl ?_; (repeat (first | (refine gLoad ?_; first | refine H_ldEN hp rfl (by omega) rfl rfl ?_ | refine H_ldE hp rfl (by omega) (by omega) rfl rfl ?_) | (refine gBuild ?_; refine U_litI hp rfl rfl rfl rfl rfl rfl rfl rfl rfl rfl ?_; intro w _ hx hp; refine ops_run nopre rfl ?_)))
        refine U_append hp rfl rfl rfl rfl rfl rfl rfl (by decide) rfl (by first | omega | (simp only [List.length_append, List.length_cons, List.length_nil, List.length_take, List.length_drop, List.length_set, List.length_replicate, List.length_map]; omega)) rfl rfl ?_; intro d' e' w hp hnil; refine ops_run nopre rfl ?_; skip
        refine IH2 (j + 1) d' e' _ _ _ (by omega) (by rw [e1]; rfl) ⟨by omega, ?_⟩
        rw [e1]
        exact hp.drop
       ·obtain rfl : j = cut.length := by omega
        have htk : (rfLits cut S.2).take cut.length = rfLits cut S.2 := List.take_of_length_le (by omega)
        rw [htk] at hp ⊢
        have hli : ∀ j, j < (rfLits cut S.2).length → i64R ((rfLits cut S.2).getD j default) := fun j hj => by
         have h1 := hll _ (getD_mem hj)
         rw [zerL_nodes] at h1
         exact h1.i64 (by omega)
        have hKi : ∀ j, j < K.length → i64R (K.getD j default).1 ∧ i64R (K.getD j default).2 := fun j hj => by
         obtain ⟨_, h1, h2, _⟩ := hcok.2.2 _ (getD_mem hj)
         have h3 := pow_small (m := (cut.length : Int)) (by omega)
         unfold i64R; omega
        have hcF : covF (zerL x.n S.1) (rfLits cut S.2) K = addF (zerL x.n S.1) (rfLits cut S.2) (rfV x.n cut K S) := covF_yes (by rw [hrl]; exact hcok)
        refine h_cond_f rfl rfl ?_; (repeat (refine H_ldB hp rfl rfl ?_))
        refine h_call rfl Tryz.func32 (by kernel_rfl) rfl (specAddCover_x y d e (rfLits cut S.2) aK cK K _ (rNet_r (hp.take (rNet y))) hyok.S' hyok.W hp.rd (by omega) hli hp.rd (by have := hcok.2.1; omega) hKi) ?_; rintro _ w ⟨z, ⟨hz, rfl⟩, hq⟩; have hx := hq.x; have hp := hp.call1 hq; refine ops_run nopre rfl ?_; (repeat (refine U_stBN hp rfl rfl rfl rfl ?_; intro w hp; refine ops_run nopre rfl ?_))
        rw [hy, hcF] at hz ⊢
        by_cases hneg : (rfV x.n cut K S).2 < 0
        ·have hse : (rfS x.n i cut K fl S i).2 < 0 := by rw [hsi]; dsimp only; rw [if_pos hneg]; decide
         rw [addF_neg ⟨hzok, hll⟩ hneg] at hz ⊢
         skip
         refine h_cond_f (decide_eq_false (by show ¬ (0 : Int) ≤ -1; decide)) rfl ?_; skip
         refine h_cond_t rfl rfl ?_; (repeat (refine H_ldB hp rfl rfl ?_))
         refine h_call rfl Tryz.func26 (by kernel_rfl) rfl (specCopyNet_h x _ hp.net hS) ?_; rintro _ w ⟨u, ⟨hu, rfl⟩, hq⟩; have hx := hq.x; have hp := hp.call1 hq; refine ops_run nopre rfl ?_; (repeat (first | (refine gStore ?_; refine U_stBN hp rfl rfl rfl rfl ?_; intro w hp; refine ops_run nopre rfl ?_) | (refine gRetc ?_; refine R_ret2v hp rfl ?_)))
         rw [hnone hse]
         exact ⟨u, ⟨hu, rfl⟩, Hp.tk hp 1⟩
        ·have hsi2 : rfS x.n i cut K fl S i = ((rfV x.n cut K S).1.ands, xorL (rfV x.n cut K S).2 fl) := by rw [hsi, if_neg hneg]
         have hx := xorL_litP (hg.litP hneg) (by have := hg.ok.count; omega) hfl01
         have hx' := hx
         unfold litP at hx'
         rw [addF_yes ⟨hzok, hll⟩ hneg] at hz ⊢
         skip
         refine h_cond_t (decide_eq_true (by omega)) rfl ?_; skip
         refine h_call rfl Tryz.func33 (by kernel_rfl) rfl (l07Bit_d fB _) ?_; rintro _ w ⟨rfl, hx⟩; have hp := hp.ext hx; refine ops_run nopre rfl ?_; skip
         rw [hfBi]
         refine h_cond_f (decide_eq_false (by show ¬ xorL (rfV x.n cut K S).2 fl < 0; omega)) rfl ?_; (repeat (first | (refine gLoad ?_; refine H_ldB hp rfl rfl ?_) | (refine gStore ?_; refine U_stBN hp rfl rfl rfl rfl ?_; intro w hp; refine ops_run nopre rfl ?_) | (refine gBuild ?_; refine U_litI hp rfl rfl rfl rfl rfl rfl rfl rfl rfl rfl ?_; intro w _ hx hp; refine ops_run nopre rfl ?_)))
         refine U_append hp rfl rfl rfl rfl rfl rfl rfl (by decide) rfl (by first | omega | (simp only [List.length_append, List.length_cons, List.length_nil, List.length_take, List.length_drop, List.length_set, List.length_replicate, List.length_map]; omega)) rfl rfl ?_; intro t' s' w hp hnil; refine ops_run nopre rfl ?_; skip
         have hzz : z.n = zerL x.n (rfV x.n cut K S).1.ands := by rw [hz]; exact goodN_zer hg
         refine IH (i + 1) ((rfS x.n i cut K fl S i).1, S.2 ++ [(rfS x.n i cut K fl S i).2]) z t' s' _ _ _ (by omega) (by rw [hsi2]; rfl) ⟨⟨by omega, hstep (by rw [hsi2]; dsimp only; omega), by rw [hsi2]; exact hzz⟩, ?_⟩
         rw [hsi2]
         exact hp.drop.f1.drop.f1.drop.f2.drop.f1
      ·have hiq : i ≠ q := fun h => hk (by omega)
       have l1 : litP (litV S.2 (x.ands.getD i default).1) (firstAndL x.n + S.1.length) := hB.lit (by omega)
       have l2 : litP (litV S.2 (x.ands.getD i default).2) (firstAndL x.n + S.1.length) := hB.lit (by omega)
       have hadd := addF_bld hok hB l1 l2
       have hsi : rfS x.n q cut K fl S i = addC (firstAndL x.n) S.1 (litV S.2 (x.ands.getD i default).1) (litV S.2 (x.ands.getD i default).2) := by unfold rfS; rw [if_neg hiq]; rfl
       rw [← hsi] at hadd
       have hi1 := l1.i64 (by omega)
       have hi2 := l2.i64 (by omega)
       have hsb : -1 ≤ (rfS x.n q cut K fl S i).2 ∧ (rfS x.n q cut K fl S i).2 ≤ 1000 := by
        rw [hsi]
        rcases hB.addLit (hB.lit (l := (x.ands.getD i default).1) (by omega)) (hB.lit (l := (x.ands.getD i default).2) (by omega)) with h | ⟨h, _⟩
        ·have := (addC_len (firstAndL x.n) S.1 (litV S.2 (x.ands.getD i default).1) (litV S.2 (x.ands.getD i default).2)).2
         unfold litP at h; omega
        ·rw [h]; dsimp only; omega
       refine h_cond_f rfl rfl ?_; skip
       refine N_draw hp (by kernel_rfl) (by kernel_rfl) rfl rfl ?_; (repeat (refine nLoad ?_; first | refine N_ldB rfl rfl rfl ?_ | refine N_ldFN rfl (by omega) rfl rfl rfl ?_ | refine N_ldE rfl (by omega) (by omega) rfl rfl rfl ?_))
       refine N_call Tryz.func34 (by kernel_rfl) rfl (fun F w hp => ?_); refine Ret.mono (specAddAnd_x y (litV S.2 (x.ands.getD i default).1) (litV S.2 (x.ands.getD i default).2) _ (rNet_r (hp.pre.take (rNet y))) hyok.S' hyok.W hi1 hi2) ?_; rintro _ w ⟨z, ⟨hz, rfl⟩, hq⟩; have hp := hp.callF1 hq; refine ⟨fun _ => hp.sub (by (repeat (first | exact List.sublist_append_left _ _ | apply List.Sublist.cons))), _, hp, ?_⟩; clear hp; refine N_ops rfl rfl ?_; (repeat (refine N_stBN rfl rfl rfl rfl (by kernel_rfl) ?_; refine N_ops rfl rfl ?_))
       refine N_end ?_; intro w hp C; refine h_run rfl ?_; skip
       rw [hy, hadd] at hz
       by_cases hneg : (rfS x.n q cut K fl S i).2 < 0
       ·rw [hy, hadd, if_pos hneg]
        skip
        refine h_cond_t rfl rfl ?_; (repeat (refine H_ldB hp rfl rfl ?_))
        refine h_call rfl Tryz.func26 (by kernel_rfl) rfl (specCopyNet_h x _ hp.net hS) ?_; rintro _ w ⟨u, ⟨hu, rfl⟩, hq⟩; have hx := hq.x; have hp := hp.call1 hq; refine ops_run nopre rfl ?_; (repeat (first | (refine gStore ?_; refine U_stBN hp rfl rfl rfl rfl ?_; intro w hp; refine ops_run nopre rfl ?_) | (refine gRetc ?_; refine R_ret2v hp rfl ?_)))
        rw [hnone hneg]
        exact ⟨u, ⟨hu, rfl⟩, Hp.tk hp 1⟩
       ·rw [if_neg hneg] at hz
        rw [hy, hadd, if_neg hneg]
        skip
        refine h_cond_f (decide_eq_false hneg) rfl ?_; (repeat (first | (refine gLoad ?_; refine H_ldB hp rfl rfl ?_) | (refine gStore ?_; refine U_stBN hp rfl rfl rfl rfl ?_; intro w hp; refine ops_run nopre rfl ?_) | (refine gBuild ?_; refine U_litI hp rfl rfl rfl rfl rfl rfl rfl rfl rfl rfl ?_; intro w _ hx hp; refine ops_run nopre rfl ?_)))
        refine U_append hp rfl rfl rfl rfl rfl rfl rfl (by decide) rfl (by first | omega | (simp only [List.length_append, List.length_cons, List.length_nil, List.length_take, List.length_drop, List.length_set, List.length_replicate, List.length_map]; omega)) rfl rfl ?_; intro t' s' w hp hnil; refine ops_run nopre rfl ?_; skip
        refine IH (i + 1) ((rfS x.n q cut K fl S i).1, S.2 ++ [(rfS x.n q cut K fl S i).2]) z t' s' _ _ _ (by omega) rfl ⟨⟨by omega, hstep hneg, hz⟩, ?_⟩
        exact hp.drop.f1.drop.f2.drop.f1
     ·obtain rfl : i = x.ands.length := by omega
      refine h_cond_f rfl rfl ?_; (repeat (refine H_ldB hp rfl rfl ?_))
      refine h_call rfl Tryz.func35 (by kernel_rfl) rfl (l10Finish_h y x tb tc _ S.2 rfl S.1 hp.f1 hok hy hB (by omega) (by omega)) ?_; rintro _ w ⟨z, ⟨hz, rfl⟩, hp⟩; refine ops_run nopre rfl ?_; (repeat (first | (refine gStore ?_; refine U_stBN hp rfl rfl rfl rfl ?_; intro w hp; refine ops_run nopre rfl ?_) | (refine gRetc ?_; refine R_ret2v hp rfl ?_)))
      have e : rfN x.n q cut = some (sweepL (finN x.n S.1 S.2)) := by
       unfold rfN
       rw [show (tabL x.n cut (fst_ x.n + q)).2 = b from hb.symm, hKc, hfc]
       have hS' : rfTo x.n q cut K fl x.n.ands.length = some S := hS2
       rw [hS']; rfl
      rw [rfF_yes hP (by rw [hqq]; exact e)]
      exact ⟨z, ⟨hz, rfl⟩, Hp.tk hp 1⟩
 ·have hbad : ¬ rfP x.n k cut := fun h => h1 h.1
  refine h_call rfl Tryz.func23 (by kernel_rfl) rfl ((specCutOk_x x k ca cc cut _ hp.net hS hW hK hp.rd hL hV).ff (cutOkB_no h1)) ?_; rintro _ w ⟨rfl, hx⟩; have hp := hp.ext hx; refine ops_run nopre rfl ?_; (repeat (refine h_guard_n rfl nopre rfl ?_))
  refine h_cond_t rfl rfl ?_; (repeat (refine H_ldB hp rfl rfl ?_))
  rw [rfF_bad hbad]
  refine h_call rfl Tryz.func26 (by kernel_rfl) rfl (specCopyNet_h x _ hp.net hS) ?_; rintro _ w ⟨z, ⟨hz, rfl⟩, hq⟩; have hx := hq.x; have hp := hp.call1 hq; refine ops_run nopre rfl ?_; (repeat (first | (refine gStore ?_; refine U_stBN hp rfl rfl rfl rfl ?_; intro w hp; refine ops_run nopre rfl ?_) | (refine gRetc ?_; refine R_ret2v hp rfl ?_)))
  exact ⟨z, ⟨hz, rfl⟩, Hp.tk hp 1⟩
theorem specRefactor_x (x : NetA) (w0 : World) (hX : NetR w0 x) (hS : NetS x.n) (hW : NetW x.n) :
  Ret Tryz.prog 16 [x.v] w0 (fun v w => ∃ y, (y.n = ifNet x.n (refL x.n) ∧ v = y.v) ∧ Hp w0 w [rNet y]) := by
 refine enter Tryz.S16ok _ _ rfl rfl (by show _ ≤ _; simp only [List.length]; decide) (fun C => ?_); have hp := Hp.nil w0; refine h_run rfl ?_; skip; (first | refine H_box hp ?_ | refine H_alloc hp rfl ?_); intro w b1 hx hp; refine ops_run nopre rfl ?_; skip; (first | refine H_box hp ?_ | refine H_alloc hp rfl ?_); intro w b2 hx hp; refine ops_run nopre rfl ?_; (repeat (refine H_ldB hp rfl rfl ?_))
 by_cases hok : NetOkP x.n
 ·rw [ifNet_yes hok]
  refine h_call rfl Tryz.func50 (by kernel_rfl) rfl ((specNetOk_h x _ hp.net hS hW).tt (netOkB_yes hok)) ?_; rintro _ w ⟨rfl, hx⟩; have hp := hp.ext hx; refine ops_run nopre rfl ?_; skip
  refine h_cond_f rfl rfl ?_; (repeat (refine H_ldB hp rfl rfl ?_))
  refine h_call rfl Tryz.func51 (by kernel_rfl) rfl (specHash_x x _ hp.net hS hW) ?_; rintro _ w ⟨y0, ⟨hy0, rfl⟩, hq⟩; have hx := hq.x; have hp := hp.call1 hq; refine ops_run nopre rfl ?_; skip
  rw [ifNet_yes hok] at hy0
  (first | refine H_box hp ?_ | refine H_alloc hp rfl ?_); intro w b3 hx hp; refine ops_run nopre rfl ?_; (repeat (first | (refine gLoad ?_; refine H_ldB hp rfl rfl ?_) | (refine gStore ?_; refine U_stBN hp rfl rfl rfl rfl ?_; intro w hp; refine ops_run nopre rfl ?_)))
  have hok0 : NetOkP y0.n := by rw [hy0]; exact hashL_ok hok
  have ha0 : y0.ands.length = (hashL x.n).ands.length := by rw [← hy0]; rfl
  refine h_cond_dec (fun hbig => ?_) (fun hbig => ?_)
  ·refine h_cond_t rfl rfl ?_; (repeat (first | (refine gLoad ?_; refine H_ldB hp rfl rfl ?_) | (refine gStore ?_; refine U_stBN hp rfl rfl rfl rfl ?_; intro w hp; refine ops_run nopre rfl ?_) | (refine gRetc ?_; refine R_ret1 hp rfl ?_)))
   have e : refL x.n = hashL x.n := by unfold refL; rw [if_pos (by omega)]
   rw [e]
   exact ⟨y0, ⟨hy0, rfl⟩, (hp.f1).tk 1⟩
  ·have e : refL x.n = refG ((hashL x.n).ands.length + 1) 0 y0.n := by unfold refL; rw [if_neg (by omega), hy0]
   rw [e]
   obtain ⟨R, hR⟩ : ∃ R, R = refG ((hashL x.n).ands.length + 1) 0 y0.n := ⟨_, rfl⟩
   rw [← hR]
   refine h_cond_f rfl rfl ?_; skip
   refine h_loop3 [2, 3, 4] (fun (i : Nat) (_ : NetA) (_ : Nat) => [(2, .pointer (some ⟨b2, 0, none⟩)), (3, .pointer (some ⟨b3, 0, none⟩)), (4, .int .i64 (i : Int))])
    (fun i y f w' => (NetOkP y.n ∧ refG f i y.n = R ∧ y.ands.length < f + i ∧ i ≤ 300) ∧ Hp w0 w' [rB b3 31 y.cs, rNet y, rB b2 31 (cellsV Tryz.ti31.zero)]) (fun _ _ f => f) 0 y0 ((hashL x.n).ands.length + 1) rfl ⟨⟨hok0, hR.symm, by omega, by omega⟩, ?_⟩ ?_
   ·exact hp.tk 3
   clear hp
   rintro i y f w1 ⟨⟨hoky, hg, hf, hi3⟩, hp⟩ IH C
   have hn := hoky.nums
   have n1 := hn.n1
   have n4 := hn.n2
   have f2 := hn.f2
   have hnd := hoky.nodes
   have hsz := hoky.size'
   have hyal : y.n.ands.length = y.ands.length := rfl
   refine h_run rfl ?_; (repeat (refine H_ldB hp rfl rfl ?_))
   refine h_cond_dec (fun hlt => ?_) (fun hlt => ?_)
   ·have hlt' : i < y.ands.length := by omega
    obtain ⟨f', rfl⟩ : ∃ f', f = f' + 1 := ⟨f - 1, by omega⟩
    rw [refG, if_pos (by omega)] at hg
    have en : firstAndL y.n + (i : Int) = ((fst_ y.n + i : Nat) : Int) := by omega
    refine h_cond_t rfl rfl ?_; skip
    refine D_draw hp (by kernel_rfl) (by kernel_rfl) rfl rfl ?_; intro w hx hp; have hs := hp; (repeat (refine D_ldB rfl rfl rfl ?_))
    refine h_callq rfl Tryz.func24 (by kernel_rfl) rfl (l08First_h y _ hoky.b) ?_; rintro _ w ⟨rfl, hx⟩; have hp := hp.ext hx; have hs := hs.ext hx; refine ⟨fun _ => hs, ?_⟩; refine D_ops rfl rfl ?_; skip
    rw [en]
    refine h_callq rfl Tryz.func52 (by kernel_rfl) rfl (specEnumCuts_x y ((fst_ y.n + i : Nat) : Int) _ (rNet_r (hp.take (rNet y))) hoky.S' hoky.W (by unfold i64R; omega)) ?_; rintro _ w ⟨b5, c5, S0, ⟨rfl, hS0⟩, hq⟩
    refine ⟨fun _ => hs.ext hq.x, ?_⟩
    have hp : Hp w0 _ [rO 24 1 eRo b5 c5 S0, rRows 3 1 eI S0, rB b3 31 y.cs, rNet y, rB b2 31 (cellsV Tryz.ti31.zero)] := hp.call2 hq
    rw [enumF_yes ⟨hoky, by omega, by omega⟩, Int.toNat_natCast] at hS0
    have hlen := cutsOf_len hoky (k := fst_ y.n + i) (by omega)
    have hrl : S0.length = (cutsOf y.n (fst_ y.n + i)).length := by rw [← insOf_len, hS0]
    refine D_ops rfl rfl ?_; skip
    skip
    refine h_loop [2, 3, 4, 5, 6] (fun (j : Nat) => [(2, .pointer (some ⟨b2, 0, none⟩)), (3, .pointer (some ⟨b3, 0, none⟩)), (4, .int .i64 (i : Int)), (5, .slice b5 S0.length c5), (6, .int .i64 (j : Int))])
     (fun j w' => (j + 1 ≤ S0.length ∧ pickL y.n ((fst_ y.n + i : Nat) : Int) ((cutsM y.n i).drop j) = refS y.n i) ∧ Hp w0 w' [rO 24 1 eRo b5 c5 S0, rRows 3 1 eI S0, rB b3 31 y.cs, rNet y, rB b2 31 (cellsV Tryz.ti31.zero)]) (fun j => S0.length - j) 0
     rfl ⟨⟨by omega, by rw [List.drop_zero]; rfl⟩, hp⟩ ?_
    clear hp
    rintro j w2 ⟨⟨hj, hpk⟩, hp⟩ IH2 C2
    have hlike := pick_like hoky ((fst_ y.n + i : Nat) : Int) (cutsM y.n i)
    have hsl : (refS y.n i).ands.length ≤ y.n.ands.length := hlike.le
    have hcml : (cutsM y.n i).length = S0.length - 1 := by unfold cutsM; rw [List.length_dropLast, hrl]
    refine h_run rfl ?_; skip
    refine h_cond_dec (fun hlt2 => ?_) (fun hlt2 => ?_)
    ·have hlt2' : j + 1 < S0.length := by omega
     have hrow : RdH w0 [rO 24 1 eRo b5 c5 S0, rRows 3 1 eI S0, rB b3 31 y.cs, rNet y, rB b2 31 (cellsV Tryz.ti31.zero)] (S0.getD j default).ia 1 eI (S0.getD j default).ins := RowsH.mem_ inferInstance (getD_memR (by omega))
     have hcget : (cutsM y.n i).getD j default = (S0.getD j default).ins := by
      unfold cutsM
      rw [← hS0, ← insOf_get, List.dropLast_eq_take, insOf_len]
      simp only [List.getD_eq_getElem?_getD]
      rw [List.getElem?_take, if_pos (by omega)]
     have hcm2 : (S0.getD j default).ins ∈ cutsM y.n i := by rw [← hcget]; exact getD_mem (by omega)
     have hdr : (cutsM y.n i).drop j = (S0.getD j default).ins :: (cutsM y.n i).drop (j + 1) := by
      rw [← hcget, List.getD_eq_getElem?_getD, List.getElem?_eq_getElem (by omega), Option.getD_some, ← List.drop_eq_getElem_cons]
     rw [hdr] at hpk
     have hP := cuts_rfP hoky (show i < y.n.ands.length by omega) hcm2
     have hck := cuts_K hoky (fst_ y.n + i + 1) (fst_ y.n + i) (by omega) (by omega) (S0.getD j default).ins (by rw [← hS0]; exact List.mem_map.2 ⟨_, getD_memR (by omega), rfl⟩)
     have hint : ∀ q, q < (S0.getD j default).ins.length → i64R ((S0.getD j default).ins.getD q default) := fun q hq => by
      obtain ⟨z, hz, hcone⟩ := hck.cone _ (getD_mem hq)
      have := hcone.le hn
      rw [hz]; unfold i64R; omega
     have hc4 := hck.good.1
     have hne5 : b5 ≠ none := nn_of hp (X := S0) (by omega)
     refine h_cond_t rfl rfl ?_; skip
     refine N_draw hp (by kernel_rfl) (by kernel_rfl) rfl rfl ?_; (repeat (refine N_ldB rfl rfl rfl ?_))
     refine N_call Tryz.func24 (by kernel_rfl) rfl (fun F w hp => ?_); refine Ret.mono (l08First_h y _ hoky.b) ?_; rintro _ w ⟨rfl, hx⟩; have hp := hp.ext hx; refine ⟨fun _ => hp.sub (by (repeat (first | exact List.sublist_append_left _ _ | apply List.Sublist.cons))), _, hp, ?_⟩; clear hp; refine N_ops rfl rfl ?_; (repeat (refine N_ldEN rfl (by omega) rfl rfl rfl ?_))
     rw [en]
     refine N_call Tryz.func7 (by kernel_rfl) rfl (fun F w hp => ?_); refine Ret.mono (specRefactorAt_x y ((fst_ y.n + i : Nat) : Int) _ _ (S0.getD j default).ins _ (rNet_r (hp.pre.take (rNet y))) hoky.S' hoky.W (by unfold i64R; omega) hp.pre.rd (by omega) hint) ?_; rintro _ w ⟨z, ⟨hz, rfl⟩, hq⟩; have hp := hp.callF1 hq; refine ⟨fun _ => hp.sub (by (repeat (first | exact List.sublist_append_left _ _ | apply List.Sublist.cons))), _, hp, ?_⟩; clear hp; refine N_ops rfl rfl ?_; skip
     (first | refine N_box ?_ | refine N_alloc rfl ?_); intro b7; refine N_ops rfl rfl ?_; (repeat (refine N_stBN rfl rfl rfl rfl (by kernel_rfl) ?_; refine N_ops rfl rfl ?_))
     refine N_end ?_; intro w hp C; refine h_run rfl ?_; skip
     cases hF : (rfF y.n ((fst_ y.n + i : Nat) : Int) (S0.getD j default).ins).2
     ·have hno : ¬ rfLess y.n ((fst_ y.n + i : Nat) : Int) (S0.getD j default).ins := fun h => by
       rw [h.1] at hF; cases hF
      rw [pickL_no hno] at hpk
      (repeat (refine h_guard_n rfl nopre rfl ?_))
      refine h_cond_f rfl rfl ?_; skip
      refine IH2 (j + 1) _ _ _ (by omega) rfl ⟨⟨by omega, hpk⟩, hp.drop.drop⟩
     ·have hzl2 : (rfF y.n ((fst_ y.n + i : Nat) : Int) (S0.getD j default).ins).1.ands.length = z.ands.length := by rw [← hz]; rfl
      (repeat (first | (refine gGuard ?_; refine h_guard_y rfl nopre rfl ?_) | (refine gLoad ?_; refine H_ldB hp rfl rfl ?_)))
      refine h_cond_dec (fun hless => ?_) (fun hless => ?_)
      ·have hyes : rfLess y.n ((fst_ y.n + i : Nat) : Int) (S0.getD j default).ins := ⟨hF, by rw [hzl2]; omega⟩
       rw [pickL_yes hyes] at hpk
       have hzr : z.n = refS y.n i := hz.trans hpk
       have hzl : z.ands.length ≤ y.ands.length := by
        have h1 : z.n.ands.length ≤ y.n.ands.length := by rw [hzr]; exact hsl
        exact h1
       refine h_cond_t rfl rfl ?_; (repeat (first | (refine gLoad ?_; refine H_ldB hp rfl rfl ?_) | (refine gStore ?_; refine U_stBN hp rfl rfl rfl rfl ?_; intro w hp; refine ops_run nopre rfl ?_)))
       refine IH (i + 1) z f' _ _ _ (by omega) rfl ⟨⟨by rw [hzr]; exact hlike.ok, by rw [hzr]; exact hg, by omega, by omega⟩, ?_⟩
       exact (hp.f6.f2.f5).tk 3
      ·have hno : ¬ rfLess y.n ((fst_ y.n + i : Nat) : Int) (S0.getD j default).ins := fun h => by
        have h2 := h.2
        rw [hzl2] at h2
        omega
       rw [pickL_no hno] at hpk
       refine h_cond_f rfl rfl ?_; skip
       refine IH2 (j + 1) _ _ _ (by omega) rfl ⟨⟨by omega, hpk⟩, hp.drop.drop⟩
    ·have hj1 : j + 1 = S0.length := by omega
     have hpy : refS y.n i = y.n := by
      rw [← hpk, List.drop_of_length_le (by omega)]; rfl
     rw [hpy] at hg
     refine h_cond_f rfl rfl ?_; skip
     exact IH (i + 1) y f' _ _ _ (by omega) rfl ⟨⟨hoky, hg, by omega, by omega⟩, (hp.f4.f4.f4).tk 3⟩
   ·have hyR : y.n = R := by
     rw [← hg]
     cases f with
     | zero => rfl
     | succ f => rw [refG, if_neg (by omega)]
    refine h_cond_f rfl rfl ?_; (repeat (first | (refine gLoad ?_; refine H_ldB hp rfl rfl ?_) | (refine gStore ?_; refine U_stBN hp rfl rfl rfl rfl ?_; intro w hp; refine ops_run nopre rfl ?_) | (refine gRetc ?_; refine R_ret1 hp rfl ?_)))
    exact ⟨y, ⟨hyR, rfl⟩, (hp.f1).tk 1⟩
 ·refine h_call rfl Tryz.func50 (by kernel_rfl) rfl ((specNetOk_h x _ hp.net hS hW).ff (netOkB_no hok)) ?_; rintro _ w ⟨rfl, hx⟩; have hp := hp.ext hx; refine ops_run nopre rfl ?_; skip
  refine h_cond_t rfl rfl ?_; (repeat (first | (refine gStore ?_; refine U_stBN hp rfl rfl rfl rfl ?_; intro w hp; refine ops_run nopre rfl ?_) | (refine gRetc ?_; refine R_ret1 hp rfl ?_)))
  rw [ifNet_no hok]
  exact ⟨nilA, ⟨rfl, rfl⟩, Hp.tk (hpNil hp) 1⟩
theorem specOptimize_x (x : NetA) (w0 : World) (hX : NetR w0 x) (hS : NetS x.n) (hW : NetW x.n) :
  Ret Tryz.prog 18 [x.v] w0 (fun v w => ∃ y, (y.n = optL x.n ∧ v = y.v) ∧ Hp w0 w [rNet y]) := by
 refine enter Tryz.S18ok _ _ rfl rfl (by show _ ≤ _; simp only [List.length]; decide) (fun C => ?_); have hp := Hp.nil w0; refine h_run rfl ?_; skip; (first | refine H_box hp ?_ | refine H_alloc hp rfl ?_); intro w b1 hx hp; refine ops_run nopre rfl ?_; skip; (first | refine H_box hp ?_ | refine H_alloc hp rfl ?_); intro w b2 hx hp; refine ops_run nopre rfl ?_; (repeat (refine H_ldB hp rfl rfl ?_))
 refine h_call rfl Tryz.func16 (by kernel_rfl) rfl (specRefactor_x x _ hp.net hS hW) ?_; rintro _ w ⟨a, ⟨ha, rfl⟩, hq⟩; have hx := hq.x; have hp := hp.call1 hq; refine ops_run nopre rfl ?_; skip
 have hae : a.n = refF x.n := ha
 have haok : NetOkP a.n := by rw [hae]; exact refF_ok x.n
 (first | refine H_box hp ?_ | refine H_alloc hp rfl ?_); intro w b3 hx hp; refine ops_run nopre rfl ?_; (repeat (first | (refine gLoad ?_; refine H_ldB hp rfl rfl ?_) | (refine gStore ?_; refine U_stBN hp rfl rfl rfl rfl ?_; intro w hp; refine ops_run nopre rfl ?_)))
 refine h_call rfl Tryz.func57 (by kernel_rfl) rfl (specBalance_x x _ hp.net hS hW) ?_; rintro _ w ⟨c, ⟨hc, rfl⟩, hq⟩; have hx := hq.x; have hp := hp.call1 hq; refine ops_run nopre rfl ?_; skip
 have hce : c.n = balF x.n := hc
 have hcok : NetOkP c.n := by rw [hce]; exact balF_ok' x.n
 refine h_call rfl Tryz.func16 (by kernel_rfl) rfl (specRefactor_x c _ hp.net hcok.S' hcok.W) ?_; rintro _ w ⟨d, ⟨hd, rfl⟩, hq⟩; have hx := hq.x; have hp := hp.call1 hq; refine ops_run nopre rfl ?_; skip
 have hde : d.n = refF (balF x.n) := by rw [← hce]; exact hd
 have hdok : NetOkP d.n := by rw [hde]; exact refF_ok _
 refine h_call rfl Tryz.func57 (by kernel_rfl) rfl (specBalance_x d _ hp.net hdok.S' hdok.W) ?_; rintro _ w ⟨b, ⟨hb, rfl⟩, hq⟩; have hx := hq.x; have hp := hp.call1 hq; refine ops_run nopre rfl ?_; skip
 have hbe : b.n = optB x.n := by
  have h : b.n = balF d.n := hb
  rw [h, hde]; rfl
 have hbok : NetOkP b.n := by rw [hbe]; exact balF_ok' _
 (first | refine H_box hp ?_ | refine H_alloc hp rfl ?_); intro w b4 hx hp; refine ops_run nopre rfl ?_; (repeat (refine U_stBN hp rfl rfl rfl rfl ?_; intro w hp; refine ops_run nopre rfl ?_))
 have hp : Hp w0 _ [_, _, _, _, _] := (hp.f6.f6.f6.f4.f4).tk 5
 refine N_draw hp (by kernel_rfl) (by kernel_rfl) rfl rfl ?_; (repeat (refine N_ldB rfl rfl rfl ?_))
 refine N_call Tryz.func58 (by kernel_rfl) rfl (fun F w hp => ?_); refine Ret.mono (specDepth_x b _ (rNet_r (hp.pre.take (rNet b))) hbok.S' hbok.W) ?_; rintro _ w ⟨rfl, hx⟩; have hp := hp.ext hx; refine ⟨fun _ => hp.sub (by (repeat (first | exact List.sublist_append_left _ _ | apply List.Sublist.cons))), _, hp, ?_⟩; clear hp; refine N_ops rfl rfl ?_; (repeat (refine N_ldB rfl rfl rfl ?_))
 refine N_call Tryz.func58 (by kernel_rfl) rfl (fun F w hp => ?_); refine Ret.mono (specDepth_x a _ (rNet_r (hp.pre.take (rNet a))) haok.S' haok.W) ?_; rintro _ w ⟨rfl, hx⟩; have hp := hp.ext hx; refine ⟨fun _ => hp.sub (by (repeat (first | exact List.sublist_append_left _ _ | apply List.Sublist.cons))), _, hp, ?_⟩; clear hp; refine N_ops rfl rfl ?_; skip
 by_cases h1 : depthL b.n < depthL a.n
 ·rw [decide_eq_true h1]
  (repeat (refine N_guard_n rfl rfl rfl ?_))
  refine N_end ?_; intro w hp C; refine h_run rfl ?_; skip
  have hopt : optP (refF x.n) (optB x.n) := by rw [← hae, ← hbe]; exact .inl h1
  rw [optL_yes hopt]
  refine h_cond_t rfl rfl ?_; (repeat (first | (refine gLoad ?_; refine H_ldB hp rfl rfl ?_) | (refine gStore ?_; refine U_stBN hp rfl rfl rfl rfl ?_; intro w hp; refine ops_run nopre rfl ?_) | (refine gRetc ?_; refine R_ret1 hp rfl ?_)))
  exact ⟨b, ⟨hbe, rfl⟩, (hp.f1).tk 1⟩
 ·rw [decide_eq_false h1]
  (repeat (first | (refine nGuard ?_; refine N_guard_y rfl rfl rfl ?_) | (refine nLoad ?_; refine N_ldB rfl rfl rfl ?_)))
  refine N_call Tryz.func58 (by kernel_rfl) rfl (fun F w hp => ?_); refine Ret.mono (specDepth_x b _ (rNet_r (hp.pre.take (rNet b))) hbok.S' hbok.W) ?_; rintro _ w ⟨rfl, hx⟩; have hp := hp.ext hx; refine ⟨fun _ => hp.sub (by (repeat (first | exact List.sublist_append_left _ _ | apply List.Sublist.cons))), _, hp, ?_⟩; clear hp; refine N_ops rfl rfl ?_; (repeat (first | (refine nGuard ?_; refine N_guard_y rfl rfl rfl ?_) | (refine nLoad ?_; refine N_ldB rfl rfl rfl ?_)))
  refine N_call Tryz.func58 (by kernel_rfl) rfl (fun F w hp => ?_); refine Ret.mono (specDepth_x a _ (rNet_r (hp.pre.take (rNet a))) haok.S' haok.W) ?_; rintro _ w ⟨rfl, hx⟩; have hp := hp.ext hx; refine ⟨fun _ => hp.sub (by (repeat (first | exact List.sublist_append_left _ _ | apply List.Sublist.cons))), _, hp, ?_⟩; clear hp; refine N_ops rfl rfl ?_; (repeat (refine N_guard_y rfl rfl rfl ?_))
  by_cases h2 : depthL b.n = depthL a.n
  ·rw [decide_eq_true h2]
   (repeat (first | (refine nGuard ?_; refine N_guard_y rfl rfl rfl ?_) | (refine nLoad ?_; refine N_ldB rfl rfl rfl ?_)))
   refine N_end ?_; intro w hp C; refine h_run rfl ?_; skip
   have hbl : b.n.ands.length = b.ands.length := rfl
   have hal : a.n.ands.length = a.ands.length := rfl
   refine h_cond_dec (fun h3 => ?_) (fun h3 => ?_)
   ·have hopt : optP (refF x.n) (optB x.n) := by rw [← hae, ← hbe]; exact .inr ⟨h2, by omega⟩
    rw [optL_yes hopt]
    refine h_cond_t rfl rfl ?_; (repeat (first | (refine gLoad ?_; refine H_ldB hp rfl rfl ?_) | (refine gStore ?_; refine U_stBN hp rfl rfl rfl rfl ?_; intro w hp; refine ops_run nopre rfl ?_) | (refine gRetc ?_; refine R_ret1 hp rfl ?_)))
    exact ⟨b, ⟨hbe, rfl⟩, (hp.f1).tk 1⟩
   ·have hopt : ¬ optP (refF x.n) (optB x.n) := by rw [← hae, ← hbe]; unfold optP; omega
    rw [optL_no hopt]
    refine h_cond_f rfl rfl ?_; (repeat (first | (refine gLoad ?_; refine H_ldB hp rfl rfl ?_) | (refine gStore ?_; refine U_stBN hp rfl rfl rfl rfl ?_; intro w hp; refine ops_run nopre rfl ?_) | (refine gRetc ?_; refine R_ret1 hp rfl ?_)))
    exact ⟨a, ⟨hae, rfl⟩, (hp.f3).tk 1⟩
  ·rw [decide_eq_false h2]
   (repeat (refine nGuard ?_; first | refine N_guard_y rfl rfl rfl ?_ | refine N_guard_n rfl rfl rfl ?_))
   refine N_end ?_; intro w hp C; refine h_run rfl ?_; skip
   have hopt : ¬ optP (refF x.n) (optB x.n) := by rw [← hae, ← hbe]; unfold optP; omega
   rw [optL_no hopt]
   refine h_cond_f rfl rfl ?_; (repeat (first | (refine gLoad ?_; refine H_ldB hp rfl rfl ?_) | (refine gStore ?_; refine U_stBN hp rfl rfl rfl rfl ?_; intro w hp; refine ops_run nopre rfl ?_) | (refine gRetc ?_; refine R_ret1 hp rfl ?_)))
   exact ⟨a, ⟨hae, rfl⟩, (hp.f3).tk 1⟩
end Go.Proofs
