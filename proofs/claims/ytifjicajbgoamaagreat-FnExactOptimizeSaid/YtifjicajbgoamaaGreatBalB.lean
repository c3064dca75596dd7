/- Texts that belong together; each under its stated conditions. -/
import Derived.Test.YtifjicajbgoamaaGreatIns
import Derived.Test.YtifjicajbgoamaaGreatCone
import Derived.Test.YtifjicajbgoamaaGreatTabLaw
import Derived.Test.YtifjicajbgoamaaGreatBalA
set_option linter.all false
section
namespace Go.Proofs
open Go.Xw
set_option maxRecDepth 100000
set_option maxHeartbeats 1000000
attribute [local irreducible] Holds elemAddr
noncomputable def conjF (n : NetL) (k : Int) : List Int := @ite _ (NetOkP n ∧ firstAndL n ≤ k ∧ k < nodesL n) (Classical.propDecidable _) (conjL n k.toNat) []
theorem conjF_yes {n : NetL} {k : Int} (h : NetOkP n ∧ firstAndL n ≤ k ∧ k < nodesL n) : conjF n k = conjL n k.toNat := by unfold conjF; rw [if_pos h]
theorem conjF_no {n : NetL} {k : Int} (h : ¬ (NetOkP n ∧ firstAndL n ≤ k ∧ k < nodesL n)) : conjF n k = [] := by unfold conjF; rw [if_neg h]
theorem specConjuncts_x (x : NetA) (k : Int) (w0 : World) (hX : NetR w0 x) (hS : NetS x.n) (hW : NetW x.n) (hK : i64R k) :
  Ret Tryz.prog 102 [x.v, .int .i64 k] w0 (fun v w => ∃ b c, v = .slice b (conjF x.n k).length c ∧ Hp w0 w [rO 3 1 eI b c (conjF x.n k)]) := by
 refine enter Tryz.S102ok _ _ rfl rfl (by show _ ≤ _; simp only [List.length]; decide) (fun C => ?_); have hp := Hp.nil w0; refine h_run rfl ?_; skip; (first | refine H_box hp ?_ | refine H_alloc hp rfl ?_); intro w b2 hx hp; refine ops_run nopre rfl ?_; (repeat (first | (refine gLoad ?_; refine H_ldB hp rfl rfl ?_) | (refine gBuild ?_; refine U_litI hp rfl rfl rfl rfl rfl rfl rfl rfl rfl rfl ?_; intro w _ hx hp; refine ops_run nopre rfl ?_)))
 by_cases hok : NetOkP x.n
 ·have hn := hok.nums
  obtain ⟨n1, n2, n3, n4, n5, n6⟩ := hn
  have hn := hok.nums
  have hnd := hok.nodes
  have hal : x.n.ands.length = x.ands.length := rfl
  have hcnt : nodeCountL x.n = nodesL x.n := if_pos hok.size
  refine h_call rfl Tryz.func50 (by kernel_rfl) rfl ((specNetOk_h x _ hp.net hS hW).tt (netOkB_yes hok)) ?_; rintro _ w ⟨rfl, hx⟩; have hp := hp.ext hx; refine ops_run nopre rfl ?_; (repeat (first | (refine gGuard ?_; refine h_guard_y rfl nopre rfl ?_) | (refine gLoad ?_; refine H_ldB hp rfl rfl ?_)))
  refine h_call rfl Tryz.func24 (by kernel_rfl) rfl (l08First_h x _ hok.b) ?_; rintro _ w ⟨rfl, hx⟩; have hp := hp.ext hx; refine ops_run nopre rfl ?_; (repeat (refine h_guard_y rfl nopre rfl ?_))
  refine h_guard_by (fun h1 => ?_) (fun h1 => ?_); all_goals (rw [h1]; (first | replace h1 := of_decide_eq_true h1 | replace h1 := of_decide_eq_false h1 | skip); (repeat (first | (refine gGuard ?_; first | refine h_guard_y rfl nopre rfl ?_ | refine h_guard_n rfl nopre rfl ?_) | (refine gLoad ?_; refine H_ldB hp rfl rfl ?_))))
  ·refine h_cond_t rfl rfl ?_; (repeat (refine R_ret ?_))
   rw [conjF_no (fun h => by omega)]
   exact ⟨_, _, rfl, hp.sub (by simp)⟩
  ·refine h_call rfl Tryz.func62 (by kernel_rfl) rfl (specNodeCount_h x _) ?_; rintro _ w ⟨rfl, hx⟩; have hp := hp.ext hx; refine ops_run nopre rfl ?_; (repeat (refine h_guard_y rfl nopre rfl ?_))
   rw [hcnt]
   refine h_cond_dec (fun h2 => ?_) (fun h2 => ?_)
   ·refine h_cond_t rfl rfl ?_; (repeat (refine R_ret ?_))
    rw [conjF_no (fun h => by omega)]
    exact ⟨_, _, rfl, hp.sub (by simp)⟩
   ·obtain ⟨k', rfl⟩ := Int.eq_ofNat_of_zero_le (show 0 ≤ k by omega)
    have hk : k' < nds x.n := by omega
    rw [conjF_yes ⟨hok, by omega, by omega⟩]
    show Holds _ _ (fun v w => ∃ b c, v = .slice b (conjL x.n k').length c ∧ Hp w0 w [rO 3 1 eI b c (conjL x.n k')]) _ _ _
    refine h_cond_f rfl rfl ?_; (repeat (refine H_ldB hp rfl rfl ?_))
    refine h_call rfl Tryz.func62 (by kernel_rfl) rfl (specNodeCount_h x _) ?_; rintro _ w ⟨rfl, hx⟩; have hp := hp.ext hx; refine ops_run nopre rfl ?_; skip
    rw [hcnt, show 2 * nodesL x.n = ((2 * nds x.n : Nat) : Int) by omega]
    have hrl : (List.replicate (2 * nds x.n) false).length = 2 * nds x.n := by simp
    refine H_make hp eB false rfl rfl rfl rfl (s := 1) rfl (by decide) rfl (by unfold maxLen; omega) (by show 1 * _ ≤ _; omega) ?_; intro w b6 hx hp; refine ops_run nopre rfl ?_; (repeat (refine U_st0 hp rfl rfl rfl (by omega) (by decide) rfl rfl ?_; intro w hp; refine ops_run nopre rfl ?_))
    have hz0 : (2 * (k' : Int)).toNat = 2 * k' := by omega
    rw [hz0] at hp
    refine h_loop4 [2, 5, 6, 7] (fun (K : Nat) (_ : List Bool) (ob : Option Addr) (oc : Nat) => [(2, .pointer (some ⟨b2, 0, none⟩)), (5, .slice ob 0 oc), (6, .slice (some ⟨b6, 0, none⟩) (2 * nds x.n) (2 * nds x.n)), (7, .int .i64 ((K : Int) - 1))])
     (fun K B ob oc w' => (fst_ x.n ≤ K ∧ K ≤ k' + 1) ∧ CTop x.n k' B K ∧ Hp w0 w' [rO 4 1 eB (some ⟨b6, 0, none⟩) (2 * nds x.n) B, rO 3 1 eI ob oc ([] : List Int), rB b2 31 x.cs]) (fun K _ _ _ => K) (k' + 1) ((List.replicate (2 * nds x.n) false).set (2 * k') true) _ _ (by rw [show (((k' + 1 : Nat) : Int)) - 1 = (k' : Int) by omega]; rfl) ⟨by omega, .start hk, hp⟩ ?_
    clear hp
    rintro K B ob oc w1 ⟨⟨hK1, hK2⟩, hT, hp⟩ IH C
    have hBl := hT.len
    refine h_run rfl ?_; (repeat (refine H_ldB hp rfl rfl ?_))
    refine h_call rfl Tryz.func24 (by kernel_rfl) rfl (l08First_h x _ hok.b) ?_; rintro _ w ⟨rfl, hx⟩; have hp := hp.ext hx; refine ops_run nopre rfl ?_; skip
    refine h_cond_dec (fun hlt => ?_) (fun hlt => ?_)
    ·have hz : (2 * ((K : Int) - 1)).toNat = 2 * (K - 1) := by omega
     have hTK : CTop x.n k' B (K - 1 + 1) := by rw [show K - 1 + 1 = K by omega]; exact hT
     have hi : K - 1 - fst_ x.n < x.ands.length := by omega
     have hki : fst_ x.n + (K - 1 - fst_ x.n) = K - 1 := by omega
     have hz3 : ((K : Int) - 1 - firstAndL x.n).toNat = K - 1 - fst_ x.n := by omega
     refine h_cond_t rfl rfl ?_; (repeat (refine H_ldE hp rfl (by omega) (by omega) rfl rfl ?_))
     refine h_cond_b (fun hb => ?_) (fun hb => ?_)
     ·rw [hz] at hb
      have Q := hok.and_ hi
      have Q' := Q
      rw [← hz3] at Q'
      obtain ⟨Q1, Q2, Q3, Q4⟩ := Q
      obtain ⟨Q1', Q2', Q3', Q4'⟩ := Q'
      have hTd := CTop.down hok hi (by rw [hki]; exact hTK) (by rw [hki]; exact hb)
      rw [hki] at hTd
      have hl1 : (B.set (2 * ((K : Int) - 1)).toNat false).length = B.length := by simp
      have hl2 : ((B.set (2 * ((K : Int) - 1)).toNat false).set (x.ands.getD ((K : Int) - 1 - firstAndL x.n).toNat default).1.toNat true).length = B.length := by simp
      refine h_cond_t rfl rfl ?_; skip
      refine N_draw hp (by kernel_rfl) (by kernel_rfl) rfl rfl ?_; (repeat (refine N_ldB rfl rfl rfl ?_))
      refine N_call Tryz.func24 (by kernel_rfl) rfl (fun F w hp => ?_); refine Ret.mono (l08First_h x _ hok.b) ?_; rintro _ w ⟨rfl, hx⟩; have hp := hp.ext hx; refine ⟨fun _ => hp.sub (by (repeat (first | exact List.sublist_append_left _ _ | apply List.Sublist.cons))), _, hp, ?_⟩; clear hp; refine N_ops rfl rfl ?_; (repeat (refine N_ldE rfl (by omega) (by omega) rfl rfl rfl ?_))
      (first | refine N_box ?_ | refine N_alloc rfl ?_); intro b8; refine N_ops rfl rfl ?_; (repeat (refine N_stBN rfl rfl rfl rfl (by kernel_rfl) ?_; refine N_ops rfl rfl ?_))
      refine N_end ?_; intro w hp C; refine h_run rfl ?_; (repeat (first | (refine gLoad ?_; refine H_ldB hp rfl rfl ?_) | (refine gStore ?_; refine U_st0 hp rfl rfl rfl (by omega) (by decide) rfl rfl ?_; intro w hp; refine ops_run nopre rfl ?_)))
      rw [hz3, hz] at hp
      exact IH (K - 1) _ ob oc _ _ _ (by omega) (by rw [show (((K - 1 : Nat) : Int)) - 1 = (K : Int) - 1 - 1 by omega]; rfl) ⟨by omega, hTd, hp.drop⟩
     ·rw [hz] at hb
      refine h_cond_f rfl rfl ?_; skip
      exact IH (K - 1) B ob oc _ _ _ (by omega) (by rw [show (((K - 1 : Nat) : Int)) - 1 = (K : Int) - 1 - 1 by omega]; rfl) ⟨by omega, hTK.skip (by rw [hb]; decide), hp⟩
    ·have hKe : K = fst_ x.n := by omega
     have hBe := hT.done hok (by omega)
     subst hBe
     clear IH
     refine h_cond_f rfl rfl ?_; skip
     refine h_loop3 [5, 6, 9] (fun (i : Nat) (b5 : Option Addr) (c5 : Nat) => [(5, .slice b5 (markedTo (listB (2 * nds x.n) fun l => CLf x.n (2 * (k' : Int)) (l : Int)) i).length c5), (6, .slice (some ⟨b6, 0, none⟩) (2 * nds x.n) (2 * nds x.n)), (9, .int .i64 (i : Int))])
      (fun i b5 c5 w' => i ≤ 2 * nds x.n ∧ Hp w0 w' [rO 3 1 eI b5 c5 (markedTo (listB (2 * nds x.n) fun l => CLf x.n (2 * (k' : Int)) (l : Int)) i), rO 4 1 eB (some ⟨b6, 0, none⟩) (2 * nds x.n) (listB (2 * nds x.n) fun l => CLf x.n (2 * (k' : Int)) (l : Int))]) (fun i _ _ => 2 * nds x.n - i) 0 ob oc rfl ⟨by omega, Hp.tk hp.f1 2⟩ ?_
     clear hp hBl hT hK1 hK2
     rintro i b5 c5 w1 ⟨hi, hp⟩ IH C
     have hBl := listB_len (2 * nds x.n) fun l => CLf x.n (2 * (k' : Int)) (l : Int)
     have hml := markedTo_len (listB (2 * nds x.n) fun l => CLf x.n (2 * (k' : Int)) (l : Int)) i
     refine h_run rfl ?_; skip
     refine h_cond_dec (fun hlt => ?_) (fun hlt => ?_)
     ·refine h_cond_t rfl rfl ?_; (repeat (refine H_ldEN hp rfl (by omega) rfl rfl ?_))
      refine h_cond_b (fun hb2 => ?_) (fun hb2 => ?_)
      ·refine h_cond_t rfl rfl ?_; (repeat (refine U_litI hp rfl rfl rfl rfl rfl rfl rfl rfl rfl rfl ?_; intro w _ hx hp; refine ops_run nopre rfl ?_))
       refine U_append hp rfl rfl rfl rfl rfl rfl rfl (by decide) rfl (by first | omega | (simp only [List.length_append, List.length_cons, List.length_nil, List.length_take, List.length_drop, List.length_set, List.length_replicate, List.length_map]; omega)) rfl rfl ?_; intro b' c'' w hp hnil; refine ops_run nopre rfl ?_; skip
       have e : markedTo (listB (2 * nds x.n) fun l => CLf x.n (2 * (k' : Int)) (l : Int)) (i + 1) = markedTo (listB (2 * nds x.n) fun l => CLf x.n (2 * (k' : Int)) (l : Int)) i ++ [(i : Int)] := by rw [markedTo, if_pos hb2]
       refine IH (i + 1) b' c'' _ _ _ (by omega) (by rw [e]; rfl) ⟨by omega, ?_⟩
       rw [e]
       exact hp.drop
      ·refine h_cond_f rfl rfl ?_; skip
       have e : markedTo (listB (2 * nds x.n) fun l => CLf x.n (2 * (k' : Int)) (l : Int)) (i + 1) = markedTo (listB (2 * nds x.n) fun l => CLf x.n (2 * (k' : Int)) (l : Int)) i := by rw [markedTo, if_neg (by rw [hb2]; decide)]
       refine IH (i + 1) b5 c5 _ _ _ (by omega) (by rw [e]; rfl) ⟨by omega, ?_⟩
       rw [e]
       exact hp
     ·refine h_cond_f rfl rfl ?_; (repeat (refine R_ret ?_))
      obtain rfl : i = 2 * nds x.n := by omega
      have e : conjL x.n k' = markedTo (listB (2 * nds x.n) fun l => CLf x.n (2 * (k' : Int)) (l : Int)) (2 * nds x.n) := by
       unfold conjL markedL
       rw [listB_len]
      rw [e]
      exact ⟨b5, c5, rfl, hp.sub (by simp)⟩
 ·refine h_call rfl Tryz.func50 (by kernel_rfl) rfl ((specNetOk_h x _ hp.net hS hW).ff (netOkB_no hok)) ?_; rintro _ w ⟨rfl, hx⟩; have hp := hp.ext hx; refine ops_run nopre rfl ?_; (repeat (refine h_guard_n rfl nopre rfl ?_))
  refine h_cond_t rfl rfl ?_; (repeat (refine R_ret ?_))
  rw [conjF_no (fun h => hok h.1)]
  exact ⟨_, _, rfl, hp.sub (by simp)⟩
end Go.Proofs
end
section
namespace Go.Proofs
open Go.Xw
set_option maxRecDepth 100000
set_option maxHeartbeats 1000000
attribute [local irreducible] Holds elemAddr
theorem AL_iff {x : NetA} (hok : NetOkP x.n) {l : Int} (h0 : 0 ≤ l) : AL x.n l ↔ l % 2 = 0 ∧ firstAndL x.n ≤ l / 2 ∧ l / 2 < nodesL x.n := by
 have hn := hok.nums
 have f2 := hn.f2
 have hnd := hok.nodes
 have hal : x.n.ands.length = x.ands.length := rfl
 constructor
 ·rintro ⟨i, hi, rfl⟩; omega
 ·rintro ⟨h1, h2, h3⟩
  exact ⟨(l / 2).toNat - fst_ x.n, by omega, by omega⟩
theorem conjuncts_h (x : NetA) (w0 : World) (hX : NetR w0 x) (hok : NetOkP x.n) (i : Nat) (hi : i < x.ands.length) :
  Ret Tryz.prog 106 [x.v, .int .i64 ((fst_ x.n + i : Nat) : Int)] w0 (fun v w => ∃ b c, v = .slice b (conjL x.n (fst_ x.n + i)).length c ∧ Hp w0 w [rO 3 1 eI b c (conjL x.n (fst_ x.n + i))]) := by
 have hn := hok.nums
 have n1 := hn.n1
 have n2 := hn.n2
 have f2 := hn.f2
 have hnd := hok.nodes
 have hal : x.n.ands.length = x.ands.length := rfl
 have hz : (((fst_ x.n + i : Nat) : Int) - firstAndL x.n).toNat = i := by omega
 have Q := hok.and_ hi
 refine enter Tryz.S106ok _ _ rfl rfl (by show _ ≤ _; simp only [List.length]; decide) (fun C => ?_); have hp := Hp.nil w0; refine h_run rfl ?_; skip; (first | refine H_box hp ?_ | refine H_alloc hp rfl ?_); intro w b2 hx hp; refine ops_run nopre rfl ?_; skip
 refine N_draw hp (by kernel_rfl) (by kernel_rfl) rfl rfl ?_; (repeat (refine N_ldB rfl rfl rfl ?_))
 refine N_call Tryz.func55 (by kernel_rfl) rfl (fun F w hp => ?_); refine Ret.mono (firstAnd_h x _ hok.b) ?_; rintro _ w ⟨rfl, hx⟩; have hp := hp.ext hx; refine ⟨fun _ => hp.sub (by (repeat (first | exact List.sublist_append_left _ _ | apply List.Sublist.cons))), _, hp, ?_⟩; clear hp; refine N_ops rfl rfl ?_; (repeat (refine N_ldE rfl (by omega) (by omega) rfl rfl rfl ?_))
 (first | refine N_box ?_ | refine N_alloc rfl ?_); intro b5; refine N_ops rfl rfl ?_; (repeat (refine N_stBN rfl rfl rfl rfl (by kernel_rfl) ?_; refine N_ops rfl rfl ?_))
 refine N_end ?_; intro w hp C; refine h_run rfl ?_; (repeat (first | (refine gLoad ?_; refine H_ldB hp rfl rfl ?_) | (refine gBuild ?_; refine U_litI hp rfl rfl rfl rfl rfl rfl rfl rfl rfl rfl ?_; intro w _ hx hp; refine ops_run nopre rfl ?_)))
 rw [hz] at hp ⊢
 refine h_call rfl Tryz.func136 (by kernel_rfl) rfl (insertInt_h _ _ [(x.ands.getD i default).1] (x.ands.getD i default).2 (by simp) hp) ?_; rintro _ w ⟨sa0, sc0, rfl, hp⟩; refine ops_run nopre rfl ?_; skip
 refine h_loop4 [2, 6] (fun (S : List Int) (_ : Nat) (sa : Option Addr) (sc : Nat) => [(2, .pointer (some ⟨b2, 0, none⟩)), (6, .slice sa S.length sc)])
  (fun S t sa sc w' => CSet x.n (fst_ x.n + i) S t ∧ Hp w0 w' [rO 3 1 eI sa sc S, rB b2 31 x.cs]) (fun _ t _ _ => t) (insL [(x.ands.getD i default).1] (x.ands.getD i default).2) (fst_ x.n + i) sa0 sc0 rfl ⟨.start hok hi, hp.f1.drop⟩ ?_
 clear hp
 rintro S t sa sc w1 ⟨hC, hp⟩ IH C
 have hlen := hC.len
 refine h_run rfl ?_; skip
 refine h_loop2 [2, 6, 7, 26, 27, 28] (fun (q : Nat) (at_ : Int) => [(2, .pointer (some ⟨b2, 0, none⟩)), (6, .slice sa S.length sc), (7, .int .i64 at_), (26, .slice sa S.length sc), (27, .int .i64 S.length), (28, .int .i64 (q : Int))])
  (fun q at_ w' => q ≤ S.length ∧ ((at_ = -1 ∧ ∀ j, j < q → ¬ AL x.n (S.getD j default)) ∨ ∃ j : Nat, at_ = j ∧ j < q ∧ AL x.n (S.getD j default) ∧ ∀ p, j < p → p < q → ¬ AL x.n (S.getD p default)) ∧ Hp w0 w' [rO 3 1 eI sa sc S, rB b2 31 x.cs]) (fun q _ => S.length - q) 0 (-1) rfl ⟨by omega, .inl ⟨rfl, fun j hj => by omega⟩, hp⟩ ?_
 rintro q at_ w2 ⟨hq, hat, hp⟩ IH2 C
 refine h_run rfl ?_; skip
 refine h_cond_dec (fun hlt => ?_) (fun hlt => ?_)
 ·have hlt' : q < S.length := by omega
  have hrg := hC.rng _ (getD_mem hlt')
  have hAL := AL_iff hok hrg.1
  refine h_cond_t rfl rfl ?_; (repeat (refine H_ldEN hp rfl (by omega) rfl rfl ?_))
  refine h_guard_by (fun h1 => ?_) (fun h1 => ?_); all_goals (rw [h1]; (first | replace h1 := of_decide_eq_true h1 | replace h1 := of_decide_eq_false h1 | skip); (repeat (first | (refine gGuard ?_; first | refine h_guard_y rfl nopre rfl ?_ | refine h_guard_n rfl nopre rfl ?_) | (refine gLoad ?_; refine H_ldB hp rfl rfl ?_))))
  ·refine h_call rfl Tryz.func39 (by kernel_rfl) rfl (isAnd_h x (S.getD q default / 2) _ hok.b) ?_; rintro _ w ⟨rfl, hx⟩; have hp := hp.ext hx; refine ops_run nopre rfl ?_; skip
   refine h_cond_dec (fun h2 => ?_) (fun h2 => ?_)
   ·refine h_cond_t rfl rfl ?_; skip
    refine IH2 (q + 1) (q : Int) _ _ _ (by omega) rfl ⟨by omega, .inr ⟨q, rfl, by omega, hAL.2 ⟨h1, h2⟩, fun p h3 h4 => by omega⟩, hp⟩
   ·refine h_cond_f rfl rfl ?_; skip
    refine IH2 (q + 1) at_ _ _ _ (by omega) rfl ⟨by omega, ?_, hp⟩
    have hno : ¬ AL x.n (S.getD q default) := fun h => h2 (hAL.1 h).2
    rcases hat with ⟨h3, h4⟩ | ⟨j, h3, h4, h5, h6⟩
    ·refine .inl ⟨h3, fun j hj => ?_⟩
     by_cases hj2 : j < q
     ·exact h4 j hj2
     ·obtain rfl : j = q := by omega
      exact hno
    ·refine .inr ⟨j, h3, by omega, h5, fun p hp1 hp2 => ?_⟩
     by_cases hj2 : p < q
     ·exact h6 p hp1 hj2
     ·obtain rfl : p = q := by omega
      exact hno
  ·refine h_cond_f rfl rfl ?_; skip
   refine IH2 (q + 1) at_ _ _ _ (by omega) rfl ⟨by omega, ?_, hp⟩
   have hno : ¬ AL x.n (S.getD q default) := fun h => h1 (hAL.1 h).1
   rcases hat with ⟨h3, h4⟩ | ⟨j, h3, h4, h5, h6⟩
   ·refine .inl ⟨h3, fun j hj => ?_⟩
    by_cases hj2 : j < q
    ·exact h4 j hj2
    ·obtain rfl : j = q := by omega
     exact hno
   ·refine .inr ⟨j, h3, by omega, h5, fun p hp1 hp2 => ?_⟩
    by_cases hj2 : p < q
    ·exact h6 p hp1 hj2
    ·obtain rfl : p = q := by omega
     exact hno
 ·obtain rfl : q = S.length := by omega
  clear IH2
  refine h_cond_f rfl rfl ?_; skip
  rcases hat with ⟨rfl, h4⟩ | ⟨j, rfl, h4, ⟨i', h5, h6⟩, h7⟩
  ·refine h_cond_t rfl rfl ?_; (repeat (refine R_ret ?_))
   have e := hC.done ((mem_iff_getD (p := fun l => ¬ AL x.n l)).2 h4)
   subst e
   exact ⟨sa, sc, rfl, hp.sub (by simp)⟩
  ·refine h_cond_f (decide_eq_false (by omega)) rfl ?_; skip
   obtain ⟨hD, hlt2⟩ := hC.down hok h5 h4 h6 (fun p h1 h2 => h7 p h1 h2)
   have hcap := hp.own.cap
   have Q' := hok.and_ (show i' < x.ands.length from h5)
   have hz2 : (S.getD j default / 2 - firstAndL x.n).toNat = i' := by rw [h6]; omega
   have hrg := hC.rng _ (getD_mem h4)
   have hfi : 0 ≤ S.getD j default / 2 - firstAndL x.n ∧ S.getD j default / 2 - firstAndL x.n < x.ands.length := by rw [h6]; omega
   refine N_draw hp (by kernel_rfl) (by kernel_rfl) rfl rfl ?_; (repeat (refine nLoad ?_; first | refine N_ldB rfl rfl rfl ?_ | refine N_ldEN rfl (by omega) rfl rfl rfl ?_))
   refine N_call Tryz.func55 (by kernel_rfl) rfl (fun F w hp => ?_); refine Ret.mono (firstAnd_h x _ hok.b) ?_; rintro _ w ⟨rfl, hx⟩; have hp := hp.ext hx; refine ⟨fun _ => hp.sub (by (repeat (first | exact List.sublist_append_left _ _ | apply List.Sublist.cons))), _, hp, ?_⟩; clear hp; refine N_ops rfl rfl ?_; (repeat (refine N_ldE rfl (by omega) (by omega) rfl rfl rfl ?_))
   (first | refine N_box ?_ | refine N_alloc rfl ?_); intro b10; refine N_ops rfl rfl ?_; (repeat (refine N_stBN rfl rfl rfl rfl (by kernel_rfl) ?_; refine N_ops rfl rfl ?_))
   refine N_end ?_; intro w hp C; refine h_run rfl ?_; skip
   rw [hz2] at hp
   have hT : RdH w0 [rO 3 1 eI sa sc S, rB b2 31 x.cs] (subA sa sc Tryz.ti3.size 0) 1 eI (S.take j) := own_take (s := 1) (by omega)
   have hDr : RdH w0 [rO 3 1 eI sa sc S, rB b2 31 x.cs] (subA sa sc Tryz.ti3.size ((j : Int) + 1).toNat) 1 eI (S.drop (j + 1)) := own_drop (s := 1) (by omega)
   have hTl : (S.take j).length = j := by rw [List.length_take]; omega
   have hDl : (S.drop (j + 1)).length = S.length - (j + 1) := List.length_drop
   have hrl : ([] ++ S.take j ++ S.drop (j + 1)).length ≤ 100000000 := by rw [List.nil_append, List.length_append]; omega
   have hil := insL_len ([] ++ S.take j ++ S.drop (j + 1)) (x.ands.getD i' default).1
   have hrl2 : ([] ++ S.take j ++ S.drop (j + 1)).length ≤ 10000 := by rw [List.nil_append, List.length_append]; omega
   refine N_draw hp (by kernel_rfl) (by kernel_rfl) rfl rfl ?_; (repeat (refine N_litI rfl rfl rfl rfl rfl rfl rfl rfl rfl rfl ?_; intro _; refine N_ops rfl rfl ?_))
   refine N_append (Y := S.take j) rfl hTl rfl rfl rfl rfl rfl (by decide) rfl (by simp only [List.length_nil]; omega) rfl rfl (fun hq => Bool.noConfusion (hq.symm.trans (by kernel_rfl : flagAt _ _ = false))) ?_; intro a2 c2 hnil; refine N_ops rfl rfl ?_; skip
   refine N_append (Y := S.drop (j + 1)) rfl hDl rfl rfl rfl rfl rfl (by decide) rfl (by simp only [List.nil_append]; omega) rfl rfl (fun hq => Bool.noConfusion (hq.symm.trans (by kernel_rfl : flagAt _ _ = false))) ?_; intro a3 c3 hnil; refine N_ops rfl rfl ?_; skip
   refine N_end ?_; intro w hp C; refine h_run rfl ?_; skip
   refine N_draw0 hp (Hp.one hp.f1) (by kernel_rfl) (by kernel_rfl) rfl rfl ?_; (repeat (refine N_ldB rfl rfl rfl ?_))
   refine N_call Tryz.func136 (by kernel_rfl) rfl (fun F w hp => ?_); refine Ret.mono (insertInt_F _ _ ([] ++ S.take j ++ S.drop (j + 1)) (x.ands.getD i' default).1 hrl hp) ?_; rintro _ w ⟨a4, c4, rfl, hp⟩; refine ⟨fun _ => Hp.one hp.f1, _, hp, ?_⟩; clear hp; refine N_ops rfl rfl ?_; (repeat (refine N_ldB rfl rfl rfl ?_))
   refine N_call Tryz.func136 (by kernel_rfl) rfl (fun F w hp => ?_); refine Ret.mono (insertInt_F _ _ (insL ([] ++ S.take j ++ S.drop (j + 1)) (x.ands.getD i' default).1) (x.ands.getD i' default).2 (by omega) hp) ?_; rintro _ w ⟨a5, c5, rfl, hp⟩; refine ⟨fun hq => Bool.noConfusion (hq.symm.trans (by kernel_rfl : flagAt _ _ = false)), _, hp, ?_⟩; clear hp; refine N_ops rfl rfl ?_; skip
   refine N_end ?_; intro w hp C; refine h_run rfl ?_; skip
   exact IH _ (fst_ x.n + i') a5 c5 _ _ _ hlt2 rfl ⟨hD, (hp.f1.drop).f1.drop⟩
end Go.Proofs
end
section
namespace Go.Xw
open Go.RowKit
theorem sl_cell {w w' : World} {a : Option Addr} {X : List Int} (h : ∀ k, k ∈ (blk a).toList → w'.heap[k]? = w.heap[k]?) (hs : Sl w a X.length 1 (fL eI X)) : Sl w' a X.length 1 (fL eI X) := by
 refine ⟨hs.1, fun i j hi hj => ?_⟩
 have h1 := hs.2 i j hi hj
 cases a with
 | none => exact absurd rfl (hs.1 (by omega))
 | some ad =>
  have hb := h ad.block (by simp [blk])
  unfold World.cell? at h1 ⊢
  have e : ((elemAddr (some ad) 1 (i : Int)).add j).block = ad.block := by unfold elemAddr; rw [block_of_add, block_of_add]; rfl
  rw [e] at h1 ⊢
  rw [hb]
  exact h1
def rV (a : Option Addr) (X : List Int) : Res where
 ids := (blk a).toList
 P w := Sl w a X.length 1 (fL eI X) ∧ ∀ k, k ∈ (blk a).toList → k < w.heap.size
 st := fun h ⟨h1, h2⟩ => ⟨sl_cell h h1, fun k hk => by
  have h3 := h2 k hk
  have h4 := h k hk
  rw [Array.getElem?_eq_getElem h3] at h4
  exact (Array.getElem?_eq_some_iff.1 h4).1⟩
 lt := fun h => h.2
instance RdH.rV {w0 : World} {L : List Res} {a : Option Addr} {X : List Int} : RdH w0 (rV a X :: L) a 1 eI X := ⟨fun _ hp => hp.g0.1⟩
theorem Hp.toV {w0 w : World} {L : List Res} {e : TypeId} {a : Option Addr} {c : Nat} {X : List Int} (h : Hp w0 w (rO e 1 eI a c X :: L)) : Hp w0 w (Go.Xw.rV a X :: L) :=
 h.upd (R' := Go.Xw.rV a X) ⟨rfl, rfl, rfl, Nat.le_refl _, fun _ _ _ => rfl⟩ ⟨h.sl eI_ok, fun k hk => (Own.lt h.own (by simpa using hk)).2⟩ (fun k hk => .inl hk) (by cases hk : Go.Xw.blk a <;> simp [Go.Xw.rV, hk])
theorem Hp.nilV {w0 w : World} {L : List Res} (h : Hp w0 w L) : Hp w0 w (Go.Xw.rV none [] :: L) :=
 Hp.toV (e := 0) (c := 0) (h.ownN (Ext.refl _) (Own.nil _ _ _ _ _))
theorem sl_drop {w : World} {a : Option Addr} {c k : Nat} {X : List Int} (hc : X.length ≤ c) (hk : k ≤ X.length) (hs : Sl w a X.length 1 (fL eI X)) : Sl w (subA a c 1 k) (X.drop k).length 1 (fL eI (X.drop k)) := by
 unfold subA
 split
 ·rename_i hck
  have e : X.drop k = [] := List.drop_eq_nil_of_le (by omega)
  rw [e]
  exact Sl.nil _ _ _ _
 ·refine ⟨fun hp hn => ?_, fun i j hi hj => ?_⟩
  ·rw [List.length_drop] at hp
   cases a with
   | none => exact hs.1 (by omega) rfl
   | some ad => cases hn
  ·rw [List.length_drop] at hi
   have h1 := hs.2 (k + i) j (by omega) hj
   cases a with
   | none => exact absurd rfl (hs.1 (by omega))
   | some ad =>
    have e1 : (elemAddr (Option.map (·.add (k * 1)) (some ad)) 1 (i : Int)).add j = (elemAddr (some ad) 1 ((k + i : Nat) : Int)).add j := by
     unfold elemAddr
     show ((ad.add (k * 1)).add ((i : Int).toNat * 1)).add j = (ad.add (((k + i : Nat) : Int).toNat * 1)).add j
     rw [add_of_add, add_of_add, add_of_add]
     congr 1
     omega
    have e2 : fL eI (X.drop k) i j = fL eI X (k + i) j := by
     unfold fL
     rw [List.getD_eq_getElem?_getD, List.getElem?_drop, ← List.getD_eq_getElem?_getD]
    rw [e1, h1, e2]
theorem sl_take {w : World} {a : Option Addr} {c k : Nat} {X : List Int} (hk : k ≤ X.length) (hs : Sl w a X.length 1 (fL eI X)) : Sl w (subA a c 1 0) (X.take k).length 1 (fL eI (X.take k)) := by
 rw [subA_zero]
 refine ⟨fun hp => hs.1 (by rw [List.length_take] at hp; omega), fun i j hi hj => ?_⟩
 rw [List.length_take] at hi
 have e2 : fL eI (X.take k) i j = fL eI X i j := by
  unfold fL
  rw [List.getD_eq_getElem?_getD, List.getElem?_take, if_pos (by omega), ← List.getD_eq_getElem?_getD]
 rw [e2]
 exact hs.2 i j (by omega) hj
theorem Hp.bk {w0 w : World} {L : List Res} {b : Nat} {t : TypeId} {cs : List Value} (hp : Hp w0 w L) [h : BkH w0 L b t cs] : Bk w b t cs := ⟨h.h w hp⟩
theorem Hp.dropV {w0 w : World} {L : List Res} {a : Option Addr} {c k : Nat} {X : List Int} (h : Hp w0 w (Go.Xw.rV a X :: L)) (hc : X.length ≤ c) (hk : k ≤ X.length) : Hp w0 w (Go.Xw.rV (subA a c 1 k) (X.drop k) :: L) := by
 have hb : Go.Xw.blk (subA a c 1 k) = Go.Xw.blk a := by
  unfold subA
  split
  ·rfl
  ·cases a with
   | none => rfl
   | some ad => show some (ad.add (k * 1)).block = some ad.block; rw [block_of_add]
 refine h.upd (R' := Go.Xw.rV (subA a c 1 k) (X.drop k)) ⟨rfl, rfl, rfl, Nat.le_refl _, fun _ _ _ => rfl⟩ ⟨?_, ?_⟩ (fun q hq => .inl (by simp only [Go.Xw.rV, hb] at hq ⊢; exact hq)) (by cases hq : Go.Xw.blk (subA a c 1 k) <;> simp [Go.Xw.rV, hq])
 ·exact sl_drop hc hk h.g0.1
 ·intro q hq
  rw [hb] at hq
  exact h.g0.2 q hq
end Go.Xw
namespace Go.Proofs
open Go.Xw
set_option maxRecDepth 100000
set_option maxHeartbeats 1000000
attribute [local irreducible] Holds elemAddr
theorem less_h (y : NetA) (B : Nat) (la : Option Addr) (lc m : Nat) (V : List Int) (hm : V.length = m) (x z : Int) (w0 : World) (hB : Bk w0 B 108 (y.cb (.slice la m lc))) (hV : Rd w0 la 1 eI V) (hx : 0 ≤ x ∧ x / 2 < m ∧ x ≤ 1000000) (hz : 0 ≤ z ∧ z / 2 < m ∧ z ≤ 1000000) :
  Ret Tryz.prog 137 [.pointer (some ⟨B, 0, none⟩), .int .i64 x, .int .i64 z] w0 (fun v w' => v = .bool (decide (ltB V x z)) ∧ Ext w0 w') := by
 subst hm
 have hne : la ≠ none := nn_of (Hp.nil w0) (X := V) (by omega)
 refine enter Tryz.S137ok _ _ rfl rfl (by show _ ≤ _; simp only [List.length]; decide) (fun C => ?_); have hp := Hp.nil w0; refine h_run rfl ?_; skip
 refine D_draw hp (by kernel_rfl) (by kernel_rfl) rfl rfl ?_; intro w hx hp; have hs := hp; (repeat (refine gLoad ?_; first | refine D_ldB rfl rfl rfl ?_ | refine D_ldE rfl (by omega) (by omega) rfl rfl rfl ?_))
 refine h_cond_dec (fun hne2 => ?_) (fun hne2 => ?_)
 ·refine h_cond_t rfl rfl ?_; skip
  refine D_draw hp (by kernel_rfl) (by kernel_rfl) rfl rfl ?_; intro w hx hp; have hs := hp; (repeat (first | (refine gLoad ?_; first | refine D_ldB rfl rfl rfl ?_ | refine D_ldE rfl (by omega) (by omega) rfl rfl rfl ?_) | refine R_ret ?_))
  refine ⟨?_, hp.x⟩
  congr 1
  have hne2 : nl V x ≠ nl V z := hne2
  show decide (nl V x < nl V z) = _
  refine decide_eq_decide.2 ?_
  unfold ltB
  omega
 ·refine h_cond_f rfl rfl ?_; (repeat (refine R_ret ?_))
  refine ⟨?_, hp.x⟩
  congr 1
  have hne2 : ¬ nl V x ≠ nl V z := hne2
  refine decide_eq_decide.2 ?_
  unfold ltB
  omega
theorem insert_h (y : NetA) (B : Nat) (la : Option Addr) (lc m : Nat) (V : List Int) (hm : V.length = m) (a : Option Addr) (c n : Nat) (X : List Int) (hn : X.length = n) (x : Int) (w0 : World) (hB : Bk w0 B 108 (y.cb (.slice la m lc))) (hV : Rd w0 la 1 eI V) (hX : Rd w0 a 1 eI X)
  (hx : 0 ≤ x ∧ x / 2 < m ∧ x ≤ 1000000) (hXb : ∀ l, l ∈ X → 0 ≤ l ∧ l / 2 < m ∧ l ≤ 1000000) (hs : SrtB V X) (hc : n ≤ c) (hnb : n ≤ 1000000) :
  Ret Tryz.prog 107 [.pointer (some ⟨B, 0, none⟩), .slice a n c, .int .i64 x] w0 (fun v w' => ∃ a' c', v = .slice a' (insB V X x).length c' ∧ (insB V X x).length ≤ c' ∧ ((a' = a ∧ insB V X x = X ∧ Ext w0 w') ∨ Hp w0 w' [rO 3 1 eI a' c' (insB V X x)])) := by
 subst hn
 refine enter Tryz.S107ok _ _ rfl rfl (by show _ ≤ _; simp only [List.length]; decide) (fun C => ?_); have hp := Hp.nil w0; refine h_run rfl ?_; skip
 refine h_loop [0, 1, 2, 7] (fun (i : Nat) => [(0, .pointer (some ⟨B, 0, none⟩)), (1, .slice a X.length c), (2, .int .i64 x), (7, .int .i64 (i : Int))])
  (fun i w' => i ≤ X.length ∧ (∀ j, j < i → ltB V (X.getD j default) x) ∧ Hp w0 w' []) (fun i => X.length - i) 0 rfl ⟨by omega, fun j hj => by omega, hp⟩ ?_
 clear hp
 rintro i w1 ⟨hi, hall, hp⟩ IH C
 have hpre : Rd w0 (subA a c Tryz.ti3.size 0) 1 eI (X.take i) := ⟨sl_take hi hX.h⟩
 have hsuf : Rd w0 (subA a c Tryz.ti3.size ((i : Int).toNat)) 1 eI (X.drop i) := ⟨by show Sl w0 (subA a c 1 i) (X.drop i).length 1 _; exact sl_drop hc hi hX.h⟩
 refine h_run rfl ?_; skip
 refine h_guard_by (fun hlt => ?_) (fun hlt => ?_); all_goals (rw [hlt]; (first | replace hlt := of_decide_eq_true hlt | replace hlt := of_decide_eq_false hlt | skip); (repeat (first | (refine gGuard ?_; first | refine h_guard_y rfl nopre rfl ?_ | refine h_guard_n rfl nopre rfl ?_) | (refine gLoad ?_; refine H_ldEN hp rfl (by omega) rfl rfl ?_))))
 ·have hlt' : i < X.length := by omega
  have hxi := hXb _ (getD_mem hlt')
  refine h_call rfl Tryz.func137 (by kernel_rfl) rfl (less_h y B la lc m V hm (X.getD i default) x _ hp.bk hp.rd hxi hx) ?_; rintro _ w ⟨rfl, hx⟩; have hp := hp.ext hx; refine ops_run nopre rfl ?_; skip
  refine h_cond_dec (fun hl => ?_) (fun hl => ?_)
  ·refine h_cond_t rfl rfl ?_; skip
   refine IH (i + 1) _ _ _ (by omega) rfl ⟨by omega, fun j hj => ?_, hp⟩
   by_cases hj2 : j < i
   ·exact hall j hj2
   ·obtain rfl : j = i := by omega
    exact hl
  ·have hnl : i < X.length → ¬ ltB V (X.getD i default) x := fun _ => hl
   refine h_cond_f rfl rfl ?_; skip
   refine h_guard_by (fun h5 => ?_) (fun h5 => ?_); all_goals (rw [h5]; (first | replace h5 := of_decide_eq_true h5 | replace h5 := of_decide_eq_false h5 | skip); (repeat (first | (refine gGuard ?_; first | refine h_guard_y rfl nopre rfl ?_ | refine h_guard_n rfl nopre rfl ?_) | (refine gLoad ?_; refine H_ldEN hp rfl (by omega) rfl rfl ?_))))
   ·refine h_cond_dec (fun h6 => ?_) (fun h6 => ?_)
    ·refine h_cond_t rfl rfl ?_; (repeat (refine R_ret ?_))
     rw [insB_in hlt' h6]
     exact ⟨a, c, rfl, hc, .inl ⟨rfl, rfl, hp.x⟩⟩
    ·have hnx : ¬ (i < X.length ∧ X.getD i default = x) := fun hh => h6 hh.2
     refine h_cond_f rfl rfl ?_; (repeat (refine U_litI hp rfl rfl rfl rfl rfl rfl rfl rfl rfl rfl ?_; intro w _ hx hp; refine ops_run nopre rfl ?_))
     refine U_append hp rfl (by rw [List.length_take]; omega) rfl rfl rfl rfl rfl (by decide) rfl (by first | omega | (simp only [List.length_append, List.length_cons, List.length_nil, List.length_take, List.length_drop, List.length_set, List.length_replicate, List.length_map]; omega)) rfl rfl ?_; intro a1 c1 w hp hnil; refine ops_run nopre rfl ?_; (repeat (refine U_litI hp rfl rfl rfl rfl rfl rfl rfl rfl rfl rfl ?_; intro w _ hx hp; refine ops_run nopre rfl ?_))
     refine U_append hp rfl rfl rfl rfl rfl rfl rfl (by decide) rfl (by first | omega | (simp only [List.length_append, List.length_cons, List.length_nil, List.length_take, List.length_drop, List.length_set, List.length_replicate, List.length_map]; omega)) rfl rfl ?_; intro a2 c2 w hp hnil; refine ops_run nopre rfl ?_; skip
     refine U_append hp rfl (by rw [List.length_drop]; omega) rfl rfl rfl rfl rfl (by decide) rfl (by first | omega | (simp only [List.length_append, List.length_cons, List.length_nil, List.length_take, List.length_drop, List.length_set, List.length_replicate, List.length_map]; omega)) rfl rfl ?_; intro a3 c3 w hp hnil; refine ops_run nopre rfl ?_; (repeat (refine R_ret ?_))
     have e : insB V X x = (([] ++ X.take i) ++ [x]) ++ X.drop i := by rw [insB_at hs hi hall (fun hh => hnl hh) hnx]; simp
     rw [e]
     have hcap := hp.f1.own.cap
     exact ⟨a3, c3, rfl, hcap, .inr (hp.f1.tk 1)⟩
   ·exact absurd hlt h5
 ·have hnl : i < X.length → ¬ ltB V (X.getD i default) x := fun h => by omega
  have hnx : ¬ (i < X.length ∧ X.getD i default = x) := fun hh => by omega
  refine h_cond_f rfl rfl ?_; skip
  refine h_guard_by (fun h5 => ?_) (fun h5 => ?_); all_goals (rw [h5]; (first | replace h5 := of_decide_eq_true h5 | replace h5 := of_decide_eq_false h5 | skip); (repeat (first | (refine gGuard ?_; first | refine h_guard_y rfl nopre rfl ?_ | refine h_guard_n rfl nopre rfl ?_) | (refine gLoad ?_; refine H_ldEN hp rfl (by omega) rfl rfl ?_))))
  ·exact absurd h5 hlt
  ·refine h_cond_f rfl rfl ?_; (repeat (refine U_litI hp rfl rfl rfl rfl rfl rfl rfl rfl rfl rfl ?_; intro w _ hx hp; refine ops_run nopre rfl ?_))
   refine U_append hp rfl (by rw [List.length_take]; omega) rfl rfl rfl rfl rfl (by decide) rfl (by first | omega | (simp only [List.length_append, List.length_cons, List.length_nil, List.length_take, List.length_drop, List.length_set, List.length_replicate, List.length_map]; omega)) rfl rfl ?_; intro a1 c1 w hp hnil; refine ops_run nopre rfl ?_; (repeat (refine U_litI hp rfl rfl rfl rfl rfl rfl rfl rfl rfl rfl ?_; intro w _ hx hp; refine ops_run nopre rfl ?_))
   refine U_append hp rfl rfl rfl rfl rfl rfl rfl (by decide) rfl (by first | omega | (simp only [List.length_append, List.length_cons, List.length_nil, List.length_take, List.length_drop, List.length_set, List.length_replicate, List.length_map]; omega)) rfl rfl ?_; intro a2 c2 w hp hnil; refine ops_run nopre rfl ?_; skip
   refine U_append hp rfl (by rw [List.length_drop]; omega) rfl rfl rfl rfl rfl (by decide) rfl (by first | omega | (simp only [List.length_append, List.length_cons, List.length_nil, List.length_take, List.length_drop, List.length_set, List.length_replicate, List.length_map]; omega)) rfl rfl ?_; intro a3 c3 w hp hnil; refine ops_run nopre rfl ?_; (repeat (refine R_ret ?_))
   have e : insB V X x = (([] ++ X.take i) ++ [x]) ++ X.drop i := by rw [insB_at hs hi hall (fun hh => hnl hh) hnx]; simp
   rw [e]
   have hcap := hp.f1.own.cap
   exact ⟨a3, c3, rfl, hcap, .inr (hp.f1.tk 1)⟩
end Go.Proofs
end
