/- The contracts of the functions that make a step and a run; each under its stated conditions. -/
import Derived.Test.YtifjicajbgoamaaStepLaw
set_option linter.all false
namespace Go.Proofs
open Go.Xw
set_option maxRecDepth 100000
set_option maxHeartbeats 1000000
attribute [local irreducible] Holds elemAddr

theorem implSeqNext_h (k v i : Int) (w : World) : Ret Try.prog 74 [.int .i64 k, .int .i64 v, .int .i64 i] w (fun r w' => r = .int .i64 (seqNextL k v i) ∧ Ext w w') :=
  (implSeqNext_ok k v i w).mono fun _ _ ⟨h1, h2⟩ => ⟨h1, by rw [h2]; exact Ext.refl _⟩
theorem netStep_h (x : NetA) (a : Option Addr) (c : Nat) (st : List Int) (m : Nat) (hm : st.length = m) (inp : Int) (w0 : World) (hX : NetR w0 x) (hok : NetOkP x.n) (hst : stP x.n st) (hR : Rd w0 a 1 eI st) :
    Ret Try.prog 34 [x.v, .slice a m c, .int .i64 inp] w0 (fun v w => ∃ b c', v = .tuple ⟨[.slice b (nextL x.n st inp).length c', .int .i64 (outL x.n st inp)]⟩ ∧ Hp w0 w [rO 3 1 eI b c' (nextL x.n st inp)]) := by
  subst hm
  have hlen : st.length = x.seqs.length := by rw [hst.1, x.slen]
  have hnd := hok.nodes
  have hnn := hok.nums.n2
  have hsz := hok.size'
  refine enter Try.S34ok _ _ rfl rfl (by show _ ≤ _; simp only [List.length]; decide) (fun C => ?_); have hp := Hp.nil w0; refine h_run rfl ?_; skip; (first | (refine H_box hp ?_; intro w b3 hx hp) | (refine H_alloc hp rfl ?_; intro w b3 hx hp)); refine ops_run nopre rfl ?_; (repeat (refine H_ldB hp rfl rfl ?_))
  refine h_call rfl Try.func73 (by kernel_rfl) rfl (nodeValues_h x a c st inp _ hp.net hok hp.rd hlen) ?_; rintro _ w ⟨b8, c8, rfl, hq⟩; have hx := hq.x; have hp := hp.call1 hq; refine ops_run nopre rfl ?_; (repeat (refine H_ldB hp rfl rfl ?_))
  refine h_loop3 [1, 3, 8, 9, 17, 18, 19] (fun (i : Nat) (b : Option Addr) (c9 : Nat) => [(1, .slice a st.length c), (3, .pointer (some ⟨b3, 0, none⟩)), (8, .slice b8 (nds x.n) c8), (9, .slice b (nextTo x.n st (valsL x.n st inp) i).length c9), (17, .slice x.sa x.seqs.length x.sc), (18, .int .i64 x.seqs.length), (19, .int .i64 (i : Int))])
    (fun i b c9 w' => i ≤ x.seqs.length ∧ Hp w0 w' [rO 3 1 eI b c9 (nextTo x.n st (valsL x.n st inp) i), rO 3 1 eI b8 c8 (valsL x.n st inp), rB b3 28 x.cs]) (fun i _ _ => x.seqs.length - i) 0 none 0 rfl ⟨by omega, hp.ownN (Ext.refl _) (Own.nil _ _ _ _ _)⟩ ?_
  rintro i b c9 w1 ⟨hi, hp⟩ IH C
  have hnl := nextTo_len x.n st (valsL x.n st inp) i
  refine h_run rfl ?_; skip
  refine h_cond_dec (fun hlt => ?_) (fun hlt => ?_)
  · have hlt' : i < x.seqs.length := by omega
    have hin := hX.seqs.at_ hlt'
    have hib := hok.ins hlt'
    refine h_cond_t rfl rfl ?_; (repeat (refine H_ldEN hp rfl (by omega) rfl rfl ?_))
    (first | (refine H_box hp ?_; intro w b11 hx hp) | (refine H_alloc hp rfl ?_; intro w b11 hx hp)); refine ops_run nopre rfl ?_; (repeat (refine U_stBN hp rfl rfl rfl rfl ?_; intro w hp; refine ops_run nopre rfl ?_))
    refine D_draw hp (by kernel_rfl) (by kernel_rfl) rfl rfl ?_; intro w hx hp; have hs := hp; (repeat (refine gLoad ?_; first | refine D_ldB rfl rfl rfl ?_ | refine D_ldEN rfl (by omega) rfl rfl rfl ?_))
    refine h_callq rfl Try.func75 (by kernel_rfl) rfl (packLits_h _ _ _ _ (valsL x.n st inp) (x.seqs.getD i default).ins _ _ (valsL_len _ _ _) rfl _ hp.rd hp.rd (valsL_01 _ _ _) (inN hok hlt') (by omega) (by omega)) ?_; rintro _ w ⟨rfl, hx⟩; have hp := hp.ext hx; have hs := hs.ext hx; refine ⟨fun _ => hs, ?_⟩; refine D_ops rfl rfl ?_; skip
    refine h_callq rfl Try.func74 (by kernel_rfl) rfl (implSeqNext_h (x.seqs.getD i default).kind (st.getD i default) (packL (valsL x.n st inp) (x.seqs.getD i default).ins) _) ?_; rintro _ w ⟨rfl, hx⟩; have hp := hp.ext hx; have hs := hs.ext hx; refine ⟨fun _ => hs, ?_⟩; refine D_ops rfl rfl ?_; (repeat (refine V_litI (fun _ hx => hs.ext hx) hp rfl rfl rfl rfl rfl rfl rfl rfl rfl rfl ?_; intro w _ hx hp; have hs := hs.ext hx; refine D_ops rfl rfl ?_))
    refine V_append hp rfl rfl rfl rfl rfl rfl rfl (by decide) rfl (by first | omega | (simp only [List.length_append, List.length_cons, List.length_nil, List.length_take, List.length_drop, List.length_set, List.length_replicate, List.length_map]; omega)) rfl rfl (by kernel_rfl) ?_; intro b' c' w hp hnil; refine D_ops rfl rfl ?_; skip
    have e : nextTo x.n st (valsL x.n st inp) (i + 1) = nextTo x.n st (valsL x.n st inp) i ++ [seqNextL (x.seqs.getD i default).kind (st.getD i default) (packL (valsL x.n st inp) (x.seqs.getD i default).ins)] := by
      rw [nextTo, nextAt, x.skind, x.sins]
    refine IH (i + 1) b' c' _ _ _ (by omega) (by rw [e]; rfl) ⟨by omega, ?_⟩
    rw [e]
    exact hp.sub (by simp)
  · refine h_cond_f rfl rfl ?_; (repeat (refine H_ldB hp rfl rfl ?_))
    obtain rfl : i = x.seqs.length := by omega
    refine h_call rfl Try.func75 (by kernel_rfl) rfl (packLits_h _ _ _ _ (valsL x.n st inp) x.outs _ _ (valsL_len _ _ _) rfl _ hp.rd hp.rd (valsL_01 _ _ _) (outN hok) (by omega) (by omega)) ?_; rintro _ w ⟨rfl, hx⟩; have hp := hp.ext hx; refine ops_run nopre rfl ?_; (repeat (refine R_ret ?_))
    have e : nextL x.n st inp = nextTo x.n st (valsL x.n st inp) x.seqs.length := by rw [nextL, x.slen]
    rw [e]
    exact ⟨b, c9, rfl, hp.sub (by simp)⟩
theorem implNetRun_h (x : NetA) (a : Option Addr) (c : Nat) (ins : List Int) (w0 : World) (hX : NetR w0 x) (hok : NetOkP x.n) (hS : NetS x.n) (hR : Rd w0 a 1 eI ins) (hL : ins.length ≤ 16) :
    Ret Try.prog 12 [x.v, .slice a ins.length c] w0 (fun v w => ∃ b c', v = .slice b (runL x.n ins).length c' ∧ Hp w0 w [rO 3 1 eI b c' (runL x.n ins)]) := by
  refine enter Try.S12ok _ _ rfl rfl (by show _ ≤ _; simp only [List.length]; decide) (fun C => ?_); have hp := Hp.nil w0; refine h_run rfl ?_; skip; (first | (refine H_box hp ?_; intro w b2 hx hp) | (refine H_alloc hp rfl ?_; intro w b2 hx hp)); refine ops_run nopre rfl ?_; (repeat (refine H_ldB hp rfl rfl ?_))
  refine h_call rfl Try.func32 (by kernel_rfl) rfl ((implNetOk_h x _ hp.net hS).tt (netOkB_yes hok)) ?_; rintro _ w ⟨rfl, hx⟩; have hp := hp.ext hx; refine ops_run nopre rfl ?_; (repeat (refine h_guard_y rfl nopre rfl ?_))
  refine h_cond_f (decide_eq_false (by omega)) rfl ?_; (repeat (refine H_ldB hp rfl rfl ?_))
  refine h_call rfl Try.func33 (by kernel_rfl) rfl (netStart_h x _ hp.net hok) ?_; rintro _ w ⟨b5, c5, rfl, hq⟩; have hx := hq.x; have hp := hp.call1 hq; refine ops_run nopre rfl ?_; skip
  refine h_loop5 [2, 5, 6, 21, 22, 23] (fun (k : Nat) (b5 : Option Addr) (c5 : Nat) (b6 : Option Addr) (c6 : Nat) => [(2, .pointer (some ⟨b2, 0, none⟩)), (5, .slice b5 (stAt x.n ins k).length c5), (6, .slice b6 (runTo x.n ins k).length c6), (21, .slice a ins.length c), (22, .int .i64 ins.length), (23, .int .i64 (k : Int))])
    (fun k b5 c5 b6 c6 w' => k ≤ ins.length ∧ Hp w0 w' [rO 3 1 eI b6 c6 (runTo x.n ins k), rO 3 1 eI b5 c5 (stAt x.n ins k), rB b2 28 x.cs]) (fun k _ _ _ _ => ins.length - k) 0 b5 c5 none 0 rfl ⟨by omega, hp.ownN (Ext.refl _) (Own.nil _ _ _ _ _)⟩ ?_
  rintro k b5 c5 b6 c6 w1 ⟨hk, hp⟩ IH C
  have hrl := runTo_len x.n ins k
  refine h_run rfl ?_; skip
  refine h_cond_dec (fun hlt => ?_) (fun hlt => ?_)
  · have hlt' : k < ins.length := by omega
    refine h_cond_t rfl rfl ?_; (repeat (refine gLoad ?_; first | refine H_ldB hp rfl rfl ?_ | refine H_ldEN hp rfl (by omega) rfl rfl ?_))
    refine h_call rfl Try.func34 (by kernel_rfl) rfl (netStep_h x _ _ (stAt x.n ins k) _ rfl (ins.getD k default) _ hp.net hok (stAt_stP hok ins k) hp.rd) ?_; rintro _ w ⟨b9, c9, rfl, hq⟩; have hx := hq.x; have hp := hp.call1 hq; refine ops_run nopre rfl ?_; (repeat (refine U_litI hp rfl rfl rfl rfl rfl rfl rfl rfl rfl rfl ?_; intro w _ hx hp; refine ops_run nopre rfl ?_))
    refine U_append hp rfl rfl rfl rfl rfl rfl rfl (by decide) rfl (by first | omega | (simp only [List.length_append, List.length_cons, List.length_nil, List.length_take, List.length_drop, List.length_set, List.length_replicate, List.length_map]; omega)) rfl rfl ?_; intro b' c' w hp hnil; refine ops_run nopre rfl ?_; skip
    refine IH (k + 1) b9 c9 b' c' _ _ _ (by omega) rfl ⟨by omega, ?_⟩
    exact hp.drop.f1.sub (.cons_cons _ (.cons_cons _ (.cons _ (.refl _))))
  · refine h_cond_f rfl rfl ?_; (repeat (refine R_ret ?_))
    obtain rfl : k = ins.length := by omega
    exact ⟨b6, c6, rfl, hp.sub (by simp; exact .inl rfl)⟩

/-- the outputs of a step, for a right state -/
noncomputable def outF (n : NetL) (st : List Int) (inp : Int) : Int := if stOkB n st = true then outL n st inp else 0
theorem outF_yes {n : NetL} {st : List Int} {inp : Int} (h : NetOkP n ∧ stP n st) : outF n st inp = outL n st inp := by rw [outF, if_pos (stOkB_yes h)]
theorem outF_no {n : NetL} {st : List Int} {inp : Int} (h : ¬ (NetOkP n ∧ stP n st)) : outF n st inp = 0 := by rw [outF, if_neg (by rw [stOkB_no h]; decide)]
theorem specNetStep_x (x : NetA) (a : Option Addr) (c : Nat) (st : List Int) (inp : Int) (w0 : World) (hX : NetR w0 x) (hS : NetS x.n) (hW : NetW x.n) (hR : Rd w0 a 1 eI st) (hL : st.length ≤ 1048576) (hV : ∀ i, i < st.length → i64R (st.getD i default)) (hI : i64R inp) :
    Ret Try.prog 25 [x.v, .slice a st.length c, .int .i64 inp] w0 (fun v w => ∃ b c', v = .tuple ⟨[.slice b (ifSt x.n st (nextL x.n st inp)).length c', .int .i64 (outF x.n st inp)]⟩ ∧ Hp w0 w [rO 3 1 eI b c' (ifSt x.n st (nextL x.n st inp))]) := by
  refine enter Try.S25ok _ _ rfl rfl (by show _ ≤ _; simp only [List.length]; decide) (fun C => ?_); have hp := Hp.nil w0; refine h_run rfl ?_; skip; (first | (refine H_box hp ?_; intro w b3 hx hp) | (refine H_alloc hp rfl ?_; intro w b3 hx hp)); refine ops_run nopre rfl ?_; (repeat (first | (refine gLoad ?_; refine H_ldB hp rfl rfl ?_) | (refine gBuild ?_; refine U_litI hp rfl rfl rfl rfl rfl rfl rfl rfl rfl rfl ?_; intro w _ hx hp; refine ops_run nopre rfl ?_)))
  by_cases hok2 : NetOkP x.n ∧ stP x.n st
  · have hok := hok2.1
    have hst := hok2.2
    have hlen : st.length = x.seqs.length := by rw [hst.1, x.slen]
    have hnd := hok.nodes
    have hnn := hok.nums.n2
    have hsz := hok.size'
    refine h_call rfl Try.func50 (by kernel_rfl) rfl ((specStateOk_x x a c st _ hp.net hS hW hp.rd hL hV).tt (stOkB_yes hok2)) ?_; rintro _ w ⟨rfl, hx⟩; have hp := hp.ext hx; refine ops_run nopre rfl ?_; skip
    refine h_cond_f rfl rfl ?_; (repeat (refine H_ldB hp rfl rfl ?_))
    rw [ifSt_yes hok2, outF_yes hok2]
    refine h_call rfl Try.func51 (by kernel_rfl) rfl (specNodeValues_x x a c st inp _ hp.net hS hW hp.rd hL hV hI) ?_; rintro _ w ⟨b8, c8, rfl, hq⟩; have hx := hq.x; have hp := hp.call1 hq; refine ops_run nopre rfl ?_; skip
    rw [ifSt_yes hok2]
    rw [ifSt_yes hok2] at hp
    refine h_loop3 [1, 3, 8, 9, 10] (fun (i : Nat) (b : Option Addr) (c9 : Nat) => [(1, .slice a st.length c), (3, .pointer (some ⟨b3, 0, none⟩)), (8, .slice b (nextTo x.n st (valsL x.n st inp) i).length c9), (9, .slice b8 (valsL x.n st inp).length c8), (10, .int .i64 (i : Int))])
      (fun i b c9 w' => i ≤ x.seqs.length ∧ Hp w0 w' [rO 3 1 eI b c9 (nextTo x.n st (valsL x.n st inp) i), rO 3 1 eI b8 c8 (valsL x.n st inp), rB b3 28 x.cs]) (fun i _ _ => x.seqs.length - i) 0 _ _ rfl ⟨by omega, hp.f1⟩ ?_
    rintro i b c9 w1 ⟨hi, hp⟩ IH C
    have hnl := nextTo_len x.n st (valsL x.n st inp) i
    have hvl := valsL_len x.n st inp
    refine h_run rfl ?_; (repeat (refine H_ldB hp rfl rfl ?_))
    refine h_cond_dec (fun hlt => ?_) (fun hlt => ?_)
    · have hlt' : i < x.seqs.length := by omega
      have hin := hX.seqs.at_ hlt'
      have hib := hok.ins hlt'
      have hiN := inN hok hlt'
      rw [← hvl] at hiN
      refine h_cond_t rfl rfl ?_; skip
      refine D_draw hp (by kernel_rfl) (by kernel_rfl) rfl rfl ?_; intro w hx hp; have hs := hp; (repeat (refine gLoad ?_; first | refine D_ldB rfl rfl rfl ?_ | refine D_ldEN rfl (by omega) rfl rfl rfl ?_ | refine D_ldFN rfl (by omega) rfl rfl rfl ?_))
      refine h_callq rfl Try.func53 (by kernel_rfl) rfl (l09Mask_h _ _ _ _ (valsL x.n st inp) (x.seqs.getD i default).ins _ _ rfl rfl _ hp.rd hp.rd (valsL_01 _ _ _) hiN (by omega) (by omega)) ?_; rintro _ w ⟨rfl, hx⟩; have hp := hp.ext hx; have hs := hs.ext hx; refine ⟨fun _ => hs, ?_⟩; refine D_ops rfl rfl ?_; skip
      refine h_callq rfl Try.func52 (by kernel_rfl) rfl (specSeqNext_ok (x.seqs.getD i default).kind (st.getD i default) (packL (valsL x.n st inp) (x.seqs.getD i default).ins) _) ?_; rintro _ w ⟨rfl, hx⟩; have hp := hp.ext hx; have hs := hs.ext hx; refine ⟨fun _ => hs, ?_⟩; refine D_ops rfl rfl ?_; (repeat (refine V_litI (fun _ hx => hs.ext hx) hp rfl rfl rfl rfl rfl rfl rfl rfl rfl rfl ?_; intro w _ hx hp; have hs := hs.ext hx; refine D_ops rfl rfl ?_))
      refine V_append hp rfl rfl rfl rfl rfl rfl rfl (by decide) rfl (by first | omega | (simp only [List.length_append, List.length_cons, List.length_nil, List.length_take, List.length_drop, List.length_set, List.length_replicate, List.length_map]; omega)) rfl rfl (by kernel_rfl) ?_; intro b' c' w hp hnil; refine D_ops rfl rfl ?_; skip
      have e : nextTo x.n st (valsL x.n st inp) (i + 1) = nextTo x.n st (valsL x.n st inp) i ++ [seqNextL (x.seqs.getD i default).kind (st.getD i default) (packL (valsL x.n st inp) (x.seqs.getD i default).ins)] := by
        rw [nextTo, nextAt, x.skind, x.sins]
      refine IH (i + 1) b' c' _ _ _ (by omega) (by rw [e]; rfl) ⟨by omega, ?_⟩
      rw [e]
      exact hp.sub (by simp)
    · refine h_cond_f rfl rfl ?_; (repeat (refine H_ldB hp rfl rfl ?_))
      obtain rfl : i = x.seqs.length := by omega
      have hoN := outN hok
      rw [← hvl] at hoN
      refine h_call rfl Try.func53 (by kernel_rfl) rfl (l09Mask_h _ _ _ _ (valsL x.n st inp) x.outs _ _ rfl rfl _ hp.rd hp.rd (valsL_01 _ _ _) hoN (by omega) (by omega)) ?_; rintro _ w ⟨rfl, hx⟩; have hp := hp.ext hx; refine ops_run nopre rfl ?_; (repeat (refine R_ret ?_))
      have e : nextL x.n st inp = nextTo x.n st (valsL x.n st inp) x.seqs.length := by rw [nextL, x.slen]
      rw [e]
      exact ⟨b, c9, rfl, hp.sub (by simp)⟩
  · refine h_call rfl Try.func50 (by kernel_rfl) rfl ((specStateOk_x x a c st _ hp.net hS hW hp.rd hL hV).ff (stOkB_no hok2)) ?_; rintro _ w ⟨rfl, hx⟩; have hp := hp.ext hx; refine ops_run nopre rfl ?_; skip
    refine h_cond_t rfl rfl ?_; (repeat (refine R_ret ?_))
    rw [ifSt_no hok2, outF_no hok2]
    exact ⟨_, _, rfl, hp.sub (by simp)⟩

/-- the outputs of all cycles, where there are not too many -/
noncomputable def runF (n : NetL) (ins : List Int) : List Int := if netOkB n = true ∧ ins.length ≤ 16 then runL n ins else []
theorem runF_yes {n : NetL} {ins : List Int} (h : NetOkP n) (hl : ins.length ≤ 16) : runF n ins = runL n ins := by rw [runF, if_pos ⟨netOkB_yes h, hl⟩]
theorem runF_no {n : NetL} {ins : List Int} (h : ¬ (NetOkP n ∧ ins.length ≤ 16)) : runF n ins = [] := by rw [runF, if_neg (fun hh => h ⟨netOkB_iff.1 hh.1, hh.2⟩)]
theorem implNetRun_x (x : NetA) (a : Option Addr) (c : Nat) (ins : List Int) (w0 : World) (hX : NetR w0 x) (hS : NetS x.n) (hW : NetW x.n) (hR : Rd w0 a 1 eI ins) (hL : ins.length ≤ 1048576) (hV : ∀ i, i < ins.length → i64R (ins.getD i default)) :
    Ret Try.prog 12 [x.v, .slice a ins.length c] w0 (fun v w => ∃ b c', v = .slice b (runF x.n ins).length c' ∧ Hp w0 w [rO 3 1 eI b c' (runF x.n ins)]) := by
  by_cases hok : NetOkP x.n
  · by_cases hl : ins.length ≤ 16
    · rw [runF_yes hok hl]
      exact implNetRun_h x a c ins w0 hX hok hS hR hl
    · rw [runF_no (fun h => hl h.2)]
      refine enter Try.S12ok _ _ rfl rfl (by show _ ≤ _; simp only [List.length]; decide) (fun C => ?_); have hp := Hp.nil w0; refine h_run rfl ?_; skip; (first | (refine H_box hp ?_; intro w b2 hx hp) | (refine H_alloc hp rfl ?_; intro w b2 hx hp)); refine ops_run nopre rfl ?_; (repeat (refine H_ldB hp rfl rfl ?_))
      refine h_call rfl Try.func32 (by kernel_rfl) rfl ((implNetOk_h x _ hp.net hS).tt (netOkB_yes hok)) ?_; rintro _ w ⟨rfl, hx⟩; have hp := hp.ext hx; refine ops_run nopre rfl ?_; (repeat (refine h_guard_y rfl nopre rfl ?_))
      refine h_cond_t (decide_eq_true (by omega)) rfl ?_; (repeat (refine R_ret ?_))
      exact ⟨none, 0, rfl, (Hp.of_ext hp.x).ownN (Ext.refl _) (Own.nil _ _ _ _ _)⟩
  · rw [runF_no (fun h => hok h.1)]
    refine enter Try.S12ok _ _ rfl rfl (by show _ ≤ _; simp only [List.length]; decide) (fun C => ?_); have hp := Hp.nil w0; refine h_run rfl ?_; skip; (first | (refine H_box hp ?_; intro w b2 hx hp) | (refine H_alloc hp rfl ?_; intro w b2 hx hp)); refine ops_run nopre rfl ?_; (repeat (refine H_ldB hp rfl rfl ?_))
    refine h_call rfl Try.func32 (by kernel_rfl) rfl ((implNetOk_h x _ hp.net hS).ff (netOkB_no hok)) ?_; rintro _ w ⟨rfl, hx⟩; have hp := hp.ext hx; refine ops_run nopre rfl ?_; (repeat (refine h_guard_n rfl nopre rfl ?_))
    refine h_cond_t rfl rfl ?_; (repeat (refine R_ret ?_))
    exact ⟨none, 0, rfl, (Hp.of_ext hp.x).ownN (Ext.refl _) (Own.nil _ _ _ _ _)⟩
theorem specNetRun_x (x : NetA) (a : Option Addr) (c : Nat) (ins : List Int) (w0 : World) (hX : NetR w0 x) (hS : NetS x.n) (hW : NetW x.n) (hR : Rd w0 a 1 eI ins) (hL : ins.length ≤ 1048576) (hV : ∀ i, i < ins.length → i64R (ins.getD i default)) :
    Ret Try.prog 8 [x.v, .slice a ins.length c] w0 (fun v w => ∃ b c', v = .slice b (runF x.n ins).length c' ∧ Hp w0 w [rO 3 1 eI b c' (runF x.n ins)]) := by
  refine enter Try.S8ok _ _ rfl rfl (by show _ ≤ _; simp only [List.length]; decide) (fun C => ?_); have hp := Hp.nil w0; refine h_run rfl ?_; skip; (first | (refine H_box hp ?_; intro w b2 hx hp) | (refine H_alloc hp rfl ?_; intro w b2 hx hp)); refine ops_run nopre rfl ?_; (repeat (first | (refine gLoad ?_; refine H_ldB hp rfl rfl ?_) | (refine gBuild ?_; refine U_litI hp rfl rfl rfl rfl rfl rfl rfl rfl rfl rfl ?_; intro w _ hx hp; refine ops_run nopre rfl ?_)))
  by_cases hok : NetOkP x.n
  · refine h_call rfl Try.func23 (by kernel_rfl) rfl ((specNetOk_h x _ hp.net hS hW).tt (netOkB_yes hok)) ?_; rintro _ w ⟨rfl, hx⟩; have hp := hp.ext hx; refine ops_run nopre rfl ?_; (repeat (refine h_guard_y rfl nopre rfl ?_))
    refine h_cond_dec (fun hbig => ?_) (fun hbig => ?_)
    · refine h_cond_t rfl rfl ?_; (repeat (refine R_ret ?_))
      rw [runF_no (fun h => by omega)]
      exact ⟨_, _, rfl, hp.sub (by simp)⟩
    · rw [runF_yes hok (by omega)]
      refine h_cond_f rfl rfl ?_; (repeat (refine H_ldB hp rfl rfl ?_))
      refine h_call rfl Try.func24 (by kernel_rfl) rfl (specNetStart_x x _ hp.net hS hW) ?_; rintro _ w ⟨b6, c6, rfl, hq⟩; have hx := hq.x; have hp := hp.call1 hq; refine ops_run nopre rfl ?_; skip
      rw [ifOk_yes hok]
      rw [ifOk_yes hok] at hp
      refine h_loop5 [1, 2, 5, 6, 7] (fun (k : Nat) (b6 : Option Addr) (c6 : Nat) (b5 : Option Addr) (c5 : Nat) => [(1, .slice a ins.length c), (2, .pointer (some ⟨b2, 0, none⟩)), (5, .slice b5 (runTo x.n ins k).length c5), (6, .slice b6 (stAt x.n ins k).length c6), (7, .int .i64 (k : Int))])
        (fun k b6 c6 b5 c5 w' => k ≤ ins.length ∧ Hp w0 w' [rO 3 1 eI b6 c6 (stAt x.n ins k), rO 3 1 eI b5 c5 (runTo x.n ins k), rB b2 28 x.cs]) (fun k _ _ _ _ => ins.length - k) 0 b6 c6 _ _ rfl ⟨by omega, hp⟩ ?_
      rintro k b6 c6 b5 c5 w1 ⟨hk, hp⟩ IH C
      have hrl := runTo_len x.n ins k
      refine h_run rfl ?_; skip
      refine h_cond_dec (fun hlt => ?_) (fun hlt => ?_)
      · have hlt' : k < ins.length := by omega
        have hst := stAt_stP hok ins k
        have hsz := hok.size'
        have hsl : (stAt x.n ins k).length ≤ 12 := by rw [hst.1, x.slen]; omega
        have hsr : ∀ i, i < (stAt x.n ins k).length → i64R ((stAt x.n ins k).getD i default) := fun i hi => by
          have h1 := hst.2 i hi
          have h2 : seqMostL (x.n.seqs.getD i default).kind ≤ 31 := by unfold seqMostL; split <;> (try split) <;> omega
          unfold i64R; omega
        refine h_cond_t rfl rfl ?_; skip
        refine D_draw hp (by kernel_rfl) (by kernel_rfl) rfl rfl ?_; intro w hx hp; have hs := hp; (repeat (refine gLoad ?_; first | refine D_ldB rfl rfl rfl ?_ | refine D_ldEN rfl (by omega) rfl rfl rfl ?_))
        refine h_callq rfl Try.func25 (by kernel_rfl) rfl (specNetStep_x x _ _ (stAt x.n ins k) (ins.getD k default) _ hp.net hS hW hp.rd (by omega) hsr (hV k hlt')) ?_; rintro _ w ⟨b9, c9, rfl, hq⟩; have hx := hq.x; have hp := hp.call1 hq; have hs := hs.ext hx; refine ⟨fun _ => hs, ?_⟩; refine D_ops rfl rfl ?_; skip
        rw [ifSt_yes ⟨hok, hst⟩, outF_yes ⟨hok, hst⟩]
        rw [ifSt_yes ⟨hok, hst⟩] at hp
        (repeat (refine U_litI hp rfl rfl rfl rfl rfl rfl rfl rfl rfl rfl ?_; intro w _ hx hp; refine ops_run nopre rfl ?_))
        refine U_append hp rfl rfl rfl rfl rfl rfl rfl (by decide) rfl (by first | omega | (simp only [List.length_append, List.length_cons, List.length_nil, List.length_take, List.length_drop, List.length_set, List.length_replicate, List.length_map]; omega)) rfl rfl ?_; intro b' c' w hp hnil; refine ops_run nopre rfl ?_; skip
        refine IH (k + 1) b9 c9 b' c' _ _ _ (by omega) rfl ⟨by omega, ?_⟩
        exact hp.drop.sub (.cons_cons _ (.cons _ (.cons_cons _ (.refl _))))
      · refine h_cond_f rfl rfl ?_; (repeat (refine R_ret ?_))
        obtain rfl : k = ins.length := by omega
        exact ⟨b5, c5, rfl, hp.drop.sub (by simp; exact .inl rfl)⟩
  · refine h_call rfl Try.func23 (by kernel_rfl) rfl ((specNetOk_h x _ hp.net hS hW).ff (netOkB_no hok)) ?_; rintro _ w ⟨rfl, hx⟩; have hp := hp.ext hx; refine ops_run nopre rfl ?_; (repeat (refine h_guard_n rfl nopre rfl ?_))
    refine h_cond_t rfl rfl ?_; (repeat (refine R_ret ?_))
    rw [runF_no (fun h => hok h.1)]
    exact ⟨_, _, rfl, hp.sub (by simp)⟩
end Go.Proofs
