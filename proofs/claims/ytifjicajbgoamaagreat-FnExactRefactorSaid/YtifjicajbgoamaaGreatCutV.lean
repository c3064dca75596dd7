/- The contract of the reference's CutTable; each under its stated conditions. -/
import Derived.Test.YtifjicajbgoamaaGreatCutU
import Derived.Test.YtifjicajbgoamaaGreatStepLaw
set_option linter.all false
namespace Go.Proofs
open Go.Xw
set_option maxRecDepth 100000
set_option maxHeartbeats 1000000
attribute [local irreducible] Holds elemAddr
theorem nodeCount_M (x : NetA) (N : Nat) (h : nodeCountL x.n = (N : Int)) (w0 : World) : Ret Tryz.prog 62 [x.v] w0 (fun v w => v = .int .i64 (N : Int) ∧ Ext w0 w) := by rw [← h]; exact specNodeCount_h x w0
theorem mem_take_succ {cut : List Int} {x : Int} {j : Nat} (hj : j < cut.length) : x ∈ cut.take (j + 1) ↔ x ∈ cut.take j ∨ cut.getD j default = x := by
  rw [take_snoc hj, List.mem_append, List.mem_singleton]
  exact ⟨fun h => h.imp id Eq.symm, fun h => h.imp id Eq.symm⟩
theorem specCutTable_x (x : NetA) (k : Int) (a : Option Addr) (c : Nat) (cut : List Int) (w0 : World) (hX : NetR w0 x) (hS : NetS x.n) (hW : NetW x.n) (hK : i64R k) (hR : Rd w0 a 1 eI cut) (hL : cut.length ≤ 1048576) (hV : ∀ i, i < cut.length → i64R (cut.getD i default)) :
    Ret Tryz.prog 27 [x.v, .int .i64 k, .slice a cut.length c] w0 (fun v w => v = .agg ⟨eII (tabF x.n k cut)⟩ ∧ Ext w0 w) := by
  refine enter Tryz.S27ok _ _ rfl rfl (by show _ ≤ _; simp only [List.length]; decide) (fun C => ?_); have hp := Hp.nil w0; refine h_run rfl ?_; skip; (first | (refine H_box hp ?_; intro w b3 hx hp) | (refine H_alloc hp rfl ?_; intro w b3 hx hp)); refine ops_run nopre rfl ?_; skip; (first | (refine H_box hp ?_; intro w b6 hx hp) | (refine H_alloc hp rfl ?_; intro w b6 hx hp)); refine ops_run nopre rfl ?_; (repeat (refine H_ldB hp rfl rfl ?_))
  by_cases h : NetOkP x.n ∧ (0 ≤ k ∧ k < nodesL x.n) ∧ cutP x.n k.toNat cut
  · have e : tabF x.n k cut = tabL x.n cut k.toNat := by unfold tabF; rw [if_pos (cutOkB_yes h)]
    refine h_call rfl Tryz.func23 (by kernel_rfl) rfl ((specCutOk_x x k a c cut _ hp.net hS hW hK hp.rd hL hV).tt (cutOkB_yes h)) ?_; rintro _ w ⟨rfl, hx⟩; have hp := hp.ext hx; refine ops_run nopre rfl ?_; skip
    obtain ⟨hok, hk, hc⟩ := h
    have hn := hok.nums
    have n1 := hn.n1
    have f2 := hn.f2
    have n4 := hn.n2
    have hnd := hok.nodes
    have hal : x.n.ands.length = x.ands.length := rfl
    obtain ⟨k', rfl⟩ := Int.eq_ofNat_of_zero_le hk.1
    rw [e, Int.toNat_natCast]
    rw [Int.toNat_natCast] at hc
    have hkn : k' < nds x.n := by omega
    have hA := hc.1.2
    have hml := hc.1.1
    obtain ⟨m, hm⟩ : ∃ m, m = cut.length := ⟨_, rfl⟩
    have h16 := pow_4 hml
    have hpm' : (2 : Int) ^ ((cut.length : Nat) : Int).toNat = ((2 ^ cut.length : Nat) : Int) := by rw [Int.toNat_natCast]; exact pow_nat _
    have hbkm : ((cut.length : Nat) : Int) ≤ ((IntKind.i64.bits : Nat) : Int) := by show ((cut.length : Nat) : Int) ≤ 64; omega
    have hnc : nodeCountL x.n = ((nds x.n : Nat) : Int) := by rw [n4]; exact if_pos hok.size
    refine h_cond_f rfl rfl ?_; skip
    (first | (refine H_box hp ?_; intro w b7 hx hp) | (refine H_alloc hp rfl ?_; intro w b7 hx hp)); refine ops_run nopre rfl ?_; (repeat (refine U_stBN hp rfl rfl rfl rfl ?_; intro w hp; refine ops_run nopre rfl ?_))
    refine h_loop [1, 2, 3, 6, 7, 8] (fun (i : Nat) => [(1, .int .i64 (k' : Int)), (2, .slice a cut.length c), (3, .pointer (some ⟨b3, 0, none⟩)), (6, .pointer (some ⟨b6, 0, none⟩)), (7, .pointer (some ⟨b7, 0, none⟩)), (8, .int .i64 (i : Int))])
      (fun i w' => i ≤ 2 ^ cut.length ∧ Hp w0 w' [rB b7 49 [.int .i64 (cut.length : Int), .int .i64 (tbTo x.n cut k' i)], rB b6 49 (cellsV Tryz.ti49.zero), rB b3 31 x.cs]) (fun i => 2 ^ cut.length - i) 0 rfl ⟨Nat.zero_le _, hp⟩ ?_
    clear hp
    rintro i w1 ⟨hi, hp⟩ IH C
    refine h_run rfl ?_; skip
    refine h_cond_dec (fun hlt => ?_) (fun hlt => ?_)
    · have hlt' : i < 2 ^ cut.length := by omega
      have hpi := pow_16 (show i < 16 by omega)
      have hpi' : (2 : Int) ^ ((i : Nat) : Int).toNat = 2 ^ i := by rw [Int.toNat_natCast]
      have hbki : ((i : Nat) : Int) ≤ ((IntKind.i64.bits : Nat) : Int) := by show ((i : Nat) : Int) ≤ 64; omega
      have hi16 : i < 16 := by omega
      clear hpm' hlt hi
      refine h_cond_t rfl rfl ?_; (repeat (refine H_ldB hp rfl rfl ?_))
      refine h_call rfl Tryz.func62 (by kernel_rfl) rfl (nodeCount_M x (nds x.n) hnc _) ?_; rintro _ w ⟨rfl, hx⟩; have hp := hp.ext hx; refine ops_run nopre rfl ?_; skip
      refine H_make hp eI 0 rfl rfl rfl rfl (s := 1) rfl (by decide) rfl (by unfold maxLen; omega) (by show 8 * _ ≤ _; omega) ?_; intro w b9 hx hp; refine ops_run nopre rfl ?_; skip
      refine h_loop [1, 2, 3, 6, 7, 8, 9, 10] (fun (q : Nat) => [(1, .int .i64 (k' : Int)), (2, .slice a cut.length c), (3, .pointer (some ⟨b3, 0, none⟩)), (6, .pointer (some ⟨b6, 0, none⟩)), (7, .pointer (some ⟨b7, 0, none⟩)), (8, .int .i64 (i : Int)), (9, .slice (some ⟨b9, 0, none⟩) (nds x.n) (nds x.n)), (10, .int .i64 (q : Int))])
        (fun q w' => q ≤ k' + 1 ∧ Hp w0 w' [rO 3 1 eI (some ⟨b9, 0, none⟩) (nds x.n) (cvTo x.n cut i q ++ List.replicate (nds x.n - q) 0), rB b7 49 [.int .i64 (cut.length : Int), .int .i64 (tbTo x.n cut k' i)], rB b6 49 (cellsV Tryz.ti49.zero), rB b3 31 x.cs]) (fun q => k' + 1 - q) 0 rfl ⟨Nat.zero_le _, hp⟩ ?_
      clear hp
      rintro q w2 ⟨hq, hp⟩ IH2 C2
      have hcl := cvTo_len x.n cut i q
      refine h_run rfl ?_; skip
      refine h_cond_dec (fun hlt2 => ?_) (fun hlt2 => ?_)
      · have hq' : q < nds x.n := by omega
        have hcv1 : cvTo x.n cut i (q + 1) = cvTo x.n cut i q ++ [cvAt x.n cut i (cvTo x.n cut i q) q] := rfl
        have hrep : List.replicate (nds x.n - q) (0 : Int) = List.replicate (nds x.n - (q + 1) + 1) 0 := by rw [show nds x.n - q = nds x.n - (q + 1) + 1 by omega]
        obtain ⟨base, hbase⟩ : ∃ base, base = cvTo x.n cut i q ++ List.replicate (nds x.n - q) 0 := ⟨_, rfl⟩
        have hbl : base.length = nds x.n := by rw [hbase]; simp; omega
        have hset : ∀ z, base.set q z = (cvTo x.n cut i q ++ [z]) ++ List.replicate (nds x.n - (q + 1)) 0 := fun z => by
          rw [hbase, hrep]
          have := row_set (cvTo x.n cut i q) (nds x.n - (q + 1)) (0 : Int) z
          rw [hcl] at this
          exact this
        rw [← hbase] at hp
        refine h_cond_t rfl rfl ?_; skip
        refine h_loop2 [1, 2, 3, 6, 7, 8, 9, 10, 11, 12] (fun (j : Nat) (s : Bool) => [(1, .int .i64 (k' : Int)), (2, .slice a cut.length c), (3, .pointer (some ⟨b3, 0, none⟩)), (6, .pointer (some ⟨b6, 0, none⟩)), (7, .pointer (some ⟨b7, 0, none⟩)), (8, .int .i64 (i : Int)), (9, .slice (some ⟨b9, 0, none⟩) (nds x.n) (nds x.n)), (10, .int .i64 (q : Int)), (11, .bool s), (12, .int .i64 (j : Int))])
          (fun j s w' => (j ≤ cut.length ∧ (s = true ↔ (q : Int) ∈ cut.take j)) ∧ Hp w0 w' [rO 3 1 eI (some ⟨b9, 0, none⟩) (nds x.n) (if s = true then base.set q (bitI i (cut.idxOf (q : Int))) else base), rB b7 49 [.int .i64 (cut.length : Int), .int .i64 (tbTo x.n cut k' i)], rB b6 49 (cellsV Tryz.ti49.zero), rB b3 31 x.cs]) (fun j _ => cut.length - j) 0 false rfl ⟨⟨Nat.zero_le _, by simp⟩, hp⟩ ?_
        clear hp
        rintro j s w3 ⟨⟨hj, hs⟩, hp⟩ IH3 C3
        have hbkj : ((j : Nat) : Int) ≤ ((IntKind.i64.bits : Nat) : Int) := by show ((j : Nat) : Int) ≤ 64; omega
        have hdl : (if s = true then base.set q (bitI i (cut.idxOf (q : Int))) else base).length = nds x.n := by split <;> simp [hbl]
        refine h_run rfl ?_; skip
        refine h_cond_dec (fun hlt3 => ?_) (fun hlt3 => ?_)
        · have hlt3' : j < cut.length := by omega
          have hmt := mem_take_succ (x := (q : Int)) hlt3'
          refine h_cond_t rfl rfl ?_; (repeat (refine H_ldEN hp rfl (by omega) rfl rfl ?_))
          refine h_cond_dec (fun he => ?_) (fun he => ?_)
          · have hidx := asc_idx hA hlt3' he
            refine h_cond_t rfl rfl ?_; (repeat (refine U_st0N hp rfl rfl rfl (by omega) (by decide) rfl rfl ?_; intro w hp; refine ops_run nopre rfl ?_))
            refine IH3 (j + 1) true _ _ _ (by omega) rfl ⟨⟨by omega, ⟨fun _ => hmt.2 (.inr he), fun _ => rfl⟩⟩, ?_⟩
            rw [if_pos rfl, hidx]
            have e5 : (if s = true then base.set q (bitI i (cut.idxOf (q : Int))) else base).set q (bitI i j) = base.set q (bitI i j) := by
              split
              · rw [List.set_set]
              · rfl
            rw [← e5]
            exact hp
          · refine h_cond_f rfl rfl ?_; skip
            refine IH3 (j + 1) s _ _ _ (by omega) rfl ⟨⟨by omega, ?_⟩, hp⟩
            rw [hs, hmt]
            exact ⟨.inl, fun h => h.resolve_right he⟩
        · obtain rfl : j = cut.length := by omega
          rw [List.take_length] at hs
          refine h_cond_f rfl rfl ?_; skip
          cases s with
          | true =>
            have hmem : (q : Int) ∈ cut := hs.1 rfl
            rw [if_pos rfl, hset] at hp
            (repeat (refine h_guard_n rfl nopre rfl ?_))
            refine h_cond_f rfl rfl ?_; skip
            refine IH2 (q + 1) _ _ _ (by omega) rfl ⟨by omega, ?_⟩
            rw [hcv1, show cvAt x.n cut i (cvTo x.n cut i q) q = bitI i (cut.idxOf (q : Int)) by unfold cvAt; rw [if_pos hmem]]
            exact hp
          | false =>
            have hmem : (q : Int) ∉ cut := fun h => by have := hs.2 h; cases this
            rw [if_neg (by decide)] at hp
            (repeat (first | (refine gGuard ?_; refine h_guard_y rfl nopre rfl ?_) | (refine gLoad ?_; refine H_ldB hp rfl rfl ?_)))
            refine h_call rfl Tryz.func24 (by kernel_rfl) rfl (l08First_h x _ hok.b) ?_; rintro _ w ⟨rfl, hx⟩; have hp := hp.ext hx; refine ops_run nopre rfl ?_; (repeat (refine h_guard_y rfl nopre rfl ?_))
            refine h_cond_dec (fun hf => ?_) (fun hf => ?_)
            · have hp5 : q - fst_ x.n < x.ands.length := by omega
              have hz : ((q : Int) - firstAndL x.n).toNat = q - fst_ x.n := by omega
              have Q := hok.and_ hp5
              have Q' := Q
              rw [← hz] at Q'
              obtain ⟨Q1, Q2, Q3, Q4⟩ := Q
              obtain ⟨Q1', Q2', Q3', Q4'⟩ := Q'
              refine h_cond_t rfl rfl ?_; skip
              refine N_draw hp (by kernel_rfl) (by kernel_rfl) rfl rfl ?_; (repeat (refine N_ldB rfl rfl rfl ?_))
              refine N_call Tryz.func24 (by kernel_rfl) rfl (fun F w hp => ?_); refine Ret.mono (l08First_h x _ hok.b) ?_; rintro _ w ⟨rfl, hx⟩; have hp := hp.ext hx; refine ⟨fun _ => hp.sub (by (repeat (first | exact List.sublist_append_left _ _ | apply List.Sublist.cons))), _, hp, ?_⟩; clear hp; refine N_ops rfl rfl ?_; (repeat (refine N_ldE rfl (by omega) (by omega) rfl rfl rfl ?_))
              (first | refine N_box ?_ | refine N_alloc rfl ?_); intro b13; refine N_ops rfl rfl ?_; (repeat (refine N_stBN rfl rfl rfl rfl (by kernel_rfl) ?_; refine N_ops rfl rfl ?_))
              refine N_end ?_; intro w hp C; refine h_run rfl ?_; skip
              rw [hz] at hp
              refine N_draw hp (by kernel_rfl) (by kernel_rfl) rfl rfl ?_; (repeat (refine N_ldB rfl rfl rfl ?_))
              refine N_call Tryz.func65 (by kernel_rfl) rfl (fun F w hp => ?_); refine Ret.mono (l09Bit_h _ _ base (nds x.n) hbl (x.ands.getD (q - fst_ x.n) default).1 _ hp.pre.rd Q1 (by omega) (by omega)) ?_; rintro _ w ⟨rfl, hx⟩; have hp := hp.ext hx; refine ⟨fun _ => hp.sub (by (repeat (first | exact List.sublist_append_left _ _ | apply List.Sublist.cons))), _, hp, ?_⟩; clear hp; refine N_ops rfl rfl ?_; (repeat (refine N_ldB rfl rfl rfl ?_))
              refine N_call Tryz.func65 (by kernel_rfl) rfl (fun F w hp => ?_); refine Ret.mono (l09Bit_h _ _ base (nds x.n) hbl (x.ands.getD (q - fst_ x.n) default).2 _ hp.pre.rd Q3 (by omega) (by omega)) ?_; rintro _ w ⟨rfl, hx⟩; have hp := hp.ext hx; refine ⟨fun _ => hp.sub (by (repeat (first | exact List.sublist_append_left _ _ | apply List.Sublist.cons))), _, hp, ?_⟩; clear hp; refine N_ops rfl rfl ?_; (repeat (refine N_st0N rfl rfl rfl (by omega) (by decide) rfl rfl (by kernel_rfl) ?_; refine N_ops rfl rfl ?_))
              refine N_end ?_; intro w hp C; refine h_run rfl ?_; skip
              refine IH2 (q + 1) _ _ _ (by omega) rfl ⟨by omega, ?_⟩
              rw [hcv1, show cvAt x.n cut i (cvTo x.n cut i q) q = bits .and .i64 (litV base (x.ands.getD (q - fst_ x.n) default).1) (litV base (x.ands.getD (q - fst_ x.n) default).2) by
                unfold cvAt
                rw [if_neg hmem, if_pos (by omega), hbase, litV_pad, litV_pad]
                rfl, ← hset]
              exact hp.drop
            · refine h_cond_f rfl rfl ?_; skip
              refine IH2 (q + 1) _ _ _ (by omega) rfl ⟨by omega, ?_⟩
              rw [hcv1, show cvAt x.n cut i (cvTo x.n cut i q) q = 0 by unfold cvAt; rw [if_neg hmem, if_neg (by omega)]]
              rw [hbase, hrep] at hp
              rw [List.append_assoc]
              exact hp
      · obtain rfl : q = k' + 1 := by omega
        have hval : (cvTo x.n cut i (k' + 1) ++ List.replicate (nds x.n - (k' + 1)) 0).getD k' default = cvL x.n cut k' i := by
          rw [get_left (by rw [hcl]; omega), cvTo_get (by omega)]
          unfold cvL
          rw [cvTo_get hkn]
        have h01 := cvL_01 x.n cut k' i
        have hrl : (cvTo x.n cut i (k' + 1) ++ List.replicate (nds x.n - (k' + 1)) (0 : Int)).length = nds x.n := by simp; omega
        have htb := tbTo_b x.n cut k' (show i ≤ 16 by omega)
        have hprod : 0 ≤ (cvTo x.n cut i (k' + 1) ++ List.replicate (nds x.n - (k' + 1)) 0).getD k' default * 2 ^ ((i : Nat) : Int).toNat ∧ (cvTo x.n cut i (k' + 1) ++ List.replicate (nds x.n - (k' + 1)) 0).getD k' default * 2 ^ ((i : Nat) : Int).toNat ≤ 65536 := by
          rw [hval, hpi']
          rcases h01 with e1 | e1 <;> rw [e1]
          · rw [Int.zero_mul]; omega
          · rw [Int.one_mul]; omega
        have hfin : tbTo x.n cut k' i + (cvTo x.n cut i (k' + 1) ++ List.replicate (nds x.n - (k' + 1)) 0).getD k' default * 2 ^ ((i : Nat) : Int).toNat = tbTo x.n cut k' (i + 1) := by rw [hval, hpi']; rfl
        refine h_cond_f rfl rfl ?_; skip
        refine N_draw hp (by kernel_rfl) (by kernel_rfl) rfl rfl ?_; (repeat (first | (refine nLoad ?_; first | refine N_ldB rfl rfl rfl ?_ | refine N_ldEN rfl (by omega) rfl rfl rfl ?_) | (refine nStore ?_; refine N_stB rfl rfl rfl rfl (by kernel_rfl) ?_; refine N_ops rfl rfl ?_)))
        refine N_end ?_; intro w hp C; refine h_run rfl ?_; skip
        rw [hfin] at hp
        exact IH (i + 1) _ _ _ (by omega) rfl ⟨by omega, hp.drop⟩
    · obtain rfl : i = 2 ^ cut.length := by omega
      refine h_cond_f rfl rfl ?_; (repeat (first | (refine gLoad ?_; refine H_ldB hp rfl rfl ?_) | (refine gStore ?_; refine U_stBN hp rfl rfl rfl rfl ?_; intro w hp; refine ops_run nopre rfl ?_) | (refine gRetc ?_; refine R_ret1 hp rfl ?_)))
      exact ⟨rfl, hp.x⟩
  · have e : tabF x.n k cut = (0, 0) := by unfold tabF; rw [if_neg (by rw [cutOkB_no h]; decide)]
    refine h_call rfl Tryz.func23 (by kernel_rfl) rfl ((specCutOk_x x k a c cut _ hp.net hS hW hK hp.rd hL hV).ff (cutOkB_no h)) ?_; rintro _ w ⟨rfl, hx⟩; have hp := hp.ext hx; refine ops_run nopre rfl ?_; skip
    refine h_cond_t rfl rfl ?_; (repeat (first | (refine gStore ?_; refine U_stBN hp rfl rfl rfl rfl ?_; intro w hp; refine ops_run nopre rfl ?_) | (refine gRetc ?_; refine R_ret1 hp rfl ?_)))
    exact ⟨by rw [e]; rfl, hp.x⟩
end Go.Proofs
