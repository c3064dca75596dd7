/- Texts that belong together; each under its stated conditions. -/
import Derived.Test.YtifjicajbgoamaaState
import Derived.Test.YtifjicajbgoamaaValLaw
set_option linter.all false
section
/- The contracts of the functions that give the values of nodes; each under its stated conditions. -/
namespace Go.Proofs
open Go.Xw
set_option maxRecDepth 100000
set_option maxHeartbeats 1000000
attribute [local irreducible] Holds elemAddr

theorem litValue_h (a : Option Addr) (c : Nat) (V : List Int) (m : Nat) (hm : V.length = m) (l : Int) (w0 : World) (hR : Rd w0 a 1 eI V) (h0 : 0 ≤ l) (h1 : l / 2 < m) (hb : m ≤ 1000000000) :
    Ret Try.prog 102 [.slice a m c, .int .i64 l] w0 (fun v w => v = .int .i64 (litV V l) ∧ Ext w0 w) := by
  subst hm
  refine enter Try.S102ok _ _ rfl rfl (by show _ ≤ _; simp only [List.length]; decide) (fun C => ?_); have hp := Hp.nil w0; refine h_run rfl ?_; (repeat (first | (refine gLoad ?_; refine H_ldE hp rfl (by omega) (by omega) rfl rfl ?_) | refine R_ret ?_))
  exact ⟨rfl, hp.x⟩
theorem l09Bit_h (a : Option Addr) (c : Nat) (V : List Int) (m : Nat) (hm : V.length = m) (l : Int) (w0 : World) (hR : Rd w0 a 1 eI V) (h0 : 0 ≤ l) (h1 : l / 2 < m) (hb : m ≤ 1000000000) :
    Ret Try.prog 81 [.slice a m c, .int .i64 l] w0 (fun v w => v = .int .i64 (litV V l) ∧ Ext w0 w) := by
  subst hm
  refine enter Try.S81ok _ _ rfl rfl (by show _ ≤ _; simp only [List.length]; decide) (fun C => ?_); have hp := Hp.nil w0; refine h_run rfl ?_; (repeat (first | (refine gLoad ?_; refine H_ldE hp rfl (by omega) (by omega) rfl rfl ?_) | refine R_ret ?_))
  exact ⟨rfl, hp.x⟩

theorem NetOkP.fst' {x : NetA} (h : NetOkP x.n) : fst_ x.n = 1 + x.inputs.toNat + x.seqs.length ∧ nds x.n = fst_ x.n + x.ands.length := by
  have h1 := h.size'
  have h2 := h.nums
  have h3 := firstAndL_eq x
  have h4 := h2.f2
  have h5 := h2.n1
  have h6 : x.n.ands.length = x.ands.length := rfl
  omega

theorem nodeValues_h (x : NetA) (a : Option Addr) (c : Nat) (st : List Int) (inp : Int) (w0 : World) (hX : NetR w0 x) (hok : NetOkP x.n) (hR : Rd w0 a 1 eI st) (hl : st.length = x.seqs.length) :
    Ret Try.prog 73 [x.v, .slice a st.length c, .int .i64 inp] w0 (fun v w => ∃ b c', v = .slice b (nds x.n) c' ∧ Hp w0 w [rO 3 1 eI b c' (valsL x.n st inp)]) := by
  have hn := hok.nums
  obtain ⟨n1, n2, n3, n4, n5, n6⟩ := hn
  have hnd := hok.nodes
  have hsz := hok.size'
  have hf := NetOkP.fst' hok
  have hal : x.n.ands.length = x.ands.length := rfl
  refine enter Try.S73ok _ _ rfl rfl (by show _ ≤ _; simp only [List.length]; decide) (fun C => ?_); have hp := Hp.nil w0; refine h_run rfl ?_; skip; (first | (refine H_box hp ?_; intro w b3 hx hp) | (refine H_alloc hp rfl ?_; intro w b3 hx hp)); refine ops_run nopre rfl ?_; (repeat (refine H_ldB hp rfl rfl ?_))
  refine h_call rfl Try.func56 (by kernel_rfl) rfl (nodeCount_h x _ hok.b) ?_; rintro _ w ⟨rfl, hx⟩; have hp := hp.ext hx; refine ops_run nopre rfl ?_; skip
  rw [← n4]
  refine H_make hp eI 0 rfl rfl rfl rfl (s := 1) rfl (by decide) rfl (by unfold maxLen; omega) (by show 8 * _ ≤ _; omega) ?_; intro w b7 hx hp; refine ops_run nopre rfl ?_; skip
  refine h_loop [1, 2, 3, 7, 8] (fun (k : Nat) => [(1, .slice a st.length c), (2, .int .i64 inp), (3, .pointer (some ⟨b3, 0, none⟩)), (7, .slice (some ⟨b7, 0, none⟩) (nds x.n) (nds x.n)), (8, .int .i64 (k : Int))])
    (fun k w' => k ≤ x.inputs.toNat ∧ Hp w0 w' [rO 3 1 eI (some ⟨b7, 0, none⟩) (nds x.n) (inTo x.n inp k), rB b3 28 x.cs]) (fun k => x.inputs.toNat - k) 0 rfl ⟨by omega, hp⟩ ?_
  rintro k w1 ⟨hk, hp⟩ IH C
  have hlen := inTo_len x.n inp k
  have h64 : (IntKind.i64.bits : Int) = 64 := rfl
  refine h_run rfl ?_; (repeat (refine H_ldB hp rfl rfl ?_))
  refine h_cond_dec (fun hlt => ?_) (fun hlt => ?_)
  · refine h_cond_t rfl rfl ?_; (repeat (refine U_st0 hp rfl rfl rfl (by omega) (by decide) rfl rfl ?_; intro w hp; refine ops_run nopre rfl ?_))
    refine IH (k + 1) _ _ _ (by omega) rfl ⟨by omega, ?_⟩
    rw [show (1 + (k : Int)).toNat = 1 + k by omega] at hp
    exact hp
  · obtain rfl : k = x.inputs.toNat := by omega
    refine h_cond_f rfl rfl ?_; skip
    refine h_loop [3, 7, 31, 32, 33] (fun (k : Nat) => [(3, .pointer (some ⟨b3, 0, none⟩)), (7, .slice (some ⟨b7, 0, none⟩) (nds x.n) (nds x.n)), (31, .slice a st.length c), (32, .int .i64 st.length), (33, .int .i64 (k : Int))])
      (fun k w' => k ≤ st.length ∧ Hp w0 w' [rO 3 1 eI (some ⟨b7, 0, none⟩) (nds x.n) (stTo x.n st inp k), rB b3 28 x.cs]) (fun k => st.length - k) 0 rfl ⟨by omega, hp⟩ ?_
    rintro k w1 ⟨hk, hp⟩ IH C
    have hlen := stTo_len x.n st inp k
    refine h_run rfl ?_; skip
    refine h_cond_dec (fun hlt => ?_) (fun hlt => ?_)
    · refine h_cond_t rfl rfl ?_; (repeat (refine gLoad ?_; first | refine H_ldB hp rfl rfl ?_ | refine H_ldEN hp rfl (by omega) rfl rfl ?_))
      refine h_call rfl Try.func101 (by kernel_rfl) rfl (firstSeq_h x _ hok.b) ?_; rintro _ w ⟨rfl, hx⟩; have hp := hp.ext hx; refine ops_run nopre rfl ?_; (repeat (refine U_st0 hp rfl rfl rfl (by omega) (by decide) rfl rfl ?_; intro w hp; refine ops_run nopre rfl ?_))
      refine IH (k + 1) _ _ _ (by omega) rfl ⟨by omega, ?_⟩
      rw [show (1 + x.inputs + (k : Int)).toNat = 1 + x.inputs.toNat + k by omega] at hp
      exact hp
    · obtain rfl : k = st.length := by omega
      refine h_cond_f rfl rfl ?_; (repeat (refine H_ldB hp rfl rfl ?_))
      refine h_loop [3, 7, 48, 49, 50] (fun (i : Nat) => [(3, .pointer (some ⟨b3, 0, none⟩)), (7, .slice (some ⟨b7, 0, none⟩) (nds x.n) (nds x.n)), (48, .slice x.aa x.ands.length x.ac), (49, .int .i64 x.ands.length), (50, .int .i64 (i : Int))])
        (fun i w' => i ≤ x.ands.length ∧ Hp w0 w' [rO 3 1 eI (some ⟨b7, 0, none⟩) (nds x.n) (vTo x.n st inp i), rB b3 28 x.cs]) (fun i => x.ands.length - i) 0 rfl ⟨by omega, hp⟩ ?_
      rintro i w1 ⟨hi, hp⟩ IH C
      have hlen := vTo_len x.n st inp i
      refine h_run rfl ?_; skip
      refine h_cond_dec (fun hlt => ?_) (fun hlt => ?_)
      · have hlt' : i < x.ands.length := by omega
        obtain ⟨q1, q2, q3, q4⟩ := hok.and_ hlt'
        refine h_cond_t rfl rfl ?_; (repeat (refine H_ldEN hp rfl (by omega) rfl rfl ?_))
        (first | (refine H_box hp ?_; intro w b12 hx hp) | (refine H_alloc hp rfl ?_; intro w b12 hx hp)); refine ops_run nopre rfl ?_; (repeat (refine U_stBN hp rfl rfl rfl rfl ?_; intro w hp; refine ops_run nopre rfl ?_))
        refine D_draw hp (by kernel_rfl) (by kernel_rfl) rfl rfl ?_; intro w hx hp; have hs := hp; (repeat (refine D_ldB rfl rfl rfl ?_))
        refine h_callq rfl Try.func38 (by kernel_rfl) rfl (firstAnd_h x _ hok.b) ?_; rintro _ w ⟨rfl, hx⟩; have hp := hp.ext hx; have hs := hs.ext hx; refine ⟨fun _ => hs, ?_⟩; refine D_ops rfl rfl ?_; (repeat (refine D_ldB rfl rfl rfl ?_))
        refine h_callq rfl Try.func102 (by kernel_rfl) rfl (litValue_h _ _ (vTo x.n st inp i) (nds x.n) hlen _ _ hp.rd q1 (by omega) (by omega)) ?_; rintro _ w ⟨rfl, hx⟩; have hp := hp.ext hx; have hs := hs.ext hx; refine ⟨fun _ => hs, ?_⟩; refine D_ops rfl rfl ?_; (repeat (refine D_ldB rfl rfl rfl ?_))
        refine h_callq rfl Try.func102 (by kernel_rfl) rfl (litValue_h _ _ (vTo x.n st inp i) (nds x.n) hlen _ _ hp.rd q3 (by omega) (by omega)) ?_; rintro _ w ⟨rfl, hx⟩; have hp := hp.ext hx; have hs := hs.ext hx; refine ⟨fun _ => hs, ?_⟩; refine D_ops rfl rfl ?_; (repeat (refine V_st0 hp rfl rfl rfl (by omega) (by decide) rfl rfl (by kernel_rfl) ?_; intro w hp; refine D_ops rfl rfl ?_))
        refine IH (i + 1) _ _ _ (by omega) rfl ⟨by omega, ?_⟩
        rw [show (firstAndL x.n + (i : Int)).toNat = fst_ x.n + i by omega] at hp
        exact hp.drop
      · refine h_cond_f rfl rfl ?_; (repeat (refine R_ret ?_))
        obtain rfl : i = x.ands.length := by omega
        exact ⟨some ⟨b7, 0, none⟩, nds x.n, rfl, hp.sub (by simp; exact .inl rfl)⟩

/-- the values of all nodes, for a right state -/
noncomputable def ifSt (n : NetL) (st : List Int) (l : List Int) : List Int := if stOkB n st = true then l else []
theorem ifSt_yes {n : NetL} {st l : List Int} (h : NetOkP n ∧ stP n st) : ifSt n st l = l := by rw [ifSt, if_pos (stOkB_yes h)]
theorem ifSt_no {n : NetL} {st l : List Int} (h : ¬ (NetOkP n ∧ stP n st)) : ifSt n st l = [] := by rw [ifSt, if_neg (by rw [stOkB_no h]; decide)]
theorem lenVals (n : NetL) (st : List Int) (inp : Int) : (ifSt n st (valsL n st inp)).length < 1000000000 := by
  by_cases h : NetOkP n ∧ stP n st
  · rw [ifSt_yes h, valsL_len]
    have := okOf (netOkB_yes h.1)
    unfold nds; omega
  · rw [ifSt_no h]; decide
theorem packLits_h (a b : Option Addr) (ca cb : Nat) (V ls : List Int) (m n : Nat) (hm : V.length = m) (hn : ls.length = n) (w0 : World) (hR : Rd w0 a 1 eI V) (hQ : Rd w0 b 1 eI ls) (h01 : All01 V) (hls : ∀ i, i < n → 0 ≤ ls.getD i default ∧ ls.getD i default / 2 < m) (hb : m ≤ 1000000000) (hn2 : n ≤ 60) :
    Ret Try.prog 75 [.slice a m ca, .slice b n cb] w0 (fun v w => v = .int .i64 (packL V ls) ∧ Ext w0 w) := by
  subst hn
  refine enter Try.S75ok _ _ rfl rfl (by show _ ≤ _; simp only [List.length]; decide) (fun C => ?_); have hp := Hp.nil w0; refine h_run rfl ?_; skip
  refine h_loop [0, 5, 8, 9, 10] (fun (k : Nat) => [(0, .slice a m ca), (5, .int .i64 (packTo V ls k)), (8, .slice b ls.length cb), (9, .int .i64 ls.length), (10, .int .i64 (k : Int))])
    (fun k w' => k ≤ ls.length ∧ Hp w0 w' []) (fun k => ls.length - k) 0 rfl ⟨by omega, hp⟩ ?_
  rintro k w1 ⟨hk, hp⟩ IH C
  refine h_run rfl ?_; skip
  refine h_cond_dec (fun hlt => ?_) (fun hlt => ?_)
  · have hlt' : k < ls.length := by omega
    have hl := hls k hlt'
    have h64 : (IntKind.i64.bits : Int) = 64 := rfl
    have hpo := packTo_or h01 ls (k := k) (by omega)
    have hlv := litV_01 h01 (ls.getD k default)
    have hb2 : 0 ≤ litV V (ls.getD k default) * 2 ^ ((k : Int)).toNat ∧ litV V (ls.getD k default) * 2 ^ ((k : Int)).toNat < 2 ^ (k + 1) := by
      have h := bit_add_lt (p := 0) (s := k) (by decide) (by have := pow_le_ (Nat.zero_le k); omega) hlv
      rw [Int.zero_add] at h
      exact h
    have hb3 := pow_le_ (s := k + 1) (t := 61) (by omega)
    have hb4 : (2 : Int) ^ 61 = 2305843009213693952 := by decide
    refine h_cond_t rfl rfl ?_; (repeat (refine H_ldEN hp rfl (by omega) rfl rfl ?_))
    refine h_call rfl Try.func102 (by kernel_rfl) rfl (litValue_h _ _ V m hm _ _ hp.rd hl.1 hl.2 hb) ?_; rintro _ w ⟨rfl, hx⟩; have hp := hp.ext hx; refine ops_run nopre rfl ?_; skip
    exact IH (k + 1) _ _ _ (by omega) (by rw [← hpo]; rfl) ⟨by omega, hp⟩
  · refine h_cond_f rfl rfl ?_; (repeat (refine R_ret ?_))
    obtain rfl : k = ls.length := by omega
    exact ⟨rfl, hp.x⟩
theorem specNodeValues_x (x : NetA) (a : Option Addr) (c : Nat) (st : List Int) (inp : Int) (w0 : World) (hX : NetR w0 x) (hS : NetS x.n) (hW : NetW x.n) (hR : Rd w0 a 1 eI st) (hL : st.length ≤ 1048576) (hV : ∀ i, i < st.length → i64R (st.getD i default)) (hI : i64R inp) :
    Ret Try.prog 51 [x.v, .slice a st.length c, .int .i64 inp] w0 (fun v w => ∃ b c', v = .slice b (ifSt x.n st (valsL x.n st inp)).length c' ∧ Hp w0 w [rO 3 1 eI b c' (ifSt x.n st (valsL x.n st inp))]) := by
  refine enter Try.S51ok _ _ rfl rfl (by show _ ≤ _; simp only [List.length]; decide) (fun C => ?_); have hp := Hp.nil w0; refine h_run rfl ?_; skip; (first | (refine H_box hp ?_; intro w b3 hx hp) | (refine H_alloc hp rfl ?_; intro w b3 hx hp)); refine ops_run nopre rfl ?_; (repeat (refine H_ldB hp rfl rfl ?_))
  by_cases hok2 : NetOkP x.n ∧ stP x.n st
  · refine h_call rfl Try.func50 (by kernel_rfl) rfl ((specStateOk_x x a c st _ hp.net hS hW hp.rd hL hV).tt (stOkB_yes hok2)) ?_; rintro _ w ⟨rfl, hx⟩; have hp := hp.ext hx; refine ops_run nopre rfl ?_; skip
    refine h_cond_f rfl rfl ?_; (repeat (refine H_ldB hp rfl rfl ?_))
    have hok := hok2.1
    have hl : st.length = x.seqs.length := by rw [hok2.2.1, x.slen]
    rw [ifSt_yes hok2]
    have hn := hok.nums
    obtain ⟨n1, n2, n3, n4, n5, n6⟩ := hn
    have hnd := hok.nodes
    have hsz := hok.size'
    have hf := NetOkP.fst' hok
    have hal : x.n.ands.length = x.ands.length := rfl
    refine h_call rfl Try.func21 (by kernel_rfl) rfl (specNodeCount_h x _) ?_; rintro _ w ⟨rfl, hx⟩; have hp := hp.ext hx; refine ops_run nopre rfl ?_; skip
    rw [show nodeCountL x.n = nodesL x.n from if_pos hok.size, ← n4]
    refine H_make hp eI 0 rfl rfl rfl rfl (s := 1) rfl (by decide) rfl (by unfold maxLen; omega) (by show 8 * _ ≤ _; omega) ?_; intro w b7 hx hp; refine ops_run nopre rfl ?_; skip
    refine h_loop [1, 2, 3, 7, 8] (fun (k : Nat) => [(1, .slice a st.length c), (2, .int .i64 inp), (3, .pointer (some ⟨b3, 0, none⟩)), (7, .slice (some ⟨b7, 0, none⟩) (nds x.n) (nds x.n)), (8, .int .i64 (k : Int))])
      (fun k w' => k ≤ x.inputs.toNat ∧ Hp w0 w' [rO 3 1 eI (some ⟨b7, 0, none⟩) (nds x.n) (inTo x.n inp k), rB b3 28 x.cs]) (fun k => x.inputs.toNat - k) 0 rfl ⟨by omega, hp⟩ ?_
    rintro k w1 ⟨hk, hp⟩ IH C
    have hlen := inTo_len x.n inp k
    have h64 : (IntKind.i64.bits : Int) = 64 := rfl
    refine h_run rfl ?_; (repeat (refine H_ldB hp rfl rfl ?_))
    refine h_cond_dec (fun hlt => ?_) (fun hlt => ?_)
    · refine h_cond_t rfl rfl ?_; (repeat (refine U_st0 hp rfl rfl rfl (by omega) (by decide) rfl rfl ?_; intro w hp; refine ops_run nopre rfl ?_))
      refine IH (k + 1) _ _ _ (by omega) rfl ⟨by omega, ?_⟩
      rw [show (1 + (k : Int)).toNat = 1 + k by omega] at hp
      exact hp
    · obtain rfl : k = x.inputs.toNat := by omega
      refine h_cond_f rfl rfl ?_; skip
      refine h_loop [1, 3, 7, 9] (fun (k : Nat) => [(1, .slice a st.length c), (3, .pointer (some ⟨b3, 0, none⟩)), (7, .slice (some ⟨b7, 0, none⟩) (nds x.n) (nds x.n)), (9, .int .i64 (k : Int))])
        (fun k w' => k ≤ st.length ∧ Hp w0 w' [rO 3 1 eI (some ⟨b7, 0, none⟩) (nds x.n) (stTo x.n st inp k), rB b3 28 x.cs]) (fun k => st.length - k) 0 rfl ⟨by omega, hp⟩ ?_
      rintro k w1 ⟨hk, hp⟩ IH C
      have hlen := stTo_len x.n st inp k
      refine h_run rfl ?_; skip
      refine h_cond_dec (fun hlt => ?_) (fun hlt => ?_)
      · refine h_cond_t rfl rfl ?_; skip
        refine D_draw hp (by kernel_rfl) (by kernel_rfl) rfl rfl ?_; intro w hx hp; have hs := hp; (repeat (first | (refine gLoad ?_; first | refine D_ldB rfl rfl rfl ?_ | refine D_ldEN rfl (by omega) rfl rfl rfl ?_) | (refine gStore ?_; refine V_st0 hp rfl rfl rfl (by omega) (by decide) rfl rfl (by kernel_rfl) ?_; intro w hp; refine D_ops rfl rfl ?_)))
        refine IH (k + 1) _ _ _ (by omega) rfl ⟨by omega, ?_⟩
        rw [show (1 + x.inputs + (k : Int)).toNat = 1 + x.inputs.toNat + k by omega] at hp
        exact hp
      · obtain rfl : k = st.length := by omega
        refine h_cond_f rfl rfl ?_; skip
        refine h_loop [3, 7, 10] (fun (i : Nat) => [(3, .pointer (some ⟨b3, 0, none⟩)), (7, .slice (some ⟨b7, 0, none⟩) (nds x.n) (nds x.n)), (10, .int .i64 (i : Int))])
          (fun i w' => i ≤ x.ands.length ∧ Hp w0 w' [rO 3 1 eI (some ⟨b7, 0, none⟩) (nds x.n) (vTo x.n st inp i), rB b3 28 x.cs]) (fun i => x.ands.length - i) 0 rfl ⟨by omega, hp⟩ ?_
        rintro i w1 ⟨hi, hp⟩ IH C
        have hlen := vTo_len x.n st inp i
        refine h_run rfl ?_; (repeat (refine H_ldB hp rfl rfl ?_))
        refine h_cond_dec (fun hlt => ?_) (fun hlt => ?_)
        · have hlt' : i < x.ands.length := by omega
          obtain ⟨q1, q2, q3, q4⟩ := hok.and_ hlt'
          refine h_cond_t rfl rfl ?_; skip
          refine D_draw hp (by kernel_rfl) (by kernel_rfl) rfl rfl ?_; intro w hx hp; have hs := hp; (repeat (refine D_ldB rfl rfl rfl ?_))
          refine h_callq rfl Try.func49 (by kernel_rfl) rfl (l08First_h x _ hok.b) ?_; rintro _ w ⟨rfl, hx⟩; have hp := hp.ext hx; have hs := hs.ext hx; refine ⟨fun _ => hs, ?_⟩; refine D_ops rfl rfl ?_; (repeat (refine gLoad ?_; first | refine D_ldB rfl rfl rfl ?_ | refine D_ldFN rfl (by omega) rfl rfl rfl ?_))
          refine h_callq rfl Try.func81 (by kernel_rfl) rfl (l09Bit_h _ _ (vTo x.n st inp i) (nds x.n) hlen _ _ hp.rd q1 (by omega) (by omega)) ?_; rintro _ w ⟨rfl, hx⟩; have hp := hp.ext hx; have hs := hs.ext hx; refine ⟨fun _ => hs, ?_⟩; refine D_ops rfl rfl ?_; (repeat (refine gLoad ?_; first | refine D_ldB rfl rfl rfl ?_ | refine D_ldFN rfl (by omega) rfl rfl rfl ?_))
          refine h_callq rfl Try.func81 (by kernel_rfl) rfl (l09Bit_h _ _ (vTo x.n st inp i) (nds x.n) hlen _ _ hp.rd q3 (by omega) (by omega)) ?_; rintro _ w ⟨rfl, hx⟩; have hp := hp.ext hx; have hs := hs.ext hx; refine ⟨fun _ => hs, ?_⟩; refine D_ops rfl rfl ?_; (repeat (refine V_st0 hp rfl rfl rfl (by omega) (by decide) rfl rfl (by kernel_rfl) ?_; intro w hp; refine D_ops rfl rfl ?_))
          refine IH (i + 1) _ _ _ (by omega) rfl ⟨by omega, ?_⟩
          rw [show (firstAndL x.n + (i : Int)).toNat = fst_ x.n + i by omega] at hp
          exact hp
        · refine h_cond_f rfl rfl ?_; (repeat (refine R_ret ?_))
          obtain rfl : i = x.ands.length := by omega
          exact ⟨some ⟨b7, 0, none⟩, nds x.n, by rw [valsL_len], hp.sub (by simp; exact .inl rfl)⟩
  · refine h_call rfl Try.func50 (by kernel_rfl) rfl ((specStateOk_x x a c st _ hp.net hS hW hp.rd hL hV).ff (stOkB_no hok2)) ?_; rintro _ w ⟨rfl, hx⟩; have hp := hp.ext hx; refine ops_run nopre rfl ?_; skip
    refine h_cond_t rfl rfl ?_; (repeat (first | (refine gBuild ?_; refine U_litI hp rfl rfl rfl rfl rfl rfl rfl rfl rfl rfl ?_; intro w _ hx hp; refine ops_run nopre rfl ?_) | refine R_ret ?_))
    rw [ifSt_no hok2]
    exact ⟨_, _, rfl, hp.sub (by simp)⟩
theorem l09Mask_h (a b : Option Addr) (ca cb : Nat) (V ls : List Int) (m n : Nat) (hm : V.length = m) (hn : ls.length = n) (w0 : World) (hR : Rd w0 a 1 eI V) (hQ : Rd w0 b 1 eI ls) (h01 : All01 V) (hls : ∀ i, i < n → 0 ≤ ls.getD i default ∧ ls.getD i default / 2 < m) (hb : m ≤ 1000000000) (hn2 : n ≤ 60) :
    Ret Try.prog 53 [.slice a m ca, .slice b n cb] w0 (fun v w => v = .int .i64 (packL V ls) ∧ Ext w0 w) := by
  subst hn
  refine enter Try.S53ok _ _ rfl rfl (by show _ ≤ _; simp only [List.length]; decide) (fun C => ?_); have hp := Hp.nil w0; refine h_run rfl ?_; skip
  refine h_loop [0, 1, 5, 6] (fun (k : Nat) => [(0, .slice a m ca), (1, .slice b ls.length cb), (5, .int .i64 (packTo V ls k)), (6, .int .i64 (k : Int))])
    (fun k w' => k ≤ ls.length ∧ Hp w0 w' []) (fun k => ls.length - k) 0 rfl ⟨by omega, hp⟩ ?_
  rintro k w1 ⟨hk, hp⟩ IH C
  refine h_run rfl ?_; skip
  refine h_cond_dec (fun hlt => ?_) (fun hlt => ?_)
  · have hlt' : k < ls.length := by omega
    have hl := hls k hlt'
    have h64 : (IntKind.i64.bits : Int) = 64 := rfl
    have hlv := litV_01 h01 (ls.getD k default)
    have hpt := packTo_lt h01 ls k
    have hb2 : 0 ≤ litV V (ls.getD k default) * 2 ^ ((k : Int)).toNat ∧ litV V (ls.getD k default) * 2 ^ ((k : Int)).toNat < 2 ^ (k + 1) := by
      have h := bit_add_lt (p := 0) (s := k) (by decide) (by have := pow_le_ (Nat.zero_le k); omega) hlv
      rw [Int.zero_add] at h
      exact h
    have hb3 := pow_le_ (s := k + 1) (t := 61) (by omega)
    have hb5 := pow_le_ (s := k) (t := 61) (by omega)
    have hb4 : (2 : Int) ^ 61 = 2305843009213693952 := by decide
    refine h_cond_t rfl rfl ?_; (repeat (refine H_ldEN hp rfl (by omega) rfl rfl ?_))
    refine h_call rfl Try.func81 (by kernel_rfl) rfl (l09Bit_h _ _ V m hm _ _ hp.rd hl.1 hl.2 hb) ?_; rintro _ w ⟨rfl, hx⟩; have hp := hp.ext hx; refine ops_run nopre rfl ?_; skip
    exact IH (k + 1) _ _ _ (by omega) rfl ⟨by omega, hp⟩
  · refine h_cond_f rfl rfl ?_; (repeat (refine R_ret ?_))
    obtain rfl : k = ls.length := by omega
    exact ⟨rfl, hp.x⟩
end Go.Proofs
end
section
/- Steps and runs of a net, as plain data; no condition. -/
namespace Go.Xw
theorem rootsTo_pre (n : NetL) (m : Nat) : ∀ d, ∃ T, rootsTo n (m + d) = rootsTo n m ++ T
  | 0 => ⟨[], by simp⟩
  | d + 1 => by
    obtain ⟨T, h⟩ := rootsTo_pre n m d
    exact ⟨T ++ (n.seqs.getD (m + d) default).ins, by rw [show m + (d + 1) = m + d + 1 by omega, rootsTo, h, List.append_assoc]⟩
theorem getD_left {α : Type} [Inhabited α] {A B : List α} {i : Nat} (h : i < A.length) : (A ++ B).getD i default = A.getD i default := by
  simp [List.getD_eq_getElem?_getD, List.getElem?_append_left h]
theorem getD_right {α : Type} [Inhabited α] {A B : List α} {i : Nat} : (A ++ B).getD (A.length + i) default = B.getD i default := by
  simp [List.getD_eq_getElem?_getD, List.getElem?_append_right]
theorem NetOkP.outP {n : NetL} (h : NetOkP n) {i : Nat} (hi : i < n.outs.length) : litP (n.outs.getD i default) (nodesL n) := by
  obtain ⟨T, e⟩ := rootsTo_pre n 0 n.seqs.length
  rw [Nat.zero_add] at e
  have e : rootsL n = n.outs ++ T := e
  have h1 := h.roots i (by rw [e, List.length_append]; omega)
  rwa [e, getD_left hi] at h1
theorem NetOkP.inP {n : NetL} (h : NetOkP n) {i j : Nat} (hi : i < n.seqs.length) (hj : j < (n.seqs.getD i default).ins.length) : litP ((n.seqs.getD i default).ins.getD j default) (nodesL n) := by
  obtain ⟨T, e⟩ := rootsTo_pre n (i + 1) (n.seqs.length - (i + 1))
  rw [show i + 1 + (n.seqs.length - (i + 1)) = n.seqs.length by omega] at e
  have e : rootsL n = rootsTo n (i + 1) ++ T := e
  rw [rootsTo] at e
  have hl : (rootsTo n i).length + j < (rootsTo n i ++ (n.seqs.getD i default).ins).length := by rw [List.length_append]; omega
  have h1 := h.roots ((rootsTo n i).length + j) (by rw [e, List.length_append]; omega)
  rwa [e, getD_left hl, getD_right] at h1
end Go.Xw
namespace Go.Proofs
open Go.Xw

theorem outN {x : NetA} (h : NetOkP x.n) : ∀ i, i < x.outs.length → 0 ≤ x.outs.getD i default ∧ x.outs.getD i default / 2 < (nds x.n : Int) := fun i hi => by
  have h1 := h.outP (i := i) hi
  have h2 := h.nums.n2
  unfold litP at h1
  rw [h2]
  exact h1
theorem inN {x : NetA} (h : NetOkP x.n) {i : Nat} (hi : i < x.seqs.length) : ∀ j, j < (x.seqs.getD i default).ins.length → 0 ≤ (x.seqs.getD i default).ins.getD j default ∧ (x.seqs.getD i default).ins.getD j default / 2 < (nds x.n : Int) := fun j hj => by
  have h1 := h.inP (i := i) (j := j) (by rw [x.slen]; exact hi) (by rw [x.sins]; exact hj)
  have h2 := h.nums.n2
  unfold litP at h1
  rw [x.sins] at h1
  rw [h2]
  exact h1

/-- the next state, element by element -/
def nextAt (n : NetL) (st V : List Int) (i : Nat) : Int := seqNextL (n.seqs.getD i default).kind (st.getD i default) (packL V (n.seqs.getD i default).ins)
def nextTo (n : NetL) (st V : List Int) : Nat → List Int
  | 0 => []
  | i + 1 => nextTo n st V i ++ [nextAt n st V i]
def nextL (n : NetL) (st : List Int) (inp : Int) : List Int := nextTo n st (valsL n st inp) n.seqs.length
theorem nextTo_len (n : NetL) (st V : List Int) : ∀ i, (nextTo n st V i).length = i
  | 0 => rfl
  | i + 1 => by rw [nextTo, List.length_append, nextTo_len]; rfl
theorem nextTo_get (n : NetL) (st V : List Int) : ∀ {m i : Nat}, i < m → (nextTo n st V m).getD i default = nextAt n st V i
  | 0, _, h => by omega
  | m + 1, i, h => by
    rw [nextTo]
    by_cases h2 : i < m
    · rw [getD_left (by rw [nextTo_len]; exact h2), nextTo_get n st V h2]
    · obtain rfl : i = m := by omega
      have := getD_right (A := nextTo n st V i) (B := [nextAt n st V i]) (i := 0)
      rw [nextTo_len] at this
      exact this
def outL (n : NetL) (st : List Int) (inp : Int) : Int := packL (valsL n st inp) n.outs

theorem seqNext_in {k v i : Int} (h : 0 ≤ v ∧ v ≤ seqMostL k) : 0 ≤ seqNextL k v i ∧ seqNextL k v i ≤ seqMostL k := by
  unfold seqNextL
  unfold seqMostL at h ⊢
  by_cases h0 : k = 0
  · rw [if_pos h0] at h ⊢
    rw [if_pos ⟨h0, h⟩]; omega
  · rw [if_neg h0] at h ⊢
    by_cases h1 : k = 1
    · rw [if_pos h1] at h ⊢
      rw [if_neg (by omega), if_pos ⟨h1, h⟩]
      have := ram_is (i := i) h.1 h.2
      unfold ramNext
      split <;> omega
    · rw [if_neg h1] at h; omega
theorem next_stP {n : NetL} {st : List Int} (h : stP n st) (inp : Int) : stP n (nextL n st inp) := by
  refine ⟨nextTo_len _ _ _ _, fun i hi => ?_⟩
  unfold nextL at hi ⊢
  rw [nextTo_len] at hi
  rw [nextTo_get _ _ _ hi]
  exact seqNext_in (h.2 i (by rw [h.1]; exact hi))
theorem start_stP {n : NetL} (h : NetOkP n) : stP n (startL n) := by
  refine ⟨by unfold startL; simp, fun i hi => ?_⟩
  unfold startL at hi ⊢
  rw [List.length_map] at hi
  have h1 := h.seqs i hi
  have e : (n.seqs.map SeqL.init).getD i default = (n.seqs.getD i default).init := by
    simp [List.getD_eq_getElem?_getD, hi]
  rw [e]
  unfold seqOkP at h1
  unfold seqMostL
  rcases h1 with ⟨h1, h2, _⟩ | ⟨h1, h2, _⟩
  · rw [if_pos h1]; exact h2
  · rw [if_neg (by omega), if_pos h1]; exact h2
/-- the state after k cycles, and the outputs of the first k cycles -/
def stAt (n : NetL) (ins : List Int) : Nat → List Int
  | 0 => startL n
  | k + 1 => nextL n (stAt n ins k) (ins.getD k default)
def runTo (n : NetL) (ins : List Int) : Nat → List Int
  | 0 => []
  | k + 1 => runTo n ins k ++ [outL n (stAt n ins k) (ins.getD k default)]
def runL (n : NetL) (ins : List Int) : List Int := runTo n ins ins.length
theorem runTo_len (n : NetL) (ins : List Int) : ∀ k, (runTo n ins k).length = k
  | 0 => rfl
  | k + 1 => by rw [runTo, List.length_append, runTo_len]; rfl
theorem stAt_stP {n : NetL} (h : NetOkP n) (ins : List Int) : ∀ k, stP n (stAt n ins k)
  | 0 => start_stP h
  | k + 1 => next_stP (stAt_stP h ins k) _
end Go.Proofs
end
