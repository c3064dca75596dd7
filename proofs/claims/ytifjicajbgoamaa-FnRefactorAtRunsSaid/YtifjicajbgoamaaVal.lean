/- The contracts of the functions that give the values of nodes; each under its stated conditions. -/
import Derived.Test.YtifjicajbgoamaaState
import Derived.Test.YtifjicajbgoamaaValLaw
set_option linter.all false
namespace Go.Proofs
open Go.Xw
set_option maxRecDepth 100000
set_option maxHeartbeats 1000000
attribute [local irreducible] Holds elemAddr

theorem litValue_h (a : Option Addr) (c : Nat) (V : List Int) (m : Nat) (hm : V.length = m) (l : Int) (w0 : World) (hR : Rd w0 a 1 eI V) (h0 : 0 ≤ l) (h1 : l / 2 < m) (hb : m ≤ 1000000000) :
    Ret Try.prog 102 [.slice a m c, .int .i64 l] w0 (fun v w => v = .int .i64 (litV V l) ∧ Ext w0 w) := by
  subst hm
  refine enter Try.S102ok _ _ rfl rfl (by show _ ≤ _; simp only [List.length]; decide) (fun C => ?_); have hp := Hp.nil w0; refine h_run rfl ?_; (repeat (first | (refine gLoad ?_; refine H_ldE hp rfl (by omega) (by omega) rfl rfl ?_) | refine R_ret ?_))
  exact ⟨rfl, hp.x⟩
theorem l09Bit_h (a : Option Addr) (c : Nat) (V : List Int) (m : Nat) (hm : V.length = m) (l : Int) (w0 : World) (hR : Rd w0 a 1 eI V) (h0 : 0 ≤ l) (h1 : l / 2 < m) (hb : m ≤ 1000000000) :
    Ret Try.prog 81 [.slice a m c, .int .i64 l] w0 (fun v w => v = .int .i64 (litV V l) ∧ Ext w0 w) := by
  subst hm
  refine enter Try.S81ok _ _ rfl rfl (by show _ ≤ _; simp only [List.length]; decide) (fun C => ?_); have hp := Hp.nil w0; refine h_run rfl ?_; (repeat (first | (refine gLoad ?_; refine H_ldE hp rfl (by omega) (by omega) rfl rfl ?_) | refine R_ret ?_))
  exact ⟨rfl, hp.x⟩

theorem NetOkP.fst' {x : NetA} (h : NetOkP x.n) : fst_ x.n = 1 + x.inputs.toNat + x.seqs.length ∧ nds x.n = fst_ x.n + x.ands.length := by
  have h1 := h.size'
  have h2 := h.nums
  have h3 := firstAndL_eq x
  have h4 := h2.f2
  have h5 := h2.n1
  have h6 : x.n.ands.length = x.ands.length := rfl
  omega

theorem nodeValues_h (x : NetA) (a : Option Addr) (c : Nat) (st : List Int) (inp : Int) (w0 : World) (hX : NetR w0 x) (hok : NetOkP x.n) (hR : Rd w0 a 1 eI st) (hl : st.length = x.seqs.length) :
    Ret Try.prog 73 [x.v, .slice a st.length c, .int .i64 inp] w0 (fun v w => ∃ b c', v = .slice b (nds x.n) c' ∧ Hp w0 w [rO 3 1 eI b c' (valsL x.n st inp)]) := by
  have hn := hok.nums
  obtain ⟨n1, n2, n3, n4, n5, n6⟩ := hn
  have hnd := hok.nodes
  have hsz := hok.size'
  have hf := NetOkP.fst' hok
  have hal : x.n.ands.length = x.ands.length := rfl
  refine enter Try.S73ok _ _ rfl rfl (by show _ ≤ _; simp only [List.length]; decide) (fun C => ?_); have hp := Hp.nil w0; refine h_run rfl ?_; skip; (first | (refine H_box hp ?_; intro w b3 hx hp) | (refine H_alloc hp rfl ?_; intro w b3 hx hp)); refine ops_run nopre rfl ?_; (repeat (refine H_ldB hp rfl rfl ?_))
  refine h_call rfl Try.func56 (by kernel_rfl) rfl (nodeCount_h x _ hok.b) ?_; rintro _ w ⟨rfl, hx⟩; have hp := hp.ext hx; refine ops_run nopre rfl ?_; skip
  rw [← n4]
  refine H_make hp eI 0 rfl rfl rfl rfl (s := 1) rfl (by decide) rfl (by unfold maxLen; omega) (by show 8 * _ ≤ _; omega) ?_; intro w b7 hx hp; refine ops_run nopre rfl ?_; skip
  refine h_loop [1, 2, 3, 7, 8] (fun (k : Nat) => [(1, .slice a st.length c), (2, .int .i64 inp), (3, .pointer (some ⟨b3, 0, none⟩)), (7, .slice (some ⟨b7, 0, none⟩) (nds x.n) (nds x.n)), (8, .int .i64 (k : Int))])
    (fun k w' => k ≤ x.inputs.toNat ∧ Hp w0 w' [rO 3 1 eI (some ⟨b7, 0, none⟩) (nds x.n) (inTo x.n inp k), rB b3 28 x.cs]) (fun k => x.inputs.toNat - k) 0 rfl ⟨by omega, hp⟩ ?_
  rintro k w1 ⟨hk, hp⟩ IH C
  have hlen := inTo_len x.n inp k
  have h64 : (IntKind.i64.bits : Int) = 64 := rfl
  refine h_run rfl ?_; (repeat (refine H_ldB hp rfl rfl ?_))
  refine h_cond_dec (fun hlt => ?_) (fun hlt => ?_)
  · refine h_cond_t rfl rfl ?_; (repeat (refine U_st0 hp rfl rfl rfl (by omega) (by decide) rfl rfl ?_; intro w hp; refine ops_run nopre rfl ?_))
    refine IH (k + 1) _ _ _ (by omega) rfl ⟨by omega, ?_⟩
    rw [show (1 + (k : Int)).toNat = 1 + k by omega] at hp
    exact hp
  · obtain rfl : k = x.inputs.toNat := by omega
    refine h_cond_f rfl rfl ?_; skip
    refine h_loop [3, 7, 31, 32, 33] (fun (k : Nat) => [(3, .pointer (some ⟨b3, 0, none⟩)), (7, .slice (some ⟨b7, 0, none⟩) (nds x.n) (nds x.n)), (31, .slice a st.length c), (32, .int .i64 st.length), (33, .int .i64 (k : Int))])
      (fun k w' => k ≤ st.length ∧ Hp w0 w' [rO 3 1 eI (some ⟨b7, 0, none⟩) (nds x.n) (stTo x.n st inp k), rB b3 28 x.cs]) (fun k => st.length - k) 0 rfl ⟨by omega, hp⟩ ?_
    rintro k w1 ⟨hk, hp⟩ IH C
    have hlen := stTo_len x.n st inp k
    refine h_run rfl ?_; skip
    refine h_cond_dec (fun hlt => ?_) (fun hlt => ?_)
    · refine h_cond_t rfl rfl ?_; (repeat (refine gLoad ?_; first | refine H_ldB hp rfl rfl ?_ | refine H_ldEN hp rfl (by omega) rfl rfl ?_))
      refine h_call rfl Try.func101 (by kernel_rfl) rfl (firstSeq_h x _ hok.b) ?_; rintro _ w ⟨rfl, hx⟩; have hp := hp.ext hx; refine ops_run nopre rfl ?_; (repeat (refine U_st0 hp rfl rfl rfl (by omega) (by decide) rfl rfl ?_; intro w hp; refine ops_run nopre rfl ?_))
      refine IH (k + 1) _ _ _ (by omega) rfl ⟨by omega, ?_⟩
      rw [show (1 + x.inputs + (k : Int)).toNat = 1 + x.inputs.toNat + k by omega] at hp
      exact hp
    · obtain rfl : k = st.length := by omega
      refine h_cond_f rfl rfl ?_; (repeat (refine H_ldB hp rfl rfl ?_))
      refine h_loop [3, 7, 48, 49, 50] (fun (i : Nat) => [(3, .pointer (some ⟨b3, 0, none⟩)), (7, .slice (some ⟨b7, 0, none⟩) (nds x.n) (nds x.n)), (48, .slice x.aa x.ands.length x.ac), (49, .int .i64 x.ands.length), (50, .int .i64 (i : Int))])
        (fun i w' => i ≤ x.ands.length ∧ Hp w0 w' [rO 3 1 eI (some ⟨b7, 0, none⟩) (nds x.n) (vTo x.n st inp i), rB b3 28 x.cs]) (fun i => x.ands.length - i) 0 rfl ⟨by omega, hp⟩ ?_
      rintro i w1 ⟨hi, hp⟩ IH C
      have hlen := vTo_len x.n st inp i
      refine h_run rfl ?_; skip
      refine h_cond_dec (fun hlt => ?_) (fun hlt => ?_)
      · have hlt' : i < x.ands.length := by omega
        obtain ⟨q1, q2, q3, q4⟩ := hok.and_ hlt'
        refine h_cond_t rfl rfl ?_; (repeat (refine H_ldEN hp rfl (by omega) rfl rfl ?_))
        (first | (refine H_box hp ?_; intro w b12 hx hp) | (refine H_alloc hp rfl ?_; intro w b12 hx hp)); refine ops_run nopre rfl ?_; (repeat (refine U_stBN hp rfl rfl rfl rfl ?_; intro w hp; refine ops_run nopre rfl ?_))
        refine D_draw hp (by kernel_rfl) (by kernel_rfl) rfl rfl ?_; intro w hx hp; have hs := hp; (repeat (refine D_ldB rfl rfl rfl ?_))
        refine h_callq rfl Try.func38 (by kernel_rfl) rfl (firstAnd_h x _ hok.b) ?_; rintro _ w ⟨rfl, hx⟩; have hp := hp.ext hx; have hs := hs.ext hx; refine ⟨fun _ => hs, ?_⟩; refine D_ops rfl rfl ?_; (repeat (refine D_ldB rfl rfl rfl ?_))
        refine h_callq rfl Try.func102 (by kernel_rfl) rfl (litValue_h _ _ (vTo x.n st inp i) (nds x.n) hlen _ _ hp.rd q1 (by omega) (by omega)) ?_; rintro _ w ⟨rfl, hx⟩; have hp := hp.ext hx; have hs := hs.ext hx; refine ⟨fun _ => hs, ?_⟩; refine D_ops rfl rfl ?_; (repeat (refine D_ldB rfl rfl rfl ?_))
        refine h_callq rfl Try.func102 (by kernel_rfl) rfl (litValue_h _ _ (vTo x.n st inp i) (nds x.n) hlen _ _ hp.rd q3 (by omega) (by omega)) ?_; rintro _ w ⟨rfl, hx⟩; have hp := hp.ext hx; have hs := hs.ext hx; refine ⟨fun _ => hs, ?_⟩; refine D_ops rfl rfl ?_; (repeat (refine V_st0 hp rfl rfl rfl (by omega) (by decide) rfl rfl (by kernel_rfl) ?_; intro w hp; refine D_ops rfl rfl ?_))
        refine IH (i + 1) _ _ _ (by omega) rfl ⟨by omega, ?_⟩
        rw [show (firstAndL x.n + (i : Int)).toNat = fst_ x.n + i by omega] at hp
        exact hp.drop
      · refine h_cond_f rfl rfl ?_; (repeat (refine R_ret ?_))
        obtain rfl : i = x.ands.length := by omega
        exact ⟨some ⟨b7, 0, none⟩, nds x.n, rfl, hp.sub (by simp; exact .inl rfl)⟩

/-- the values of all nodes, for a right state -/
noncomputable def ifSt (n : NetL) (st : List Int) (l : List Int) : List Int := if stOkB n st = true then l else []
theorem ifSt_yes {n : NetL} {st l : List Int} (h : NetOkP n ∧ stP n st) : ifSt n st l = l := by rw [ifSt, if_pos (stOkB_yes h)]
theorem ifSt_no {n : NetL} {st l : List Int} (h : ¬ (NetOkP n ∧ stP n st)) : ifSt n st l = [] := by rw [ifSt, if_neg (by rw [stOkB_no h]; decide)]
theorem packLits_h (a b : Option Addr) (ca cb : Nat) (V ls : List Int) (m n : Nat) (hm : V.length = m) (hn : ls.length = n) (w0 : World) (hR : Rd w0 a 1 eI V) (hQ : Rd w0 b 1 eI ls) (h01 : All01 V) (hls : ∀ i, i < n → 0 ≤ ls.getD i default ∧ ls.getD i default / 2 < m) (hb : m ≤ 1000000000) (hn2 : n ≤ 60) :
    Ret Try.prog 75 [.slice a m ca, .slice b n cb] w0 (fun v w => v = .int .i64 (packL V ls) ∧ Ext w0 w) := by
  subst hn
  refine enter Try.S75ok _ _ rfl rfl (by show _ ≤ _; simp only [List.length]; decide) (fun C => ?_); have hp := Hp.nil w0; refine h_run rfl ?_; skip
  refine h_loop [0, 5, 8, 9, 10] (fun (k : Nat) => [(0, .slice a m ca), (5, .int .i64 (packTo V ls k)), (8, .slice b ls.length cb), (9, .int .i64 ls.length), (10, .int .i64 (k : Int))])
    (fun k w' => k ≤ ls.length ∧ Hp w0 w' []) (fun k => ls.length - k) 0 rfl ⟨by omega, hp⟩ ?_
  rintro k w1 ⟨hk, hp⟩ IH C
  refine h_run rfl ?_; skip
  refine h_cond_dec (fun hlt => ?_) (fun hlt => ?_)
  · have hlt' : k < ls.length := by omega
    have hl := hls k hlt'
    have h64 : (IntKind.i64.bits : Int) = 64 := rfl
    have hpo := packTo_or h01 ls (k := k) (by omega)
    have hlv := litV_01 h01 (ls.getD k default)
    have hb2 : 0 ≤ litV V (ls.getD k default) * 2 ^ ((k : Int)).toNat ∧ litV V (ls.getD k default) * 2 ^ ((k : Int)).toNat < 2 ^ (k + 1) := by
      have h := bit_add_lt (p := 0) (s := k) (by decide) (by have := pow_le_ (Nat.zero_le k); omega) hlv
      rw [Int.zero_add] at h
      exact h
    have hb3 := pow_le_ (s := k + 1) (t := 61) (by omega)
    have hb4 : (2 : Int) ^ 61 = 2305843009213693952 := by decide
    refine h_cond_t rfl rfl ?_; (repeat (refine H_ldEN hp rfl (by omega) rfl rfl ?_))
    refine h_call rfl Try.func102 (by kernel_rfl) rfl (litValue_h _ _ V m hm _ _ hp.rd hl.1 hl.2 hb) ?_; rintro _ w ⟨rfl, hx⟩; have hp := hp.ext hx; refine ops_run nopre rfl ?_; skip
    exact IH (k + 1) _ _ _ (by omega) (by rw [← hpo]; rfl) ⟨by omega, hp⟩
  · refine h_cond_f rfl rfl ?_; (repeat (refine R_ret ?_))
    obtain rfl : k = ls.length := by omega
    exact ⟨rfl, hp.x⟩
theorem specNodeValues_x (x : NetA) (a : Option Addr) (c : Nat) (st : List Int) (inp : Int) (w0 : World) (hX : NetR w0 x) (hS : NetS x.n) (hW : NetW x.n) (hR : Rd w0 a 1 eI st) (hL : st.length ≤ 1048576) (hV : ∀ i, i < st.length → i64R (st.getD i default)) (hI : i64R inp) :
    Ret Try.prog 51 [x.v, .slice a st.length c, .int .i64 inp] w0 (fun v w => ∃ b c', v = .slice b (ifSt x.n st (valsL x.n st inp)).length c' ∧ Hp w0 w [rO 3 1 eI b c' (ifSt x.n st (valsL x.n st inp))]) := by
  refine enter Try.S51ok _ _ rfl rfl (by show _ ≤ _; simp only [List.length]; decide) (fun C => ?_); have hp := Hp.nil w0; refine h_run rfl ?_; skip; (first | (refine H_box hp ?_; intro w b3 hx hp) | (refine H_alloc hp rfl ?_; intro w b3 hx hp)); refine ops_run nopre rfl ?_; (repeat (refine H_ldB hp rfl rfl ?_))
  by_cases hok2 : NetOkP x.n ∧ stP x.n st
  · refine h_call rfl Try.func50 (by kernel_rfl) rfl ((specStateOk_x x a c st _ hp.net hS hW hp.rd hL hV).tt (stOkB_yes hok2)) ?_; rintro _ w ⟨rfl, hx⟩; have hp := hp.ext hx; refine ops_run nopre rfl ?_; skip
    refine h_cond_f rfl rfl ?_; (repeat (refine H_ldB hp rfl rfl ?_))
    have hok := hok2.1
    have hl : st.length = x.seqs.length := by rw [hok2.2.1, x.slen]
    rw [ifSt_yes hok2]
    have hn := hok.nums
    obtain ⟨n1, n2, n3, n4, n5, n6⟩ := hn
    have hnd := hok.nodes
    have hsz := hok.size'
    have hf := NetOkP.fst' hok
    have hal : x.n.ands.length = x.ands.length := rfl
    refine h_call rfl Try.func21 (by kernel_rfl) rfl (specNodeCount_h x _) ?_; rintro _ w ⟨rfl, hx⟩; have hp := hp.ext hx; refine ops_run nopre rfl ?_; skip
    rw [show nodeCountL x.n = nodesL x.n from if_pos hok.size, ← n4]
    refine H_make hp eI 0 rfl rfl rfl rfl (s := 1) rfl (by decide) rfl (by unfold maxLen; omega) (by show 8 * _ ≤ _; omega) ?_; intro w b7 hx hp; refine ops_run nopre rfl ?_; skip
    refine h_loop [1, 2, 3, 7, 8] (fun (k : Nat) => [(1, .slice a st.length c), (2, .int .i64 inp), (3, .pointer (some ⟨b3, 0, none⟩)), (7, .slice (some ⟨b7, 0, none⟩) (nds x.n) (nds x.n)), (8, .int .i64 (k : Int))])
      (fun k w' => k ≤ x.inputs.toNat ∧ Hp w0 w' [rO 3 1 eI (some ⟨b7, 0, none⟩) (nds x.n) (inTo x.n inp k), rB b3 28 x.cs]) (fun k => x.inputs.toNat - k) 0 rfl ⟨by omega, hp⟩ ?_
    rintro k w1 ⟨hk, hp⟩ IH C
    have hlen := inTo_len x.n inp k
    have h64 : (IntKind.i64.bits : Int) = 64 := rfl
    refine h_run rfl ?_; (repeat (refine H_ldB hp rfl rfl ?_))
    refine h_cond_dec (fun hlt => ?_) (fun hlt => ?_)
    · refine h_cond_t rfl rfl ?_; (repeat (refine U_st0 hp rfl rfl rfl (by omega) (by decide) rfl rfl ?_; intro w hp; refine ops_run nopre rfl ?_))
      refine IH (k + 1) _ _ _ (by omega) rfl ⟨by omega, ?_⟩
      rw [show (1 + (k : Int)).toNat = 1 + k by omega] at hp
      exact hp
    · obtain rfl : k = x.inputs.toNat := by omega
      refine h_cond_f rfl rfl ?_; skip
      refine h_loop [1, 3, 7, 9] (fun (k : Nat) => [(1, .slice a st.length c), (3, .pointer (some ⟨b3, 0, none⟩)), (7, .slice (some ⟨b7, 0, none⟩) (nds x.n) (nds x.n)), (9, .int .i64 (k : Int))])
        (fun k w' => k ≤ st.length ∧ Hp w0 w' [rO 3 1 eI (some ⟨b7, 0, none⟩) (nds x.n) (stTo x.n st inp k), rB b3 28 x.cs]) (fun k => st.length - k) 0 rfl ⟨by omega, hp⟩ ?_
      rintro k w1 ⟨hk, hp⟩ IH C
      have hlen := stTo_len x.n st inp k
      refine h_run rfl ?_; skip
      refine h_cond_dec (fun hlt => ?_) (fun hlt => ?_)
      · refine h_cond_t rfl rfl ?_; skip
        refine D_draw hp (by kernel_rfl) (by kernel_rfl) rfl rfl ?_; intro w hx hp; have hs := hp; (repeat (first | (refine gLoad ?_; first | refine D_ldB rfl rfl rfl ?_ | refine D_ldEN rfl (by omega) rfl rfl rfl ?_) | (refine gStore ?_; refine V_st0 hp rfl rfl rfl (by omega) (by decide) rfl rfl (by kernel_rfl) ?_; intro w hp; refine D_ops rfl rfl ?_)))
        refine IH (k + 1) _ _ _ (by omega) rfl ⟨by omega, ?_⟩
        rw [show (1 + x.inputs + (k : Int)).toNat = 1 + x.inputs.toNat + k by omega] at hp
        exact hp
      · obtain rfl : k = st.length := by omega
        refine h_cond_f rfl rfl ?_; skip
        refine h_loop [3, 7, 10] (fun (i : Nat) => [(3, .pointer (some ⟨b3, 0, none⟩)), (7, .slice (some ⟨b7, 0, none⟩) (nds x.n) (nds x.n)), (10, .int .i64 (i : Int))])
          (fun i w' => i ≤ x.ands.length ∧ Hp w0 w' [rO 3 1 eI (some ⟨b7, 0, none⟩) (nds x.n) (vTo x.n st inp i), rB b3 28 x.cs]) (fun i => x.ands.length - i) 0 rfl ⟨by omega, hp⟩ ?_
        rintro i w1 ⟨hi, hp⟩ IH C
        have hlen := vTo_len x.n st inp i
        refine h_run rfl ?_; (repeat (refine H_ldB hp rfl rfl ?_))
        refine h_cond_dec (fun hlt => ?_) (fun hlt => ?_)
        · have hlt' : i < x.ands.length := by omega
          obtain ⟨q1, q2, q3, q4⟩ := hok.and_ hlt'
          refine h_cond_t rfl rfl ?_; skip
          refine D_draw hp (by kernel_rfl) (by kernel_rfl) rfl rfl ?_; intro w hx hp; have hs := hp; (repeat (refine D_ldB rfl rfl rfl ?_))
          refine h_callq rfl Try.func49 (by kernel_rfl) rfl (l08First_h x _ hok.b) ?_; rintro _ w ⟨rfl, hx⟩; have hp := hp.ext hx; have hs := hs.ext hx; refine ⟨fun _ => hs, ?_⟩; refine D_ops rfl rfl ?_; (repeat (refine gLoad ?_; first | refine D_ldB rfl rfl rfl ?_ | refine D_ldFN rfl (by omega) rfl rfl rfl ?_))
          refine h_callq rfl Try.func81 (by kernel_rfl) rfl (l09Bit_h _ _ (vTo x.n st inp i) (nds x.n) hlen _ _ hp.rd q1 (by omega) (by omega)) ?_; rintro _ w ⟨rfl, hx⟩; have hp := hp.ext hx; have hs := hs.ext hx; refine ⟨fun _ => hs, ?_⟩; refine D_ops rfl rfl ?_; (repeat (refine gLoad ?_; first | refine D_ldB rfl rfl rfl ?_ | refine D_ldFN rfl (by omega) rfl rfl rfl ?_))
          refine h_callq rfl Try.func81 (by kernel_rfl) rfl (l09Bit_h _ _ (vTo x.n st inp i) (nds x.n) hlen _ _ hp.rd q3 (by omega) (by omega)) ?_; rintro _ w ⟨rfl, hx⟩; have hp := hp.ext hx; have hs := hs.ext hx; refine ⟨fun _ => hs, ?_⟩; refine D_ops rfl rfl ?_; (repeat (refine V_st0 hp rfl rfl rfl (by omega) (by decide) rfl rfl (by kernel_rfl) ?_; intro w hp; refine D_ops rfl rfl ?_))
          refine IH (i + 1) _ _ _ (by omega) rfl ⟨by omega, ?_⟩
          rw [show (firstAndL x.n + (i : Int)).toNat = fst_ x.n + i by omega] at hp
          exact hp
        · refine h_cond_f rfl rfl ?_; (repeat (refine R_ret ?_))
          obtain rfl : i = x.ands.length := by omega
          exact ⟨some ⟨b7, 0, none⟩, nds x.n, by rw [valsL_len], hp.sub (by simp; exact .inl rfl)⟩
  · refine h_call rfl Try.func50 (by kernel_rfl) rfl ((specStateOk_x x a c st _ hp.net hS hW hp.rd hL hV).ff (stOkB_no hok2)) ?_; rintro _ w ⟨rfl, hx⟩; have hp := hp.ext hx; refine ops_run nopre rfl ?_; skip
    refine h_cond_t rfl rfl ?_; (repeat (first | (refine gBuild ?_; refine U_litI hp rfl rfl rfl rfl rfl rfl rfl rfl rfl rfl ?_; intro w _ hx hp; refine ops_run nopre rfl ?_) | refine R_ret ?_))
    rw [ifSt_no hok2]
    exact ⟨_, _, rfl, hp.sub (by simp)⟩
theorem l09Mask_h (a b : Option Addr) (ca cb : Nat) (V ls : List Int) (m n : Nat) (hm : V.length = m) (hn : ls.length = n) (w0 : World) (hR : Rd w0 a 1 eI V) (hQ : Rd w0 b 1 eI ls) (h01 : All01 V) (hls : ∀ i, i < n → 0 ≤ ls.getD i default ∧ ls.getD i default / 2 < m) (hb : m ≤ 1000000000) (hn2 : n ≤ 60) :
    Ret Try.prog 53 [.slice a m ca, .slice b n cb] w0 (fun v w => v = .int .i64 (packL V ls) ∧ Ext w0 w) := by
  subst hn
  refine enter Try.S53ok _ _ rfl rfl (by show _ ≤ _; simp only [List.length]; decide) (fun C => ?_); have hp := Hp.nil w0; refine h_run rfl ?_; skip
  refine h_loop [0, 1, 5, 6] (fun (k : Nat) => [(0, .slice a m ca), (1, .slice b ls.length cb), (5, .int .i64 (packTo V ls k)), (6, .int .i64 (k : Int))])
    (fun k w' => k ≤ ls.length ∧ Hp w0 w' []) (fun k => ls.length - k) 0 rfl ⟨by omega, hp⟩ ?_
  rintro k w1 ⟨hk, hp⟩ IH C
  refine h_run rfl ?_; skip
  refine h_cond_dec (fun hlt => ?_) (fun hlt => ?_)
  · have hlt' : k < ls.length := by omega
    have hl := hls k hlt'
    have h64 : (IntKind.i64.bits : Int) = 64 := rfl
    have hlv := litV_01 h01 (ls.getD k default)
    have hpt := packTo_lt h01 ls k
    have hb2 : 0 ≤ litV V (ls.getD k default) * 2 ^ ((k : Int)).toNat ∧ litV V (ls.getD k default) * 2 ^ ((k : Int)).toNat < 2 ^ (k + 1) := by
      have h := bit_add_lt (p := 0) (s := k) (by decide) (by have := pow_le_ (Nat.zero_le k); omega) hlv
      rw [Int.zero_add] at h
      exact h
    have hb3 := pow_le_ (s := k + 1) (t := 61) (by omega)
    have hb5 := pow_le_ (s := k) (t := 61) (by omega)
    have hb4 : (2 : Int) ^ 61 = 2305843009213693952 := by decide
    refine h_cond_t rfl rfl ?_; (repeat (refine H_ldEN hp rfl (by omega) rfl rfl ?_))
    refine h_call rfl Try.func81 (by kernel_rfl) rfl (l09Bit_h _ _ V m hm _ _ hp.rd hl.1 hl.2 hb) ?_; rintro _ w ⟨rfl, hx⟩; have hp := hp.ext hx; refine ops_run nopre rfl ?_; skip
    exact IH (k + 1) _ _ _ (by omega) rfl ⟨by omega, hp⟩
  · refine h_cond_f rfl rfl ?_; (repeat (refine R_ret ?_))
    obtain rfl : k = ls.length := by omega
    exact ⟨rfl, hp.x⟩
end Go.Proofs
