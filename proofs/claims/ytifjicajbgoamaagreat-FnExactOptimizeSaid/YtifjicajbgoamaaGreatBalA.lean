/- Texts that belong together; each under its stated conditions. -/
import Derived.Test.YtifjicajbgoamaaGreatCutT
import Derived.Test.YtifjicajbgoamaaGreatSimLaw
import Derived.Test.YtifjicajbgoamaaGreatIns
import Derived.Test.YtifjicajbgoamaaGreatCovT
set_option linter.all false
section
namespace Go.Proofs
open Go.Xw
set_option maxRecDepth 100000
set_option maxHeartbeats 400000
attribute [local irreducible] Holds elemAddr
theorem pow_nat (m : Nat) : (2 : Int) ^ m = ((2 ^ m : Nat) : Int) := by
 induction m with
 | zero => rfl
 | succ m ih => rw [Int.pow_succ, Nat.pow_succ, ih]; rfl
theorem pow_4 {m : Nat} (h : m ≤ 4) : 2 ^ m ≤ 16 := by
 have := Nat.pow_le_pow_right (show 0 < 2 by decide) h
 exact this
theorem pow_16 {i : Nat} (h : i < 16) : (1 : Int) ≤ 2 ^ i ∧ (2 : Int) ^ i ≤ 65536 := by
 have h1 := Nat.pow_le_pow_right (show 0 < 2 by decide) (show i ≤ 16 by omega)
 have h2 := Nat.pow_pos (n := i) (show 0 < 2 by decide)
 have h3 : 2 ^ 16 = 65536 := by decide
 rw [pow_nat]
 omega
theorem tbTo_b (n : NetL) (cut : List Int) (r : Nat) {i : Nat} (h : i ≤ 16) : 0 ≤ tbTo n cut r i ∧ tbTo n cut r i ≤ 65536 := by
 have h1 := tbTo_lt n cut r i
 have h2 : (2 : Int) ^ i ≤ 65536 := by
  rw [pow_nat]
  have h1 := Nat.pow_le_pow_right (show 0 < 2 by decide) h
  have h3 : 2 ^ 16 = 65536 := by decide
  omega
 omega
theorem tableOf_h (n : NetL) (cut : List Int) (r m : Nat) (hm : m ≤ 4) (f : Nat) (cap : List Value) (fn : Func) (hf : Tryz.prog.funcs[f]? = some fn) (hne : (fn.name == "runtime.NumGoroutine") = false) (hbn : fn.body.isNone = false) (w0 : World)
  (hcl : ∀ (i : Nat), i < 2 ^ m → ∀ w, Ext w0 w → Ret Tryz.prog f (.int .i64 (i : Int) :: cap) w (fun v w' => v = .bool (decide (cvL n cut r i = 1)) ∧ Ext w w')) :
  Ret Tryz.prog 118 [.int .i64 (m : Int), .func (.func f) ⟨[]⟩ ⟨cap⟩] w0 (fun v w => v = .agg ⟨eII ((m : Int), tbTo n cut r (2 ^ m))⟩ ∧ Ext w0 w) := by
 have h16 := pow_4 hm
 have hpm := pow_nat m
 have hpm' : (2 : Int) ^ ((m : Nat) : Int).toNat = ((2 ^ m : Nat) : Int) := by rw [Int.toNat_natCast]; exact hpm
 have hbkm : ((m : Nat) : Int) ≤ ((IntKind.i64.bits : Nat) : Int) := by show ((m : Nat) : Int) ≤ 64; omega
 refine enter Tryz.S118ok _ _ rfl rfl (by show _ ≤ _; simp only [List.length]; decide) (fun C => ?_); have hp := Hp.nil w0; refine h_run rfl ?_; skip; (first | refine H_box hp ?_ | refine H_alloc hp rfl ?_); intro w b4 hx hp; refine ops_run nopre rfl ?_; skip; (first | refine H_box hp ?_ | refine H_alloc hp rfl ?_); intro w b5 hx hp; refine ops_run nopre rfl ?_; (repeat (refine U_stBN hp rfl rfl rfl rfl ?_; intro w hp; refine ops_run nopre rfl ?_))
 refine h_loop [0, 1, 4, 5, 6] (fun (i : Nat) => [(0, .int .i64 (m : Int)), (1, .func (.func f) ⟨[]⟩ ⟨cap⟩), (4, .pointer (some ⟨b4, 0, none⟩)), (5, .pointer (some ⟨b5, 0, none⟩)), (6, .int .i64 (i : Int))])
  (fun i w' => i ≤ 2 ^ m ∧ Hp w0 w' [rB b5 49 [.int .i64 (m : Int), .int .i64 (tbTo n cut r i)], rB b4 49 (cellsV Tryz.ti49.zero)]) (fun i => 2 ^ m - i) 0 rfl ⟨Nat.zero_le _, hp⟩ ?_
 clear hp
 rintro i w1 ⟨hi, hp⟩ IH C
 refine h_run rfl ?_; skip
 refine h_cond_dec (fun hlt => ?_) (fun hlt => ?_)
 ·have hlt' : i < 2 ^ m := by omega
  have hpi := pow_16 (show i < 16 by omega)
  have hpi' : (2 : Int) ^ ((i : Nat) : Int).toNat = 2 ^ i := by rw [Int.toNat_natCast]
  have hbki : ((i : Nat) : Int) ≤ ((IntKind.i64.bits : Nat) : Int) := by show ((i : Nat) : Int) ≤ 64; omega
  have h01 := cvL_01 n cut r i
  have htl := tbTo_lt n cut r i
  refine h_cond_t rfl rfl ?_; skip
  refine h_call rfl hf hne hbn (hcl i hlt' _ hp.x) ?_; rintro _ w ⟨rfl, hx⟩; have hp := hp.ext hx; refine ops_run nopre rfl ?_; skip
  refine h_cond_dec (fun h1 => ?_) (fun h1 => ?_)
  ·refine h_cond_t rfl rfl ?_; (repeat (first | (refine gLoad ?_; refine H_ldB hp rfl rfl ?_) | (refine gStore ?_; refine U_stB hp rfl rfl rfl rfl ?_; intro w hp; refine ops_run nopre rfl ?_)))
   have e : bits .or .i64 (tbTo n cut r i) (1 * 2 ^ ((i : Nat) : Int).toNat) = tbTo n cut r (i + 1) := by
    rw [hpi', or_bit htl.1 htl.2 (.inr rfl) (by omega), tbTo, h1]
   have hp : Hp w0 w [rB b5 49 [.int .i64 (m : Int), .int .i64 (bits .or .i64 (tbTo n cut r i) (1 * 2 ^ ((i : Nat) : Int).toNat))], rB b4 49 (cellsV Tryz.ti49.zero)] := hp
   rw [e] at hp
   exact IH (i + 1) _ _ _ (by omega) rfl ⟨by omega, hp⟩
  ·have h2 : cvL n cut r i = 0 := h01.resolve_right h1
   refine h_cond_f rfl rfl ?_; skip
   refine IH (i + 1) _ _ _ (by omega) rfl ⟨by omega, ?_⟩
   rw [tbTo, h2, Int.zero_mul, Int.add_zero]
   exact hp
 ·obtain rfl : i = 2 ^ m := by omega
  refine h_cond_f rfl rfl ?_; (repeat (first | (refine gLoad ?_; refine H_ldB hp rfl rfl ?_) | (refine gStore ?_; refine U_stBN hp rfl rfl rfl rfl ?_; intro w hp; refine ops_run nopre rfl ?_) | (refine gRetc ?_; refine R_ret1 hp rfl ?_)))
  exact ⟨rfl, hp.x⟩
theorem cutTable_h (x : NetA) (k : Nat) (ca : Option Addr) (cc : Nat) (cut : List Int) (hcl : cut.length ≤ 4) (hA : Asc cut) (hk : k < nds x.n) (hok : NetOkP x.n) (w0 : World) (hX : NetR w0 x) (hT : Rd w0 ca 1 eI cut) :
  Ret Tryz.prog 82 [x.v, .int .i64 (k : Int), .slice ca cut.length cc] w0 (fun v w => v = .agg ⟨eII (tabL x.n cut k)⟩ ∧ Ext w0 w) := by
 have h16 := pow_4 hcl
 refine enter Tryz.S82ok _ _ rfl rfl (by show _ ≤ _; simp only [List.length]; decide) (fun C => ?_); have hp := Hp.nil w0; refine h_run rfl ?_; skip; (first | refine H_box hp ?_ | refine H_alloc hp rfl ?_); intro w b3 hx hp; refine ops_run nopre rfl ?_; skip; (first | refine H_box hp ?_ | refine H_alloc hp rfl ?_); intro w b4 hx hp; refine ops_run nopre rfl ?_; skip; (first | refine H_box hp ?_ | refine H_alloc hp rfl ?_); intro w b5 hx hp; refine ops_run nopre rfl ?_; skip; (first | refine H_box hp ?_ | refine H_alloc hp rfl ?_); intro w b6 hx hp; refine ops_run nopre rfl ?_; (repeat (refine H_ldB hp rfl rfl ?_))
 have h3 := hp.g3
 have h4 := hp.g2
 have h5 := hp.g1
 have hx0 := hp.x
 refine h_call rfl Tryz.func118 (by kernel_rfl) rfl (tableOf_h x.n cut k cut.length hcl 119 [.pointer (some ⟨b3, 0, none⟩), .pointer (some ⟨b4, 0, none⟩), .pointer (some ⟨b5, 0, none⟩)] _ Tryz.func119 (by kernel_rfl) rfl _ (fun (i : Nat) hi w' hx => cutTableC_h x k ca cc cut hcl hA hk hok b3 b4 b5 i (by omega) w' (hX.ext (hx0.trans hx)) (hT.ext (hx0.trans hx)) ⟨Blk.ext h3 hx⟩ ⟨Blk.ext h4 hx⟩ ⟨Blk.ext h5 hx⟩)) ?_; rintro _ w ⟨rfl, hx⟩; have hp := hp.ext hx; refine ops_run nopre rfl ?_; (repeat (first | (refine gStore ?_; refine U_stBN hp rfl rfl rfl rfl ?_; intro w hp; refine ops_run nopre rfl ?_) | (refine gRetc ?_; refine R_ret1 hp rfl ?_)))
 exact ⟨rfl, hp.x⟩
end Go.Proofs
end
section
namespace Go.Proofs
open Go.Xw
set_option maxRecDepth 100000
set_option maxHeartbeats 1000000
attribute [local irreducible] Holds elemAddr
theorem nodeCount_M (x : NetA) (N : Nat) (h : nodeCountL x.n = (N : Int)) (w0 : World) : Ret Tryz.prog 62 [x.v] w0 (fun v w => v = .int .i64 (N : Int) ∧ Ext w0 w) := by rw [← h]; exact specNodeCount_h x w0
theorem mem_take_succ {cut : List Int} {x : Int} {j : Nat} (hj : j < cut.length) : x ∈ cut.take (j + 1) ↔ x ∈ cut.take j ∨ cut.getD j default = x := by
 rw [take_snoc hj, List.mem_append, List.mem_singleton]
 exact ⟨fun h => h.imp id Eq.symm, fun h => h.imp id Eq.symm⟩
theorem specCutTable_x (x : NetA) (k : Int) (a : Option Addr) (c : Nat) (cut : List Int) (w0 : World) (hX : NetR w0 x) (hS : NetS x.n) (hW : NetW x.n) (hK : i64R k) (hR : Rd w0 a 1 eI cut) (hL : cut.length ≤ 1048576) (hV : ∀ i, i < cut.length → i64R (cut.getD i default)) :
  Ret Tryz.prog 27 [x.v, .int .i64 k, .slice a cut.length c] w0 (fun v w => v = .agg ⟨eII (tabF x.n k cut)⟩ ∧ Ext w0 w) := by
 refine enter Tryz.S27ok _ _ rfl rfl (by show _ ≤ _; simp only [List.length]; decide) (fun C => ?_); have hp := Hp.nil w0; refine h_run rfl ?_; skip; (first | refine H_box hp ?_ | refine H_alloc hp rfl ?_); intro w b3 hx hp; refine ops_run nopre rfl ?_; skip; (first | refine H_box hp ?_ | refine H_alloc hp rfl ?_); intro w b6 hx hp; refine ops_run nopre rfl ?_; (repeat (refine H_ldB hp rfl rfl ?_))
 by_cases h : NetOkP x.n ∧ (0 ≤ k ∧ k < nodesL x.n) ∧ cutP x.n k.toNat cut
 ·have e : tabF x.n k cut = tabL x.n cut k.toNat := by unfold tabF; rw [if_pos (cutOkB_yes h)]
  refine h_call rfl Tryz.func23 (by kernel_rfl) rfl ((specCutOk_x x k a c cut _ hp.net hS hW hK hp.rd hL hV).tt (cutOkB_yes h)) ?_; rintro _ w ⟨rfl, hx⟩; have hp := hp.ext hx; refine ops_run nopre rfl ?_; skip
  obtain ⟨hok, hk, hc⟩ := h
  have hn := hok.nums
  have n1 := hn.n1
  have f2 := hn.f2
  have n4 := hn.n2
  have hnd := hok.nodes
  have hal : x.n.ands.length = x.ands.length := rfl
  obtain ⟨k', rfl⟩ := Int.eq_ofNat_of_zero_le hk.1
  rw [e, Int.toNat_natCast]
  rw [Int.toNat_natCast] at hc
  have hkn : k' < nds x.n := by omega
  have hA := hc.1.2
  have hml := hc.1.1
  obtain ⟨m, hm⟩ : ∃ m, m = cut.length := ⟨_, rfl⟩
  have h16 := pow_4 hml
  have hpm' : (2 : Int) ^ ((cut.length : Nat) : Int).toNat = ((2 ^ cut.length : Nat) : Int) := by rw [Int.toNat_natCast]; exact pow_nat _
  have hbkm : ((cut.length : Nat) : Int) ≤ ((IntKind.i64.bits : Nat) : Int) := by show ((cut.length : Nat) : Int) ≤ 64; omega
  have hnc : nodeCountL x.n = ((nds x.n : Nat) : Int) := by rw [n4]; exact if_pos hok.size
  refine h_cond_f rfl rfl ?_; skip
  (first | refine H_box hp ?_ | refine H_alloc hp rfl ?_); intro w b7 hx hp; refine ops_run nopre rfl ?_; (repeat (refine U_stBN hp rfl rfl rfl rfl ?_; intro w hp; refine ops_run nopre rfl ?_))
  refine h_loop [1, 2, 3, 6, 7, 8] (fun (i : Nat) => [(1, .int .i64 (k' : Int)), (2, .slice a cut.length c), (3, .pointer (some ⟨b3, 0, none⟩)), (6, .pointer (some ⟨b6, 0, none⟩)), (7, .pointer (some ⟨b7, 0, none⟩)), (8, .int .i64 (i : Int))])
   (fun i w' => i ≤ 2 ^ cut.length ∧ Hp w0 w' [rB b7 49 [.int .i64 (cut.length : Int), .int .i64 (tbTo x.n cut k' i)], rB b6 49 (cellsV Tryz.ti49.zero), rB b3 31 x.cs]) (fun i => 2 ^ cut.length - i) 0 rfl ⟨Nat.zero_le _, hp⟩ ?_
  clear hp
  rintro i w1 ⟨hi, hp⟩ IH C
  refine h_run rfl ?_; skip
  refine h_cond_dec (fun hlt => ?_) (fun hlt => ?_)
  ·have hlt' : i < 2 ^ cut.length := by omega
   have hpi := pow_16 (show i < 16 by omega)
   have hpi' : (2 : Int) ^ ((i : Nat) : Int).toNat = 2 ^ i := by rw [Int.toNat_natCast]
   have hbki : ((i : Nat) : Int) ≤ ((IntKind.i64.bits : Nat) : Int) := by show ((i : Nat) : Int) ≤ 64; omega
   have hi16 : i < 16 := by omega
   clear hpm' hlt hi
   refine h_cond_t rfl rfl ?_; (repeat (refine H_ldB hp rfl rfl ?_))
   refine h_call rfl Tryz.func62 (by kernel_rfl) rfl (nodeCount_M x (nds x.n) hnc _) ?_; rintro _ w ⟨rfl, hx⟩; have hp := hp.ext hx; refine ops_run nopre rfl ?_; skip
   refine H_make hp eI 0 rfl rfl rfl rfl (s := 1) rfl (by decide) rfl (by unfold maxLen; omega) (by show 8 * _ ≤ _; omega) ?_; intro w b9 hx hp; refine ops_run nopre rfl ?_; skip
   refine h_loop [1, 2, 3, 6, 7, 8, 9, 10] (fun (q : Nat) => [(1, .int .i64 (k' : Int)), (2, .slice a cut.length c), (3, .pointer (some ⟨b3, 0, none⟩)), (6, .pointer (some ⟨b6, 0, none⟩)), (7, .pointer (some ⟨b7, 0, none⟩)), (8, .int .i64 (i : Int)), (9, .slice (some ⟨b9, 0, none⟩) (nds x.n) (nds x.n)), (10, .int .i64 (q : Int))])
    (fun q w' => q ≤ k' + 1 ∧ Hp w0 w' [rO 3 1 eI (some ⟨b9, 0, none⟩) (nds x.n) (cvTo x.n cut i q ++ List.replicate (nds x.n - q) 0), rB b7 49 [.int .i64 (cut.length : Int), .int .i64 (tbTo x.n cut k' i)], rB b6 49 (cellsV Tryz.ti49.zero), rB b3 31 x.cs]) (fun q => k' + 1 - q) 0 rfl ⟨Nat.zero_le _, hp⟩ ?_
   clear hp
   rintro q w2 ⟨hq, hp⟩ IH2 C2
   have hcl := cvTo_len x.n cut i q
   refine h_run rfl ?_; skip
   refine h_cond_dec (fun hlt2 => ?_) (fun hlt2 => ?_)
   ·have hq' : q < nds x.n := by omega
    have hcv1 : cvTo x.n cut i (q + 1) = cvTo x.n cut i q ++ [cvAt x.n cut i (cvTo x.n cut i q) q] := rfl
    have hrep : List.replicate (nds x.n - q) (0 : Int) = List.replicate (nds x.n - (q + 1) + 1) 0 := by rw [show nds x.n - q = nds x.n - (q + 1) + 1 by omega]
    obtain ⟨base, hbase⟩ : ∃ base, base = cvTo x.n cut i q ++ List.replicate (nds x.n - q) 0 := ⟨_, rfl⟩
    have hbl : base.length = nds x.n := by rw [hbase]; simp; omega
    have hset : ∀ z, base.set q z = (cvTo x.n cut i q ++ [z]) ++ List.replicate (nds x.n - (q + 1)) 0 := fun z => by
     rw [hbase, hrep]
     have := row_set (cvTo x.n cut i q) (nds x.n - (q + 1)) (0 : Int) z
     rw [hcl] at this
     exact this
    rw [← hbase] at hp
    refine h_cond_t rfl rfl ?_; skip
    refine h_loop2 [1, 2, 3, 6, 7, 8, 9, 10, 11, 12] (fun (j : Nat) (s : Bool) => [(1, .int .i64 (k' : Int)), (2, .slice a cut.length c), (3, .pointer (some ⟨b3, 0, none⟩)), (6, .pointer (some ⟨b6, 0, none⟩)), (7, .pointer (some ⟨b7, 0, none⟩)), (8, .int .i64 (i : Int)), (9, .slice (some ⟨b9, 0, none⟩) (nds x.n) (nds x.n)), (10, .int .i64 (q : Int)), (11, .bool s), (12, .int .i64 (j : Int))])
     (fun j s w' => (j ≤ cut.length ∧ (s = true ↔ (q : Int) ∈ cut.take j)) ∧ Hp w0 w' [rO 3 1 eI (some ⟨b9, 0, none⟩) (nds x.n) (if s = true then base.set q (bitI i (cut.idxOf (q : Int))) else base), rB b7 49 [.int .i64 (cut.length : Int), .int .i64 (tbTo x.n cut k' i)], rB b6 49 (cellsV Tryz.ti49.zero), rB b3 31 x.cs]) (fun j _ => cut.length - j) 0 false rfl ⟨⟨Nat.zero_le _, by simp⟩, hp⟩ ?_
    clear hp
    rintro j s w3 ⟨⟨hj, hs⟩, hp⟩ IH3 C3
    have hbkj : ((j : Nat) : Int) ≤ ((IntKind.i64.bits : Nat) : Int) := by show ((j : Nat) : Int) ≤ 64; omega
    have hdl : (if s = true then base.set q (bitI i (cut.idxOf (q : Int))) else base).length = nds x.n := by split <;> simp [hbl]
    refine h_run rfl ?_; skip
    refine h_cond_dec (fun hlt3 => ?_) (fun hlt3 => ?_)
    ·have hlt3' : j < cut.length := by omega
     have hmt := mem_take_succ (x := (q : Int)) hlt3'
     refine h_cond_t rfl rfl ?_; (repeat (refine H_ldEN hp rfl (by omega) rfl rfl ?_))
     refine h_cond_dec (fun he => ?_) (fun he => ?_)
     ·have hidx := asc_idx hA hlt3' he
      refine h_cond_t rfl rfl ?_; (repeat (refine U_st0N hp rfl rfl rfl (by omega) (by decide) rfl rfl ?_; intro w hp; refine ops_run nopre rfl ?_))
      refine IH3 (j + 1) true _ _ _ (by omega) rfl ⟨⟨by omega, ⟨fun _ => hmt.2 (.inr he), fun _ => rfl⟩⟩, ?_⟩
      rw [if_pos rfl, hidx]
      have e5 : (if s = true then base.set q (bitI i (cut.idxOf (q : Int))) else base).set q (bitI i j) = base.set q (bitI i j) := by
       split
       ·rw [List.set_set]
       ·rfl
      rw [← e5]
      exact hp
     ·refine h_cond_f rfl rfl ?_; skip
      refine IH3 (j + 1) s _ _ _ (by omega) rfl ⟨⟨by omega, ?_⟩, hp⟩
      rw [hs, hmt]
      exact ⟨.inl, fun h => h.resolve_right he⟩
    ·obtain rfl : j = cut.length := by omega
     rw [List.take_length] at hs
     refine h_cond_f rfl rfl ?_; skip
     cases s with
     | true =>
      have hmem : (q : Int) ∈ cut := hs.1 rfl
      rw [if_pos rfl, hset] at hp
      (repeat (refine h_guard_n rfl nopre rfl ?_))
      refine h_cond_f rfl rfl ?_; skip
      refine IH2 (q + 1) _ _ _ (by omega) rfl ⟨by omega, ?_⟩
      rw [hcv1, show cvAt x.n cut i (cvTo x.n cut i q) q = bitI i (cut.idxOf (q : Int)) by unfold cvAt; rw [if_pos hmem]]
      exact hp
     | false =>
      have hmem : (q : Int) ∉ cut := fun h => by have := hs.2 h; cases this
      rw [if_neg (by decide)] at hp
      (repeat (first | (refine gGuard ?_; refine h_guard_y rfl nopre rfl ?_) | (refine gLoad ?_; refine H_ldB hp rfl rfl ?_)))
      refine h_call rfl Tryz.func24 (by kernel_rfl) rfl (l08First_h x _ hok.b) ?_; rintro _ w ⟨rfl, hx⟩; have hp := hp.ext hx; refine ops_run nopre rfl ?_; (repeat (refine h_guard_y rfl nopre rfl ?_))
      refine h_cond_dec (fun hf => ?_) (fun hf => ?_)
      ·have hp5 : q - fst_ x.n < x.ands.length := by omega
       have hz : ((q : Int) - firstAndL x.n).toNat = q - fst_ x.n := by omega
       have Q := hok.and_ hp5
       have Q' := Q
       rw [← hz] at Q'
       obtain ⟨Q1, Q2, Q3, Q4⟩ := Q
       obtain ⟨Q1', Q2', Q3', Q4'⟩ := Q'
       refine h_cond_t rfl rfl ?_; skip
       refine N_draw hp (by kernel_rfl) (by kernel_rfl) rfl rfl ?_; (repeat (refine N_ldB rfl rfl rfl ?_))
       refine N_call Tryz.func24 (by kernel_rfl) rfl (fun F w hp => ?_); refine Ret.mono (l08First_h x _ hok.b) ?_; rintro _ w ⟨rfl, hx⟩; have hp := hp.ext hx; refine ⟨fun _ => hp.sub (by (repeat (first | exact List.sublist_append_left _ _ | apply List.Sublist.cons))), _, hp, ?_⟩; clear hp; refine N_ops rfl rfl ?_; (repeat (refine N_ldE rfl (by omega) (by omega) rfl rfl rfl ?_))
       (first | refine N_box ?_ | refine N_alloc rfl ?_); intro b13; refine N_ops rfl rfl ?_; (repeat (refine N_stBN rfl rfl rfl rfl (by kernel_rfl) ?_; refine N_ops rfl rfl ?_))
       refine N_end ?_; intro w hp C; refine h_run rfl ?_; skip
       rw [hz] at hp
       refine N_draw hp (by kernel_rfl) (by kernel_rfl) rfl rfl ?_; (repeat (refine N_ldB rfl rfl rfl ?_))
       refine N_call Tryz.func65 (by kernel_rfl) rfl (fun F w hp => ?_); refine Ret.mono (l09Bit_h _ _ base (nds x.n) hbl (x.ands.getD (q - fst_ x.n) default).1 _ hp.pre.rd Q1 (by omega) (by omega)) ?_; rintro _ w ⟨rfl, hx⟩; have hp := hp.ext hx; refine ⟨fun _ => hp.sub (by (repeat (first | exact List.sublist_append_left _ _ | apply List.Sublist.cons))), _, hp, ?_⟩; clear hp; refine N_ops rfl rfl ?_; (repeat (refine N_ldB rfl rfl rfl ?_))
       refine N_call Tryz.func65 (by kernel_rfl) rfl (fun F w hp => ?_); refine Ret.mono (l09Bit_h _ _ base (nds x.n) hbl (x.ands.getD (q - fst_ x.n) default).2 _ hp.pre.rd Q3 (by omega) (by omega)) ?_; rintro _ w ⟨rfl, hx⟩; have hp := hp.ext hx; refine ⟨fun _ => hp.sub (by (repeat (first | exact List.sublist_append_left _ _ | apply List.Sublist.cons))), _, hp, ?_⟩; clear hp; refine N_ops rfl rfl ?_; (repeat (refine N_st0N rfl rfl rfl (by omega) (by decide) rfl rfl (by kernel_rfl) ?_; refine N_ops rfl rfl ?_))
       refine N_end ?_; intro w hp C; refine h_run rfl ?_; skip
       refine IH2 (q + 1) _ _ _ (by omega) rfl ⟨by omega, ?_⟩
       rw [hcv1, show cvAt x.n cut i (cvTo x.n cut i q) q = bits .and .i64 (litV base (x.ands.getD (q - fst_ x.n) default).1) (litV base (x.ands.getD (q - fst_ x.n) default).2) by
        unfold cvAt
        rw [if_neg hmem, if_pos (by omega), hbase, litV_pad, litV_pad]
        rfl, ← hset]
       exact hp.drop
      ·refine h_cond_f rfl rfl ?_; skip
       refine IH2 (q + 1) _ _ _ (by omega) rfl ⟨by omega, ?_⟩
       rw [hcv1, show cvAt x.n cut i (cvTo x.n cut i q) q = 0 by unfold cvAt; rw [if_neg hmem, if_neg (by omega)]]
       rw [hbase, hrep] at hp
       rw [List.append_assoc]
       exact hp
   ·obtain rfl : q = k' + 1 := by omega
    have hval : (cvTo x.n cut i (k' + 1) ++ List.replicate (nds x.n - (k' + 1)) 0).getD k' default = cvL x.n cut k' i := by
     rw [get_left (by rw [hcl]; omega), cvTo_get (by omega)]
     unfold cvL
     rw [cvTo_get hkn]
    have h01 := cvL_01 x.n cut k' i
    have hrl : (cvTo x.n cut i (k' + 1) ++ List.replicate (nds x.n - (k' + 1)) (0 : Int)).length = nds x.n := by simp; omega
    have htb := tbTo_b x.n cut k' (show i ≤ 16 by omega)
    have hprod : 0 ≤ (cvTo x.n cut i (k' + 1) ++ List.replicate (nds x.n - (k' + 1)) 0).getD k' default * 2 ^ ((i : Nat) : Int).toNat ∧ (cvTo x.n cut i (k' + 1) ++ List.replicate (nds x.n - (k' + 1)) 0).getD k' default * 2 ^ ((i : Nat) : Int).toNat ≤ 65536 := by
     rw [hval, hpi']
     rcases h01 with e1 | e1 <;> rw [e1]
     ·rw [Int.zero_mul]; omega
     ·rw [Int.one_mul]; omega
    have hfin : tbTo x.n cut k' i + (cvTo x.n cut i (k' + 1) ++ List.replicate (nds x.n - (k' + 1)) 0).getD k' default * 2 ^ ((i : Nat) : Int).toNat = tbTo x.n cut k' (i + 1) := by rw [hval, hpi']; rfl
    refine h_cond_f rfl rfl ?_; skip
    refine N_draw hp (by kernel_rfl) (by kernel_rfl) rfl rfl ?_; (repeat (first | (refine nLoad ?_; first | refine N_ldB rfl rfl rfl ?_ | refine N_ldEN rfl (by omega) rfl rfl rfl ?_) | (refine nStore ?_; refine N_stB rfl rfl rfl rfl (by kernel_rfl) ?_; refine N_ops rfl rfl ?_)))
    refine N_end ?_; intro w hp C; refine h_run rfl ?_; skip
    rw [hfin] at hp
    exact IH (i + 1) _ _ _ (by omega) rfl ⟨by omega, hp.drop⟩
  ·obtain rfl : i = 2 ^ cut.length := by omega
   refine h_cond_f rfl rfl ?_; (repeat (first | (refine gLoad ?_; refine H_ldB hp rfl rfl ?_) | (refine gStore ?_; refine U_stBN hp rfl rfl rfl rfl ?_; intro w hp; refine ops_run nopre rfl ?_) | (refine gRetc ?_; refine R_ret1 hp rfl ?_)))
   exact ⟨rfl, hp.x⟩
 ·have e : tabF x.n k cut = (0, 0) := by unfold tabF; rw [if_neg (by rw [cutOkB_no h]; decide)]
  refine h_call rfl Tryz.func23 (by kernel_rfl) rfl ((specCutOk_x x k a c cut _ hp.net hS hW hK hp.rd hL hV).ff (cutOkB_no h)) ?_; rintro _ w ⟨rfl, hx⟩; have hp := hp.ext hx; refine ops_run nopre rfl ?_; skip
  refine h_cond_t rfl rfl ?_; (repeat (first | (refine gStore ?_; refine U_stBN hp rfl rfl rfl rfl ?_; intro w hp; refine ops_run nopre rfl ?_) | (refine gRetc ?_; refine R_ret1 hp rfl ?_)))
  exact ⟨by rw [e]; rfl, hp.x⟩
end Go.Proofs
end
section
namespace Go.Xw
def NetA.cb (y : NetA) (v : Value) : List Value := [.int .i64 y.inputs, .slice y.sa y.seqs.length y.sc, .slice y.aa y.ands.length y.ac, .slice y.oa y.outs.length y.oc, v]
end Go.Xw
namespace Go.Proofs
open Go.Xw
set_option maxRecDepth 100000
set_option maxHeartbeats 1000000
attribute [local irreducible] Holds elemAddr
theorem addAndW_h (y : NetA) (bv : Value) (p : Nat) (a b : Int) {w0 w : World} {L : List Res} (hp : Hp w0 w (rB p 108 (y.cb bv) :: rO 62 2 eII y.aa y.ac y.ands :: L)) (hb : NetB y) (hl : y.ands.length ≤ 1000000) (ha : 0 ≤ a ∧ a ≤ 1000000) (hb2 : 0 ≤ b ∧ b ≤ 1000000) :
  Ret Tryz.prog 89 [.pointer (some ⟨p, 0, none⟩), .int .i64 a, .int .i64 b] w (fun v w' => ∃ aa ac, v = .int .i64 (addAndL y.n a b).2 ∧ Hp w0 w' (rB p 108 ((y.wA aa ac (addAndL y.n a b).1.ands).cb bv) :: rO 62 2 eII aa ac (addAndL y.n a b).1.ands :: L)) := by
 have hnc := notL_eq ha.1 (by omega)
 have hnn : ∀ v, notL a = v ↔ bits .xor .i64 a 1 = v := fun v => .rfl
 refine enter Tryz.S89ok _ _ rfl rfl (by show _ ≤ _; simp only [List.length]; decide) (fun C => ?_); refine h_run rfl ?_; skip
 refine h_guard_by (fun h1 => ?_) (fun h1 => ?_); all_goals (rw [h1]; (first | replace h1 := of_decide_eq_true h1 | replace h1 := of_decide_eq_false h1 | skip); (repeat (refine gGuard ?_; first | refine h_guard_y rfl nopre rfl ?_ | refine h_guard_n rfl nopre rfl ?_)))
 ·refine h_cond_t rfl rfl ?_; (repeat (refine R_ret ?_))
  have e : addAndL y.n a b = (y.n, 0) := by unfold addAndL; rw [if_pos (.inl h1)]
  rw [e]
  exact ⟨y.aa, y.ac, rfl, hp⟩
 ·refine h_guard_by (fun h2 => ?_) (fun h2 => ?_); all_goals (rw [h2]; (first | replace h2 := of_decide_eq_true h2 | replace h2 := of_decide_eq_false h2 | skip); (repeat (refine gGuard ?_; first | refine h_guard_y rfl nopre rfl ?_ | refine h_guard_n rfl nopre rfl ?_)))
  ·refine h_cond_t rfl rfl ?_; (repeat (refine R_ret ?_))
   have e : addAndL y.n a b = (y.n, 0) := by unfold addAndL; rw [if_pos (.inr (.inl h2))]
   rw [e]
   exact ⟨y.aa, y.ac, rfl, hp⟩
  ·refine h_cond_dec (fun h3 => ?_) (fun h3 => ?_)
   ·refine h_cond_t rfl rfl ?_; (repeat (refine R_ret ?_))
    have e : addAndL y.n a b = (y.n, 0) := by unfold addAndL; rw [if_pos (.inr (.inr h3))]
    rw [e]
    exact ⟨y.aa, y.ac, rfl, hp⟩
   ·have e0 : ¬ (a = 0 ∨ b = 0 ∨ notL a = b) := fun h => h.elim h1 fun h => h.elim h2 h3
    refine h_cond_f rfl rfl ?_; skip
    refine h_guard_by (fun h4 => ?_) (fun h4 => ?_); all_goals (rw [h4]; (first | replace h4 := of_decide_eq_true h4 | replace h4 := of_decide_eq_false h4 | skip); (repeat (refine gGuard ?_; first | refine h_guard_y rfl nopre rfl ?_ | refine h_guard_n rfl nopre rfl ?_)))
    ·refine h_cond_t rfl rfl ?_; (repeat (refine R_ret ?_))
     have e : addAndL y.n a b = (y.n, b) := by unfold addAndL; rw [if_neg e0, if_pos (.inl h4)]
     rw [e]
     exact ⟨y.aa, y.ac, rfl, hp⟩
    ·refine h_cond_dec (fun h5 => ?_) (fun h5 => ?_)
     ·refine h_cond_t rfl rfl ?_; (repeat (refine R_ret ?_))
      have e : addAndL y.n a b = (y.n, b) := by unfold addAndL; rw [if_neg e0, if_pos (.inr h5)]
      rw [e]
      exact ⟨y.aa, y.ac, rfl, hp⟩
     ·refine h_cond_f rfl rfl ?_; skip
      refine h_cond_dec (fun h6 => ?_) (fun h6 => ?_)
      ·refine h_cond_t rfl rfl ?_; (repeat (refine R_ret ?_))
       have e : addAndL y.n a b = (y.n, a) := by unfold addAndL; rw [if_neg e0, if_neg (fun h => h.elim h4 h5), if_pos h6]
       rw [e]
       exact ⟨y.aa, y.ac, rfl, hp⟩
      ·have e1 : addAndL y.n a b = if y.ands.idxOf (min a b, max a b) < y.ands.length then (y.n, 2 * (firstAndL y.n + (y.ands.idxOf (min a b, max a b) : Nat)))
         else if 300 ≤ y.ands.length then (y.n, -1) else ({ y.n with ands := y.ands ++ [(min a b, max a b)] }, 2 * nodesL y.n) := by
        unfold addAndL; rw [if_neg e0, if_neg (fun h => h.elim h4 h5), if_neg h6]; rfl
       refine h_cond_f rfl rfl ?_; skip
       (first | refine H_box hp ?_ | refine H_alloc hp rfl ?_); intro w b7 hx hp; refine ops_run nopre rfl ?_; (repeat (first | (refine gLoad ?_; refine H_ldB hp rfl rfl ?_) | (refine gStore ?_; refine U_stBN hp rfl rfl rfl rfl ?_; intro w hp; refine ops_run nopre rfl ?_)))
       refine h_loop [0, 7, 46, 47, 48] (fun (i : Nat) => [(0, .pointer (some ⟨p, 0, none⟩)), (7, .pointer (some ⟨b7, 0, none⟩)), (46, .slice y.aa y.ands.length y.ac), (47, .int .i64 y.ands.length), (48, .int .i64 (i : Int))])
        (fun i w' => i ≤ y.ands.length ∧ (∀ j, j < i → y.ands.getD j default ≠ (min a b, max a b)) ∧ Hp w0 w' (rB b7 62 (eII (min a b, max a b)) :: rB p 108 (y.cb bv) :: rO 62 2 eII y.aa y.ac y.ands :: L)) (fun i => y.ands.length - i) 0 rfl ⟨by omega, fun j hj => by omega, hp⟩ ?_
       rintro i w2 ⟨hi, hne, hp⟩ IH C
       refine h_run rfl ?_; skip
       refine h_cond_dec (fun hlt => ?_) (fun hlt => ?_)
       ·have hlt' : i < y.ands.length := by omega
        refine h_cond_t rfl rfl ?_; (repeat (refine H_ldEN hp rfl (by omega) rfl rfl ?_))
        (first | refine H_box hp ?_ | refine H_alloc hp rfl ?_); intro w b9 hx hp; refine ops_run nopre rfl ?_; (repeat (first | (refine gLoad ?_; refine H_ldB hp rfl rfl ?_) | (refine gStore ?_; refine U_stBN hp rfl rfl rfl rfl ?_; intro w hp; refine ops_run nopre rfl ?_)))
        refine h_cond_b (fun he => ?_) (fun he => ?_)
        ·have he : y.ands.getD i default = (min a b, max a b) := by
          simp only [Bool.and_true, Bool.and_eq_true, decide_eq_true_eq] at he
          first | exact Prod.ext he.1 he.2 | exact Prod.ext he.1.symm he.2.symm
         have hix := idxOf_at hne hlt' he
         refine h_cond_t rfl rfl ?_; (repeat (refine H_ldB hp rfl rfl ?_))
         have hfb := firstAndL_eq y
         obtain ⟨g1, g2, g3⟩ := id hb
         refine h_call rfl Tryz.func55 (by kernel_rfl) rfl (firstAnd_h y _ hb) ?_; rintro _ w ⟨rfl, hx⟩; have hp := hp.ext hx; refine ops_run nopre rfl ?_; (repeat (refine R_ret ?_))
         rw [e1, hix, if_pos hlt']
         skip
         exact ⟨y.aa, y.ac, rfl, hp.drop.drop⟩
        ·have he : y.ands.getD i default ≠ (min a b, max a b) := fun h2 => by
          simp only [Bool.and_true, Bool.and_eq_false_iff, decide_eq_false_iff_not] at he
          rcases he with he | he <;> exact he (by rw [h2])
         refine h_cond_f rfl rfl ?_; skip
         refine IH (i + 1) _ _ _ (by omega) rfl ⟨by omega, fun j hj => ?_, hp.drop⟩
         by_cases hj2 : j < i
         ·exact hne j hj2
         ·obtain rfl : j = i := by omega
          exact he
       ·obtain rfl : i = y.ands.length := by omega
        have hix := idxOf_none hne
        refine h_cond_f rfl rfl ?_; (repeat (refine H_ldB hp rfl rfl ?_))
        refine h_cond_dec (fun h7 => ?_) (fun h7 => ?_)
        ·refine h_cond_t rfl rfl ?_; (repeat (refine R_ret ?_))
         rw [e1, if_neg hix, if_pos (by omega)]
         exact ⟨y.aa, y.ac, rfl, hp.drop⟩
        ·refine h_cond_f rfl rfl ?_; skip
         refine D_draw hp (by kernel_rfl) (by kernel_rfl) rfl rfl ?_; intro w hx hp; have hs := hp; (repeat (refine D_ldB rfl rfl rfl ?_))
         refine D_lit (fun _ hx => hs.ext hx) hp eII [(min a b, max a b)] rfl rfl rfl rfl (s := 2) rfl (by decide) (by infer_instance) (by rfl) (by rfl) (by rfl) (by decide) ?_; intro w b8 hx hp; have hs := hs.ext hx; refine D_ops rfl rfl ?_; skip
         refine V_append hp rfl rfl rfl rfl rfl rfl rfl (by decide) rfl (by first | omega | (simp only [List.length_append, List.length_cons, List.length_nil, List.length_take, List.length_drop, List.length_set, List.length_replicate, List.length_map]; omega)) rfl rfl (by kernel_rfl) ?_; intro b' c' w hp hnil; refine D_ops rfl rfl ?_; (repeat (refine V_stB hp rfl rfl rfl rfl (by kernel_rfl) ?_; intro w hp; refine D_ops rfl rfl ?_))
         have hb3 : NetB (y.wA b' c' (y.ands ++ [(min a b, max a b)])) := ⟨hb.1, hb.2, by show (y.ands ++ _).length ≤ _; simp; omega⟩
         have hnd : nodesL (y.wA b' c' (y.ands ++ [(min a b, max a b)])).n = nodesL y.n + 1 := by rw [nodesL_eq, nodesL_eq]; show 1 + y.inputs + y.seqs.length + ((y.ands ++ _).length : Nat) = _; simp; omega
         have hnd2 := nodesL_eq y
         obtain ⟨g1, g2, g3⟩ := id hb
         (repeat (refine H_ldB hp rfl rfl ?_))
         refine h_call rfl Tryz.func78 (by kernel_rfl) rfl (nodeCount_h (y.wA b' c' (y.ands ++ [(min a b, max a b)])) _ hb3) ?_; rintro _ w ⟨rfl, hx⟩; have hp := hp.ext hx; refine ops_run nopre rfl ?_; (repeat (refine R_ret ?_))
         rw [e1, if_neg hix, if_neg (by omega)]
         refine ⟨b', c', by congr 1; omega, ?_⟩
         exact hp.drop.drop
theorem copyRootsW_h (bv : Value) (p : Nat) (y x : NetA) (pa : Option Addr) (pc m : Nat) (to : List Int) (hm : to.length = m) {w0 w : World} {L : List Res} (hp : Hp w0 w (rB p 108 (y.cb bv) :: rSq y.sa y.sc y.seqs :: rO 3 1 eI y.oa y.oc y.outs :: L)) [hX : NetH w0 L x] [hT : RdH w0 L pa 1 eI to] (hok : NetOkP x.n) (hnd : nds x.n ≤ m) (hmb : m ≤ 1000000) (hyl : x.seqs.length ≤ y.seqs.length) (hyb : y.seqs.length ≤ 1000000) :
  Ret Tryz.prog 91 [.pointer (some ⟨p, 0, none⟩), x.v, .slice pa m pc] w (fun v w' => ∃ R oa oc, v = .tuple ⟨[]⟩ ∧ (R.length = y.seqs.length ∧ seqsOf R = upTo (crF (seqsOf y.seqs) x.n to) x.seqs.length (seqsOf y.seqs)) ∧
   Hp w0 w' (rB p 108 [.int .i64 y.inputs, .slice y.sa y.seqs.length y.sc, .slice y.aa y.ands.length y.ac, .slice oa (mapL to x.outs).length oc, bv] :: rSq y.sa y.sc R :: rO 3 1 eI oa oc (mapL to x.outs) :: L)) := by
 subst hm
 have hn := hok.nums
 have n1 := hn.n1
 have n2 := hn.n2
 have hsz := hok.size'
 have hsl := x.slen
 have hlit : ∀ l, litP l (nodesL x.n) → 0 ≤ l ∧ l / 2 < to.length := fun l h => by unfold litP at h; omega
 refine enter Tryz.S91ok _ _ rfl rfl (by show _ ≤ _; simp only [List.length]; decide) (fun C => ?_); refine h_run rfl ?_; skip
 (first | refine H_box hp ?_ | refine H_alloc hp rfl ?_); intro w b4 hx hp; refine ops_run nopre rfl ?_; (repeat (refine H_ldB hp rfl rfl ?_))
 have hp := rSq_open (hp.f3.f2.f2.f3)
 refine h_loop2 [0, 2, 4, 9, 10, 11] (fun (i : Nat) (_ : List SeqA) => [(0, .pointer (some ⟨p, 0, none⟩)), (2, .slice pa to.length pc), (4, .pointer (some ⟨b4, 0, none⟩)), (9, .slice x.sa x.seqs.length x.sc), (10, .int .i64 x.seqs.length), (11, .int .i64 (i : Int))])
  (fun i R w' => (i ≤ x.seqs.length ∧ R.length = y.seqs.length ∧ seqsOf R = upTo (crF (seqsOf y.seqs) x.n to) i (seqsOf y.seqs)) ∧ Hp w0 w' (rO 88 3 eSq y.sa y.sc R :: rIns R :: rB b4 31 x.cs :: rB p 108 (y.cb bv) :: rO 3 1 eI y.oa y.oc y.outs :: L)) (fun i _ => x.seqs.length - i) 0 y.seqs rfl
  ⟨⟨by omega, rfl, by rw [upTo_zero]⟩, hp⟩ ?_
 rintro i R w1 ⟨⟨hi, hR, hRs⟩, hp⟩ IH C
 refine h_run rfl ?_; skip
 refine h_cond_dec (fun hlt => ?_) (fun hlt => ?_)
 ·have hlt' : i < x.seqs.length := by omega
  have hil := hok.ins hlt'
  have hsx := x.sins i
  have hq : ∀ j, j < (x.seqs.getD i default).ins.length → 0 ≤ (x.seqs.getD i default).ins.getD j default ∧ (x.seqs.getD i default).ins.getD j default / 2 < to.length := fun j hj =>
   hlit _ (hok.inp (getD_mem (show i < x.n.seqs.length by omega)) _ (by rw [hsx]; exact getD_mem hj))
  refine h_cond_t rfl rfl ?_; (repeat (refine H_ldEN hp rfl (by omega) rfl rfl ?_))
  have hrow := hX.in_ hlt'
  have hne : y.sa ≠ none := nn_of hp (X := R) (by omega)
  (first | refine H_box hp ?_ | refine H_alloc hp rfl ?_); intro w b7 hx hp; refine ops_run nopre rfl ?_; (repeat (refine U_stBN hp rfl rfl rfl rfl ?_; intro w hp; refine ops_run nopre rfl ?_))
  refine N_draw hp (by kernel_rfl) (by kernel_rfl) rfl rfl ?_; (repeat (refine N_ldB rfl rfl rfl ?_))
  refine N_call Tryz.func129 (by kernel_rfl) rfl (fun F w hp => ?_); refine Ret.mono (mapLits_h pa _ pc _ to (x.seqs.getD i default).ins _ _ rfl rfl _ hp.pre.rd hp.pre.rd hq (by omega) (by omega)) ?_; rintro _ w ⟨r, e, rfl, hq⟩; have hp := hp.callF1 hq; refine ⟨fun _ => hp.sub (by (repeat (first | exact List.sublist_append_left _ _ | apply List.Sublist.cons))), _, hp, ?_⟩; clear hp; refine N_ops rfl rfl ?_; skip
  first | refine N_st1N ({ R.getD i default with ins := mapL to (x.seqs.getD i default).ins, ia := r, ic := e }) rfl rfl rfl (by omega) (by decide) rfl rfl (by kernel_rfl) ?_ | refine N_st1 ({ R.getD i default with ins := mapL to (x.seqs.getD i default).ins, ia := r, ic := e }) rfl rfl rfl (by omega) (by decide) rfl rfl (by kernel_rfl) ?_
  refine N_ops rfl rfl ?_; skip
  refine N_end ?_; intro w hp C; refine h_run rfl ?_; skip
  obtain ⟨Q, hq, hback⟩ := rIns_at (hp.f1.drop.f2) (i := i) (by omega)
  have hp := (hback _ _ { R.getD i default with ins := mapL to (x.seqs.getD i default).ins, ia := r, ic := e } hq.drop.f1).f1
  refine IH (i + 1) _ _ _ _ (by omega) rfl ⟨⟨by omega, by simp; omega, ?_⟩, hp⟩
  have hix : i < (seqsOf y.seqs).length := by rw [seqsOf_len]; omega
  rw [seqsOf_set, hRs, ← upTo_set (f := crF (seqsOf y.seqs) x.n to) hix]
  congr 1
  have h1 : (R.getD i default).s = (seqsOf y.seqs).getD i default := by
   rw [← seqsOf_get, hRs, upTo_at (Nat.le_refl _) (by omega)]
  unfold crF
  rw [← h1, hsx]
  rfl
 ·refine h_cond_f rfl rfl ?_; (repeat (refine H_ldB hp rfl rfl ?_))
  obtain rfl : i = x.seqs.length := by omega
  refine h_call rfl Tryz.func129 (by kernel_rfl) rfl (mapLits_h pa _ pc _ to x.outs _ _ rfl rfl _ hp.rd hp.rd (fun j hj => hlit _ (hok.out _ (getD_mem hj))) (by omega) (by omega)) ?_; rintro _ w ⟨r, e, rfl, hq⟩; have hx := hq.x; have hp := hp.call1 hq; refine ops_run nopre rfl ?_; (repeat (first | (refine gStore ?_; refine U_stB hp rfl rfl rfl rfl ?_; intro w hp; refine ops_run nopre rfl ?_) | refine R_ret ?_))
  have hp := rSq_shut (hp.f5.drop.f3.drop.f3.f1.f3.f3)
  exact ⟨R, r, e, rfl, ⟨hR, hRs⟩, hp.f1.f1.f2⟩
end Go.Proofs
end
