/- The contracts of CutTable on both sides; each under its stated conditions. -/
import Derived.Test.YtifjicajbgoamaaGreatCutT
set_option linter.all false
namespace Go.Proofs
open Go.Xw
set_option maxRecDepth 100000
set_option maxHeartbeats 400000
attribute [local irreducible] Holds elemAddr
theorem pow_nat (m : Nat) : (2 : Int) ^ m = ((2 ^ m : Nat) : Int) := by
  induction m with
  | zero => rfl
  | succ m ih => rw [Int.pow_succ, Nat.pow_succ, ih]; rfl
theorem pow_4 {m : Nat} (h : m ≤ 4) : 2 ^ m ≤ 16 := by
  have := Nat.pow_le_pow_right (show 0 < 2 by decide) h
  exact this
theorem pow_16 {i : Nat} (h : i < 16) : (1 : Int) ≤ 2 ^ i ∧ (2 : Int) ^ i ≤ 65536 := by
  have h1 := Nat.pow_le_pow_right (show 0 < 2 by decide) (show i ≤ 16 by omega)
  have h2 := Nat.pow_pos (n := i) (show 0 < 2 by decide)
  have h3 : 2 ^ 16 = 65536 := by decide
  rw [pow_nat]
  omega
theorem tbTo_b (n : NetL) (cut : List Int) (r : Nat) {i : Nat} (h : i ≤ 16) : 0 ≤ tbTo n cut r i ∧ tbTo n cut r i ≤ 65536 := by
  have h1 := tbTo_lt n cut r i
  have h2 : (2 : Int) ^ i ≤ 65536 := by
    rw [pow_nat]
    have h1 := Nat.pow_le_pow_right (show 0 < 2 by decide) h
    have h3 : 2 ^ 16 = 65536 := by decide
    omega
  omega
theorem tableOf_h (n : NetL) (cut : List Int) (r m : Nat) (hm : m ≤ 4) (f : Nat) (cap : List Value) (fn : Func) (hf : Tryz.prog.funcs[f]? = some fn) (hne : (fn.name == "runtime.NumGoroutine") = false) (hbn : fn.body.isNone = false) (w0 : World)
    (hcl : ∀ (i : Nat), i < 2 ^ m → ∀ w, Ext w0 w → Ret Tryz.prog f (.int .i64 (i : Int) :: cap) w (fun v w' => v = .bool (decide (cvL n cut r i = 1)) ∧ Ext w w')) :
    Ret Tryz.prog 118 [.int .i64 (m : Int), .func (.func f) ⟨[]⟩ ⟨cap⟩] w0 (fun v w => v = .agg ⟨eII ((m : Int), tbTo n cut r (2 ^ m))⟩ ∧ Ext w0 w) := by
  have h16 := pow_4 hm
  have hpm := pow_nat m
  have hpm' : (2 : Int) ^ ((m : Nat) : Int).toNat = ((2 ^ m : Nat) : Int) := by rw [Int.toNat_natCast]; exact hpm
  have hbkm : ((m : Nat) : Int) ≤ ((IntKind.i64.bits : Nat) : Int) := by show ((m : Nat) : Int) ≤ 64; omega
  refine enter Tryz.S118ok _ _ rfl rfl (by show _ ≤ _; simp only [List.length]; decide) (fun C => ?_); have hp := Hp.nil w0; refine h_run rfl ?_; skip; (first | (refine H_box hp ?_; intro w b4 hx hp) | (refine H_alloc hp rfl ?_; intro w b4 hx hp)); refine ops_run nopre rfl ?_; skip; (first | (refine H_box hp ?_; intro w b5 hx hp) | (refine H_alloc hp rfl ?_; intro w b5 hx hp)); refine ops_run nopre rfl ?_; (repeat (refine U_stBN hp rfl rfl rfl rfl ?_; intro w hp; refine ops_run nopre rfl ?_))
  refine h_loop [0, 1, 4, 5, 6] (fun (i : Nat) => [(0, .int .i64 (m : Int)), (1, .func (.func f) ⟨[]⟩ ⟨cap⟩), (4, .pointer (some ⟨b4, 0, none⟩)), (5, .pointer (some ⟨b5, 0, none⟩)), (6, .int .i64 (i : Int))])
    (fun i w' => i ≤ 2 ^ m ∧ Hp w0 w' [rB b5 49 [.int .i64 (m : Int), .int .i64 (tbTo n cut r i)], rB b4 49 (cellsV Tryz.ti49.zero)]) (fun i => 2 ^ m - i) 0 rfl ⟨Nat.zero_le _, hp⟩ ?_
  clear hp
  rintro i w1 ⟨hi, hp⟩ IH C
  refine h_run rfl ?_; skip
  refine h_cond_dec (fun hlt => ?_) (fun hlt => ?_)
  · have hlt' : i < 2 ^ m := by omega
    have hpi := pow_16 (show i < 16 by omega)
    have hpi' : (2 : Int) ^ ((i : Nat) : Int).toNat = 2 ^ i := by rw [Int.toNat_natCast]
    have hbki : ((i : Nat) : Int) ≤ ((IntKind.i64.bits : Nat) : Int) := by show ((i : Nat) : Int) ≤ 64; omega
    have h01 := cvL_01 n cut r i
    have htl := tbTo_lt n cut r i
    refine h_cond_t rfl rfl ?_; skip
    refine h_call rfl hf hne hbn (hcl i hlt' _ hp.x) ?_; rintro _ w ⟨rfl, hx⟩; have hp := hp.ext hx; refine ops_run nopre rfl ?_; skip
    refine h_cond_dec (fun h1 => ?_) (fun h1 => ?_)
    · refine h_cond_t rfl rfl ?_; (repeat (first | (refine gLoad ?_; refine H_ldB hp rfl rfl ?_) | (refine gStore ?_; refine U_stB hp rfl rfl rfl rfl ?_; intro w hp; refine ops_run nopre rfl ?_)))
      have e : bits .or .i64 (tbTo n cut r i) (1 * 2 ^ ((i : Nat) : Int).toNat) = tbTo n cut r (i + 1) := by
        rw [hpi', or_bit htl.1 htl.2 (.inr rfl) (by omega), tbTo, h1]
      have hp : Hp w0 w [rB b5 49 [.int .i64 (m : Int), .int .i64 (bits .or .i64 (tbTo n cut r i) (1 * 2 ^ ((i : Nat) : Int).toNat))], rB b4 49 (cellsV Tryz.ti49.zero)] := hp
      rw [e] at hp
      exact IH (i + 1) _ _ _ (by omega) rfl ⟨by omega, hp⟩
    · have h2 : cvL n cut r i = 0 := h01.resolve_right h1
      refine h_cond_f rfl rfl ?_; skip
      refine IH (i + 1) _ _ _ (by omega) rfl ⟨by omega, ?_⟩
      rw [tbTo, h2, Int.zero_mul, Int.add_zero]
      exact hp
  · obtain rfl : i = 2 ^ m := by omega
    refine h_cond_f rfl rfl ?_; (repeat (first | (refine gLoad ?_; refine H_ldB hp rfl rfl ?_) | (refine gStore ?_; refine U_stBN hp rfl rfl rfl rfl ?_; intro w hp; refine ops_run nopre rfl ?_) | (refine gRetc ?_; refine R_ret1 hp rfl ?_)))
    exact ⟨rfl, hp.x⟩
theorem cutTable_h (x : NetA) (k : Nat) (ca : Option Addr) (cc : Nat) (cut : List Int) (hcl : cut.length ≤ 4) (hA : Asc cut) (hk : k < nds x.n) (hok : NetOkP x.n) (w0 : World) (hX : NetR w0 x) (hT : Rd w0 ca 1 eI cut) :
    Ret Tryz.prog 82 [x.v, .int .i64 (k : Int), .slice ca cut.length cc] w0 (fun v w => v = .agg ⟨eII (tabL x.n cut k)⟩ ∧ Ext w0 w) := by
  have h16 := pow_4 hcl
  refine enter Tryz.S82ok _ _ rfl rfl (by show _ ≤ _; simp only [List.length]; decide) (fun C => ?_); have hp := Hp.nil w0; refine h_run rfl ?_; skip; (first | (refine H_box hp ?_; intro w b3 hx hp) | (refine H_alloc hp rfl ?_; intro w b3 hx hp)); refine ops_run nopre rfl ?_; skip; (first | (refine H_box hp ?_; intro w b4 hx hp) | (refine H_alloc hp rfl ?_; intro w b4 hx hp)); refine ops_run nopre rfl ?_; skip; (first | (refine H_box hp ?_; intro w b5 hx hp) | (refine H_alloc hp rfl ?_; intro w b5 hx hp)); refine ops_run nopre rfl ?_; skip; (first | (refine H_box hp ?_; intro w b6 hx hp) | (refine H_alloc hp rfl ?_; intro w b6 hx hp)); refine ops_run nopre rfl ?_; (repeat (refine H_ldB hp rfl rfl ?_))
  have h3 := hp.g3
  have h4 := hp.g2
  have h5 := hp.g1
  have hx0 := hp.x
  refine h_call rfl Tryz.func118 (by kernel_rfl) rfl (tableOf_h x.n cut k cut.length hcl 119 [.pointer (some ⟨b3, 0, none⟩), .pointer (some ⟨b4, 0, none⟩), .pointer (some ⟨b5, 0, none⟩)] _ Tryz.func119 (by kernel_rfl) rfl _ (fun (i : Nat) hi w' hx => cutTableC_h x k ca cc cut hcl hA hk hok b3 b4 b5 i (by omega) w' (hX.ext (hx0.trans hx)) (hT.ext (hx0.trans hx)) ⟨Blk.ext h3 hx⟩ ⟨Blk.ext h4 hx⟩ ⟨Blk.ext h5 hx⟩)) ?_; rintro _ w ⟨rfl, hx⟩; have hp := hp.ext hx; refine ops_run nopre rfl ?_; (repeat (first | (refine gStore ?_; refine U_stBN hp rfl rfl rfl rfl ?_; intro w hp; refine ops_run nopre rfl ?_) | (refine gRetc ?_; refine R_ret1 hp rfl ?_)))
  exact ⟨rfl, hp.x⟩
end Go.Proofs
