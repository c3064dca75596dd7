/- The contracts of the program's functions on tables and covers; each under its stated conditions. -/
import Derived.Test.YtifjicajbgoamaaGreatCov2
import Derived.Test.YtifjicajbgoamaaGreatCutU
import Derived.Test.YtifjicajbgoamaaGreatRfLaw
import Derived.Test.YtifjicajbgoamaaGreatIns
set_option linter.all false
namespace Go.Proofs
open Go.Xw
set_option maxRecDepth 100000
set_option maxHeartbeats 2000000
attribute [local irreducible] Holds elemAddr
/-- powers as the evaluator gives them -/
theorem sh_m {m : Nat} (h : m ≤ 4) : ((m : Nat) : Int) ≤ ((IntKind.i64.bits : Nat) : Int) ∧ (2 : Int) ^ ((m : Nat) : Int).toNat = ((2 ^ m : Nat) : Int) ∧ 2 ^ m ≤ 16 := ⟨by show ((m : Nat) : Int) ≤ 64; omega, by rw [Int.toNat_natCast]; exact pow_nat m, pow_4 h⟩
theorem sh_b {m : Nat} (h : m ≤ 4) : (1 : Int) ≤ 2 ^ ((m : Nat) : Int).toNat ∧ (2 : Int) ^ ((m : Nat) : Int).toNat ≤ 16 := by
  obtain rfl | rfl | rfl | rfl | rfl : m = 0 ∨ m = 1 ∨ m = 2 ∨ m = 3 ∨ m = 4 := by omega
  all_goals decide
theorem sh_i {i : Nat} (h : i < 16) : ((i : Nat) : Int) ≤ ((IntKind.i64.bits : Nat) : Int) ∧ (2 : Int) ^ ((i : Nat) : Int).toNat = 2 ^ i ∧ (1 : Int) ≤ 2 ^ i ∧ (2 : Int) ^ i ≤ 65536 := ⟨by show ((i : Nat) : Int) ≤ 64; omega, by rw [Int.toNat_natCast], (pow_16 h).1, (pow_16 h).2⟩
theorem sh_mm {m : Nat} (h : m ≤ 4) : (1 * 2 ^ ((m : Nat) : Int).toNat : Int) ≤ ((IntKind.i64.bits : Nat) : Int) ∧ (2 : Int) ^ (1 * 2 ^ ((m : Nat) : Int).toNat : Int).toNat = 2 ^ 2 ^ m ∧ (1 : Int) ≤ 2 ^ 2 ^ m ∧ (2 : Int) ^ 2 ^ m ≤ 65536 := by
  obtain ⟨_, h2, h3⟩ := sh_m h
  refine ⟨?_, ?_, ?_⟩
  · rw [Int.one_mul, h2]; show ((2 ^ m : Nat) : Int) ≤ 64; omega
  · rw [Int.one_mul, h2, Int.toNat_natCast]
  · obtain rfl | rfl | rfl | rfl | rfl : m = 0 ∨ m = 1 ∨ m = 2 ∨ m = 3 ∨ m = 4 := by omega
    all_goals decide
theorem implTableOk_h (m : Nat) (b : Int) (w0 : World) (hm : m ≤ 4) (h0 : 0 ≤ b) (h1 : b < 2 ^ 2 ^ m) : Ret Tryz.prog 121 [.agg ⟨[.int .i64 (m : Int), .int .i64 b]⟩] w0 (fun v w => v = .bool true ∧ Ext w0 w) := by
  obtain ⟨s1, s2, s3⟩ := sh_m hm
  obtain ⟨t1, t2, t3, t4⟩ := sh_mm hm
  obtain ⟨u1, u2⟩ := sh_b hm
  refine enter Tryz.S121ok _ _ rfl rfl (by show _ ≤ _; simp only [List.length]; decide) (fun C => ?_); have hp := Hp.nil w0; refine h_run rfl ?_; skip; (first | (refine H_box hp ?_; intro w b1 hx hp) | (refine H_alloc hp rfl ?_; intro w b1 hx hp)); refine ops_run nopre rfl ?_; (repeat (refine H_ldB hp rfl rfl ?_))
  refine h_call rfl Tryz.func77 (by kernel_rfl) rfl ((inRange_h (m : Int) 0 4 _).yes (by omega)) ?_; rintro _ w ⟨rfl, hx⟩; have hp := hp.ext hx; refine ops_run nopre rfl ?_; (repeat (first | (refine gGuard ?_; refine h_guard_y rfl nopre rfl ?_) | (refine gLoad ?_; refine H_ldB hp rfl rfl ?_)))
  refine h_call rfl Tryz.func77 (by kernel_rfl) rfl ((inRange_h b 0 (1 * 2 ^ (1 * 2 ^ ((m : Nat) : Int).toNat : Int).toNat - 1) _).yes (by omega)) ?_; rintro _ w ⟨rfl, hx⟩; have hp := hp.ext hx; refine ops_run nopre rfl ?_; (repeat (refine R_ret ?_))
  exact ⟨rfl, hp.x⟩
theorem implTableEval_h (m : Nat) (b : Int) (i : Nat) (w0 : World) (hm : m ≤ 4) (h0 : 0 ≤ b) (h1 : b < 2 ^ 2 ^ m) (hi : i < 2 ^ m) : Ret Tryz.prog 125 [.agg ⟨[.int .i64 (m : Int), .int .i64 b]⟩, .int .i64 (i : Int)] w0 (fun v w => v = .bool (decide (bitI b i = 1)) ∧ Ext w0 w) := by
  obtain ⟨s1, s2, s3⟩ := sh_m hm
  obtain ⟨t1, t2, t3, t4⟩ := sh_i (show i < 16 by omega)
  refine enter Tryz.S125ok _ _ rfl rfl (by show _ ≤ _; simp only [List.length]; decide) (fun C => ?_); have hp := Hp.nil w0; refine h_run rfl ?_; skip; (first | (refine H_box hp ?_; intro w b2 hx hp) | (refine H_alloc hp rfl ?_; intro w b2 hx hp)); refine ops_run nopre rfl ?_; (repeat (refine H_ldB hp rfl rfl ?_))
  refine h_call rfl Tryz.func121 (by kernel_rfl) rfl (implTableOk_h m b _ hm h0 h1) ?_; rintro _ w ⟨rfl, hx⟩; have hp := hp.ext hx; refine ops_run nopre rfl ?_; (repeat (first | (refine gGuard ?_; refine h_guard_y rfl nopre rfl ?_) | (refine gLoad ?_; refine H_ldB hp rfl rfl ?_)))
  refine h_call rfl Tryz.func77 (by kernel_rfl) rfl ((inRange_h (i : Int) 0 (1 * 2 ^ ((m : Nat) : Int).toNat - 1) _).yes (by omega)) ?_; rintro _ w ⟨rfl, hx⟩; have hp := hp.ext hx; refine ops_run nopre rfl ?_; (repeat (first | (refine gGuard ?_; refine h_guard_y rfl nopre rfl ?_) | (refine gLoad ?_; refine H_ldB hp rfl rfl ?_) | refine R_ret ?_))
  exact ⟨rfl, hp.x⟩
theorem tableOfB_h (g : Nat → Bool) (m : Nat) (hm : m ≤ 4) (f : Nat) (cap : List Value) (fn : Func) (hf : Tryz.prog.funcs[f]? = some fn) (hne : (fn.name == "runtime.NumGoroutine") = false) (hbn : fn.body.isNone = false) (w0 : World)
    (hcl : ∀ (i : Nat), i < 2 ^ m → ∀ w, Ext w0 w → Ret Tryz.prog f (.int .i64 (i : Int) :: cap) w (fun v w' => v = .bool (g i) ∧ Ext w w')) :
    Ret Tryz.prog 118 [.int .i64 (m : Int), .func (.func f) ⟨[]⟩ ⟨cap⟩] w0 (fun v w => v = .agg ⟨eII ((m : Int), bsB g (2 ^ m))⟩ ∧ Ext w0 w) := by
  obtain ⟨s1, s2, s3⟩ := sh_m hm
  refine enter Tryz.S118ok _ _ rfl rfl (by show _ ≤ _; simp only [List.length]; decide) (fun C => ?_); have hp := Hp.nil w0; refine h_run rfl ?_; skip; (first | (refine H_box hp ?_; intro w b4 hx hp) | (refine H_alloc hp rfl ?_; intro w b4 hx hp)); refine ops_run nopre rfl ?_; skip; (first | (refine H_box hp ?_; intro w b5 hx hp) | (refine H_alloc hp rfl ?_; intro w b5 hx hp)); refine ops_run nopre rfl ?_; (repeat (refine U_stBN hp rfl rfl rfl rfl ?_; intro w hp; refine ops_run nopre rfl ?_))
  refine h_loop [0, 1, 4, 5, 6] (fun (i : Nat) => [(0, .int .i64 (m : Int)), (1, .func (.func f) ⟨[]⟩ ⟨cap⟩), (4, .pointer (some ⟨b4, 0, none⟩)), (5, .pointer (some ⟨b5, 0, none⟩)), (6, .int .i64 (i : Int))])
    (fun i w' => i ≤ 2 ^ m ∧ Hp w0 w' [rB b5 49 [.int .i64 (m : Int), .int .i64 (bsB g i)], rB b4 49 (cellsV Tryz.ti49.zero)]) (fun i => 2 ^ m - i) 0 rfl ⟨Nat.zero_le _, hp⟩ ?_
  clear hp
  rintro i w1 ⟨hi, hp⟩ IH C
  refine h_run rfl ?_; skip
  refine h_cond_dec (fun hlt => ?_) (fun hlt => ?_)
  · have hlt' : i < 2 ^ m := by omega
    obtain ⟨t1, t2, t3, t4⟩ := sh_i (show i < 16 by omega)
    have htl := bsB_lt g i
    refine h_cond_t rfl rfl ?_; skip
    refine h_call rfl hf hne hbn (hcl i hlt' _ hp.x) ?_; rintro _ w ⟨rfl, hx⟩; have hp := hp.ext hx; refine ops_run nopre rfl ?_; skip
    refine h_cond_b (fun h1 => ?_) (fun h1 => ?_)
    · refine h_cond_t rfl rfl ?_; (repeat (first | (refine gLoad ?_; refine H_ldB hp rfl rfl ?_) | (refine gStore ?_; refine U_stB hp rfl rfl rfl rfl ?_; intro w hp; refine ops_run nopre rfl ?_)))
      have e : bits .or .i64 (bsB g i) (1 * 2 ^ ((i : Nat) : Int).toNat) = bsB g (i + 1) := by
        rw [t2, or_bit htl.1 htl.2 (.inr rfl) (by omega), bsB, h1]; rfl
      have hp : Hp w0 w [rB b5 49 [.int .i64 (m : Int), .int .i64 (bits .or .i64 (bsB g i) (1 * 2 ^ ((i : Nat) : Int).toNat))], rB b4 49 (cellsV Tryz.ti49.zero)] := hp
      rw [e] at hp
      exact IH (i + 1) _ _ _ (by omega) rfl ⟨by omega, hp⟩
    · refine h_cond_f rfl rfl ?_; skip
      refine IH (i + 1) _ _ _ (by omega) rfl ⟨by omega, ?_⟩
      have e : bsB g (i + 1) = bsB g i := by rw [bsB, h1]; simp
      rw [e]
      exact hp
  · obtain rfl : i = 2 ^ m := by omega
    refine h_cond_f rfl rfl ?_; (repeat (first | (refine gLoad ?_; refine H_ldB hp rfl rfl ?_) | (refine gStore ?_; refine U_stBN hp rfl rfl rfl rfl ?_; intro w hp; refine ops_run nopre rfl ?_) | (refine gRetc ?_; refine R_ret1 hp rfl ?_)))
    exact ⟨rfl, hp.x⟩
theorem tableNotC_h (m : Nat) (b : Int) (b1 i : Nat) (w0 : World) (hm : m ≤ 4) (h0 : 0 ≤ b) (h1 : b < 2 ^ 2 ^ m) (hi : i < 2 ^ m) (hb : Bk w0 b1 49 [.int .i64 (m : Int), .int .i64 b]) :
    Ret Tryz.prog 124 [.int .i64 (i : Int), .pointer (some ⟨b1, 0, none⟩)] w0 (fun v w => v = .bool (!decide (bitI b i = 1)) ∧ Ext w0 w) := by
  refine enter Tryz.S124ok _ _ rfl rfl (by show _ ≤ _; simp only [List.length]; decide) (fun C => ?_); have hp := Hp.nil w0; refine h_run rfl ?_; (repeat (refine H_ldB hp rfl rfl ?_))
  refine h_call rfl Tryz.func125 (by kernel_rfl) rfl (implTableEval_h m b i _ hm h0 h1 hi) ?_; rintro _ w ⟨rfl, hx⟩; have hp := hp.ext hx; refine ops_run nopre rfl ?_; (repeat (refine R_ret ?_))
  exact ⟨rfl, hp.x⟩
theorem implTableNot_h (m : Nat) (b : Int) (w0 : World) (hm : m ≤ 4) (h0 : 0 ≤ b) (h1 : b < 2 ^ 2 ^ m) : Ret Tryz.prog 84 [.agg ⟨[.int .i64 (m : Int), .int .i64 b]⟩] w0 (fun v w => v = .agg ⟨eII ((m : Int), notT m b)⟩ ∧ Ext w0 w) := by
  refine enter Tryz.S84ok _ _ rfl rfl (by show _ ≤ _; simp only [List.length]; decide) (fun C => ?_); have hp := Hp.nil w0; refine h_run rfl ?_; skip; (first | (refine H_box hp ?_; intro w b1 hx hp) | (refine H_alloc hp rfl ?_; intro w b1 hx hp)); refine ops_run nopre rfl ?_; skip; (first | (refine H_box hp ?_; intro w b2 hx hp) | (refine H_alloc hp rfl ?_; intro w b2 hx hp)); refine ops_run nopre rfl ?_; (repeat (refine H_ldB hp rfl rfl ?_))
  refine h_call rfl Tryz.func121 (by kernel_rfl) rfl (implTableOk_h m b _ hm h0 h1) ?_; rintro _ w ⟨rfl, hx⟩; have hp := hp.ext hx; refine ops_run nopre rfl ?_; skip
  refine h_cond_f rfl rfl ?_; (repeat (refine H_ldB hp rfl rfl ?_))
  have h3 := hp.g1
  have hx0 := hp.x
  refine h_call rfl Tryz.func118 (by kernel_rfl) rfl (tableOfB_h (fun j => !decide (bitI b j = 1)) m hm 124 [.pointer (some ⟨b1, 0, none⟩)] _ Tryz.func124 (by kernel_rfl) rfl _ (fun (i : Nat) hi w' hx => tableNotC_h m b b1 i w' hm h0 h1 hi ⟨Blk.ext h3 hx⟩)) ?_; rintro _ w ⟨rfl, hx⟩; have hp := hp.ext hx; refine ops_run nopre rfl ?_; (repeat (first | (refine gStore ?_; refine U_stBN hp rfl rfl rfl rfl ?_; intro w hp; refine ops_run nopre rfl ?_) | (refine gRetc ?_; refine R_ret1 hp rfl ?_)))
  exact ⟨by rw [bsB_notT h0 h1]; rfl, hp.x⟩
theorem coverTableC_h (ca : Option Addr) (cc : Nat) (K : List (Int × Int)) (b3 i : Nat) (hi : i < 16) (hK : K.length ≤ 81) (w0 : World) (hb : Bk w0 b3 51 [.slice ca K.length cc]) (hR : Rd w0 ca 2 eII K) :
    Ret Tryz.prog 141 [.int .i64 (i : Int), .pointer (some ⟨b3, 0, none⟩)] w0 (fun v w => v = .bool (covG K i) ∧ Ext w0 w) := by
  refine enter Tryz.S141ok _ _ rfl rfl (by show _ ≤ _; simp only [List.length]; decide) (fun C => ?_); have hp := Hp.nil w0; refine h_run rfl ?_; (repeat (refine H_ldB hp rfl rfl ?_))
  refine h_loop [0, 6, 7, 8] (fun (j : Nat) => [(0, .int .i64 (i : Int)), (6, .slice ca K.length cc), (7, .int .i64 K.length), (8, .int .i64 (j : Int))])
    (fun j w' => (j ≤ K.length ∧ ∀ q, q < j → hasC (K.getD q default) i = false) ∧ Hp w0 w' []) (fun j => K.length - j) 0 rfl ⟨⟨by omega, fun q hq => by omega⟩, hp⟩ ?_
  clear hp
  rintro j w1 ⟨⟨hj, hall⟩, hp⟩ IH C
  refine h_run rfl ?_; skip
  refine h_cond_dec (fun hlt => ?_) (fun hlt => ?_)
  · have hlt' : j < K.length := by omega
    have hne : ca ≠ none := nn_of hp (X := K) (by omega)
    refine h_cond_t rfl rfl ?_; (repeat (refine H_ldEN hp rfl (by omega) rfl rfl ?_))
    (first | (refine H_box hp ?_; intro w b5 hx hp) | (refine H_alloc hp rfl ?_; intro w b5 hx hp)); refine ops_run nopre rfl ?_; (repeat (first | (refine gLoad ?_; refine H_ldB hp rfl rfl ?_) | (refine gStore ?_; refine U_stBN hp rfl rfl rfl rfl ?_; intro w hp; refine ops_run nopre rfl ?_)))
    refine h_cond_dec (fun hc => ?_) (fun hc => ?_)
    · refine h_cond_t rfl rfl ?_; (repeat (refine R_ret ?_))
      have hh : hasC (K.getD j default) i = true := decide_eq_true hc
      exact ⟨by rw [covG_iff.2 ⟨_, getD_mem hlt', hh⟩], hp.x⟩
    · refine h_cond_f rfl rfl ?_; skip
      have hh : hasC (K.getD j default) i = false := decide_eq_false hc
      refine IH (j + 1) _ _ _ (by omega) rfl ⟨⟨by omega, fun q hq => ?_⟩, hp.drop⟩
      by_cases hqj : q = j
      · rw [hqj]; exact hh
      · exact hall q (by omega)
  · obtain rfl : j = K.length := by omega
    refine h_cond_f rfl rfl ?_; (repeat (refine R_ret ?_))
    have hf : covG K i = false := by
      cases h : covG K i
      · rfl
      · obtain ⟨c, hc, hh⟩ := covG_iff.1 h
        obtain ⟨q, hq, he⟩ := List.getElem_of_mem hc
        have := hall q hq
        rw [List.getD_eq_getElem?_getD, List.getElem?_eq_getElem hq, Option.getD_some, he, hh] at this
        cases this
    exact ⟨by rw [hf], hp.x⟩
theorem implCoverTable_h (m : Nat) (hm : m ≤ 4) (ca : Option Addr) (cc q : Nat) (K : List (Int × Int)) (hq : K.length = q) (hK : coverOkP (m : Int) K) (w0 : World) (hR : Rd w0 ca 2 eII K) :
    Ret Tryz.prog 123 [.int .i64 (m : Int), .slice ca q cc] w0 (fun v w => v = .agg ⟨eII ((m : Int), covT m K)⟩ ∧ Ext w0 w) := by
  subst hq
  have h16 := pow_4 hm
  have hk81 := hK.2.1
  have hci : ∀ i, i < K.length → i64R (K.getD i default).1 ∧ i64R (K.getD i default).2 := fun i hi => by
    have h := hK.2.2 _ (getD_mem hi)
    obtain ⟨_, h1, h2, _⟩ := h
    have h3 := pow_small (m := (m : Int)) (by omega)
    unfold i64R
    omega
  refine enter Tryz.S123ok _ _ rfl rfl (by show _ ≤ _; simp only [List.length]; decide) (fun C => ?_); have hp := Hp.nil w0; refine h_run rfl ?_; skip; (first | (refine H_box hp ?_; intro w b3 hx hp) | (refine H_alloc hp rfl ?_; intro w b3 hx hp)); refine ops_run nopre rfl ?_; skip; (first | (refine H_box hp ?_; intro w b4 hx hp) | (refine H_alloc hp rfl ?_; intro w b4 hx hp)); refine ops_run nopre rfl ?_; (repeat (refine H_ldB hp rfl rfl ?_))
  refine h_call rfl Tryz.func126 (by kernel_rfl) rfl ((implCoverOk_h (m : Int) ca cc _ K rfl _ (by unfold i64R; omega) hp.rd hci (by omega)).tt (coverOkB_yes hK)) ?_; rintro _ w ⟨rfl, hx⟩; have hp := hp.ext hx; refine ops_run nopre rfl ?_; skip
  refine h_cond_f rfl rfl ?_; skip
  have h3 := hp.g1
  have hx0 := hp.x
  refine h_call rfl Tryz.func118 (by kernel_rfl) rfl (tableOfB_h (covG K) m hm 141 [.pointer (some ⟨b3, 0, none⟩)] _ Tryz.func141 (by kernel_rfl) rfl _ (fun (i : Nat) hi w' hx => coverTableC_h ca cc K b3 i (by omega) hk81 w' ⟨Blk.ext h3 hx⟩ (hR.ext (hx0.trans hx)))) ?_; rintro _ w ⟨rfl, hx⟩; have hp := hp.ext hx; refine ops_run nopre rfl ?_; (repeat (first | (refine gStore ?_; refine U_stBN hp rfl rfl rfl rfl ?_; intro w hp; refine ops_run nopre rfl ?_) | (refine gRetc ?_; refine R_ret1 hp rfl ?_)))
  exact ⟨rfl, hp.x⟩
theorem isImplicant_h (m : Nat) (b : Int) (c : Int × Int) (w0 : World) (hm : m ≤ 4) (h0 : 0 ≤ b) (h1 : b < 2 ^ 2 ^ m) :
    Ret Tryz.prog 140 [.agg ⟨[.int .i64 (m : Int), .int .i64 b]⟩, .agg ⟨eII c⟩] w0 (fun v w => v = .bool (impC m b c) ∧ Ext w0 w) := by
  obtain ⟨s1, s2, s3⟩ := sh_m hm
  refine enter Tryz.S140ok _ _ rfl rfl (by show _ ≤ _; simp only [List.length]; decide) (fun C => ?_); have hp := Hp.nil w0; refine h_run rfl ?_; skip; (first | (refine H_box hp ?_; intro w b2 hx hp) | (refine H_alloc hp rfl ?_; intro w b2 hx hp)); refine ops_run nopre rfl ?_; skip; (first | (refine H_box hp ?_; intro w b3 hx hp) | (refine H_alloc hp rfl ?_; intro w b3 hx hp)); refine ops_run nopre rfl ?_; skip
  refine h_loop [2, 3, 5] (fun (i : Nat) => [(2, .pointer (some ⟨b2, 0, none⟩)), (3, .pointer (some ⟨b3, 0, none⟩)), (5, .int .i64 (i : Int))])
    (fun i w' => (i ≤ 2 ^ m ∧ ∀ q, q < i → hasC c q = true → bitI b q = 1) ∧ Hp w0 w' [rB b3 87 (eII c), rB b2 49 [.int .i64 (m : Int), .int .i64 b]]) (fun i => 2 ^ m - i) 0 rfl ⟨⟨Nat.zero_le _, fun q hq => by omega⟩, hp⟩ ?_
  clear hp
  rintro i w1 ⟨⟨hi, hall⟩, hp⟩ IH C
  refine h_run rfl ?_; (repeat (refine H_ldB hp rfl rfl ?_))
  refine h_cond_dec (fun hlt => ?_) (fun hlt => ?_)
  · have hlt' : i < 2 ^ m := by omega
    refine h_cond_t rfl rfl ?_; (repeat (refine H_ldB hp rfl rfl ?_))
    refine h_guard_by (fun hc => ?_) (fun hc => ?_); all_goals (rw [hc]; (first | replace hc := of_decide_eq_true hc | replace hc := of_decide_eq_false hc | skip); (repeat (first | (refine gGuard ?_; first | refine h_guard_y rfl nopre rfl ?_ | refine h_guard_n rfl nopre rfl ?_) | (refine gLoad ?_; refine H_ldB hp rfl rfl ?_))))
    · have hh : hasC c i = true := decide_eq_true hc
      refine h_call rfl Tryz.func125 (by kernel_rfl) rfl (implTableEval_h m b i _ hm h0 h1 hlt') ?_; rintro _ w ⟨rfl, hx⟩; have hp := hp.ext hx; refine ops_run nopre rfl ?_; (repeat (refine h_guard_y rfl nopre rfl ?_))
      by_cases hb : bitI b i = 1
      · rw [decide_eq_true hb]
        refine h_cond_f rfl rfl ?_; skip
        refine IH (i + 1) _ _ _ (by omega) rfl ⟨⟨by omega, fun q hq => ?_⟩, hp⟩
        by_cases hqi : q = i
        · rw [hqi]; exact fun _ => hb
        · exact hall q (by omega)
      · rw [decide_eq_false hb]
        refine h_cond_t rfl rfl ?_; (repeat (refine R_ret ?_))
        have hf : impC m b c = false := by
          cases h : impC m b c
          · rfl
          · exact absurd (impC_iff.1 h i hlt' hh) hb
        exact ⟨by rw [hf], hp.x⟩
    · have hh : hasC c i = false := decide_eq_false hc
      refine h_cond_f rfl rfl ?_; skip
      refine IH (i + 1) _ _ _ (by omega) rfl ⟨⟨by omega, fun q hq => ?_⟩, hp⟩
      by_cases hqi : q = i
      · rw [hqi, hh]; exact fun h => by cases h
      · exact hall q (by omega)
  · obtain rfl : i = 2 ^ m := by omega
    refine h_cond_f rfl rfl ?_; (repeat (refine R_ret ?_))
    exact ⟨by rw [impC_iff.2 hall], hp.x⟩
theorem bitCount_h (n : Int) (w0 : World) (h0 : 0 ≤ n) (h1 : n < 16) : Ret Tryz.prog 127 [.int .i64 n] w0 (fun v w => v = .int .i64 (pcTo n 4) ∧ Ext w0 w) := by
  refine enter Tryz.S127ok _ _ rfl rfl (by show _ ≤ _; simp only [List.length]; decide) (fun C => ?_); have hp := Hp.nil w0; refine h_run rfl ?_; skip
  refine h_loop [0, 3] (fun (j : Nat) => [(0, .int .i64 (n / 2 ^ j)), (3, .int .i64 (pcTo n j))])
    (fun j w' => j ≤ 4 ∧ Hp w0 w' []) (fun j => 4 - j) 0 (by rw [show n / 2 ^ 0 = n by simp]; rfl) ⟨by omega, hp⟩ ?_
  clear hp
  rintro j w1 ⟨hj, hp⟩ IH C
  have hpb := pcTo_b n j
  have hdiv : n / 2 ^ j / 2 = n / 2 ^ (j + 1) := by rw [Int.pow_succ, Int.ediv_ediv_of_nonneg (Int.pow_nonneg (by decide))]
  have h16 : n / 2 ^ 4 = 0 := by show n / 16 = 0; omega
  have hnn : 0 ≤ n / 2 ^ j := Int.ediv_nonneg h0 (Int.pow_nonneg (by decide))
  have hle : n / 2 ^ j ≤ n := Int.ediv_le_self _ h0
  have hb01 := bitI_01 n j
  unfold is01 at hb01
  unfold bitI at hb01
  refine h_run rfl ?_; skip
  refine h_cond_dec (fun hgt => ?_) (fun hgt => ?_)
  · have hj4 : j < 4 := by
      refine Nat.lt_of_not_le fun h => ?_
      obtain rfl : j = 4 := by omega
      omega
    refine h_cond_t rfl rfl ?_; skip
    refine IH (j + 1) _ _ _ (by omega) (by rw [← hdiv]; rfl) ⟨by omega, hp⟩
  · have hz : n / 2 ^ j = 0 := by omega
    refine h_cond_f rfl rfl ?_; (repeat (refine R_ret ?_))
    exact ⟨by rw [pcTo_eq h0 hz h16], hp.x⟩
theorem implCoverLiterals_h (m : Nat) (hm : m ≤ 4) (ca : Option Addr) (cc q : Nat) (K : List (Int × Int)) (hq : K.length = q) (hK : coverOkP (m : Int) K) (w0 : World) (hR : Rd w0 ca 2 eII K) :
    Ret Tryz.prog 85 [.int .i64 (m : Int), .slice ca q cc] w0 (fun v w => v = .int .i64 (clL m K) ∧ Ext w0 w) := by
  subst hq
  have hk81 := hK.2.1
  obtain ⟨s1, s2, s3⟩ := sh_m hm
  have h3 := pow_small (m := (m : Int)) (by omega)
  have hci : ∀ i, i < K.length → i64R (K.getD i default).1 ∧ i64R (K.getD i default).2 := fun i hi => by
    obtain ⟨_, h1, h2, _⟩ := hK.2.2 _ (getD_mem hi)
    unfold i64R
    omega
  refine enter Tryz.S85ok _ _ rfl rfl (by show _ ≤ _; simp only [List.length]; decide) (fun C => ?_); have hp := Hp.nil w0; refine h_run rfl ?_; skip
  refine h_call rfl Tryz.func126 (by kernel_rfl) rfl ((implCoverOk_h (m : Int) ca cc _ K rfl _ (by unfold i64R; omega) hp.rd hci (by omega)).tt (coverOkB_yes hK)) ?_; rintro _ w ⟨rfl, hx⟩; have hp := hp.ext hx; refine ops_run nopre rfl ?_; skip
  refine h_cond_f rfl rfl ?_; skip
  refine h_loop [5, 12, 13, 14] (fun (i : Nat) => [(5, .int .i64 (clTo m K i)), (12, .slice ca K.length cc), (13, .int .i64 K.length), (14, .int .i64 (i : Int))])
    (fun i w' => i ≤ K.length ∧ Hp w0 w' []) (fun i => K.length - i) 0 rfl ⟨by omega, hp⟩ ?_
  clear hp
  rintro i w1 ⟨hi, hp⟩ IH C
  have hcb := clTo_b m K i
  have him : (i : Int) * (m : Int) ≤ 81 * 4 := by
    have : i * m ≤ 81 * 4 := Nat.mul_le_mul (by omega) hm
    exact_mod_cast this
  refine h_run rfl ?_; skip
  refine h_cond_dec (fun hlt => ?_) (fun hlt => ?_)
  · have hlt' : i < K.length := by omega
    have hne : ca ≠ none := nn_of hp (X := K) (by omega)
    obtain ⟨_, h1, h2, _⟩ := hK.2.2 _ (getD_mem hlt')
    rw [Int.toNat_natCast, pow_nat] at h1
    have hpb := pcTo_b (K.getD i default).1 4
    have hz4 : (K.getD i default).1 / 2 ^ 4 = 0 := by show (K.getD i default).1 / 16 = 0; omega
    have hzm : (K.getD i default).1 / 2 ^ m = 0 := by rw [pow_nat]; exact Int.ediv_eq_zero_of_lt h1.1 (by omega)
    have e : clTo m K (i + 1) = clTo m K i + pcTo (K.getD i default).1 4 := by rw [clTo, pcTo_eq h1.1 hz4 hzm]
    refine h_cond_t rfl rfl ?_; (repeat (refine H_ldEN hp rfl (by omega) rfl rfl ?_))
    (first | (refine H_box hp ?_; intro w b7 hx hp) | (refine H_alloc hp rfl ?_; intro w b7 hx hp)); refine ops_run nopre rfl ?_; (repeat (first | (refine gLoad ?_; refine H_ldB hp rfl rfl ?_) | (refine gStore ?_; refine U_stBN hp rfl rfl rfl rfl ?_; intro w hp; refine ops_run nopre rfl ?_)))
    refine h_call rfl Tryz.func127 (by kernel_rfl) rfl (bitCount_h (K.getD i default).1 _ h1.1 (by omega)) ?_; rintro _ w ⟨rfl, hx⟩; have hp := hp.ext hx; refine ops_run nopre rfl ?_; skip
    exact IH (i + 1) _ _ _ (by omega) (by rw [e]; rfl) ⟨by omega, hp.drop⟩
  · obtain rfl : i = K.length := by omega
    refine h_cond_f rfl rfl ?_; (repeat (refine R_ret ?_))
    exact ⟨rfl, hp.x⟩
end Go.Proofs
