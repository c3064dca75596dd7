/- Texts that belong together; each under its stated conditions. -/
import Derived.Test.YtifjicajbgoamaaGreatMapLaw
import Derived.Test.YtifjicajbgoamaaGreatBalA
import Derived.Test.YtifjicajbgoamaaGreatRfLaw
import Derived.Test.YtifjicajbgoamaaGreatIns
set_option linter.all false
section
namespace Go.Proofs
open Go.Xw
set_option maxRecDepth 100000
set_option maxHeartbeats 2000000
attribute [local irreducible] Holds elemAddr
theorem sh_m {m : Nat} (h : m ≤ 4) : ((m : Nat) : Int) ≤ ((IntKind.i64.bits : Nat) : Int) ∧ (2 : Int) ^ ((m : Nat) : Int).toNat = ((2 ^ m : Nat) : Int) ∧ 2 ^ m ≤ 16 := ⟨by show ((m : Nat) : Int) ≤ 64; omega, by rw [Int.toNat_natCast]; exact pow_nat m, pow_4 h⟩
theorem sh_b {m : Nat} (h : m ≤ 4) : (1 : Int) ≤ 2 ^ ((m : Nat) : Int).toNat ∧ (2 : Int) ^ ((m : Nat) : Int).toNat ≤ 16 := by
 obtain rfl | rfl | rfl | rfl | rfl : m = 0 ∨ m = 1 ∨ m = 2 ∨ m = 3 ∨ m = 4 := by omega
 all_goals decide
theorem sh_i {i : Nat} (h : i < 16) : ((i : Nat) : Int) ≤ ((IntKind.i64.bits : Nat) : Int) ∧ (2 : Int) ^ ((i : Nat) : Int).toNat = 2 ^ i ∧ (1 : Int) ≤ 2 ^ i ∧ (2 : Int) ^ i ≤ 65536 := ⟨by show ((i : Nat) : Int) ≤ 64; omega, by rw [Int.toNat_natCast], (pow_16 h).1, (pow_16 h).2⟩
theorem sh_mm {m : Nat} (h : m ≤ 4) : (1 * 2 ^ ((m : Nat) : Int).toNat : Int) ≤ ((IntKind.i64.bits : Nat) : Int) ∧ (2 : Int) ^ (1 * 2 ^ ((m : Nat) : Int).toNat : Int).toNat = 2 ^ 2 ^ m ∧ (1 : Int) ≤ 2 ^ 2 ^ m ∧ (2 : Int) ^ 2 ^ m ≤ 65536 := by
 obtain ⟨_, h2, h3⟩ := sh_m h
 refine ⟨?_, ?_, ?_⟩
 ·rw [Int.one_mul, h2]; show ((2 ^ m : Nat) : Int) ≤ 64; omega
 ·rw [Int.one_mul, h2, Int.toNat_natCast]
 ·obtain rfl | rfl | rfl | rfl | rfl : m = 0 ∨ m = 1 ∨ m = 2 ∨ m = 3 ∨ m = 4 := by omega
  all_goals decide
theorem implTableOk_h (m : Nat) (b : Int) (w0 : World) (hm : m ≤ 4) (h0 : 0 ≤ b) (h1 : b < 2 ^ 2 ^ m) : Ret Tryz.prog 121 [.agg ⟨[.int .i64 (m : Int), .int .i64 b]⟩] w0 (fun v w => v = .bool true ∧ Ext w0 w) := by
 obtain ⟨s1, s2, s3⟩ := sh_m hm
 obtain ⟨t1, t2, t3, t4⟩ := sh_mm hm
 obtain ⟨u1, u2⟩ := sh_b hm
 refine enter Tryz.S121ok _ _ rfl rfl (by show _ ≤ _; simp only [List.length]; decide) (fun C => ?_); have hp := Hp.nil w0; refine h_run rfl ?_; skip; (first | refine H_box hp ?_ | refine H_alloc hp rfl ?_); intro w b1 hx hp; refine ops_run nopre rfl ?_; (repeat (refine H_ldB hp rfl rfl ?_))
 refine h_call rfl Tryz.func77 (by kernel_rfl) rfl ((inRange_h (m : Int) 0 4 _).yes (by omega)) ?_; rintro _ w ⟨rfl, hx⟩; have hp := hp.ext hx; refine ops_run nopre rfl ?_; (repeat (first | (refine gGuard ?_; refine h_guard_y rfl nopre rfl ?_) | (refine gLoad ?_; refine H_ldB hp rfl rfl ?_)))
 refine h_call rfl Tryz.func77 (by kernel_rfl) rfl ((inRange_h b 0 (1 * 2 ^ (1 * 2 ^ ((m : Nat) : Int).toNat : Int).toNat - 1) _).yes (by omega)) ?_; rintro _ w ⟨rfl, hx⟩; have hp := hp.ext hx; refine ops_run nopre rfl ?_; (repeat (refine R_ret ?_))
 exact ⟨rfl, hp.x⟩
theorem implTableEval_h (m : Nat) (b : Int) (i : Nat) (w0 : World) (hm : m ≤ 4) (h0 : 0 ≤ b) (h1 : b < 2 ^ 2 ^ m) (hi : i < 2 ^ m) : Ret Tryz.prog 125 [.agg ⟨[.int .i64 (m : Int), .int .i64 b]⟩, .int .i64 (i : Int)] w0 (fun v w => v = .bool (decide (bitI b i = 1)) ∧ Ext w0 w) := by
 obtain ⟨s1, s2, s3⟩ := sh_m hm
 obtain ⟨t1, t2, t3, t4⟩ := sh_i (show i < 16 by omega)
 refine enter Tryz.S125ok _ _ rfl rfl (by show _ ≤ _; simp only [List.length]; decide) (fun C => ?_); have hp := Hp.nil w0; refine h_run rfl ?_; skip; (first | refine H_box hp ?_ | refine H_alloc hp rfl ?_); intro w b2 hx hp; refine ops_run nopre rfl ?_; (repeat (refine H_ldB hp rfl rfl ?_))
 refine h_call rfl Tryz.func121 (by kernel_rfl) rfl (implTableOk_h m b _ hm h0 h1) ?_; rintro _ w ⟨rfl, hx⟩; have hp := hp.ext hx; refine ops_run nopre rfl ?_; (repeat (first | (refine gGuard ?_; refine h_guard_y rfl nopre rfl ?_) | (refine gLoad ?_; refine H_ldB hp rfl rfl ?_)))
 refine h_call rfl Tryz.func77 (by kernel_rfl) rfl ((inRange_h (i : Int) 0 (1 * 2 ^ ((m : Nat) : Int).toNat - 1) _).yes (by omega)) ?_; rintro _ w ⟨rfl, hx⟩; have hp := hp.ext hx; refine ops_run nopre rfl ?_; (repeat (first | (refine gGuard ?_; refine h_guard_y rfl nopre rfl ?_) | (refine gLoad ?_; refine H_ldB hp rfl rfl ?_) | refine R_ret ?_))
 exact ⟨rfl, hp.x⟩
theorem tableOfB_h (g : Nat → Bool) (m : Nat) (hm : m ≤ 4) (f : Nat) (cap : List Value) (fn : Func) (hf : Tryz.prog.funcs[f]? = some fn) (hne : (fn.name == "runtime.NumGoroutine") = false) (hbn : fn.body.isNone = false) (w0 : World)
  (hcl : ∀ (i : Nat), i < 2 ^ m → ∀ w, Ext w0 w → Ret Tryz.prog f (.int .i64 (i : Int) :: cap) w (fun v w' => v = .bool (g i) ∧ Ext w w')) :
  Ret Tryz.prog 118 [.int .i64 (m : Int), .func (.func f) ⟨[]⟩ ⟨cap⟩] w0 (fun v w => v = .agg ⟨eII ((m : Int), bsB g (2 ^ m))⟩ ∧ Ext w0 w) := by
 obtain ⟨s1, s2, s3⟩ := sh_m hm
 refine enter Tryz.S118ok _ _ rfl rfl (by show _ ≤ _; simp only [List.length]; decide) (fun C => ?_); have hp := Hp.nil w0; refine h_run rfl ?_; skip; (first | refine H_box hp ?_ | refine H_alloc hp rfl ?_); intro w b4 hx hp; refine ops_run nopre rfl ?_; skip; (first | refine H_box hp ?_ | refine H_alloc hp rfl ?_); intro w b5 hx hp; refine ops_run nopre rfl ?_; (repeat (refine U_stBN hp rfl rfl rfl rfl ?_; intro w hp; refine ops_run nopre rfl ?_))
 refine h_loop [0, 1, 4, 5, 6] (fun (i : Nat) => [(0, .int .i64 (m : Int)), (1, .func (.func f) ⟨[]⟩ ⟨cap⟩), (4, .pointer (some ⟨b4, 0, none⟩)), (5, .pointer (some ⟨b5, 0, none⟩)), (6, .int .i64 (i : Int))])
  (fun i w' => i ≤ 2 ^ m ∧ Hp w0 w' [rB b5 49 [.int .i64 (m : Int), .int .i64 (bsB g i)], rB b4 49 (cellsV Tryz.ti49.zero)]) (fun i => 2 ^ m - i) 0 rfl ⟨Nat.zero_le _, hp⟩ ?_
 clear hp
 rintro i w1 ⟨hi, hp⟩ IH C
 refine h_run rfl ?_; skip
 refine h_cond_dec (fun hlt => ?_) (fun hlt => ?_)
 ·have hlt' : i < 2 ^ m := by omega
  obtain ⟨t1, t2, t3, t4⟩ := sh_i (show i < 16 by omega)
  have htl := bsB_lt g i
  refine h_cond_t rfl rfl ?_; skip
  refine h_call rfl hf hne hbn (hcl i hlt' _ hp.x) ?_; rintro _ w ⟨rfl, hx⟩; have hp := hp.ext hx; refine ops_run nopre rfl ?_; skip
  refine h_cond_b (fun h1 => ?_) (fun h1 => ?_)
  ·refine h_cond_t rfl rfl ?_; (repeat (first | (refine gLoad ?_; refine H_ldB hp rfl rfl ?_) | (refine gStore ?_; refine U_stB hp rfl rfl rfl rfl ?_; intro w hp; refine ops_run nopre rfl ?_)))
   have e : bits .or .i64 (bsB g i) (1 * 2 ^ ((i : Nat) : Int).toNat) = bsB g (i + 1) := by
    rw [t2, or_bit htl.1 htl.2 (.inr rfl) (by omega), bsB, h1]; rfl
   have hp : Hp w0 w [rB b5 49 [.int .i64 (m : Int), .int .i64 (bits .or .i64 (bsB g i) (1 * 2 ^ ((i : Nat) : Int).toNat))], rB b4 49 (cellsV Tryz.ti49.zero)] := hp
   rw [e] at hp
   exact IH (i + 1) _ _ _ (by omega) rfl ⟨by omega, hp⟩
  ·refine h_cond_f rfl rfl ?_; skip
   refine IH (i + 1) _ _ _ (by omega) rfl ⟨by omega, ?_⟩
   have e : bsB g (i + 1) = bsB g i := by rw [bsB, h1]; simp
   rw [e]
   exact hp
 ·obtain rfl : i = 2 ^ m := by omega
  refine h_cond_f rfl rfl ?_; (repeat (first | (refine gLoad ?_; refine H_ldB hp rfl rfl ?_) | (refine gStore ?_; refine U_stBN hp rfl rfl rfl rfl ?_; intro w hp; refine ops_run nopre rfl ?_) | (refine gRetc ?_; refine R_ret1 hp rfl ?_)))
  exact ⟨rfl, hp.x⟩
theorem tableNotC_h (m : Nat) (b : Int) (b1 i : Nat) (w0 : World) (hm : m ≤ 4) (h0 : 0 ≤ b) (h1 : b < 2 ^ 2 ^ m) (hi : i < 2 ^ m) (hb : Bk w0 b1 49 [.int .i64 (m : Int), .int .i64 b]) :
  Ret Tryz.prog 124 [.int .i64 (i : Int), .pointer (some ⟨b1, 0, none⟩)] w0 (fun v w => v = .bool (!decide (bitI b i = 1)) ∧ Ext w0 w) := by
 refine enter Tryz.S124ok _ _ rfl rfl (by show _ ≤ _; simp only [List.length]; decide) (fun C => ?_); have hp := Hp.nil w0; refine h_run rfl ?_; (repeat (refine H_ldB hp rfl rfl ?_))
 refine h_call rfl Tryz.func125 (by kernel_rfl) rfl (implTableEval_h m b i _ hm h0 h1 hi) ?_; rintro _ w ⟨rfl, hx⟩; have hp := hp.ext hx; refine ops_run nopre rfl ?_; (repeat (refine R_ret ?_))
 exact ⟨rfl, hp.x⟩
theorem implTableNot_h (m : Nat) (b : Int) (w0 : World) (hm : m ≤ 4) (h0 : 0 ≤ b) (h1 : b < 2 ^ 2 ^ m) : Ret Tryz.prog 84 [.agg ⟨[.int .i64 (m : Int), .int .i64 b]⟩] w0 (fun v w => v = .agg ⟨eII ((m : Int), notT m b)⟩ ∧ Ext w0 w) := by
 refine enter Tryz.S84ok _ _ rfl rfl (by show _ ≤ _; simp only [List.length]; decide) (fun C => ?_); have hp := Hp.nil w0; refine h_run rfl ?_; skip; (first | refine H_box hp ?_ | refine H_alloc hp rfl ?_); intro w b1 hx hp; refine ops_run nopre rfl ?_; skip; (first | refine H_box hp ?_ | refine H_alloc hp rfl ?_); intro w b2 hx hp; refine ops_run nopre rfl ?_; (repeat (refine H_ldB hp rfl rfl ?_))
 refine h_call rfl Tryz.func121 (by kernel_rfl) rfl (implTableOk_h m b _ hm h0 h1) ?_; rintro _ w ⟨rfl, hx⟩; have hp := hp.ext hx; refine ops_run nopre rfl ?_; skip
 refine h_cond_f rfl rfl ?_; (repeat (refine H_ldB hp rfl rfl ?_))
 have h3 := hp.g1
 have hx0 := hp.x
 refine h_call rfl Tryz.func118 (by kernel_rfl) rfl (tableOfB_h (fun j => !decide (bitI b j = 1)) m hm 124 [.pointer (some ⟨b1, 0, none⟩)] _ Tryz.func124 (by kernel_rfl) rfl _ (fun (i : Nat) hi w' hx => tableNotC_h m b b1 i w' hm h0 h1 hi ⟨Blk.ext h3 hx⟩)) ?_; rintro _ w ⟨rfl, hx⟩; have hp := hp.ext hx; refine ops_run nopre rfl ?_; (repeat (first | (refine gStore ?_; refine U_stBN hp rfl rfl rfl rfl ?_; intro w hp; refine ops_run nopre rfl ?_) | (refine gRetc ?_; refine R_ret1 hp rfl ?_)))
 exact ⟨by rw [bsB_notT h0 h1]; rfl, hp.x⟩
theorem coverTableC_h (ca : Option Addr) (cc : Nat) (K : List (Int × Int)) (b3 i : Nat) (hi : i < 16) (hK : K.length ≤ 81) (w0 : World) (hb : Bk w0 b3 51 [.slice ca K.length cc]) (hR : Rd w0 ca 2 eII K) :
  Ret Tryz.prog 141 [.int .i64 (i : Int), .pointer (some ⟨b3, 0, none⟩)] w0 (fun v w => v = .bool (covG K i) ∧ Ext w0 w) := by
 refine enter Tryz.S141ok _ _ rfl rfl (by show _ ≤ _; simp only [List.length]; decide) (fun C => ?_); have hp := Hp.nil w0; refine h_run rfl ?_; (repeat (refine H_ldB hp rfl rfl ?_))
 refine h_loop [0, 6, 7, 8] (fun (j : Nat) => [(0, .int .i64 (i : Int)), (6, .slice ca K.length cc), (7, .int .i64 K.length), (8, .int .i64 (j : Int))])
  (fun j w' => (j ≤ K.length ∧ ∀ q, q < j → hasC (K.getD q default) i = false) ∧ Hp w0 w' []) (fun j => K.length - j) 0 rfl ⟨⟨by omega, fun q hq => by omega⟩, hp⟩ ?_
 clear hp
 rintro j w1 ⟨⟨hj, hall⟩, hp⟩ IH C
 refine h_run rfl ?_; skip
 refine h_cond_dec (fun hlt => ?_) (fun hlt => ?_)
 ·have hlt' : j < K.length := by omega
  have hne : ca ≠ none := nn_of hp (X := K) (by omega)
  refine h_cond_t rfl rfl ?_; (repeat (refine H_ldEN hp rfl (by omega) rfl rfl ?_))
  (first | refine H_box hp ?_ | refine H_alloc hp rfl ?_); intro w b5 hx hp; refine ops_run nopre rfl ?_; (repeat (first | (refine gLoad ?_; refine H_ldB hp rfl rfl ?_) | (refine gStore ?_; refine U_stBN hp rfl rfl rfl rfl ?_; intro w hp; refine ops_run nopre rfl ?_)))
  refine h_cond_dec (fun hc => ?_) (fun hc => ?_)
  ·refine h_cond_t rfl rfl ?_; (repeat (refine R_ret ?_))
   have hh : hasC (K.getD j default) i = true := decide_eq_true hc
   exact ⟨by rw [covG_iff.2 ⟨_, getD_mem hlt', hh⟩], hp.x⟩
  ·refine h_cond_f rfl rfl ?_; skip
   have hh : hasC (K.getD j default) i = false := decide_eq_false hc
   refine IH (j + 1) _ _ _ (by omega) rfl ⟨⟨by omega, fun q hq => ?_⟩, hp.drop⟩
   by_cases hqj : q = j
   ·rw [hqj]; exact hh
   ·exact hall q (by omega)
 ·obtain rfl : j = K.length := by omega
  refine h_cond_f rfl rfl ?_; (repeat (refine R_ret ?_))
  have hf : covG K i = false := by
   cases h : covG K i
   ·rfl
   ·obtain ⟨c, hc, hh⟩ := covG_iff.1 h
    obtain ⟨q, hq, he⟩ := List.getElem_of_mem hc
    have := hall q hq
    rw [List.getD_eq_getElem?_getD, List.getElem?_eq_getElem hq, Option.getD_some, he, hh] at this
    cases this
  exact ⟨by rw [hf], hp.x⟩
theorem implCoverTable_h (m : Nat) (hm : m ≤ 4) (ca : Option Addr) (cc q : Nat) (K : List (Int × Int)) (hq : K.length = q) (hK : coverOkP (m : Int) K) (w0 : World) (hR : Rd w0 ca 2 eII K) :
  Ret Tryz.prog 123 [.int .i64 (m : Int), .slice ca q cc] w0 (fun v w => v = .agg ⟨eII ((m : Int), covT m K)⟩ ∧ Ext w0 w) := by
 subst hq
 have h16 := pow_4 hm
 have hk81 := hK.2.1
 have hci : ∀ i, i < K.length → i64R (K.getD i default).1 ∧ i64R (K.getD i default).2 := fun i hi => by
  have h := hK.2.2 _ (getD_mem hi)
  obtain ⟨_, h1, h2, _⟩ := h
  have h3 := pow_small (m := (m : Int)) (by omega)
  unfold i64R
  omega
 refine enter Tryz.S123ok _ _ rfl rfl (by show _ ≤ _; simp only [List.length]; decide) (fun C => ?_); have hp := Hp.nil w0; refine h_run rfl ?_; skip; (first | refine H_box hp ?_ | refine H_alloc hp rfl ?_); intro w b3 hx hp; refine ops_run nopre rfl ?_; skip; (first | refine H_box hp ?_ | refine H_alloc hp rfl ?_); intro w b4 hx hp; refine ops_run nopre rfl ?_; (repeat (refine H_ldB hp rfl rfl ?_))
 refine h_call rfl Tryz.func126 (by kernel_rfl) rfl ((implCoverOk_h (m : Int) ca cc _ K rfl _ (by unfold i64R; omega) hp.rd hci (by omega)).tt (coverOkB_yes hK)) ?_; rintro _ w ⟨rfl, hx⟩; have hp := hp.ext hx; refine ops_run nopre rfl ?_; skip
 refine h_cond_f rfl rfl ?_; skip
 have h3 := hp.g1
 have hx0 := hp.x
 refine h_call rfl Tryz.func118 (by kernel_rfl) rfl (tableOfB_h (covG K) m hm 141 [.pointer (some ⟨b3, 0, none⟩)] _ Tryz.func141 (by kernel_rfl) rfl _ (fun (i : Nat) hi w' hx => coverTableC_h ca cc K b3 i (by omega) hk81 w' ⟨Blk.ext h3 hx⟩ (hR.ext (hx0.trans hx)))) ?_; rintro _ w ⟨rfl, hx⟩; have hp := hp.ext hx; refine ops_run nopre rfl ?_; (repeat (first | (refine gStore ?_; refine U_stBN hp rfl rfl rfl rfl ?_; intro w hp; refine ops_run nopre rfl ?_) | (refine gRetc ?_; refine R_ret1 hp rfl ?_)))
 exact ⟨rfl, hp.x⟩
theorem isImplicant_h (m : Nat) (b : Int) (c : Int × Int) (w0 : World) (hm : m ≤ 4) (h0 : 0 ≤ b) (h1 : b < 2 ^ 2 ^ m) :
  Ret Tryz.prog 140 [.agg ⟨[.int .i64 (m : Int), .int .i64 b]⟩, .agg ⟨eII c⟩] w0 (fun v w => v = .bool (impC m b c) ∧ Ext w0 w) := by
 obtain ⟨s1, s2, s3⟩ := sh_m hm
 refine enter Tryz.S140ok _ _ rfl rfl (by show _ ≤ _; simp only [List.length]; decide) (fun C => ?_); have hp := Hp.nil w0; refine h_run rfl ?_; skip; (first | refine H_box hp ?_ | refine H_alloc hp rfl ?_); intro w b2 hx hp; refine ops_run nopre rfl ?_; skip; (first | refine H_box hp ?_ | refine H_alloc hp rfl ?_); intro w b3 hx hp; refine ops_run nopre rfl ?_; skip
 refine h_loop [2, 3, 5] (fun (i : Nat) => [(2, .pointer (some ⟨b2, 0, none⟩)), (3, .pointer (some ⟨b3, 0, none⟩)), (5, .int .i64 (i : Int))])
  (fun i w' => (i ≤ 2 ^ m ∧ ∀ q, q < i → hasC c q = true → bitI b q = 1) ∧ Hp w0 w' [rB b3 87 (eII c), rB b2 49 [.int .i64 (m : Int), .int .i64 b]]) (fun i => 2 ^ m - i) 0 rfl ⟨⟨Nat.zero_le _, fun q hq => by omega⟩, hp⟩ ?_
 clear hp
 rintro i w1 ⟨⟨hi, hall⟩, hp⟩ IH C
 refine h_run rfl ?_; (repeat (refine H_ldB hp rfl rfl ?_))
 refine h_cond_dec (fun hlt => ?_) (fun hlt => ?_)
 ·have hlt' : i < 2 ^ m := by omega
  refine h_cond_t rfl rfl ?_; (repeat (refine H_ldB hp rfl rfl ?_))
  refine h_guard_by (fun hc => ?_) (fun hc => ?_); all_goals (rw [hc]; (first | replace hc := of_decide_eq_true hc | replace hc := of_decide_eq_false hc | skip); (repeat (first | (refine gGuard ?_; first | refine h_guard_y rfl nopre rfl ?_ | refine h_guard_n rfl nopre rfl ?_) | (refine gLoad ?_; refine H_ldB hp rfl rfl ?_))))
  ·have hh : hasC c i = true := decide_eq_true hc
   refine h_call rfl Tryz.func125 (by kernel_rfl) rfl (implTableEval_h m b i _ hm h0 h1 hlt') ?_; rintro _ w ⟨rfl, hx⟩; have hp := hp.ext hx; refine ops_run nopre rfl ?_; (repeat (refine h_guard_y rfl nopre rfl ?_))
   by_cases hb : bitI b i = 1
   ·rw [decide_eq_true hb]
    refine h_cond_f rfl rfl ?_; skip
    refine IH (i + 1) _ _ _ (by omega) rfl ⟨⟨by omega, fun q hq => ?_⟩, hp⟩
    by_cases hqi : q = i
    ·rw [hqi]; exact fun _ => hb
    ·exact hall q (by omega)
   ·rw [decide_eq_false hb]
    refine h_cond_t rfl rfl ?_; (repeat (refine R_ret ?_))
    have hf : impC m b c = false := by
     cases h : impC m b c
     ·rfl
     ·exact absurd (impC_iff.1 h i hlt' hh) hb
    exact ⟨by rw [hf], hp.x⟩
  ·have hh : hasC c i = false := decide_eq_false hc
   refine h_cond_f rfl rfl ?_; skip
   refine IH (i + 1) _ _ _ (by omega) rfl ⟨⟨by omega, fun q hq => ?_⟩, hp⟩
   by_cases hqi : q = i
   ·rw [hqi, hh]; exact fun h => by cases h
   ·exact hall q (by omega)
 ·obtain rfl : i = 2 ^ m := by omega
  refine h_cond_f rfl rfl ?_; (repeat (refine R_ret ?_))
  exact ⟨by rw [impC_iff.2 hall], hp.x⟩
theorem bitCount_h (n : Int) (w0 : World) (h0 : 0 ≤ n) (h1 : n < 16) : Ret Tryz.prog 127 [.int .i64 n] w0 (fun v w => v = .int .i64 (pcTo n 4) ∧ Ext w0 w) := by
 refine enter Tryz.S127ok _ _ rfl rfl (by show _ ≤ _; simp only [List.length]; decide) (fun C => ?_); have hp := Hp.nil w0; refine h_run rfl ?_; skip
 refine h_loop [0, 3] (fun (j : Nat) => [(0, .int .i64 (n / 2 ^ j)), (3, .int .i64 (pcTo n j))])
  (fun j w' => j ≤ 4 ∧ Hp w0 w' []) (fun j => 4 - j) 0 (by rw [show n / 2 ^ 0 = n by simp]; rfl) ⟨by omega, hp⟩ ?_
 clear hp
 rintro j w1 ⟨hj, hp⟩ IH C
 have hpb := pcTo_b n j
 have hdiv : n / 2 ^ j / 2 = n / 2 ^ (j + 1) := by rw [Int.pow_succ, Int.ediv_ediv_of_nonneg (Int.pow_nonneg (by decide))]
 have h16 : n / 2 ^ 4 = 0 := by show n / 16 = 0; omega
 have hnn : 0 ≤ n / 2 ^ j := Int.ediv_nonneg h0 (Int.pow_nonneg (by decide))
 have hle : n / 2 ^ j ≤ n := Int.ediv_le_self _ h0
 have hb01 := bitI_01 n j
 unfold is01 at hb01
 unfold bitI at hb01
 refine h_run rfl ?_; skip
 refine h_cond_dec (fun hgt => ?_) (fun hgt => ?_)
 ·have hj4 : j < 4 := by
   refine Nat.lt_of_not_le fun h => ?_
   obtain rfl : j = 4 := by omega
   omega
  refine h_cond_t rfl rfl ?_; skip
  refine IH (j + 1) _ _ _ (by omega) (by rw [← hdiv]; rfl) ⟨by omega, hp⟩
 ·have hz : n / 2 ^ j = 0 := by omega
  refine h_cond_f rfl rfl ?_; (repeat (refine R_ret ?_))
  exact ⟨by rw [pcTo_eq h0 hz h16], hp.x⟩
theorem implCoverLiterals_h (m : Nat) (hm : m ≤ 4) (ca : Option Addr) (cc q : Nat) (K : List (Int × Int)) (hq : K.length = q) (hK : coverOkP (m : Int) K) (w0 : World) (hR : Rd w0 ca 2 eII K) :
  Ret Tryz.prog 85 [.int .i64 (m : Int), .slice ca q cc] w0 (fun v w => v = .int .i64 (clL m K) ∧ Ext w0 w) := by
 subst hq
 have hk81 := hK.2.1
 obtain ⟨s1, s2, s3⟩ := sh_m hm
 have h3 := pow_small (m := (m : Int)) (by omega)
 have hci : ∀ i, i < K.length → i64R (K.getD i default).1 ∧ i64R (K.getD i default).2 := fun i hi => by
  obtain ⟨_, h1, h2, _⟩ := hK.2.2 _ (getD_mem hi)
  unfold i64R
  omega
 refine enter Tryz.S85ok _ _ rfl rfl (by show _ ≤ _; simp only [List.length]; decide) (fun C => ?_); have hp := Hp.nil w0; refine h_run rfl ?_; skip
 refine h_call rfl Tryz.func126 (by kernel_rfl) rfl ((implCoverOk_h (m : Int) ca cc _ K rfl _ (by unfold i64R; omega) hp.rd hci (by omega)).tt (coverOkB_yes hK)) ?_; rintro _ w ⟨rfl, hx⟩; have hp := hp.ext hx; refine ops_run nopre rfl ?_; skip
 refine h_cond_f rfl rfl ?_; skip
 refine h_loop [5, 12, 13, 14] (fun (i : Nat) => [(5, .int .i64 (clTo m K i)), (12, .slice ca K.length cc), (13, .int .i64 K.length), (14, .int .i64 (i : Int))])
  (fun i w' => i ≤ K.length ∧ Hp w0 w' []) (fun i => K.length - i) 0 rfl ⟨by omega, hp⟩ ?_
 clear hp
 rintro i w1 ⟨hi, hp⟩ IH C
 have hcb := clTo_b m K i
 have him : (i : Int) * (m : Int) ≤ 81 * 4 := by
  have : i * m ≤ 81 * 4 := Nat.mul_le_mul (by omega) hm
  exact_mod_cast this
 refine h_run rfl ?_; skip
 refine h_cond_dec (fun hlt => ?_) (fun hlt => ?_)
 ·have hlt' : i < K.length := by omega
  have hne : ca ≠ none := nn_of hp (X := K) (by omega)
  obtain ⟨_, h1, h2, _⟩ := hK.2.2 _ (getD_mem hlt')
  rw [Int.toNat_natCast, pow_nat] at h1
  have hpb := pcTo_b (K.getD i default).1 4
  have hz4 : (K.getD i default).1 / 2 ^ 4 = 0 := by show (K.getD i default).1 / 16 = 0; omega
  have hzm : (K.getD i default).1 / 2 ^ m = 0 := by rw [pow_nat]; exact Int.ediv_eq_zero_of_lt h1.1 (by omega)
  have e : clTo m K (i + 1) = clTo m K i + pcTo (K.getD i default).1 4 := by rw [clTo, pcTo_eq h1.1 hz4 hzm]
  refine h_cond_t rfl rfl ?_; (repeat (refine H_ldEN hp rfl (by omega) rfl rfl ?_))
  (first | refine H_box hp ?_ | refine H_alloc hp rfl ?_); intro w b7 hx hp; refine ops_run nopre rfl ?_; (repeat (first | (refine gLoad ?_; refine H_ldB hp rfl rfl ?_) | (refine gStore ?_; refine U_stBN hp rfl rfl rfl rfl ?_; intro w hp; refine ops_run nopre rfl ?_)))
  refine h_call rfl Tryz.func127 (by kernel_rfl) rfl (bitCount_h (K.getD i default).1 _ h1.1 (by omega)) ?_; rintro _ w ⟨rfl, hx⟩; have hp := hp.ext hx; refine ops_run nopre rfl ?_; skip
  exact IH (i + 1) _ _ _ (by omega) (by rw [e]; rfl) ⟨by omega, hp.drop⟩
 ·obtain rfl : i = K.length := by omega
  refine h_cond_f rfl rfl ?_; (repeat (refine R_ret ?_))
  exact ⟨rfl, hp.x⟩
end Go.Proofs
end
section
namespace Go.Xw
open Go.Proofs
theorem candC_hi {m : Nat} (hm : m ≤ 4) {t : Int} {i j : Nat} (hi : i < 2 ^ m) (hj : j < 2 ^ m) (hij : i < j) : candC m t ((i : Int), (j : Int)) = false := by
 have h16 := pw_4 hm
 cases h : candC m t ((i : Int), (j : Int))
 ·rfl
 ·unfold candC at h
  rw [Bool.and_eq_true] at h
  have hs := (okC_iff (by omega) (by omega)).1 h.1
  have e : j &&& i = j := Nat.eq_of_testBit_eq fun k => by
   rw [Nat.testBit_and]
   cases h2 : j.testBit k
   ·rfl
   ·rw [hs k h2]; rfl
  have := Nat.and_le_right (n := j) (m := i)
  omega
theorem row_cut {m : Nat} (hm : m ≤ 4) {t : Int} {i : Nat} (hi : i < 2 ^ m) : ∀ d, i + 1 + d ≤ 2 ^ m → (rowC i (i + 1 + d)).filter (candC m t) = (rowC i (i + 1)).filter (candC m t)
 | 0, _ => rfl
 | d + 1, h => by
  rw [show i + 1 + (d + 1) = i + 1 + d + 1 by omega, rowC_snoc, List.filter_append, row_cut hm hi d (by omega)]
  have := candC_hi hm (t := t) hi (show i + 1 + d < 2 ^ m by omega) (by omega)
  rw [List.filter_cons_of_neg (by rw [this]; decide), List.filter_nil, List.append_nil]
theorem rows_next {m : Nat} (hm : m ≤ 4) {t : Int} {i : Nat} (hi : i < 2 ^ m) : (rowsC m (i + 1)).filter (candC m t) = (rowsC m i).filter (candC m t) ++ (rowC i (i + 1)).filter (candC m t) := by
 rw [rowsC_snoc, List.filter_append]
 congr 1
 have := row_cut hm (t := t) hi (2 ^ m - (i + 1)) (by omega)
 rw [show i + 1 + (2 ^ m - (i + 1)) = 2 ^ m by omega] at this
 exact this
theorem row_yes {m : Nat} {t : Int} {i j : Nat} (h : candC m t ((i : Int), (j : Int)) = true) : (rowC i (j + 1)).filter (candC m t) = (rowC i j).filter (candC m t) ++ [((i : Int), (j : Int))] := by
 rw [rowC_snoc, List.filter_append]; simp [h]
theorem row_no {m : Nat} {t : Int} {i j : Nat} (h : candC m t ((i : Int), (j : Int)) = false) : (rowC i (j + 1)).filter (candC m t) = (rowC i j).filter (candC m t) := by
 rw [rowC_snoc, List.filter_append]; simp [h]
theorem rows_len (m : Nat) (hm : m ≤ 4) (t : Int) (i : Nat) (hi : i ≤ 2 ^ m) : ((rowsC m i).filter (candC m t)).length ≤ 81 := by
 refine Nat.le_trans ?_ (candL_len hm t)
 have h : (rowsC m i).Sublist (allC m) := by
  unfold allC rowsC
  have e : List.range (2 ^ m) = List.range i ++ (List.range (2 ^ m - i)).map (i + ·) := by
   rw [← List.range_add]; congr 1; omega
  rw [e, List.flatMap_append]
  exact List.sublist_append_left _ _
 exact (h.filter _).length_le
theorem rowj_len (m i j : Nat) (t : Int) : ((rowC i j).filter (candC m t)).length ≤ j := by
 refine Nat.le_trans (List.length_filter_le _ _) ?_
 simp [rowC]
theorem any_snoc {L : List (Int × Int)} {p : Int × Int → Bool} {j : Nat} (h : j < L.length) : (L.take (j + 1)).any p = ((L.take j).any p || p (L.getD j default)) := by
 rw [take_snoc h, List.any_append]; simp
theorem filt_yes {L : List (Int × Int)} {p : Int × Int → Bool} {j : Nat} (h : j < L.length) (hp : p (L.getD j default) = true) : (L.take (j + 1)).filter p = (L.take j).filter p ++ [L.getD j default] := by
 rw [take_snoc h, List.filter_append, List.filter_cons_of_pos hp, List.filter_nil]
theorem filt_no {L : List (Int × Int)} {p : Int × Int → Bool} {j : Nat} (h : j < L.length) (hp : p (L.getD j default) = false) : (L.take (j + 1)).filter p = (L.take j).filter p := by
 rw [take_snoc h, List.filter_append, List.filter_cons_of_neg (by rw [hp]; decide), List.filter_nil, List.append_nil]
theorem filt_len (L : List (Int × Int)) (p : Int × Int → Bool) (j : Nat) : ((L.take j).filter p).length ≤ L.length := by
 refine Nat.le_trans (List.length_filter_le _ _) ?_
 rw [List.length_take]; omega
end Go.Xw
namespace Go.Proofs
open Go.Xw
set_option maxRecDepth 100000
set_option maxHeartbeats 4000000
attribute [local irreducible] Holds elemAddr
theorem implPrimeCubes_h (m : Nat) (b : Int) (w0 : World) (hm : m ≤ 4) (h0 : 0 ≤ b) (h1 : b < 2 ^ 2 ^ m) :
  Ret Tryz.prog 122 [.agg ⟨[.int .i64 (m : Int), .int .i64 b]⟩] w0 (fun v w => ∃ a c, v = .slice a (primL m b).length c ∧ Hp w0 w [rO 87 2 eII a c (primL m b)]) := by
 obtain ⟨s1, s2, s3⟩ := sh_m hm
 refine enter Tryz.S122ok _ _ rfl rfl (by show _ ≤ _; simp only [List.length]; decide) (fun C => ?_); have hp := Hp.nil w0; refine h_run rfl ?_; skip; (first | refine H_box hp ?_ | refine H_alloc hp rfl ?_); intro w b1 hx hp; refine ops_run nopre rfl ?_; (repeat (refine H_ldB hp rfl rfl ?_))
 refine h_call rfl Tryz.func121 (by kernel_rfl) rfl (implTableOk_h m b _ hm h0 h1) ?_; rintro _ w ⟨rfl, hx⟩; have hp := hp.ext hx; refine ops_run nopre rfl ?_; skip
 refine h_cond_f rfl rfl ?_; skip
 have hp : Hp w0 _ (rO 87 2 eII none 0 ([] : List (Int × Int)) :: _) := hp.ownN (Ext.refl _) (Own.nil _ _ _ _ _)
 refine h_loop3 [1, 3, 4, 5] (fun (i : Nat) (a : Option Addr) (c : Nat) => [(1, .pointer (some ⟨b1, 0, none⟩)), (3, .slice a ((rowsC m i).filter (candC m b)).length c), (4, .slice none 0 0), (5, .int .i64 (i : Int))])
  (fun i a c w' => i ≤ 2 ^ m ∧ Hp w0 w' [rO 87 2 eII a c ((rowsC m i).filter (candC m b)), rB b1 49 [.int .i64 (m : Int), .int .i64 b]]) (fun i _ _ => 2 ^ m - i) 0 none 0 rfl ⟨Nat.zero_le _, hp⟩ ?_
 clear hp
 rintro i a c w1 ⟨hi, hp⟩ IH C
 have hrl := rows_len m hm b i hi
 refine h_run rfl ?_; (repeat (refine H_ldB hp rfl rfl ?_))
 refine h_cond_dec (fun hlt => ?_) (fun hlt => ?_)
 ·have hlt' : i < 2 ^ m := by omega
  refine h_cond_t rfl rfl ?_; skip
  refine h_loop3 [1, 3, 4, 5, 6] (fun (j : Nat) (a : Option Addr) (c : Nat) => [(1, .pointer (some ⟨b1, 0, none⟩)), (3, .slice a ((rowsC m i).filter (candC m b) ++ (rowC i j).filter (candC m b)).length c), (4, .slice none 0 0), (5, .int .i64 (i : Int)), (6, .int .i64 (j : Int))])
   (fun j a c w' => j ≤ i + 1 ∧ Hp w0 w' [rO 87 2 eII a c ((rowsC m i).filter (candC m b) ++ (rowC i j).filter (candC m b)), rB b1 49 [.int .i64 (m : Int), .int .i64 b]]) (fun j _ _ => i + 1 - j) 0 a c
   (by rw [show (rowC i 0).filter (candC m b) = [] from rfl, List.append_nil]; rfl) ⟨by omega, by rw [show (rowC i 0).filter (candC m b) = [] from rfl, List.append_nil]; exact hp⟩ ?_
  clear hp
  rintro j a c w2 ⟨hj, hp⟩ IH2 C2
  have hjl := rowj_len m i j b
  refine h_run rfl ?_; skip
  refine h_cond_dec (fun hlt2 => ?_) (fun hlt2 => ?_)
  ·have hlt2' : j < i + 1 := by omega
   refine h_cond_t rfl rfl ?_; skip
   (first | refine H_box hp ?_ | refine H_alloc hp rfl ?_); intro w b7 hx hp; refine ops_run nopre rfl ?_; (repeat (refine U_stBN hp rfl rfl rfl rfl ?_; intro w hp; refine ops_run nopre rfl ?_))
   refine h_guard_by (fun hok => ?_) (fun hok => ?_); all_goals (rw [hok]; (first | replace hok := of_decide_eq_true hok | replace hok := of_decide_eq_false hok | skip); (repeat (first | (refine gGuard ?_; first | refine h_guard_y rfl nopre rfl ?_ | refine h_guard_n rfl nopre rfl ?_) | (refine gLoad ?_; refine H_ldB hp rfl rfl ?_))))
   ·have hok' : okC ((i : Int), (j : Int)) = true := decide_eq_true hok
    refine h_call rfl Tryz.func140 (by kernel_rfl) rfl (isImplicant_h m b ((i : Int), (j : Int)) _ hm h0 h1) ?_; rintro _ w ⟨rfl, hx⟩; have hp := hp.ext hx; refine ops_run nopre rfl ?_; skip
    refine h_cond_b (fun hc => ?_) (fun hc => ?_)
    ·have hcand : candC m b ((i : Int), (j : Int)) = true := by unfold candC; rw [hok', hc]; rfl
     refine h_cond_t rfl rfl ?_; (repeat (refine H_ldB hp rfl rfl ?_))
     refine H_lit hp eII [((i : Int), (j : Int))] rfl rfl rfl rfl (s := 2) rfl (by decide) (by infer_instance) (by rfl) (by rfl) (by rfl) (by decide) ?_; intro w b43 hx hp; refine ops_run nopre rfl ?_; skip
     refine U_append hp rfl rfl rfl rfl rfl rfl rfl (by decide) rfl (by first | omega | (simp only [List.length_append, List.length_cons, List.length_nil, List.length_take, List.length_drop, List.length_set, List.length_replicate, List.length_map]; omega)) rfl rfl ?_; intro a' c' w hp hnil; refine ops_run nopre rfl ?_; skip
     refine IH2 (j + 1) a' c' _ _ _ (by omega) (by rw [row_yes hcand, ← List.append_assoc]; rfl) ⟨by omega, ?_⟩
     rw [row_yes hcand, ← List.append_assoc]
     exact (hp.f3.f3).tk 2
    ·have hcand : candC m b ((i : Int), (j : Int)) = false := by unfold candC; rw [hc, Bool.and_false]
     refine h_cond_f rfl rfl ?_; skip
     refine IH2 (j + 1) a c _ _ _ (by omega) (by rw [row_no hcand]; rfl) ⟨by omega, ?_⟩
     rw [row_no hcand]
     exact hp.drop
   ·have hok' : okC ((i : Int), (j : Int)) = false := decide_eq_false hok
    have hcand : candC m b ((i : Int), (j : Int)) = false := by unfold candC; rw [hok', Bool.false_and]
    refine h_cond_f rfl rfl ?_; skip
    refine IH2 (j + 1) a c _ _ _ (by omega) (by rw [row_no hcand]; rfl) ⟨by omega, ?_⟩
    rw [row_no hcand]
    exact hp.drop
  ·obtain rfl : j = i + 1 := by omega
   refine h_cond_f rfl rfl ?_; skip
   refine IH (i + 1) a c _ _ _ (by omega) (by rw [rows_next hm hlt']; rfl) ⟨by omega, ?_⟩
   rw [rows_next hm hlt']
   exact hp
 ·obtain rfl : i = 2 ^ m := by omega
  clear IH
  obtain ⟨L, hL⟩ : ∃ L, L = candL m b := ⟨_, rfl⟩
  have hL' : (rowsC m (2 ^ m)).filter (candC m b) = L := hL.symm
  rw [hL'] at hp hrl ⊢
  have hpr : primL m b = L.filter (prmC m b) := by rw [hL]; rfl
  have hprm : ∀ c, prmC m b c = !L.any fun d => inC d c := fun c => by unfold prmC; rw [← hL]
  refine h_cond_f rfl rfl ?_; skip
  have hp : Hp w0 _ (rO 87 2 eII none 0 ([] : List (Int × Int)) :: _) := hp.ownN (Ext.refl _) (Own.nil _ _ _ _ _)
  refine h_loop3 [3, 4, 45, 46, 47] (fun (i : Nat) (d : Option Addr) (e : Nat) => [(3, .slice a L.length c), (4, .slice d ((L.take i).filter (prmC m b)).length e), (45, .slice a L.length c), (46, .int .i64 L.length), (47, .int .i64 (i : Int))])
   (fun i d e w' => i ≤ L.length ∧ Hp w0 w' [rO 87 2 eII d e ((L.take i).filter (prmC m b)), rO 87 2 eII a c L]) (fun i _ _ => L.length - i) 0 none 0 rfl ⟨by omega, hp.tk 2⟩ ?_
  clear hp
  rintro i d e w2 ⟨hi2, hp⟩ IH C2
  have hfl := filt_len L (prmC m b) i
  refine h_run rfl ?_; skip
  refine h_cond_dec (fun hlt2 => ?_) (fun hlt2 => ?_)
  ·have hlt2' : i < L.length := by omega
   have hne : a ≠ none := nn_of hp (X := L) (by omega)
   refine h_cond_t rfl rfl ?_; (repeat (refine H_ldEN hp rfl (by omega) rfl rfl ?_))
   (first | refine H_box hp ?_ | refine H_alloc hp rfl ?_); intro w b9 hx hp; refine ops_run nopre rfl ?_; (repeat (refine U_stBN hp rfl rfl rfl rfl ?_; intro w hp; refine ops_run nopre rfl ?_))
   refine h_loop [3, 4, 9, 10, 45, 46, 47, 51, 52, 53] (fun (j : Nat) => [(3, .slice a L.length c), (4, .slice d ((L.take i).filter (prmC m b)).length e), (9, .pointer (some ⟨b9, 0, none⟩)), (10, .bool (!(L.take j).any fun d => inC d (L.getD i default))), (45, .slice a L.length c), (46, .int .i64 L.length), (47, .int .i64 (i : Int)), (51, .slice a L.length c), (52, .int .i64 L.length), (53, .int .i64 (j : Int))])
    (fun j w' => j ≤ L.length ∧ Hp w0 w' [rB b9 87 (eII (L.getD i default)), rO 87 2 eII d e ((L.take i).filter (prmC m b)), rO 87 2 eII a c L]) (fun j => L.length - j) 0 rfl ⟨by omega, hp⟩ ?_
   clear hp
   rintro j w3 ⟨hj, hp⟩ IH2 C3
   refine h_run rfl ?_; skip
   refine h_cond_dec (fun hlt3 => ?_) (fun hlt3 => ?_)
   ·have hlt3' : j < L.length := by omega
    have hs := any_snoc (p := fun d => inC d (L.getD i default)) hlt3'
    have key : ∀ w, Hp w0 w [rB b9 87 (eII (L.getD i default)), rO 87 2 eII d e ((L.take i).filter (prmC m b)), rO 87 2 eII a c L] → Hp w0 w [rB b9 87 (eII (L.getD i default)), rO 87 2 eII d e ((L.take i).filter (prmC m b)), rO 87 2 eII a c L] := fun _ h => h
    have kno : inC (L.getD j default) (L.getD i default) = false → (!(L.take (j + 1)).any fun d => inC d (L.getD i default)) = (!(L.take j).any fun d => inC d (L.getD i default)) := fun h => by rw [hs, h, Bool.or_false]
    have kyes : inC (L.getD j default) (L.getD i default) = true → (!(L.take (j + 1)).any fun d => inC d (L.getD i default)) = false := fun h => by rw [hs, h, Bool.or_true]; rfl
    have hin : inC (L.getD j default) (L.getD i default) = (decide (L.getD j default ≠ L.getD i default) && (decide (bits .andNot .i64 (L.getD j default).1 (L.getD i default).1 = 0) && decide (bits .and .i64 (L.getD i default).2 (L.getD j default).1 = (L.getD j default).2))) := rfl
    have hext : L.getD j default = L.getD i default ↔ (L.getD j default).1 = (L.getD i default).1 ∧ (L.getD j default).2 = (L.getD i default).2 := Prod.ext_iff
    refine h_cond_t rfl rfl ?_; (repeat (refine H_ldEN hp rfl (by omega) rfl rfl ?_))
    (first | refine H_box hp ?_ | refine H_alloc hp rfl ?_); intro w b12 hx hp; refine ops_run nopre rfl ?_; (repeat (first | (refine gLoad ?_; refine H_ldB hp rfl rfl ?_) | (refine gStore ?_; refine U_stBN hp rfl rfl rfl rfl ?_; intro w hp; refine ops_run nopre rfl ?_)))
    refine h_guard_by (fun hd1 => ?_) (fun hd1 => ?_); all_goals (rw [hd1]; (first | replace hd1 := of_decide_eq_true hd1 | replace hd1 := of_decide_eq_false hd1 | skip); (repeat (first | (refine gGuard ?_; first | refine h_guard_y rfl nopre rfl ?_ | refine h_guard_n rfl nopre rfl ?_) | (refine gLoad ?_; refine H_ldB hp rfl rfl ?_))))
    ·have hne1 : L.getD j default ≠ L.getD i default := fun he => by rw [he] at hd1; simp at hd1
     refine h_guard_by (fun hd2 => ?_) (fun hd2 => ?_); all_goals (rw [hd2]; (first | replace hd2 := of_decide_eq_true hd2 | replace hd2 := of_decide_eq_false hd2 | skip); (repeat (first | (refine gGuard ?_; first | refine h_guard_y rfl nopre rfl ?_ | refine h_guard_n rfl nopre rfl ?_) | (refine gLoad ?_; refine H_ldB hp rfl rfl ?_))))
     ·refine h_cond_dec (fun hd3 => ?_) (fun hd3 => ?_)
      ·have hin' : inC (L.getD j default) (L.getD i default) = true := by rw [hin, decide_eq_true hne1, decide_eq_true hd2, decide_eq_true hd3]; rfl
       refine h_cond_t rfl rfl ?_; skip
       exact IH2 (j + 1) _ _ _ (by omega) (by rw [kyes hin']; rfl) ⟨by omega, hp.drop⟩
      ·have hin' : inC (L.getD j default) (L.getD i default) = false := by rw [hin, decide_eq_false hd3]; simp
       refine h_cond_f rfl rfl ?_; skip
       exact IH2 (j + 1) _ _ _ (by omega) (by rw [kno hin']; rfl) ⟨by omega, hp.drop⟩
     ·have hin' : inC (L.getD j default) (L.getD i default) = false := by rw [hin, decide_eq_false hd2]; simp
      refine h_cond_f rfl rfl ?_; skip
      exact IH2 (j + 1) _ _ _ (by omega) (by rw [kno hin']; rfl) ⟨by omega, hp.drop⟩
    ·have heq : L.getD j default = L.getD i default := hext.2 (by simpa using hd1)
     have hin' : inC (L.getD j default) (L.getD i default) = false := by rw [hin, decide_eq_false (fun h => h heq)]; rfl
     refine h_cond_f rfl rfl ?_; skip
     exact IH2 (j + 1) _ _ _ (by omega) (by rw [kno hin']; rfl) ⟨by omega, hp.drop⟩
   ·obtain rfl : j = L.length := by omega
    rw [List.take_length, ← hprm]
    refine h_cond_f rfl rfl ?_; skip
    refine h_cond_b (fun hb => ?_) (fun hb => ?_)
    ·refine h_cond_t rfl rfl ?_; (repeat (refine H_ldB hp rfl rfl ?_))
     refine H_lit hp eII [L.getD i default] rfl rfl rfl rfl (s := 2) rfl (by decide) (by infer_instance) (by rfl) (by rfl) (by rfl) (by decide) ?_; intro w b82 hx hp; refine ops_run nopre rfl ?_; skip
     refine U_append hp rfl rfl rfl rfl rfl rfl rfl (by decide) rfl (by first | omega | (simp only [List.length_append, List.length_cons, List.length_nil, List.length_take, List.length_drop, List.length_set, List.length_replicate, List.length_map]; omega)) rfl rfl ?_; intro d' e' w hp hnil; refine ops_run nopre rfl ?_; skip
     refine IH (i + 1) d' e' _ _ _ (by omega) (by rw [filt_yes hlt2' hb]; rfl) ⟨by omega, ?_⟩
     rw [filt_yes hlt2' hb]
     exact (hp.f3.f3).tk 2
    ·refine h_cond_f rfl rfl ?_; skip
     refine IH (i + 1) d e _ _ _ (by omega) (by rw [filt_no hlt2' hb]; rfl) ⟨by omega, ?_⟩
     rw [filt_no hlt2' hb]
     exact hp.drop
  ·obtain rfl : i = L.length := by omega
   rw [List.take_length, ← hpr] at hp ⊢
   refine h_cond_f rfl rfl ?_; (repeat (refine R_ret ?_))
   exact ⟨d, e, rfl, hp.tk 1⟩
theorem implMinimalCover_h (m : Nat) (b : Int) (w0 : World) (hm : m ≤ 4) (h0 : 0 ≤ b) (h1 : b < 2 ^ 2 ^ m) :
  Ret Tryz.prog 83 [.agg ⟨[.int .i64 (m : Int), .int .i64 b]⟩] w0 (fun v w => ∃ a c, v = .slice a (minL m b).length c ∧ Hp w0 w [rO 87 2 eII a c (minL m b)]) := by
 have hp81 := Nat.le_trans (primL_sub m b).length_le (candL_len hm b)
 refine enter Tryz.S83ok _ _ rfl rfl (by show _ ≤ _; simp only [List.length]; decide) (fun C => ?_); have hp := Hp.nil w0; refine h_run rfl ?_; skip; (first | refine H_box hp ?_ | refine H_alloc hp rfl ?_); intro w b1 hx hp; refine ops_run nopre rfl ?_; (repeat (refine H_ldB hp rfl rfl ?_))
 refine h_call rfl Tryz.func121 (by kernel_rfl) rfl (implTableOk_h m b _ hm h0 h1) ?_; rintro _ w ⟨rfl, hx⟩; have hp := hp.ext hx; refine ops_run nopre rfl ?_; skip
 refine h_cond_f rfl rfl ?_; (repeat (refine H_ldB hp rfl rfl ?_))
 refine h_call rfl Tryz.func122 (by kernel_rfl) rfl (implPrimeCubes_h m b _ hm h0 h1) ?_; rintro _ w ⟨a, c, rfl, hq⟩; have hx := hq.x; have hp := hp.call1 hq; refine ops_run nopre rfl ?_; skip
 refine h_loop4 [1, 3, 4] (fun (k : Nat) (L : List (Int × Int)) (a : Option Addr) (c : Nat) => [(1, .pointer (some ⟨b1, 0, none⟩)), (3, .slice a L.length c), (4, .int .i64 ((k : Int) - 1))])
  (fun k L a c w' => (k ≤ L.length ∧ L.Sublist (primL m b) ∧ mcF m b k L = minL m b) ∧ Hp w0 w' [rO 87 2 eII a c L, rB b1 49 [.int .i64 (m : Int), .int .i64 b]]) (fun k _ _ _ => k) (primL m b).length (primL m b) a c rfl ⟨⟨Nat.le_refl _, List.Sublist.refl _, rfl⟩, hp⟩ ?_
 clear hp
 rintro k L a c w1 ⟨⟨hk, hsub, hmc⟩, hp⟩ IH C
 have hl81 := Nat.le_trans hsub.length_le hp81
 have hcap := hp.own.cap
 rcases k with _ | k
 ·rw [show (((0 : Nat) : Int) - 1) = -1 from rfl]
  refine h_run rfl ?_; skip
  refine h_cond_f rfl rfl ?_; (repeat (refine R_ret ?_))
  have e : L = minL m b := hmc
  rw [e] at hp ⊢
  exact ⟨a, c, rfl, hp.tk 1⟩
 ·rw [show (((k + 1 : Nat) : Int) - 1) = (k : Int) by omega]
  refine h_run rfl ?_; skip
  refine h_cond_t (decide_eq_true (by omega)) rfl ?_; skip
  have hT : RdH w0 [rO 87 2 eII a c L, rB b1 49 [.int .i64 (m : Int), .int .i64 b]] (subA a c Tryz.ti87.size 0) 2 eII (L.take k) := own_take (s := 2) (by omega)
  have hD : RdH w0 [rO 87 2 eII a c L, rB b1 49 [.int .i64 (m : Int), .int .i64 b]] (subA a c Tryz.ti87.size ((k : Int) + 1).toNat) 2 eII (L.drop (k + 1)) := own_drop (s := 2) (by omega)
  have hTl : (L.take k).length = k := by rw [List.length_take]; omega
  have hDl : (L.drop (k + 1)).length = L.length - (k + 1) := List.length_drop
  refine N_draw hp (by kernel_rfl) (by kernel_rfl) rfl rfl ?_; skip
  refine N_lit eII ([] : List (Int × Int)) rfl rfl rfl rfl (s := 2) rfl (by decide) (by infer_instance) (by rfl) (by rfl) (by rfl) (by decide) ?_; intro b18; refine N_ops rfl rfl ?_; skip
  refine N_append (Y := L.take k) rfl hTl rfl rfl rfl rfl rfl (by decide) rfl (by simp only [List.length_nil]; omega) rfl rfl (fun hq => Bool.noConfusion (hq.symm.trans (by kernel_rfl : flagAt _ _ = false))) ?_; intro a2 c2 hnil; refine N_ops rfl rfl ?_; skip
  refine N_append (Y := L.drop (k + 1)) rfl hDl rfl rfl rfl rfl rfl (by decide) rfl (by simp only [List.nil_append]; omega) rfl rfl (fun hq => Bool.noConfusion (hq.symm.trans (by kernel_rfl : flagAt _ _ = false))) ?_; intro a3 c3 hnil; refine N_ops rfl rfl ?_; skip
  refine N_end ?_; intro w hp C; refine h_run rfl ?_; skip
  have el : [] ++ L.take k ++ L.drop (k + 1) = lessC L k := by rw [List.nil_append]; rfl
  rw [el] at hp ⊢
  have hsub2 := (lessC_sub L k).trans hsub
  have hcov := cover_sub hm hsub2
  have hll := lessC_len (L := L) (k := k) (by omega)
  refine N_draw hp (by kernel_rfl) (by kernel_rfl) rfl rfl ?_; (repeat (refine N_ldB rfl rfl rfl ?_))
  refine N_call Tryz.func123 (by kernel_rfl) rfl (fun F w hp => ?_); refine Ret.mono (implCoverTable_h m hm a3 c3 _ (lessC L k) rfl hcov _ hp.pre.rd) ?_; rintro _ w ⟨rfl, hx⟩; have hp := hp.ext hx; refine ⟨fun _ => hp.sub (by (repeat (first | exact List.sublist_append_left _ _ | apply List.Sublist.cons))), _, hp, ?_⟩; clear hp; refine N_ops rfl rfl ?_; (repeat (refine N_ldB rfl rfl rfl ?_))
  refine N_end ?_; intro w hp C; refine h_run rfl ?_; skip
  rw [mcF] at hmc
  by_cases hT2 : covT m (lessC L k) = b
  ·rw [if_pos hT2] at hmc
   refine h_cond_t (by rw [hT2]; simp) rfl ?_; skip
   exact IH k (lessC L k) a3 c3 _ _ _ (by omega) rfl ⟨⟨by omega, hsub2, hmc⟩, (hp.f2.f1).tk 2⟩
  ·rw [if_neg hT2] at hmc
   refine h_cond_f (by simp [hT2]) rfl ?_; skip
   exact IH k L a c _ _ _ (by omega) rfl ⟨⟨by omega, hsub, hmc⟩, hp.drop⟩
end Go.Proofs
end
