/- The contracts of the reference's functions on tables and covers; each under its stated conditions. -/
import Derived.Test.YtifjicajbgoamaaGreatIns
import Derived.Test.YtifjicajbgoamaaGreatRfLaw
set_option linter.all false
namespace Go.Xw
open Go.Proofs
theorem covG_less {L : List (Int × Int)} {k i : Nat} (hk : k < L.length) : covG (lessC L k) i = true ↔ ∃ q, q < L.length ∧ q ≠ k ∧ hasC (L.getD q default) i = true := by
 have hl := lessC_len hk
 rw [covG_iff]
 constructor
 ·rintro ⟨c, hc, hh⟩
  obtain ⟨q, hq, he⟩ := List.getElem_of_mem hc
  have e : (lessC L k).getD q default = c := by rw [List.getD_eq_getElem?_getD, List.getElem?_eq_getElem hq]; exact he
  rw [less_get hk] at e
  by_cases hqk : q < k
  ·rw [if_pos hqk] at e
   exact ⟨q, by omega, by omega, by rw [e]; exact hh⟩
  ·rw [if_neg hqk] at e
   exact ⟨q + 1, by omega, by omega, by rw [e]; exact hh⟩
 ·rintro ⟨q, hq, hne, hh⟩
  by_cases hqk : q < k
  ·have e := less_get (L := L) (k := k) (q := q) hk
   rw [if_pos hqk] at e
   exact ⟨_, by rw [← e]; exact getD_mem (by omega), hh⟩
  ·have e := less_get (L := L) (k := k) (q := q - 1) hk
   rw [if_neg (by omega), show q - 1 + 1 = q by omega] at e
   exact ⟨_, by rw [← e]; exact getD_mem (by omega), hh⟩
def pS (m : Nat) (t : Int) (c : Int × Int) : Bool := candC m t c && prmS m t c
theorem prim_S {m : Nat} (hm : m ≤ 4) (t : Int) : (allC m).filter (pS m t) = primL m t := by
 unfold primL
 have e : (candL m t).filter (prmC m t) = (candL m t).filter (prmS m t) := List.filter_congr fun c hc => prm_eq hm hc
 rw [e]
 unfold candL
 rw [List.filter_filter]
 refine List.filter_congr fun c _ => ?_
 unfold pS
 rw [Bool.and_comm]
theorem rowS_yes {p : Int × Int → Bool} {i j : Nat} (h : p ((i : Int), (j : Int)) = true) : (rowC i (j + 1)).filter p = (rowC i j).filter p ++ [((i : Int), (j : Int))] := by
 rw [rowC_snoc, List.filter_append, List.filter_cons_of_pos h, List.filter_nil]
theorem rowS_no {p : Int × Int → Bool} {i j : Nat} (h : p ((i : Int), (j : Int)) = false) : (rowC i (j + 1)).filter p = (rowC i j).filter p := by
 rw [rowC_snoc, List.filter_append, List.filter_cons_of_neg (by rw [h]; decide), List.filter_nil, List.append_nil]
theorem rowsS_len (m : Nat) (hm : m ≤ 4) (p : Int × Int → Bool) (i : Nat) (hi : i ≤ 2 ^ m) : ((rowsC m i).filter p).length ≤ 256 := by
 have h16 := pw_4 hm
 refine Nat.le_trans (List.length_filter_le _ _) ?_
 have h : ∀ i, (rowsC m i).length = i * 2 ^ m := fun i => by
  induction i with
  | zero => simp [rowsC]
  | succ i ih => rw [rowsC_snoc, List.length_append, ih, Nat.add_mul]; simp [rowC]
 rw [h]
 have : i * 2 ^ m ≤ 16 * 16 := Nat.mul_le_mul (by omega) h16
 omega
theorem rowjS_len (i j : Nat) (p : Int × Int → Bool) : ((rowC i j).filter p).length ≤ j := by
 refine Nat.le_trans (List.length_filter_le _ _) ?_
 simp [rowC]
theorem pow_natS (m : Nat) : (2 : Int) ^ m = ((2 ^ m : Nat) : Int) := pw_nat m
theorem sh_mS {m : Nat} (h : m ≤ 4) : ((m : Nat) : Int) ≤ ((IntKind.i64.bits : Nat) : Int) ∧ (2 : Int) ^ ((m : Nat) : Int).toNat = ((2 ^ m : Nat) : Int) ∧ 2 ^ m ≤ 16 := ⟨by show ((m : Nat) : Int) ≤ 64; omega, by rw [Int.toNat_natCast]; exact pow_natS m, pw_4 h⟩
theorem sh_bS {m : Nat} (h : m ≤ 4) : (1 : Int) ≤ 2 ^ ((m : Nat) : Int).toNat ∧ (2 : Int) ^ ((m : Nat) : Int).toNat ≤ 16 := by
 obtain rfl | rfl | rfl | rfl | rfl : m = 0 ∨ m = 1 ∨ m = 2 ∨ m = 3 ∨ m = 4 := by omega
 all_goals decide
theorem pow_16S {i : Nat} (h : i < 16) : (1 : Int) ≤ 2 ^ i ∧ (2 : Int) ^ i ≤ 65536 := by
 have h1 := Nat.pow_le_pow_right (show 0 < 2 by decide) (show i ≤ 16 by omega)
 have h2 := Nat.pow_pos (n := i) (show 0 < 2 by decide)
 have h3 : 2 ^ 16 = 65536 := by decide
 rw [pow_natS]
 omega
theorem sh_iS {i : Nat} (h : i < 16) : ((i : Nat) : Int) ≤ ((IntKind.i64.bits : Nat) : Int) ∧ (2 : Int) ^ ((i : Nat) : Int).toNat = 2 ^ i ∧ (1 : Int) ≤ 2 ^ i ∧ (2 : Int) ^ i ≤ 65536 := ⟨by show ((i : Nat) : Int) ≤ 64; omega, by rw [Int.toNat_natCast], (pow_16S h).1, (pow_16S h).2⟩
theorem sh_mmS {m : Nat} (h : m ≤ 4) : (1 * 2 ^ ((m : Nat) : Int).toNat : Int) ≤ ((IntKind.i64.bits : Nat) : Int) ∧ (2 : Int) ^ (1 * 2 ^ ((m : Nat) : Int).toNat : Int).toNat = 2 ^ 2 ^ m ∧ (1 : Int) ≤ 2 ^ 2 ^ m ∧ (2 : Int) ^ 2 ^ m ≤ 65536 := by
 obtain ⟨_, h2, h3⟩ := sh_mS h
 refine ⟨?_, ?_, ?_⟩
 ·rw [Int.one_mul, h2]; show ((2 ^ m : Nat) : Int) ≤ 64; omega
 ·rw [Int.one_mul, h2, Int.toNat_natCast]
 ·obtain rfl | rfl | rfl | rfl | rfl : m = 0 ∨ m = 1 ∨ m = 2 ∨ m = 3 ∨ m = 4 := by omega
  all_goals decide
end Go.Xw
namespace Go.Proofs
open Go.Xw
set_option maxRecDepth 100000
set_option maxHeartbeats 4000000
attribute [local irreducible] Holds elemAddr
theorem l02Full_h (m : Nat) (w0 : World) (hm : m ≤ 4) : Ret Tryz.prog 69 [.int .i64 (m : Int)] w0 (fun v w => v = .int .i64 (2 ^ 2 ^ m - 1) ∧ Ext w0 w) := by
 obtain ⟨s1, s2, s3⟩ := sh_mS hm
 obtain ⟨t1, t2, t3, t4⟩ := sh_mmS hm
 obtain ⟨u1, u2⟩ := sh_bS hm
 refine enter Tryz.S69ok _ _ rfl rfl (by show _ ≤ _; simp only [List.length]; decide) (fun C => ?_); have hp := Hp.nil w0; refine h_run rfl ?_; (repeat (refine R_ret ?_))
 refine ⟨?_, hp.x⟩
 rw [t2, Int.one_mul]
theorem specTableOk_h (m : Nat) (b : Int) (w0 : World) (hm : m ≤ 4) (h0 : 0 ≤ b) (h1 : b < 2 ^ 2 ^ m) : Ret Tryz.prog 67 [.agg ⟨[.int .i64 (m : Int), .int .i64 b]⟩] w0 (fun v w => v = .bool true ∧ Ext w0 w) := by
 refine enter Tryz.S67ok _ _ rfl rfl (by show _ ≤ _; simp only [List.length]; decide) (fun C => ?_); have hp := Hp.nil w0; refine h_run rfl ?_; skip; (first | refine H_box hp ?_ | refine H_alloc hp rfl ?_); intro w b1 hx hp; refine ops_run nopre rfl ?_; skip
 refine N_draw hp (by kernel_rfl) (by kernel_rfl) rfl rfl ?_; (repeat (refine N_ldB rfl rfl rfl ?_))
 refine N_call Tryz.func95 (by kernel_rfl) rfl (fun F w hp => ?_); refine Ret.mono ((l01In_h (m : Int) 0 4 _).yes (by omega)) ?_; rintro _ w ⟨rfl, hx⟩; have hp := hp.ext hx; refine ⟨fun _ => hp.sub (by (repeat (first | exact List.sublist_append_left _ _ | apply List.Sublist.cons))), _, hp, ?_⟩; clear hp; refine N_ops rfl rfl ?_; (repeat (first | (refine nGuard ?_; refine N_guard_y rfl rfl rfl ?_) | (refine nLoad ?_; refine N_ldB rfl rfl rfl ?_)))
 rw [decide_eq_true h0]
 (repeat (first | (refine nGuard ?_; refine N_guard_y rfl rfl rfl ?_) | (refine nLoad ?_; refine N_ldB rfl rfl rfl ?_)))
 refine N_call Tryz.func69 (by kernel_rfl) rfl (fun F w hp => ?_); refine Ret.mono (l02Full_h m _ hm) ?_; rintro _ w ⟨rfl, hx⟩; have hp := hp.ext hx; refine ⟨fun _ => hp.sub (by (repeat (first | exact List.sublist_append_left _ _ | apply List.Sublist.cons))), _, hp, ?_⟩; clear hp; refine N_ops rfl rfl ?_; (repeat (refine N_guard_y rfl rfl rfl ?_))
 refine N_end ?_; intro w hp C; refine h_run rfl ?_; (repeat (refine R_ret ?_))
 exact ⟨by rw [decide_eq_true (show b ≤ 2 ^ 2 ^ m - 1 by omega)], hp.x⟩
theorem specTableNot_h (m : Nat) (b : Int) (w0 : World) (hm : m ≤ 4) (h0 : 0 ≤ b) (h1 : b < 2 ^ 2 ^ m) : Ret Tryz.prog 29 [.agg ⟨[.int .i64 (m : Int), .int .i64 b]⟩] w0 (fun v w => v = .agg ⟨eII ((m : Int), notT m b)⟩ ∧ Ext w0 w) := by
 obtain ⟨t1, t2, t3, t4⟩ := sh_mmS hm
 refine enter Tryz.S29ok _ _ rfl rfl (by show _ ≤ _; simp only [List.length]; decide) (fun C => ?_); have hp := Hp.nil w0; refine h_run rfl ?_; skip; (first | refine H_box hp ?_ | refine H_alloc hp rfl ?_); intro w b1 hx hp; refine ops_run nopre rfl ?_; skip; (first | refine H_box hp ?_ | refine H_alloc hp rfl ?_); intro w b2 hx hp; refine ops_run nopre rfl ?_; (repeat (refine H_ldB hp rfl rfl ?_))
 refine h_call rfl Tryz.func67 (by kernel_rfl) rfl (specTableOk_h m b _ hm h0 h1) ?_; rintro _ w ⟨rfl, hx⟩; have hp := hp.ext hx; refine ops_run nopre rfl ?_; skip
 refine h_cond_f rfl rfl ?_; skip
 refine N_draw hp (by kernel_rfl) (by kernel_rfl) rfl rfl ?_; (repeat (refine N_ldB rfl rfl rfl ?_))
 refine N_call Tryz.func69 (by kernel_rfl) rfl (fun F w hp => ?_); refine Ret.mono (l02Full_h m _ hm) ?_; rintro _ w ⟨rfl, hx⟩; have hp := hp.ext hx; refine ⟨fun _ => hp.sub (by (repeat (first | exact List.sublist_append_left _ _ | apply List.Sublist.cons))), _, hp, ?_⟩; clear hp; refine N_ops rfl rfl ?_; (repeat (first | (refine nLoad ?_; refine N_ldB rfl rfl rfl ?_) | (refine nStore ?_; refine N_stBN rfl rfl rfl rfl (by kernel_rfl) ?_; refine N_ops rfl rfl ?_)))
 refine N_end ?_; intro w hp C; refine h_run rfl ?_; (repeat (refine R_ret1 hp rfl ?_))
 exact ⟨rfl, hp.x⟩
theorem l03Implicant_h (m : Nat) (b : Int) (c : Int × Int) (w0 : World) (hm : m ≤ 4) :
  Ret Tryz.prog 111 [.agg ⟨[.int .i64 (m : Int), .int .i64 b]⟩, .agg ⟨eII c⟩] w0 (fun v w => v = .bool (impC m b c) ∧ Ext w0 w) := by
 obtain ⟨s1, s2, s3⟩ := sh_mS hm
 refine enter Tryz.S111ok _ _ rfl rfl (by show _ ≤ _; simp only [List.length]; decide) (fun C => ?_); have hp := Hp.nil w0; refine h_run rfl ?_; skip; (first | refine H_box hp ?_ | refine H_alloc hp rfl ?_); intro w b2 hx hp; refine ops_run nopre rfl ?_; skip; (first | refine H_box hp ?_ | refine H_alloc hp rfl ?_); intro w b3 hx hp; refine ops_run nopre rfl ?_; skip
 refine h_loop [2, 3, 5] (fun (i : Nat) => [(2, .pointer (some ⟨b2, 0, none⟩)), (3, .pointer (some ⟨b3, 0, none⟩)), (5, .int .i64 (i : Int))])
  (fun i w' => (i ≤ 2 ^ m ∧ ∀ q, q < i → hasC c q = true → bitI b q = 1) ∧ Hp w0 w' [rB b3 87 (eII c), rB b2 49 [.int .i64 (m : Int), .int .i64 b]]) (fun i => 2 ^ m - i) 0 rfl ⟨⟨Nat.zero_le _, fun q hq => by omega⟩, hp⟩ ?_
 clear hp
 rintro i w1 ⟨⟨hi, hall⟩, hp⟩ IH C
 refine h_run rfl ?_; (repeat (refine H_ldB hp rfl rfl ?_))
 refine h_cond_dec (fun hlt => ?_) (fun hlt => ?_)
 ·have hlt' : i < 2 ^ m := by omega
  obtain ⟨t1, t2, t3, t4⟩ := sh_iS (show i < 16 by omega)
  have hb01 := bitI_01 b i
  unfold is01 at hb01
  refine h_cond_t rfl rfl ?_; (repeat (refine H_ldB hp rfl rfl ?_))
  refine h_guard_by (fun hc => ?_) (fun hc => ?_); all_goals (rw [hc]; (first | replace hc := of_decide_eq_true hc | replace hc := of_decide_eq_false hc | skip); (repeat (first | (refine gGuard ?_; first | refine h_guard_y rfl nopre rfl ?_ | refine h_guard_n rfl nopre rfl ?_) | (refine gLoad ?_; refine H_ldB hp rfl rfl ?_))))
  ·have hh : hasC c i = true := decide_eq_true hc
   refine h_cond_dec (fun hz => ?_) (fun hz => ?_)
   ·have hz' : bitI b i = 0 := hz
    refine h_cond_t rfl rfl ?_; (repeat (refine R_ret ?_))
    have hf : impC m b c = false := by
     cases h : impC m b c
     ·rfl
     ·have := impC_iff.1 h i hlt' hh; omega
    exact ⟨by rw [hf], hp.x⟩
   ·have hz' : ¬ bitI b i = 0 := hz
    refine h_cond_f rfl rfl ?_; skip
    refine IH (i + 1) _ _ _ (by omega) rfl ⟨⟨by omega, fun q hq => ?_⟩, hp⟩
    by_cases hqi : q = i
    ·rw [hqi]; exact fun _ => hb01.resolve_left hz'
    ·exact hall q (by omega)
  ·have hh : hasC c i = false := decide_eq_false hc
   refine h_cond_f rfl rfl ?_; skip
   refine IH (i + 1) _ _ _ (by omega) rfl ⟨⟨by omega, fun q hq => ?_⟩, hp⟩
   by_cases hqi : q = i
   ·rw [hqi, hh]; exact fun h => by cases h
   ·exact hall q (by omega)
 ·obtain rfl : i = 2 ^ m := by omega
  refine h_cond_f rfl rfl ?_; (repeat (refine R_ret ?_))
  exact ⟨by rw [impC_iff.2 hall], hp.x⟩
theorem l03Table_h (m : Nat) (hm : m ≤ 4) (ca : Option Addr) (cc n : Nat) (K : List (Int × Int)) (hn : K.length = n) (hK : K.length ≤ 1000) (s : Nat) (hsk : s < K.length) (w0 : World) (hR : Rd w0 ca 2 eII K) :
  Ret Tryz.prog 68 [.int .i64 (m : Int), .slice ca n cc, .int .i64 (s : Int)] w0 (fun v w => v = .agg ⟨eII ((m : Int), covT m (lessC K s))⟩ ∧ Ext w0 w) := by
 subst hn
 obtain ⟨s1, s2, s3⟩ := sh_mS hm
 refine enter Tryz.S68ok _ _ rfl rfl (by show _ ≤ _; simp only [List.length]; decide) (fun C => ?_); have hp := Hp.nil w0; refine h_run rfl ?_; skip; (first | refine H_box hp ?_ | refine H_alloc hp rfl ?_); intro w b6 hx hp; refine ops_run nopre rfl ?_; skip; (first | refine H_box hp ?_ | refine H_alloc hp rfl ?_); intro w b7 hx hp; refine ops_run nopre rfl ?_; (repeat (refine U_stBN hp rfl rfl rfl rfl ?_; intro w hp; refine ops_run nopre rfl ?_))
 refine h_loop [0, 1, 2, 6, 7, 8] (fun (i : Nat) => [(0, .int .i64 (m : Int)), (1, .slice ca K.length cc), (2, .int .i64 (s : Int)), (6, .pointer (some ⟨b6, 0, none⟩)), (7, .pointer (some ⟨b7, 0, none⟩)), (8, .int .i64 (i : Int))])
  (fun i w' => i ≤ 2 ^ m ∧ Hp w0 w' [rB b7 49 [.int .i64 (m : Int), .int .i64 (bsB (covG (lessC K s)) i)], rB b6 49 (cellsV Tryz.ti49.zero)]) (fun i => 2 ^ m - i) 0 rfl ⟨Nat.zero_le _, hp⟩ ?_
 clear hp
 rintro i w1 ⟨hi, hp⟩ IH C
 refine h_run rfl ?_; skip
 refine h_cond_dec (fun hlt => ?_) (fun hlt => ?_)
 ·have hlt' : i < 2 ^ m := by omega
  obtain ⟨t1, t2, t3, t4⟩ := sh_iS (show i < 16 by omega)
  have htl := bsB_lt (covG (lessC K s)) i
  refine h_cond_t rfl rfl ?_; skip
  refine h_loop [0, 1, 2, 6, 7, 8, 9] (fun (k : Nat) => [(0, .int .i64 (m : Int)), (1, .slice ca K.length cc), (2, .int .i64 (s : Int)), (6, .pointer (some ⟨b6, 0, none⟩)), (7, .pointer (some ⟨b7, 0, none⟩)), (8, .int .i64 (i : Int)), (9, .int .i64 (k : Int))])
   (fun k w' => (k ≤ K.length ∧ ∀ q, q < k → q ≠ s → hasC (K.getD q default) i = false) ∧ Hp w0 w' [rB b7 49 [.int .i64 (m : Int), .int .i64 (bsB (covG (lessC K s)) i)], rB b6 49 (cellsV Tryz.ti49.zero)]) (fun k => K.length - k) 0 rfl ⟨⟨by omega, fun q hq => by omega⟩, hp⟩ ?_
  clear hp
  rintro k w2 ⟨⟨hk, hall⟩, hp⟩ IH2 C2
  refine h_run rfl ?_; skip
  refine h_cond_dec (fun hlt2 => ?_) (fun hlt2 => ?_)
  ·have hlt2' : k < K.length := by omega
   have hne : ca ≠ none := nn_of hp (X := K) (by omega)
   refine h_cond_t rfl rfl ?_; skip
   refine D_draw hp (by kernel_rfl) (by kernel_rfl) rfl rfl ?_; intro w hx hp; have hs := hp; skip
   refine h_guard_by (fun h1 => ?_) (fun h1 => ?_); all_goals (rw [h1]; (first | replace h1 := of_decide_eq_true h1 | replace h1 := of_decide_eq_false h1 | skip); (repeat (first | (refine gGuard ?_; first | refine h_guard_yd rfl rfl rfl ?_ | refine h_guard_nd rfl rfl rfl ?_) | (refine gLoad ?_; refine D_ldFN rfl (by omega) rfl rfl rfl ?_))))
   ·have hks : k ≠ s := by omega
    refine h_cond_dec (fun hc => ?_) (fun hc => ?_)
    ·have hh : hasC (K.getD k default) i = true := decide_eq_true hc
     have hcov : covG (lessC K s) i = true := (covG_less hsk).2 ⟨k, hlt2', hks, hh⟩
     have e : bsB (covG (lessC K s)) i + 1 * 2 ^ ((i : Nat) : Int).toNat = bsB (covG (lessC K s)) (i + 1) := by
      rw [t2, bsB, hcov]; rfl
     refine h_cond_t rfl rfl ?_; skip
     refine D_draw hp (by kernel_rfl) (by kernel_rfl) rfl rfl ?_; intro w hx hp; have hs := hp; (repeat (first | (refine gLoad ?_; refine D_ldB rfl rfl rfl ?_) | (refine gStore ?_; refine V_stB hp rfl rfl rfl rfl (by kernel_rfl) ?_; intro w hp; refine D_ops rfl rfl ?_)))
     have hp : Hp w0 w [rB b7 49 [.int .i64 (m : Int), .int .i64 (bsB (covG (lessC K s)) i + 1 * 2 ^ ((i : Nat) : Int).toNat)], rB b6 49 (cellsV Tryz.ti49.zero)] := hp
     rw [e] at hp
     exact IH (i + 1) _ _ _ (by omega) rfl ⟨by omega, hp⟩
    ·have hh : hasC (K.getD k default) i = false := decide_eq_false hc
     refine h_cond_f rfl rfl ?_; skip
     refine IH2 (k + 1) _ _ _ (by omega) rfl ⟨⟨by omega, fun q hq hqs => ?_⟩, hp⟩
     by_cases hqk : q = k
     ·rw [hqk]; exact hh
     ·exact hall q (by omega) hqs
   ·have hks : k = s := by omega
    skip
    refine h_cond_f rfl rfl ?_; skip
    refine IH2 (k + 1) _ _ _ (by omega) rfl ⟨⟨by omega, fun q hq hqs => hall q (by omega) hqs⟩, hp⟩
  ·obtain rfl : k = K.length := by omega
   have hcov : covG (lessC K s) i = false := by
    cases h : covG (lessC K s) i
    ·rfl
    ·obtain ⟨q, q1, q2, q3⟩ := (covG_less hsk).1 h
     rw [hall q q1 q2] at q3; cases q3
   have e : bsB (covG (lessC K s)) (i + 1) = bsB (covG (lessC K s)) i := by rw [bsB, hcov]; simp
   refine h_cond_f rfl rfl ?_; skip
   refine IH (i + 1) _ _ _ (by omega) rfl ⟨by omega, ?_⟩
   rw [e]
   exact hp
 ·obtain rfl : i = 2 ^ m := by omega
  refine h_cond_f rfl rfl ?_; (repeat (first | (refine gLoad ?_; refine H_ldB hp rfl rfl ?_) | (refine gStore ?_; refine U_stBN hp rfl rfl rfl rfl ?_; intro w hp; refine ops_run nopre rfl ?_) | (refine gRetc ?_; refine R_ret1 hp rfl ?_)))
  exact ⟨rfl, hp.x⟩
theorem specPrimeCubes_h (m : Nat) (b : Int) (w0 : World) (hm : m ≤ 4) (h0 : 0 ≤ b) (h1 : b < 2 ^ 2 ^ m) :
  Ret Tryz.prog 66 [.agg ⟨[.int .i64 (m : Int), .int .i64 b]⟩] w0 (fun v w => ∃ a c, v = .slice a (primL m b).length c ∧ Hp w0 w [rO 87 2 eII a c (primL m b)]) := by
 obtain ⟨s1, s2, s3⟩ := sh_mS hm
 obtain ⟨u1, u2⟩ := sh_bS hm
 refine enter Tryz.S66ok _ _ rfl rfl (by show _ ≤ _; simp only [List.length]; decide) (fun C => ?_); have hp := Hp.nil w0; refine h_run rfl ?_; skip; (first | refine H_box hp ?_ | refine H_alloc hp rfl ?_); intro w b1 hx hp; refine ops_run nopre rfl ?_; skip
 refine H_lit hp eII ([] : List (Int × Int)) rfl rfl rfl rfl (s := 2) rfl (by decide) (by infer_instance) (by rfl) (by rfl) (by rfl) (by decide) ?_; intro w b9 hx hp; refine ops_run nopre rfl ?_; (repeat (refine H_ldB hp rfl rfl ?_))
 refine h_call rfl Tryz.func67 (by kernel_rfl) rfl (specTableOk_h m b _ hm h0 h1) ?_; rintro _ w ⟨rfl, hx⟩; have hp := hp.ext hx; refine ops_run nopre rfl ?_; skip
 refine h_cond_f rfl rfl ?_; skip
 refine h_loop3 [1, 3, 4] (fun (i : Nat) (a : Option Addr) (c : Nat) => [(1, .pointer (some ⟨b1, 0, none⟩)), (3, .slice a ((rowsC m i).filter (pS m b)).length c), (4, .int .i64 (i : Int))])
  (fun i a c w' => i ≤ 2 ^ m ∧ Hp w0 w' [rO 87 2 eII a c ((rowsC m i).filter (pS m b)), rB b1 49 [.int .i64 (m : Int), .int .i64 b]]) (fun i _ _ => 2 ^ m - i) 0 _ _ rfl ⟨Nat.zero_le _, hp⟩ ?_
 clear hp
 rintro i a c w1 ⟨hi, hp⟩ IH C
 have hrl := rowsS_len m hm (pS m b) i hi
 refine h_run rfl ?_; (repeat (refine H_ldB hp rfl rfl ?_))
 refine h_cond_dec (fun hlt => ?_) (fun hlt => ?_)
 ·have hlt' : i < 2 ^ m := by omega
  refine h_cond_t rfl rfl ?_; skip
  refine h_loop3 [1, 3, 4, 5] (fun (j : Nat) (a : Option Addr) (c : Nat) => [(1, .pointer (some ⟨b1, 0, none⟩)), (3, .slice a ((rowsC m i).filter (pS m b) ++ (rowC i j).filter (pS m b)).length c), (4, .int .i64 (i : Int)), (5, .int .i64 (j : Int))])
   (fun j a c w' => j ≤ 2 ^ m ∧ Hp w0 w' [rO 87 2 eII a c ((rowsC m i).filter (pS m b) ++ (rowC i j).filter (pS m b)), rB b1 49 [.int .i64 (m : Int), .int .i64 b]]) (fun j _ _ => 2 ^ m - j) 0 a c
   (by rw [show (rowC i 0).filter (pS m b) = [] from rfl, List.append_nil]; rfl) ⟨Nat.zero_le _, by rw [show (rowC i 0).filter (pS m b) = [] from rfl, List.append_nil]; exact hp⟩ ?_
  clear hp
  rintro j a c w2 ⟨hj, hp⟩ IH2 C2
  have hjl := rowjS_len i j (pS m b)
  refine h_run rfl ?_; (repeat (refine H_ldB hp rfl rfl ?_))
  refine h_cond_dec (fun hlt2 => ?_) (fun hlt2 => ?_)
  ·have hlt2' : j < 2 ^ m := by omega
   refine h_cond_t rfl rfl ?_; skip
   (first | refine H_box hp ?_ | refine H_alloc hp rfl ?_); intro w b6 hx hp; refine ops_run nopre rfl ?_; (repeat (refine U_stBN hp rfl rfl rfl rfl ?_; intro w hp; refine ops_run nopre rfl ?_))
   by_cases hok : bits .andNot .i64 (j : Int) (i : Int) = 0
   ·have hok' : okC ((i : Int), (j : Int)) = true := decide_eq_true hok
    refine h_guard_by (fun h => ?_) (fun h => ?_) <;> rw [h]
    ·exact absurd hok (of_decide_eq_true h)
    (repeat (first | (refine gGuard ?_; refine h_guard_y rfl nopre rfl ?_) | (refine gLoad ?_; refine H_ldB hp rfl rfl ?_)))
    refine h_call rfl Tryz.func111 (by kernel_rfl) rfl (l03Implicant_h m b ((i : Int), (j : Int)) _ hm) ?_; rintro _ w ⟨rfl, hx⟩; have hp := hp.ext hx; refine ops_run nopre rfl ?_; (repeat (refine h_guard_y rfl nopre rfl ?_))
    cases hc : impC m b ((i : Int), (j : Int))
    ·have hno : pS m b ((i : Int), (j : Int)) = false := by unfold pS candC; rw [hc, Bool.and_false, Bool.false_and]
     refine h_cond_t rfl rfl ?_; skip
     refine IH2 (j + 1) a c _ _ _ (by omega) (by rw [rowS_no hno]; rfl) ⟨by omega, ?_⟩
     rw [rowS_no hno]
     exact hp.drop
    ·have hcand : candC m b ((i : Int), (j : Int)) = true := by unfold candC; rw [hok', hc]; rfl
     refine h_cond_f rfl rfl ?_; skip
     refine h_loop [1, 3, 4, 5, 6, 7, 8] (fun (k : Nat) => [(1, .pointer (some ⟨b1, 0, none⟩)), (3, .slice a ((rowsC m i).filter (pS m b) ++ (rowC i j).filter (pS m b)).length c), (4, .int .i64 (i : Int)), (5, .int .i64 (j : Int)), (6, .pointer (some ⟨b6, 0, none⟩)), (7, .bool (!(List.range k).any fun q => decide (bitI (i : Int) q = 1) && impC m b (cutC ((i : Int), (j : Int)) q))), (8, .int .i64 (k : Int))])
      (fun k w' => k ≤ m ∧ Hp w0 w' [rB b6 87 [.int .i64 (i : Int), .int .i64 (j : Int)], rO 87 2 eII a c ((rowsC m i).filter (pS m b) ++ (rowC i j).filter (pS m b)), rB b1 49 [.int .i64 (m : Int), .int .i64 b]]) (fun k => m - k) 0 rfl ⟨by omega, hp⟩ ?_
     clear hp
     rintro k w3 ⟨hk, hp⟩ IH3 C3
     refine h_run rfl ?_; (repeat (refine H_ldB hp rfl rfl ?_))
     refine h_cond_dec (fun hlt3 => ?_) (fun hlt3 => ?_)
     ·have hlt3' : k < m := by omega
      obtain ⟨t1, t2, t3, t4⟩ := sh_iS (show k < 16 by omega)
      have hcut : (bits .andNot .i64 (i : Int) (1 * 2 ^ ((k : Nat) : Int).toNat), bits .andNot .i64 (j : Int) (1 * 2 ^ ((k : Nat) : Int).toNat)) = cutC ((i : Int), (j : Int)) k := by unfold cutC; rw [t2, Int.one_mul]
      have hsn : ∀ q : Nat → Bool, (List.range (k + 1)).any q = ((List.range k).any q || q k) := fun q => by rw [List.range_succ, List.any_append]; simp
      refine h_cond_t rfl rfl ?_; skip
      refine N_draw hp (by kernel_rfl) (by kernel_rfl) rfl rfl ?_; skip
      by_cases hb : bitI (i : Int) k = 1
      ·have hb' : bits .and .i64 ((i : Int) / 2 ^ ((k : Nat) : Int).toNat) 1 = 1 := hb
       rw [decide_eq_true hb']
       (repeat (first | (refine nGuard ?_; refine N_guard_y rfl rfl rfl ?_) | (refine nLoad ?_; refine N_ldB rfl rfl rfl ?_)))
       refine N_call Tryz.func111 (by kernel_rfl) rfl (fun F w hp => ?_); refine Ret.mono (l03Implicant_h m b (bits .andNot .i64 (i : Int) (1 * 2 ^ ((k : Nat) : Int).toNat), bits .andNot .i64 (j : Int) (1 * 2 ^ ((k : Nat) : Int).toNat)) _ hm) ?_; rintro _ w ⟨rfl, hx⟩; have hp := hp.ext hx; refine ⟨fun _ => hp.sub (by (repeat (first | exact List.sublist_append_left _ _ | apply List.Sublist.cons))), _, hp, ?_⟩; clear hp; refine N_ops rfl rfl ?_; skip
       refine N_end ?_; intro w hp C; refine h_run rfl ?_; skip
       rw [hcut]
       cases hi2 : impC m b (cutC ((i : Int), (j : Int)) k)
       ·refine h_cond_f rfl rfl ?_; skip
        refine IH3 (k + 1) _ _ _ (by omega) (by rw [hsn, hi2, Bool.and_false, Bool.or_false]; rfl) ⟨by omega, hp⟩
       ·refine h_cond_t rfl rfl ?_; skip
        refine IH3 (k + 1) _ _ _ (by omega) (by rw [hsn, hi2, decide_eq_true hb]; simp only [Bool.and_true, Bool.or_true, Bool.not_true]; rfl) ⟨by omega, hp⟩
      ·have hb' : ¬ bits .and .i64 ((i : Int) / 2 ^ ((k : Nat) : Int).toNat) 1 = 1 := hb
       rw [decide_eq_false hb']
       (repeat (refine N_guard_n rfl rfl rfl ?_))
       refine N_end ?_; intro w hp C; refine h_run rfl ?_; skip
       refine h_cond_f rfl rfl ?_; skip
       refine IH3 (k + 1) _ _ _ (by omega) (by rw [hsn, decide_eq_false hb, Bool.false_and, Bool.or_false]; rfl) ⟨by omega, hp⟩
     ·obtain rfl : k = m := by omega
      have hpr : (!(List.range k).any fun q => decide (bitI (i : Int) q = 1) && impC k b (cutC ((i : Int), (j : Int)) q)) = prmS k b ((i : Int), (j : Int)) := rfl
      rw [hpr]
      refine h_cond_f rfl rfl ?_; skip
      cases hpp : prmS k b ((i : Int), (j : Int))
      ·have hno : pS k b ((i : Int), (j : Int)) = false := by unfold pS; rw [hpp, Bool.and_false]
       refine h_cond_f rfl rfl ?_; skip
       refine IH2 (j + 1) a c _ _ _ (by omega) (by rw [rowS_no hno]; rfl) ⟨by omega, ?_⟩
       rw [rowS_no hno]
       exact hp.drop
      ·have hyes : pS k b ((i : Int), (j : Int)) = true := by unfold pS; rw [hpp, hcand]; rfl
       refine h_cond_t rfl rfl ?_; (repeat (refine H_ldB hp rfl rfl ?_))
       refine H_lit hp eII [((i : Int), (j : Int))] rfl rfl rfl rfl (s := 2) rfl (by decide) (by infer_instance) (by rfl) (by rfl) (by rfl) (by decide) ?_; intro w b68 hx hp; refine ops_run nopre rfl ?_; skip
       refine U_append hp rfl rfl rfl rfl rfl rfl rfl (by decide) rfl (by first | omega | (simp only [List.length_append, List.length_cons, List.length_nil, List.length_take, List.length_drop, List.length_set, List.length_replicate, List.length_map]; omega)) rfl rfl ?_; intro a' c' w hp hnil; refine ops_run nopre rfl ?_; skip
       refine IH2 (j + 1) a' c' _ _ _ (by omega) (by rw [rowS_yes hyes, ← List.append_assoc]; rfl) ⟨by omega, ?_⟩
       rw [rowS_yes hyes, ← List.append_assoc]
       exact (hp.f3.f3).tk 2
   ·have hok' : okC ((i : Int), (j : Int)) = false := decide_eq_false hok
    have hno : pS m b ((i : Int), (j : Int)) = false := by unfold pS candC; rw [hok', Bool.false_and, Bool.false_and]
    refine h_guard_by (fun h => ?_) (fun h => ?_) <;> rw [h]
    ·(repeat (refine h_guard_n rfl nopre rfl ?_))
     refine h_cond_t rfl rfl ?_; skip
     refine IH2 (j + 1) a c _ _ _ (by omega) (by rw [rowS_no hno]; rfl) ⟨by omega, ?_⟩
     rw [rowS_no hno]
     exact hp.drop
    ·exact absurd hok (by simpa using of_decide_eq_false h)
  ·obtain rfl : j = 2 ^ m := by omega
   have e : (rowsC m (i + 1)).filter (pS m b) = (rowsC m i).filter (pS m b) ++ (rowC i (2 ^ m)).filter (pS m b) := by rw [rowsC_snoc, List.filter_append]
   refine h_cond_f rfl rfl ?_; skip
   refine IH (i + 1) a c _ _ _ (by omega) (by rw [e]; rfl) ⟨by omega, ?_⟩
   rw [e]
   exact hp
 ·obtain rfl : i = 2 ^ m := by omega
  have e : (rowsC m (2 ^ m)).filter (pS m b) = primL m b := prim_S hm b
  rw [e] at hp ⊢
  refine h_cond_f rfl rfl ?_; (repeat (refine R_ret ?_))
  exact ⟨a, c, rfl, hp.tk 1⟩
theorem specMinimalCover_h (m : Nat) (b : Int) (w0 : World) (hm : m ≤ 4) (h0 : 0 ≤ b) (h1 : b < 2 ^ 2 ^ m) :
  Ret Tryz.prog 28 [.agg ⟨[.int .i64 (m : Int), .int .i64 b]⟩] w0 (fun v w => ∃ a c, v = .slice a (minL m b).length c ∧ Hp w0 w [rO 87 2 eII a c (minL m b)]) := by
 have hp81 := Nat.le_trans (primL_sub m b).length_le (candL_len hm b)
 refine enter Tryz.S28ok _ _ rfl rfl (by show _ ≤ _; simp only [List.length]; decide) (fun C => ?_); have hp := Hp.nil w0; refine h_run rfl ?_; skip; (first | refine H_box hp ?_ | refine H_alloc hp rfl ?_); intro w b1 hx hp; refine ops_run nopre rfl ?_; (repeat (refine H_ldB hp rfl rfl ?_))
 refine h_call rfl Tryz.func66 (by kernel_rfl) rfl (specPrimeCubes_h m b _ hm h0 h1) ?_; rintro _ w ⟨a, c, rfl, hq⟩; have hx := hq.x; have hp := hp.call1 hq; refine ops_run nopre rfl ?_; (repeat (refine H_ldB hp rfl rfl ?_))
 refine h_call rfl Tryz.func67 (by kernel_rfl) rfl (specTableOk_h m b _ hm h0 h1) ?_; rintro _ w ⟨rfl, hx⟩; have hp := hp.ext hx; refine ops_run nopre rfl ?_; skip
 refine h_cond_f rfl rfl ?_; skip
 refine h_loop4 [1, 3, 4] (fun (k : Nat) (L : List (Int × Int)) (a : Option Addr) (c : Nat) => [(1, .pointer (some ⟨b1, 0, none⟩)), (3, .slice a L.length c), (4, .int .i64 ((k : Int) - 1))])
  (fun k L a c w' => (k ≤ L.length ∧ L.Sublist (primL m b) ∧ mcF m b k L = minL m b) ∧ Hp w0 w' [rO 87 2 eII a c L, rB b1 49 [.int .i64 (m : Int), .int .i64 b]]) (fun k _ _ _ => k) (primL m b).length (primL m b) a c rfl ⟨⟨Nat.le_refl _, List.Sublist.refl _, rfl⟩, hp⟩ ?_
 clear hp
 rintro k L a c w1 ⟨⟨hk, hsub, hmc⟩, hp⟩ IH C
 have hl81 := Nat.le_trans hsub.length_le hp81
 have hcap := hp.own.cap
 rcases k with _ | k
 ·rw [show (((0 : Nat) : Int) - 1) = -1 from rfl]
  refine h_run rfl ?_; skip
  refine h_cond_f rfl rfl ?_; (repeat (refine R_ret ?_))
  have e : L = minL m b := hmc
  rw [e] at hp ⊢
  exact ⟨a, c, rfl, hp.tk 1⟩
 ·rw [show (((k + 1 : Nat) : Int) - 1) = (k : Int) by omega]
  refine h_run rfl ?_; skip
  refine h_cond_t (decide_eq_true (by omega)) rfl ?_; skip
  refine N_draw hp (by kernel_rfl) (by kernel_rfl) rfl rfl ?_; (repeat (refine N_ldB rfl rfl rfl ?_))
  refine N_call Tryz.func68 (by kernel_rfl) rfl (fun F w hp => ?_); refine Ret.mono (l03Table_h m hm a c _ L rfl (by omega) k (by omega) _ hp.pre.rd) ?_; rintro _ w ⟨rfl, hx⟩; have hp := hp.ext hx; refine ⟨fun _ => hp.sub (by (repeat (first | exact List.sublist_append_left _ _ | apply List.Sublist.cons))), _, hp, ?_⟩; clear hp; refine N_ops rfl rfl ?_; (repeat (refine N_ldB rfl rfl rfl ?_))
  refine N_end ?_; intro w hp C; refine h_run rfl ?_; skip
  rw [mcF] at hmc
  have hsub2 := (lessC_sub L k).trans hsub
  have hll := lessC_len (L := L) (k := k) (by omega)
  by_cases hT2 : covT m (lessC L k) = b
  ·rw [if_pos hT2] at hmc
   refine h_cond_t (by rw [hT2]; simp) rfl ?_; skip
   have hT : RdH w0 [rO 87 2 eII a c L, rB b1 49 [.int .i64 (m : Int), .int .i64 b]] (subA a c Tryz.ti87.size 0) 2 eII (L.take k) := own_take (s := 2) (by omega)
   have hD : RdH w0 [rO 87 2 eII a c L, rB b1 49 [.int .i64 (m : Int), .int .i64 b]] (subA a c Tryz.ti87.size ((k : Int) + 1).toNat) 2 eII (L.drop (k + 1)) := own_drop (s := 2) (by omega)
   have hTl : (L.take k).length = k := by rw [List.length_take]; omega
   have hDl : (L.drop (k + 1)).length = L.length - (k + 1) := List.length_drop
   refine N_draw hp (by kernel_rfl) (by kernel_rfl) rfl rfl ?_; skip
   refine N_lit eII ([] : List (Int × Int)) rfl rfl rfl rfl (s := 2) rfl (by decide) (by infer_instance) (by rfl) (by rfl) (by rfl) (by decide) ?_; intro b18; refine N_ops rfl rfl ?_; skip
   refine N_append (Y := L.take k) rfl hTl rfl rfl rfl rfl rfl (by decide) rfl (by simp only [List.length_nil]; omega) rfl rfl (fun hq => Bool.noConfusion (hq.symm.trans (by kernel_rfl : flagAt _ _ = false))) ?_; intro a2 c2 hnil; refine N_ops rfl rfl ?_; skip
   refine N_append (Y := L.drop (k + 1)) rfl hDl rfl rfl rfl rfl rfl (by decide) rfl (by simp only [List.nil_append]; omega) rfl rfl (fun hq => Bool.noConfusion (hq.symm.trans (by kernel_rfl : flagAt _ _ = false))) ?_; intro a3 c3 hnil; refine N_ops rfl rfl ?_; skip
   refine N_end ?_; intro w hp C; refine h_run rfl ?_; skip
   have el : [] ++ L.take k ++ L.drop (k + 1) = lessC L k := by rw [List.nil_append]; rfl
   rw [el] at hp
   exact IH k (lessC L k) a3 c3 _ _ _ (by omega) (by rw [← el]; rfl) ⟨⟨by omega, hsub2, hmc⟩, (hp.f2.f1).tk 2⟩
  ·rw [if_neg hT2] at hmc
   refine h_cond_f (by simp [hT2]) rfl ?_; skip
   exact IH k L a c _ _ _ (by omega) rfl ⟨⟨by omega, hsub, hmc⟩, hp⟩
theorem specCoverLiterals_h (m : Nat) (hm : m ≤ 4) (ca : Option Addr) (cc q : Nat) (K : List (Int × Int)) (hq : K.length = q) (hK : coverOkP (m : Int) K) (w0 : World) (hR : Rd w0 ca 2 eII K) :
  Ret Tryz.prog 30 [.int .i64 (m : Int), .slice ca q cc] w0 (fun v w => v = .int .i64 (clL m K) ∧ Ext w0 w) := by
 subst hq
 have hk81 := hK.2.1
 have h3 := pow_small (m := (m : Int)) (by omega)
 have hci : ∀ i, i < K.length → i64R (K.getD i default).1 ∧ i64R (K.getD i default).2 := fun i hi => by
  obtain ⟨_, h1, h2, _⟩ := hK.2.2 _ (getD_mem hi)
  unfold i64R
  omega
 refine enter Tryz.S30ok _ _ rfl rfl (by show _ ≤ _; simp only [List.length]; decide) (fun C => ?_); have hp := Hp.nil w0; refine h_run rfl ?_; skip
 refine h_call rfl Tryz.func70 (by kernel_rfl) rfl ((l03Ok_h (m : Int) ca cc _ K rfl _ (by unfold i64R; omega) hp.rd hci (by omega)).tt (coverOkB_yes hK)) ?_; rintro _ w ⟨rfl, hx⟩; have hp := hp.ext hx; refine ops_run nopre rfl ?_; skip
 refine h_cond_f rfl rfl ?_; skip
 refine h_loop [0, 1, 5, 6] (fun (i : Nat) => [(0, .int .i64 (m : Int)), (1, .slice ca K.length cc), (5, .int .i64 (clTo m K i)), (6, .int .i64 (i : Int))])
  (fun i w' => i ≤ K.length ∧ Hp w0 w' []) (fun i => K.length - i) 0 rfl ⟨by omega, hp⟩ ?_
 clear hp
 rintro i w1 ⟨hi, hp⟩ IH C
 have hcb := clTo_b m K i
 have him : (i : Int) * (m : Int) ≤ 81 * 4 := by
  have : i * m ≤ 81 * 4 := Nat.mul_le_mul (by omega) hm
  exact_mod_cast this
 refine h_run rfl ?_; skip
 refine h_cond_dec (fun hlt => ?_) (fun hlt => ?_)
 ·have hlt' : i < K.length := by omega
  have hne : ca ≠ none := nn_of hp (X := K) (by omega)
  refine h_cond_t rfl rfl ?_; skip
  refine h_loop [0, 1, 5, 6, 7] (fun (k : Nat) => [(0, .int .i64 (m : Int)), (1, .slice ca K.length cc), (5, .int .i64 (clTo m K i + pcTo (K.getD i default).1 k)), (6, .int .i64 (i : Int)), (7, .int .i64 (k : Int))])
   (fun k w' => k ≤ m ∧ Hp w0 w' []) (fun k => m - k) 0 (by rw [show pcTo (K.getD i default).1 0 = 0 from rfl, Int.add_zero]; rfl) ⟨by omega, hp⟩ ?_
  clear hp
  rintro k w2 ⟨hk, hp⟩ IH2 C2
  have hpb := pcTo_b (K.getD i default).1 k
  have hb01 := bitI_01 (K.getD i default).1 k
  unfold is01 at hb01
  unfold bitI at hb01
  refine h_run rfl ?_; skip
  refine h_cond_dec (fun hlt2 => ?_) (fun hlt2 => ?_)
  ·have hlt2' : k < m := by omega
   obtain ⟨t1, t2, t3, t4⟩ := sh_iS (show k < 16 by omega)
   have hb01' : bits .and .i64 ((K.getD i default).1 / 2 ^ ((k : Nat) : Int).toNat) 1 = 0 ∨ bits .and .i64 ((K.getD i default).1 / 2 ^ ((k : Nat) : Int).toNat) 1 = 1 := hb01
   refine h_cond_t rfl rfl ?_; (repeat (refine H_ldFN hp rfl (by omega) rfl rfl ?_))
   refine IH2 (k + 1) _ _ _ (by omega) (by rw [pcTo, ← Int.add_assoc]; rfl) ⟨by omega, hp⟩
  ·obtain rfl : k = m := by omega
   refine h_cond_f rfl rfl ?_; skip
   exact IH (i + 1) _ _ _ (by omega) rfl ⟨by omega, hp⟩
 ·obtain rfl : i = K.length := by omega
  refine h_cond_f rfl rfl ?_; (repeat (refine R_ret ?_))
  exact ⟨rfl, hp.x⟩
end Go.Proofs
