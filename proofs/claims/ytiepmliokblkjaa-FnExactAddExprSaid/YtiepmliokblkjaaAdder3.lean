/- The contract of the program's leaves of expressions; under its stated conditions. -/
import Derived.Test.YtiepmliokblkjaaAdder2
set_option linter.all false
namespace Go.Xw
def leafB (sig : List (List Int)) (o : OpL) (k : Nat) : Int := if o.kind = 0 then o.a / 2 ^ k % 2 else if o.kind = 2 then pickL (sig.getD o.a.toNat default) k else if k = 0 then pickL (sig.getD o.a.toNat default) o.b.toNat else 0
theorem leafL_eq (sig : List (List Int)) (w : Nat) (o : OpL) : leafL sig w o = (List.range w).map (leafB sig o) := rfl
end Go.Xw
namespace Go.Proofs
open Go.Xw
set_option maxRecDepth 100000
set_option maxHeartbeats 4000000
attribute [local irreducible] Holds elemAddr
theorem leaf_h (R : List (RowA Int)) (sa : Option Addr) (sc : Nat) (hl : R.length ≤ 1000) (o : OpL) (ho : opOkP o R.length) (hkd : o.kind = 0 ∨ o.kind = 2 ∨ o.kind = 3) (hg : ∀ i, i < R.length → (R.getD i default).ins.length ≤ 1000) (bx p wd : Nat) (hw : 1 ≤ wd ∧ wd ≤ 4) (bad : Bool) {w0 w1 : World} {L : List Res} [hS : RdH w0 L sa 1 eRo R] [hQ : RowsH w0 L 1 eI R]
  (hp1 : Hp w0 w1 (rB bx 72 [.pointer (some ⟨p, 0, none⟩), .slice sa R.length sc, .int .i64 (wd : Int), .bool bad] :: L)) :
  Ret Try.prog 72 [.pointer (some ⟨bx, 0, none⟩), .agg ⟨eOp o⟩] w1 (fun v w' => ∃ b c, v = .slice b wd c ∧ Hp w0 w' (rO 3 1 eI b c (leafL (insOf R) wd o) :: rB bx 72 [.pointer (some ⟨p, 0, none⟩), .slice sa R.length sc, .int .i64 (wd : Int), .bool bad] :: L)) := by
 refine enter Try.S72ok _ _ rfl rfl (by show _ ≤ _; simp only [List.length]; decide) (fun C => ?_); have hp := hp1; refine h_run rfl ?_
 (first | refine H_box hp ?_ | refine H_alloc hp rfl ?_); intro w b3 hx hp; refine ops_run nopre rfl ?_; (repeat (refine H_ldB hp rfl rfl ?_))
 refine H_make hp eI 0 rfl rfl rfl rfl (s := 1) rfl (by decide) rfl (by unfold maxLen; omega) (by show 8 * _ ≤ _; omega) ?_; intro w b hx hp; refine ops_run nopre rfl ?_; (repeat (refine H_ldB hp rfl rfl ?_))
 have hrl : (List.replicate wd (0 : Int)).length = wd := by simp
 have hp : Hp w0 _ (rO 3 1 eI (some ⟨b, 0, none⟩) wd (List.replicate wd 0) :: rB b3 59 [.int .i64 o.kind, .int .i64 o.a, .int .i64 o.b] :: rB bx 72 [.pointer (some ⟨p, 0, none⟩), .slice sa R.length sc, .int .i64 (wd : Int), .bool bad] :: L) := hp
 rw [leafL_eq]
 rcases hkd with h0 | h2 | h3
 ·have hoa := (opOk_0 h0).1 ho
  refine h_cond_dec (fun _ => ?_) (fun hg => False.elim (by omega)); refine h_cond_t rfl rfl ?_; skip
  rw [← upTo_zero (leafB (insOf R) o) (List.replicate wd (0 : Int))] at hp
  refine h_loop [3, 5, 18, 19] (fun (i : Nat) => [(3, .pointer (some ⟨b3, 0, none⟩)), (5, .slice (some ⟨b, 0, none⟩) wd wd), (18, .int .i64 (wd : Int)), (19, .int .i64 (i : Int))])
   (fun i w' => i ≤ wd ∧ Hp w0 w' (rO 3 1 eI (some ⟨b, 0, none⟩) wd (upTo (leafB (insOf R) o) i (List.replicate wd 0)) :: rB b3 59 [.int .i64 o.kind, .int .i64 o.a, .int .i64 o.b] :: rB bx 72 [.pointer (some ⟨p, 0, none⟩), .slice sa R.length sc, .int .i64 (wd : Int), .bool bad] :: L)) (fun i => wd - i) 0 rfl ⟨by omega, hp⟩ ?_
  clear hp
  rintro k w1 ⟨hk, hp⟩ IH C
  have hul := upTo_len (f := leafB (insOf R) o) (X := List.replicate wd (0 : Int)) (i := k) (by omega)
  refine h_run rfl ?_; skip
  refine h_cond_dec (fun hlt => ?_) (fun hlt => ?_)
  ·have hk2 : k < wd := by omega
   have hbk : ((k : Nat) : Int) ≤ ((IntKind.i64.bits : Nat) : Int) := by show ((k : Nat) : Int) ≤ 64; omega
   have ef : leafB (insOf R) o k = bits .and .i64 (o.a / 2 ^ k) 1 := by rw [bits_and_one]; unfold leafB; rw [if_pos h0]
   refine h_cond_t rfl rfl ?_; (repeat (first | (refine gLoad ?_; refine H_ldB hp rfl rfl ?_) | (refine gStore ?_; refine U_st0N hp rfl rfl rfl (by omega) (by decide) rfl rfl ?_; intro w hp; refine ops_run nopre rfl ?_)))
   refine IH (k + 1) _ _ _ (by omega) rfl ⟨by omega, ?_⟩
   rw [← upTo_set (f := leafB (insOf R) o) (by omega), ef]
   exact hp
  ·refine h_cond_f rfl rfl ?_; (repeat (refine R_ret ?_))
   obtain rfl : k = wd := by omega
   have hall := upTo_all (leafB (insOf R) o) (List.replicate k (0 : Int))
   rw [hrl] at hall
   rw [hall] at hp
   exact ⟨_, _, rfl, (hp.f1).drop⟩
 ·obtain ⟨hoa, hob⟩ := (opOk_2 h2).1 ho
  refine h_cond_dec (fun hg => False.elim (by omega)) (fun _ => ?_); refine h_cond_f rfl rfl ?_; skip
  refine h_cond_dec (fun _ => ?_) (fun hg => False.elim (by omega)); refine h_cond_t rfl rfl ?_; skip
  rw [← upTo_zero (leafB (insOf R) o) (List.replicate wd (0 : Int))] at hp
  refine h_loop [0, 3, 5, 35, 36] (fun (i : Nat) => [(0, .pointer (some ⟨bx, 0, none⟩)), (3, .pointer (some ⟨b3, 0, none⟩)), (5, .slice (some ⟨b, 0, none⟩) wd wd), (35, .int .i64 (wd : Int)), (36, .int .i64 (i : Int))])
   (fun i w' => i ≤ wd ∧ Hp w0 w' (rO 3 1 eI (some ⟨b, 0, none⟩) wd (upTo (leafB (insOf R) o) i (List.replicate wd 0)) :: rB b3 59 [.int .i64 o.kind, .int .i64 o.a, .int .i64 o.b] :: rB bx 72 [.pointer (some ⟨p, 0, none⟩), .slice sa R.length sc, .int .i64 (wd : Int), .bool bad] :: L)) (fun i => wd - i) 0 rfl ⟨by omega, hp⟩ ?_
  clear hp
  rintro k w1 ⟨hk, hp⟩ IH C
  have hul := upTo_len (f := leafB (insOf R) o) (X := List.replicate wd (0 : Int)) (i := k) (by omega)
  obtain ⟨ia, hia⟩ := Int.eq_ofNat_of_zero_le hoa.1
  refine h_run rfl ?_; skip
  refine h_cond_dec (fun hlt => ?_) (fun hlt => ?_)
  ·have hk2 : k < wd := by omega
   have ef : leafB (insOf R) o k = pickL (R.getD ia default).ins k := by
    unfold leafB; rw [if_neg (by omega), if_pos h2, hia, Int.toNat_natCast, insOf_get]
   refine h_cond_t rfl rfl ?_; (repeat (refine H_ldB hp rfl rfl ?_))
   rw [hia]
   refine h_call rfl Try.func88 (by kernel_rfl) rfl (signalBit_h R sa sc ia k (by omega) (by omega) bx p wd bad hl (hg ia (by omega)) (hp.f1.f1.f2)) ?_; rintro _ w ⟨rfl, hx⟩; have hp := hp.ext hx; refine ops_run nopre rfl ?_; (repeat (refine U_st0N hp rfl rfl rfl (by omega) (by decide) rfl rfl ?_; intro w hp; refine ops_run nopre rfl ?_))
   refine IH (k + 1) _ _ _ (by omega) rfl ⟨by omega, ?_⟩
   rw [← upTo_set (f := leafB (insOf R) o) (by omega), ef]
   exact hp
  ·refine h_cond_f rfl rfl ?_; (repeat (refine R_ret ?_))
   obtain rfl : k = wd := by omega
   have hall := upTo_all (leafB (insOf R) o) (List.replicate k (0 : Int))
   rw [hrl] at hall
   rw [hall] at hp
   exact ⟨_, _, rfl, (hp.f1).drop⟩
 ·obtain ⟨hoa, hob⟩ := (opOk_3 h3).1 ho
  obtain ⟨ia, hia⟩ := Int.eq_ofNat_of_zero_le hoa.1
  obtain ⟨ib, hib⟩ := Int.eq_ofNat_of_zero_le hob.1
  refine h_cond_dec (fun hg => False.elim (by omega)) (fun _ => ?_); refine h_cond_f rfl rfl ?_; skip
  refine h_cond_dec (fun hg => False.elim (by omega)) (fun _ => ?_); refine h_cond_f rfl rfl ?_; skip
  refine h_cond_dec (fun _ => ?_) (fun hg => False.elim (by omega)); refine h_cond_t rfl rfl ?_; (repeat (refine H_ldB hp rfl rfl ?_))
  rw [hia, hib]
  refine h_call rfl Try.func88 (by kernel_rfl) rfl (signalBit_h R sa sc ia ib (by omega) (by omega) bx p wd bad hl (hg ia (by omega)) (hp.f1.f1.f2)) ?_; rintro _ w ⟨rfl, hx⟩; have hp := hp.ext hx; refine ops_run nopre rfl ?_; (repeat (first | (refine gStore ?_; refine U_st0 hp rfl rfl rfl (by omega) (by decide) rfl rfl ?_; intro w hp; refine ops_run nopre rfl ?_) | refine R_ret ?_))
  have e : (List.range wd).map (leafB (insOf R) o) = (List.replicate wd (0 : Int)).set 0 (pickL (R.getD ia default).ins ib) := by
   refine List.ext_getElem (by simp) fun j h1 h2' => ?_
   simp only [List.getElem_map, List.getElem_range]
   unfold leafB
   rw [if_neg (by omega), if_neg (by omega)]
   by_cases hj : j = 0
   ·subst hj
    rw [if_pos rfl, hia, hib, Int.toNat_natCast, Int.toNat_natCast, insOf_get]; simp
   ·rw [if_neg hj, List.getElem_set_ne (fun h => hj h.symm)]; simp
  rw [e]
  exact ⟨_, _, rfl, (hp.f1).drop⟩
end Go.Proofs
