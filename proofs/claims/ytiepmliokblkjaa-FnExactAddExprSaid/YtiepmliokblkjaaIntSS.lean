/- The law's helpers for lists of lists, without bounds on their sizes but the law's own; each under its stated conditions. -/
import Derived.Test.YtiepmliokblkjaaLists
import Derived.Test.YtiepmliokblkjaaNet
import Derived.Test.YtiepmliokblkjaaTrod
import Derived.KernelRfl
import Derived.ProofKit
import Derived.Deep.Slices
import Derived.Deep.Fields
import Derived.ChangeSame
import Derived.ChangeArms
import Derived.ChangeShapes
set_option linter.all false
namespace Go.Xw
class RsR (w : World) (R : List (RowA Int)) : Prop where
 h : ∀ r, r ∈ R → Rd w r.ia 1 eI r.ins
theorem RsR.ext {w w' : World} {R : List (RowA Int)} (h : RsR w R) (hx : Ext w w') : RsR w' R := ⟨fun r hr => (h.h r hr).ext hx⟩
theorem RsR.at_ {w : World} {R : List (RowA Int)} (h : RsR w R) {i : Nat} (hi : i < R.length) : Rd w (R.getD i default).ia 1 eI (R.getD i default).ins := h.h _ (getD_memR hi)
theorem Hp.rs {w0 w : World} {L : List Res} (hp : Hp w0 w L) {R : List (RowA Int)} [h : RowsH w0 L 1 eI R] : RsR w R := ⟨fun r hr => ⟨h.h w hp r hr⟩⟩
instance (priority := low) RowsH.base {w0 : World} {L : List Res} {R : List (RowA Int)} [h : RsR w0 R] : RowsH w0 L 1 eI R := ⟨fun w hp r hr => ((h.h r hr).ext hp.x).h⟩
theorem rowR_set {α : Type} {R : List α} {d y : α} {m : Nat} : (R ++ List.replicate (m + 1) d).set R.length y = (R ++ [y]) ++ List.replicate m d := by
 rw [List.set_append_right _ _ (Nat.le_refl _), Nat.sub_self, List.replicate_succ, List.set_cons_zero, List.append_assoc]; rfl
end Go.Xw
namespace Go.Proofs
open Go.Xw Go.Deep Go.ChangeShapes Go.WideShapes
set_option maxRecDepth 100000
set_option maxHeartbeats 2000000
attribute [local irreducible] Holds elemAddr
theorem insOf_takeN {X : List (RowA Int)} {i : Nat} (h : i < X.length) : (insOf X).take (i + 1) = (insOf X).take i ++ [(X.getD i default).ins] := by
 rw [take_snocC (by rw [insOf_len]; exact h), insOf_get]
theorem szIntSS_h (a : Option Addr) (c : Nat) (R : List (RowA Int)) (left : Int) (w0 : World) (ha : Rd w0 a 1 eRo R) (h0 : 0 ≤ left) (h1 : left ≤ 1048576) (hn : (R.length : Int) ≤ 9223372036854775807) (hin : ∀ i, i < R.length → ((R.getD i default).ins.length : Int) ≤ 9223372036854775807) :
  Ret Try.prog 5 [.slice a R.length c, .int .i64 left] w0 (fun v w' => (∃ z, v = .int .i64 z ∧ (z = -1 ∨ (0 ≤ z ∧ z ≤ left ∧ R.length ≤ left ∧ ∀ i, i < R.length → (R.getD i default).ins.length ≤ left))) ∧ Ext w0 w') := by
 refine enter Try.S5ok _ _ rfl rfl (by show _ ≤ _; simp only [List.length]; decide) (fun C => ?_); have hp := Hp.nil w0; refine h_run rfl ?_; skip
 refine h_cond_dec (fun h => ?_) (fun h => ?_)
 ·refine h_cond_t rfl rfl ?_; (repeat (refine R_ret ?_))
  exact ⟨⟨-1, rfl, .inl rfl⟩, hp.x⟩
 ·refine h_cond_f rfl rfl ?_; skip
  refine h_loop2 [0, 1, 5] (fun (i : Nat) (l : Int) => [(0, .slice a R.length c), (1, .int .i64 l), (5, .int .i64 (i : Int))])
   (fun i l w' => i ≤ R.length ∧ 0 ≤ l ∧ l ≤ left ∧ (∀ j, j < i → (R.getD j default).ins.length ≤ left) ∧ Hp w0 w' []) (fun i _ => R.length - i) 0 _ rfl ⟨by omega, by omega, by omega, fun j hj => by omega, hp⟩ ?_
  clear hp
  rintro i l w1 ⟨hi, hl0, hl1, hall, hp⟩ IH C
  refine h_run rfl ?_; skip
  refine h_cond_dec (fun hlt => ?_) (fun hlt => ?_)
  ·have hlt' : i < R.length := by omega
   have hini := hin i hlt'
   refine h_cond_t rfl rfl ?_; (repeat (refine H_ldEN hp rfl (by omega) rfl rfl ?_))
   refine h_call rfl Try.func24 (by kernel_rfl) rfl (szIntS_h _ _ (R.getD i default).ins.length l _ hl0 (by omega) hini) ?_; rintro _ w ⟨rfl, hx⟩; have hp := hp.ext hx; refine ops_run nopre rfl ?_; skip
   by_cases hlz : l < (R.getD i default).ins.length
   ·rw [if_pos hlz]
    refine h_cond_t rfl rfl ?_; (repeat (refine R_ret ?_))
    exact ⟨⟨-1, rfl, .inl rfl⟩, hp.x⟩
   ·rw [if_neg hlz]
    refine h_cond_f (decide_eq_false (by omega)) rfl ?_
    skip
    refine IH (i + 1) _ _ _ _ (by omega) rfl ⟨by omega, by omega, by omega, fun j hj => ?_, hp⟩
    by_cases hji : j = i
    ·subst hji; omega
    ·exact hall j (by omega)
  ·refine h_cond_f rfl rfl ?_; (repeat (refine R_ret ?_))
   obtain rfl : i = R.length := by omega
   exact ⟨⟨l, rfl, .inr ⟨hl0, hl1, by omega, fun j hj => hall j hj⟩⟩, hp.x⟩
theorem toIntSS_h (a : Option Addr) (c : Nat) (X : List (RowA Int)) (w0 : World) (ha : Rd w0 a 1 eRo X) (hr : RsR w0 X) (hl : X.length < 1000000000) (hl2 : ∀ i, i < X.length → (X.getD i default).ins.length < 1000000000) :
  Ret Try.prog 9 [.slice a X.length c] w0 (fun v w => ∃ b R, (insOf R = insOf X ∧ v = .slice (some ⟨b, 0, none⟩) R.length R.length) ∧ Hp w0 w [rO 24 1 eRo (some ⟨b, 0, none⟩) R.length R, rRows 3 1 eI R]) := by
 refine enter Try.S9ok _ _ rfl rfl (by show _ ≤ _; simp only [List.length]; decide) (fun C => ?_); have hp := Hp.nil w0; refine h_run rfl ?_; skip
 refine H_make hp (eRo (α := Int)) (default : RowA Int) rfl rfl rfl rfl (s := 1) rfl (by decide) rfl (by unfold maxLen; omega) (by show 24 * _ ≤ _; omega) ?_; intro w b hx hp; refine ops_run nopre rfl ?_; skip
 refine h_loop2 [0, 3, 4] (fun (i : Nat) (_ : List (RowA Int)) => [(0, .slice a X.length c), (3, .slice (some ⟨b, 0, none⟩) X.length X.length), (4, .int .i64 (i : Int))])
  (fun i R w' => i ≤ X.length ∧ R.length = i ∧ insOf R = (insOf X).take i ∧ Hp w0 w' [rRows 3 1 eI R, rO 24 1 eRo (some ⟨b, 0, none⟩) X.length (R ++ List.replicate (X.length - i) default)]) (fun i _ => X.length - i) 0 [] rfl ⟨by omega, rfl, rfl, rRows_nil hp⟩ ?_
 clear hp
 rintro i R w2 ⟨hi, hR, hRs, hp⟩ IH C
 refine h_run rfl ?_; skip
 refine h_cond_dec (fun hlt => ?_) (fun hlt => ?_)
 ·have hlt' : i < X.length := by omega
  have hri := hr.at_ hlt'
  have hgi := hl2 i hlt'
  refine h_cond_t rfl rfl ?_; (repeat (refine H_ldEN hp rfl (by omega) rfl rfl ?_))
  refine h_call rfl Try.func35 (by kernel_rfl) rfl (toIntS_h _ _ (X.getD i default).ins _ hp.rd hgi) ?_; rintro _ w ⟨b3, rfl, hq⟩; have hx := hq.x; have hp := hp.call1 hq; refine ops_run nopre rfl ?_; skip
  have hp := rRows_add (y := ⟨(X.getD i default).ins, some ⟨b3, 0, none⟩, (X.getD i default).ins.length⟩) hp
  have hlen : ((R ++ List.replicate (X.length - i) default).length : Int) = X.length := by simp; omega
  have hRi : R.length < (R ++ List.replicate (X.length - i) default).length := by simp; omega
  first | refine U_st0N hp (y := (⟨(X.getD i default).ins, some ⟨b3, 0, none⟩, (X.getD i default).ins.length⟩ : RowA Int)) rfl rfl rfl (by omega) (by decide) (rfl) rfl ?_ | refine U_st0 hp (y := (⟨(X.getD i default).ins, some ⟨b3, 0, none⟩, (X.getD i default).ins.length⟩ : RowA Int)) rfl rfl rfl (by omega) (by decide) (rfl) rfl ?_
  intro w hp; refine ops_run nopre rfl ?_; skip
  refine IH (i + 1) (R ++ [⟨(X.getD i default).ins, some ⟨b3, 0, none⟩, (X.getD i default).ins.length⟩]) _ _ _ (by omega) rfl ⟨by omega, by simp [hR], ?_, ?_⟩
  ·rw [insOf_takeN hlt', ← hRs]; simp [insOf]
  ·rw [show X.length - i = X.length - (i + 1) + 1 by omega] at hp
   subst hR
   rw [rowR_set] at hp
   exact hp
 ·refine h_cond_f rfl rfl ?_; (repeat (refine R_ret ?_))
  obtain rfl : i = X.length := by omega
  rw [← insOf_len X, List.take_length] at hRs
  simp only [Nat.sub_self, List.replicate_zero, List.append_nil] at hp
  rw [← hR] at hp
  exact ⟨b, R, ⟨hRs, by rw [hR]⟩, hp.f1⟩
theorem eqIntSS2_h (a b : Option Addr) (ca cb : Nat) (RA RB : List (RowA Int)) (w0 : World) (hA : Rd w0 a 1 eRo RA) (hAr : RsR w0 RA) (hB : Rd w0 b 1 eRo RB) (hBr : RsR w0 RB) (hl : RA.length ≤ 1048576) (hg : ∀ i, i < RA.length → (RA.getD i default).ins.length ≤ 1048576) (he : insOf RA = insOf RB) :
  Ret Try.prog 14 [.slice a RA.length ca, .slice b RB.length cb] w0 (fun v w => v = .bool true ∧ Ext w0 w) := by
 have hlen : RA.length = RB.length := by have := congrArg List.length he; rwa [insOf_len, insOf_len] at this
 refine enter Try.S14ok _ _ rfl rfl (by show _ ≤ _; simp only [List.length]; decide) (fun C => ?_); have hp := Hp.nil w0; refine h_run rfl ?_; skip
 refine h_cond_dec (fun h => ?_) (fun h => ?_)
 ·exact absurd h (by omega)
 ·refine h_cond_f rfl rfl ?_; skip
  refine h_loop [0, 1, 5] (fun i : Nat => [(0, .slice a RA.length ca), (1, .slice b RB.length cb), (5, .int .i64 (i : Int))])
   (fun i w' => i ≤ RA.length ∧ Hp w0 w' []) (fun i => RA.length - i) 0 rfl ⟨by omega, hp⟩ ?_
  clear hp
  rintro i w1 ⟨hi, hp⟩ IH C
  refine h_run rfl ?_; skip
  refine h_cond_dec (fun hlt => ?_) (fun hlt => ?_)
  ·have hlt' : i < RA.length := by omega
   have hai := hAr.at_ hlt'
   have hbi := hBr.at_ (show i < RB.length by omega)
   have hgi := hg i hlt'
   have hei : (RA.getD i default).ins = (RB.getD i default).ins := by rw [← insOf_get, ← insOf_get, he]
   have hli : (RA.getD i default).ins.length = (RB.getD i default).ins.length := by rw [hei]
   refine h_cond_t rfl rfl ?_; skip
   refine D_draw hp (by kernel_rfl) (by kernel_rfl) rfl rfl ?_; intro w hx hp; have hs := hp; (repeat (refine D_ldEN rfl (by omega) rfl rfl rfl ?_))
   refine h_callq rfl Try.func13 (by kernel_rfl) rfl ((eqIntS_h _ _ _ _ (RA.getD i default).ins (RB.getD i default).ins _ hp.rd hp.rd (by omega) (by omega)).yes hei) ?_; rintro _ w ⟨rfl, hx⟩; have hp := hp.ext hx; have hs := hs.ext hx; refine ⟨fun _ => hs, ?_⟩; refine D_ops rfl rfl ?_; skip
   refine h_cond_f rfl rfl ?_; skip
   exact IH (i + 1) _ _ _ (by omega) rfl ⟨by omega, hp⟩
  ·refine h_cond_f rfl rfl ?_; (repeat (refine R_ret ?_))
   exact ⟨rfl, hp.x⟩
def offX (R : List (RowA Int)) (j : Nat) : Nat := ((R.take j).map fun r => r.ins.length).sum
theorem offX_next {R : List (RowA Int)} {j : Nat} (h : j < R.length) : offX R (j + 1) = offX R j + (R.getD j default).ins.length := by
 unfold offX
 rw [take_snocC h, List.map_append, List.sum_append]
 simp
theorem offX_le {R : List (RowA Int)} {m : Nat} (hg : ∀ i, i < R.length → (R.getD i default).ins.length ≤ m) : ∀ j, j ≤ R.length → offX R j ≤ j * m
 | 0, _ => by simp [offX]
 | j + 1, hj => by
  have ih := offX_le hg j (by omega)
  have := hg j (by omega)
  rw [offX_next (by omega), Nat.succ_mul]
  omega
theorem markIntSS2_h {w0 w : World} {L : List Res} {a : Option Addr} {c : Nat} {R : List (RowA Int)} (hp : Hp w0 w (rRows 3 1 eI R :: L)) [hr : RdH w0 L a 1 eRo R] (k : Int) (hl : R.length ≤ 1048576) (hg : ∀ i, i < R.length → (R.getD i default).ins.length ≤ 1048576) (hk : 0 ≤ k) (hk2 : k < 10000000000000) :
  Ret Try.prog 17 [.slice a R.length c, .int .i64 k] w (fun v w' => ∃ Q, (v = .int .i64 (k + offX R R.length) ∧ Q.length = R.length ∧ (offX R R.length : Int) ≤ 1099511627776) ∧ Hp w0 w' (rRows 3 1 eI Q :: L)) := by
 have ho : ∀ i, i ≤ R.length → (offX R i : Int) ≤ 1099511627776 := fun i hi => by
  have h1 := offX_le hg i hi
  have h2 : i * 1048576 ≤ 1048576 * 1048576 := Nat.mul_le_mul_right _ (by omega)
  omega
 refine enter Try.S17ok _ _ rfl rfl (by show _ ≤ _; simp only [List.length]; decide) (fun C => ?_); refine h_run rfl ?_
 refine h_loop2 [0, 1, 5] (fun (i : Nat) (_ : List (RowA Int)) => [(0, .slice a R.length c), (1, .int .i64 (k + offX R i)), (5, .int .i64 (i : Int))])
  (fun i Q w' => i ≤ R.length ∧ (Q.length = R.length ∧ ∀ j, i ≤ j → Q.getD j default = R.getD j default) ∧ Hp w0 w' (rRows 3 1 eI Q :: L)) (fun i _ => R.length - i) 0 R (by rw [show k + ((offX R 0 : Nat) : Int) = k by simp [offX]]; rfl) ⟨by omega, ⟨rfl, fun _ _ => rfl⟩, hp⟩ ?_
 clear hp
 rintro i Q w1 ⟨hi, ⟨hQl, hQ⟩, hp⟩ IH C
 refine h_run rfl ?_; skip
 refine h_cond_dec (fun hlt => ?_) (fun hlt => ?_)
 ·have hlt' : i < R.length := by omega
  have hgi := hg i hlt'
  have ho2 := ho i hi
  have hon := offX_next hlt'
  have hqi := hQ i (Nat.le_refl _)
  obtain ⟨Z, h2, hback⟩ := rRows_at hp (show i < Q.length by omega)
  rw [hqi] at h2
  refine h_cond_t rfl rfl ?_; (repeat (refine H_ldEN hp rfl (by omega) rfl rfl ?_))
  refine h_call rfl Try.func19 (by kernel_rfl) rfl (markIntS_h h2 (k + offX R i) (by omega) (by omega) (by omega)) ?_; rintro _ w2 ⟨rfl, h3⟩
  have hp := hback _ _ ⟨marks (k + offX R i) (R.getD i default).ins.length, (R.getD i default).ia, (R.getD i default).ic⟩ h3
  refine ops_run nopre rfl ?_; skip
  refine IH (i + 1) _ _ _ _ (by omega) (by rw [hon, show k + ((offX R i + (R.getD i default).ins.length : Nat) : Int) = k + (offX R i : Int) + ((R.getD i default).ins.length : Int) by omega]; rfl) ⟨by omega, ⟨by rw [List.length_set]; exact hQl, fun j hj => ?_⟩, hp⟩
  rw [set_getE (by omega), if_neg (by omega)]
  exact hQ j (by omega)
 ·refine h_cond_f rfl rfl ?_; (repeat (refine R_ret ?_))
  obtain rfl : i = R.length := by omega
  exact ⟨Q, ⟨rfl, hQl, ho _ (Nat.le_refl _)⟩, hp⟩
theorem dec_row {H : Type} {enc : TypeId × Value → H} {w : World} {base : Nat} {spare : Nat → Bool} {held : Bool} {fuel : Nat} {cs : List Value} {y : DataW H × List MemPlace}
  (h : DataW.trod enc Try.prog w base spare held fuel 24 cs = some y) : ∃ r : RowA Int, cs = eRo r ∧ (Sl w r.ia r.ins.length 1 (fL eI r.ins) ∧ r.ins.length ≤ maxLen ∧ ∀ i, i < r.ins.length → i64R (r.ins.getD i default)) := by
 obtain ⟨a, X, c, h1, h2, h3, h4⟩ := dec_ints h
 exact ⟨⟨X, a, c⟩, h1, h2, h3, h4⟩
theorem dec_intss {H : Type} {enc : TypeId × Value → H} {w : World} {base : Nat} {spare : Nat → Bool} {held : Bool} {fuel : Nat} {cs : List Value} {y : DataW H × List MemPlace}
  (h : DataW.trod enc Try.prog w base spare held fuel 27 cs = some y) : ∃ (a : Option Addr) (X : List (RowA Int)) (c : Nat), cs = [.slice a X.length c] ∧ Sl w a X.length 1 (fL eRo X) ∧ X.length ≤ maxLen ∧ ∀ i, i < X.length → (Sl w (X.getD i default).ia (X.getD i default).ins.length 1 (fL eI (X.getD i default).ins) ∧ (X.getD i default).ins.length ≤ maxLen ∧ ∀ j, j < (X.getD i default).ins.length → i64R ((X.getD i default).ins.getD j default)) := by
 obtain ⟨a, X, c, h1, h2, _, h3, h4⟩ := dec_slice Try.underlying27 (by kernel_rfl) eRo_ok (fun _ _ _ hz => dec_row hz) h
 exact ⟨a, X, c, h1, h2, h3, h4⟩
end Go.Proofs
