/- The contracts of the functions that draw numbers: what they give lies in its range; each under its stated conditions. -/
import Derived.Test.YtbjgekllkfnjnaaNet
set_option linter.all false
namespace Go.Xw
open Go.RowKit
def rCur (p : Nat) (a : Option Addr) (n c : Nat) : Res where
 ids := [p]
 P w := ∃ i h : Int, (0 ≤ i ∧ i ≤ n ∧ n ≤ 1048576) ∧ Blk w p 93 [.slice a n c, .int .i64 i, .int .i64 h]
 st := fun hh ⟨i, h, hi, hb⟩ => ⟨i, h, hi, by unfold Blk at hb ⊢; rw [hh _ (by simp)]; exact hb⟩
 lt := fun ⟨i, h, hi, hb⟩ k hk => by simp at hk; subst hk; exact hb.lt
theorem cur_open {w0 w : World} {L : List Res} {p : Nat} {a : Option Addr} {n c : Nat} (hp : Hp w0 w (rCur p a n c :: L)) : ∃ i h : Int, (0 ≤ i ∧ i ≤ n ∧ n ≤ 1048576) ∧ Hp w0 w (rB p 93 [.slice a n c, .int .i64 i, .int .i64 h] :: L) := by
 obtain ⟨i, h, hi, hb⟩ := hp.g0
 refine ⟨i, h, hi, hp.x, hp.nd, hp.lo, fun R hR => ?_⟩
 rcases List.mem_cons.1 hR with rfl | hR
 ·exact hb
 ·exact hp.h R (List.mem_cons_of_mem _ hR)
theorem cur_shut {w0 w : World} {L : List Res} {p : Nat} {a : Option Addr} {n c : Nat} {i h : Int} (hi : 0 ≤ i ∧ i ≤ n ∧ n ≤ 1048576) (hp : Hp w0 w (rB p 93 [.slice a n c, .int .i64 i, .int .i64 h] :: L)) : Hp w0 w (rCur p a n c :: L) := by
 refine ⟨hp.x, hp.nd, hp.lo, fun R hR => ?_⟩
 rcases List.mem_cons.1 hR with rfl | hR
 ·exact ⟨i, h, hi, hp.blk⟩
 ·exact hp.h R (List.mem_cons_of_mem _ hR)
def AllB (X : List Int) : Prop := ∀ i, i < X.length → 0 ≤ X.getD i default ∧ X.getD i default ≤ 255
end Go.Xw
namespace Go.Proofs
open Go.Xw
set_option maxRecDepth 100000
set_option maxHeartbeats 1000000
attribute [local irreducible] Holds elemAddr
theorem big_h (a : Option Addr) (n c : Nat) (w0 : World) : Ret Try.prog 10 [.slice a n c] w0 (fun v w => v = .bool (decide (1048576 < (n : Int))) ∧ Ext w0 w) := by
 refine enter Try.S10ok _ _ rfl rfl (by show _ ≤ _; simp only [List.length]; decide) (fun C => ?_); have hp := Hp.nil w0; refine h_run rfl ?_; (repeat (refine R_ret ?_))
 exact ⟨rfl, hp.x⟩
noncomputable def Sw87 : Setting := { Try.S87 with wr := true }
instance Sw87ok : Sw87.Ok := ⟨Try.ttOk, Try.func87, rfl⟩
theorem l01Byte_h {w0 w : World} {L : List Res} {p : Nat} {a : Option Addr} {n c : Nat} {code : List Int} (hR : Rd w0 a 1 eU8 code) (hn : code.length = n) (hp : Hp w0 w (rCur p a n c :: L)) :
  Ret Try.prog 87 [.pointer (some ⟨p, 0, none⟩)] w (fun v w' => ∃ z, (v = .int .i64 z ∧ 0 ≤ z ∧ z ≤ 255) ∧ Hp w0 w' (rCur p a n c :: L)) := by
 obtain ⟨i, h, hi, hp⟩ := cur_open hp
 have key : ∀ z : Int, 0 ≤ bits .and .i64 z 255 ∧ bits .and .i64 z 255 ≤ 255 := fun z => by
  have := bits_and_mask z 8 (by decide)
  rw [show (2 : Int) ^ 8 - 1 = 255 by decide, show (2 : Int) ^ 8 = 256 by decide] at this
  rw [this]; omega
 have hn' : (code.length : Int) = n := by rw [hn]
 refine enter Sw87ok _ _ rfl rfl (by show _ ≤ _; simp only [List.length]; decide) (fun C => ?_); refine h_run rfl ?_; (repeat (first | (refine gLoad ?_; refine H_ldB hp rfl rfl ?_) | (refine gStore ?_; refine U_stB hp rfl rfl rfl rfl ?_; intro w hp; refine ops_run nopre rfl ?_)))
 refine D_draw hp (by kernel_rfl) (by kernel_rfl) rfl rfl ?_; intro w hx hp; have hs := hp; skip
 refine D_ldB rfl rfl rfl ?_ (by show All [_]; show (0 : Int) ≤ _; decide)
 show Holds _ _ _ _ _ (G.act (.load _ _) _)
 refine D_ldB rfl rfl rfl ?_ (by show All [_]; show (0 : Int) ≤ _; decide)
 show Holds _ _ _ _ _ (G.code _ _)
 refine D_draw hp (by kernel_rfl) (by kernel_rfl) rfl rfl ?_; intro w hx hp; have hs := hp; (repeat (refine D_ldB rfl rfl rfl ?_))
 refine h_cond_dec (fun hlt => ?_) (fun hlt => ?_)
 ·refine h_cond_t rfl rfl ?_; skip
  refine D_draw hp (by kernel_rfl) (by kernel_rfl) rfl rfl ?_; intro w hx hp; have hs := hp; (repeat (refine gLoad ?_; first | refine D_ldB rfl rfl rfl ?_ | refine D_ldE rfl (by omega) (by omega) rfl rfl rfl ?_))
  show Holds _ _ _ _ _ (G.act (.load _ _) _)
  skip
  (repeat (first | (refine gLoad ?_; refine H_ldB hp rfl rfl ?_) | (refine gStore ?_; refine U_stB hp rfl rfl rfl rfl ?_; intro w hp; refine ops_run nopre rfl ?_) | refine R_ret ?_))
  have e : IntKind.i64.wrap (i + 1) = i + 1 := wi (by omega)
  have hp : Hp w0 w (rB p 93 [.slice a n c, .int .i64 (IntKind.i64.wrap (i + 1)), .int .i64 (IntKind.i64.wrap (IntKind.i64.wrap (h * 6364136223846793005) + 1442695040888963407))] :: L) := hp
  rw [e] at hp
  refine ⟨_, ⟨rfl, key _⟩, cur_shut (by omega) hp⟩
 ·refine h_cond_f rfl rfl ?_; (repeat (refine R_ret ?_))
  refine ⟨_, ⟨rfl, key _⟩, cur_shut hi hp⟩
theorem l01Below_h {w0 w : World} {L : List Res} {p : Nat} {a : Option Addr} {n c : Nat} {code : List Int} (hR : Rd w0 a 1 eU8 code) (hn : code.length = n) (hp : Hp w0 w (rCur p a n c :: L)) (m : Int) :
  Ret Try.prog 42 [.pointer (some ⟨p, 0, none⟩), .int .i64 m] w (fun v w' => ∃ z, (v = .int .i64 z ∧ (m ≤ 0 → z = 0) ∧ (0 < m → 0 ≤ z ∧ z < m)) ∧ Hp w0 w' (rCur p a n c :: L)) := by
 refine enter Try.S42ok _ _ rfl rfl (by show _ ≤ _; simp only [List.length]; decide) (fun C => ?_); refine h_run rfl ?_; skip
 refine h_cond_dec (fun h0 => ?_) (fun h0 => ?_)
 ·refine h_cond_t rfl rfl ?_; (repeat (refine R_ret ?_))
  exact ⟨0, ⟨rfl, fun _ => rfl, fun h => by omega⟩, hp⟩
 ·refine h_cond_f rfl rfl ?_; skip
  refine h_cond_dec (fun h1 => ?_) (fun h1 => ?_)
  ·refine h_cond_t rfl rfl ?_; skip
   refine h_call rfl Try.func87 (by kernel_rfl) rfl (l01Byte_h hR hn hp) ?_; rintro _ w ⟨z, ⟨rfl, hz0, hz1⟩, hp⟩; refine ops_run nopre rfl ?_; (repeat (refine R_ret ?_))
   exact ⟨_, ⟨rfl, fun h => by omega, fun h => ⟨Int.emod_nonneg _ (by omega), Int.emod_lt_of_pos _ h⟩⟩, hp⟩
  ·refine h_cond_f rfl rfl ?_; skip
   refine h_call rfl Try.func87 (by kernel_rfl) rfl (l01Byte_h hR hn hp) ?_; rintro _ w ⟨z1, ⟨rfl, hz1, hy1⟩, hp⟩; refine ops_run nopre rfl ?_; skip
   refine h_call rfl Try.func87 (by kernel_rfl) rfl (l01Byte_h hR hn hp) ?_; rintro _ w ⟨z2, ⟨rfl, hz2, hy2⟩, hp⟩; refine ops_run nopre rfl ?_; skip
   refine h_call rfl Try.func87 (by kernel_rfl) rfl (l01Byte_h hR hn hp) ?_; rintro _ w ⟨z3, ⟨rfl, hz3, hy3⟩, hp⟩; refine ops_run nopre rfl ?_; skip
   refine h_call rfl Try.func87 (by kernel_rfl) rfl (l01Byte_h hR hn hp) ?_; rintro _ w ⟨z4, ⟨rfl, hz4, hy4⟩, hp⟩; refine ops_run nopre rfl ?_; (repeat (refine R_ret ?_))
   exact ⟨_, ⟨rfl, fun h => by omega, fun h => ⟨Int.emod_nonneg _ (by omega), Int.emod_lt_of_pos _ h⟩⟩, hp⟩
theorem l01Once_h {w0 w : World} {L : List Res} {p : Nat} {a : Option Addr} {n c : Nat} {code : List Int} (hR : Rd w0 a 1 eU8 code) (hn : code.length = n) (hp : Hp w0 w (rCur p a n c :: L)) (m : Int) :
  Ret Try.prog 112 [.pointer (some ⟨p, 0, none⟩), .int .i64 m] w (fun v w' => ∃ b, v = .bool b ∧ Hp w0 w' (rCur p a n c :: L)) := by
 refine enter Try.S112ok _ _ rfl rfl (by show _ ≤ _; simp only [List.length]; decide) (fun C => ?_); refine h_run rfl ?_; skip
 refine h_call rfl Try.func42 (by kernel_rfl) rfl (l01Below_h hR hn hp m) ?_; rintro _ w ⟨z, ⟨rfl, hz0, hz1⟩, hp⟩; refine ops_run nopre rfl ?_; (repeat (refine R_ret ?_))
 exact ⟨_, rfl, hp⟩
theorem l01New_h (a : Option Addr) (c : Nat) (code : List Int) (w0 : World) (hR : Rd w0 a 1 eU8 code) (hB : AllB code) (hl : code.length ≤ 1048576) :
  Ret Try.prog 40 [.slice a code.length c] w0 (fun v w => ∃ p, v = .pointer (some ⟨p, 0, none⟩) ∧ Hp w0 w [rCur p a code.length c]) := by
 have key : ∀ z : Int, 0 ≤ bits .and .i64 z 1073741823 ∧ bits .and .i64 z 1073741823 ≤ 1073741823 := fun z => by
  have := bits_and_mask z 30 (by decide)
  rw [show (2 : Int) ^ 30 - 1 = 1073741823 by decide, show (2 : Int) ^ 30 = 1073741824 by decide] at this
  rw [this]; omega
 refine enter Try.S40ok _ _ rfl rfl (by show _ ≤ _; simp only [List.length]; decide) (fun C => ?_); have hp := Hp.nil w0; refine h_run rfl ?_; skip
 refine h_loop2 [0, 3, 4] (fun (i : Nat) (h : Int) => [(0, .slice a code.length c), (3, .int .i64 h), (4, .int .i64 (i : Int))])
  (fun i h w' => i ≤ code.length ∧ (0 ≤ h ∧ h ≤ 2000000000) ∧ Hp w0 w' []) (fun i _ => code.length - i) 0 _ rfl ⟨by omega, by omega, hp⟩ ?_
 rintro i h w1 ⟨hi, hh, hp⟩ IH C
 refine h_run rfl ?_; skip
 refine h_guard_by (fun hlt => ?_) (fun hlt => ?_); all_goals (rw [hlt]; (first | replace hlt := of_decide_eq_true hlt | replace hlt := of_decide_eq_false hlt | skip); (repeat (refine gGuard ?_; first | refine h_guard_y rfl nopre rfl ?_ | refine h_guard_n rfl nopre rfl ?_)))
 ·refine h_cond_dec (fun h4 => ?_) (fun h4 => ?_)
  ·have hlt' : i < code.length := by omega
   have hb := hB i hlt'
   refine h_cond_t rfl rfl ?_; (repeat (refine H_ldEN hp rfl (by omega) rfl rfl ?_))
   have hk := key (h * 131 + code.getD i default + 7)
   exact IH (i + 1) _ _ _ _ (by omega) rfl ⟨by omega, by omega, hp⟩
  ·refine h_cond_f rfl rfl ?_; skip
   (first | refine H_box hp ?_ | refine H_alloc hp rfl ?_); intro w p hx hp; refine ops_run nopre rfl ?_; (repeat (refine R_ret ?_))
   exact ⟨p, rfl, cur_shut (by omega) hp⟩
 ·refine h_cond_f rfl rfl ?_; skip
  (first | refine H_box hp ?_ | refine H_alloc hp rfl ?_); intro w p hx hp; refine ops_run nopre rfl ?_; (repeat (refine R_ret ?_))
  exact ⟨p, rfl, cur_shut (by omega) hp⟩
end Go.Proofs
