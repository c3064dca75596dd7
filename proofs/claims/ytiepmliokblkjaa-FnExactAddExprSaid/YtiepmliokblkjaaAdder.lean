/- The contracts of the program's adder: single steps; each under its stated conditions. -/
import Derived.Test.YtiepmliokblkjaaExprSim
import Derived.Test.YtiepmliokblkjaaTwo
import Derived.Test.YtiepmliokblkjaaOps
set_option linter.all false
namespace Go.Proofs
open Go.Xw
set_option maxRecDepth 100000
set_option maxHeartbeats 2000000
attribute [local irreducible] Holds elemAddr
theorem keep_h (lit : Int) (bx p wd : Nat) (sv : Value) (bad : Bool) {w0 w1 : World} {L : List Res} (hp1 : Hp w0 w1 (rB bx 72 [.pointer (some ⟨p, 0, none⟩), sv, .int .i64 (wd : Int), .bool bad] :: L)) :
  Ret Try.prog 89 [.pointer (some ⟨bx, 0, none⟩), .int .i64 lit] w1 (fun v w' => v = .int .i64 (if lit < 0 then 0 else lit) ∧ Hp w0 w' (rB bx 72 [.pointer (some ⟨p, 0, none⟩), sv, .int .i64 (wd : Int), .bool (if lit < 0 then true else bad)] :: L)) := by
 refine enter Try.S89ok _ _ rfl rfl (by show _ ≤ _; simp only [List.length]; decide) (fun C => ?_); have hp := hp1; refine h_run rfl ?_
 skip
 refine h_cond_dec (fun h => ?_) (fun h => ?_)
 ·rw [if_pos h, if_pos h]
  refine h_cond_t rfl rfl ?_; (repeat (first | (refine gStore ?_; refine U_stB hp rfl rfl rfl rfl ?_; intro w hp; refine ops_run nopre rfl ?_) | refine R_ret ?_))
  exact ⟨rfl, hp⟩
 ·rw [if_neg h, if_neg h]
  refine h_cond_f rfl rfl ?_; (repeat (refine R_ret ?_))
  exact ⟨rfl, hp⟩
theorem adAnd_h (y : NetA) (s : NetL × Bool) (hs : s.1 = { y.n with ands := s.1.ands }) (hok : NetOkP s.1) (a b : Int) (ha : litP a (nodesL s.1)) (hb : litP b (nodesL s.1)) (bx p wd : Nat) (sv : Value) (aa : Option Addr) (ac : Nat) {w0 w1 : World} {L : List Res} (hp1 : Hp w0 w1 (rB bx 72 [.pointer (some ⟨p, 0, none⟩), sv, .int .i64 (wd : Int), .bool s.2] :: rB p 35 (y.wA aa ac s.1.ands).cs :: rO 86 2 eII aa ac s.1.ands :: L)) :
  Ret Try.prog 74 [.pointer (some ⟨bx, 0, none⟩), .int .i64 a, .int .i64 b] w1 (fun v w' => ∃ aa' ac', v = .int .i64 (adP.and s a b).2 ∧ Hp w0 w' (rB bx 72 [.pointer (some ⟨p, 0, none⟩), sv, .int .i64 (wd : Int), .bool (adP.and s a b).1.2] :: rB p 35 (y.wA aa' ac' (adP.and s a b).1.1.ands).cs :: rO 86 2 eII aa' ac' (adP.and s a b).1.1.ands :: L)) := by
 have hyn : (y.wA aa ac s.1.ands).n = s.1 := hs.symm
 have hyo : NetOkP (y.wA aa ac s.1.ands).n := by rw [hyn]; exact hok
 have hcnt := hok.count
 refine enter Try.S74ok _ _ rfl rfl (by show _ ≤ _; simp only [List.length]; decide) (fun C => ?_); have hp := hp1; refine h_run rfl ?_
 (repeat (refine H_ldB hp rfl rfl ?_))
 refine h_call rfl Try.func90 (by kernel_rfl) rfl (addAnd_h (y.wA aa ac s.1.ands) p a b (hp.f2.f2) hyo.b (by show s.1.ands.length ≤ _; omega) (by unfold litP at ha; omega) (by unfold litP at hb; omega)) ?_; rintro _ w ⟨aa', ac', rfl, hp⟩; refine ops_run nopre rfl ?_; skip
 rw [hyn] at hp ⊢
 have hp := hp.f1.f1.f2
 refine h_call rfl Try.func89 (by kernel_rfl) rfl (keep_h (addAndL s.1 a b).2 bx p wd sv s.2 hp) ?_; rintro _ w ⟨rfl, hp⟩; refine ops_run nopre rfl ?_; (repeat (refine R_ret ?_))
 have e : adP.and s a b = if (addAndL s.1 a b).2 < 0 then (((addAndL s.1 a b).1, true), 0) else (((addAndL s.1 a b).1, s.2), (addAndL s.1 a b).2) := rfl
 by_cases h0 : (addAndL s.1 a b).2 < 0
 ·rw [if_pos h0] at e hp ⊢
  rw [e]
  exact ⟨aa', ac', rfl, hp⟩
 ·rw [if_neg h0] at e hp ⊢
  rw [e]
  exact ⟨aa', ac', rfl, hp⟩
theorem adOr_h (y : NetA) (s : NetL × Bool) (hs : s.1 = { y.n with ands := s.1.ands }) (hok : NetOkP s.1) (a b : Int) (ha : litP a (nodesL s.1)) (hb : litP b (nodesL s.1)) (bx p wd : Nat) (sv : Value) (aa : Option Addr) (ac : Nat) {w0 w1 : World} {L : List Res} (hp1 : Hp w0 w1 (rB bx 72 [.pointer (some ⟨p, 0, none⟩), sv, .int .i64 (wd : Int), .bool s.2] :: rB p 35 (y.wA aa ac s.1.ands).cs :: rO 86 2 eII aa ac s.1.ands :: L)) :
  Ret Try.prog 75 [.pointer (some ⟨bx, 0, none⟩), .int .i64 a, .int .i64 b] w1 (fun v w' => ∃ aa' ac', v = .int .i64 (adP.or s a b).2 ∧ Hp w0 w' (rB bx 72 [.pointer (some ⟨p, 0, none⟩), sv, .int .i64 (wd : Int), .bool (adP.or s a b).1.2] :: rB p 35 (y.wA aa' ac' (adP.or s a b).1.1.ands).cs :: rO 86 2 eII aa' ac' (adP.or s a b).1.1.ands :: L)) := by
 have hyn : (y.wA aa ac s.1.ands).n = s.1 := hs.symm
 have hyo : NetOkP (y.wA aa ac s.1.ands).n := by rw [hyn]; exact hok
 have hcnt := hok.count
 refine enter Try.S75ok _ _ rfl rfl (by show _ ≤ _; simp only [List.length]; decide) (fun C => ?_); have hp := hp1; refine h_run rfl ?_
 (repeat (refine H_ldB hp rfl rfl ?_))
 refine h_call rfl Try.func91 (by kernel_rfl) rfl (addOr_h (y.wA aa ac s.1.ands) p a b (hp.f2.f2) hyo (by rw [hyn]; exact ha) (by rw [hyn]; exact hb)) ?_; rintro _ w ⟨aa', ac', rfl, hp⟩; refine ops_run nopre rfl ?_; skip
 rw [hyn] at hp ⊢
 have hp := hp.f1.f1.f2
 refine h_call rfl Try.func89 (by kernel_rfl) rfl (keep_h (addOrL s.1 a b).2 bx p wd sv s.2 hp) ?_; rintro _ w ⟨rfl, hp⟩; refine ops_run nopre rfl ?_; (repeat (refine R_ret ?_))
 have e : adP.or s a b = if (addOrL s.1 a b).2 < 0 then (((addOrL s.1 a b).1, true), 0) else (((addOrL s.1 a b).1, s.2), (addOrL s.1 a b).2) := rfl
 by_cases h0 : (addOrL s.1 a b).2 < 0
 ·rw [if_pos h0] at e hp ⊢
  rw [e]
  exact ⟨aa', ac', rfl, hp⟩
 ·rw [if_neg h0] at e hp ⊢
  rw [e]
  exact ⟨aa', ac', rfl, hp⟩
theorem adXor_h (y : NetA) (s : NetL × Bool) (hs : s.1 = { y.n with ands := s.1.ands }) (hok : NetOkP s.1) (a b : Int) (ha : litP a (nodesL s.1)) (hb : litP b (nodesL s.1)) (bx p wd : Nat) (sv : Value) (aa : Option Addr) (ac : Nat) {w0 w1 : World} {L : List Res} (hp1 : Hp w0 w1 (rB bx 72 [.pointer (some ⟨p, 0, none⟩), sv, .int .i64 (wd : Int), .bool s.2] :: rB p 35 (y.wA aa ac s.1.ands).cs :: rO 86 2 eII aa ac s.1.ands :: L)) :
  Ret Try.prog 76 [.pointer (some ⟨bx, 0, none⟩), .int .i64 a, .int .i64 b] w1 (fun v w' => ∃ aa' ac', v = .int .i64 (adP.xor s a b).2 ∧ Hp w0 w' (rB bx 72 [.pointer (some ⟨p, 0, none⟩), sv, .int .i64 (wd : Int), .bool (adP.xor s a b).1.2] :: rB p 35 (y.wA aa' ac' (adP.xor s a b).1.1.ands).cs :: rO 86 2 eII aa' ac' (adP.xor s a b).1.1.ands :: L)) := by
 have hyn : (y.wA aa ac s.1.ands).n = s.1 := hs.symm
 have hyo : NetOkP (y.wA aa ac s.1.ands).n := by rw [hyn]; exact hok
 have hcnt := hok.count
 refine enter Try.S76ok _ _ rfl rfl (by show _ ≤ _; simp only [List.length]; decide) (fun C => ?_); have hp := hp1; refine h_run rfl ?_
 (repeat (refine H_ldB hp rfl rfl ?_))
 refine h_call rfl Try.func92 (by kernel_rfl) rfl (addXor_h (y.wA aa ac s.1.ands) p a b (hp.f2.f2) hyo (by rw [hyn]; exact ha) (by rw [hyn]; exact hb)) ?_; rintro _ w ⟨aa', ac', rfl, hp⟩; refine ops_run nopre rfl ?_; skip
 rw [hyn] at hp ⊢
 have hp := hp.f1.f1.f2
 refine h_call rfl Try.func89 (by kernel_rfl) rfl (keep_h (addXorL s.1 a b).2 bx p wd sv s.2 hp) ?_; rintro _ w ⟨rfl, hp⟩; refine ops_run nopre rfl ?_; (repeat (refine R_ret ?_))
 have e : adP.xor s a b = if (addXorL s.1 a b).2 < 0 then (((addXorL s.1 a b).1, true), 0) else (((addXorL s.1 a b).1, s.2), (addXorL s.1 a b).2) := rfl
 by_cases h0 : (addXorL s.1 a b).2 < 0
 ·rw [if_pos h0] at e hp ⊢
  rw [e]
  exact ⟨aa', ac', rfl, hp⟩
 ·rw [if_neg h0] at e hp ⊢
  rw [e]
  exact ⟨aa', ac', rfl, hp⟩
theorem adMux_h (y : NetA) (s : NetL × Bool) (hs : s.1 = { y.n with ands := s.1.ands }) (hok : NetOkP s.1) (c a b : Int) (hc : litP c (nodesL s.1)) (ha : litP a (nodesL s.1)) (hb : litP b (nodesL s.1)) (bx p wd : Nat) (sv : Value) (aa : Option Addr) (ac : Nat) {w0 w1 : World} {L : List Res} (hp1 : Hp w0 w1 (rB bx 72 [.pointer (some ⟨p, 0, none⟩), sv, .int .i64 (wd : Int), .bool s.2] :: rB p 35 (y.wA aa ac s.1.ands).cs :: rO 86 2 eII aa ac s.1.ands :: L)) :
  Ret Try.prog 79 [.pointer (some ⟨bx, 0, none⟩), .int .i64 c, .int .i64 a, .int .i64 b] w1 (fun v w' => ∃ aa' ac', v = .int .i64 (adP.mux s c a b).2 ∧ Hp w0 w' (rB bx 72 [.pointer (some ⟨p, 0, none⟩), sv, .int .i64 (wd : Int), .bool (adP.mux s c a b).1.2] :: rB p 35 (y.wA aa' ac' (adP.mux s c a b).1.1.ands).cs :: rO 86 2 eII aa' ac' (adP.mux s c a b).1.1.ands :: L)) := by
 have hyn : (y.wA aa ac s.1.ands).n = s.1 := hs.symm
 have hyo : NetOkP (y.wA aa ac s.1.ands).n := by rw [hyn]; exact hok
 have hcnt := hok.count
 refine enter Try.S79ok _ _ rfl rfl (by show _ ≤ _; simp only [List.length]; decide) (fun C => ?_); have hp := hp1; refine h_run rfl ?_
 (repeat (refine H_ldB hp rfl rfl ?_))
 refine h_call rfl Try.func94 (by kernel_rfl) rfl (addMux_h (y.wA aa ac s.1.ands) p c a b (hp.f2.f2) hyo (by rw [hyn]; exact hc) (by rw [hyn]; exact ha) (by rw [hyn]; exact hb)) ?_; rintro _ w ⟨aa', ac', rfl, hp⟩; refine ops_run nopre rfl ?_; skip
 rw [hyn] at hp ⊢
 have hp := hp.f1.f1.f2
 refine h_call rfl Try.func89 (by kernel_rfl) rfl (keep_h (addMuxL s.1 c a b).2 bx p wd sv s.2 hp) ?_; rintro _ w ⟨rfl, hp⟩; refine ops_run nopre rfl ?_; (repeat (refine R_ret ?_))
 have e : adP.mux s c a b = if (addMuxL s.1 c a b).2 < 0 then (((addMuxL s.1 c a b).1, true), 0) else (((addMuxL s.1 c a b).1, s.2), (addMuxL s.1 c a b).2) := rfl
 by_cases h0 : (addMuxL s.1 c a b).2 < 0
 ·rw [if_pos h0] at e hp ⊢
  rw [e]
  exact ⟨aa', ac', rfl, hp⟩
 ·rw [if_neg h0] at e hp ⊢
  rw [e]
  exact ⟨aa', ac', rfl, hp⟩
end Go.Proofs
