/- The contract of the drawn net with a node; no condition but the stated ones. -/
import Derived.Test.YtninddlngpmpaaaDrawDeep
set_option linter.all false
namespace Go.Proofs
open Go.Xw
set_option maxRecDepth 100000
set_option maxHeartbeats 2000000
attribute [local irreducible] Holds elemAddr
theorem DrawNode_h (a : Option Addr) (c : Nat) (code : List Int) (w0 : World) (hR : Rd w0 a 1 eU8 code) (hB : AllB code) (hl : code.length ≤ 1048576) :
    Ret Try.prog 20 [.slice a code.length c] w0 (fun v w => ∃ y k, (NetOkP y.n ∧ k < nds y.n ∧ v = .tuple ⟨[y.v, .int .i64 (k : Int)]⟩) ∧ Hp w0 w [rNet y]) := by
  refine enter Try.S20ok _ _ rfl rfl (by show _ ≤ _; simp only [List.length]; decide) (fun C => ?_); have hp := Hp.nil w0; refine h_run rfl ?_; skip; (first | (refine H_box hp ?_; intro w b2 hx hp) | (refine H_alloc hp rfl ?_; intro w b2 hx hp)); refine ops_run nopre rfl ?_; skip
  refine h_call rfl Try.func63 (by kernel_rfl) rfl (l01New_h a c code _ hp.rd hB hl) ?_; rintro _ w ⟨p, rfl, hq⟩; have hx := hq.x; have hp := hp.call1 hq; refine ops_run nopre rfl ?_; skip
  refine h_call rfl Try.func70 (by kernel_rfl) rfl (l08Net_h hR rfl hp) ?_; rintro _ w ⟨y, ⟨hok, rfl⟩, hp⟩; refine ops_run nopre rfl ?_; skip
  (first | (refine H_box hp ?_; intro w b5 hx hp) | (refine H_alloc hp rfl ?_; intro w b5 hx hp)); refine ops_run nopre rfl ?_; (repeat (refine U_stBN hp rfl rfl rfl rfl ?_; intro w hp; refine ops_run nopre rfl ?_))
  have hnd := hok.nums.n2
  have hN : nodeCountL y.n = (nds y.n : Int) := by unfold nodeCountL; rw [if_pos hok.size, hnd]
  have hp0 : 0 < nds y.n := by have := hok.nums.n1; have := hok.count; omega
  have hp := hp.f3.f2.f2.f3
  refine N_draw hp (by kernel_rfl) (by kernel_rfl) rfl rfl ?_; (repeat (refine N_ldB rfl rfl rfl ?_))
  refine N_call Try.func22 (by kernel_rfl) rfl (fun F w hp => ?_); refine Ret.mono (nodeCount_N y (nds y.n : Int) hN _) ?_; rintro _ w ⟨rfl, hx⟩; have hp := hp.ext hx; refine ⟨fun _ => hp.sub (by (repeat (first | exact List.sublist_append_left _ _ | apply List.Sublist.cons))), _, hp, ?_⟩; clear hp; refine N_ops rfl rfl ?_; skip
  refine N_call Try.func65 (by kernel_rfl) rfl (fun F w hp => ?_); refine Ret.mono (l01Below_F hR rfl hp (nds y.n : Int)) ?_; rintro _ w ⟨z, ⟨rfl, _, hz⟩, hp⟩; refine ⟨fun _ => hp.pre, _, hp, ?_⟩; clear hp; refine N_ops rfl rfl ?_; (repeat (refine N_stBN rfl rfl rfl rfl (by kernel_rfl) ?_; refine N_ops rfl rfl ?_))
  refine N_end ?_; intro w hp C; refine h_run rfl ?_; (repeat (refine R_ret2v hp rfl ?_))
  have hz2 := hz (by omega)
  obtain ⟨k, rfl⟩ := Int.eq_ofNat_of_zero_le hz2.1
  exact ⟨y, k, ⟨hok, by omega, rfl⟩, (hp.f1.f1.f2).tk 1⟩
end Go.Proofs
