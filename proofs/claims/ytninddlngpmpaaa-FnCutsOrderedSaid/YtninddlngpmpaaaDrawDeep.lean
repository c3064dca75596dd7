/- The contracts of the functions that draw nets with long conjunctions; each under its stated conditions. -/
import Derived.Test.YtninddlngpmpaaaDrawNet
set_option linter.all false
namespace Go.Proofs
open Go.Xw
set_option maxRecDepth 100000
set_option maxHeartbeats 4000000
attribute [local irreducible] Holds elemAddr
theorem nodeCount_N (x : NetA) (N : Int) (h : nodeCountL x.n = N) (w0 : World) : Ret Try.prog 22 [x.v] w0 (fun v w => v = .int .i64 N ∧ Ext w0 w) := by rw [← h]; exact specNodeCount_h x w0
theorem l12Chain_h {w0 w : World} {L : List Res} {p : Nat} {a : Option Addr} {n c : Nat} {code : List Int} (hR : Rd w0 a 1 eU8 code) (hn : code.length = n) (hp : Hp w0 w (rCur p a n c :: L)) :
    Ret Try.prog 97 [.pointer (some ⟨p, 0, none⟩)] w (fun v w' => ∃ y, (NetOkP y.n ∧ v = y.v) ∧ Hp w0 w' (rNet y :: rCur p a n c :: L)) := by
  refine enter Try.S97ok _ _ rfl rfl (by show _ ≤ _; simp only [List.length]; decide) (fun C => ?_); refine h_run rfl ?_; skip
  (first | (refine H_box hp ?_; intro w b2 hx hp) | (refine H_alloc hp rfl ?_; intro w b2 hx hp)); refine ops_run nopre rfl ?_; skip
  refine h_call rfl Try.func116 (by kernel_rfl) rfl (l08Sized_h hR hn hp.f1 6 1 3 (by decide) (by decide) (by decide)) ?_; rintro _ w ⟨y, ⟨hok, ⟨hin, hya⟩, rfl⟩, hp⟩; refine ops_run nopre rfl ?_; skip
  (first | (refine H_box hp ?_; intro w b3 hx hp) | (refine H_alloc hp rfl ?_; intro w b3 hx hp)); refine ops_run nopre rfl ?_; (repeat (refine U_stBN hp rfl rfl rfl rfl ?_; intro w hp; refine ops_run nopre rfl ?_))
  have hsz := hok.size'
  refine h_call rfl Try.func65 (by kernel_rfl) rfl (l01Below_h hR hn hp.f2 12) ?_; rintro _ w ⟨z, ⟨rfl, _, hz⟩, hp⟩; refine ops_run nopre rfl ?_; skip
  have hz := hz (by decide)
  have hp := (rNet_open hp.f2).f2.f1.f4.f3.f4
  obtain ⟨k0, hk0⟩ : ∃ k0 : Nat, 2 + z = (k0 : Int) := ⟨(2 + z).toNat, by omega⟩
  refine h_loop4 [0, 2, 3, 4] (fun (k : Nat) (_ : List (Int × Int)) (_ : Option Addr) (_ : Nat) => [(0, .pointer (some ⟨p, 0, none⟩)), (2, .pointer (some ⟨b2, 0, none⟩)), (3, .pointer (some ⟨b3, 0, none⟩)), (4, .int .i64 (k : Int))])
    (fun k A aa ac w' => ((2 ≤ A.length + k ∧ A.length + k ≤ 20) ∧ NetOkP { y.n with ands := A }) ∧ Hp w0 w' (rCur p a n c :: rO 94 2 eII aa ac A :: rB b3 32 [.int .i64 y.inputs, .slice y.sa y.seqs.length y.sc, .slice aa (A).length ac, .slice y.oa y.outs.length y.oc] :: rSq y.sa y.sc y.seqs :: rO 3 1 eI y.oa y.oc y.outs :: rB b2 32 (cellsV Try.ti32.zero) :: L)) (fun k _ _ _ => k) k0 y.ands y.aa y.ac (by rw [← hk0]; rfl)
    ⟨⟨⟨by omega, by omega⟩, hok⟩, hp⟩ ?_
  clear hp
  rintro k A aa ac w1 ⟨⟨⟨hk1, hk2⟩, hA⟩, hp⟩ IH C
  obtain ⟨N, hN⟩ : ∃ N, N = nodesL { y.n with ands := A } := ⟨_, rfl⟩
  have hNe : N = 1 + y.inputs + y.seqs.length + A.length := by rw [hN]; unfold nodesL; dsimp only; rw [y.slen]; rfl
  have hNc : nodeCountL (y.wA aa ac A).n = N := by rw [hN]; exact if_pos hA.size
  refine h_run rfl ?_; skip
  refine h_cond_dec (fun hgt => ?_) (fun hgt => ?_)
  · refine h_cond_t rfl rfl ?_; (repeat (refine H_ldB hp rfl rfl ?_))
    refine h_call rfl Try.func22 (by kernel_rfl) rfl (nodeCount_N (y.wA aa ac A) N hNc _) ?_; rintro _ w ⟨rfl, hx⟩; have hp := hp.ext hx; refine ops_run nopre rfl ?_; skip
    refine N_draw hp (by kernel_rfl) (by kernel_rfl) rfl rfl ?_; (repeat (refine N_ldB rfl rfl rfl ?_))
    refine N_call Try.func65 (by kernel_rfl) rfl (fun F w hp => ?_); refine Ret.mono (l01Below_F hR hn hp (2 * N)) ?_; rintro _ w ⟨q1, ⟨rfl, _, hq1⟩, hp⟩; refine ⟨fun _ => hp.pre, _, hp, ?_⟩; clear hp; refine N_ops rfl rfl ?_; skip
    have hq1 := hq1 (by omega)
    refine N_call Try.func65 (by kernel_rfl) rfl (fun F w hp => ?_); refine Ret.mono (l01Below_F hR hn hp 8) ?_; rintro _ w ⟨q2, ⟨rfl, _, hq2⟩, hp⟩; refine ⟨fun _ => hp.pre, _, hp, ?_⟩; clear hp; refine N_ops rfl rfl ?_; skip
    have hq2 := hq2 (by decide)
    refine N_lit eII [(q1, 2 * N - 2 + q2 / 7)] rfl rfl rfl rfl (s := 2) rfl (by decide) (by infer_instance) (by rfl) (by rfl) (by rfl) (by decide) ?_; intro b30; refine N_ops rfl rfl ?_; skip
    refine N_append rfl rfl rfl rfl rfl rfl rfl (by decide) rfl (by first | omega | (simp only [List.length_append, List.length_cons, List.length_nil, List.length_take, List.length_drop, List.length_set, List.length_replicate, List.length_map]; omega)) rfl rfl (fun hq => Bool.noConfusion (hq.symm.trans (by kernel_rfl : flagAt _ _ = false))) ?_; intro aa' ac' hnil; refine N_ops rfl rfl ?_; (repeat (refine N_stB rfl rfl rfl rfl (by kernel_rfl) ?_; refine N_ops rfl rfl ?_))
    refine N_end ?_; intro w hp C; refine h_run rfl ?_; skip
    refine IH (k - 1) (A ++ [(q1, 2 * N - 2 + q2 / 7)]) aa' ac' _ _ _ (by omega) (by rw [show ((k - 1 : Nat) : Int) = (k : Int) - 1 by omega]; rfl) ⟨⟨⟨by simp; omega, by simp; omega⟩, hA.snoc (x := (q1, 2 * N - 2 + q2 / 7)) ?_ ?_ (by show A.length < 300; omega)⟩, hp.drop⟩
    · rw [← hN]; unfold litP; dsimp only; omega
    · rw [← hN]; unfold litP; dsimp only; omega
  · obtain rfl : k = 0 := by omega
    refine h_cond_f rfl rfl ?_; skip
    refine N_draw hp (by kernel_rfl) (by kernel_rfl) rfl rfl ?_; (repeat (refine N_ldB rfl rfl rfl ?_))
    refine N_call Try.func22 (by kernel_rfl) rfl (fun F w hp => ?_); refine Ret.mono (nodeCount_N (y.wA aa ac A) N hNc _) ?_; rintro _ w ⟨rfl, hx⟩; have hp := hp.ext hx; refine ⟨fun _ => hp.sub (by (repeat (first | exact List.sublist_append_left _ _ | apply List.Sublist.cons))), _, hp, ?_⟩; clear hp; refine N_ops rfl rfl ?_; (repeat (refine N_ldB rfl rfl rfl ?_))
    refine N_call Try.func22 (by kernel_rfl) rfl (fun F w hp => ?_); refine Ret.mono (nodeCount_N (y.wA aa ac A) N hNc _) ?_; rintro _ w ⟨rfl, hx⟩; have hp := hp.ext hx; refine ⟨fun _ => hp.sub (by (repeat (first | exact List.sublist_append_left _ _ | apply List.Sublist.cons))), _, hp, ?_⟩; clear hp; refine N_ops rfl rfl ?_; skip
    refine N_call Try.func65 (by kernel_rfl) rfl (fun F w hp => ?_); refine Ret.mono (l01Below_F hR hn hp 6) ?_; rintro _ w ⟨q3, ⟨rfl, _, hq3⟩, hp⟩; refine ⟨fun _ => hp.pre, _, hp, ?_⟩; clear hp; refine N_ops rfl rfl ?_; (repeat (first | (refine nStore ?_; refine N_stB rfl rfl rfl rfl (by kernel_rfl) ?_; refine N_ops rfl rfl ?_) | (refine nBuild ?_; refine N_litI rfl rfl rfl rfl rfl rfl rfl rfl rfl rfl ?_; intro _; refine N_ops rfl rfl ?_)))
    have hq3 := hq3 (by decide)
    rename_i b30
    refine N_end ?_; intro w hp C; refine h_run rfl ?_; (repeat (first | (refine gLoad ?_; refine H_ldB hp rfl rfl ?_) | (refine gStore ?_; refine U_stBN hp rfl rfl rfl rfl ?_; intro w hp; refine ops_run nopre rfl ?_) | (refine gRetc ?_; refine R_ret1 hp rfl ?_)))
    refine ⟨NetA.mk y.inputs y.seqs y.sa y.sc A aa ac [2 * N - 2, 2 * N - 1 - q3] (some ⟨b30, 0, none⟩) [2 * N - 2, 2 * N - 1 - q3].length, ⟨?_, rfl⟩, ?_⟩
    · have hz : (NetA.mk y.inputs y.seqs y.sa y.sc A aa ac [2 * N - 2, 2 * N - 1 - q3] (some ⟨b30, 0, none⟩) [2 * N - 2, 2 * N - 1 - q3].length).n = { y.n with ands := A, outs := [2 * N - 2, 2 * N - 1 - q3] } := rfl
      have hnd : nodesL { y.n with ands := A, outs := [2 * N - 2, 2 * N - 1 - q3] } = N := hN.symm
      obtain ⟨s1, s2, s3, s4⟩ := hA.size
      rw [hz]
      refine .mk' ⟨s1, s2, s3, by show [2 * N - 2, 2 * N - 1 - q3].length ≤ 16; simp⟩ hA.sq (fun o ho => ?_) (fun t ht l hl => by rw [hnd, hN]; exact hA.inp ht l hl) (fun q hq => hA.ands q hq)
      have ho : o ∈ [2 * N - 2, 2 * N - 1 - q3] := ho
      simp only [List.mem_cons, List.mem_nil_iff, or_false] at ho
      rw [hnd]
      unfold litP
      rcases ho with rfl | rfl <;> omega
    · have hp := rNet_shut (x := NetA.mk y.inputs y.seqs y.sa y.sc A aa ac [2 * N - 2, 2 * N - 1 - q3] (some ⟨b30, 0, none⟩) [2 * N - 2, 2 * N - 1 - q3].length) (hp.f2.f4)
      exact hp.f2.drop.f2.drop.f2.drop
theorem l08Net_h {w0 w : World} {L : List Res} {p : Nat} {a : Option Addr} {n c : Nat} {code : List Int} (hR : Rd w0 a 1 eU8 code) (hn : code.length = n) (hp : Hp w0 w (rCur p a n c :: L)) :
    Ret Try.prog 70 [.pointer (some ⟨p, 0, none⟩)] w (fun v w' => ∃ y, (NetOkP y.n ∧ v = y.v) ∧ Hp w0 w' (rNet y :: rCur p a n c :: L)) := by
  refine enter Try.S70ok _ _ rfl rfl (by show _ ≤ _; simp only [List.length]; decide) (fun C => ?_); refine h_run rfl ?_; skip
  (first | (refine H_box hp ?_; intro w b2 hx hp) | (refine H_alloc hp rfl ?_; intro w b2 hx hp)); refine ops_run nopre rfl ?_; skip
  refine h_call rfl Try.func116 (by kernel_rfl) rfl (l08Sized_h hR hn hp.f1 4 3 14 (by decide) (by decide) (by decide)) ?_; rintro _ w ⟨y, ⟨hok, _, rfl⟩, hp⟩; refine ops_run nopre rfl ?_; (repeat (first | (refine gStore ?_; refine U_stBN hp rfl rfl rfl rfl ?_; intro w hp; refine ops_run nopre rfl ?_) | (refine gRetc ?_; refine R_ret1 hp rfl ?_)))
  exact ⟨y, ⟨hok, rfl⟩, hp.f2.drop⟩
theorem DrawDeep_h (a : Option Addr) (c : Nat) (code : List Int) (w0 : World) (hR : Rd w0 a 1 eU8 code) (hB : AllB code) (hl : code.length ≤ 1048576) :
    Ret Try.prog 45 [.slice a code.length c] w0 (fun v w => ∃ y, (NetOkP y.n ∧ v = y.v) ∧ Hp w0 w [rNet y]) := by
  refine enter Try.S45ok _ _ rfl rfl (by show _ ≤ _; simp only [List.length]; decide) (fun C => ?_); have hp := Hp.nil w0; refine h_run rfl ?_; skip; (first | (refine H_box hp ?_; intro w b2 hx hp) | (refine H_alloc hp rfl ?_; intro w b2 hx hp)); refine ops_run nopre rfl ?_; skip
  refine h_call rfl Try.func63 (by kernel_rfl) rfl (l01New_h a c code _ hp.rd hB hl) ?_; rintro _ w ⟨p, rfl, hq⟩; have hx := hq.x; have hp := hp.call1 hq; refine ops_run nopre rfl ?_; skip
  refine h_call rfl Try.func96 (by kernel_rfl) rfl (l01Once_h hR rfl hp 2) ?_; rintro _ w ⟨bb, rfl, hp⟩; refine ops_run nopre rfl ?_; skip
  cases bb
  · refine h_cond_f rfl rfl ?_; skip
    refine h_call rfl Try.func70 (by kernel_rfl) rfl (l08Net_h hR rfl hp) ?_; rintro _ w ⟨y, ⟨hok, rfl⟩, hp⟩; refine ops_run nopre rfl ?_; (repeat (first | (refine gStore ?_; refine U_stBN hp rfl rfl rfl rfl ?_; intro w hp; refine ops_run nopre rfl ?_) | (refine gRetc ?_; refine R_ret1 hp rfl ?_)))
    exact ⟨y, ⟨hok, rfl⟩, Hp.tk hp 1⟩
  · refine h_cond_t rfl rfl ?_; skip
    refine h_call rfl Try.func97 (by kernel_rfl) rfl (l12Chain_h hR rfl hp) ?_; rintro _ w ⟨y, ⟨hok, rfl⟩, hp⟩; refine ops_run nopre rfl ?_; (repeat (first | (refine gStore ?_; refine U_stBN hp rfl rfl rfl rfl ?_; intro w hp; refine ops_run nopre rfl ?_) | (refine gRetc ?_; refine R_ret1 hp rfl ?_)))
    exact ⟨y, ⟨hok, rfl⟩, Hp.tk hp 1⟩
theorem DrawNet_h (a : Option Addr) (c : Nat) (code : List Int) (w0 : World) (hR : Rd w0 a 1 eU8 code) (hB : AllB code) (hl : code.length ≤ 1048576) :
    Ret Try.prog 28 [.slice a code.length c] w0 (fun v w => ∃ y, (NetOkP y.n ∧ v = y.v) ∧ Hp w0 w [rNet y]) := by
  refine enter Try.S28ok _ _ rfl rfl (by show _ ≤ _; simp only [List.length]; decide) (fun C => ?_); have hp := Hp.nil w0; refine h_run rfl ?_; skip; (first | (refine H_box hp ?_; intro w b2 hx hp) | (refine H_alloc hp rfl ?_; intro w b2 hx hp)); refine ops_run nopre rfl ?_; skip
  refine h_call rfl Try.func63 (by kernel_rfl) rfl (l01New_h a c code _ hp.rd hB hl) ?_; rintro _ w ⟨p, rfl, hq⟩; have hx := hq.x; have hp := hp.call1 hq; refine ops_run nopre rfl ?_; skip
  refine h_call rfl Try.func70 (by kernel_rfl) rfl (l08Net_h hR rfl hp) ?_; rintro _ w ⟨y, ⟨hok, rfl⟩, hp⟩; refine ops_run nopre rfl ?_; (repeat (first | (refine gStore ?_; refine U_stBN hp rfl rfl rfl rfl ?_; intro w hp; refine ops_run nopre rfl ?_) | (refine gRetc ?_; refine R_ret1 hp rfl ?_)))
  exact ⟨y, ⟨hok, rfl⟩, Hp.tk hp 1⟩
end Go.Proofs
