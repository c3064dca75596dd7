/- The contracts of the functions that copy nets; each under its stated conditions. -/
import Derived.Test.YtiepmliokblkjaaGraph4
import Derived.Test.YtiepmliokblkjaaFam
set_option linter.all false
namespace Go.Xw
theorem rIns_add {w0 w : World} {L : List Res} {R : List SeqA} {y : SeqA} (h : Hp w0 w (rO 3 1 eI y.ia y.ic y.ins :: rIns R :: L)) : Hp w0 w (rIns (R ++ [y]) :: L) := by
 have h1 := h.f1.unpack
 refine Hp.pack (Hp.perm h1 ?_)
 simp only [List.map_append, List.map_cons, List.map_nil, List.append_assoc]
 exact .refl _
end Go.Xw
namespace Go.Proofs
open Go.Xw
set_option maxRecDepth 100000
set_option maxHeartbeats 1000000
attribute [local irreducible] Holds elemAddr
theorem seqsOf_snoc (R : List SeqA) (y : SeqA) : seqsOf (R ++ [y]) = seqsOf R ++ [y.s] := by simp [seqsOf]
theorem implCopySeqs_h (a : Option Addr) (c : Nat) (X : List SeqA) (w0 : World) (hX : SeqsR w0 a X) (hl : X.length ≤ 1048576) (hl2 : ∀ i, i < X.length → (X.getD i default).ins.length ≤ 1048576) :
  Ret Try.prog 70 [.slice a X.length c] w0 (fun v w => ∃ b c' R, (seqsOf R = seqsOf X ∧ v = .slice b R.length c') ∧ Hp w0 w [rSq b c' R]) := by
 have hr := hX.row
 refine enter Try.S70ok _ _ rfl rfl (by show _ ≤ _; simp only [List.length]; decide) (fun C => ?_); have hp := Hp.nil w0; refine h_run rfl ?_; skip
 refine h_loop4 [3, 6, 7, 8] (fun (i : Nat) (R : List SeqA) (b : Option Addr) (c' : Nat) => [(3, .slice b R.length c'), (6, .slice a X.length c), (7, .int .i64 X.length), (8, .int .i64 (i : Int))])
  (fun i R b c' w' => (i ≤ X.length ∧ R.length = i ∧ seqsOf R = (seqsOf X).take i) ∧ Hp w0 w' [rO 83 3 eSq b c' R, rIns R]) (fun i _ _ _ => X.length - i) 0 [] none 0 rfl ⟨⟨by omega, rfl, rfl⟩, (rIns_nil hp).ownN (Ext.refl _) (Own.nil _ _ _ _ _)⟩ ?_
 rintro i R b c' w1 ⟨⟨hi, hR, hRs⟩, hp⟩ IH C
 refine h_run rfl ?_; skip
 refine h_cond_dec (fun hlt => ?_) (fun hlt => ?_)
 ·have hlt' : i < X.length := by omega
  have hin := hX.at_ hlt'
  have hb := hl2 i hlt'
  refine h_cond_t rfl rfl ?_; (repeat (refine H_ldEN hp rfl (by omega) rfl rfl ?_))
  (first | refine H_box hp ?_ | refine H_alloc hp rfl ?_); intro w b5 hx hp; refine ops_run nopre rfl ?_; (repeat (refine U_stBN hp rfl rfl rfl rfl ?_; intro w hp; refine ops_run nopre rfl ?_))
  refine D_draw hp (by kernel_rfl) (by kernel_rfl) rfl rfl ?_; intro w hx hp; have hs := hp; (repeat (refine D_ldB rfl rfl rfl ?_))
  refine h_callq rfl Try.func71 (by kernel_rfl) rfl (copyInts_h _ _ (X.getD i default).ins _ hp.rd (by omega)) ?_; rintro _ w ⟨b6, c6, rfl, hq⟩; have hx := hq.x; have hp := hp.call1 hq; have hs := hs.ext hx; refine ⟨fun _ => hs, ?_⟩; refine D_ops rfl rfl ?_; skip
  refine D_lit (fun _ hx => hs.ext hx) hp eSq [⟨(X.getD i default).kind, (X.getD i default).init, (X.getD i default).ins, b6, c6⟩] rfl rfl rfl rfl (s := 3) rfl (by decide) (by infer_instance) (by rfl) (by rfl) (by rfl) (by decide) ?_; intro w b7 hx hp; have hs := hs.ext hx; refine D_ops rfl rfl ?_; skip
  refine V_append hp rfl rfl rfl rfl rfl rfl rfl (by decide) rfl (by first | omega | (simp only [List.length_append, List.length_cons, List.length_nil, List.length_take, List.length_drop, List.length_set, List.length_replicate, List.length_map]; omega)) rfl rfl (by kernel_rfl) ?_; intro b' c'' w hp hnil; refine D_ops rfl rfl ?_; skip
  have hp := rIns_add (y := ⟨(X.getD i default).kind, (X.getD i default).init, (X.getD i default).ins, b6, c6⟩) hp.drop.f1.drop.f2.f1
  refine IH (i + 1) _ b' c'' _ _ _ (by omega) rfl ⟨⟨by omega, by simp; omega, ?_⟩, hp.f1⟩
  rw [take_snoc (by rw [seqsOf_len]; exact hlt'), ← hRs, seqsOf_get, seqsOf_snoc]
  rfl
 ·refine h_cond_f rfl rfl ?_; (repeat (refine R_ret ?_))
  obtain rfl : i = X.length := by omega
  rw [← seqsOf_len X, List.take_length] at hRs
  exact ⟨b, c', R, ⟨hRs, rfl⟩, rSq_shut hp⟩
theorem implCopyNet_h (x : NetA) (w0 : World) (hX : NetR w0 x) (hS : NetS x.n) :
  Ret Try.prog 41 [x.v] w0 (fun v w => ∃ y, (y.n = x.n ∧ v = y.v) ∧ Hp w0 w [rNet y]) := by
 obtain ⟨s1, s2, s3, s4⟩ := hS
 rw [x.slen] at s1 s2
 simp only [x.sins] at s2
 have s3 : x.ands.length ≤ 1048576 := s3
 have s4 : x.outs.length ≤ 1048576 := s4
 refine enter Try.S41ok _ _ rfl rfl (by show _ ≤ _; simp only [List.length]; decide) (fun C => ?_); have hp := Hp.nil w0; refine h_run rfl ?_; skip; (first | refine H_box hp ?_ | refine H_alloc hp rfl ?_); intro w b1 hx hp; refine ops_run nopre rfl ?_; skip; (first | refine H_box hp ?_ | refine H_alloc hp rfl ?_); intro w b2 hx hp; refine ops_run nopre rfl ?_; skip
 refine N_draw hp (by kernel_rfl) (by kernel_rfl) rfl rfl ?_; (repeat (refine N_ldB rfl rfl rfl ?_))
 refine N_call Try.func70 (by kernel_rfl) rfl (fun F w hp => ?_); refine Ret.mono (implCopySeqs_h _ _ _ _ hp.net.seqs s1 s2) ?_; rintro _ w ⟨b5, c5, R, ⟨hR, rfl⟩, hq⟩; have hp := hp.callF1 hq; refine ⟨fun _ => hp.sub (by (repeat (first | exact List.sublist_append_left _ _ | apply List.Sublist.cons))), _, hp, ?_⟩; clear hp; refine N_ops rfl rfl ?_; skip
 refine N_lit eII ([] : List (Int × Int)) rfl rfl rfl rfl (s := 2) rfl (by decide) (by infer_instance) (by rfl) (by rfl) (by rfl) (by decide) ?_; intro b7; refine N_ops rfl rfl ?_; (repeat (refine N_ldB rfl rfl rfl ?_))
 refine N_append rfl rfl rfl rfl rfl rfl rfl (by decide) rfl (by first | omega | (simp only [List.length_append, List.length_cons, List.length_nil, List.length_take, List.length_drop, List.length_set, List.length_replicate, List.length_map]; omega)) rfl rfl (fun _ _ _ _ _ hp => hp.sub (by (repeat (first | exact List.sublist_append_left _ _ | apply List.Sublist.cons)))) ?_; intro b8 c8 hnil; refine N_ops rfl rfl ?_; (repeat (refine N_ldB rfl rfl rfl ?_))
 refine N_call Try.func71 (by kernel_rfl) rfl (fun F w hp => ?_); refine Ret.mono (copyInts_h _ _ x.outs _ hp.rd (by omega)) ?_; rintro _ w ⟨b9, c9, rfl, hq⟩; have hp := hp.callF1 hq; refine ⟨fun _ => hp.sub (by (repeat (first | exact List.sublist_append_left _ _ | apply List.Sublist.cons))), _, hp, ?_⟩; clear hp; refine N_ops rfl rfl ?_; (repeat (refine N_stBN rfl rfl rfl rfl (by kernel_rfl) ?_; refine N_ops rfl rfl ?_))
 refine N_end ?_; intro w hp C; refine h_run rfl ?_; (repeat (refine R_ret1 hp rfl ?_))
 refine ⟨⟨x.inputs, R, b5, c5, x.ands, b8, c8, x.outs, b9, c9⟩, ⟨by unfold NetA.n; rw [hR], rfl⟩, ?_⟩
 exact Hp.sub (rNet_shut (x := ⟨x.inputs, R, b5, c5, x.ands, b8, c8, x.outs, b9, c9⟩) hp.f1.f2) (by simp)
theorem specCopySeqs_h (a : Option Addr) (c : Nat) (X : List SeqA) (w0 : World) (hX : SeqsR w0 a X) (hl : X.length ≤ 1048576) (hl2 : ∀ i, i < X.length → (X.getD i default).ins.length ≤ 1048576) :
  Ret Try.prog 56 [.slice a X.length c] w0 (fun v w => ∃ b c' R, (seqsOf R = seqsOf X ∧ v = .slice b R.length c') ∧ Hp w0 w [rSq b c' R]) := by
 have hr := hX.row
 refine enter Try.S56ok _ _ rfl rfl (by show _ ≤ _; simp only [List.length]; decide) (fun C => ?_); have hp := Hp.nil w0; refine h_run rfl ?_; skip
 refine H_lit hp eSq ([] : List SeqA) rfl rfl rfl rfl (s := 3) rfl (by decide) (by infer_instance) (by rfl) (by rfl) (by rfl) (by decide) ?_; intro w b3 hx hp; refine ops_run nopre rfl ?_; skip
 refine h_loop4 [0, 3, 4] (fun (i : Nat) (R : List SeqA) (b : Option Addr) (c' : Nat) => [(0, .slice a X.length c), (3, .slice b R.length c'), (4, .int .i64 (i : Int))])
  (fun i R b c' w' => (i ≤ X.length ∧ R.length = i ∧ seqsOf R = (seqsOf X).take i) ∧ Hp w0 w' [rO 83 3 eSq b c' R, rIns R]) (fun i _ _ _ => X.length - i) 0 [] _ _ rfl ⟨⟨by omega, rfl, rfl⟩, (rIns_nil hp).f1⟩ ?_
 rintro i R b c' w1 ⟨⟨hi, hR, hRs⟩, hp⟩ IH C
 refine h_run rfl ?_; skip
 refine h_cond_dec (fun hlt => ?_) (fun hlt => ?_)
 ·have hlt' : i < X.length := by omega
  have hin := hX.at_ hlt'
  have hb := hl2 i hlt'
  refine h_cond_t rfl rfl ?_; skip
  refine D_draw hp (by kernel_rfl) (by kernel_rfl) rfl rfl ?_; intro w hx hp; have hs := hp; (repeat (first | (refine gLoad ?_; refine D_ldFN rfl (by omega) rfl rfl rfl ?_) | (refine gBuild ?_; refine V_litI (fun _ hx => hs.ext hx) hp rfl rfl rfl rfl rfl rfl rfl rfl rfl rfl ?_; intro w _ hx hp; have hs := hs.ext hx; refine D_ops rfl rfl ?_)))
  refine V_appendF hp rfl rfl rfl rfl rfl rfl rfl (by decide) rfl (by first | omega | (simp only [List.length_append, List.length_cons, List.length_nil, List.length_take, List.length_drop, List.length_set, List.length_replicate, List.length_map]; omega)) rfl rfl (fun _ _ _ hp => hp.drop) ?_; intro b6 c6 w hp hnil; have hs := hp.drop; refine D_ops rfl rfl ?_; skip
  refine D_lit (fun _ hx => hs.ext hx) hp eSq [⟨(X.getD i default).kind, (X.getD i default).init, (X.getD i default).ins, b6, c6⟩] rfl rfl rfl rfl (s := 3) rfl (by decide) (by infer_instance) (by rfl) (by rfl) (by rfl) (by decide) ?_; intro w b7 hx hp; have hs := hs.ext hx; refine D_ops rfl rfl ?_; skip
  refine V_append hp rfl rfl rfl rfl rfl rfl rfl (by decide) rfl (by first | omega | (simp only [List.length_append, List.length_cons, List.length_nil, List.length_take, List.length_drop, List.length_set, List.length_replicate, List.length_map]; omega)) rfl rfl (by kernel_rfl) ?_; intro b' c'' w hp hnil; refine D_ops rfl rfl ?_; skip
  have hp := rIns_add (y := ⟨(X.getD i default).kind, (X.getD i default).init, (X.getD i default).ins, b6, c6⟩) hp.drop.f2.f1
  refine IH (i + 1) _ b' c'' _ _ _ (by omega) rfl ⟨⟨by omega, by simp; omega, ?_⟩, hp.f1⟩
  rw [take_snoc (by rw [seqsOf_len]; exact hlt'), ← hRs, seqsOf_get, seqsOf_snoc]
  rfl
 ·refine h_cond_f rfl rfl ?_; (repeat (refine R_ret ?_))
  obtain rfl : i = X.length := by omega
  rw [← seqsOf_len X, List.take_length] at hRs
  exact ⟨b, c', R, ⟨hRs, rfl⟩, rSq_shut hp⟩
theorem specCopyNet_h (x : NetA) (w0 : World) (hX : NetR w0 x) (hS : NetS x.n) :
  Ret Try.prog 28 [x.v] w0 (fun v w => ∃ y, (y.n = x.n ∧ v = y.v) ∧ Hp w0 w [rNet y]) := by
 obtain ⟨s1, s2, s3, s4⟩ := hS
 rw [x.slen] at s1 s2
 simp only [x.sins] at s2
 have s3 : x.ands.length ≤ 1048576 := s3
 have s4 : x.outs.length ≤ 1048576 := s4
 refine enter Try.S28ok _ _ rfl rfl (by show _ ≤ _; simp only [List.length]; decide) (fun C => ?_); have hp := Hp.nil w0; refine h_run rfl ?_; skip; (first | refine H_box hp ?_ | refine H_alloc hp rfl ?_); intro w b1 hx hp; refine ops_run nopre rfl ?_; skip; (first | refine H_box hp ?_ | refine H_alloc hp rfl ?_); intro w b2 hx hp; refine ops_run nopre rfl ?_; skip
 refine N_draw hp (by kernel_rfl) (by kernel_rfl) rfl rfl ?_; (repeat (refine N_ldB rfl rfl rfl ?_))
 refine N_call Try.func56 (by kernel_rfl) rfl (fun F w hp => ?_); refine Ret.mono (specCopySeqs_h _ _ _ _ hp.net.seqs s1 s2) ?_; rintro _ w ⟨b5, c5, R, ⟨hR, rfl⟩, hq⟩; have hp := hp.callF1 hq; refine ⟨fun _ => hp.sub (by (repeat (first | exact List.sublist_append_left _ _ | apply List.Sublist.cons))), _, hp, ?_⟩; clear hp; refine N_ops rfl rfl ?_; skip
 refine N_lit eII ([] : List (Int × Int)) rfl rfl rfl rfl (s := 2) rfl (by decide) (by infer_instance) (by rfl) (by rfl) (by rfl) (by decide) ?_; intro b7; refine N_ops rfl rfl ?_; (repeat (refine N_ldB rfl rfl rfl ?_))
 refine N_append rfl rfl rfl rfl rfl rfl rfl (by decide) rfl (by first | omega | (simp only [List.length_append, List.length_cons, List.length_nil, List.length_take, List.length_drop, List.length_set, List.length_replicate, List.length_map]; omega)) rfl rfl (fun _ _ _ _ _ hp => hp.sub (by (repeat (first | exact List.sublist_append_left _ _ | apply List.Sublist.cons)))) ?_; intro b8 c8 hnil; refine N_ops rfl rfl ?_; (repeat (first | (refine nLoad ?_; refine N_ldB rfl rfl rfl ?_) | (refine nBuild ?_; refine N_litI rfl rfl rfl rfl rfl rfl rfl rfl rfl rfl ?_; intro _; refine N_ops rfl rfl ?_)))
 refine N_append rfl rfl rfl rfl rfl rfl rfl (by decide) rfl (by first | omega | (simp only [List.length_append, List.length_cons, List.length_nil, List.length_take, List.length_drop, List.length_set, List.length_replicate, List.length_map]; omega)) rfl rfl (fun _ _ _ _ _ hp => hp.sub (by (repeat (first | exact List.sublist_append_left _ _ | apply List.Sublist.cons)))) ?_; intro b9 c9 hnil; refine N_ops rfl rfl ?_; (repeat (refine N_stBN rfl rfl rfl rfl (by kernel_rfl) ?_; refine N_ops rfl rfl ?_))
 refine N_end ?_; intro w hp C; refine h_run rfl ?_; (repeat (refine R_ret1 hp rfl ?_))
 refine ⟨⟨x.inputs, R, b5, c5, x.ands, b8, c8, x.outs, b9, c9⟩, ⟨by unfold NetA.n; rw [hR], rfl⟩, ?_⟩
 exact Hp.sub (rNet_shut (x := ⟨x.inputs, R, b5, c5, x.ands, b8, c8, x.outs, b9, c9⟩) hp.f1.f2) (by simp)
end Go.Proofs
