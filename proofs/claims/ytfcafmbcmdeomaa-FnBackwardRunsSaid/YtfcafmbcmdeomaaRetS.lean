/- The contracts of the reference's functions that retime a net forward; each under its stated conditions. -/
import Derived.Test.YtfcafmbcmdeomaaRetF
import Derived.Test.YtfcafmbcmdeomaaHash
import Derived.Test.YtfcafmbcmdeomaaPruneS
set_option linter.all false
namespace Go.Proofs
open Go.Xw
set_option maxRecDepth 100000
set_option maxHeartbeats 4000000
attribute [local irreducible] Holds elemAddr

theorem l15Flop_h (x : NetA) (l : Int) (w0 : World) (hX : NetR w0 x) (hok : NetOkP x.n) (h0 : 0 ≤ l) (h1 : l ≤ 1000000) : Ret Try.prog 177 [x.v, .int .i64 l] w0 (fun v w => v = .int .i64 (flopL x.n l) ∧ Ext w0 w) := by
  have hsz := hok.size'
  have hsl := x.slen
  have hf3 : x.n.inputs = x.inputs := rfl
  have e : l / 2 - 1 - x.inputs = l / 2 - (1 + x.inputs) := by omega
  have hk := x.skind (l / 2 - 1 - x.inputs).toNat
  refine enter Try.S177ok _ _ rfl rfl (by show _ ≤ _; simp only [List.length]; decide) (fun C => ?_); have hp := Hp.nil w0; refine h_run rfl ?_; skip; (first | (refine H_box hp ?_; intro w b2 hx hp) | (refine H_alloc hp rfl ?_; intro w b2 hx hp)); refine ops_run nopre rfl ?_; (repeat (refine H_ldB hp rfl rfl ?_))
  refine h_guard_by (fun h2 => ?_) (fun h2 => ?_); all_goals (rw [h2]; (first | replace h2 := of_decide_eq_true h2 | replace h2 := of_decide_eq_false h2 | skip); (repeat (first | (refine gGuard ?_; first | refine h_guard_y rfl nopre rfl ?_ | refine h_guard_n rfl nopre rfl ?_) | (refine gLoad ?_; refine H_ldB hp rfl rfl ?_))))
  · refine h_cond_t rfl rfl ?_; (repeat (refine R_ret ?_))
    exact ⟨by unfold flopL; rw [if_neg (fun h => by omega)], hp.x⟩
  · refine h_guard_by (fun h3 => ?_) (fun h3 => ?_); all_goals (rw [h3]; (first | replace h3 := of_decide_eq_true h3 | replace h3 := of_decide_eq_false h3 | skip); (repeat (first | (refine gGuard ?_; first | refine h_guard_y rfl nopre rfl ?_ | refine h_guard_n rfl nopre rfl ?_) | (refine gLoad ?_; first | refine H_ldB hp rfl rfl ?_ | refine H_ldF hp rfl (by omega) (by omega) rfl rfl ?_))))
    · refine h_cond_t rfl rfl ?_; (repeat (refine R_ret ?_))
      exact ⟨by unfold flopL; rw [if_neg (fun h => by omega)], hp.x⟩
    · refine h_cond_dec (fun h4 => ?_) (fun h4 => ?_)
      · refine h_cond_t rfl rfl ?_; (repeat (refine R_ret ?_))
        exact ⟨by unfold flopL; rw [if_neg (fun h => by have h5 := h.2.2; rw [hf3, ← e, hk] at h5; exact h4 h5)], hp.x⟩
      · refine h_cond_f rfl rfl ?_; (repeat (refine R_ret ?_))
        refine ⟨?_, hp.x⟩
        unfold flopL
        rw [if_pos ⟨by omega, by omega, by rw [hf3, ← e, hk]; omega⟩, hf3, e]
/-- the net that a retiming begins with -/
def begX (n : NetL) (inits : List Int) (A : List (Int × Int)) : NetL := ⟨n.inputs, (zerL n A).seqs ++ inits.map fun v => ⟨0, v, [0]⟩, A, []⟩
theorem l15Begin_h (x : NetA) (ia : Option Addr) (ic m : Nat) (inits : List Int) (hm : inits.length = m) (w0 : World) (hX : NetR w0 x) (hok : NetOkP x.n) (hS : NetS x.n) (hR : Rd w0 ia 1 eI inits) (hmb : m ≤ 2) :
    Ret Try.prog 122 [x.v, .slice ia m ic] w0 (fun v w => ∃ y b c, (y.n = begX x.n inits [] ∧ v = .tuple ⟨[y.v, .slice b (leafL x.n).length c]⟩) ∧ Hp w0 w [rNet y, rO 3 1 eI b c (leafL x.n)]) := by
  subst hm
  have hsz := hok.size'
  have hsl := x.slen
  refine enter Try.S122ok _ _ rfl rfl (by show _ ≤ _; simp only [List.length]; decide) (fun C => ?_); have hp := Hp.nil w0; refine h_run rfl ?_; skip; (first | (refine H_box hp ?_; intro w b2 hx hp) | (refine H_alloc hp rfl ?_; intro w b2 hx hp)); refine ops_run nopre rfl ?_; skip; (first | (refine H_box hp ?_; intro w b4 hx hp) | (refine H_alloc hp rfl ?_; intro w b4 hx hp)); refine ops_run nopre rfl ?_; (repeat (refine H_ldB hp rfl rfl ?_))
  refine h_call rfl Try.func137 (by kernel_rfl) rfl (l10Empty_h x _ hp.net hok hS) ?_; rintro _ w ⟨y0, b5, c5, ⟨hy0, rfl⟩, hq⟩; refine ops_run nopre rfl ?_; skip
  have hp := hp.call2 hq
  skip
  (first | (refine H_box hp ?_; intro w b6 hx hp) | (refine H_alloc hp rfl ?_; intro w b6 hx hp)); refine ops_run nopre rfl ?_; (repeat (refine U_stBN hp rfl rfl rfl rfl ?_; intro w hp; refine ops_run nopre rfl ?_))
  have hya : y0.ands = [] := congrArg NetL.ands hy0
  have hyo : y0.outs = [] := congrArg NetL.outs hy0
  have hyi : y0.inputs = x.inputs := congrArg NetL.inputs hy0
  have hys : seqsOf y0.seqs = (zerL x.n []).seqs := congrArg NetL.seqs hy0
  have hyl : y0.seqs.length = x.seqs.length := by rw [← seqsOf_len y0.seqs, hys, zer_at.1, x.slen]
  have hp := (rSq_open (rNet_open hp.f1)).f3.f3.f5.f4.f4.f5
  refine h_loop4 [1, 4, 6, 7, 8] (fun (i : Nat) (_ : List SeqA) (_ : Option Addr) (_ : Nat) => [(1, .slice ia inits.length ic), (4, .pointer (some ⟨b4, 0, none⟩)), (6, .pointer (some ⟨b6, 0, none⟩)), (7, .slice b5 (leafL x.n).length c5), (8, .int .i64 (i : Int))])
    (fun i R b c w' => (i ≤ inits.length ∧ R.length = x.seqs.length + i ∧ seqsOf R = (zerL x.n []).seqs ++ (inits.take i).map fun v => ⟨0, v, [0]⟩) ∧ Hp w0 w' [rB b6 32 [.int .i64 y0.inputs, .slice b R.length c, .slice y0.aa y0.ands.length y0.ac, .slice y0.oa y0.outs.length y0.oc], rO 99 3 eSq b c R, rIns R, rO 3 1 eI b5 c5 (leafL x.n), rO 103 2 eII y0.aa y0.ac y0.ands, rO 3 1 eI y0.oa y0.oc y0.outs, rB b4 32 (cellsV Try.ti32.zero), rB b2 32 x.cs]) (fun i _ _ _ => inits.length - i) 0 y0.seqs y0.sa y0.sc rfl
    ⟨⟨by omega, by omega, by rw [hys]; simp⟩, hp⟩ ?_
  rintro i R b c w1 ⟨⟨hi, hR, hRs⟩, hp⟩ IH C
  refine h_run rfl ?_; skip
  refine h_cond_dec (fun hlt => ?_) (fun hlt => ?_)
  · have hlt' : i < inits.length := by omega
    refine h_cond_t rfl rfl ?_; skip
    refine N_draw hp (by kernel_rfl) (by kernel_rfl) rfl rfl ?_; (repeat (first | (refine nLoad ?_; first | refine N_ldB rfl rfl rfl ?_ | refine N_ldEN rfl (by omega) rfl rfl rfl ?_) | (refine nBuild ?_; refine N_litI rfl rfl rfl rfl rfl rfl rfl rfl rfl rfl ?_; intro _; refine N_ops rfl rfl ?_)))
    rename_i b25
    refine N_lit eSq [⟨0, inits.getD i default, [0], some ⟨b25, 0, none⟩, 1⟩] rfl rfl rfl rfl (s := 3) rfl (by decide) (by infer_instance) (by rfl) (by rfl) (by rfl) (by decide) ?_; intro b27; refine N_ops rfl rfl ?_; skip
    refine N_append rfl rfl rfl rfl rfl rfl rfl (by decide) rfl (by first | omega | (simp only [List.length_append, List.length_cons, List.length_nil, List.length_take, List.length_drop, List.length_set, List.length_replicate, List.length_map]; omega)) rfl rfl (fun hq => Bool.noConfusion (hq.symm.trans (by kernel_rfl : flagAt _ _ = false))) ?_; intro b' c' hnil; refine N_ops rfl rfl ?_; (repeat (refine N_stB rfl rfl rfl rfl (by kernel_rfl) ?_; refine N_ops rfl rfl ?_))
    refine N_end ?_; intro w hp C; refine h_run rfl ?_; skip
    have hp := rIns_add (y := ⟨0, inits.getD i default, [0], some ⟨b25, 0, none⟩, 1⟩) (hp.f4.f2)
    have hp := (hp.f1.drop).f2.f2
    refine IH (i + 1) (R ++ [SeqA.mk 0 (inits.getD i default) [0] (some ⟨b25, 0, none⟩) 1]) b' c' _ _ _ (by omega) rfl ⟨⟨by omega, by simp; omega, ?_⟩, hp⟩
    rw [seqsOf_snoc, hRs, take_snoc hlt', List.map_append, List.append_assoc]
    rfl
  · obtain rfl : i = inits.length := by omega
    rw [List.take_length] at hRs
    refine h_cond_f rfl rfl ?_; (repeat (first | (refine gLoad ?_; refine H_ldB hp rfl rfl ?_) | (refine gStore ?_; refine U_stBN hp rfl rfl rfl rfl ?_; intro w hp; refine ops_run nopre rfl ?_) | (refine gRetc ?_; refine R_ret2v hp rfl ?_)))
    have hp := rNet_shut (x := ⟨y0.inputs, R, b, c, y0.ands, y0.aa, y0.ac, y0.outs, y0.oa, y0.oc⟩) ((rSq_shut (hp.f2.f2)).f4.f4.f2)
    refine ⟨⟨y0.inputs, R, b, c, y0.ands, y0.aa, y0.ac, y0.outs, y0.oa, y0.oc⟩, b5, c5, ⟨?_, rfl⟩, Hp.tk (hp.f2.f1) 2⟩
    unfold NetA.n
    rw [hRs, hya, hyo, hyi]
    rfl
end Go.Proofs
