/- The law that a hashed net is not changed by hashing again; no condition but the stated ones. -/
import Derived.Test.YtninddlngpmpaaaDrawDeep
import Derived.Test.YtninddlngpmpaaaSimHash2
import Derived.Test.YtninddlngpmpaaaRun
import Derived.Test.YtninddlngpmpaaaHash
import Derived.Test.YtninddlngpmpaaaSweep
import Derived.Test.YtninddlngpmpaaaGraph4
set_option linter.all false
namespace Go.Proofs
open Go.Xw
set_option maxRecDepth 100000
set_option maxHeartbeats 4000000
attribute [local irreducible] Holds elemAddr

theorem sameInts_h (a b : Option Addr) (c d : Nat) (X : List Int) (w0 : World) (hA : Rd w0 a 1 eI X) (hB : Rd w0 b 1 eI X) (hl : X.length ≤ 1000000) :
    Ret Try.prog 35 [.slice a X.length c, .slice b X.length d] w0 (fun v w => v = .bool true ∧ Ext w0 w) := by
  refine enter Try.S35ok _ _ rfl rfl (by show _ ≤ _; simp only [List.length]; decide) (fun C => ?_); have hp := Hp.nil w0; refine h_run rfl ?_; skip
  refine h_cond_f (by simp) rfl ?_; skip
  refine h_loop [0, 1, 5] (fun (i : Nat) => [(0, .slice a X.length c), (1, .slice b X.length d), (5, .int .i64 (i : Int))])
    (fun i w' => i ≤ X.length ∧ Hp w0 w' []) (fun i => X.length - i) 0 rfl ⟨by omega, hp⟩ ?_
  rintro i w1 ⟨hi, hp⟩ IH C
  refine h_run rfl ?_; skip
  refine h_cond_dec (fun hlt => ?_) (fun hlt => ?_)
  · have hlt' : i < X.length := by omega
    refine h_cond_t rfl rfl ?_; skip
    refine N_draw hp (by kernel_rfl) (by kernel_rfl) rfl rfl ?_; (repeat (refine N_ldEN rfl (by omega) rfl rfl rfl ?_))
    refine N_end ?_; intro w hp C; refine h_run rfl ?_; skip
    refine h_cond_f (by simp) rfl ?_; skip
    exact IH (i + 1) _ _ _ (by omega) rfl ⟨by omega, hp⟩
  · refine h_cond_f rfl rfl ?_; (repeat (refine R_ret ?_))
    exact ⟨rfl, hp.x⟩
theorem runF_eq {n m : NetL} (hn : NetOkP n) (hm : NetOkP m) {ins : List Int} (hl : ins.length ≤ 16) (h : runL m ins = runL n ins) : runF m ins = runF n ins := by
  rw [runF_yes hn hl, runF_yes hm hl, h]
theorem sameInts_e (a b : Option Addr) (c d : Nat) (X Y : List Int) (h : X = Y) (w0 : World) (hA : Rd w0 a 1 eI X) (hB : Rd w0 b 1 eI Y) (hl : X.length ≤ 1000000) :
    Ret Try.prog 35 [.slice a X.length c, .slice b Y.length d] w0 (fun v w => v = .bool true ∧ Ext w0 w) := by
  subst h; exact sameInts_h a b c d X w0 hA hB hl
theorem sameAnds_e (a b : Option Addr) (c d : Nat) (X Y : List (Int × Int)) (h : X = Y) (w0 : World) (hA : Rd w0 a 2 eII X) (hB : Rd w0 b 2 eII Y) (hl : X.length ≤ 1000000) :
    Ret Try.prog 105 [.slice a X.length c, .slice b Y.length d] w0 (fun v w => v = .bool true ∧ Ext w0 w) := by
  subst h
  refine enter Try.S105ok _ _ rfl rfl (by show _ ≤ _; simp only [List.length]; decide) (fun C => ?_); have hp := Hp.nil w0; refine h_run rfl ?_; skip
  refine h_cond_f (by simp) rfl ?_; skip
  refine h_loop [0, 1, 5] (fun (i : Nat) => [(0, .slice a X.length c), (1, .slice b X.length d), (5, .int .i64 (i : Int))])
    (fun i w' => i ≤ X.length ∧ Hp w0 w' []) (fun i => X.length - i) 0 rfl ⟨by omega, hp⟩ ?_
  rintro i w1 ⟨hi, hp⟩ IH C
  refine h_run rfl ?_; skip
  refine h_cond_dec (fun hlt => ?_) (fun hlt => ?_)
  · have hlt' : i < X.length := by omega
    refine h_cond_t rfl rfl ?_; skip
    refine N_draw hp (by kernel_rfl) (by kernel_rfl) rfl rfl ?_; (repeat (refine N_ldEN rfl (by omega) rfl rfl rfl ?_))
    refine N_end ?_; intro w hp C; refine h_run rfl ?_; skip
    refine h_cond_f (by simp) rfl ?_; skip
    exact IH (i + 1) _ _ _ (by omega) rfl ⟨by omega, hp⟩
  · refine h_cond_f rfl rfl ?_; (repeat (refine R_ret ?_))
    exact ⟨rfl, hp.x⟩
theorem sameSeqs_e (a b : Option Addr) (c d : Nat) (X Y : List SeqA) (h : seqsOf X = seqsOf Y) (w0 : World) (hA : SeqsR w0 a X) (hB : SeqsR w0 b Y) (hl : X.length ≤ 1000000) (hl2 : ∀ i, i < X.length → (X.getD i default).ins.length ≤ 1000000) :
    Ret Try.prog 104 [.slice a X.length c, .slice b Y.length d] w0 (fun v w => v = .bool true ∧ Ext w0 w) := by
  have hlen : X.length = Y.length := by rw [← seqsOf_len X, h, seqsOf_len]
  have hra := hA.row
  have hrb := hB.row
  refine enter Try.S104ok _ _ rfl rfl (by show _ ≤ _; simp only [List.length]; decide) (fun C => ?_); have hp := Hp.nil w0; refine h_run rfl ?_; skip
  refine h_cond_f (by simp [hlen]) rfl ?_; skip
  refine h_loop [0, 1, 5] (fun (i : Nat) => [(0, .slice a X.length c), (1, .slice b Y.length d), (5, .int .i64 (i : Int))])
    (fun i w' => i ≤ X.length ∧ Hp w0 w' []) (fun i => X.length - i) 0 rfl ⟨by omega, hp⟩ ?_
  rintro i w1 ⟨hi, hp⟩ IH C
  refine h_run rfl ?_; skip
  refine h_cond_dec (fun hlt => ?_) (fun hlt => ?_)
  · have hlt' : i < X.length := by omega
    have hlt2 : i < Y.length := by omega
    have e : (X.getD i default).s = (Y.getD i default).s := by rw [← seqsOf_get, ← seqsOf_get, h]
    have ek : (X.getD i default).kind = (Y.getD i default).kind := congrArg SeqL.kind e
    have ei : (X.getD i default).init = (Y.getD i default).init := congrArg SeqL.init e
    have en : (X.getD i default).ins = (Y.getD i default).ins := congrArg SeqL.ins e
    have r1 := hA.at_ hlt'
    have r2 := hB.at_ hlt2
    refine h_cond_t rfl rfl ?_; skip
    refine N_draw hp (by kernel_rfl) (by kernel_rfl) rfl rfl ?_; (repeat (refine N_ldFN rfl (by omega) rfl rfl rfl ?_))
    refine N_guard_by (fun h1 => ?_) (fun h1 => ?_); all_goals (rw [h1]; (first | replace h1 := of_decide_eq_true h1 | replace h1 := of_decide_eq_false h1 | skip); (repeat (first | (refine nGuard ?_; first | refine N_guard_y rfl rfl rfl ?_ | refine N_guard_n rfl rfl rfl ?_) | (refine nLoad ?_; refine N_ldFN rfl (by omega) rfl rfl rfl ?_))))
    · exact absurd ek h1
    · refine N_guard_by (fun h2 => ?_) (fun h2 => ?_); all_goals (rw [h2]; (first | replace h2 := of_decide_eq_true h2 | replace h2 := of_decide_eq_false h2 | skip); (repeat (first | (refine nGuard ?_; first | refine N_guard_y rfl rfl rfl ?_ | refine N_guard_n rfl rfl rfl ?_) | (refine nLoad ?_; refine N_ldFN rfl (by omega) rfl rfl rfl ?_))))
      · exact absurd ei h2
      · refine N_call Try.func35 (by kernel_rfl) rfl (fun F w hp => ?_); refine Ret.mono (sameInts_e _ _ _ _ (X.getD i default).ins (Y.getD i default).ins en _ hp.pre.rd hp.pre.rd (hl2 i hlt')) ?_; rintro _ w ⟨rfl, hx⟩; have hp := hp.ext hx; refine ⟨fun _ => hp.sub (by (repeat (first | exact List.sublist_append_left _ _ | apply List.Sublist.cons))), _, hp, ?_⟩; clear hp; refine N_ops rfl rfl ?_; (repeat (refine N_guard_y rfl rfl rfl ?_))
        refine N_end ?_; intro w hp C; refine h_run rfl ?_; skip
        refine h_cond_f rfl rfl ?_; skip
        exact IH (i + 1) _ _ _ (by omega) rfl ⟨by omega, hp⟩
  · refine h_cond_f rfl rfl ?_; (repeat (refine R_ret ?_))
    exact ⟨rfl, hp.x⟩
theorem sameNet_e (x y : NetA) (h : x.n = y.n) (w0 : World) (hX : NetR w0 x) (hY : NetR w0 y) (hok : NetOkP x.n) :
    Ret Try.prog 49 [x.v, y.v] w0 (fun v w => v = .bool true ∧ Ext w0 w) := by
  have hsz := hok.size'
  have e1 : x.inputs = y.inputs := congrArg NetL.inputs h
  have e2 : seqsOf x.seqs = seqsOf y.seqs := congrArg NetL.seqs h
  have e3 : x.ands = y.ands := congrArg NetL.ands h
  have e4 : x.outs = y.outs := congrArg NetL.outs h
  have hins : ∀ i, i < x.seqs.length → (x.seqs.getD i default).ins.length ≤ 1000000 := fun i hi => by have := hok.ins hi; omega
  refine enter Try.S49ok _ _ rfl rfl (by show _ ≤ _; simp only [List.length]; decide) (fun C => ?_); have hp := Hp.nil w0; refine h_run rfl ?_; skip; (first | (refine H_box hp ?_; intro w b2 hx hp) | (refine H_alloc hp rfl ?_; intro w b2 hx hp)); refine ops_run nopre rfl ?_; skip; (first | (refine H_box hp ?_; intro w b3 hx hp) | (refine H_alloc hp rfl ?_; intro w b3 hx hp)); refine ops_run nopre rfl ?_; (repeat (refine H_ldB hp rfl rfl ?_))
  refine h_guard_by (fun h1 => ?_) (fun h1 => ?_); all_goals (rw [h1]; (first | replace h1 := of_decide_eq_true h1 | replace h1 := of_decide_eq_false h1 | skip); (repeat (first | (refine gGuard ?_; first | refine h_guard_y rfl nopre rfl ?_ | refine h_guard_n rfl nopre rfl ?_) | (refine gLoad ?_; refine H_ldB hp rfl rfl ?_) | refine R_ret ?_)))
  · refine h_call rfl Try.func104 (by kernel_rfl) rfl (sameSeqs_e x.sa y.sa x.sc y.sc x.seqs y.seqs e2 _ (hp.net (x := x)).seqs (hp.net (x := y)).seqs (by omega) hins) ?_; rintro _ w ⟨rfl, hx⟩; have hp := hp.ext hx; refine ops_run nopre rfl ?_; (repeat (first | (refine gGuard ?_; refine h_guard_y rfl nopre rfl ?_) | (refine gLoad ?_; refine H_ldB hp rfl rfl ?_)))
    refine h_call rfl Try.func105 (by kernel_rfl) rfl (sameAnds_e x.aa y.aa x.ac y.ac x.ands y.ands e3 _ hp.rd hp.rd (by omega)) ?_; rintro _ w ⟨rfl, hx⟩; have hp := hp.ext hx; refine ops_run nopre rfl ?_; (repeat (first | (refine gGuard ?_; refine h_guard_y rfl nopre rfl ?_) | (refine gLoad ?_; refine H_ldB hp rfl rfl ?_)))
    refine h_call rfl Try.func35 (by kernel_rfl) rfl (sameInts_e x.oa y.oa x.oc y.oc x.outs y.outs e4 _ hp.rd hp.rd (by omega)) ?_; rintro _ w ⟨rfl, hx⟩; have hp := hp.ext hx; refine ops_run nopre rfl ?_; (repeat (refine R_ret ?_))
    exact ⟨rfl, hp.x⟩
  · exact absurd e1 h1
theorem FnHashAgain_h (w0 : World) (a : Option Addr) (c : Nat) (code : List Int) (hR : Rd w0 a 1 eU8 code) (hM : code.length ≤ maxLen) (hB : AllB code) :
    Ret Try.prog 8 [.slice a code.length c] w0 (fun v w => v = .bool true ∧ Ext w0 w) := by
  have hM' : (code.length : Int) ≤ 9223372036854775807 := by unfold maxLen at hM; omega
  refine enter Try.S8ok _ _ rfl rfl (by show _ ≤ _; simp only [List.length]; decide) (fun C => ?_); have hp := Hp.nil w0; refine h_run rfl ?_; skip
  refine h_call rfl Try.func15 (by kernel_rfl) rfl (big_h a code.length c _) ?_; rintro _ w ⟨rfl, hx⟩; have hp := hp.ext hx; refine ops_run nopre rfl ?_; skip
  refine h_cond_dec (fun hbig => ?_) (fun hbig => ?_)
  · refine h_cond_t rfl rfl ?_; (repeat (refine R_ret ?_))
    exact ⟨rfl, hp.x⟩
  · refine h_cond_f rfl rfl ?_; skip
    refine h_call rfl Try.func45 (by kernel_rfl) rfl (DrawDeep_h a c code _ hp.rd hB (by omega)) ?_; rintro _ w ⟨x, ⟨hok, rfl⟩, hq⟩; have hx := hq.x; have hp := hp.call1 hq; refine ops_run nopre rfl ?_; skip
    (first | (refine H_box hp ?_; intro w b3 hx hp) | (refine H_alloc hp rfl ?_; intro w b3 hx hp)); refine ops_run nopre rfl ?_; (repeat (first | (refine gLoad ?_; refine H_ldB hp rfl rfl ?_) | (refine gStore ?_; refine U_stBN hp rfl rfl rfl rfl ?_; intro w hp; refine ops_run nopre rfl ?_)))
    refine h_call rfl Try.func46 (by kernel_rfl) rfl (implHash_x x _ (rNet_r (hp.take (rNet x))) hok.S' hok.W) ?_; rintro _ w ⟨m, ⟨hm, rfl⟩, hq⟩; have hx := hq.x; have hp := hp.call1 hq; refine ops_run nopre rfl ?_; skip
    (first | (refine H_box hp ?_; intro w b5 hx hp) | (refine H_alloc hp rfl ?_; intro w b5 hx hp)); refine ops_run nopre rfl ?_; (repeat (refine U_stBN hp rfl rfl rfl rfl ?_; intro w hp; refine ops_run nopre rfl ?_))
    rw [ifNet_yes hok] at hm
    have hmok : NetOkP m.n := by rw [hm]; exact hashL_ok hok
    have hmp : hashP m.n := by rw [hm]; exact hash_P hok
    have hmi : m.inputs = x.inputs := congrArg NetL.inputs hm
    have hol : m.outs.length = x.outs.length := by
      have : m.outs = (hashL x.n).outs := congrArg NetL.outs hm
      rw [this]
      show (mapL _ (mapL _ x.n.outs)).length = _
      rw [mapL_len, mapL_len]
      rfl
    refine N_draw hp (by kernel_rfl) (by kernel_rfl) rfl rfl ?_; (repeat (refine N_ldB rfl rfl rfl ?_))
    refine N_call Try.func47 (by kernel_rfl) rfl (fun F w hp => ?_); refine Ret.mono ((implNetOk_h m _ (rNet_r (hp.pre.take (rNet m))) hmok.S').tt (netOkB_yes hmok)) ?_; rintro _ w ⟨rfl, hx⟩; have hp := hp.ext hx; refine ⟨fun _ => hp.sub (by (repeat (first | exact List.sublist_append_left _ _ | apply List.Sublist.cons))), _, hp, ?_⟩; clear hp; refine N_ops rfl rfl ?_; (repeat (first | (refine nGuard ?_; refine N_guard_y rfl rfl rfl ?_) | (refine nLoad ?_; refine N_ldB rfl rfl rfl ?_)))
    skip
    refine N_call Try.func48 (by kernel_rfl) rfl (fun F w hp => ?_); refine Ret.mono (implIsHashed_x m _ (rNet_r (hp.pre.take (rNet m))) hmok.S' hmok.W) ?_; rintro _ w ⟨rfl, hx⟩; have hp := hp.ext hx; refine ⟨fun _ => hp.sub (by (repeat (first | exact List.sublist_append_left _ _ | apply List.Sublist.cons))), _, hp, ?_⟩; clear hp; refine N_ops rfl rfl ?_; skip
    rw [pB_yes hmp]
    (repeat (first | (refine nGuard ?_; refine N_guard_y rfl rfl rfl ?_) | (refine nLoad ?_; refine N_ldB rfl rfl rfl ?_)))
    refine N_call Try.func46 (by kernel_rfl) rfl (fun F w hp => ?_); refine Ret.mono (implHash_x m _ (rNet_r (hp.pre.take (rNet m))) hmok.S' hmok.W) ?_; rintro _ w ⟨q, ⟨hqe, rfl⟩, hq⟩; have hp := hp.callF1 hq; refine ⟨fun _ => hp.sub (by (repeat (first | exact List.sublist_append_left _ _ | apply List.Sublist.cons))), _, hp, ?_⟩; clear hp; refine N_ops rfl rfl ?_; (repeat (first | (refine nGuard ?_; refine N_guard_y rfl rfl rfl ?_) | (refine nLoad ?_; refine N_ldB rfl rfl rfl ?_)))
    rw [ifNet_yes hmok, hash_id hmp] at hqe
    have hqok : NetOkP q.n := by rw [hqe]; exact hmok
    refine N_call Try.func49 (by kernel_rfl) rfl (fun F w hp => ?_); refine Ret.mono (sameNet_e q m hqe _ (rNet_r (hp.pre.take (rNet q))) (rNet_r (hp.pre.take (rNet m))) hqok) ?_; rintro _ w ⟨rfl, hx⟩; have hp := hp.ext hx; refine ⟨fun _ => hp.sub (by (repeat (first | exact List.sublist_append_left _ _ | apply List.Sublist.cons))), _, hp, ?_⟩; clear hp; refine N_ops rfl rfl ?_; (repeat (first | (refine nGuard ?_; refine N_guard_y rfl rfl rfl ?_) | (refine nLoad ?_; refine N_ldB rfl rfl rfl ?_)))
    skip
    refine N_call Try.func50 (by kernel_rfl) rfl (fun F w hp => ?_); refine Ret.mono (implSweep_x m _ (rNet_r (hp.pre.take (rNet m))) hmok.S' hmok.W) ?_; rintro _ w ⟨q2, ⟨hqe2, rfl⟩, hq⟩; have hp := hp.callF1 hq; refine ⟨fun _ => hp.sub (by (repeat (first | exact List.sublist_append_left _ _ | apply List.Sublist.cons))), _, hp, ?_⟩; clear hp; refine N_ops rfl rfl ?_; (repeat (first | (refine nGuard ?_; refine N_guard_y rfl rfl rfl ?_) | (refine nLoad ?_; refine N_ldB rfl rfl rfl ?_)))
    rw [ifNet_yes hmok, sweep_id hmp] at hqe2
    have hqok2 : NetOkP q2.n := by rw [hqe2]; exact hmok
    refine N_call Try.func49 (by kernel_rfl) rfl (fun F w hp => ?_); refine Ret.mono (sameNet_e q2 m hqe2 _ (rNet_r (hp.pre.take (rNet q2))) (rNet_r (hp.pre.take (rNet m))) hqok2) ?_; rintro _ w ⟨rfl, hx⟩; have hp := hp.ext hx; refine ⟨fun _ => hp.sub (by (repeat (first | exact List.sublist_append_left _ _ | apply List.Sublist.cons))), _, hp, ?_⟩; clear hp; refine N_ops rfl rfl ?_; (repeat (first | (refine nGuard ?_; refine N_guard_y rfl rfl rfl ?_) | (refine nLoad ?_; refine N_ldB rfl rfl rfl ?_)))
    skip
    rw [decide_eq_true hmi]
    (repeat (first | (refine nGuard ?_; refine N_guard_y rfl rfl rfl ?_) | (refine nLoad ?_; refine N_ldB rfl rfl rfl ?_)))
    refine N_end ?_; intro w hp C; refine h_run rfl ?_; (repeat (refine R_ret ?_))
    exact ⟨by rw [decide_eq_true (show (m.outs.length : Int) = x.outs.length by omega)], hp.x⟩
end Go.Proofs
