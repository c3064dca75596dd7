/- The contract of the reference's pruning; each under its stated conditions. -/
import Derived.Test.YtbjgekllkfnjnaaPrune
set_option linter.all false
namespace Go.Proofs
open Go.Xw
set_option maxRecDepth 100000
set_option maxHeartbeats 1000000
attribute [local irreducible] Holds elemAddr

theorem specPrune_x (x : NetA) (w0 : World) (hX : NetR w0 x) (hS : NetS x.n) (hW : NetW x.n) :
    Ret Try.prog 82 [x.v] w0 (fun v w => ∃ y, (y.n = ifNet x.n (pruneL x.n) ∧ v = y.v) ∧ Hp w0 w [rNet y]) := by
  refine enter Try.S82ok _ _ rfl rfl (by show _ ≤ _; simp only [List.length]; decide) (fun C => ?_); have hp := Hp.nil w0; refine h_run rfl ?_; skip; (first | (refine H_box hp ?_; intro w b1 hx hp) | (refine H_alloc hp rfl ?_; intro w b1 hx hp)); refine ops_run nopre rfl ?_; skip; (first | (refine H_box hp ?_; intro w b2 hx hp) | (refine H_alloc hp rfl ?_; intro w b2 hx hp)); refine ops_run nopre rfl ?_; (repeat (refine H_ldB hp rfl rfl ?_))
  by_cases hok : NetOkP x.n
  · have hn := hok.nums
    have n1 := hn.n1
    have n4 := hn.n2
    have f2 := hn.f2
    have hnd := hok.nodes
    have hsz := hok.size'
    have hf := hok.fsq
    have hf3 : x.n.inputs = x.inputs := rfl
    have hsl := x.slen
    have hoe : x.n.outs = x.outs := rfl
    have hal : x.n.ands.length = x.ands.length := rfl
    have hol := obsL_len x.n
    have hcnt : nodeCountL x.n = nodesL x.n := if_pos hok.size
    have htl := toK_len x.n
    rw [ifNet_yes hok]
    refine h_call rfl Try.func56 (by kernel_rfl) rfl ((specNetOk_h x _ hp.net hS hW).tt (netOkB_yes hok)) ?_; rintro _ w ⟨rfl, hx⟩; have hp := hp.ext hx; refine ops_run nopre rfl ?_; skip
    refine h_cond_f rfl rfl ?_; (repeat (refine H_ldB hp rfl rfl ?_))
    refine h_call rfl Try.func136 (by kernel_rfl) rfl (l15Marks_h x _ hp.net hok) ?_; rintro _ w ⟨b3, c3, rfl, hq⟩; have hx := hq.x; have hp := hp.call1 hq; refine ops_run nopre rfl ?_; (repeat (refine H_ldB hp rfl rfl ?_))
    (first | (refine H_box hp ?_; intro w b4 hx hp) | (refine H_alloc hp rfl ?_; intro w b4 hx hp)); refine ops_run nopre rfl ?_; (repeat (first | (refine gStore ?_; refine U_stBN hp rfl rfl rfl rfl ?_; intro w hp; refine ops_run nopre rfl ?_) | (refine gBuild ?_; refine U_litI hp rfl rfl rfl rfl rfl rfl rfl rfl rfl rfl ?_; intro w _ hx hp; refine ops_run nopre rfl ?_)))
    refine h_loop3 [1, 2, 3, 4, 5, 6, 7] (fun (k : Nat) (tb : Option Addr) (tc : Nat) => [(1, .pointer (some ⟨b1, 0, none⟩)), (2, .pointer (some ⟨b2, 0, none⟩)), (3, .slice b3 (nds x.n) c3), (4, .pointer (some ⟨b4, 0, none⟩)), (5, .slice tb ((toK x.n).take k).length tc), (6, .int .i64 (cK x.n k : Int)), (7, .int .i64 (k : Int))])
      (fun k tb tc w' => k ≤ nds x.n ∧ Hp w0 w' [rO 3 1 eI tb tc ((toK x.n).take k), rB b4 28 [.int .i64 x.inputs, .slice none 0 0, .slice none 0 0, .slice none 0 0], rO 4 1 eB b3 c3 (obsL x.n), rB b2 28 (cellsV Try.ti28.zero), rB b1 28 x.cs]) (fun k _ _ => nds x.n - k) 0 _ _ rfl ⟨by omega, hp⟩ ?_
    rintro k tb tc w1 ⟨hk, hp⟩ IH C
    have hck := cK_le x.n k
    refine h_run rfl ?_; (repeat (refine H_ldB hp rfl rfl ?_))
    refine h_call rfl Try.func13 (by kernel_rfl) rfl (specNodeCount_h x _) ?_; rintro _ w ⟨rfl, hx⟩; have hp := hp.ext hx; refine ops_run nopre rfl ?_; skip
    rw [hcnt]
    refine h_cond_dec (fun hlt => ?_) (fun hlt => ?_)
    · have hlt' : k < nds x.n := by omega
      have e : (toK x.n).take (k + 1) = (toK x.n).take k ++ [2 * (cK x.n k : Int)] := by rw [take_snoc (by omega), toK_get hlt']
      refine h_cond_t rfl rfl ?_; (repeat (refine U_litI hp rfl rfl rfl rfl rfl rfl rfl rfl rfl rfl ?_; intro w _ hx hp; refine ops_run nopre rfl ?_))
      refine U_append hp rfl rfl rfl rfl rfl rfl rfl (by decide) rfl (by first | omega | (simp only [List.length_append, List.length_cons, List.length_nil, List.length_take, List.length_drop, List.length_set, List.length_replicate, List.length_map]; omega)) rfl rfl ?_; intro tb' tc' w hp hnil; refine ops_run nopre rfl ?_; (repeat (refine H_ldB hp rfl rfl ?_))
      refine h_guard_by (fun h1 => ?_) (fun h1 => ?_); all_goals (rw [h1]; (first | replace h1 := of_decide_eq_true h1 | replace h1 := of_decide_eq_false h1 | skip); (repeat (first | (refine gGuard ?_; first | refine h_guard_y rfl nopre rfl ?_ | refine h_guard_n rfl nopre rfl ?_) | (refine gLoad ?_; refine H_ldEN hp rfl (by omega) rfl rfl ?_))))
      · refine h_cond_t rfl rfl ?_; skip
        refine IH (k + 1) tb' tc' _ _ _ (by omega) (by rw [e, cK_yes (.inl (by omega))]; rfl) ⟨by omega, ?_⟩
        rw [e]
        exact hp.drop
      · refine h_cond_b (fun hb => ?_) (fun hb => ?_)
        · refine h_cond_t rfl rfl ?_; skip
          refine IH (k + 1) tb' tc' _ _ _ (by omega) (by rw [e, cK_yes (.inr ((obsL_get hlt').1 hb))]; rfl) ⟨by omega, ?_⟩
          rw [e]
          exact hp.drop
        · refine h_cond_f rfl rfl ?_; skip
          have hnb : ¬ KeptN x.n k := fun h => h.elim (by omega) fun h => by rw [(obsL_get hlt').2 h] at hb; cases hb
          refine IH (k + 1) tb' tc' _ _ _ (by omega) (by rw [e, cK_no hnb]; rfl) ⟨by omega, ?_⟩
          rw [e]
          exact hp.drop
    · obtain rfl : k = nds x.n := by omega
      clear IH
      have ht : (toK x.n).take (nds x.n) = toK x.n := List.take_of_length_le (by omega)
      rw [ht] at hp ⊢
      have hp : Hp w0 _ (rO 91 3 eSq none 0 ([] : List SeqA) :: _) := hp.ownN (Ext.refl _) (Own.nil _ _ _ _ _)
      have hp := rIns_nil hp
      have hlk : ∀ l, litP l (nodesL x.n) → 0 ≤ l ∧ l / 2 < ((toK x.n).length : Int) := fun l h => by unfold litP at h; omega
      refine h_cond_f rfl rfl ?_; skip
      refine h_loop4 [1, 2, 3, 4, 5, 8] (fun (i : Nat) (_ : List SeqA) (_ : Option Addr) (_ : Nat) => [(1, .pointer (some ⟨b1, 0, none⟩)), (2, .pointer (some ⟨b2, 0, none⟩)), (3, .slice b3 (nds x.n) c3), (4, .pointer (some ⟨b4, 0, none⟩)), (5, .slice tb (toK x.n).length tc), (8, .int .i64 (i : Int))])
        (fun i R b c w' => (i ≤ x.seqs.length ∧ R.length = (keptTo (obsL x.n) (fsq x.n) i).length ∧ seqsOf R = prSqs x.n i) ∧
          Hp w0 w' [rB b4 28 [.int .i64 x.inputs, .slice b R.length c, .slice none 0 0, .slice none 0 0], rO 91 3 eSq b c R, rIns R, rO 3 1 eI tb tc (toK x.n), rO 4 1 eB b3 c3 (obsL x.n), rB b2 28 (cellsV Try.ti28.zero), rB b1 28 x.cs]) (fun i _ _ _ => x.seqs.length - i) 0 [] none 0 rfl
        ⟨⟨by omega, rfl, rfl⟩, hp.f2.f1.f2.f3⟩ ?_
      clear hp hk hck
      rintro i R b c w1 ⟨⟨hi, hR, hRs⟩, hp⟩ IH C
      have hkl := keptTo_len (obsL x.n) (fsq x.n) i
      have hz : (1 + x.inputs + (i : Int)).toNat = fsq x.n + i := by omega
      refine h_run rfl ?_; (repeat (refine H_ldB hp rfl rfl ?_))
      refine h_cond_dec (fun hlt => ?_) (fun hlt => ?_)
      · have hlt' : i < x.seqs.length := by omega
        refine h_cond_t rfl rfl ?_; (repeat (refine gLoad ?_; first | refine H_ldB hp rfl rfl ?_ | refine H_ldE hp rfl (by omega) (by omega) rfl rfl ?_))
        refine h_cond_b (fun hb => ?_) (fun hb => ?_)
        · rw [hz] at hb
          have hob := (obsL_get (n := x.n) (k := fsq x.n + i) (by omega)).1 hb
          have hil := hok.ins hlt'
          have hsx := x.sins i
          have hq : ∀ q, q < (x.seqs.getD i default).ins.length → 0 ≤ (x.seqs.getD i default).ins.getD q default ∧ (x.seqs.getD i default).ins.getD q default / 2 < ((toK x.n).length : Int) := fun q hq =>
            hlk _ (hok.inp (getD_mem (show i < x.n.seqs.length by omega)) _ (by rw [hsx]; exact getD_mem hq))
          have hrow := hX.seqs.at_ hlt'
          refine h_cond_t rfl rfl ?_; skip
          refine N_draw hp (by kernel_rfl) (by kernel_rfl) rfl rfl ?_; (repeat (refine nLoad ?_; first | refine N_ldB rfl rfl rfl ?_ | refine N_ldFN rfl (by omega) rfl rfl rfl ?_))
          refine N_call Try.func81 (by kernel_rfl) rfl (fun F w hp => ?_); refine Ret.mono (l10Map_h _ _ _ _ (toK x.n) (x.seqs.getD i default).ins _ _ rfl rfl _ hp.pre.rd hp.pre.rd hq (by omega) (by omega)) ?_; rintro _ w ⟨r, e, rfl, hq⟩; have hp := hp.callF1 hq; refine ⟨fun _ => hp.sub (by (repeat (first | exact List.sublist_append_left _ _ | apply List.Sublist.cons))), _, hp, ?_⟩; clear hp; refine N_ops rfl rfl ?_; skip
          refine N_lit eSq [⟨(x.seqs.getD i default).kind, (x.seqs.getD i default).init, mapL (toK x.n) (x.seqs.getD i default).ins, r, e⟩] rfl rfl rfl rfl (s := 3) rfl (by decide) (by infer_instance) (by rfl) (by rfl) (by rfl) (by decide) ?_; intro b82; refine N_ops rfl rfl ?_; skip
          refine N_append rfl rfl rfl rfl rfl rfl rfl (by decide) rfl (by first | omega | (simp only [List.length_append, List.length_cons, List.length_nil, List.length_take, List.length_drop, List.length_set, List.length_replicate, List.length_map]; omega)) rfl rfl (fun hq => Bool.noConfusion (hq.symm.trans (by kernel_rfl : flagAt _ _ = false))) ?_; intro b' c' hnil; refine N_ops rfl rfl ?_; (repeat (refine N_stB rfl rfl rfl rfl (by kernel_rfl) ?_; refine N_ops rfl rfl ?_))
          refine N_end ?_; intro w hp C; refine h_run rfl ?_; skip
          have hp := rIns_add (y := ⟨(x.seqs.getD i default).kind, (x.seqs.getD i default).init, mapL (toK x.n) (x.seqs.getD i default).ins, r, e⟩) (hp.f4.f2)
          have hp := (hp.f1.drop).f2.f2
          refine IH (i + 1) (R ++ [SeqA.mk (x.seqs.getD i default).kind (x.seqs.getD i default).init (mapL (toK x.n) (x.seqs.getD i default).ins) r e]) b' c' _ _ _ (by omega) rfl ⟨⟨by omega, by rw [keptTo_yes hb]; simp; omega, ?_⟩, hp⟩
          rw [prSqs_yes hb, ← hRs, seqsOf_snoc]
          congr 1
          show [(⟨(x.seqs.getD i default).kind, (x.seqs.getD i default).init, mapL (toK x.n) (x.seqs.getD i default).ins⟩ : SeqL)] = [prSq x.n i]
          unfold prSq
          rw [x.skind, x.sinit, hsx]
        · rw [hz] at hb
          have hnb : ¬ (obsL x.n).getD (fsq x.n + i) default = true := by rw [hb]; decide
          refine h_cond_f rfl rfl ?_; skip
          exact IH (i + 1) R b c _ _ _ (by omega) rfl ⟨⟨by omega, by rw [keptTo_no hnb]; exact hR, by rw [prSqs_no hnb]; exact hRs⟩, hp⟩
      · refine h_cond_f rfl rfl ?_; skip
        obtain rfl : i = x.seqs.length := by omega
        clear IH
        have hp : Hp w0 _ (rO 79 2 eII none 0 ([] : List (Int × Int)) :: _) := hp.ownN (Ext.refl _) (Own.nil _ _ _ _ _)
        refine h_loop3 [1, 2, 3, 4, 5, 9] (fun (i : Nat) (_ : Option Addr) (_ : Nat) => [(1, .pointer (some ⟨b1, 0, none⟩)), (2, .pointer (some ⟨b2, 0, none⟩)), (3, .slice b3 (nds x.n) c3), (4, .pointer (some ⟨b4, 0, none⟩)), (5, .slice tb (toK x.n).length tc), (9, .int .i64 (i : Int))])
          (fun i aa ac w' => i ≤ x.ands.length ∧ Hp w0 w' [rB b4 28 [.int .i64 x.inputs, .slice b R.length c, .slice aa (prAns x.n i).length ac, .slice none 0 0], rO 79 2 eII aa ac (prAns x.n i), rO 91 3 eSq b c R, rIns R, rO 3 1 eI tb tc (toK x.n), rO 4 1 eB b3 c3 (obsL x.n), rB b2 28 (cellsV Try.ti28.zero), rB b1 28 x.cs]) (fun i _ _ => x.ands.length - i) 0 none 0 rfl
          ⟨by omega, hp.f1⟩ ?_
        clear hp hkl hz hi
        rintro i aa ac w2 ⟨hi, hp⟩ IH C
        have hal2 := keptTo_len (obsL x.n) (fst_ x.n) i
        rw [← prAns_len] at hal2
        have hz : (firstAndL x.n + (i : Int)).toNat = fst_ x.n + i := by omega
        refine h_run rfl ?_; (repeat (refine H_ldB hp rfl rfl ?_))
        refine h_cond_dec (fun hlt3 => ?_) (fun hlt3 => ?_)
        · have hlt' : i < x.ands.length := by omega
          obtain ⟨q1, q2, q3, q4⟩ := hok.and_ hlt'
          refine h_cond_t rfl rfl ?_; (repeat (refine H_ldB hp rfl rfl ?_))
          refine h_call rfl Try.func61 (by kernel_rfl) rfl (l08First_h x _ hok.b) ?_; rintro _ w ⟨rfl, hx⟩; have hp := hp.ext hx; refine ops_run nopre rfl ?_; (repeat (refine H_ldE hp rfl (by omega) (by omega) rfl rfl ?_))
          refine h_cond_b (fun hb => ?_) (fun hb => ?_)
          · rw [hz] at hb
            have hml : (mapL (toK x.n) [(x.ands.getD i default).1, (x.ands.getD i default).2]).length = 2 := rfl
            refine h_cond_t rfl rfl ?_; skip
            refine N_draw hp (by kernel_rfl) (by kernel_rfl) rfl rfl ?_; (repeat (first | (refine nLoad ?_; first | refine N_ldB rfl rfl rfl ?_ | refine N_ldFN rfl (by omega) rfl rfl rfl ?_) | (refine nBuild ?_; refine N_litI rfl rfl rfl rfl rfl rfl rfl rfl rfl rfl ?_; intro _; refine N_ops rfl rfl ?_)))
            refine N_call Try.func81 (by kernel_rfl) rfl (fun F w hp => ?_); refine Ret.mono (l10Map_h _ _ _ _ (toK x.n) [(x.ands.getD i default).1, (x.ands.getD i default).2] _ _ rfl rfl _ hp.pre.rd hp.pre.rd (two_in (p := fun l => 0 ≤ l ∧ l / 2 < ((toK x.n).length : Int)) ⟨q1, by omega⟩ ⟨q3, by omega⟩) (by omega) (by simp)) ?_; rintro _ w ⟨r8, e8, rfl, hq⟩; have hp := hp.callF1 hq; refine ⟨fun _ => hp.sub (by (repeat (first | exact List.sublist_append_left _ _ | apply List.Sublist.cons))), _, hp, ?_⟩; clear hp; refine N_ops rfl rfl ?_; skip
            refine N_end ?_; intro w hp C; refine h_run rfl ?_; skip
            refine N_draw hp (by kernel_rfl) (by kernel_rfl) rfl rfl ?_; (repeat (refine nLoad ?_; first | refine N_ldB rfl rfl rfl ?_ | refine N_ldE rfl (by omega) (by omega) rfl rfl rfl ?_))
            refine N_lit eII [(litV (toK x.n) (x.ands.getD i default).1, litV (toK x.n) (x.ands.getD i default).2)] rfl rfl rfl rfl (s := 2) rfl (by decide) (by infer_instance) (by rfl) (by rfl) (by rfl) (by decide) ?_; intro b42; refine N_ops rfl rfl ?_; skip
            refine N_append rfl rfl rfl rfl rfl rfl rfl (by decide) rfl (by first | omega | (simp only [List.length_append, List.length_cons, List.length_nil, List.length_take, List.length_drop, List.length_set, List.length_replicate, List.length_map]; omega)) rfl rfl (fun hq => Bool.noConfusion (hq.symm.trans (by kernel_rfl : flagAt _ _ = false))) ?_; intro aa' ac' hnil; refine N_ops rfl rfl ?_; (repeat (refine N_stB rfl rfl rfl rfl (by kernel_rfl) ?_; refine N_ops rfl rfl ?_))
            refine N_end ?_; intro w hp C; refine h_run rfl ?_; skip
            refine IH (i + 1) aa' ac' _ _ _ (by omega) rfl ⟨by omega, ?_⟩
            rw [prAns_yes hb]
            exact hp.drop.drop.drop
          · rw [hz] at hb
            have hnb : ¬ (obsL x.n).getD (fst_ x.n + i) default = true := by rw [hb]; decide
            refine h_cond_f rfl rfl ?_; skip
            refine IH (i + 1) aa ac _ _ _ (by omega) rfl ⟨by omega, ?_⟩
            rw [prAns_no hnb]
            exact hp
        · refine h_cond_f rfl rfl ?_; (repeat (refine H_ldB hp rfl rfl ?_))
          obtain rfl : i = x.ands.length := by omega
          refine h_call rfl Try.func81 (by kernel_rfl) rfl (l10Map_h _ _ _ _ (toK x.n) x.outs _ _ rfl rfl _ hp.rd hp.rd (fun q hq => hlk _ (hok.out _ (getD_mem hq))) (by omega) (by omega)) ?_; rintro _ w ⟨r, e, rfl, hq⟩; have hx := hq.x; have hp := hp.call1 hq; refine ops_run nopre rfl ?_; (repeat (first | (refine gLoad ?_; refine H_ldB hp rfl rfl ?_) | (refine gStore ?_; (first | refine U_stB hp rfl rfl rfl rfl ?_ | refine U_stBN hp rfl rfl rfl rfl ?_); intro w hp; refine ops_run nopre rfl ?_) | (refine gRetc ?_; refine R_ret1 hp rfl ?_)))
          have hfin : seqsOf R = (pruneL x.n).seqs := by rw [hRs, ← hsl]; rfl
          refine ⟨⟨x.inputs, R, b, c, prAns x.n x.ands.length, aa, ac, mapL (toK x.n) x.outs, r, e⟩, ⟨?_, rfl⟩, ?_⟩
          · unfold NetA.n
            rw [hfin]
            rfl
          · exact Hp.tk (rNet_shut (x := ⟨x.inputs, R, b, c, prAns x.n x.ands.length, aa, ac, mapL (toK x.n) x.outs, r, e⟩) ((rSq_shut (hp.f4.f4)).f1.f3.f2)) 1
  · refine h_call rfl Try.func56 (by kernel_rfl) rfl ((specNetOk_h x _ hp.net hS hW).ff (netOkB_no hok)) ?_; rintro _ w ⟨rfl, hx⟩; have hp := hp.ext hx; refine ops_run nopre rfl ?_; skip
    refine h_cond_t rfl rfl ?_; (repeat (first | (refine gStore ?_; refine U_stBN hp rfl rfl rfl rfl ?_; intro w hp; refine ops_run nopre rfl ?_) | (refine gRetc ?_; refine R_ret1 hp rfl ?_)))
    rw [ifNet_no hok]
    exact ⟨nilA, ⟨rfl, rfl⟩, Hp.tk (hpNil hp) 1⟩
end Go.Proofs
