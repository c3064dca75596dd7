/- The contracts of the program's functions that retime a net forward; each under its stated conditions. -/
import Derived.Test.YtckfgmgnllemmaaPrune
import Derived.Test.YtckfgmgnllemmaaRetLaw
set_option linter.all false
namespace Go.Proofs
open Go.Xw
set_option maxRecDepth 100000
set_option maxHeartbeats 8000000
attribute [local irreducible] Holds elemAddr

theorem flopOf_h (x : NetA) (l : Int) (w0 : World) (hX : NetR w0 x) (hok : NetOkP x.n) (h0 : 0 ≤ l) (h1 : l ≤ 1000000) : Ret Try.prog 169 [x.v, .int .i64 l] w0 (fun v w => v = .int .i64 (flopL x.n l) ∧ Ext w0 w) := by
  have hsz := hok.size'
  have hsl := x.slen
  have hf3 : x.n.inputs = x.inputs := rfl
  refine enter Try.S169ok _ _ rfl rfl (by show _ ≤ _; simp only [List.length]; decide) (fun C => ?_); have hp := Hp.nil w0; refine h_run rfl ?_; skip; (first | (refine H_box hp ?_; intro w b2 hx hp) | (refine H_alloc hp rfl ?_; intro w b2 hx hp)); refine ops_run nopre rfl ?_; (repeat (refine H_ldB hp rfl rfl ?_))
  refine h_call rfl Try.func136 (by kernel_rfl) rfl (firstSeq_h x _ hok.b) ?_; rintro _ w ⟨rfl, hx⟩; have hp := hp.ext hx; refine ops_run nopre rfl ?_; skip
  refine h_guard_by (fun h2 => ?_) (fun h2 => ?_); all_goals (rw [h2]; (first | replace h2 := of_decide_eq_true h2 | replace h2 := of_decide_eq_false h2 | skip); (repeat (first | (refine gGuard ?_; first | refine h_guard_y rfl nopre rfl ?_ | refine h_guard_n rfl nopre rfl ?_) | (refine gLoad ?_; refine H_ldB hp rfl rfl ?_))))
  · refine h_cond_t rfl rfl ?_; (repeat (refine R_ret ?_))
    exact ⟨by unfold flopL; rw [if_neg (fun h => by omega)], hp.x⟩
  · refine h_guard_by (fun h3 => ?_) (fun h3 => ?_); all_goals (rw [h3]; (first | replace h3 := of_decide_eq_true h3 | replace h3 := of_decide_eq_false h3 | skip); (repeat (first | (refine gGuard ?_; first | refine h_guard_y rfl nopre rfl ?_ | refine h_guard_n rfl nopre rfl ?_) | (refine gLoad ?_; first | refine H_ldB hp rfl rfl ?_ | refine H_ldF hp rfl (by omega) (by omega) rfl rfl ?_))))
    · refine h_cond_t rfl rfl ?_; (repeat (refine R_ret ?_))
      exact ⟨by unfold flopL; rw [if_neg (fun h => by omega)], hp.x⟩
    · have hk := x.skind (l / 2 - (1 + x.inputs)).toNat
      refine h_cond_dec (fun h4 => ?_) (fun h4 => ?_)
      · refine h_cond_t rfl rfl ?_; (repeat (refine R_ret ?_))
        exact ⟨by unfold flopL; rw [if_neg (fun h => by have h5 := h.2.2; rw [hf3, hk] at h5; exact h4 h5)], hp.x⟩
      · refine h_cond_f rfl rfl ?_; (repeat (refine R_ret ?_))
        refine ⟨?_, hp.x⟩
        unfold flopL
        rw [if_pos ⟨by omega, by omega, by rw [hf3, hk]; omega⟩]
        rfl
/-- what forward gives: the retimed net or a copy -/
noncomputable def fwF (n : NetL) (k : Int) : NetL × Bool := match fwO n k with
  | some m => (m, true)
  | none => (n, false)
theorem fwF_no {n : NetL} {k : Int} (h : fwO n k = none) : fwF n k = (n, false) := by unfold fwF; rw [h]
theorem fwF_yes {n m : NetL} {k : Int} (h : fwO n k = some m) : fwF n k = (m, true) := by unfold fwF; rw [h]
theorem fwO_bad {n : NetL} {k : Int} (h : ¬ fwOkP n k) : fwO n k = none := by unfold fwO; rw [if_neg h]
theorem fwO_good {n : NetL} {k : Int} (h : fwOkP n k) : fwO n k = (fwT n k n.ands.length).bind (fwN n (n.ands.getD k.toNat default).1 (n.ands.getD k.toNat default).2) := by unfold fwO; rw [if_pos h]
theorem fwO_none {n : NetL} {k : Int} {i : Nat} (h : fwOkP n k) (hi : i ≤ n.ands.length) (hT : fwT n k i = none) : fwO n k = none := by
  rw [fwO_good h, show fwT n k n.ands.length = none from raTo_none hT hi]; rfl
theorem cr_ext {n : NetL} {to : List Int} {X : List SeqL} {z : SeqL} (hl : X.length = n.seqs.length) (h : ∀ i, i < n.seqs.length → (X.getD i default).kind = (n.seqs.getD i default).kind ∧ (X.getD i default).init = (n.seqs.getD i default).init) :
    upTo (crF (X ++ [z]) n to) n.seqs.length (X ++ [z]) = mapS n to ++ [z] := by
  unfold upTo
  rw [show (X ++ [z]).drop n.seqs.length = [z] by rw [← hl, List.drop_left]]
  congr 1
  refine list_eq (by simp [mapS]) fun i hi => ?_
  simp at hi
  unfold mapS
  rw [range_get hi, map_getD hi]
  unfold crF
  rw [snoc_lt (by omega), (h i hi).1, (h i hi).2]
theorem forward_h (x : NetA) (k : Int) (w0 : World) (hX : NetR w0 x) (hS : NetS x.n) (hK : i64R k) :
    Ret Try.prog 159 [x.v, .int .i64 k] w0 (fun v w => ∃ y, (y.n = (fwF x.n k).1 ∧ v = .tuple ⟨[y.v, .bool (fwF x.n k).2]⟩) ∧ Hp w0 w [rNet y]) := by
  have hal : x.n.ands.length = x.ands.length := rfl
  have hsl := x.slen
  refine enter Try.S159ok _ _ rfl rfl (by show _ ≤ _; simp only [List.length]; decide) (fun C => ?_); have hp := Hp.nil w0; refine h_run rfl ?_; skip; (first | (refine H_box hp ?_; intro w b2 hx hp) | (refine H_alloc hp rfl ?_; intro w b2 hx hp)); refine ops_run nopre rfl ?_; skip; (first | (refine H_box hp ?_; intro w b4 hx hp) | (refine H_alloc hp rfl ?_; intro w b4 hx hp)); refine ops_run nopre rfl ?_; (repeat (refine H_ldB hp rfl rfl ?_))
  by_cases hok : NetOkP x.n
  · have hn := hok.nums
    have n1 := hn.n1
    have n4 := hn.n2
    have f2 := hn.f2
    have hnd := hok.nodes
    have hsz := hok.size'
    refine h_call rfl Try.func51 (by kernel_rfl) rfl ((implNetOk_h x _ hp.net hS).tt (netOkB_yes hok)) ?_; rintro _ w ⟨rfl, hx⟩; have hp := hp.ext hx; refine ops_run nopre rfl ?_; (repeat (first | (refine gGuard ?_; refine h_guard_y rfl nopre rfl ?_) | (refine gLoad ?_; refine H_ldB hp rfl rfl ?_)))
    by_cases hk : 0 ≤ k ∧ k ≤ (x.ands.length : Int) - 1
    · refine h_call rfl Try.func109 (by kernel_rfl) rfl ((inRange_h k 0 ((x.ands.length : Int) - 1) _).yes hk) ?_; rintro _ w ⟨rfl, hx⟩; have hp := hp.ext hx; refine ops_run nopre rfl ?_; (repeat (refine h_guard_y rfl nopre rfl ?_))
      obtain ⟨k', rfl⟩ := Int.eq_ofNat_of_zero_le hk.1
      have hk' : k' < x.ands.length := by omega
      obtain ⟨a1, a2, a3, a4⟩ := hok.and_ hk'
      refine h_cond_f rfl rfl ?_; (repeat (refine gLoad ?_; first | refine H_ldB hp rfl rfl ?_ | refine H_ldEN hp rfl (by omega) rfl rfl ?_))
      (first | (refine H_box hp ?_; intro w b6 hx hp) | (refine H_alloc hp rfl ?_; intro w b6 hx hp)); refine ops_run nopre rfl ?_; (repeat (refine U_stBN hp rfl rfl rfl rfl ?_; intro w hp; refine ops_run nopre rfl ?_))
      refine N_draw hp (by kernel_rfl) (by kernel_rfl) rfl rfl ?_; (repeat (refine N_ldB rfl rfl rfl ?_))
      refine N_call Try.func169 (by kernel_rfl) rfl (fun F w hp => ?_); refine Ret.mono (flopOf_h x (x.ands.getD k' default).1 _ hp.pre.net hok a1 (by omega)) ?_; rintro _ w ⟨rfl, hx⟩; have hp := hp.ext hx; refine ⟨fun _ => hp.sub (by (repeat (first | exact List.sublist_append_left _ _ | apply List.Sublist.cons))), _, hp, ?_⟩; clear hp; refine N_ops rfl rfl ?_; (repeat (refine N_ldB rfl rfl rfl ?_))
      refine N_call Try.func169 (by kernel_rfl) rfl (fun F w hp => ?_); refine Ret.mono (flopOf_h x (x.ands.getD k' default).2 _ hp.pre.net hok a3 (by omega)) ?_; rintro _ w ⟨rfl, hx⟩; have hp := hp.ext hx; refine ⟨fun _ => hp.sub (by (repeat (first | exact List.sublist_append_left _ _ | apply List.Sublist.cons))), _, hp, ?_⟩; clear hp; refine N_ops rfl rfl ?_; skip
      refine N_end ?_; intro w hp C; refine h_run rfl ?_; skip
      refine h_guard_by (fun h1 => ?_) (fun h1 => ?_); all_goals (rw [h1]; (first | replace h1 := of_decide_eq_true h1 | replace h1 := of_decide_eq_false h1 | skip); (repeat (refine gGuard ?_; first | refine h_guard_y rfl nopre rfl ?_ | refine h_guard_n rfl nopre rfl ?_)))
      · have hbad : ¬ fwOkP x.n k' := fun h => by have h5 : 0 ≤ flopL x.n (x.ands.getD k' default).1 := h.2.2.2.1; omega
        refine h_cond_t rfl rfl ?_; (repeat (refine H_ldB hp rfl rfl ?_))
        refine h_call rfl Try.func130 (by kernel_rfl) rfl (implCopyNet_h x _ hp.net hS) ?_; rintro _ w ⟨z, ⟨hz, rfl⟩, hq⟩; have hx := hq.x; have hp := hp.call1 hq; refine ops_run nopre rfl ?_; (repeat (first | (refine gStore ?_; refine U_stBN hp rfl rfl rfl rfl ?_; intro w hp; refine ops_run nopre rfl ?_) | (refine gRetc ?_; refine R_ret2v hp rfl ?_)))
        rw [fwF_no (fwO_bad hbad)]
        exact ⟨z, ⟨hz, rfl⟩, Hp.tk hp 1⟩
      · refine h_guard_by (fun h2 => ?_) (fun h2 => ?_); all_goals (rw [h2]; (first | replace h2 := of_decide_eq_true h2 | replace h2 := of_decide_eq_false h2 | skip); (repeat (first | (refine gGuard ?_; first | refine h_guard_y rfl nopre rfl ?_ | refine h_guard_n rfl nopre rfl ?_) | (refine gLoad ?_; refine H_ldB hp rfl rfl ?_))))
        · have hbad : ¬ fwOkP x.n k' := fun h => by have h5 : 0 ≤ flopL x.n (x.ands.getD k' default).2 := h.2.2.2.2; omega
          refine h_cond_t rfl rfl ?_; (repeat (refine H_ldB hp rfl rfl ?_))
          refine h_call rfl Try.func130 (by kernel_rfl) rfl (implCopyNet_h x _ hp.net hS) ?_; rintro _ w ⟨z, ⟨hz, rfl⟩, hq⟩; have hx := hq.x; have hp := hp.call1 hq; refine ops_run nopre rfl ?_; (repeat (first | (refine gStore ?_; refine U_stBN hp rfl rfl rfl rfl ?_; intro w hp; refine ops_run nopre rfl ?_) | (refine gRetc ?_; refine R_ret2v hp rfl ?_)))
          rw [fwF_no (fwO_bad hbad)]
          exact ⟨z, ⟨hz, rfl⟩, Hp.tk hp 1⟩
        · refine h_cond_dec (fun h3 => ?_) (fun h3 => ?_)
          · have hbad : ¬ fwOkP x.n k' := fun h => by have h5 := h.2.2.1; omega
            refine h_cond_t rfl rfl ?_; (repeat (refine H_ldB hp rfl rfl ?_))
            refine h_call rfl Try.func130 (by kernel_rfl) rfl (implCopyNet_h x _ hp.net hS) ?_; rintro _ w ⟨z, ⟨hz, rfl⟩, hq⟩; have hx := hq.x; have hp := hp.call1 hq; refine ops_run nopre rfl ?_; (repeat (first | (refine gStore ?_; refine U_stBN hp rfl rfl rfl rfl ?_; intro w hp; refine ops_run nopre rfl ?_) | (refine gRetc ?_; refine R_ret2v hp rfl ?_)))
            rw [fwF_no (fwO_bad hbad)]
            exact ⟨z, ⟨hz, rfl⟩, Hp.tk hp 1⟩
          · have hgood : fwOkP x.n k' := ⟨hok, ⟨by omega, by omega⟩, by omega, by show 0 ≤ flopL x.n (x.ands.getD k' default).1; omega, by show 0 ≤ flopL x.n (x.ands.getD k' default).2; omega⟩
            have hfa : 0 ≤ flopL x.n (x.ands.getD k' default).1 := by omega
            have hfb : 0 ≤ flopL x.n (x.ands.getD k' default).2 := by omega
            obtain ⟨fa1, fa2, _⟩ := flopL_yes hfa
            obtain ⟨fb1, fb2, _⟩ := flopL_yes hfb
            have fa3 : flopL x.n (x.ands.getD k' default).1 < x.seqs.length := by omega
            have fb3 : flopL x.n (x.ands.getD k' default).2 < x.seqs.length := by omega
            have eInit : fwInit x.n (x.ands.getD k' default).1 (x.ands.getD k' default).2 = bits .and .i64 (bits .xor .i64 (x.seqs.getD (flopL x.n (x.ands.getD k' default).1).toNat default).init (bits .and .i64 (x.ands.getD k' default).1 1)) (bits .xor .i64 (x.seqs.getD (flopL x.n (x.ands.getD k' default).2).toNat default).init (bits .and .i64 (x.ands.getD k' default).2 1)) := by
              unfold fwInit bitX; rw [x.sinit, x.sinit]
            refine h_cond_f rfl rfl ?_; (repeat (refine H_ldB hp rfl rfl ?_))
            refine h_call rfl Try.func141 (by kernel_rfl) rfl (emptyCopy_h x _ hp.net hok) ?_; rintro _ w ⟨y0, ⟨hy0, rfl⟩, hq⟩; have hx := hq.x; have hp := hp.call1 hq; refine ops_run nopre rfl ?_; skip
            (first | (refine H_box hp ?_; intro w b9 hx hp) | (refine H_alloc hp rfl ?_; intro w b9 hx hp)); refine ops_run nopre rfl ?_; (repeat (first | (refine gLoad ?_; refine H_ldB hp rfl rfl ?_) | (refine gStore ?_; refine U_stBN hp rfl rfl rfl rfl ?_; intro w hp; refine ops_run nopre rfl ?_)))
            refine h_call rfl Try.func142 (by kernel_rfl) rfl (leafLits_h x _ hok) ?_; rintro _ w ⟨b10, c10, rfl, hq⟩; have hx := hq.x; have hp := hp.call1 hq; refine ops_run nopre rfl ?_; (repeat (refine H_ldB hp rfl rfl ?_))
            refine h_call rfl Try.func116 (by kernel_rfl) rfl (firstAnd_h x _ hok.b) ?_; rintro _ w ⟨rfl, hx⟩; have hp := hp.ext hx; refine ops_run nopre rfl ?_; skip
            have hya : y0.ands = [] := congrArg NetL.ands hy0
            have hyi : y0.inputs = x.inputs := congrArg NetL.inputs hy0
            have hys : seqsOf y0.seqs = (begL x.n []).seqs := congrArg NetL.seqs hy0
            have hyl : y0.seqs.length = x.seqs.length := by rw [← seqsOf_len y0.seqs, hys, beg_at.1, x.slen]
            have hcs : y0.cs = [.int .i64 y0.inputs, .slice y0.sa y0.seqs.length y0.sc, .slice y0.aa ([] : List (Int × Int)).length y0.ac, .slice y0.oa y0.outs.length y0.oc] := by unfold NetA.cs; rw [hya]
            have hp := (rSq_open (rNet_open hp.f2)).f7.f7.f5.f4.f4.f6.f6.f7
            rw [hya] at hp
            have hp := Hp.cgB hp hcs
            refine N_draw hp (by kernel_rfl) (by kernel_rfl) rfl rfl ?_; (repeat (refine nLoad ?_; first | refine N_ldB rfl rfl rfl ?_ | refine N_ldF rfl (by omega) (by omega) rfl rfl rfl ?_))
            show HoldsF _ _ _ _ _ _ (G.act (.buildSlice _ _ _) _)
            rw [← eInit]
            refine N_lit eSq [⟨0, fwInit x.n (x.ands.getD k' default).1 (x.ands.getD k' default).2, [], none, 0⟩] rfl rfl rfl rfl (s := 3) rfl (by decide) (by infer_instance) (by rfl) (by rfl) (by rfl) (by decide) ?_; intro b90; refine N_ops rfl rfl ?_; skip
            refine N_append rfl rfl rfl rfl rfl rfl rfl (by decide) rfl (by first | omega | (simp only [List.length_append, List.length_cons, List.length_nil, List.length_take, List.length_drop, List.length_set, List.length_replicate, List.length_map]; omega)) rfl rfl (fun hq => Bool.noConfusion (hq.symm.trans (by kernel_rfl : flagAt _ _ = false))) ?_; intro b' c' hnil; refine N_ops rfl rfl ?_; (repeat (refine N_stB rfl rfl rfl rfl (by kernel_rfl) ?_; refine N_ops rfl rfl ?_))
            refine N_end ?_; intro w hp C; refine h_run rfl ?_; (repeat (refine H_ldB hp rfl rfl ?_))
            have hp : Hp w0 _ (rO 3 1 eI none 0 ([] : List Int) :: _) := hp.ownN (Ext.refl _) (Own.nil _ _ _ _ _)
            have hp := rIns_add (y := ⟨0, fwInit x.n (x.ands.getD k' default).1 (x.ands.getD k' default).2, [], none, 0⟩) (hp.f6.f1)
            have hp := (hp.f1.drop).f6.f6.f2.f6.f6.f6.f6
            obtain ⟨R1, hR1⟩ : ∃ R1, R1 = y0.seqs ++ [SeqA.mk 0 (fwInit x.n (x.ands.getD k' default).1 (x.ands.getD k' default).2) [] none 0] := ⟨_, rfl⟩
            have hR1l : R1.length = x.seqs.length + 1 := by rw [hR1]; simp; omega
            refine h_loop4 [1, 2, 4, 6, 7, 8, 9, 10, 11, 94, 95, 96] (fun (i : Nat) (_ : List (Int × Int) × List Int) (_ : Option Addr) (_ : Nat) => [(1, .int .i64 (k' : Int)), (2, .pointer (some ⟨b2, 0, none⟩)), (4, .pointer (some ⟨b4, 0, none⟩)), (6, .pointer (some ⟨b6, 0, none⟩)), (7, .int .i64 (flopL x.n (x.ands.getD k' default).1)), (8, .int .i64 (flopL x.n (x.ands.getD k' default).2)), (9, .pointer (some ⟨b9, 0, none⟩)), (10, .slice b10 (nds x.n) c10), (11, .int .i64 (2 * firstAndL x.n)), (94, .slice x.aa x.ands.length x.ac), (95, .int .i64 x.ands.length), (96, .int .i64 (i : Int))])
              (fun i T aa ac w' => (i ≤ x.ands.length ∧ fwT x.n k' i = some T) ∧ Hp w0 w' [rB b9 32 [.int .i64 y0.inputs, .slice b' R1.length c', .slice aa T.1.length ac, .slice y0.oa y0.outs.length y0.oc], rO 81 2 eII aa ac T.1, rO 3 1 eI b10 c10 (T.2 ++ List.replicate (x.ands.length - i) 0), rO 62 3 eSq b' c' R1, rIns R1, rO 3 1 eI y0.oa y0.oc y0.outs, rB b6 81 (eII (x.ands.getD k' default)), rB b4 32 (cellsV Try.ti32.zero), rB b2 32 x.cs])
              (fun i _ _ _ => x.ands.length - i) 0 ([], leafL x.n) y0.aa y0.ac rfl ⟨⟨by omega, rfl⟩, by rw [hR1]; exact hp⟩ ?_
            clear hp
            rintro i T aa ac w1 ⟨⟨hi, hT⟩, hp⟩ IH C
            have hra := fwT_ok hok hgood.2.2.1 (show i ≤ x.n.ands.length by omega) hT
            have hTl := hra.len
            have hB := hra.b
            have g1 := hB.f1
            have g2 := hB.alen
            have hpl : (T.2 ++ List.replicate (x.ands.length - i) (0 : Int)).length = nds x.n := by simp; omega
            refine h_run rfl ?_; skip
            refine h_cond_dec (fun hlt => ?_) (fun hlt => ?_)
            · have hlt' : i < x.ands.length := by omega
              have hz : (firstAndL x.n + (i : Int)).toNat = fst_ x.n + i := by omega
              obtain ⟨q1, q2, q3, q4⟩ := hok.and_ hlt'
              have hrep : List.replicate (x.ands.length - i) (0 : Int) = List.replicate (x.ands.length - (i + 1) + 1) 0 := by rw [show x.ands.length - i = x.ands.length - (i + 1) + 1 by omega]
              obtain ⟨l1, l2⟩ := hra.lits hok hlt'
              have l1 : litP (litV T.2 (x.ands.getD i default).1) (firstAndL x.n + 1 + T.1.length) := l1
              have l2 : litP (litV T.2 (x.ands.getD i default).2) (firstAndL x.n + 1 + T.1.length) := l2
              have l1' := l1
              have l2' := l2
              unfold litP at l1' l2'
              have hne5 : b10 ≠ none := nn_of hp (X := T.2 ++ List.replicate (x.ands.length - i) (0 : Int)) (by omega)
              refine h_cond_t rfl rfl ?_; (repeat (refine H_ldEN hp rfl (by omega) rfl rfl ?_))
              (first | (refine H_box hp ?_; intro w b13 hx hp) | (refine H_alloc hp rfl ?_; intro w b13 hx hp)); refine ops_run nopre rfl ?_; (repeat (refine U_stBN hp rfl rfl rfl rfl ?_; intro w hp; refine ops_run nopre rfl ?_))
              refine h_cond_dec (fun hik => ?_) (fun hik => ?_)
              · have hik' : ¬ (i : Int) = (k' : Int) := by omega
                have hfd : firstAndL (NetA.mk y0.inputs R1 b' c' T.1 aa ac y0.outs y0.oa y0.oc).n = firstAndL x.n + 1 := by rw [firstAndL_eq, firstAndL_eq]; show 1 + y0.inputs + (R1.length : Nat) = _; omega
                have hC : addAndL (NetA.mk y0.inputs R1 b' c' T.1 aa ac y0.outs y0.oa y0.oc).n (litV T.2 (x.ands.getD i default).1) (litV T.2 (x.ands.getD i default).2) = ({ (NetA.mk y0.inputs R1 b' c' T.1 aa ac y0.outs y0.oa y0.oc).n with ands := (addC (firstAndL x.n + 1) T.1 (litV T.2 (x.ands.getD i default).1) (litV T.2 (x.ands.getD i default).2)).1 }, (addC (firstAndL x.n + 1) T.1 (litV T.2 (x.ands.getD i default).1) (litV T.2 (x.ands.getD i default).2)).2) := by
                  rw [addAndL_C, hfd]; rfl
                have hb3 : NetB (NetA.mk y0.inputs R1 b' c' T.1 aa ac y0.outs y0.oa y0.oc) := ⟨by show _ ≤ y0.inputs ∧ y0.inputs ≤ _; omega, by show R1.length ≤ _; omega, by show T.1.length ≤ _; omega⟩
                refine h_cond_t rfl rfl ?_; skip
                refine N_draw hp (by kernel_rfl) (by kernel_rfl) rfl rfl ?_; (repeat (refine N_ldB rfl rfl rfl ?_))
                refine N_call Try.func137 (by kernel_rfl) rfl (fun F w hp => ?_); refine Ret.mono (mapLit_h _ _ _ _ hpl (x.ands.getD i default).1 _ hp.pre.rd q1 (by omega) (by omega)) ?_; rintro _ w ⟨rfl, hx⟩; have hp := hp.ext hx; refine ⟨fun _ => hp.sub (by (repeat (first | exact List.sublist_append_left _ _ | apply List.Sublist.cons))), _, hp, ?_⟩; clear hp; refine N_ops rfl rfl ?_; (repeat (refine N_ldB rfl rfl rfl ?_))
                refine N_call Try.func137 (by kernel_rfl) rfl (fun F w hp => ?_); refine Ret.mono (mapLit_h _ _ _ _ hpl (x.ands.getD i default).2 _ hp.pre.rd q3 (by omega) (by omega)) ?_; rintro _ w ⟨rfl, hx⟩; have hp := hp.ext hx; refine ⟨fun _ => hp.sub (by (repeat (first | exact List.sublist_append_left _ _ | apply List.Sublist.cons))), _, hp, ?_⟩; clear hp; refine N_ops rfl rfl ?_; skip
                rw [litV_pad, litV_pad]
                refine N_f2 ?_; refine N_f2 ?_
                refine N_call Try.func131 (by kernel_rfl) rfl (fun F w hp => ?_); refine Ret.mono (addAnd_F (NetA.mk y0.inputs R1 b' c' T.1 aa ac y0.outs y0.oa y0.oc) b9 (litV T.2 (x.ands.getD i default).1) (litV T.2 (x.ands.getD i default).2) hp hb3 (by show T.1.length ≤ _; omega) (by omega) (by omega)) ?_; rintro _ w ⟨aa', ac', rfl, hp⟩; refine ⟨fun hq => Bool.noConfusion (hq.symm.trans (by kernel_rfl : flagAt _ _ = false)), _, hp, ?_⟩; clear hp; refine N_ops rfl rfl ?_; skip
                refine N_end ?_; intro w hp C; refine h_run rfl ?_; skip
                rw [hC] at hp ⊢
                refine h_cond_dec (fun hneg => ?_) (fun hneg => ?_)
                · have hneg' : (addC (firstAndL x.n + 1) T.1 (litV T.2 (x.ands.getD i default).1) (litV T.2 (x.ands.getD i default).2)).2 < 0 := hneg
                  refine h_cond_t rfl rfl ?_; (repeat (refine H_ldB hp rfl rfl ?_))
                  refine h_call rfl Try.func130 (by kernel_rfl) rfl (implCopyNet_h x _ hp.net hS) ?_; rintro _ w ⟨z, ⟨hz, rfl⟩, hq⟩; have hx := hq.x; have hp := hp.call1 hq; refine ops_run nopre rfl ?_; (repeat (first | (refine gStore ?_; refine U_stBN hp rfl rfl rfl rfl ?_; intro w hp; refine ops_run nopre rfl ?_) | (refine gRetc ?_; refine R_ret2v hp rfl ?_)))
                  rw [fwF_no (fwO_none hgood (show i + 1 ≤ x.n.ands.length by omega) (raTo_no hT hik' hneg'))]
                  exact ⟨z, ⟨hz, rfl⟩, Hp.tk hp 1⟩
                · have hneg' : ¬ (addC (firstAndL x.n + 1) T.1 (litV T.2 (x.ands.getD i default).1) (litV T.2 (x.ands.getD i default).2)).2 < 0 := hneg
                  refine h_cond_f rfl rfl ?_; (repeat (refine H_ldB hp rfl rfl ?_))
                  refine h_call rfl Try.func116 (by kernel_rfl) rfl (firstAnd_h x _ hok.b) ?_; rintro _ w ⟨rfl, hx⟩; have hp := hp.ext hx; refine ops_run nopre rfl ?_; (repeat (refine U_st0 hp rfl rfl rfl (by omega) (by decide) rfl rfl ?_; intro w hp; refine ops_run nopre rfl ?_))
                  rw [hz, hrep, show fst_ x.n + i = T.2.length by omega, pad_set] at hp
                  exact IH (i + 1) _ aa' ac' _ _ _ (by omega) rfl ⟨⟨by omega, raTo_yes hT hik' hneg'⟩, hp.f2.drop⟩
              · have hik' : (i : Int) = (k' : Int) := by omega
                refine h_cond_f rfl rfl ?_; skip
                refine h_cond_f (decide_eq_false (by omega)) rfl ?_; (repeat (refine H_ldB hp rfl rfl ?_))
                refine h_call rfl Try.func116 (by kernel_rfl) rfl (firstAnd_h x _ hok.b) ?_; rintro _ w ⟨rfl, hx⟩; have hp := hp.ext hx; refine ops_run nopre rfl ?_; (repeat (refine U_st0 hp rfl rfl rfl (by omega) (by decide) rfl rfl ?_; intro w hp; refine ops_run nopre rfl ?_))
                rw [hz, hrep, show fst_ x.n + i = T.2.length by omega, pad_set] at hp
                exact IH (i + 1) _ aa ac _ _ _ (by omega) rfl ⟨⟨by omega, raTo_skip hT hik'⟩, hp.drop⟩
            · obtain rfl : i = x.ands.length := by omega
              clear IH
              refine h_cond_f rfl rfl ?_; skip
              rw [Nat.sub_self, List.replicate_zero, List.append_nil] at hp hpl
              have hrowA := hX.seqs.at_ (i := (flopL x.n (x.ands.getD k' default).1).toNat) (by omega)
              have hrowB := hX.seqs.at_ (i := (flopL x.n (x.ands.getD k' default).2).toNat) (by omega)
              have inA := (flopL_seq hok hfa).1
              have inB := (flopL_seq hok hfb).1
              rw [x.sins] at inA inB
              have lA := fwA_lit hok hfa hra
              have lB := fwA_lit hok hfb hra
              have eA : fwA x.n T.2 (x.ands.getD k' default).1 = bits .xor .i64 (litV T.2 ((x.seqs.getD (flopL x.n (x.ands.getD k' default).1).toNat default).ins.getD 0 default)) (bits .and .i64 (x.ands.getD k' default).1 1) := by unfold fwA bitX; rw [x.sins]
              have eB2 : fwA x.n T.2 (x.ands.getD k' default).2 = bits .xor .i64 (litV T.2 ((x.seqs.getD (flopL x.n (x.ands.getD k' default).2).toNat default).ins.getD 0 default)) (bits .and .i64 (x.ands.getD k' default).2 1) := by unfold fwA bitX; rw [x.sins]
              have tA := hok.inp (getD_mem fa1) ((x.seqs.getD (flopL x.n (x.ands.getD k' default).1).toNat default).ins.getD 0 default) (by rw [x.sins]; exact getD_mem (by omega))
              have tB := hok.inp (getD_mem fb1) ((x.seqs.getD (flopL x.n (x.ands.getD k' default).2).toNat default).ins.getD 0 default) (by rw [x.sins]; exact getD_mem (by omega))
              have tA' := tA
              have tB' := tB
              unfold litP at tA' tB'
              refine N_draw hp (by kernel_rfl) (by kernel_rfl) rfl rfl ?_; (repeat (refine nLoad ?_; first | refine N_ldB rfl rfl rfl ?_ | refine N_ldE rfl (by omega) (by omega) rfl rfl rfl ?_ | refine N_ldF rfl (by omega) (by omega) rfl rfl rfl ?_))
              refine N_call Try.func137 (by kernel_rfl) rfl (fun F w hp => ?_); refine Ret.mono (mapLit_h _ _ T.2 _ hpl ((x.seqs.getD (flopL x.n (x.ands.getD k' default).1).toNat default).ins.getD 0 default) _ hp.pre.rd tA'.1 (by omega) (by omega)) ?_; rintro _ w ⟨rfl, hx⟩; have hp := hp.ext hx; refine ⟨fun _ => hp.sub (by (repeat (first | exact List.sublist_append_left _ _ | apply List.Sublist.cons))), _, hp, ?_⟩; clear hp; refine N_ops rfl rfl ?_; (repeat (refine N_ldB rfl rfl rfl ?_))
              show HoldsF _ _ _ _ _ _ (G.code _ _)
              rw [← eA]
              refine N_end ?_; intro w hp C; refine h_run rfl ?_; skip
              refine N_draw hp (by kernel_rfl) (by kernel_rfl) rfl rfl ?_; (repeat (refine nLoad ?_; first | refine N_ldB rfl rfl rfl ?_ | refine N_ldE rfl (by omega) (by omega) rfl rfl rfl ?_ | refine N_ldF rfl (by omega) (by omega) rfl rfl rfl ?_))
              refine N_call Try.func137 (by kernel_rfl) rfl (fun F w hp => ?_); refine Ret.mono (mapLit_h _ _ T.2 _ hpl ((x.seqs.getD (flopL x.n (x.ands.getD k' default).2).toNat default).ins.getD 0 default) _ hp.pre.rd tB'.1 (by omega) (by omega)) ?_; rintro _ w ⟨rfl, hx⟩; have hp := hp.ext hx; refine ⟨fun _ => hp.sub (by (repeat (first | exact List.sublist_append_left _ _ | apply List.Sublist.cons))), _, hp, ?_⟩; clear hp; refine N_ops rfl rfl ?_; (repeat (refine N_ldB rfl rfl rfl ?_))
              show HoldsF _ _ _ _ _ _ (G.code _ _)
              rw [← eB2]
              refine N_end ?_; intro w hp C; refine h_run rfl ?_; skip
              have lA' := lA
              have lB' := lB
              unfold litP at lA' lB'
              have hfd : firstAndL (NetA.mk y0.inputs R1 b' c' T.1 aa ac y0.outs y0.oa y0.oc).n = firstAndL x.n + 1 := by rw [firstAndL_eq, firstAndL_eq]; show 1 + y0.inputs + (R1.length : Nat) = _; omega
              have hC : addAndL (NetA.mk y0.inputs R1 b' c' T.1 aa ac y0.outs y0.oa y0.oc).n (fwA x.n T.2 (x.ands.getD k' default).1) (fwA x.n T.2 (x.ands.getD k' default).2) = ({ (NetA.mk y0.inputs R1 b' c' T.1 aa ac y0.outs y0.oa y0.oc).n with ands := (addC (firstAndL x.n + 1) T.1 (fwA x.n T.2 (x.ands.getD k' default).1) (fwA x.n T.2 (x.ands.getD k' default).2)).1 }, (addC (firstAndL x.n + 1) T.1 (fwA x.n T.2 (x.ands.getD k' default).1) (fwA x.n T.2 (x.ands.getD k' default).2)).2) := by
                rw [addAndL_C, hfd]; rfl
              have hb3 : NetB (NetA.mk y0.inputs R1 b' c' T.1 aa ac y0.outs y0.oa y0.oc) := ⟨by show _ ≤ y0.inputs ∧ y0.inputs ≤ _; omega, by show R1.length ≤ _; omega, by show T.1.length ≤ _; omega⟩
              refine h_call rfl Try.func131 (by kernel_rfl) rfl (addAnd_h (NetA.mk y0.inputs R1 b' c' T.1 aa ac y0.outs y0.oa y0.oc) b9 (fwA x.n T.2 (x.ands.getD k' default).1) (fwA x.n T.2 (x.ands.getD k' default).2) hp hb3 (by show T.1.length ≤ _; omega) (by omega) (by omega)) ?_; rintro _ w ⟨aa', ac', rfl, hp⟩; refine ops_run nopre rfl ?_; skip
              obtain ⟨A', hA'⟩ : ∃ A', A' = (addC (firstAndL x.n + 1) T.1 (fwA x.n T.2 (x.ands.getD k' default).1) (fwA x.n T.2 (x.ands.getD k' default).2)).1 := ⟨_, rfl⟩
              obtain ⟨lt, hlt5⟩ : ∃ lt, lt = (addC (firstAndL x.n + 1) T.1 (fwA x.n T.2 (x.ands.getD k' default).1) (fwA x.n T.2 (x.ands.getD k' default).2)).2 := ⟨_, rfl⟩
              have e1 : (addAndL (NetA.mk y0.inputs R1 b' c' T.1 aa ac y0.outs y0.oa y0.oc).n (fwA x.n T.2 (x.ands.getD k' default).1) (fwA x.n T.2 (x.ands.getD k' default).2)).1.ands = A' := by rw [hC, hA']
              have e2 : (addAndL (NetA.mk y0.inputs R1 b' c' T.1 aa ac y0.outs y0.oa y0.oc).n (fwA x.n T.2 (x.ands.getD k' default).1) (fwA x.n T.2 (x.ands.getD k' default).2)).2 = lt := by rw [hC, hlt5]
              rw [e1] at hp
              rw [e2]
              have hp : Hp w0 w [rB b9 32 [.int .i64 y0.inputs, .slice b' R1.length c', .slice aa' A'.length ac', .slice y0.oa y0.outs.length y0.oc], rO 81 2 eII aa' ac' A', rO 3 1 eI b10 c10 T.2, rO 62 3 eSq b' c' R1, rIns R1, rO 3 1 eI y0.oa y0.oc y0.outs, rB b6 81 (eII (x.ands.getD k' default)), rB b4 32 (cellsV Try.ti32.zero), rB b2 32 x.cs] := hp
              have hfw : fwO x.n k' = fwN x.n (x.ands.getD k' default).1 (x.ands.getD k' default).2 T := by rw [fwO_good hgood, show fwT x.n k' x.n.ands.length = some T from hT]; rfl
              have hneS : b' ≠ none := nn_of hp (X := R1) (by omega)
              refine h_cond_dec (fun hneg => ?_) (fun hneg => ?_)
              · refine h_cond_t rfl rfl ?_; (repeat (refine H_ldB hp rfl rfl ?_))
                refine h_call rfl Try.func130 (by kernel_rfl) rfl (implCopyNet_h x _ hp.net hS) ?_; rintro _ w ⟨z, ⟨hz, rfl⟩, hq⟩; have hx := hq.x; have hp := hp.call1 hq; refine ops_run nopre rfl ?_; (repeat (first | (refine gStore ?_; refine U_stBN hp rfl rfl rfl rfl ?_; intro w hp; refine ops_run nopre rfl ?_) | (refine gRetc ?_; refine R_ret2v hp rfl ?_)))
                rw [fwF_no (by rw [hfw]; unfold fwN; rw [if_pos (by rw [← hlt5]; exact hneg)])]
                exact ⟨z, ⟨hz, rfl⟩, Hp.tk hp 1⟩
              · have hfin : fwO x.n k' = some (finX x.n A' T.2 (mapS x.n T.2 ++ [⟨0, fwInit x.n (x.ands.getD k' default).1 (x.ands.getD k' default).2, [lt]⟩])) := by rw [hfw]; unfold fwN; rw [← hlt5, if_neg hneg, hA']
                rw [fwF_yes hfin]
                refine h_cond_f rfl rfl ?_; (repeat (first | (refine gLoad ?_; refine H_ldB hp rfl rfl ?_) | (refine gBuild ?_; refine U_litI hp rfl rfl rfl rfl rfl rfl rfl rfl rfl rfl ?_; intro w _ hx hp; refine ops_run nopre rfl ?_)))
                rename_i b17
                have hat : R1.getD x.seqs.length default = SeqA.mk 0 (fwInit x.n (x.ands.getD k' default).1 (x.ands.getD k' default).2) [] none 0 := by rw [hR1, ← hyl]; exact snoc_eq
                refine U_st1N hp (SeqA.mk 0 (fwInit x.n (x.ands.getD k' default).1 (x.ands.getD k' default).2) [lt] (some ⟨b17, 0, none⟩) 1) rfl rfl rfl (by omega) (by decide) (by rw [hat]; rfl) rfl ?_; intro w hp; refine ops_run nopre rfl ?_; (repeat (refine H_ldB hp rfl rfl ?_))
                obtain ⟨Q, hq, hback⟩ := rIns_at hp.f5 (i := x.seqs.length) (by omega)
                have hp := hback _ _ (SeqA.mk 0 (fwInit x.n (x.ands.getD k' default).1 (x.ands.getD k' default).2) [lt] (some ⟨b17, 0, none⟩) 1) hq.drop.f1
                obtain ⟨R2, hR2⟩ : ∃ R2, R2 = R1.set x.seqs.length (SeqA.mk 0 (fwInit x.n (x.ands.getD k' default).1 (x.ands.getD k' default).2) [lt] (some ⟨b17, 0, none⟩) 1) := ⟨_, rfl⟩
                have hR2l : R2.length = x.seqs.length + 1 := by rw [hR2, List.length_set]; exact hR1l
                rw [← hR2] at hp
                have hp := (rSq_shut (hp.f4)).f4.f1.f2
                have hp := Hp.cgB hp (show _ = (NetA.mk y0.inputs R2 b' c' A' aa' ac' y0.outs y0.oa y0.oc).cs by unfold NetA.cs; rw [hR2l, ← hR1l])
                refine h_call rfl Try.func143 (by kernel_rfl) rfl (copyRoots_h b9 (NetA.mk y0.inputs R2 b' c' A' aa' ac' y0.outs y0.oa y0.oc) x b10 c10 (nds x.n) T.2 hpl hp hok (Nat.le_refl _) (by omega) (by show _ ≤ R2.length; omega) (by show R2.length ≤ _; omega)) ?_; rintro _ w ⟨R3, oa, oc, rfl, ⟨hR3, hRs3⟩, hp⟩; refine ops_run nopre rfl ?_; (repeat (first | (refine gLoad ?_; refine H_ldB hp rfl rfl ?_) | (refine gStore ?_; refine U_stBN hp rfl rfl rfl rfl ?_; intro w hp; refine ops_run nopre rfl ?_) | (refine gRetc ?_; refine R_ret2v hp rfl ?_)))
                have hR3l : R3.length = R2.length := hR3
                have hRs4 : seqsOf R3 = mapS x.n T.2 ++ [⟨0, fwInit x.n (x.ands.getD k' default).1 (x.ands.getD k' default).2, [lt]⟩] := by
                  rw [hRs3]
                  show upTo (crF (seqsOf R2) x.n _) x.seqs.length (seqsOf R2) = _
                  have h5 : seqsOf R2 = (begL x.n []).seqs ++ [⟨0, fwInit x.n (x.ands.getD k' default).1 (x.ands.getD k' default).2, [lt]⟩] := by
                    rw [hR2, hR1, seqsOf_set, seqsOf_snoc, hys, ← x.slen, ← (beg_at (n := x.n) (A := [])).1, List.set_append_right _ _ (Nat.le_refl _), Nat.sub_self]
                    rfl
                  rw [h5, ← x.slen]
                  exact cr_ext beg_at.1 beg_at.2
                refine ⟨⟨y0.inputs, R3, b', c', A', aa', ac', mapL T.2 x.outs, oa, oc⟩, ⟨?_, ?_⟩, ?_⟩
                · unfold NetA.n
                  rw [hRs4, hyi]
                  rfl
                · unfold NetA.v NetA.cs
                  rw [hR3l]
                · exact Hp.tk (rNet_shut (x := ⟨y0.inputs, R3, b', c', A', aa', ac', mapL T.2 x.outs, oa, oc⟩) (hp.f2.f3.f3)) 1
    · refine h_call rfl Try.func109 (by kernel_rfl) rfl ((inRange_h k 0 ((x.ands.length : Int) - 1) _).no hk) ?_; rintro _ w ⟨rfl, hx⟩; have hp := hp.ext hx; refine ops_run nopre rfl ?_; (repeat (refine h_guard_y rfl nopre rfl ?_))
      have hbad : ¬ fwOkP x.n k := fun h => by have := h.2.1; omega
      refine h_cond_t rfl rfl ?_; (repeat (refine H_ldB hp rfl rfl ?_))
      refine h_call rfl Try.func130 (by kernel_rfl) rfl (implCopyNet_h x _ hp.net hS) ?_; rintro _ w ⟨z, ⟨hz, rfl⟩, hq⟩; have hx := hq.x; have hp := hp.call1 hq; refine ops_run nopre rfl ?_; (repeat (first | (refine gStore ?_; refine U_stBN hp rfl rfl rfl rfl ?_; intro w hp; refine ops_run nopre rfl ?_) | (refine gRetc ?_; refine R_ret2v hp rfl ?_)))
      rw [fwF_no (fwO_bad hbad)]
      exact ⟨z, ⟨hz, rfl⟩, Hp.tk hp 1⟩
  · refine h_call rfl Try.func51 (by kernel_rfl) rfl ((implNetOk_h x _ hp.net hS).ff (netOkB_no hok)) ?_; rintro _ w ⟨rfl, hx⟩; have hp := hp.ext hx; refine ops_run nopre rfl ?_; (repeat (refine h_guard_n rfl nopre rfl ?_))
    have hbad : ¬ fwOkP x.n k := fun h => hok h.1
    refine h_cond_t rfl rfl ?_; (repeat (refine H_ldB hp rfl rfl ?_))
    refine h_call rfl Try.func130 (by kernel_rfl) rfl (implCopyNet_h x _ hp.net hS) ?_; rintro _ w ⟨z, ⟨hz, rfl⟩, hq⟩; have hx := hq.x; have hp := hp.call1 hq; refine ops_run nopre rfl ?_; (repeat (first | (refine gStore ?_; refine U_stBN hp rfl rfl rfl rfl ?_; intro w hp; refine ops_run nopre rfl ?_) | (refine gRetc ?_; refine R_ret2v hp rfl ?_)))
    rw [fwF_no (fwO_bad hbad)]
    exact ⟨z, ⟨hz, rfl⟩, Hp.tk hp 1⟩
end Go.Proofs
