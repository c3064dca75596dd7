/- The contract of the program's RetimeBackward; each under its stated conditions. -/
import Derived.Test.YtfcafmbcmdeomaaRet
import Derived.Test.YtfcafmbcmdeomaaRetLaw2
set_option linter.all false
namespace Go.Proofs
open Go.Xw
set_option maxRecDepth 100000
set_option maxHeartbeats 8000000
attribute [local irreducible] Holds elemAddr

theorem cr_ext2 {n : NetL} {to : List Int} {X : List SeqL} {z z' : SeqL} (hl : X.length = n.seqs.length) (h : ∀ i, i < n.seqs.length → (X.getD i default).kind = (n.seqs.getD i default).kind ∧ (X.getD i default).init = (n.seqs.getD i default).init) :
    upTo (crF (X ++ [z, z']) n to) n.seqs.length (X ++ [z, z']) = mapS n to ++ [z, z'] := by
  unfold upTo
  rw [show (X ++ [z, z']).drop n.seqs.length = [z, z'] by rw [← hl, List.drop_left]]
  congr 1
  refine list_eq (by simp [mapS]) fun i hi => ?_
  simp at hi
  unfold mapS
  rw [range_get hi, map_getD hi]
  unfold crF
  rw [show (X ++ [z, z']).getD i default = X.getD i default by simp [List.getD_eq_getElem?_getD, List.getElem?_append_left (show i < X.length by omega)], (h i hi).1, (h i hi).2]
theorem implRetimeBackward_x (x : NetA) (k : Int) (w0 : World) (hX : NetR w0 x) (hS : NetS x.n) (hW : NetW x.n) (hK : i64R k) :
    Ret Try.prog 50 [x.v, .int .i64 k] w0 (fun v w => ∃ y, (y.n = (rbL x.n k).1 ∧ v = .tuple ⟨[y.v, .bool (rbL x.n k).2]⟩) ∧ Hp w0 w [rNet y]) := by
  have hal : x.n.ands.length = x.ands.length := rfl
  have hsl := x.slen
  refine enter Try.S50ok _ _ rfl rfl (by show _ ≤ _; simp only [List.length]; decide) (fun C => ?_); have hp := Hp.nil w0; refine h_run rfl ?_; skip; (first | (refine H_box hp ?_; intro w b2 hx hp) | (refine H_alloc hp rfl ?_; intro w b2 hx hp)); refine ops_run nopre rfl ?_; skip; (first | (refine H_box hp ?_; intro w b4 hx hp) | (refine H_alloc hp rfl ?_; intro w b4 hx hp)); refine ops_run nopre rfl ?_; skip
  by_cases hok : NetOkP x.n
  · have hn := hok.nums
    have n1 := hn.n1
    have n4 := hn.n2
    have f2 := hn.f2
    have hnd := hok.nodes
    have hsz := hok.size'
    by_cases hk : 0 ≤ k ∧ k ≤ (x.seqs.length : Int) - 1
    · obtain ⟨k', rfl⟩ := Int.eq_ofNat_of_zero_le hk.1
      have hk' : k' < x.seqs.length := by omega
      have hil := hok.ins hk'
      have hsx := x.sins k'
      have hrow := hX.seqs.at_ hk'
      have hpos : 0 < (x.seqs.getD k' default).ins.length := by
        rcases hok.seqs k' (by omega) with ⟨_, _, h⟩ | ⟨_, _, h⟩ <;> rw [x.sins] at h <;> omega
      have hl0 := hok.inp (getD_mem (show k' < x.n.seqs.length by omega)) ((x.seqs.getD k' default).ins.getD 0 default) (by rw [x.sins]; exact getD_mem hpos)
      have hl0' := hl0
      unfold litP at hl0'
      have hl0r : 0 ≤ (x.seqs.getD k' default).ins.getD (nat_lit 0) default ∧ (x.seqs.getD k' default).ins.getD (nat_lit 0) default / 2 < nodesL x.n := hl0'
      have eIn : bwI x.n k' = (x.seqs.getD k' default).ins.getD 0 default := by unfold bwI; rw [show ((k' : Nat) : Int).toNat = k' by omega, x.sins]
      have eV : bwV x.n k' = bits .xor .i64 (x.seqs.getD k' default).init (bits .and .i64 ((x.seqs.getD k' default).ins.getD 0 default) 1) := by unfold bwV bitX; rw [eIn, show ((k' : Nat) : Int).toNat = k' by omega, x.sinit]
      have eK : (x.n.seqs.getD ((k' : Nat) : Int).toNat default).kind = (x.seqs.getD k' default).kind := by rw [show ((k' : Nat) : Int).toNat = k' by omega, x.skind]
      refine N_draw hp (by kernel_rfl) (by kernel_rfl) rfl rfl ?_; (repeat (refine N_ldB rfl rfl rfl ?_))
      refine N_call Try.func33 (by kernel_rfl) rfl (fun F w hp => ?_); refine Ret.mono ((implNetOk_h x _ hp.pre.net hS).tt (netOkB_yes hok)) ?_; rintro _ w ⟨rfl, hx⟩; have hp := hp.ext hx; refine ⟨fun _ => hp.sub (by (repeat (first | exact List.sublist_append_left _ _ | apply List.Sublist.cons))), _, hp, ?_⟩; clear hp; refine N_ops rfl rfl ?_; (repeat (first | (refine nGuard ?_; refine N_guard_y rfl rfl rfl ?_) | (refine nLoad ?_; refine N_ldB rfl rfl rfl ?_)))
      refine N_call Try.func104 (by kernel_rfl) rfl (fun F w hp => ?_); refine Ret.mono ((inRange_h (k' : Int) 0 ((x.seqs.length : Int) - 1) _).yes hk) ?_; rintro _ w ⟨rfl, hx⟩; have hp := hp.ext hx; refine ⟨fun _ => hp.sub (by (repeat (first | exact List.sublist_append_left _ _ | apply List.Sublist.cons))), _, hp, ?_⟩; clear hp; refine N_ops rfl rfl ?_; (repeat (first | (refine nGuard ?_; refine N_guard_y rfl rfl rfl ?_) | (refine nLoad ?_; first | refine N_ldB rfl rfl rfl ?_ | refine N_ldFN rfl (by omega) rfl rfl rfl ?_)))
      refine N_guard_by (fun hkd => ?_) (fun hkd => ?_); all_goals (rw [hkd]; (first | replace hkd := of_decide_eq_true hkd | replace hkd := of_decide_eq_false hkd | skip); (repeat (first | (refine nGuard ?_; first | refine N_guard_y rfl rfl rfl ?_ | refine N_guard_n rfl rfl rfl ?_) | (refine nLoad ?_; first | refine N_ldB rfl rfl rfl ?_ | refine N_ldEN rfl (by omega) rfl rfl rfl ?_ | refine N_ldFN rfl (by omega) rfl rfl rfl ?_))))
      · have hbad : ¬ bwOkP x.n k' := fun h => hkd (by have := h.2.2.1; rw [eK] at this; exact this)
        refine N_end ?_; intro w hp C; refine h_run rfl ?_; skip
        refine h_cond_t rfl rfl ?_; (repeat (refine H_ldB hp rfl rfl ?_))
        refine h_call rfl Try.func112 (by kernel_rfl) rfl (implCopyNet_h x _ hp.net hS) ?_; rintro _ w ⟨z, ⟨hz, rfl⟩, hq⟩; have hx := hq.x; have hp := hp.call1 hq; refine ops_run nopre rfl ?_; (repeat (first | (refine gStore ?_; refine U_stBN hp rfl rfl rfl rfl ?_; intro w hp; refine ops_run nopre rfl ?_) | (refine gRetc ?_; refine R_ret2v hp rfl ?_)))
        rw [rbL_no (bwO_bad hbad)]
        exact ⟨z, ⟨hz, rfl⟩, Hp.tk hp 1⟩
      · have hkd : (x.seqs.getD k' default).kind = 0 := by omega
        by_cases hand : firstAndL x.n ≤ (x.seqs.getD k' default).ins.getD 0 default / 2 ∧ (x.seqs.getD k' default).ins.getD 0 default / 2 < nodesL x.n
        · refine N_call Try.func69 (by kernel_rfl) rfl (fun F w hp => ?_); refine Ret.mono ((isAnd_h x ((x.seqs.getD k' default).ins.getD 0 default / 2) _ hok.b).yes hand) ?_; rintro _ w ⟨rfl, hx⟩; have hp := hp.ext hx; refine ⟨fun _ => hp.sub (by (repeat (first | exact List.sublist_append_left _ _ | apply List.Sublist.cons))), _, hp, ?_⟩; clear hp; refine N_ops rfl rfl ?_; (repeat (first | (refine nGuard ?_; refine N_guard_y rfl rfl rfl ?_) | (refine nLoad ?_; refine N_ldB rfl rfl rfl ?_)))
          refine N_end ?_; intro w hp C; refine h_run rfl ?_; skip
          refine h_cond_dec (fun hlen => ?_) (fun hlen => ?_)
          · have hbad : ¬ bwOkP x.n k' := fun h => by have := h.2.2.2.1; omega
            refine h_cond_t rfl rfl ?_; (repeat (refine H_ldB hp rfl rfl ?_))
            refine h_call rfl Try.func112 (by kernel_rfl) rfl (implCopyNet_h x _ hp.net hS) ?_; rintro _ w ⟨z, ⟨hz, rfl⟩, hq⟩; have hx := hq.x; have hp := hp.call1 hq; refine ops_run nopre rfl ?_; (repeat (first | (refine gStore ?_; refine U_stBN hp rfl rfl rfl rfl ?_; intro w hp; refine ops_run nopre rfl ?_) | (refine gRetc ?_; refine R_ret2v hp rfl ?_)))
            rw [rbL_no (bwO_bad hbad)]
            exact ⟨z, ⟨hz, rfl⟩, Hp.tk hp 1⟩
          · have hgood : bwOkP x.n k' := ⟨hok, ⟨by omega, by omega⟩, by rw [eK]; exact hkd, by omega, by rw [eIn]; exact hand.1⟩
            have hV := bwV_01 hgood
            have hin1 := (bwI_lit hgood).2.1
            rw [show ((k' : Nat) : Int).toNat = k' by omega, x.sins] at hin1
            refine h_cond_f rfl rfl ?_; (repeat (refine gLoad ?_; first | refine H_ldB hp rfl rfl ?_ | refine H_ldEN hp rfl (by omega) rfl rfl ?_ | refine H_ldFN hp rfl (by omega) rfl rfl ?_))
            obtain ⟨iv, hiv⟩ : ∃ iv, iv = bwV x.n k' := ⟨_, rfl⟩
            rw [← hiv] at hV eV
            have hki := bwK_lt hgood
            have hK2 : 0 ≤ (x.seqs.getD k' default).ins.getD 0 default / 2 - firstAndL x.n ∧ (x.seqs.getD k' default).ins.getD 0 default / 2 - firstAndL x.n < x.ands.length := by rw [eIn] at hki; exact hki
            refine h_call rfl Try.func84 (by kernel_rfl) rfl (emptyCopy_h x _ hp.net hok) ?_; rintro _ w ⟨y0, ⟨hy0, rfl⟩, hq⟩; have hx := hq.x; have hp := hp.call1 hq; refine ops_run nopre rfl ?_; skip
            (first | (refine H_box hp ?_; intro w b8 hx hp) | (refine H_alloc hp rfl ?_; intro w b8 hx hp)); refine ops_run nopre rfl ?_; (repeat (first | (refine gLoad ?_; refine H_ldB hp rfl rfl ?_) | (refine gStore ?_; refine U_stBN hp rfl rfl rfl rfl ?_; intro w hp; refine ops_run nopre rfl ?_)))
            refine h_call rfl Try.func86 (by kernel_rfl) rfl (leafLits_h x _ hok) ?_; rintro _ w ⟨b10, c10, rfl, hq⟩; have hx := hq.x; have hp := hp.call1 hq; refine ops_run nopre rfl ?_; (repeat (refine H_ldB hp rfl rfl ?_))
            refine h_call rfl Try.func85 (by kernel_rfl) rfl (firstAnd_h x _ hok.b) ?_; rintro _ w ⟨rfl, hx⟩; have hp := hp.ext hx; refine ops_run nopre rfl ?_; (repeat (refine gLoad ?_; first | refine H_ldB hp rfl rfl ?_ | refine H_ldFN hp rfl (by omega) rfl rfl ?_))
            have hya : y0.ands = [] := congrArg NetL.ands hy0
            have hyi : y0.inputs = x.inputs := congrArg NetL.inputs hy0
            have hys : seqsOf y0.seqs = (begL x.n []).seqs := congrArg NetL.seqs hy0
            have hyl : y0.seqs.length = x.seqs.length := by rw [← seqsOf_len y0.seqs, hys, beg_at.1, x.slen]
            have hcs : y0.cs = [.int .i64 y0.inputs, .slice y0.sa y0.seqs.length y0.sc, .slice y0.aa ([] : List (Int × Int)).length y0.ac, .slice y0.oa y0.outs.length y0.oc] := by unfold NetA.cs; rw [hya]
            have hp := (rSq_open (rNet_open hp.f2)).f3.f2.f2.f4.f4.f5
            rw [hya] at hp
            have hp := Hp.cgB hp hcs
            show Holds _ _ _ _ _ (G.act (.buildSlice _ _ _) _)
            rw [← eV]
            refine H_lit hp eSq [⟨0, iv, [], none, 0⟩, ⟨0, iv, [], none, 0⟩] rfl rfl rfl rfl (s := 3) rfl (by decide) (by infer_instance) (by rfl) (by rfl) (by rfl) (by decide) ?_; intro w b90 hx hp; refine ops_run nopre rfl ?_; skip
            refine U_append hp rfl rfl rfl rfl rfl rfl rfl (by decide) rfl (by first | omega | (simp only [List.length_append, List.length_cons, List.length_nil, List.length_take, List.length_drop, List.length_set, List.length_replicate, List.length_map]; omega)) rfl rfl ?_; intro b' c' w hp hnil; refine ops_run nopre rfl ?_; (repeat (refine U_stB hp rfl rfl rfl rfl ?_; intro w hp; refine ops_run nopre rfl ?_))
            have hp : Hp w0 _ (rO 3 1 eI none 0 ([] : List Int) :: _) := hp.ownN (Ext.refl _) (Own.nil _ _ _ _ _)
            have hp := rIns_add (y := SeqA.mk 0 iv [] none 0) (hp.f6.f1)
            have hp : Hp w0 _ (rO 3 1 eI none 0 ([] : List Int) :: _) := hp.ownN (Ext.refl _) (Own.nil _ _ _ _ _)
            have hp := rIns_add (y := SeqA.mk 0 iv [] none 0) hp
            rw [List.append_assoc] at hp
            have hp := (hp.f1.drop).f4.f4.f4.f4
            obtain ⟨R1, hR1⟩ : ∃ R1, R1 = y0.seqs ++ [SeqA.mk 0 iv [] none 0, SeqA.mk 0 iv [] none 0] := ⟨_, rfl⟩
            have hR1l : R1.length = x.seqs.length + 2 := by rw [hR1]; simp; omega
            have hp : Hp w0 w [rB b8 32 [.int .i64 y0.inputs, .slice b' R1.length c', .slice y0.aa ([] : List (Int × Int)).length y0.ac, .slice y0.oa y0.outs.length y0.oc], rO 103 2 eII y0.aa y0.ac ([] : List (Int × Int)), rO 3 1 eI b10 c10 (leafL x.n ++ List.replicate x.ands.length 0), rO 99 3 eSq b' c' R1, rIns R1, rO 3 1 eI y0.oa y0.oc y0.outs, rB b4 32 (cellsV Try.ti32.zero), rB b2 32 x.cs] := by rw [hR1]; exact hp
            have hfd : ∀ A aa ac, firstAndL (NetA.mk y0.inputs R1 b' c' A aa ac y0.outs y0.oa y0.oc).n = firstAndL x.n + 2 := fun A aa ac => by rw [firstAndL_eq, firstAndL_eq]; show 1 + y0.inputs + (R1.length : Nat) = _; omega
            have hC0 : addAndL (NetA.mk y0.inputs R1 b' c' [] y0.aa y0.ac y0.outs y0.oa y0.oc).n (2 * firstAndL x.n) (2 * firstAndL x.n + 2) = ({ (NetA.mk y0.inputs R1 b' c' [] y0.aa y0.ac y0.outs y0.oa y0.oc).n with ands := (bwP x.n).1 }, (bwP x.n).2) := by
              rw [addAndL_C, hfd]; rfl
            have hb0 : NetB (NetA.mk y0.inputs R1 b' c' [] y0.aa y0.ac y0.outs y0.oa y0.oc) := ⟨by show _ ≤ y0.inputs ∧ y0.inputs ≤ _; omega, by show R1.length ≤ _; omega, by show ([] : List (Int × Int)).length ≤ _; simp⟩
            refine h_call rfl Try.func126 (by kernel_rfl) rfl (addAnd_h (NetA.mk y0.inputs R1 b' c' [] y0.aa y0.ac y0.outs y0.oa y0.oc) b8 (2 * firstAndL x.n) (2 * firstAndL x.n + 2) hp hb0 (by show ([] : List (Int × Int)).length ≤ _; simp) (by omega) (by omega)) ?_; rintro _ w ⟨aa0, ac0, rfl, hp⟩; refine ops_run nopre rfl ?_; skip
            rw [hC0] at hp ⊢
            have hp : Hp w0 w [rB b8 32 [.int .i64 y0.inputs, .slice b' R1.length c', .slice aa0 (bwP x.n).1.length ac0, .slice y0.oa y0.outs.length y0.oc], rO 103 2 eII aa0 ac0 (bwP x.n).1, rO 3 1 eI b10 c10 (leafL x.n ++ List.replicate x.ands.length 0), rO 99 3 eSq b' c' R1, rIns R1, rO 3 1 eI y0.oa y0.oc y0.outs, rB b4 32 (cellsV Try.ti32.zero), rB b2 32 x.cs] := hp
            have hll := leafL_len x.n
            have hfs := hok.fsq
            have hpl0 : (leafL x.n ++ List.replicate x.ands.length (0 : Int)).length = nds x.n := by simp; omega
            have hfa5 : firstAndL x.n = 1 + x.inputs + x.seqs.length := firstAndL_eq x
            refine h_cond_dec (fun hneg0 => ?_) (fun hneg0 => ?_)
            · have hneg0' : (bwP x.n).2 < 0 := hneg0
              refine h_cond_t rfl rfl ?_; (repeat (refine H_ldB hp rfl rfl ?_))
              refine h_call rfl Try.func112 (by kernel_rfl) rfl (implCopyNet_h x _ hp.net hS) ?_; rintro _ w ⟨z, ⟨hz, rfl⟩, hq⟩; have hx := hq.x; have hp := hp.call1 hq; refine ops_run nopre rfl ?_; (repeat (first | (refine gStore ?_; refine U_stBN hp rfl rfl rfl rfl ?_; intro w hp; refine ops_run nopre rfl ?_) | (refine gRetc ?_; refine R_ret2v hp rfl ?_)))
              rw [rbL_no (bwO_full hgood hneg0')]
              exact ⟨z, ⟨hz, rfl⟩, Hp.tk hp 1⟩
            · have hneg0' : ¬ (bwP x.n).2 < 0 := hneg0
              have hstart := bw_start hgood hneg0'
              have hne5 : b10 ≠ none := nn_of hp (X := leafL x.n ++ List.replicate x.ands.length 0) (by omega)
              refine h_cond_f rfl rfl ?_; (repeat (refine H_ldB hp rfl rfl ?_))
              refine h_call rfl Try.func127 (by kernel_rfl) rfl (firstSeq_h x _ hok.b) ?_; rintro _ w ⟨rfl, hx⟩; have hp := hp.ext hx; refine ops_run nopre rfl ?_; (repeat (first | (refine gLoad ?_; refine H_ldB hp rfl rfl ?_) | (refine gStore ?_; refine U_st0 hp rfl rfl rfl (by omega) (by decide) rfl rfl ?_; intro w hp; refine ops_run nopre rfl ?_)))
              have e7 : (leafL x.n ++ List.replicate x.ands.length (0 : Int)).set (1 + x.inputs + (k' : Int)).toNat (bits .xor .i64 (bwP x.n).2 (bits .and .i64 ((x.seqs.getD k' default).ins.getD 0 default) 1)) = (bwS x.n k').2 ++ List.replicate x.ands.length 0 := by
                rw [List.set_append_left _ _ (by omega)]
                unfold bwS bitX
                rw [eIn]
                rfl
              rw [show (leafL x.n ++ List.replicate x.ands.length (0 : Int)).set (1 + x.inputs + (k' : Int)).toNat _ = _ from e7] at hp
              show Holds _ _ _ _ _ (G.code _ _)
              refine h_loop4 [1, 2, 4, 6, 8, 9, 111, 112, 113] (fun (i : Nat) (_ : List (Int × Int) × List Int) (_ : Option Addr) (_ : Nat) => [(1, .int .i64 (k' : Int)), (2, .pointer (some ⟨b2, 0, none⟩)), (4, .pointer (some ⟨b4, 0, none⟩)), (6, .int .i64 ((x.seqs.getD k' default).ins.getD 0 default)), (8, .pointer (some ⟨b8, 0, none⟩)), (9, .slice b10 (nds x.n) c10), (111, .slice x.aa x.ands.length x.ac), (112, .int .i64 x.ands.length), (113, .int .i64 (i : Int))])
                (fun i T aa ac w' => (i ≤ x.ands.length ∧ bwT x.n k' i = some T) ∧ Hp w0 w' [rB b8 32 [.int .i64 y0.inputs, .slice b' R1.length c', .slice aa T.1.length ac, .slice y0.oa y0.outs.length y0.oc], rO 103 2 eII aa ac T.1, rO 3 1 eI b10 c10 (T.2 ++ List.replicate (x.ands.length - i) 0), rO 99 3 eSq b' c' R1, rIns R1, rO 3 1 eI y0.oa y0.oc y0.outs, rB b4 32 (cellsV Try.ti32.zero), rB b2 32 x.cs])
                (fun i _ _ _ => x.ands.length - i) 0 (bwS x.n k') aa0 ac0 rfl ⟨⟨by omega, rfl⟩, hp⟩ ?_
              clear hp
              rintro i T aa ac w1 ⟨⟨hi, hT⟩, hp⟩ IH C
              have hra := bwT_ok hgood hneg0' (show i ≤ x.n.ands.length by omega) hT
              have hTl := hra.len
              have hB := hra.b
              have g1 := hB.f1
              have g2 := hB.alen
              have hpl : (T.2 ++ List.replicate (x.ands.length - i) (0 : Int)).length = nds x.n := by simp; omega
              refine h_run rfl ?_; skip
              refine h_cond_dec (fun hlt => ?_) (fun hlt => ?_)
              · have hlt' : i < x.ands.length := by omega
                have hz : (firstAndL x.n + (i : Int)).toNat = fst_ x.n + i := by omega
                obtain ⟨q1, q2, q3, q4⟩ := hok.and_ hlt'
                have hrep : List.replicate (x.ands.length - i) (0 : Int) = List.replicate (x.ands.length - (i + 1) + 1) 0 := by rw [show x.ands.length - i = x.ands.length - (i + 1) + 1 by omega]
                obtain ⟨l1, l2⟩ := hra.lits hok hlt'
                have l1 : litP (litV T.2 (x.ands.getD i default).1) (firstAndL x.n + 2 + T.1.length) := l1
                have l2 : litP (litV T.2 (x.ands.getD i default).2) (firstAndL x.n + 2 + T.1.length) := l2
                have l1' := l1
                have l2' := l2
                unfold litP at l1' l2'
                have hne5 : b10 ≠ none := nn_of hp (X := T.2 ++ List.replicate (x.ands.length - i) (0 : Int)) (by omega)
                have hik' : ¬ (i : Int) = -1 := by omega
                have hC : addAndL (NetA.mk y0.inputs R1 b' c' T.1 aa ac y0.outs y0.oa y0.oc).n (litV T.2 (x.ands.getD i default).1) (litV T.2 (x.ands.getD i default).2) = ({ (NetA.mk y0.inputs R1 b' c' T.1 aa ac y0.outs y0.oa y0.oc).n with ands := (addC (firstAndL x.n + 2) T.1 (litV T.2 (x.ands.getD i default).1) (litV T.2 (x.ands.getD i default).2)).1 }, (addC (firstAndL x.n + 2) T.1 (litV T.2 (x.ands.getD i default).1) (litV T.2 (x.ands.getD i default).2)).2) := by
                  rw [addAndL_C, hfd]; rfl
                have hb3 : NetB (NetA.mk y0.inputs R1 b' c' T.1 aa ac y0.outs y0.oa y0.oc) := ⟨by show _ ≤ y0.inputs ∧ y0.inputs ≤ _; omega, by show R1.length ≤ _; omega, by show T.1.length ≤ _; omega⟩
                refine h_cond_t rfl rfl ?_; (repeat (refine H_ldEN hp rfl (by omega) rfl rfl ?_))
                (first | (refine H_box hp ?_; intro w b13 hx hp) | (refine H_alloc hp rfl ?_; intro w b13 hx hp)); refine ops_run nopre rfl ?_; (repeat (refine U_stBN hp rfl rfl rfl rfl ?_; intro w hp; refine ops_run nopre rfl ?_))
                refine N_draw hp (by kernel_rfl) (by kernel_rfl) rfl rfl ?_; (repeat (refine N_ldB rfl rfl rfl ?_))
                refine N_call Try.func90 (by kernel_rfl) rfl (fun F w hp => ?_); refine Ret.mono (mapLit_h _ _ _ _ hpl (x.ands.getD i default).1 _ hp.pre.rd q1 (by omega) (by omega)) ?_; rintro _ w ⟨rfl, hx⟩; have hp := hp.ext hx; refine ⟨fun _ => hp.sub (by (repeat (first | exact List.sublist_append_left _ _ | apply List.Sublist.cons))), _, hp, ?_⟩; clear hp; refine N_ops rfl rfl ?_; (repeat (refine N_ldB rfl rfl rfl ?_))
                refine N_call Try.func90 (by kernel_rfl) rfl (fun F w hp => ?_); refine Ret.mono (mapLit_h _ _ _ _ hpl (x.ands.getD i default).2 _ hp.pre.rd q3 (by omega) (by omega)) ?_; rintro _ w ⟨rfl, hx⟩; have hp := hp.ext hx; refine ⟨fun _ => hp.sub (by (repeat (first | exact List.sublist_append_left _ _ | apply List.Sublist.cons))), _, hp, ?_⟩; clear hp; refine N_ops rfl rfl ?_; skip
                rw [litV_pad, litV_pad]
                refine N_f2 ?_; refine N_f2 ?_
                refine N_call Try.func126 (by kernel_rfl) rfl (fun F w hp => ?_); refine Ret.mono (addAnd_F (NetA.mk y0.inputs R1 b' c' T.1 aa ac y0.outs y0.oa y0.oc) b8 (litV T.2 (x.ands.getD i default).1) (litV T.2 (x.ands.getD i default).2) hp hb3 (by show T.1.length ≤ _; omega) (by omega) (by omega)) ?_; rintro _ w ⟨aa', ac', rfl, hp⟩; refine ⟨fun hq => Bool.noConfusion (hq.symm.trans (by kernel_rfl : flagAt _ _ = false)), _, hp, ?_⟩; clear hp; refine N_ops rfl rfl ?_; skip
                refine N_end ?_; intro w hp C; refine h_run rfl ?_; skip
                rw [hC] at hp ⊢
                refine h_cond_dec (fun hneg => ?_) (fun hneg => ?_)
                · have hneg' : (addC (firstAndL x.n + 2) T.1 (litV T.2 (x.ands.getD i default).1) (litV T.2 (x.ands.getD i default).2)).2 < 0 := hneg
                  refine h_cond_t rfl rfl ?_; (repeat (refine H_ldB hp rfl rfl ?_))
                  refine h_call rfl Try.func112 (by kernel_rfl) rfl (implCopyNet_h x _ hp.net hS) ?_; rintro _ w ⟨z, ⟨hz, rfl⟩, hq⟩; have hx := hq.x; have hp := hp.call1 hq; refine ops_run nopre rfl ?_; (repeat (first | (refine gStore ?_; refine U_stBN hp rfl rfl rfl rfl ?_; intro w hp; refine ops_run nopre rfl ?_) | (refine gRetc ?_; refine R_ret2v hp rfl ?_)))
                  rw [rbL_no (bwO_none hgood hneg0' (show i + 1 ≤ x.n.ands.length by omega) (raTo_no hT hik' hneg'))]
                  exact ⟨z, ⟨hz, rfl⟩, Hp.tk hp 1⟩
                · have hneg' : ¬ (addC (firstAndL x.n + 2) T.1 (litV T.2 (x.ands.getD i default).1) (litV T.2 (x.ands.getD i default).2)).2 < 0 := hneg
                  refine h_cond_f rfl rfl ?_; (repeat (refine H_ldB hp rfl rfl ?_))
                  refine h_call rfl Try.func85 (by kernel_rfl) rfl (firstAnd_h x _ hok.b) ?_; rintro _ w ⟨rfl, hx⟩; have hp := hp.ext hx; refine ops_run nopre rfl ?_; (repeat (refine U_st0 hp rfl rfl rfl (by omega) (by decide) rfl rfl ?_; intro w hp; refine ops_run nopre rfl ?_))
                  rw [hz, hrep, show fst_ x.n + i = T.2.length by omega, pad_set] at hp
                  exact IH (i + 1) _ aa' ac' _ _ _ (by omega) rfl ⟨⟨by omega, raTo_yes hT hik' hneg'⟩, hp.f2.drop⟩
              · obtain rfl : i = x.ands.length := by omega
                clear IH
                rw [Nat.sub_self, List.replicate_zero, List.append_nil] at hp hpl
                have hsome := bwO_some hgood hneg0' hT
                have hokN := bwN_ok hgood hra
                obtain ⟨m1, m2, m3, m4⟩ := hok.and_ (i := ((x.seqs.getD k' default).ins.getD 0 default / 2 - firstAndL x.n).toNat) (by omega)
                have eAx : bwA x.n k' = x.ands.getD ((x.seqs.getD k' default).ins.getD 0 default / 2 - firstAndL x.n).toNat default := by unfold bwA; rw [eIn]; rfl
                have hneS : b' ≠ none := nn_of hp (X := R1) (by omega)
                refine h_cond_f rfl rfl ?_; skip
                refine N_draw hp (by kernel_rfl) (by kernel_rfl) rfl rfl ?_; (repeat (refine N_ldB rfl rfl rfl ?_))
                refine N_call Try.func85 (by kernel_rfl) rfl (fun F w hp => ?_); refine Ret.mono (firstAnd_h x _ hok.b) ?_; rintro _ w ⟨rfl, hx⟩; have hp := hp.ext hx; refine ⟨fun _ => hp.sub (by (repeat (first | exact List.sublist_append_left _ _ | apply List.Sublist.cons))), _, hp, ?_⟩; clear hp; refine N_ops rfl rfl ?_; (repeat (refine N_ldE rfl (by omega) (by omega) rfl rfl rfl ?_))
                (first | refine N_box ?_ | refine N_alloc rfl ?_); intro b15; refine N_ops rfl rfl ?_; (repeat (refine N_stBN rfl rfl rfl rfl (by kernel_rfl) ?_; refine N_ops rfl rfl ?_))
                refine N_end ?_; intro w hp C; refine h_run rfl ?_; skip
                obtain ⟨ax, hax⟩ : ∃ ax, ax = x.ands.getD ((x.seqs.getD k' default).ins.getD 0 default / 2 - firstAndL x.n).toNat default := ⟨_, rfl⟩
                rw [← hax] at hp m1 m2 m3 m4 eAx
                have hatR : ∀ j, j < 2 → (R1.getD (x.seqs.length + j) default) = SeqA.mk 0 iv [] none 0 := fun j hj => by
                  rw [hR1, ← hyl]
                  obtain rfl | rfl : j = 0 ∨ j = 1 := by omega
                  · simp [List.getD_eq_getElem?_getD, List.getElem?_append_right]
                  · simp [List.getD_eq_getElem?_getD, List.getElem?_append_right]
                refine N_draw hp (by kernel_rfl) (by kernel_rfl) rfl rfl ?_; (repeat (refine N_ldB rfl rfl rfl ?_))
                refine N_call Try.func90 (by kernel_rfl) rfl (fun F w hp => ?_); refine Ret.mono (mapLit_h _ _ T.2 _ hpl ax.1 _ hp.pre.rd m1 (by omega) (by omega)) ?_; rintro _ w ⟨rfl, hx⟩; have hp := hp.ext hx; refine ⟨fun _ => hp.sub (by (repeat (first | exact List.sublist_append_left _ _ | apply List.Sublist.cons))), _, hp, ?_⟩; clear hp; refine N_ops rfl rfl ?_; (repeat (refine N_litI rfl rfl rfl rfl rfl rfl rfl rfl rfl rfl ?_; intro _; refine N_ops rfl rfl ?_))
                rename_i b17
                first | refine N_st1N ({ R1.getD x.seqs.length default with ins := [litV T.2 ax.1], ia := some ⟨b17, 0, none⟩, ic := 1 }) rfl rfl rfl (by omega) (by decide) rfl rfl (by kernel_rfl) ?_ | refine N_st1 ({ R1.getD x.seqs.length default with ins := [litV T.2 ax.1], ia := some ⟨b17, 0, none⟩, ic := 1 }) rfl rfl rfl (by omega) (by decide) rfl rfl (by kernel_rfl) ?_
                refine N_ops rfl rfl ?_; skip
                refine N_end ?_; intro w hp C; refine h_run rfl ?_; skip
                obtain ⟨Q, hq, hback⟩ := rIns_at hp.f6 (i := x.seqs.length) (by omega)
                have hp := hback _ _ { R1.getD x.seqs.length default with ins := [litV T.2 ax.1], ia := some ⟨b17, 0, none⟩, ic := 1 } hq.drop.f1
                obtain ⟨R2, hR2⟩ : ∃ R2, R2 = R1.set x.seqs.length { R1.getD x.seqs.length default with ins := [litV T.2 ax.1], ia := some ⟨b17, 0, none⟩, ic := 1 } := ⟨_, rfl⟩
                have hR2l : R2.length = x.seqs.length + 2 := by rw [hR2, List.length_set]; exact hR1l
                rw [← hR2] at hp
                have hp := Hp.cgB hp.f2 (show _ = [.int .i64 y0.inputs, .slice b' R2.length c', .slice aa T.1.length ac, .slice y0.oa y0.outs.length y0.oc] by rw [hR2l, ← hR1l])
                have hneS2 : b' ≠ none := nn_of hp (X := R2) (by omega)
                refine N_draw hp (by kernel_rfl) (by kernel_rfl) rfl rfl ?_; (repeat (refine N_ldB rfl rfl rfl ?_))
                refine N_call Try.func90 (by kernel_rfl) rfl (fun F w hp => ?_); refine Ret.mono (mapLit_h _ _ T.2 _ hpl ax.2 _ hp.pre.rd m3 (by omega) (by omega)) ?_; rintro _ w ⟨rfl, hx⟩; have hp := hp.ext hx; refine ⟨fun _ => hp.sub (by (repeat (first | exact List.sublist_append_left _ _ | apply List.Sublist.cons))), _, hp, ?_⟩; clear hp; refine N_ops rfl rfl ?_; (repeat (refine N_litI rfl rfl rfl rfl rfl rfl rfl rfl rfl rfl ?_; intro _; refine N_ops rfl rfl ?_))
                rename_i b18
                first | refine N_st1N ({ R2.getD ((x.seqs.length : Int) + 1).toNat default with ins := [litV T.2 ax.2], ia := some ⟨b18, 0, none⟩, ic := 1 }) rfl rfl rfl (by omega) (by decide) rfl rfl (by kernel_rfl) ?_ | refine N_st1 ({ R2.getD ((x.seqs.length : Int) + 1).toNat default with ins := [litV T.2 ax.2], ia := some ⟨b18, 0, none⟩, ic := 1 }) rfl rfl rfl (by omega) (by decide) rfl rfl (by kernel_rfl) ?_
                refine N_ops rfl rfl ?_; skip
                refine N_end ?_; intro w hp C; refine h_run rfl ?_; (repeat (refine H_ldB hp rfl rfl ?_))
                have e1 : ((x.seqs.length : Int) + 1).toNat = x.seqs.length + 1 := by omega
                rw [e1] at hp
                obtain ⟨Q, hq, hback⟩ := rIns_at hp.f2 (i := x.seqs.length + 1) (by omega)
                have hp := hback _ _ { R2.getD (x.seqs.length + 1) default with ins := [litV T.2 ax.2], ia := some ⟨b18, 0, none⟩, ic := 1 } hq.drop.f1
                obtain ⟨R3, hR3⟩ : ∃ R3, R3 = R2.set (x.seqs.length + 1) { R2.getD (x.seqs.length + 1) default with ins := [litV T.2 ax.2], ia := some ⟨b18, 0, none⟩, ic := 1 } := ⟨_, rfl⟩
                have hR3l : R3.length = x.seqs.length + 2 := by rw [hR3, List.length_set]; exact hR2l
                rw [← hR3] at hp
                have hp := (rSq_shut (hp.f5)).f5.f1.f2
                have hp := Hp.cgB hp (show _ = (NetA.mk y0.inputs R3 b' c' T.1 aa ac y0.outs y0.oa y0.oc).cs by unfold NetA.cs; rw [hR2l, ← hR3l])
                refine h_call rfl Try.func92 (by kernel_rfl) rfl (copyRoots_h b8 (NetA.mk y0.inputs R3 b' c' T.1 aa ac y0.outs y0.oa y0.oc) x b10 c10 (nds x.n) T.2 hpl hp hok (Nat.le_refl _) (by omega) (by show _ ≤ R3.length; omega) (by show R3.length ≤ _; omega)) ?_; rintro _ w ⟨R4, oa, oc, rfl, ⟨hR4, hRs4⟩, hp⟩; refine ops_run nopre rfl ?_; (repeat (first | (refine gLoad ?_; refine H_ldB hp rfl rfl ?_) | (refine gBuild ?_; refine U_litI hp rfl rfl rfl rfl rfl rfl rfl rfl rfl rfl ?_; intro w _ hx hp; refine ops_run nopre rfl ?_)))
                have hR4l : R4.length = R3.length := hR4
                have hp : Hp w0 w [rB b8 32 [.int .i64 y0.inputs, .slice b' R3.length c', .slice aa T.1.length ac, .slice oa (mapL T.2 x.outs).length oc], rSq b' c' R4, rO 3 1 eI oa oc (mapL T.2 x.outs), rB b15 103 [.int .i64 ax.1, .int .i64 ax.2], rO 103 2 eII aa ac T.1, rO 3 1 eI b10 c10 T.2, rB b4 32 (cellsV Try.ti32.zero), rB b2 32 x.cs] := hp
                have hp := rSq_open hp.f1
                have hneS4 : b' ≠ none := nn_of hp (X := R4) (by omega)
                (repeat (refine U_litI hp rfl rfl rfl rfl rfl rfl rfl rfl rfl rfl ?_; intro w _ hx hp; refine ops_run nopre rfl ?_))
                rename_i b19
                refine U_st1N hp ({ R4.getD k' default with ins := [0], ia := some ⟨b19, 0, none⟩, ic := 1 }) rfl rfl rfl (by omega) (by decide) rfl rfl ?_; intro w hp; refine ops_run nopre rfl ?_; (repeat (refine H_ldB hp rfl rfl ?_))
                obtain ⟨Q, hq, hback⟩ := rIns_at hp.f2 (i := k') (by omega)
                have hp := hback _ _ { R4.getD k' default with ins := [0], ia := some ⟨b19, 0, none⟩, ic := 1 } hq.drop.f1
                obtain ⟨R5, hR5⟩ : ∃ R5, R5 = R4.set k' { R4.getD k' default with ins := [0], ia := some ⟨b19, 0, none⟩, ic := 1 } := ⟨_, rfl⟩
                have hR5l : R5.length = R3.length := by rw [hR5, List.length_set]; exact hR4
                rw [← hR5] at hp
                have hs3 : seqsOf R3 = (begL x.n []).seqs ++ [⟨0, iv, [litV T.2 ax.1]⟩, ⟨0, iv, [litV T.2 ax.2]⟩] := by
                  have h0 := hatR 0 (by omega)
                  have h1 := hatR 1 (by omega)
                  rw [Nat.add_zero] at h0
                  have hbl : (begL x.n []).seqs.length = x.seqs.length := by rw [beg_at.1, x.slen]
                  rw [hR3, hR2, show (R1.set x.seqs.length ({ R1.getD x.seqs.length default with ins := [litV T.2 ax.1], ia := some ⟨b17, 0, none⟩, ic := 1 })).getD (x.seqs.length + 1) default = R1.getD (x.seqs.length + 1) default by simp [List.getD_eq_getElem?_getD, List.getElem?_set_ne], h0, h1, seqsOf_set, seqsOf_set, hR1]
                  unfold seqsOf
                  rw [List.map_append, show y0.seqs.map SeqA.s = (begL x.n []).seqs from hys, ← hbl, List.set_append_right _ _ (Nat.le_refl _), Nat.sub_self, List.set_append_right _ _ (by omega), show (begL x.n []).seqs.length + 1 - (begL x.n []).seqs.length = 1 by omega]
                  rfl
                have hs4 : seqsOf R4 = mapS x.n T.2 ++ [⟨0, iv, [litV T.2 ax.1]⟩, ⟨0, iv, [litV T.2 ax.2]⟩] := by
                  rw [hRs4]
                  show upTo (crF (seqsOf R3) x.n _) x.seqs.length (seqsOf R3) = _
                  rw [hs3, ← x.slen]
                  exact cr_ext2 beg_at.1 beg_at.2
                have hkm : k' < (mapS x.n T.2).length := by rw [mapS_len, x.slen]; exact hk'
                have h4 : (R4.getD k' default).s = ⟨(x.n.seqs.getD k' default).kind, (x.n.seqs.getD k' default).init, mapL T.2 (x.n.seqs.getD k' default).ins⟩ := by
                  rw [← seqsOf_get, hs4, show (mapS x.n T.2 ++ [(⟨0, iv, [litV T.2 ax.1]⟩ : SeqL), ⟨0, iv, [litV T.2 ax.2]⟩]).getD k' default = (mapS x.n T.2).getD k' default by simp [List.getD_eq_getElem?_getD, List.getElem?_append_left hkm]]
                  unfold mapS
                  exact map_getD (by rw [x.slen]; exact hk')
                have hs5 : seqsOf R5 = (mapS x.n T.2).set ((k' : Nat) : Int).toNat ⟨0, (x.n.seqs.getD ((k' : Nat) : Int).toNat default).init, [0]⟩ ++ [⟨0, iv, [litV T.2 ax.1]⟩, ⟨0, iv, [litV T.2 ax.2]⟩] := by
                  have e3 : (SeqA.s { R4.getD k' default with ins := [0], ia := some ⟨b19, 0, none⟩, ic := 1 }) = ⟨0, (x.n.seqs.getD k' default).init, [0]⟩ := by
                    show SeqL.mk (R4.getD k' default).kind (R4.getD k' default).init [0] = _
                    rw [show (R4.getD k' default).kind = (x.n.seqs.getD k' default).kind from congrArg SeqL.kind h4, show (R4.getD k' default).init = (x.n.seqs.getD k' default).init from congrArg SeqL.init h4, x.skind, hkd]
                  rw [hR5, seqsOf_set, e3, hs4, List.set_append_left _ _ hkm, show ((k' : Nat) : Int).toNat = k' by omega]
                have hzn : (NetA.mk y0.inputs R5 b' c' T.1 aa ac (mapL T.2 x.outs) oa oc).n = bwN x.n k' T := by
                  show NetL.mk y0.inputs (seqsOf R5) T.1 (mapL T.2 x.outs) = _
                  unfold bwN finX
                  rw [hs5, hyi, eAx, ← hiv]
                  rfl
                have hp := rNet_shut (x := NetA.mk y0.inputs R5 b' c' T.1 aa ac (mapL T.2 x.outs) oa oc) ((rSq_shut (hp.f1)).f2.f4.f2)
                refine gCall ?_
                show Holds _ _ _ _ _ (.act (.call _ [.agg ⟨[.int .i64 y0.inputs, .slice b' R3.length c', .slice aa T.1.length ac, .slice oa (mapL T.2 x.outs).length oc]⟩]) _)
                rw [← hR5l]
                refine h_call rfl Try.func128 (by kernel_rfl) rfl (prune_h (NetA.mk y0.inputs R5 b' c' T.1 aa ac (mapL T.2 x.outs) oa oc) _ hp.net (by rw [hzn]; exact hokN)) ?_; rintro _ w ⟨z, ⟨hz, rfl⟩, hq⟩; have hx := hq.x; have hp := hp.call1 hq; refine ops_run nopre rfl ?_; (repeat (first | (refine gStore ?_; refine U_stBN hp rfl rfl rfl rfl ?_; intro w hp; refine ops_run nopre rfl ?_) | (refine gRetc ?_; refine R_ret2v hp rfl ?_)))
                rw [hzn] at hz
                rw [rbL_yes hsome]
                exact ⟨z, ⟨hz, rfl⟩, Hp.tk hp 1⟩
        · refine N_call Try.func69 (by kernel_rfl) rfl (fun F w hp => ?_); refine Ret.mono ((isAnd_h x ((x.seqs.getD k' default).ins.getD 0 default / 2) _ hok.b).no hand) ?_; rintro _ w ⟨rfl, hx⟩; have hp := hp.ext hx; refine ⟨fun _ => hp.sub (by (repeat (first | exact List.sublist_append_left _ _ | apply List.Sublist.cons))), _, hp, ?_⟩; clear hp; refine N_ops rfl rfl ?_; (repeat (refine nGuard ?_; first | refine N_guard_y rfl rfl rfl ?_ | refine N_guard_n rfl rfl rfl ?_))
          have hbad : ¬ bwOkP x.n k' := fun h => hand ⟨by have := h.2.2.2.2; rw [eIn] at this; exact this, by omega⟩
          refine N_end ?_; intro w hp C; refine h_run rfl ?_; skip
          refine h_cond_t rfl rfl ?_; (repeat (refine H_ldB hp rfl rfl ?_))
          refine h_call rfl Try.func112 (by kernel_rfl) rfl (implCopyNet_h x _ hp.net hS) ?_; rintro _ w ⟨z, ⟨hz, rfl⟩, hq⟩; have hx := hq.x; have hp := hp.call1 hq; refine ops_run nopre rfl ?_; (repeat (first | (refine gStore ?_; refine U_stBN hp rfl rfl rfl rfl ?_; intro w hp; refine ops_run nopre rfl ?_) | (refine gRetc ?_; refine R_ret2v hp rfl ?_)))
          rw [rbL_no (bwO_bad hbad)]
          exact ⟨z, ⟨hz, rfl⟩, Hp.tk hp 1⟩
    · have hbad : ¬ bwOkP x.n k := fun h => by have := h.2.1; omega
      refine N_draw hp (by kernel_rfl) (by kernel_rfl) rfl rfl ?_; (repeat (refine N_ldB rfl rfl rfl ?_))
      refine N_call Try.func33 (by kernel_rfl) rfl (fun F w hp => ?_); refine Ret.mono ((implNetOk_h x _ hp.pre.net hS).tt (netOkB_yes hok)) ?_; rintro _ w ⟨rfl, hx⟩; have hp := hp.ext hx; refine ⟨fun _ => hp.sub (by (repeat (first | exact List.sublist_append_left _ _ | apply List.Sublist.cons))), _, hp, ?_⟩; clear hp; refine N_ops rfl rfl ?_; (repeat (first | (refine nGuard ?_; refine N_guard_y rfl rfl rfl ?_) | (refine nLoad ?_; refine N_ldB rfl rfl rfl ?_)))
      refine N_call Try.func104 (by kernel_rfl) rfl (fun F w hp => ?_); refine Ret.mono ((inRange_h k 0 ((x.seqs.length : Int) - 1) _).no hk) ?_; rintro _ w ⟨rfl, hx⟩; have hp := hp.ext hx; refine ⟨fun _ => hp.sub (by (repeat (first | exact List.sublist_append_left _ _ | apply List.Sublist.cons))), _, hp, ?_⟩; clear hp; refine N_ops rfl rfl ?_; (repeat (refine nGuard ?_; first | refine N_guard_y rfl rfl rfl ?_ | refine N_guard_n rfl rfl rfl ?_))
      refine N_end ?_; intro w hp C; refine h_run rfl ?_; skip
      refine h_cond_t rfl rfl ?_; (repeat (refine H_ldB hp rfl rfl ?_))
      refine h_call rfl Try.func112 (by kernel_rfl) rfl (implCopyNet_h x _ hp.net hS) ?_; rintro _ w ⟨z, ⟨hz, rfl⟩, hq⟩; have hx := hq.x; have hp := hp.call1 hq; refine ops_run nopre rfl ?_; (repeat (first | (refine gStore ?_; refine U_stBN hp rfl rfl rfl rfl ?_; intro w hp; refine ops_run nopre rfl ?_) | (refine gRetc ?_; refine R_ret2v hp rfl ?_)))
      rw [rbL_no (bwO_bad hbad)]
      exact ⟨z, ⟨hz, rfl⟩, Hp.tk hp 1⟩
  · have hbad : ¬ bwOkP x.n k := fun h => hok h.1
    refine N_draw hp (by kernel_rfl) (by kernel_rfl) rfl rfl ?_; (repeat (refine N_ldB rfl rfl rfl ?_))
    refine N_call Try.func33 (by kernel_rfl) rfl (fun F w hp => ?_); refine Ret.mono ((implNetOk_h x _ hp.pre.net hS).ff (netOkB_no hok)) ?_; rintro _ w ⟨rfl, hx⟩; have hp := hp.ext hx; refine ⟨fun _ => hp.sub (by (repeat (first | exact List.sublist_append_left _ _ | apply List.Sublist.cons))), _, hp, ?_⟩; clear hp; refine N_ops rfl rfl ?_; (repeat (refine N_guard_n rfl rfl rfl ?_))
    refine N_end ?_; intro w hp C; refine h_run rfl ?_; skip
    refine h_cond_t rfl rfl ?_; (repeat (refine H_ldB hp rfl rfl ?_))
    refine h_call rfl Try.func112 (by kernel_rfl) rfl (implCopyNet_h x _ hp.net hS) ?_; rintro _ w ⟨z, ⟨hz, rfl⟩, hq⟩; have hx := hq.x; have hp := hp.call1 hq; refine ops_run nopre rfl ?_; (repeat (first | (refine gStore ?_; refine U_stBN hp rfl rfl rfl rfl ?_; intro w hp; refine ops_run nopre rfl ?_) | (refine gRetc ?_; refine R_ret2v hp rfl ?_)))
    rw [rbL_no (bwO_bad hbad)]
    exact ⟨z, ⟨hz, rfl⟩, Hp.tk hp 1⟩
end Go.Proofs
