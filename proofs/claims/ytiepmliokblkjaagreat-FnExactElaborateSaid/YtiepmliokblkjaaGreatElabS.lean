/- The contract of the reference's Elaborate; under its stated conditions. -/
import Derived.Test.YtiepmliokblkjaaGreatElabM
import Derived.Test.YtiepmliokblkjaaGreatFlatS
import Derived.Test.YtiepmliokblkjaaGreatFlatU
set_option linter.all false
namespace Go.Xw
open Go.Proofs
theorem seqs_put2 {Q : List SeqA} {M : NetL} {q : Nat} (h : seqsOf Q = M.seqs) (l : List Int) (a : Option Addr) (c : Nat) : seqsOf (Q.set q { Q.getD q default with ins := l, ia := a, ic := c }) = (setQ M q l).seqs := by
 rw [seqsOf_set]
 show _ = M.seqs.set q ⟨(M.seqs.getD q default).kind, (M.seqs.getD q default).init, l⟩
 rw [← h, seqsOf_get]; rfl
theorem bitQ_eq (N : NetL) (q : Nat) (bits : List Int) : ∀ k, bitQ N q bits k = { N with seqs := (bitQ N q bits k).seqs }
 | 0 => rfl
 | k + 1 => by
  have h := bitQ_eq N q bits k
  show setQ (bitQ N q bits k) (q + k) [bits.getD k default] = { N with seqs := (setQ (bitQ N q bits k) (q + k) [bits.getD k default]).seqs }
  rw [h]; rfl
theorem ramT_eq (sig : List (List Int)) (x : MmL) (N : NetL) (q : Nat) : ∀ k, ramT sig x N q k = { N with seqs := (ramT sig x N q k).seqs }
 | 0 => rfl
 | k + 1 => by
  have h := ramT_eq sig x N q k
  show setQ (ramT sig x N q k) (q + k) (ramI sig x k) = { N with seqs := (setQ (ramT sig x N q k) (q + k) (ramI sig x k)).seqs }
  rw [h]; rfl
theorem memT_eq (n : ModL) (sig : List (List Int)) (N : NetL) (q : Nat) : ∀ j, (memT n sig N q j).1 = { N with seqs := (memT n sig N q j).1.seqs }
 | 0 => rfl
 | j + 1 => by
  have h := memT_eq n sig N q j
  have h2 := ramT_eq sig (n.ms.getD j default) (memT n sig N q j).1 (memT n sig N q j).2 (wN n (n.ms.getD j default).out)
  show ramT sig (n.ms.getD j default) (memT n sig N q j).1 (memT n sig N q j).2 (wN n (n.ms.getD j default).out) = { N with seqs := (ramT sig (n.ms.getD j default) (memT n sig N q j).1 (memT n sig N q j).2 (wN n (n.ms.getD j default).out)).seqs }
  rw [h2, h]
theorem seqsOf_app (Q P : List SeqA) : seqsOf (Q ++ P) = seqsOf Q ++ seqsOf P := by simp [seqsOf]
end Go.Xw
namespace Go.Proofs
open Go.Xw
set_option maxRecDepth 100000
set_option maxHeartbeats 8000000
attribute [local irreducible] Holds elemAddr
theorem specAddExpr_n (x : NetA) (n : Nat) (sa : Option Addr) (sc : Nat) (R : List (RowA Int)) (hn : R.length = n) (oa : Option Addr) (oc : Nat) (ops : List OpL) (wv : Int) (w0 : World) (hX : NetR w0 x) (hok : NetOkP x.n) (hR : Rd w0 sa 1 eRo R) (hQ : RsR w0 R) (hO : Rd w0 oa 3 eOp ops) (hRl : n ≤ 1000) (hsig : ∀ l, l ∈ insOf R → l.length ≤ 4 ∧ ∀ z, z ∈ l → litP z (nodesL x.n)) (hol : ops.length ≤ 15) (hov : ∀ i, i < ops.length → i64O (ops.getD i default)) (hw : i64R wv) :
  Ret Tryz.prog 30 [x.v, .slice sa n sc, .slice oa ops.length oc, .int .i64 wv] w0 (fun v w' => ∃ y b c, (y.n = (axF x.n (insOf R) ops wv).1 ∧ v = .tuple ⟨[y.v, .slice b (axF x.n (insOf R) ops wv).2.length c]⟩) ∧ Hp w0 w' [rNet y, rO 3 1 eI b c (axF x.n (insOf R) ops wv).2]) := by
 subst hn
 have hc := hok.count
 have hm : ∀ i, i < R.length → (R.getD i default).ins ∈ insOf R := fun i hi => by rw [← insOf_get]; exact getD_mem (by rw [insOf_len]; exact hi)
 exact specAddExpr_x x sa sc R oa oc ops wv w0 hX hok.S' hok.W hR hQ hO (by omega) (fun i hi => by have := (hsig _ (hm i hi)).1; omega) (fun i hi j hj => ((hsig _ (hm i hi)).2 _ (getD_mem hj)).i64 (by omega)) (by omega) hov hw
theorem specElab_x (x : ModA) (w0 : World) (hM : ModR w0 x) (hS : ModS x.n) (hW : ModW x.n) :
  Ret Tryz.prog 6 [x.v] w0 (fun v w => ∃ y, (y.n = (elF x.n).1 ∧ v = .tuple ⟨[y.v, .bool (elF x.n).2]⟩) ∧ Hp w0 w [rNet y]) := by
 refine enter Tryz.S6ok _ _ rfl rfl (by show _ ≤ _; simp only [List.length]; decide) (fun C => ?_); have hp := Hp.nil w0; refine h_run rfl ?_; skip; (first | refine H_box hp ?_ | refine H_alloc hp rfl ?_); intro w b1 hx hp; refine ops_run nopre rfl ?_; skip; (first | refine H_box hp ?_ | refine H_alloc hp rfl ?_); intro w b2 hx hp; refine ops_run nopre rfl ?_; (repeat (refine H_ldB hp rfl rfl ?_))
 by_cases hf : FlatP x.n
 ·obtain ⟨l, he⟩ : ∃ l, evtO x.n = some l := by
   have h := hf.ev
   cases he : evtO x.n with
   | none => rw [he] at h; exact Bool.noConfusion h
   | some l => exact ⟨l, rfl⟩
  have hm := (flat_mod hf).2
  have l1 : x.sg.length ≤ 30 := hm.l1
  have l2 : x.asg.length ≤ 30 := by have := hm.l2; rw [x.alen] at this; exact this
  have l3 : x.ms.length ≤ 2 := hm.l3
  have p0 := pw_b hm 0
  have hfb : flatB x.n = true := pB_iff.2 hf
  refine h_call rfl Tryz.func26 (by kernel_rfl) rfl (specFlatOk_h x _ hp.mod hS hW) ?_; rintro _ w ⟨rfl, hx⟩; have hp := hp.ext hx; refine ops_run nopre rfl ?_; skip
  rw [hfb]
  refine h_cond_f rfl rfl ?_; (repeat (refine H_ldB hp rfl rfl ?_))
  refine h_call rfl Tryz.func28 (by kernel_rfl) rfl (specPortWidths_h x 0 _ hp.mod l1) ?_; rintro _ w ⟨bw, cw, rfl, hq⟩; have hx := hq.x; have hp := hp.call1 hq; refine ops_run nopre rfl ?_; skip
  refine h_call rfl Tryz.func27 (by kernel_rfl) rfl (l06Sum_h bw cw _ (pwL x.n 0) rfl _ hp.rd p0.1 p0.2) ?_; rintro _ w ⟨rfl, hx⟩; have hp := hp.ext hx; refine ops_run nopre rfl ?_; skip
  (first | refine H_box hp ?_ | refine H_alloc hp rfl ?_); intro w b4 hx hp; refine ops_run nopre rfl ?_; (repeat (first | (refine gLoad ?_; refine H_ldB hp rfl rfl ?_) | (refine gStore ?_; refine U_stBN hp rfl rfl rfl rfl ?_; intro w hp; refine ops_run nopre rfl ?_)))
  refine H_make hp (eRo (α := Int)) (default : RowA Int) rfl rfl rfl rfl (s := 1) rfl (by decide) rfl (by unfold maxLen; omega) (by show 24 * _ ≤ _; omega) ?_; intro w bs hx hp; refine ops_run nopre rfl ?_; skip
  have hp := rRows_nils (e := 3) (s := 1) (enc := eI) x.sg.length hp
  have hsn : (some ⟨bs, 0, none⟩ : Option Addr) ≠ none := by simp
  have eW : ∀ s : Nat, s < x.sg.length → (x.sg.getD s default).width = ((wN x.n (s : Nat) : Nat) : Int) ∧ wN x.n (s : Nat) ≤ 4 := fun s hs => by
   have h1 := wN_eq hm (s := (s : Nat)) (by unfold inL; exact ⟨by omega, by show (s : Int) < x.sg.length; omega⟩)
   have h2 := (wN_b hm hf (s := (s : Nat)) (by unfold inL; exact ⟨by omega, by show (s : Int) < x.sg.length; omega⟩)).2
   rw [widL_at] at h1
   exact ⟨h1.symm, h2⟩
  refine h_loop [1, 2, 4, 5, 6, 7] (fun (i : Nat) => [(1, .pointer (some ⟨b1, 0, none⟩)), (2, .pointer (some ⟨b2, 0, none⟩)), (4, .pointer (some ⟨b4, 0, none⟩)), (5, .slice (some ⟨bs, 0, none⟩) x.sg.length x.sg.length), (6, .int .i64 (((inN x.n i).2 : Nat) : Int)), (7, .int .i64 (i : Int))])
   (fun i w' => i ≤ x.sg.length ∧ ∃ R, (R.length = x.sg.length ∧ insOf R = (inN x.n i).1) ∧ Hp w0 w' [rO 31 1 eRo (some ⟨bs, 0, none⟩) x.sg.length R, rRows 3 1 eI R, rB b4 33 [.int .i64 (sumL (pwL x.n 0)), .slice none 0 0, .slice none 0 0, .slice none 0 0], rB b1 41 x.cs, rB b2 33 (cellsV Tryz.ti33.zero)]) (fun i => x.sg.length - i) 0 rfl ⟨by omega, List.replicate x.sg.length default, ⟨by simp, by
    show insOf _ = List.replicate x.sg.length []
    unfold insOf
    rw [List.map_replicate]; rfl⟩, (hp.f4.f5.f4.f3.f4).tk 5⟩ ?_
  clear hp
  rintro i w1 ⟨hi, R, ⟨hRl, hRi⟩, hp⟩ IH C
  have hb := inN_b hm hi
  obtain ⟨st, hst⟩ : ∃ st, st = inN x.n i := ⟨_, rfl⟩
  rw [← hst] at hRi hb ⊢
  have hpos := hb.pos
  refine h_run rfl ?_; (repeat (refine H_ldB hp rfl rfl ?_))
  refine h_cond_dec (fun hlt => ?_) (fun hlt => ?_)
  ·have hlt' : i < x.sg.length := by omega
   obtain ⟨e1, e2⟩ := eW i hlt'
   have hrow := hb.row i hlt'
   by_cases hk : (x.sg.getD i default).kind = 0
   ·have eN : inN x.n (i + 1) = numS st i (wN x.n (i : Nat)) := by rw [inN, if_pos (by rw [kindL_at]; exact hk), ← hst]
    refine h_cond_t rfl rfl ?_; skip
    refine h_loop [1, 2, 4, 5, 6, 7, 8] (fun (k : Nat) => [(1, .pointer (some ⟨b1, 0, none⟩)), (2, .pointer (some ⟨b2, 0, none⟩)), (4, .pointer (some ⟨b4, 0, none⟩)), (5, .slice (some ⟨bs, 0, none⟩) x.sg.length x.sg.length), (6, .int .i64 ((st.2 + k : Nat) : Int)), (7, .int .i64 (i : Int)), (8, .int .i64 (k : Int))])
     (fun k w' => k ≤ wN x.n (i : Nat) ∧ ∃ R, (R.length = x.sg.length ∧ insOf R = (numS st i k).1) ∧ Hp w0 w' [rO 31 1 eRo (some ⟨bs, 0, none⟩) x.sg.length R, rRows 3 1 eI R, rB b4 33 [.int .i64 (sumL (pwL x.n 0)), .slice none 0 0, .slice none 0 0, .slice none 0 0], rB b1 41 x.cs, rB b2 33 (cellsV Tryz.ti33.zero)]) (fun k => wN x.n (i : Nat) - k) 0 rfl ⟨by omega, R, ⟨hRl, by rw [numS_zero (by rw [hb.len]; exact hlt')]; exact hRi⟩, hp⟩ ?_
    clear hp hRl hRi
    rintro k w1 ⟨hk4, R, ⟨hRl, hRi⟩, hp⟩ IH2 C
    have hl2 : (R.getD i default).ins.length ≤ 20 := by
     rw [← insOf_get, hRi]
     show ((st.1.set i (st.1.getD i default ++ numsL st.2 k)).getD i default).length ≤ 20
     rw [set_getE (by rw [hb.len]; exact hlt'), if_pos rfl, List.length_append, numsL_len]
     omega
    refine h_run rfl ?_; (repeat (refine gLoad ?_; first | refine H_ldB hp rfl rfl ?_ | refine H_ldFN hp rfl (by omega) rfl rfl ?_))
    refine h_guard_by (fun hlt2 => ?_) (fun hlt2 => ?_); all_goals (rw [hlt2]; (first | replace hlt2 := of_decide_eq_true hlt2 | replace hlt2 := of_decide_eq_false hlt2 | skip); (repeat (first | (refine gGuard ?_; first | refine h_guard_y rfl nopre rfl ?_ | refine h_guard_n rfl nopre rfl ?_) | (refine gLoad ?_; first | refine H_ldB hp rfl rfl ?_ | refine H_ldFN hp rfl (by omega) rfl rfl ?_))))
    ·have hlt2' : k < wN x.n (i : Nat) := by omega
     refine h_cond_dec (fun _ => ?_) (fun hg => False.elim (by omega)); refine h_cond_t rfl rfl ?_; (repeat (first | (refine gLoad ?_; refine H_ldEN hp rfl (by omega) rfl rfl ?_) | (refine gBuild ?_; refine U_litI hp rfl rfl rfl rfl rfl rfl rfl rfl rfl rfl ?_; intro w _ hx hp; refine ops_run nopre rfl ?_)))
     rename_i bl
     obtain ⟨Qr, hq, hback⟩ := rRows_at hp.f2 (show i < R.length by omega)
     have hp := hq
     refine U_append hp rfl rfl rfl rfl rfl rfl rfl (by decide) rfl (by first | omega | (simp only [List.length_append, List.length_cons, List.length_nil, List.length_take, List.length_drop, List.length_set, List.length_replicate, List.length_map]; omega)) rfl rfl ?_; intro a' c' w hp hnil; refine ops_run nopre rfl ?_; skip
     first | refine U_st0N hp (y := (⟨(R.getD i default).ins ++ [2 * ((st.2 + k : Nat) : Int)], a', c'⟩ : RowA Int)) rfl rfl rfl (by omega) (by decide) (rfl) rfl ?_ | refine U_st0 hp (y := (⟨(R.getD i default).ins ++ [2 * ((st.2 + k : Nat) : Int)], a', c'⟩ : RowA Int)) rfl rfl rfl (by omega) (by decide) (rfl) rfl ?_
     intro w hp; refine ops_run nopre rfl ?_; skip
     have hp := ((hback _ _ (⟨(R.getD i default).ins ++ [2 * ((st.2 + k : Nat) : Int)], a', c'⟩ : RowA Int) hp).f1.drop).f1
     refine IH2 (k + 1) _ _ _ (by omega) rfl ⟨by omega, _, ⟨?_, ?_⟩, hp⟩
     ·rw [List.length_set]; exact hRl
     ·rw [insOf_set, numS_succ (by rw [hb.len]; exact hlt'), ← hRi, insOf_get]
      rfl
    ·refine h_cond_f rfl rfl ?_; skip
     obtain rfl : k = wN x.n (i : Nat) := by omega
     exact IH (i + 1) _ _ _ (by omega) (by rw [eN]; rfl) ⟨by omega, R, ⟨hRl, by rw [eN]; exact hRi⟩, hp⟩
   ·have eN : inN x.n (i + 1) = st := by rw [inN, if_neg (by rw [kindL_at]; exact hk), hst]
    refine h_cond_t rfl rfl ?_; skip
    refine h_loop [1, 2, 4, 5, 6, 7, 8] (fun (k : Nat) => [(1, .pointer (some ⟨b1, 0, none⟩)), (2, .pointer (some ⟨b2, 0, none⟩)), (4, .pointer (some ⟨b4, 0, none⟩)), (5, .slice (some ⟨bs, 0, none⟩) x.sg.length x.sg.length), (6, .int .i64 ((st.2 : Nat) : Int)), (7, .int .i64 (i : Int)), (8, .int .i64 (k : Int))])
     (fun k w' => k = 0 ∧ Hp w0 w' [rO 31 1 eRo (some ⟨bs, 0, none⟩) x.sg.length R, rRows 3 1 eI R, rB b4 33 [.int .i64 (sumL (pwL x.n 0)), .slice none 0 0, .slice none 0 0, .slice none 0 0], rB b1 41 x.cs, rB b2 33 (cellsV Tryz.ti33.zero)]) (fun k => 0) 0 rfl ⟨rfl, hp⟩ ?_
    clear hp
    rintro k w1 ⟨rfl, hp⟩ IH2 C
    refine h_run rfl ?_; (repeat (refine gLoad ?_; first | refine H_ldB hp rfl rfl ?_ | refine H_ldFN hp rfl (by omega) rfl rfl ?_))
    refine h_guard_by (fun hlt2 => ?_) (fun hlt2 => ?_); all_goals (rw [hlt2]; (first | replace hlt2 := of_decide_eq_true hlt2 | replace hlt2 := of_decide_eq_false hlt2 | skip); (repeat (first | (refine gGuard ?_; first | refine h_guard_y rfl nopre rfl ?_ | refine h_guard_n rfl nopre rfl ?_) | (refine gLoad ?_; first | refine H_ldB hp rfl rfl ?_ | refine H_ldFN hp rfl (by omega) rfl rfl ?_))))
    ·refine h_cond_dec (fun hg => False.elim (by omega)) (fun _ => ?_); refine h_cond_f rfl rfl ?_; skip
     exact IH (i + 1) _ _ _ (by omega) (by rw [eN]; rfl) ⟨by omega, R, ⟨hRl, by rw [eN]; exact hRi⟩, hp⟩
    ·refine h_cond_f rfl rfl ?_; skip
     exact IH (i + 1) _ _ _ (by omega) (by rw [eN]; rfl) ⟨by omega, R, ⟨hRl, by rw [eN]; exact hRi⟩, hp⟩
  ·refine h_cond_f rfl rfl ?_; skip
   obtain rfl : i = x.sg.length := by omega
   clear IH
   subst hst
   have hRi : insOf R = (rgN x.n 0).1 := hRi
   refine h_loop [1, 2, 4, 5, 6, 9] (fun (i : Nat) => [(1, .pointer (some ⟨b1, 0, none⟩)), (2, .pointer (some ⟨b2, 0, none⟩)), (4, .pointer (some ⟨b4, 0, none⟩)), (5, .slice (some ⟨bs, 0, none⟩) x.sg.length x.sg.length), (6, .int .i64 (((rgN x.n i).2 : Nat) : Int)), (9, .int .i64 (i : Int))])
    (fun i w' => i ≤ x.sg.length ∧ ∃ R Q sa sc, (R.length = x.sg.length ∧ insOf R = (rgN x.n i).1 ∧ seqsOf Q = rgQ [0] x.n i) ∧ Hp w0 w' [rO 31 1 eRo (some ⟨bs, 0, none⟩) x.sg.length R, rRows 3 1 eI R, rO 68 3 eSq sa sc Q, rIns Q, rB b4 33 [.int .i64 (sumL (pwL x.n 0)), .slice sa Q.length sc, .slice none 0 0, .slice none 0 0], rB b1 41 x.cs, rB b2 33 (cellsV Tryz.ti33.zero)]) (fun i => x.sg.length - i) 0 rfl ⟨by omega, R, [], none, 0, ⟨hRl, hRi, rfl⟩, ?_⟩ ?_
   ·exact ((rIns_nil hp).ownN (e := 68) (sz := 3) (enc := eSq) (c := 0) (X := []) (Ext.refl _) (Own.nil _ _ _ _ _)).f1.f1.f3.f3
   clear hp hRl hRi hb hpos
   rintro i w1 ⟨hi, R, Q, sa, sc, ⟨hRl, hRi, hQs⟩, hp⟩ IH C
   have hb := rgN_b hm hi
   have hQl : Q.length = wsT x.n 3 i := by rw [← seqsOf_len Q, hQs, rgQ_len]
   have hQb := wsT_le hm 3 i hi
   obtain ⟨st, hst⟩ : ∃ st, st = rgN x.n i := ⟨_, rfl⟩
   rw [← hst] at hRi hb ⊢
   have hpos := hb.pos
   refine h_run rfl ?_; (repeat (refine H_ldB hp rfl rfl ?_))
   refine h_cond_dec (fun hlt => ?_) (fun hlt => ?_)
   ·have hlt' : i < x.sg.length := by omega
    obtain ⟨e1, e2⟩ := eW i hlt'
    have hrow := hb.row i hlt'
    by_cases hk : (x.sg.getD i default).kind = 3
    ·have hk' : kindL x.n (i : Nat) = 3 := by rw [kindL_at]; exact hk
     have eN : rgN x.n (i + 1) = numS st i (wN x.n (i : Nat)) := by rw [rgN, if_pos hk', ← hst]
     have eQ : rgQ [0] x.n (i + 1) = rgQ [0] x.n i ++ flopsL [0] (initL x.n (i : Nat)) (wN x.n (i : Nat)) := by rw [rgQ, if_pos hk']
     have hv : initL x.n (i : Nat) = (x.sg.getD i default).init := by unfold initL; rw [Int.toNat_natCast]; rfl
     refine h_cond_t rfl rfl ?_; skip
     refine h_loop [1, 2, 4, 5, 6, 9, 10] (fun (k : Nat) => [(1, .pointer (some ⟨b1, 0, none⟩)), (2, .pointer (some ⟨b2, 0, none⟩)), (4, .pointer (some ⟨b4, 0, none⟩)), (5, .slice (some ⟨bs, 0, none⟩) x.sg.length x.sg.length), (6, .int .i64 ((st.2 + k : Nat) : Int)), (9, .int .i64 (i : Int)), (10, .int .i64 (k : Int))])
      (fun k w' => k ≤ wN x.n (i : Nat) ∧ ∃ R Q sa sc, (R.length = x.sg.length ∧ insOf R = (numS st i k).1 ∧ seqsOf Q = rgQ [0] x.n i ++ flopsL [0] (initL x.n (i : Nat)) k) ∧ Hp w0 w' [rO 31 1 eRo (some ⟨bs, 0, none⟩) x.sg.length R, rRows 3 1 eI R, rO 68 3 eSq sa sc Q, rIns Q, rB b4 33 [.int .i64 (sumL (pwL x.n 0)), .slice sa Q.length sc, .slice none 0 0, .slice none 0 0], rB b1 41 x.cs, rB b2 33 (cellsV Tryz.ti33.zero)]) (fun k => wN x.n (i : Nat) - k) 0 rfl ⟨by omega, R, Q, sa, sc, ⟨hRl, by rw [numS_zero (by rw [hb.len]; exact hlt')]; exact hRi, by rw [hQs]; simp [flopsL]⟩, hp⟩ ?_
     clear hp hRl hRi hQs hQl
     rintro k w1 ⟨hk4, R, Q, sa, sc, ⟨hRl, hRi, hQs⟩, hp⟩ IH2 C
     have hQl : Q.length = wsT x.n 3 i + k := by rw [← seqsOf_len Q, hQs, List.length_append, rgQ_len, flopsL_len]
     have hl2 : (R.getD i default).ins.length ≤ 20 := by
      rw [← insOf_get, hRi]
      show ((st.1.set i (st.1.getD i default ++ numsL st.2 k)).getD i default).length ≤ 20
      rw [set_getE (by rw [hb.len]; exact hlt'), if_pos rfl, List.length_append, numsL_len]
      omega
     refine h_run rfl ?_; (repeat (refine gLoad ?_; first | refine H_ldB hp rfl rfl ?_ | refine H_ldFN hp rfl (by omega) rfl rfl ?_))
     refine h_guard_by (fun hlt2 => ?_) (fun hlt2 => ?_); all_goals (rw [hlt2]; (first | replace hlt2 := of_decide_eq_true hlt2 | replace hlt2 := of_decide_eq_false hlt2 | skip); (repeat (first | (refine gGuard ?_; first | refine h_guard_y rfl nopre rfl ?_ | refine h_guard_n rfl nopre rfl ?_) | (refine gLoad ?_; first | refine H_ldB hp rfl rfl ?_ | refine H_ldFN hp rfl (by omega) rfl rfl ?_))))
     ·have hlt2' : k < wN x.n (i : Nat) := by omega
      have hbk : ((k : Nat) : Int) ≤ ((IntKind.i64.bits : Nat) : Int) := by show ((k : Nat) : Int) ≤ 64; omega
      refine h_cond_dec (fun _ => ?_) (fun hg => False.elim (by omega)); refine h_cond_t rfl rfl ?_; skip
      refine D_draw hp (by kernel_rfl) (by kernel_rfl) rfl rfl ?_; intro w hx hp; have hs := hp; (repeat (first | (refine gLoad ?_; first | refine D_ldB rfl rfl rfl ?_ | refine D_ldFN rfl (by omega) rfl rfl rfl ?_) | (refine gBuild ?_; refine V_litI (fun _ hx => hs.ext hx) hp rfl rfl rfl rfl rfl rfl rfl rfl rfl rfl ?_; intro w _ hx hp; have hs := hs.ext hx; refine D_ops rfl rfl ?_)))
      rename_i b0
      refine D_lit (fun _ hx => hs.ext hx) hp eSq [⟨0, bits .and .i64 ((x.sg.getD i default).init / 2 ^ ((k : Nat) : Int).toNat) 1, [0], some ⟨b0, 0, none⟩, 1⟩] rfl rfl rfl rfl (s := 3) rfl (by decide) (by infer_instance) (by rfl) (by rfl) (by rfl) (by decide) ?_; intro w bq hx hp; have hs := hs.ext hx; refine D_ops rfl rfl ?_; skip
      refine V_append hp rfl rfl rfl rfl rfl rfl rfl (by decide) rfl (by first | omega | (simp only [List.length_append, List.length_cons, List.length_nil, List.length_take, List.length_drop, List.length_set, List.length_replicate, List.length_map]; omega)) rfl rfl (by kernel_rfl) ?_; intro sa' sc' w hp hnil; refine D_ops rfl rfl ?_; (repeat (refine V_stB hp rfl rfl rfl rfl (by kernel_rfl) ?_; intro w hp; refine D_ops rfl rfl ?_))
      have hp := ((rIns_add (y := ⟨0, bits .and .i64 ((x.sg.getD i default).init / 2 ^ ((k : Nat) : Int).toNat) 1, [0], some ⟨b0, 0, none⟩, 1⟩) (hp.f5.f2)).f1.drop).f3.f3.f3
      (repeat (first | (refine gLoad ?_; refine H_ldEN hp rfl (by omega) rfl rfl ?_) | (refine gBuild ?_; refine U_litI hp rfl rfl rfl rfl rfl rfl rfl rfl rfl rfl ?_; intro w _ hx hp; refine ops_run nopre rfl ?_)))
      rename_i bl
      obtain ⟨Qr, hq, hback⟩ := rRows_at hp.f2 (show i < R.length by omega)
      have hp := hq
      refine U_append hp rfl rfl rfl rfl rfl rfl rfl (by decide) rfl (by first | omega | (simp only [List.length_append, List.length_cons, List.length_nil, List.length_take, List.length_drop, List.length_set, List.length_replicate, List.length_map]; omega)) rfl rfl ?_; intro a' c' w hp hnil; refine ops_run nopre rfl ?_; skip
      first | refine U_st0N hp (y := (⟨(R.getD i default).ins ++ [2 * ((st.2 + k : Nat) : Int)], a', c'⟩ : RowA Int)) rfl rfl rfl (by omega) (by decide) (rfl) rfl ?_ | refine U_st0 hp (y := (⟨(R.getD i default).ins ++ [2 * ((st.2 + k : Nat) : Int)], a', c'⟩ : RowA Int)) rfl rfl rfl (by omega) (by decide) (rfl) rfl ?_
      intro w hp; refine ops_run nopre rfl ?_; skip
      have hp := ((hback _ _ (⟨(R.getD i default).ins ++ [2 * ((st.2 + k : Nat) : Int)], a', c'⟩ : RowA Int) hp).f1.drop).f1
      refine IH2 (k + 1) _ _ _ (by omega) rfl ⟨by omega, _, _, sa', sc', ⟨?_, ?_, ?_⟩, hp⟩
      ·rw [List.length_set]; exact hRl
      ·rw [insOf_set, numS_succ (by rw [hb.len]; exact hlt'), ← hRi, insOf_get]
       rfl
      ·rw [seqsOf_app, hQs, flopsL_succ, ← List.append_assoc, hv, bits_and_one, Int.toNat_natCast]; rfl
     ·refine h_cond_f rfl rfl ?_; skip
      obtain rfl : k = wN x.n (i : Nat) := by omega
      rw [← eQ] at hQs
      exact IH (i + 1) _ _ _ (by omega) (by rw [eN]; rfl) ⟨by omega, R, Q, sa, sc, ⟨hRl, by rw [eN]; exact hRi, hQs⟩, hp⟩
    ·have hk' : kindL x.n (i : Nat) ≠ 3 := by rw [kindL_at]; exact hk
     have eN : rgN x.n (i + 1) = st := by rw [rgN, if_neg hk', hst]
     have eQ : rgQ [0] x.n (i + 1) = rgQ [0] x.n i := by rw [rgQ, if_neg hk']
     refine h_cond_t rfl rfl ?_; skip
     refine h_loop [1, 2, 4, 5, 6, 9, 10] (fun (k : Nat) => [(1, .pointer (some ⟨b1, 0, none⟩)), (2, .pointer (some ⟨b2, 0, none⟩)), (4, .pointer (some ⟨b4, 0, none⟩)), (5, .slice (some ⟨bs, 0, none⟩) x.sg.length x.sg.length), (6, .int .i64 ((st.2 : Nat) : Int)), (9, .int .i64 (i : Int)), (10, .int .i64 (k : Int))])
      (fun k w' => k = 0 ∧ Hp w0 w' [rO 31 1 eRo (some ⟨bs, 0, none⟩) x.sg.length R, rRows 3 1 eI R, rO 68 3 eSq sa sc Q, rIns Q, rB b4 33 [.int .i64 (sumL (pwL x.n 0)), .slice sa Q.length sc, .slice none 0 0, .slice none 0 0], rB b1 41 x.cs, rB b2 33 (cellsV Tryz.ti33.zero)]) (fun k => 0) 0 rfl ⟨rfl, hp⟩ ?_
     clear hp
     rintro k w1 ⟨rfl, hp⟩ IH2 C
     refine h_run rfl ?_; (repeat (refine gLoad ?_; first | refine H_ldB hp rfl rfl ?_ | refine H_ldFN hp rfl (by omega) rfl rfl ?_))
     refine h_guard_by (fun hlt2 => ?_) (fun hlt2 => ?_); all_goals (rw [hlt2]; (first | replace hlt2 := of_decide_eq_true hlt2 | replace hlt2 := of_decide_eq_false hlt2 | skip); (repeat (first | (refine gGuard ?_; first | refine h_guard_y rfl nopre rfl ?_ | refine h_guard_n rfl nopre rfl ?_) | (refine gLoad ?_; first | refine H_ldB hp rfl rfl ?_ | refine H_ldFN hp rfl (by omega) rfl rfl ?_))))
     ·refine h_cond_dec (fun hg => False.elim (by omega)) (fun _ => ?_); refine h_cond_f rfl rfl ?_; skip
      exact IH (i + 1) _ _ _ (by omega) (by rw [eN]; rfl) ⟨by omega, R, Q, sa, sc, ⟨hRl, by rw [eN]; exact hRi, by rw [eQ]; exact hQs⟩, hp⟩
     ·refine h_cond_f rfl rfl ?_; skip
      exact IH (i + 1) _ _ _ (by omega) (by rw [eN]; rfl) ⟨by omega, R, Q, sa, sc, ⟨hRl, by rw [eN]; exact hRi, by rw [eQ]; exact hQs⟩, hp⟩
   ·refine h_cond_f rfl rfl ?_; skip
    obtain rfl : i = x.sg.length := by omega
    clear IH
    subst hst
    have hRi : insOf R = (mmN x.n 0).1 := hRi
    refine h_loop [1, 2, 4, 5, 6, 11] (fun (j : Nat) => [(1, .pointer (some ⟨b1, 0, none⟩)), (2, .pointer (some ⟨b2, 0, none⟩)), (4, .pointer (some ⟨b4, 0, none⟩)), (5, .slice (some ⟨bs, 0, none⟩) x.sg.length x.sg.length), (6, .int .i64 (((mmN x.n j).2 : Nat) : Int)), (11, .int .i64 (j : Int))])
     (fun j w' => j ≤ x.ms.length ∧ ∃ R Q sa sc, (R.length = x.sg.length ∧ insOf R = (mmN x.n j).1 ∧ seqsOf Q = mmQ [0] [0, 0, 0, 0] x.n j) ∧ Hp w0 w' [rO 31 1 eRo (some ⟨bs, 0, none⟩) x.sg.length R, rRows 3 1 eI R, rO 68 3 eSq sa sc Q, rIns Q, rB b4 33 [.int .i64 (sumL (pwL x.n 0)), .slice sa Q.length sc, .slice none 0 0, .slice none 0 0], rB b1 41 x.cs, rB b2 33 (cellsV Tryz.ti33.zero)]) (fun j => x.ms.length - j) 0 rfl ⟨by omega, R, Q, sa, sc, ⟨hRl, hRi, hQs⟩, hp⟩ ?_
    clear hp hRl hRi hb hpos hQs hQl
    rintro j w1 ⟨hj, R, Q, sa, sc, ⟨hRl, hRi, hQs⟩, hp⟩ IH C
    have hb := mmN_b hm hj
    have hQl : Q.length = wsT x.n 3 x.sg.length + mwT x.n j := by rw [← seqsOf_len Q, hQs, mmQ_len]; rfl
    have hQb := wsT_le hm 3 x.sg.length (Nat.le_refl _)
    have hQb2 := mwT_le hm j hj
    refine h_run rfl ?_; (repeat (refine H_ldB hp rfl rfl ?_))
    refine h_cond_dec (fun hlt => ?_) (fun hlt => ?_)
    ·have hlt' : j < x.ms.length := by omega
     have i4 := (hm.ms j hlt').2.2.2.1
     change inL x.n (x.ms.getD j default).out at i4
     unfold inL at i4
     change 0 ≤ (x.ms.getD j default).out ∧ (x.ms.getD j default).out < x.sg.length at i4
     obtain ⟨o, ho⟩ := Int.eq_ofNat_of_zero_le i4.1
     have hol : o < x.sg.length := by omega
     obtain ⟨e1, e2⟩ := eW o hol
     obtain ⟨st, hst⟩ : ∃ st, st = mmN x.n j := ⟨_, rfl⟩
     have eo : (x.ms.getD j default).out.toNat = o := by omega
     have eN : mmN x.n (j + 1) = numS st o (wN x.n (o : Nat)) := by
      rw [mmN]
      show numS (mmN x.n j) (x.ms.getD j default).out.toNat (wN x.n (x.ms.getD j default).out) = _
      rw [eo, ho, hst]
     have eQ : mmQ [0] [0, 0, 0, 0] x.n (j + 1) = mmQ [0] [0, 0, 0, 0] x.n j ++ ramsL [0, 0, 0, 0] (wN x.n (o : Nat)) := by
      rw [mmQ]
      show mmQ [0] [0, 0, 0, 0] x.n j ++ ramsL [0, 0, 0, 0] (wN x.n (x.ms.getD j default).out) = _
      rw [ho]
     rw [← hst] at hRi hb ⊢
     have hpos := hb.pos
     have hrow := hb.row o hol
     refine h_cond_t rfl rfl ?_; skip
     refine h_loop [1, 2, 4, 5, 6, 11, 12] (fun (k : Nat) => [(1, .pointer (some ⟨b1, 0, none⟩)), (2, .pointer (some ⟨b2, 0, none⟩)), (4, .pointer (some ⟨b4, 0, none⟩)), (5, .slice (some ⟨bs, 0, none⟩) x.sg.length x.sg.length), (6, .int .i64 ((st.2 + k : Nat) : Int)), (11, .int .i64 (j : Int)), (12, .int .i64 (k : Int))])
      (fun k w' => k ≤ wN x.n (o : Nat) ∧ ∃ R Q sa sc, (R.length = x.sg.length ∧ insOf R = (numS st o k).1 ∧ seqsOf Q = mmQ [0] [0, 0, 0, 0] x.n j ++ ramsL [0, 0, 0, 0] k) ∧ Hp w0 w' [rO 31 1 eRo (some ⟨bs, 0, none⟩) x.sg.length R, rRows 3 1 eI R, rO 68 3 eSq sa sc Q, rIns Q, rB b4 33 [.int .i64 (sumL (pwL x.n 0)), .slice sa Q.length sc, .slice none 0 0, .slice none 0 0], rB b1 41 x.cs, rB b2 33 (cellsV Tryz.ti33.zero)]) (fun k => wN x.n (o : Nat) - k) 0 rfl ⟨by omega, R, Q, sa, sc, ⟨hRl, by rw [numS_zero (by rw [hb.len]; exact hol)]; exact hRi, by rw [hQs]; simp [ramsL]⟩, hp⟩ ?_
     clear hp hRl hRi hQs hQl
     rintro k w1 ⟨hk4, R, Q, sa, sc, ⟨hRl, hRi, hQs⟩, hp⟩ IH2 C
     have hQl : Q.length = wsT x.n 3 x.sg.length + mwT x.n j + k := by rw [← seqsOf_len Q, hQs, List.length_append, mmQ_len]; simp [ramsL]; rfl
     have hl2 : (R.getD o default).ins.length ≤ 20 := by
      rw [← insOf_get, hRi]
      show ((st.1.set o (st.1.getD o default ++ numsL st.2 k)).getD o default).length ≤ 20
      rw [set_getE (by rw [hb.len]; exact hol), if_pos rfl, List.length_append, numsL_len]
      omega
     refine h_run rfl ?_; skip
     refine D_draw hp (by kernel_rfl) (by kernel_rfl) rfl rfl ?_; intro w hx hp; have hs := hp; (repeat (refine gLoad ?_; first | refine D_ldB rfl rfl rfl ?_ | refine D_ldFN rfl (by omega) rfl rfl rfl ?_ | refine D_ldF rfl (by omega) (by omega) rfl rfl rfl ?_))
     skip
     rw [eo]
     refine h_cond_dec (fun hlt2 => ?_) (fun hlt2 => ?_)
     ·have hlt2' : k < wN x.n (o : Nat) := by omega
      refine h_cond_t rfl rfl ?_; (repeat (first | (refine gLoad ?_; refine H_ldB hp rfl rfl ?_) | (refine gBuild ?_; refine U_litI hp rfl rfl rfl rfl rfl rfl rfl rfl rfl rfl ?_; intro w _ hx hp; refine ops_run nopre rfl ?_)))
      rename_i b0
      refine H_lit hp eSq [⟨1, 0, [0, 0, 0, 0], some ⟨b0, 0, none⟩, 4⟩] rfl rfl rfl rfl (s := 3) rfl (by decide) (by infer_instance) (by rfl) (by rfl) (by rfl) (by decide) ?_; intro w bq hx hp; refine ops_run nopre rfl ?_; skip
      refine U_append hp rfl rfl rfl rfl rfl rfl rfl (by decide) rfl (by first | omega | (simp only [List.length_append, List.length_cons, List.length_nil, List.length_take, List.length_drop, List.length_set, List.length_replicate, List.length_map]; omega)) rfl rfl ?_; intro sa' sc' w hp hnil; refine ops_run nopre rfl ?_; (repeat (refine U_stB hp rfl rfl rfl rfl ?_; intro w hp; refine ops_run nopre rfl ?_))
      have hp := ((rIns_add (y := ⟨1, 0, [0, 0, 0, 0], some ⟨b0, 0, none⟩, 4⟩) (hp.f5.f2)).f1.drop).f3.f3.f3
      obtain ⟨Qr, hq, hback⟩ := rRows_at hp.f1 (show o < R.length by omega)
      have hp := hq
      clear hq
      refine N_draw0 hp (Hp.drop hp) (by kernel_rfl) (by kernel_rfl) rfl rfl ?_; (repeat (first | (refine nLoad ?_; first | refine N_ldB rfl rfl rfl ?_ | refine N_ldFN rfl (by omega) rfl rfl rfl ?_ | refine N_ldE rfl (by omega) (by omega) rfl rfl rfl ?_) | (refine nBuild ?_; refine N_litI rfl rfl rfl rfl rfl rfl rfl rfl rfl rfl ?_; intro _; refine N_ops rfl rfl ?_)))
      rename_i bl
      rw [eo]
      refine N_append rfl rfl rfl rfl rfl rfl rfl (by decide) rfl (by first | omega | (simp only [List.length_append, List.length_cons, List.length_nil, List.length_take, List.length_drop, List.length_set, List.length_replicate, List.length_map]; omega)) rfl rfl (fun _ _ _ _ _ hp => hp.sub (by (repeat (first | exact List.sublist_append_left _ _ | apply List.Sublist.cons)))) ?_; intro a' c' hnil; refine N_ops rfl rfl ?_; skip
      first | refine N_st0N (y := (⟨(R.getD o default).ins ++ [2 * ((st.2 + k : Nat) : Int)], a', c'⟩ : RowA Int)) rfl rfl rfl (by omega) (by decide) (rfl) rfl (by kernel_rfl) ?_ | refine N_st0 (y := (⟨(R.getD o default).ins ++ [2 * ((st.2 + k : Nat) : Int)], a', c'⟩ : RowA Int)) rfl rfl rfl (by omega) (by decide) (rfl) rfl (by kernel_rfl) ?_
      refine N_ops rfl rfl ?_; skip
      refine N_end ?_; intro w hp C; refine h_run rfl ?_; skip
      rw [eo] at hp
      have hp := (hback _ _ (⟨(R.getD o default).ins ++ [2 * ((st.2 + k : Nat) : Int)], a', c'⟩ : RowA Int) hp.drop).f1
      refine IH2 (k + 1) _ _ _ (by omega) rfl ⟨by omega, _, _, sa', sc', ⟨?_, ?_, ?_⟩, hp⟩
      ·rw [List.length_set]; exact hRl
      ·rw [insOf_set, numS_succ (by rw [hb.len]; exact hol), ← hRi, insOf_get]
       rfl
      ·rw [seqsOf_app, hQs]
       unfold ramsL
       rw [List.replicate_succ', ← List.append_assoc]; rfl
     ·refine h_cond_f rfl rfl ?_; skip
      obtain rfl : k = wN x.n (o : Nat) := by omega
      rw [← eQ] at hQs
      exact IH (j + 1) _ _ _ (by omega) (by rw [eN]; rfl) ⟨by omega, R, Q, sa, sc, ⟨hRl, by rw [eN]; exact hRi, hQs⟩, hp⟩
    ·refine h_cond_f rfl rfl ?_; (repeat (refine H_ldB hp rfl rfl ?_))
     obtain rfl : j = x.ms.length := by omega
     clear IH
     refine h_call rfl Tryz.func29 (by kernel_rfl) rfl (specEvalOrder_h x _ hp.mod hS hW) ?_; rintro _ w ⟨be, ce, rfl, hq⟩; have hx := hq.x; have hp := hp.call1 hq; refine ops_run nopre rfl ?_; skip
     rw [evR_some he] at hp ⊢
     have hev := evtO_in he
     have hin := hev.2.1
     have hll : l.length ≤ 30 := by have h := hev.2.2; rw [x.alen] at h; omega
     have hnl := natsI_len l
     obtain ⟨hO1, hO2⟩ := elO_ok hf he
     have hst := SqP.start hO1
     have hoi : ∀ i, i < x.asg.length → ∀ j, j < (x.asg.getD i default).ops.length → i64O ((x.asg.getD i default).ops.getD j default) := fun i hi j hj => by
      have h := hW.ops i (by rw [x.alen]; exact hi)
      rw [x.aops] at h
      exact h j hj
     have h1 : Hp w0 _ (rO 120 2 eII none 0 ([] : List (Int × Int)) :: rO 3 1 eI none 0 ([] : List Int) :: _) := (hp.ownN (e := 3) (sz := 1) (enc := eI) (c := 0) (X := []) (Ext.refl _) (Own.nil _ _ _ _ _)).ownN (e := 120) (sz := 2) (enc := eII) (c := 0) (X := []) (Ext.refl _) (Own.nil _ _ _ _ _)
     have hy0 : (⟨sumL (pwL x.n 0), Q, sa, sc, [], none, 0, [], none, 0⟩ : NetA).n = (ordT x.n l 0).1.1 := by
      show (⟨sumL (pwL x.n 0), seqsOf Q, [], []⟩ : NetL) = net0 x.n
      rw [hQs]; rfl
     have h2 := rNet_shut (x := ⟨sumL (pwL x.n 0), Q, sa, sc, [], none, 0, [], none, 0⟩) (rSq_shut (h1.f1.f1.f6.f6))
     refine h_loop [1, 2, 4, 5, 13, 15] (fun (i : Nat) => [(1, .pointer (some ⟨b1, 0, none⟩)), (2, .pointer (some ⟨b2, 0, none⟩)), (4, .pointer (some ⟨b4, 0, none⟩)), (5, .slice (some ⟨bs, 0, none⟩) x.sg.length x.sg.length), (13, .slice be l.length ce), (15, .int .i64 (i : Int))])
      (fun i w' => i ≤ l.length ∧ ∃ R y, (R.length = x.sg.length ∧ insOf R = (ordT x.n l i).2 ∧ y.n = (ordT x.n l i).1.1 ∧ (ordT x.n l i).1.2 = false) ∧ Hp w0 w' [rNet y, rB b4 33 y.cs, rO 31 1 eRo (some ⟨bs, 0, none⟩) x.sg.length R, rRows 3 1 eI R, rO 3 1 eI be ce (natsI l), rB b1 41 x.cs, rB b2 33 (cellsV Tryz.ti33.zero)]) (fun i => l.length - i) 0 rfl ⟨by omega, R, ⟨sumL (pwL x.n 0), Q, sa, sc, [], none, 0, [], none, 0⟩, ⟨hRl, hRi, hy0, rfl⟩, h2.f6.f6.f3.f5.f5.f6.f6⟩ ?_
     clear hp h1 h2 hy0 hRl hRi hQs hQl
     rintro i w1 ⟨hi, R, y, ⟨hRl, hRi, hyn, hyb⟩, hp⟩ IH C
     have hP := ordT_ok hm hf (fun i hi => (hin i hi).1) i hi
     refine h_run rfl ?_; skip
     refine h_cond_dec (fun hlt => ?_) (fun hlt => ?_)
     ·have hlt' : i < l.length := by omega
      obtain ⟨q, hq⟩ : ∃ q, q = l.getD i 0 := ⟨_, rfl⟩
      have hqi : (natsI l).getD i default = ((q : Nat) : Int) := by rw [hq]; exact natsI_get l i
      have hql : q < x.asg.length := by
       have h := (hin q (by rw [hq, List.getD_eq_getElem?_getD, List.getElem?_eq_getElem hlt']; exact List.getElem_mem _)).1
       rw [x.alen] at h; exact h
      obtain ⟨hop1, hop2, hop3, hop4⟩ := opsOk_at hm hf (i := q) (by rw [x.alen]; exact hql)
      have etg : tgL x.n q = (x.asg.getD q default).tg := x.atg q
      have eop : opsL x.n q = (x.asg.getD q default).ops := x.aops q
      have hin3 := hop3
      rw [etg] at hin3
      unfold inL at hin3
      change 0 ≤ (x.asg.getD q default).tg ∧ (x.asg.getD q default).tg < x.sg.length at hin3
      obtain ⟨t, ht⟩ := Int.eq_ofNat_of_zero_le hin3.1
      have htn : (x.asg.getD q default).tg.toNat = t := by omega
      obtain ⟨e1, e2⟩ := eW t (by omega)
      have hw1 := wN_b hm hf hop3
      have hwe : wN x.n (tgL x.n q) = wN x.n (t : Nat) := by rw [etg, ht]
      have la : LtA q x.asg := ⟨hql⟩
      have hxl : x.n.sg.length = x.sg.length := rfl
      have hAx : AxP (ordT x.n l i).1.1 (ordT x.n l i).2 (opsL x.n q) (wN x.n (tgL x.n q) : Nat) := evAx hm hf hP.net hP.sig (by rw [x.alen]; exact hql) hop3
      obtain ⟨ev, hev2⟩ : ∃ ev, ev = evA adP (ordT x.n l i).2 (wN x.n (tgL x.n q)) (treeA x.n q) (ordT x.n l i).1 := ⟨_, rfl⟩
      have hst0 : (ordT x.n l i).1 = ((ordT x.n l i).1.1, false) := by rw [← hyb]
      have htr : treeOf (opsL x.n q) (ordT x.n l i).2.length = treeA x.n q := by unfold treeA; rw [hP.sig.len]
      have eT : ordT x.n l (i + 1) = (ev.1, (ordT x.n l i).2.set t ev.2) := by
       rw [ordT, ← hq]
       unfold evS
       rw [← hev2, etg, htn]
      have hevl : ev.2.length = wN x.n (tgL x.n q) := by rw [hev2]; exact evA_len _ _ _ _ _
      refine h_cond_t rfl rfl ?_; skip
      refine D_draw hp (by kernel_rfl) (by kernel_rfl) rfl rfl ?_; intro w hx hp; have hs := hp; (repeat (refine gLoad ?_; first | refine D_ldB rfl rfl rfl ?_ | refine D_ldEN rfl (by omega) rfl rfl rfl ?_ | refine D_ldE rfl (by omega) (by omega) rfl rfl rfl ?_))
      rw [hqi, Int.toNat_natCast]
      (first | (refine D_box (fun _ hx => hs.ext hx) hp ?_; intro w b16 hx hp) | (refine D_alloc (fun _ hx => hs.ext hx) hp rfl ?_; intro w b16 hx hp)); have hs := hs.ext hx; refine D_ops rfl rfl ?_; (repeat (refine V_stBN hp rfl rfl rfl rfl (by kernel_rfl) ?_; intro w hp; refine D_ops rfl rfl ?_))
      obtain ⟨r, hr⟩ : ∃ r, r = axF y.n (insOf R) (x.asg.getD q default).ops ((wN x.n (t : Nat) : Nat) : Int) := ⟨_, rfl⟩
      refine N_draw hp (by kernel_rfl) (by kernel_rfl) rfl rfl ?_; (repeat (refine nLoad ?_; first | refine N_ldB rfl rfl rfl ?_ | refine N_ldF rfl (by omega) (by omega) rfl rfl rfl ?_))
      rw [htn, e1]
      refine N_call Tryz.func30 (by kernel_rfl) rfl (fun F w hp => ?_)
      refine Ret.mono (specAddExpr_n y x.sg.length (some ⟨bs, 0, none⟩) x.sg.length R hRl (x.asg.getD q default).oa (x.asg.getD q default).oc (x.asg.getD q default).ops ((wN x.n (t : Nat) : Nat) : Int) _ hp.pre.net (by rw [hyn]; exact hP.net) hp.pre.rd hp.pre.rs hp.pre.rd (by omega) (by rw [hRi, hyn]; exact hP.sig.row) (by rw [← eop]; exact hop1.len) (hoi q hql) (by unfold i64R; omega)) ?_
      rw [← hr]
      rintro _ w ⟨y', b, c, ⟨ey, rfl⟩, hq⟩
      have hp := Hp.callF2 hp hq
      refine ⟨fun hq => Bool.noConfusion (hq.symm.trans (by kernel_rfl : flagAt _ _ = false)), _, hp, ?_⟩
      clear hp hq
      refine N_ops rfl rfl ?_; skip
      (first | refine N_box ?_ | refine N_alloc rfl ?_); intro b17; refine N_ops rfl rfl ?_; (repeat (refine N_stBN rfl rfl rfl rfl (by kernel_rfl) ?_; refine N_ops rfl rfl ?_))
      refine N_end ?_; intro w hp C; refine h_run rfl ?_; skip
      rw [hyn, hRi, ← hwe, ← eop] at hr
      cases hb : ev.1.2 with
      | true =>
       rw [axF_evB (by rw [htr, ← hst0, ← hev2]; exact hb)] at hr
       subst hr
       refine h_cond_t rfl rfl ?_; (repeat (first | (refine gStore ?_; refine U_stBN hp rfl rfl rfl rfl ?_; intro w hp; refine ops_run nopre rfl ?_) | (refine gRetc ?_; refine R_ret2v hp rfl ?_)))
       rw [elF_badO hf he (i := i + 1) (by omega) (by rw [eT]; exact hb)]
       exact ⟨zeroN, ⟨rfl, rfl⟩, (rNet_zero hp).tk 1⟩
      | false =>
       rw [axF_ev hAx (by rw [htr, ← hst0, ← hev2]; exact hb), htr, ← hst0, ← hev2] at hr
       subst hr
       have hne : ((((ev.1.1, ev.2) : NetL × List Int).2.length : Nat) : Int) ≠ 0 := by
        show ((ev.2.length : Nat) : Int) ≠ 0
        rw [hevl]; omega
       refine h_cond_f (decide_eq_false hne) rfl ?_; (repeat (first | (refine gLoad ?_; refine H_ldB hp rfl rfl ?_) | (refine gStore ?_; refine U_stBN hp rfl rfl rfl rfl ?_; intro w hp; refine ops_run nopre rfl ?_)))
       first | refine U_st0N hp (y := (⟨ev.2, b, c⟩ : RowA Int)) rfl rfl rfl (by omega) (by decide) (rfl) rfl ?_ | refine U_st0 hp (y := (⟨ev.2, b, c⟩ : RowA Int)) rfl rfl rfl (by omega) (by decide) (rfl) rfl ?_
       intro w hp; refine ops_run nopre rfl ?_; skip
       rw [htn] at hp
       obtain ⟨Qr, hq1, hback⟩ := rRows_at (hp.f7) (i := t) (by omega)
       have hp := hback _ _ (⟨ev.2, b, c⟩ : RowA Int) (hq1.drop.f3)
       exact IH (i + 1) _ _ _ (by omega) rfl ⟨by omega, _, y', ⟨by rw [List.length_set]; exact hRl, by rw [eT, insOf_set, hRi], by rw [eT]; exact ey, by rw [eT]; exact hb⟩, (hp.f9.f9.f9.f3.f9.f9.f7).tk 7⟩
     ·refine h_cond_f rfl rfl ?_; skip
      obtain rfl : i = l.length := by omega
      clear IH hP
      have hRi : insOf R = (elO x.n l).2 := hRi
      have hRg : ∀ u, u < R.length → (R.getD u default).ins.length ≤ 1000 := fun u hu => by
       have h := (hst.sig.row _ (by rw [← hRi]; exact getD_mem (X := insOf R) (i := u) (by rw [insOf_len]; exact hu))).1
       rw [insOf_get] at h; omega
      have hp : Hp w0 _ [_, _, _, _, _, _] := (hp.f4).drop
      have hyn : y.n = (rgT x.n (elO x.n l).2 (elO x.n l).1 0).1.1 := hyn
      have hyb : (rgT x.n (elO x.n l).2 (elO x.n l).1 0).1.2 = false := hyb
      have hxl : x.n.sg.length = x.sg.length := rfl
      refine h_loop [1, 2, 4, 5, 19, 20] (fun (s : Nat) => [(1, .pointer (some ⟨b1, 0, none⟩)), (2, .pointer (some ⟨b2, 0, none⟩)), (4, .pointer (some ⟨b4, 0, none⟩)), (5, .slice (some ⟨bs, 0, none⟩) x.sg.length x.sg.length), (19, .int .i64 (((rgT x.n (elO x.n l).2 (elO x.n l).1 s).2 : Nat) : Int)), (20, .int .i64 (s : Int))])
       (fun s w' => s ≤ x.sg.length ∧ ∃ y, (y.n = (rgT x.n (elO x.n l).2 (elO x.n l).1 s).1.1 ∧ (rgT x.n (elO x.n l).2 (elO x.n l).1 s).1.2 = false) ∧ Hp w0 w' [rNet y, rB b4 33 y.cs, rO 31 1 eRo (some ⟨bs, 0, none⟩) x.sg.length R, rRows 3 1 eI R, rB b1 41 x.cs, rB b2 33 (cellsV Tryz.ti33.zero)]) (fun s => x.sg.length - s) 0 rfl ⟨by omega, y, ⟨hyn, hyb⟩, hp⟩ ?_
      clear hp hyn hyb
      rintro s w1 ⟨hs, y, ⟨hyn, hyb⟩, hp⟩ IH C
      obtain ⟨hS1, hS2, hS3⟩ := rgT_ok hm hst s hs
      have hS4 := wsT_le hm 3 s hs
      refine h_run rfl ?_; (repeat (refine H_ldB hp rfl rfl ?_))
      refine h_cond_dec (fun hlt => ?_) (fun hlt => ?_)
      ·have hlt' : s < x.sg.length := by omega
       obtain ⟨e1, e2⟩ := eW s hlt'
       by_cases hk : (x.sg.getD s default).kind = 3
       ·have hk' : kindL x.n (s : Nat) = 3 := by rw [kindL_at]; exact hk
        have eT : (rgT x.n (elO x.n l).2 (elO x.n l).1 (s + 1)) = (rgI x.n (elO x.n l).2 ((s : Nat) : Int) (rgT x.n (elO x.n l).2 (elO x.n l).1 s) x.asg.length) := by rw [rgT, if_pos hk', x.alen]
        refine h_cond_t rfl rfl ?_; skip
        refine h_loop [1, 2, 4, 5, 19, 20, 21] (fun (i : Nat) => [(1, .pointer (some ⟨b1, 0, none⟩)), (2, .pointer (some ⟨b2, 0, none⟩)), (4, .pointer (some ⟨b4, 0, none⟩)), (5, .slice (some ⟨bs, 0, none⟩) x.sg.length x.sg.length), (19, .int .i64 (((rgI x.n (elO x.n l).2 ((s : Nat) : Int) (rgT x.n (elO x.n l).2 (elO x.n l).1 s) i).2 : Nat) : Int)), (20, .int .i64 (s : Int)), (21, .int .i64 (i : Int))])
         (fun i w' => i ≤ x.asg.length ∧ ∃ y, (y.n = (rgI x.n (elO x.n l).2 ((s : Nat) : Int) (rgT x.n (elO x.n l).2 (elO x.n l).1 s) i).1.1 ∧ (rgI x.n (elO x.n l).2 ((s : Nat) : Int) (rgT x.n (elO x.n l).2 (elO x.n l).1 s) i).1.2 = false) ∧ Hp w0 w' [rNet y, rB b4 33 y.cs, rO 31 1 eRo (some ⟨bs, 0, none⟩) x.sg.length R, rRows 3 1 eI R, rB b1 41 x.cs, rB b2 33 (cellsV Tryz.ti33.zero)]) (fun i => x.asg.length - i) 0 rfl ⟨by omega, y, ⟨hyn, hyb⟩, hp⟩ ?_
        clear hp hyn hyb
        rintro i w1 ⟨hi, y, ⟨hyn, hyb⟩, hp⟩ IH2 C
        obtain ⟨hI1, hI2, hI3⟩ := rgI_ok hm hlt' hk' hS1 hS2 i (by rw [x.alen]; exact hi)
        refine h_run rfl ?_; (repeat (refine H_ldB hp rfl rfl ?_))
        refine h_guard_by (fun hlt2 => ?_) (fun hlt2 => ?_); all_goals (rw [hlt2]; (first | replace hlt2 := of_decide_eq_true hlt2 | replace hlt2 := of_decide_eq_false hlt2 | skip); (repeat (first | (refine gGuard ?_; first | refine h_guard_y rfl nopre rfl ?_ | refine h_guard_n rfl nopre rfl ?_) | (refine gLoad ?_; first | refine H_ldB hp rfl rfl ?_ | refine H_ldFN hp rfl (by omega) rfl rfl ?_))))
        ·have hlt2' : i < x.asg.length := by omega
         obtain ⟨hop1, hop2, hop3, hop4⟩ := opsOk_at hm hf (i := i) (by rw [x.alen]; exact hlt2')
         have eop : opsL x.n i = (x.asg.getD i default).ops := x.aops i
         have la : LtA i x.asg := ⟨hlt2'⟩
         refine h_cond_dec (fun _ => ?_) (fun hg => False.elim (by omega)); refine h_cond_t rfl rfl ?_; (repeat (refine gLoad ?_; first | refine H_ldB hp rfl rfl ?_ | refine H_ldFN hp rfl (by omega) rfl rfl ?_))
         refine h_cond_dec (fun ht => ?_) (fun ht => ?_)
         ·have eJ : (rgI x.n (elO x.n l).2 ((s : Nat) : Int) (rgT x.n (elO x.n l).2 (elO x.n l).1 s) (i + 1)) = (rgI x.n (elO x.n l).2 ((s : Nat) : Int) (rgT x.n (elO x.n l).2 (elO x.n l).1 s) i) := by
           rw [rgI]
           unfold rgS
           rw [if_neg (show ¬ tgL x.n i = ((s : Nat) : Int) from fun h => ht ((x.atg i).symm.trans h))]
          refine h_cond_t rfl rfl ?_; skip
          exact IH2 (i + 1) _ _ _ (by omega) (by rw [eJ]; rfl) ⟨by omega, y, ⟨by rw [eJ]; exact hyn, by rw [eJ]; exact hyb⟩, hp⟩
         ·have ht := Decidable.not_not.1 ht
          have htt : tgL x.n i = (s : Nat) := (x.atg i).trans ht
          have hat := rgI_at hm hlt' hk' hS1 hS2 (i := i) (by rw [x.alen]; exact hlt2') htt
          have hw1 := wN_b hm hf hop3
          rw [htt] at hw1
          obtain ⟨v1, v2, v3, v4⟩ := hI1.ev (wN x.n (s : Nat)) (treeA x.n i)
          obtain ⟨ev, hev2⟩ : ∃ ev, ev = evA adP (elO x.n l).2 (wN x.n (s : Nat)) (treeA x.n i) (rgI x.n (elO x.n l).2 ((s : Nat) : Int) (rgT x.n (elO x.n l).2 (elO x.n l).1 s) i).1 := ⟨_, rfl⟩
          have hevl : ev.2.length = wN x.n (s : Nat) := by rw [hev2]; exact evA_len _ _ _ _ _
          rw [← hev2] at v1 v2 v3 v4
          have eJ : (rgI x.n (elO x.n l).2 ((s : Nat) : Int) (rgT x.n (elO x.n l).2 (elO x.n l).1 s) (i + 1)) = ((bitQ ev.1.1 (rgI x.n (elO x.n l).2 ((s : Nat) : Int) (rgT x.n (elO x.n l).2 (elO x.n l).1 s) i).2 ev.2 (wN x.n (s : Nat)), ev.1.2), (rgI x.n (elO x.n l).2 ((s : Nat) : Int) (rgT x.n (elO x.n l).2 (elO x.n l).1 s) i).2 + wN x.n (s : Nat)) := by
           rw [rgI]
           unfold rgS
           rw [if_pos htt, ← hev2]
          have hst0 : (rgI x.n (elO x.n l).2 ((s : Nat) : Int) (rgT x.n (elO x.n l).2 (elO x.n l).1 s) i).1 = ((rgI x.n (elO x.n l).2 ((s : Nat) : Int) (rgT x.n (elO x.n l).2 (elO x.n l).1 s) i).1.1, false) := by rw [← hyb]
          have htr : treeOf (opsL x.n i) (elO x.n l).2.length = treeA x.n i := by unfold treeA; rw [hI1.sig.len]
          have hAx : AxP (rgI x.n (elO x.n l).2 ((s : Nat) : Int) (rgT x.n (elO x.n l).2 (elO x.n l).1 s) i).1.1 (elO x.n l).2 (opsL x.n i) (wN x.n (s : Nat) : Nat) := evAx hm hf hI1.net hI1.sig (by rw [x.alen]; exact hlt2') (s := (s : Nat)) (by unfold inL; exact ⟨by omega, by rw [hxl]; omega⟩)
          obtain ⟨r, hr⟩ : ∃ r, r = axF y.n (insOf R) (x.asg.getD i default).ops ((wN x.n (s : Nat) : Nat) : Int) := ⟨_, rfl⟩
          refine h_cond_f rfl rfl ?_; skip
          refine N_draw hp (by kernel_rfl) (by kernel_rfl) rfl rfl ?_; (repeat (refine nLoad ?_; first | refine N_ldB rfl rfl rfl ?_ | refine N_ldFN rfl (by omega) rfl rfl rfl ?_))
          rw [e1]
          refine N_call Tryz.func30 (by kernel_rfl) rfl (fun F w hp => ?_)
          refine Ret.mono (specAddExpr_n y x.sg.length (some ⟨bs, 0, none⟩) x.sg.length R hRl (x.asg.getD i default).oa (x.asg.getD i default).oc (x.asg.getD i default).ops ((wN x.n (s : Nat) : Nat) : Int) _ hp.pre.net (by rw [hyn]; exact hI1.net) hp.pre.rd hp.pre.rs hp.pre.rd (by omega) (by rw [hRi, hyn]; exact hI1.sig.row) (by rw [← eop]; exact hop1.len) (hoi i hlt2') (by unfold i64R; omega)) ?_
          rw [← hr]
          rintro _ w ⟨y', b, c, ⟨ey, rfl⟩, hq⟩
          have hp := Hp.callF2 hp hq
          refine ⟨fun hq => Bool.noConfusion (hq.symm.trans (by kernel_rfl : flagAt _ _ = false)), _, hp, ?_⟩
          clear hp hq
          refine N_ops rfl rfl ?_; skip
          (first | refine N_box ?_ | refine N_alloc rfl ?_); intro b22; refine N_ops rfl rfl ?_; (repeat (refine N_stBN rfl rfl rfl rfl (by kernel_rfl) ?_; refine N_ops rfl rfl ?_))
          refine N_end ?_; intro w hp C; refine h_run rfl ?_; skip
          rw [hyn, hRi, ← eop] at hr
          cases hb : ev.1.2 with
          | true =>
           rw [axF_evB (by rw [htr, ← hst0, ← hev2]; exact hb)] at hr
           subst hr
           refine h_cond_t rfl rfl ?_; (repeat (first | (refine gStore ?_; refine U_stBN hp rfl rfl rfl rfl ?_; intro w hp; refine ops_run nopre rfl ?_) | (refine gRetc ?_; refine R_ret2v hp rfl ?_)))
           rw [elF_badR hf he hlt' hk' (i := i + 1) (by rw [x.alen]; omega) (by rw [eJ]; exact hb)]
           exact ⟨zeroN, ⟨rfl, rfl⟩, (rNet_zero hp).tk 1⟩
          | false =>
           rw [axF_ev hAx (by rw [htr, ← hst0, ← hev2]; exact hb), htr, ← hst0, ← hev2] at hr
           subst hr
           have hne : ((((ev.1.1, ev.2) : NetL × List Int).2.length : Nat) : Int) ≠ 0 := by
            show ((ev.2.length : Nat) : Int) ≠ 0
            rw [hevl]; omega
           refine h_cond_f (decide_eq_false hne) rfl ?_; (repeat (first | (refine gLoad ?_; refine H_ldB hp rfl rfl ?_) | (refine gStore ?_; refine U_stBN hp rfl rfl rfl rfl ?_; intro w hp; refine ops_run nopre rfl ?_)))
           obtain ⟨q0, hq0⟩ : ∃ q0, q0 = (rgI x.n (elO x.n l).2 ((s : Nat) : Int) (rgT x.n (elO x.n l).2 (elO x.n l).1 s) i).2 := ⟨_, rfl⟩
           rw [← hq0] at eJ hat v1
           obtain ⟨inp, Q, sa, sc, A, aa, ac, O, oa, oc⟩ := y'
           have ey : (⟨inp, seqsOf Q, A, O⟩ : NetL) = ev.1.1 := ey
           obtain ⟨m, hmm⟩ : ∃ m, m = Q.length := ⟨_, rfl⟩
           have hatm : q0 + wN x.n (s : Nat) ≤ m := by
            have h := congrArg (fun N : NetL => N.seqs.length) ey
            have h : (seqsOf Q).length = ev.1.1.seqs.length := h
            rw [seqsOf_len, v1.len] at h
            rw [hmm, h]
            exact Nat.le_trans hat (Nat.le_add_right _ _)
           have hm12 : m ≤ 300 := by
            have h := congrArg (fun N : NetL => N.seqs.length) ey
            have h : (seqsOf Q).length = ev.1.1.seqs.length := h
            rw [seqsOf_len, v1.len] at h
            have h6 := wsT_le hm 3 x.n.sg.length (Nat.le_refl _)
            have h7 := mwT_le hm x.n.ms.length (Nat.le_refl _)
            have h8 : x.n.ms.length = x.ms.length := rfl
            omega
           have hp := ((rSq_open (rNet_open (x := ⟨inp, Q, sa, sc, A, aa, ac, O, oa, oc⟩) hp.f1)).f11.f11.f11.f11.f7.f7.f7.f7.f9.f11).cgB (cs' := ([.int .i64 inp, .slice sa m sc, .slice aa A.length ac, .slice oa O.length oc] : List Value)) (by rw [hmm])
           have hp : Hp w0 _ [_, _, _, _, _, _, _, _, _, _] := hp.tk 10
           have hQ0 : seqsOf Q = (bitQ ev.1.1 q0 ev.2 0).seqs := congrArg NetL.seqs ey
           refine h_loop [1, 2, 4, 5, 19, 20, 21, 23, 24] (fun (k : Nat) => [(1, .pointer (some ⟨b1, 0, none⟩)), (2, .pointer (some ⟨b2, 0, none⟩)), (4, .pointer (some ⟨b4, 0, none⟩)), (5, .slice (some ⟨bs, 0, none⟩) x.sg.length x.sg.length), (19, .int .i64 ((q0 + k : Nat) : Int)), (20, .int .i64 (s : Int)), (21, .int .i64 (i : Int)), (23, .slice b ev.2.length c), (24, .int .i64 (k : Int))])
            (fun k w' => k ≤ ev.2.length ∧ ∃ Q, (Q.length = m ∧ seqsOf Q = (bitQ ev.1.1 q0 ev.2 k).seqs) ∧ Hp w0 w' [rB b4 33 [.int .i64 inp, .slice sa m sc, .slice aa A.length ac, .slice oa O.length oc], rO 3 1 eI b c ev.2, rO 68 3 eSq sa sc Q, rIns Q, rO 120 2 eII aa ac A, rO 3 1 eI oa oc O, rO 31 1 eRo (some ⟨bs, 0, none⟩) x.sg.length R, rRows 3 1 eI R, rB b1 41 x.cs, rB b2 33 (cellsV Tryz.ti33.zero)]) (fun k => ev.2.length - k) 0 (by rw [hq0]; rfl) ⟨by omega, Q, ⟨hmm.symm, hQ0⟩, hp⟩ ?_
           clear hp hQ0
           have eyi : inp = ev.1.1.inputs := congrArg NetL.inputs ey
           have eya : A = ev.1.1.ands := congrArg NetL.ands ey
           have eyo : O = ev.1.1.outs := congrArg NetL.outs ey
           clear hmm ey
           rintro k w1 ⟨hk4, Q, ⟨hQl, hQs⟩, hp⟩ IH3 C
           refine h_run rfl ?_; skip
           refine h_cond_dec (fun hlt3 => ?_) (fun hlt3 => ?_)
           ·have hlt3' : k < ev.2.length := by omega
            have hsn2 : sa ≠ none := nn_of hp (X := Q) (by omega)
            refine h_cond_t rfl rfl ?_; skip
            refine D_draw hp (by kernel_rfl) (by kernel_rfl) rfl rfl ?_; intro w hx hp; have hs := hp; (repeat (first | (refine gLoad ?_; first | refine D_ldB rfl rfl rfl ?_ | refine D_ldEN rfl (by omega) rfl rfl rfl ?_) | (refine gBuild ?_; refine V_litI (fun _ hx => hs.ext hx) hp rfl rfl rfl rfl rfl rfl rfl rfl rfl rfl ?_; intro w _ hx hp; have hs := hs.ext hx; refine D_ops rfl rfl ?_)))
            rename_i bl
            first | refine V_st1N hp ({ Q.getD (q0 + k) default with ins := [ev.2.getD k default], ia := some ⟨bl, 0, none⟩, ic := 1 }) rfl rfl rfl (by omega) (by decide) rfl rfl (by kernel_rfl) ?_ | refine V_st1 hp ({ Q.getD (q0 + k) default with ins := [ev.2.getD k default], ia := some ⟨bl, 0, none⟩, ic := 1 }) rfl rfl rfl (by omega) (by decide) rfl rfl (by kernel_rfl) ?_
            intro w hp; refine D_ops rfl rfl ?_; skip
            obtain ⟨Qr, hq1, hback⟩ := rIns_at hp.f4 (i := q0 + k) (by omega)
            have hp := hback _ _ { Q.getD (q0 + k) default with ins := [ev.2.getD k default], ia := some ⟨bl, 0, none⟩, ic := 1 } (hq1.drop.f1)
            exact IH3 (k + 1) _ _ _ (by omega) rfl ⟨by omega, _, ⟨by rw [List.length_set]; exact hQl, seqs_put2 hQs _ _ _⟩, hp.f3.f3.f3⟩
           ·refine h_cond_f rfl rfl ?_; skip
            obtain rfl : k = ev.2.length := by omega
            clear IH3
            subst hQl
            have h := rNet_shut (x := ⟨inp, Q, sa, sc, A, aa, ac, O, oa, oc⟩) (rSq_shut (hp.f9.f9.f9.f9.f4.f9.f9.f9.f9))
            refine IH2 (i + 1) _ _ _ (by omega) (by rw [eJ, hevl]; rfl) ⟨by omega, ⟨inp, Q, sa, sc, A, aa, ac, O, oa, oc⟩, ⟨?_, by rw [eJ]; exact hb⟩, h.tk 6⟩
            rw [eJ]
            show (⟨inp, seqsOf Q, A, O⟩ : NetL) = bitQ ev.1.1 q0 ev.2 (wN x.n (s : Nat))
            rw [bitQ_eq, ← hevl, hQs, eyi, eya, eyo]
        ·refine h_cond_f rfl rfl ?_; skip
         obtain rfl : i = x.asg.length := by omega
         exact IH (s + 1) _ _ _ (by omega) (by rw [eT]; rfl) ⟨by omega, y, ⟨by rw [eT]; exact hyn, by rw [eT]; exact hyb⟩, hp⟩
       ·have eT : (rgT x.n (elO x.n l).2 (elO x.n l).1 (s + 1)) = (rgT x.n (elO x.n l).2 (elO x.n l).1 s) := by rw [rgT, if_neg (by rw [kindL_at]; exact hk)]
        refine h_cond_t rfl rfl ?_; skip
        refine h_loop [1, 2, 4, 5, 19, 20, 21] (fun (i : Nat) => [(1, .pointer (some ⟨b1, 0, none⟩)), (2, .pointer (some ⟨b2, 0, none⟩)), (4, .pointer (some ⟨b4, 0, none⟩)), (5, .slice (some ⟨bs, 0, none⟩) x.sg.length x.sg.length), (19, .int .i64 (((rgT x.n (elO x.n l).2 (elO x.n l).1 s).2 : Nat) : Int)), (20, .int .i64 (s : Int)), (21, .int .i64 (i : Int))])
         (fun i w' => i = 0 ∧ Hp w0 w' [rNet y, rB b4 33 y.cs, rO 31 1 eRo (some ⟨bs, 0, none⟩) x.sg.length R, rRows 3 1 eI R, rB b1 41 x.cs, rB b2 33 (cellsV Tryz.ti33.zero)]) (fun i => 0) 0 rfl ⟨rfl, hp⟩ ?_
        clear hp
        rintro i w1 ⟨rfl, hp⟩ IH2 C
        refine h_run rfl ?_; (repeat (refine H_ldB hp rfl rfl ?_))
        refine h_guard_by (fun hlt2 => ?_) (fun hlt2 => ?_); all_goals (rw [hlt2]; (first | replace hlt2 := of_decide_eq_true hlt2 | replace hlt2 := of_decide_eq_false hlt2 | skip); (repeat (first | (refine gGuard ?_; first | refine h_guard_y rfl nopre rfl ?_ | refine h_guard_n rfl nopre rfl ?_) | (refine gLoad ?_; first | refine H_ldB hp rfl rfl ?_ | refine H_ldFN hp rfl (by omega) rfl rfl ?_))))
        ·refine h_cond_dec (fun hg => False.elim (by omega)) (fun _ => ?_); refine h_cond_f rfl rfl ?_; skip
         exact IH (s + 1) _ _ _ (by omega) (by rw [eT]; rfl) ⟨by omega, y, ⟨by rw [eT]; exact hyn, by rw [eT]; exact hyb⟩, hp⟩
        ·refine h_cond_f rfl rfl ?_; skip
         exact IH (s + 1) _ _ _ (by omega) (by rw [eT]; rfl) ⟨by omega, y, ⟨by rw [eT]; exact hyn, by rw [eT]; exact hyb⟩, hp⟩
      ·refine h_cond_f rfl rfl ?_; skip
       obtain rfl : s = x.sg.length := by omega
       clear IH
       have eR : (rgT x.n (elO x.n l).2 (elO x.n l).1 x.sg.length) = elR x.n l := rfl
       rw [eR] at hyn hyb hS1 hS2 ⊢
       obtain ⟨inp, Q, sa, sc, A, aa, ac, O, oa, oc⟩ := y
       have ey : (⟨inp, seqsOf Q, A, O⟩ : NetL) = (elR x.n l).1.1 := hyn
       obtain rfl : O = [] := by have h := congrArg NetL.outs ey; rw [hS1.outs] at h; exact h
       obtain ⟨m, hmm⟩ : ∃ m, m = Q.length := ⟨_, rfl⟩
       have hmN : (elR x.n l).1.1.seqs.length = m := by rw [hmm, ← seqsOf_len Q, ← ey]
       have hmw0 : m = wsT x.n 3 x.sg.length + mwT x.n x.ms.length := by rw [← hmN, hS1.len]; rfl
       have hp := ((rSq_open (rNet_open (x := ⟨inp, Q, sa, sc, A, aa, ac, [], oa, oc⟩) hp)).f8.f8.f8.f8.f7.f7.f7.f7.f8).cgB (cs' := ([.int .i64 inp, .slice sa m sc, .slice aa A.length ac, .slice oa ([] : List Int).length oc] : List Value)) (by rw [hmm]; rfl)
       have hQs : seqsOf Q = (memT x.n (elO x.n l).2 (elR x.n l).1.1 (elR x.n l).2 0).1.seqs := congrArg NetL.seqs ey
       have hmt : ∀ j, j ≤ x.ms.length → SqP x.n (elO x.n l).2 (memT x.n (elO x.n l).2 (elR x.n l).1.1 (elR x.n l).2 j).1 (memT x.n (elO x.n l).2 (elR x.n l).1.1 (elR x.n l).2 j).2 ∧ (memT x.n (elO x.n l).2 (elR x.n l).1.1 (elR x.n l).2 j).2 = (elR x.n l).2 + mwT x.n j := fun j hj => by
        have h := memT_ok hm hf hO2 (N := (elR x.n l).1.1) (by have h := hS1; rw [hS2] at h; exact h) j hj
        rw [hS2]; exact h
       refine h_loop [1, 2, 4, 5, 19, 25] (fun (j : Nat) => [(1, .pointer (some ⟨b1, 0, none⟩)), (2, .pointer (some ⟨b2, 0, none⟩)), (4, .pointer (some ⟨b4, 0, none⟩)), (5, .slice (some ⟨bs, 0, none⟩) x.sg.length x.sg.length), (19, .int .i64 (((memT x.n (elO x.n l).2 (elR x.n l).1.1 (elR x.n l).2 j).2 : Nat) : Int)), (25, .int .i64 (j : Int))])
        (fun j w' => j ≤ x.ms.length ∧ ∃ Q, (Q.length = m ∧ seqsOf Q = (memT x.n (elO x.n l).2 (elR x.n l).1.1 (elR x.n l).2 j).1.seqs) ∧ Hp w0 w' [rB b4 33 [.int .i64 inp, .slice sa m sc, .slice aa A.length ac, .slice oa ([] : List Int).length oc], rO 68 3 eSq sa sc Q, rIns Q, rO 120 2 eII aa ac A, rO 3 1 eI oa oc ([] : List Int), rO 31 1 eRo (some ⟨bs, 0, none⟩) x.sg.length R, rRows 3 1 eI R, rB b1 41 x.cs, rB b2 33 (cellsV Tryz.ti33.zero)]) (fun j => x.ms.length - j) 0 rfl ⟨by omega, Q, ⟨hmm.symm, hQs⟩, hp⟩ ?_
       clear hp hQs
       have eyi : inp = (elR x.n l).1.1.inputs := congrArg NetL.inputs ey
       have eya : A = (elR x.n l).1.1.ands := congrArg NetL.ands ey
       clear hmm ey hyn
       rintro j w1 ⟨hj, Q, ⟨hQl, hQs⟩, hp⟩ IH C
       obtain ⟨hT1, hT2⟩ := hmt j hj
       have hT3 := mwT_le hm j hj
       have hT4 := wsT_le hm 3 x.sg.length (Nat.le_refl _)
       have hS2' : (elR x.n l).2 = wsT x.n 3 x.sg.length := hS2
       refine h_run rfl ?_; (repeat (refine H_ldB hp rfl rfl ?_))
       refine h_cond_dec (fun hlt => ?_) (fun hlt => ?_)
       ·have hlt' : j < x.ms.length := by omega
        obtain ⟨i1, i2, i3, i4, _⟩ := hm.ms j hlt'
        change inL x.n (x.ms.getD j default).addr at i1
        change inL x.n (x.ms.getD j default).data at i2
        change inL x.n (x.ms.getD j default).write at i3
        change inL x.n (x.ms.getD j default).out at i4
        obtain ⟨w1', w2', w3', w4', w5'⟩ := mem_w hm hf hlt'
        change wN x.n (x.ms.getD j default).addr = 2 at w1'
        change wN x.n (x.ms.getD j default).write = 1 at w2'
        change wN x.n (x.ms.getD j default).data = wN x.n (x.ms.getD j default).out at w3'
        have f1 := full_at hO2 i1
        have f2 := full_at hO2 i2
        have f3 := full_at hO2 i3
        rw [← hRi, insOf_get] at f1 f2 f3
        unfold inL at i1 i2 i3 i4
        change 0 ≤ (x.ms.getD j default).addr ∧ (x.ms.getD j default).addr < x.sg.length at i1
        change 0 ≤ (x.ms.getD j default).data ∧ (x.ms.getD j default).data < x.sg.length at i2
        change 0 ≤ (x.ms.getD j default).write ∧ (x.ms.getD j default).write < x.sg.length at i3
        change 0 ≤ (x.ms.getD j default).out ∧ (x.ms.getD j default).out < x.sg.length at i4
        obtain ⟨o, ho⟩ := Int.eq_ofNat_of_zero_le i4.1
        have eo : (x.ms.getD j default).out.toNat = o := by omega
        obtain ⟨e1, e2⟩ := eW o (by omega)
        have la1 : LtL (x.ms.getD j default).addr.toNat R := ⟨by omega⟩
        have la2 : LtL (x.ms.getD j default).data.toNat R := ⟨by omega⟩
        have la3 : LtL (x.ms.getD j default).write.toNat R := ⟨by omega⟩
        have hwo : wN x.n (x.ms.getD j default).out = wN x.n (o : Nat) := by rw [ho]
        have eN : (memT x.n (elO x.n l).2 (elR x.n l).1.1 (elR x.n l).2 (j + 1)) = (ramT (elO x.n l).2 (x.ms.getD j default) (memT x.n (elO x.n l).2 (elR x.n l).1.1 (elR x.n l).2 j).1 (memT x.n (elO x.n l).2 (elR x.n l).1.1 (elR x.n l).2 j).2 (wN x.n (o : Nat)), (memT x.n (elO x.n l).2 (elR x.n l).1.1 (elR x.n l).2 j).2 + wN x.n (o : Nat)) := by
         rw [memT]
         show (ramT (elO x.n l).2 (x.ms.getD j default) (memT x.n (elO x.n l).2 (elR x.n l).1.1 (elR x.n l).2 j).1 (memT x.n (elO x.n l).2 (elR x.n l).1.1 (elR x.n l).2 j).2 (wN x.n (x.ms.getD j default).out), (memT x.n (elO x.n l).2 (elR x.n l).1.1 (elR x.n l).2 j).2 + wN x.n (x.ms.getD j default).out) = _
         rw [hwo]
        have hmw := mwT_mono x.n (i := j + 1) (j := x.ms.length) (by omega)
        have hmw2 : mwT x.n (j + 1) = mwT x.n j + wN x.n (o : Nat) := by
         rw [mwT]
         show mwT x.n j + wN x.n (x.ms.getD j default).out = _
         rw [hwo]
        refine h_cond_t rfl rfl ?_; (repeat (refine gLoad ?_; first | refine H_ldB hp rfl rfl ?_ | refine H_ldEN hp rfl (by omega) rfl rfl ?_))
        (first | refine H_box hp ?_ | refine H_alloc hp rfl ?_); intro w b26 hx hp; refine ops_run nopre rfl ?_; (repeat (refine U_stBN hp rfl rfl rfl rfl ?_; intro w hp; refine ops_run nopre rfl ?_))
        obtain ⟨q0, hq0⟩ : ∃ q0, q0 = (memT x.n (elO x.n l).2 (elR x.n l).1.1 (elR x.n l).2 j).2 := ⟨_, rfl⟩
        rw [← hq0] at eN hT1 hT2
        have hq0m : q0 + wN x.n (o : Nat) ≤ m := by omega
        refine h_loop [1, 2, 4, 5, 19, 25, 26, 27] (fun (k : Nat) => [(1, .pointer (some ⟨b1, 0, none⟩)), (2, .pointer (some ⟨b2, 0, none⟩)), (4, .pointer (some ⟨b4, 0, none⟩)), (5, .slice (some ⟨bs, 0, none⟩) x.sg.length x.sg.length), (19, .int .i64 ((q0 + k : Nat) : Int)), (25, .int .i64 (j : Int)), (26, .pointer (some ⟨b26, 0, none⟩)), (27, .int .i64 (k : Int))])
         (fun k w' => k ≤ wN x.n (o : Nat) ∧ ∃ Q, (Q.length = m ∧ seqsOf Q = (ramT (elO x.n l).2 (x.ms.getD j default) (memT x.n (elO x.n l).2 (elR x.n l).1.1 (elR x.n l).2 j).1 q0 k).seqs) ∧ Hp w0 w' [rB b26 70 (eMm (x.ms.getD j default)), rB b4 33 [.int .i64 inp, .slice sa m sc, .slice aa A.length ac, .slice oa ([] : List Int).length oc], rO 68 3 eSq sa sc Q, rIns Q, rO 120 2 eII aa ac A, rO 3 1 eI oa oc ([] : List Int), rO 31 1 eRo (some ⟨bs, 0, none⟩) x.sg.length R, rRows 3 1 eI R, rB b1 41 x.cs, rB b2 33 (cellsV Tryz.ti33.zero)]) (fun k => wN x.n (o : Nat) - k) 0 (by rw [hq0]; rfl) ⟨by omega, Q, ⟨hQl, hQs⟩, hp⟩ ?_
        clear hp hQl hQs
        rintro k w1 ⟨hk4, Q, ⟨hQl, hQs⟩, hp⟩ IH2 C
        refine h_run rfl ?_; (repeat (refine gLoad ?_; first | refine H_ldB hp rfl rfl ?_ | refine H_ldF hp rfl (by omega) (by omega) rfl rfl ?_))
        rw [eo]
        refine h_cond_dec (fun hlt2 => ?_) (fun hlt2 => ?_)
        ·have hlt2' : k < wN x.n (o : Nat) := by omega
         have hsn2 : sa ≠ none := nn_of hp (X := Q) (by omega)
         have la1n : (R.getD (x.ms.getD j default).addr.toNat default).ia ≠ none := nn_of hp (X := (R.getD (x.ms.getD j default).addr.toNat default).ins) (by omega)
         have la2n : (R.getD (x.ms.getD j default).data.toNat default).ia ≠ none := nn_of hp (X := (R.getD (x.ms.getD j default).data.toNat default).ins) (by omega)
         have la3n : (R.getD (x.ms.getD j default).write.toNat default).ia ≠ none := nn_of hp (X := (R.getD (x.ms.getD j default).write.toNat default).ins) (by omega)
         refine h_cond_t rfl rfl ?_; skip
         refine D_draw hp (by kernel_rfl) (by kernel_rfl) rfl rfl ?_; intro w hx hp; have hs := hp; (repeat (first | (refine gLoad ?_; first | refine D_ldB rfl rfl rfl ?_ | refine D_ldEN rfl (by omega) rfl rfl rfl ?_ | refine D_ldE rfl (by omega) (by omega) rfl rfl rfl ?_) | (refine gBuild ?_; refine V_litI (fun _ hx => hs.ext hx) hp rfl rfl rfl rfl rfl rfl rfl rfl rfl rfl ?_; intro w _ hx hp; have hs := hs.ext hx; refine D_ops rfl rfl ?_)))
         rename_i bl
         have eL : [(R.getD (x.ms.getD j default).addr.toNat default).ins.getD (Int.toNat 0) default, (R.getD (x.ms.getD j default).addr.toNat default).ins.getD (Int.toNat 1) default, (R.getD (x.ms.getD j default).data.toNat default).ins.getD k default, (R.getD (x.ms.getD j default).write.toNat default).ins.getD (Int.toNat 0) default] = ramI (elO x.n l).2 (x.ms.getD j default) k := by
          unfold ramI
          rw [← hRi, insOf_get, insOf_get, insOf_get]; rfl
         first | refine V_st1N hp ({ Q.getD (q0 + k) default with ins := ramI (elO x.n l).2 (x.ms.getD j default) k, ia := some ⟨bl, 0, none⟩, ic := 4 }) rfl rfl rfl (by omega) (by decide) rfl rfl (by kernel_rfl) ?_ | refine V_st1 hp ({ Q.getD (q0 + k) default with ins := ramI (elO x.n l).2 (x.ms.getD j default) k, ia := some ⟨bl, 0, none⟩, ic := 4 }) rfl rfl rfl (by omega) (by decide) rfl rfl (by kernel_rfl) ?_
         intro w hp; refine D_ops rfl rfl ?_; skip
         rw [eL] at hp
         obtain ⟨Qr, hq1, hback⟩ := rIns_at hp.f4 (i := q0 + k) (by omega)
         have hp := hback _ _ { Q.getD (q0 + k) default with ins := ramI (elO x.n l).2 (x.ms.getD j default) k, ia := some ⟨bl, 0, none⟩, ic := 4 } (hq1.drop.f1)
         exact IH2 (k + 1) _ _ _ (by omega) rfl ⟨by omega, _, ⟨by rw [List.length_set]; exact hQl, seqs_put2 hQs _ _ _⟩, hp.f3.f3.f3⟩
        ·refine h_cond_f rfl rfl ?_; skip
         obtain rfl : k = wN x.n (o : Nat) := by omega
         exact IH (j + 1) _ _ _ (by omega) (by rw [eN]; rfl) ⟨by omega, Q, ⟨hQl, by rw [eN]; exact hQs⟩, hp.drop⟩
       ·refine h_cond_f rfl rfl ?_; skip
        obtain rfl : j = x.ms.length := by omega
        clear IH
        have hT0 : (memT x.n (elO x.n l).2 (elR x.n l).1.1 (elR x.n l).2 x.ms.length) = elM x.n l := rfl
        have heM := memT_eq x.n (elO x.n l).2 (elR x.n l).1.1 (elR x.n l).2 x.ms.length
        rw [hT0] at hQs hT1 hT2 heM
        refine h_loop [1, 2, 4, 5, 28] (fun (i : Nat) => [(1, .pointer (some ⟨b1, 0, none⟩)), (2, .pointer (some ⟨b2, 0, none⟩)), (4, .pointer (some ⟨b4, 0, none⟩)), (5, .slice (some ⟨bs, 0, none⟩) x.sg.length x.sg.length), (28, .int .i64 (i : Int))])
         (fun i w' => i ≤ x.sg.length ∧ ∃ oa oc, Hp w0 w' [rO 3 1 eI oa oc ((outT x.n (elO x.n l).2 i)), rB b4 33 [.int .i64 inp, .slice sa m sc, .slice aa A.length ac, .slice oa ((outT x.n (elO x.n l).2 i)).length oc], rO 68 3 eSq sa sc Q, rIns Q, rO 120 2 eII aa ac A, rO 31 1 eRo (some ⟨bs, 0, none⟩) x.sg.length R, rRows 3 1 eI R, rB b1 41 x.cs, rB b2 33 (cellsV Tryz.ti33.zero)]) (fun i => x.sg.length - i) 0 rfl ⟨by omega, oa, oc, hp.f3.f3.f3.f3.f4⟩ ?_
        clear hp
        rintro i w1 ⟨hi, oa, oc, hp⟩ IH C
        have hol := outT_len hO2 i hi
        have hob := wsT_le hm 1 i hi
        obtain ⟨O, hO⟩ : ∃ O, O = outT x.n (elO x.n l).2 i := ⟨_, rfl⟩
        rw [← hO] at hp hol
        refine h_run rfl ?_; (repeat (refine H_ldB hp rfl rfl ?_))
        refine h_cond_dec (fun hlt => ?_) (fun hlt => ?_)
        ·have hlt' : i < x.sg.length := by omega
         have la1 : LtL i R := ⟨by omega⟩
         have hri := hRg i (by omega)
         refine h_cond_t rfl rfl ?_; (repeat (refine gLoad ?_; first | refine H_ldB hp rfl rfl ?_ | refine H_ldFN hp rfl (by omega) rfl rfl ?_))
         refine h_cond_dec (fun hk => ?_) (fun hk => ?_)
         ·have eT : outT x.n (elO x.n l).2 (i + 1) = O ++ (R.getD i default).ins := by rw [outT, if_pos (by rw [kindL_at]; exact hk), ← hO, ← hRi, insOf_get]
          refine h_cond_t rfl rfl ?_; skip
          refine D_draw hp (by kernel_rfl) (by kernel_rfl) rfl rfl ?_; intro w hx hp; have hs := hp; (repeat (refine gLoad ?_; first | refine D_ldB rfl rfl rfl ?_ | refine D_ldEN rfl (by omega) rfl rfl rfl ?_))
          refine V_append hp rfl rfl rfl rfl rfl rfl rfl (by decide) rfl (by first | omega | (simp only [List.length_append, List.length_cons, List.length_nil, List.length_take, List.length_drop, List.length_set, List.length_replicate, List.length_map]; omega)) rfl rfl (by kernel_rfl) ?_; intro oa' oc' w hp hnil; refine D_ops rfl rfl ?_; (repeat (refine V_stB hp rfl rfl rfl rfl (by kernel_rfl) ?_; intro w hp; refine D_ops rfl rfl ?_))
          refine IH (i + 1) _ _ _ (by omega) rfl ⟨by omega, oa', oc', ?_⟩
          rw [eT]
          exact hp
         ·have eT : outT x.n (elO x.n l).2 (i + 1) = O := by rw [outT, if_neg (by rw [kindL_at]; exact hk), ← hO]
          refine h_cond_f rfl rfl ?_; skip
          refine IH (i + 1) _ _ _ (by omega) rfl ⟨by omega, oa, oc, ?_⟩
          rw [eT]
          exact hp
        ·refine h_cond_f rfl rfl ?_; (repeat (refine H_ldB hp rfl rfl ?_))
         obtain rfl : i = x.sg.length := by omega
         clear IH
         subst hQl
         have hyn : (⟨inp, Q, sa, sc, A, aa, ac, O, oa, oc⟩ : NetA).n = elN x.n l := by
          show (⟨inp, seqsOf Q, A, O⟩ : NetL) = { (elM x.n l).1 with outs := outT x.n (elO x.n l).2 x.sg.length }
          rw [hQs, hO, heM, eyi, eya]
         have hok := elN_ok hf he
         have h := rNet_shut (x := ⟨inp, Q, sa, sc, A, aa, ac, O, oa, oc⟩) (rSq_shut (hp.f1.f1.f4.f4.f4))
         have hp : Hp w0 _ [_, _, _, _, _, _] := h
         refine h_call rfl Tryz.func31 (by kernel_rfl) rfl (specHash_x ⟨inp, Q, sa, sc, A, aa, ac, O, oa, oc⟩ _ hp.net (by rw [hyn]; exact hok.S') (by rw [hyn]; exact hok.W)) ?_; rintro _ w ⟨y2, ⟨hy2, rfl⟩, hq⟩; have hx := hq.x; have hp := hp.call1 hq; refine ops_run nopre rfl ?_; (repeat (first | (refine gStore ?_; refine U_stBN hp rfl rfl rfl rfl ?_; intro w hp; refine ops_run nopre rfl ?_) | (refine gRetc ?_; refine R_ret2v hp rfl ?_)))
         rw [hyn, ifNet_yes hok] at hy2
         rw [elF_yes he hf hyb]
         exact ⟨y2, ⟨hy2, rfl⟩, hp.tk 1⟩
 ·have hfb : flatB x.n = false := by unfold flatB; exact pB_no' hf
  refine h_call rfl Tryz.func26 (by kernel_rfl) rfl (specFlatOk_h x _ hp.mod hS hW) ?_; rintro _ w ⟨rfl, hx⟩; have hp := hp.ext hx; refine ops_run nopre rfl ?_; skip
  rw [hfb]
  refine h_cond_t rfl rfl ?_; (repeat (first | (refine gStore ?_; refine U_stBN hp rfl rfl rfl rfl ?_; intro w hp; refine ops_run nopre rfl ?_) | (refine gRetc ?_; refine R_ret2v hp rfl ?_)))
  rw [elF_flat hf]
  exact ⟨zeroN, ⟨rfl, rfl⟩, (rNet_zero hp).tk 1⟩
end Go.Proofs
