/- The contract of the program's Elaborate; under its stated conditions. -/
import Derived.Test.YtiepmliokblkjaaGreatElabM
set_option linter.all false
namespace Go.Proofs
open Go.Xw
set_option maxRecDepth 100000
set_option maxHeartbeats 8000000
attribute [local irreducible] Holds elemAddr
theorem implElab_x (x : ModA) (w0 : World) (hM : ModR w0 x) (hS : ModS x.n) (hW : ModW x.n) :
  Ret Tryz.prog 8 [x.v] w0 (fun v w => ∃ y, (y.n = (elF x.n).1 ∧ v = .tuple ⟨[y.v, .bool (elF x.n).2]⟩) ∧ Hp w0 w [rNet y]) := by
 refine enter Tryz.S8ok _ _ rfl rfl (by show _ ≤ _; simp only [List.length]; decide) (fun C => ?_); have hp := Hp.nil w0; refine h_run rfl ?_; skip; (first | refine H_box hp ?_ | refine H_alloc hp rfl ?_); intro w b1 hx hp; refine ops_run nopre rfl ?_; skip; (first | refine H_box hp ?_ | refine H_alloc hp rfl ?_); intro w b2 hx hp; refine ops_run nopre rfl ?_; (repeat (refine H_ldB hp rfl rfl ?_))
 by_cases hf : FlatP x.n
 ·obtain ⟨l, he⟩ : ∃ l, evtO x.n = some l := by
   have h := hf.ev
   cases he : evtO x.n with
   | none => rw [he] at h; exact Bool.noConfusion h
   | some l => exact ⟨l, rfl⟩
  have hm := (flat_mod hf).2
  have l1 : x.sg.length ≤ 30 := hm.l1
  have l2 : x.asg.length ≤ 30 := by have := hm.l2; rw [x.alen] at this; exact this
  have l3 : x.ms.length ≤ 2 := hm.l3
  have p0 := pw_b hm 0
  have hfb : flatB x.n = true := pB_iff.2 hf
  refine h_call rfl Tryz.func36 (by kernel_rfl) rfl (implFlatOk_h x _ hp.mod hS hW) ?_; rintro _ w ⟨rfl, hx⟩; have hp := hp.ext hx; refine ops_run nopre rfl ?_; skip
  rw [hfb]
  refine h_cond_f rfl rfl ?_; (repeat (refine H_ldB hp rfl rfl ?_))
  refine h_call rfl Tryz.func18 (by kernel_rfl) rfl (portWidths_h x 0 _ hp.mod l1) ?_; rintro _ w ⟨bw, cw, rfl, hq⟩; have hx := hq.x; have hp := hp.call1 hq; refine ops_run nopre rfl ?_; skip
  refine h_call rfl Tryz.func37 (by kernel_rfl) rfl (sumInts_h bw cw _ (pwL x.n 0) rfl _ hp.rd p0.1 p0.2) ?_; rintro _ w ⟨rfl, hx⟩; have hp := hp.ext hx; refine ops_run nopre rfl ?_; skip
  (first | refine H_box hp ?_ | refine H_alloc hp rfl ?_); intro w b4 hx hp; refine ops_run nopre rfl ?_; (repeat (first | (refine gLoad ?_; refine H_ldB hp rfl rfl ?_) | (refine gStore ?_; refine U_stBN hp rfl rfl rfl rfl ?_; intro w hp; refine ops_run nopre rfl ?_)))
  refine H_make hp (eRo (α := Int)) (default : RowA Int) rfl rfl rfl rfl (s := 1) rfl (by decide) rfl (by unfold maxLen; omega) (by show 24 * _ ≤ _; omega) ?_; intro w bs hx hp; refine ops_run nopre rfl ?_; skip
  (first | refine H_box hp ?_ | refine H_alloc hp rfl ?_); intro w b5 hx hp; refine ops_run nopre rfl ?_; (repeat (refine U_stB hp rfl rfl rfl rfl ?_; intro w hp; refine ops_run nopre rfl ?_))
  (first | refine H_box hp ?_ | refine H_alloc hp rfl ?_); intro w b6 hx hp; refine ops_run nopre rfl ?_; (repeat (first | (refine gLoad ?_; refine H_ldB hp rfl rfl ?_) | (refine gStore ?_; refine U_stB hp rfl rfl rfl rfl ?_; intro w hp; refine ops_run nopre rfl ?_)))
  have hp := rRows_nils (e := 3) (s := 1) (enc := eI) x.sg.length hp
  have eW : ∀ s : Nat, s < x.sg.length → (x.sg.getD s default).width = ((wN x.n (s : Nat) : Nat) : Int) ∧ wN x.n (s : Nat) ≤ 4 := fun s hs => by
   have h1 := wN_eq hm (s := (s : Nat)) (by unfold inL; exact ⟨by omega, by show (s : Int) < x.sg.length; omega⟩)
   have h2 := (wN_b hm hf (s := (s : Nat)) (by unfold inL; exact ⟨by omega, by show (s : Int) < x.sg.length; omega⟩)).2
   rw [widL_at] at h1
   exact ⟨h1.symm, h2⟩
  refine h_loop [1, 2, 4, 5, 7, 50, 51, 52] (fun (i : Nat) => [(1, .pointer (some ⟨b1, 0, none⟩)), (2, .pointer (some ⟨b2, 0, none⟩)), (4, .pointer (some ⟨b4, 0, none⟩)), (5, .pointer (some ⟨b5, 0, none⟩)), (7, .func (.func 38) ⟨[]⟩ ⟨[.pointer (some ⟨b1, 0, none⟩), .pointer (some ⟨b5, 0, none⟩), .pointer (some ⟨b6, 0, none⟩)]⟩), (50, .slice x.sa x.sg.length x.sc), (51, .int .i64 x.sg.length), (52, .int .i64 (i : Int))])
   (fun i w' => i ≤ x.sg.length ∧ ∃ R p, (R.length = x.sg.length ∧ (insOf R, p) = inN x.n i) ∧ Hp w0 w' [rO 31 1 eRo (some ⟨bs, 0, none⟩) x.sg.length R, rRows 3 1 eI R, rB b6 3 [.int .i64 ((p : Nat) : Int)], rB b5 50 [.slice (some ⟨bs, 0, none⟩) x.sg.length x.sg.length], rB b1 41 x.cs, rB b4 33 [.int .i64 (sumL (pwL x.n 0)), .slice none 0 0, .slice none 0 0, .slice none 0 0], rB b2 33 (cellsV Tryz.ti33.zero)]) (fun i => x.sg.length - i) 0 rfl ⟨by omega, List.replicate x.sg.length default, 1, ⟨by simp, by
    show (insOf _, 1) = (List.replicate x.sg.length [], 1)
    unfold insOf
    rw [List.map_replicate]; rfl⟩, (hp.f6.f5.f7.f5.f5.f5.f6).tk 7⟩ ?_
  clear hp
  rintro i w1 ⟨hi, R, p, ⟨hRl, hRi⟩, hp⟩ IH C
  refine h_run rfl ?_; skip
  refine h_cond_dec (fun hlt => ?_) (fun hlt => ?_)
  ·have hlt' : i < x.sg.length := by omega
   obtain ⟨e1, e2⟩ := eW i hlt'
   have hb := inN_b hm hi
   rw [← hRi] at hb
   have hrow := hb.row i hlt'
   rw [insOf_get] at hrow
   refine h_cond_t rfl rfl ?_; (repeat (refine H_ldEN hp rfl (by omega) rfl rfl ?_))
   (first | refine H_box hp ?_ | refine H_alloc hp rfl ?_); intro w b9 hx hp; refine ops_run nopre rfl ?_; (repeat (first | (refine gLoad ?_; refine H_ldB hp rfl rfl ?_) | (refine gStore ?_; refine U_stBN hp rfl rfl rfl rfl ?_; intro w hp; refine ops_run nopre rfl ?_)))
   refine h_cond_dec (fun hk => ?_) (fun hk => ?_)
   ·have eN : inN x.n (i + 1) = numS (inN x.n i) i (wN x.n (i : Nat)) := by rw [inN, if_pos (by rw [kindL_at]; exact hk)]
    refine h_cond_t rfl rfl ?_; skip
    refine h_call rfl Tryz.func38 (by kernel_rfl) rfl (number_h x w0 hM b1 b5 b6 bs p i _ rfl hlt' (wN x.n (i : Nat)) e1 e2 l1 R hRl hrow hb.pos _ _ (hp.f5.f5.f5.f5.f5)) ?_; rintro _ w ⟨R', rfl, ⟨hRl', hRi'⟩, hp⟩; refine ops_run nopre rfl ?_; skip
    exact IH (i + 1) _ _ _ (by omega) rfl ⟨by omega, R', p + wN x.n (i : Nat), ⟨by rw [hRl', hRl], by rw [eN, ← hRi]; exact Prod.ext hRi' rfl⟩, (hp.f4.f4.f4.f4.f4.f5).drop⟩
   ·have eN : inN x.n (i + 1) = inN x.n i := by rw [inN, if_neg (by rw [kindL_at]; exact hk)]
    refine h_cond_f rfl rfl ?_; skip
    exact IH (i + 1) _ _ _ (by omega) rfl ⟨by omega, R, p, ⟨hRl, by rw [eN]; exact hRi⟩, hp.drop⟩
  ·refine h_cond_f rfl rfl ?_; (repeat (refine H_ldB hp rfl rfl ?_))
   obtain rfl : i = x.sg.length := by omega
   clear IH
   have hRi : (insOf R, p) = rgN x.n 0 := hRi
   refine h_loop [1, 2, 4, 5, 7, 65, 66, 67] (fun (i : Nat) => [(1, .pointer (some ⟨b1, 0, none⟩)), (2, .pointer (some ⟨b2, 0, none⟩)), (4, .pointer (some ⟨b4, 0, none⟩)), (5, .pointer (some ⟨b5, 0, none⟩)), (7, .func (.func 38) ⟨[]⟩ ⟨[.pointer (some ⟨b1, 0, none⟩), .pointer (some ⟨b5, 0, none⟩), .pointer (some ⟨b6, 0, none⟩)]⟩), (65, .slice x.sa x.sg.length x.sc), (66, .int .i64 x.sg.length), (67, .int .i64 (i : Int))])
    (fun i w' => i ≤ x.sg.length ∧ ∃ R p sa sc, (R.length = x.sg.length ∧ (insOf R, p) = rgN x.n i) ∧ Hp w0 w' [rO 31 1 eRo (some ⟨bs, 0, none⟩) x.sg.length R, rRows 3 1 eI R, rB b6 3 [.int .i64 ((p : Nat) : Int)], rB b5 50 [.slice (some ⟨bs, 0, none⟩) x.sg.length x.sg.length], rB b1 41 x.cs, rO 68 3 eSq sa sc (qA (rgQ [] x.n i)), rB b4 33 [.int .i64 (sumL (pwL x.n 0)), .slice sa (qA (rgQ [] x.n i)).length sc, .slice none 0 0, .slice none 0 0], rB b2 33 (cellsV Tryz.ti33.zero)]) (fun i => x.sg.length - i) 0 rfl ⟨by omega, R, p, none, 0, ⟨hRl, hRi⟩, ?_⟩ ?_
   ·have hp := (hp.ownN (e := 68) (sz := 3) (enc := eSq) (c := 0) (X := []) (Ext.refl _) (Own.nil _ _ _ _ _)).f5.f5.f5.f5.f5
    exact hp
   clear hp
   clear hRl hRi
   rintro i w1 ⟨hi, R, p, sa, sc, ⟨hRl, hRi⟩, hp⟩ IH C
   have hQl : (qA (rgQ [] x.n i)).length = wsT x.n 3 i := by rw [qA_len, rgQ_len]
   have hQb := wsT_le hm 3 i hi
   refine h_run rfl ?_; skip
   refine h_cond_dec (fun hlt => ?_) (fun hlt => ?_)
   ·have hlt' : i < x.sg.length := by omega
    obtain ⟨e1, e2⟩ := eW i hlt'
    have hb := rgN_b hm hi
    rw [← hRi] at hb
    have hrow := hb.row i hlt'
    rw [insOf_get] at hrow
    refine h_cond_t rfl rfl ?_; (repeat (refine H_ldEN hp rfl (by omega) rfl rfl ?_))
    (first | refine H_box hp ?_ | refine H_alloc hp rfl ?_); intro w b11 hx hp; refine ops_run nopre rfl ?_; (repeat (first | (refine gLoad ?_; refine H_ldB hp rfl rfl ?_) | (refine gStore ?_; refine U_stBN hp rfl rfl rfl rfl ?_; intro w hp; refine ops_run nopre rfl ?_)))
    refine h_cond_dec (fun hk => ?_) (fun hk => ?_)
    ·have hk' : kindL x.n (i : Nat) = 3 := by rw [kindL_at]; exact hk
     have eN : rgN x.n (i + 1) = numS (rgN x.n i) i (wN x.n (i : Nat)) := by rw [rgN, if_pos hk']
     have eQ : rgQ [] x.n (i + 1) = rgQ [] x.n i ++ flopsL [] (initL x.n (i : Nat)) (wN x.n (i : Nat)) := by rw [rgQ, if_pos hk']
     have hv : initL x.n (i : Nat) = (x.sg.getD i default).init := by unfold initL; rw [Int.toNat_natCast]; rfl
     have hvb := (hm.sg i hlt').2.2
     refine h_cond_t rfl rfl ?_; skip
     refine h_call rfl Tryz.func38 (by kernel_rfl) rfl (number_h x w0 hM b1 b5 b6 bs p i _ rfl hlt' (wN x.n (i : Nat)) e1 e2 l1 R hRl hrow hb.pos _ _ (hp.f5.f5.f5.f5.f5)) ?_; rintro _ w ⟨R', rfl, ⟨hRl', hRi'⟩, hp⟩; refine ops_run nopre rfl ?_; skip
     obtain ⟨p', hp'⟩ : ∃ p', p' = p + wN x.n (i : Nat) := ⟨_, rfl⟩
     rw [← hp'] at hp
     refine h_loop [1, 2, 4, 5, 7, 11, 12, 65, 66, 67] (fun (k : Nat) => [(1, .pointer (some ⟨b1, 0, none⟩)), (2, .pointer (some ⟨b2, 0, none⟩)), (4, .pointer (some ⟨b4, 0, none⟩)), (5, .pointer (some ⟨b5, 0, none⟩)), (7, .func (.func 38) ⟨[]⟩ ⟨[.pointer (some ⟨b1, 0, none⟩), .pointer (some ⟨b5, 0, none⟩), .pointer (some ⟨b6, 0, none⟩)]⟩), (11, .pointer (some ⟨b11, 0, none⟩)), (12, .int .i64 (k : Int)), (65, .slice x.sa x.sg.length x.sc), (66, .int .i64 x.sg.length), (67, .int .i64 (i : Int))])
      (fun k w' => k ≤ wN x.n (i : Nat) ∧ ∃ sa sc, Hp w0 w' [rB b11 66 (eSg (x.sg.getD i default)), rO 31 1 eRo (some ⟨bs, 0, none⟩) x.sg.length R', rRows 3 1 eI R', rB b6 3 [.int .i64 ((p' : Nat) : Int)], rB b5 50 [.slice (some ⟨bs, 0, none⟩) x.sg.length x.sg.length], rB b1 41 x.cs, rO 68 3 eSq sa sc (qA (rgQ [] x.n i ++ flopsL [] (initL x.n (i : Nat)) k)), rB b4 33 [.int .i64 (sumL (pwL x.n 0)), .slice sa (qA (rgQ [] x.n i ++ flopsL [] (initL x.n (i : Nat)) k)).length sc, .slice none 0 0, .slice none 0 0], rB b2 33 (cellsV Tryz.ti33.zero)]) (fun k => wN x.n (i : Nat) - k) 0 rfl ⟨by omega, sa, sc, ?_⟩ ?_
     ·have e0 : rgQ [] x.n i ++ flopsL [] (initL x.n (i : Nat)) 0 = rgQ [] x.n i := by simp [flopsL]
      rw [e0]
      exact hp.f4.f4.f4.f4.f4.f5
     clear hp
     rintro k w1 ⟨hk4, sa, sc, hp⟩ IH2 C
     have hQl2 : (qA (rgQ [] x.n i ++ flopsL [] (initL x.n (i : Nat)) k)).length = wsT x.n 3 i + k := by rw [qA_len, List.length_append, rgQ_len, flopsL_len]
     refine h_run rfl ?_; (repeat (refine H_ldB hp rfl rfl ?_))
     refine h_cond_dec (fun hlt2 => ?_) (fun hlt2 => ?_)
     ·have hlt2' : k < wN x.n (i : Nat) := by omega
      have hbk : ((k : Nat) : Int) ≤ ((IntKind.i64.bits : Nat) : Int) := by show ((k : Nat) : Int) ≤ 64; omega
      refine h_cond_t rfl rfl ?_; (repeat (refine H_ldB hp rfl rfl ?_))
      refine H_lit hp eSq [⟨0, bits .and .i64 ((x.sg.getD i default).init / 2 ^ ((k : Nat) : Int).toNat) 1, [], none, 0⟩] rfl rfl rfl rfl (s := 3) rfl (by decide) (by infer_instance) (by rfl) (by rfl) (by rfl) (by decide) ?_; intro w bl hx hp; refine ops_run nopre rfl ?_; skip
      refine U_append hp rfl rfl rfl rfl rfl rfl rfl (by decide) rfl (by first | omega | (simp only [List.length_append, List.length_cons, List.length_nil, List.length_take, List.length_drop, List.length_set, List.length_replicate, List.length_map]; omega)) rfl rfl ?_; intro sa' sc' w hp hnil; refine ops_run nopre rfl ?_; (repeat (refine U_stB hp rfl rfl rfl rfl ?_; intro w hp; refine ops_run nopre rfl ?_))
      have eA : qA (rgQ [] x.n i ++ flopsL [] (initL x.n (i : Nat)) k) ++ [⟨0, bits .and .i64 ((x.sg.getD i default).init / 2 ^ ((k : Nat) : Int).toNat) 1, [], none, 0⟩] = qA (rgQ [] x.n i ++ flopsL [] (initL x.n (i : Nat)) (k + 1)) := by
       rw [flopsL_succ, ← List.append_assoc, qA_app _ [_], hv, bits_and_one, Int.toNat_natCast]; rfl
      rw [eA] at hp
      exact IH2 (k + 1) _ _ _ (by omega) rfl ⟨by omega, sa', sc', hp.drop⟩
     ·refine h_cond_f rfl rfl ?_; skip
      obtain rfl : k = wN x.n (i : Nat) := by omega
      rw [← eQ] at hp
      exact IH (i + 1) _ _ _ (by omega) rfl ⟨by omega, R', p', sa, sc, ⟨by rw [hRl', hRl], by rw [eN, ← hRi, hp']; exact Prod.ext hRi' rfl⟩, hp.drop⟩
    ·have hk' : kindL x.n (i : Nat) ≠ 3 := by rw [kindL_at]; exact hk
     have eN : rgN x.n (i + 1) = rgN x.n i := by rw [rgN, if_neg hk']
     have eQ : rgQ [] x.n (i + 1) = rgQ [] x.n i := by rw [rgQ, if_neg hk']
     refine h_cond_f rfl rfl ?_; skip
     exact IH (i + 1) _ _ _ (by omega) rfl ⟨by omega, R, p, sa, sc, ⟨hRl, by rw [eN]; exact hRi⟩, by rw [eQ]; exact hp.drop⟩
   ·refine h_cond_f rfl rfl ?_; (repeat (refine H_ldB hp rfl rfl ?_))
    obtain rfl : i = x.sg.length := by omega
    clear IH
    have hRi : (insOf R, p) = mmN x.n 0 := hRi
    refine h_loop [1, 2, 4, 5, 7, 98, 99, 100] (fun (j : Nat) => [(1, .pointer (some ⟨b1, 0, none⟩)), (2, .pointer (some ⟨b2, 0, none⟩)), (4, .pointer (some ⟨b4, 0, none⟩)), (5, .pointer (some ⟨b5, 0, none⟩)), (7, .func (.func 38) ⟨[]⟩ ⟨[.pointer (some ⟨b1, 0, none⟩), .pointer (some ⟨b5, 0, none⟩), .pointer (some ⟨b6, 0, none⟩)]⟩), (98, .slice x.ma x.ms.length x.mc), (99, .int .i64 x.ms.length), (100, .int .i64 (j : Int))])
     (fun j w' => j ≤ x.ms.length ∧ ∃ R p sa sc, (R.length = x.sg.length ∧ (insOf R, p) = mmN x.n j) ∧ Hp w0 w' [rO 31 1 eRo (some ⟨bs, 0, none⟩) x.sg.length R, rRows 3 1 eI R, rB b6 3 [.int .i64 ((p : Nat) : Int)], rB b5 50 [.slice (some ⟨bs, 0, none⟩) x.sg.length x.sg.length], rB b1 41 x.cs, rO 68 3 eSq sa sc (qA (mmQ [] [] x.n j)), rB b4 33 [.int .i64 (sumL (pwL x.n 0)), .slice sa (qA (mmQ [] [] x.n j)).length sc, .slice none 0 0, .slice none 0 0], rB b2 33 (cellsV Tryz.ti33.zero)]) (fun j => x.ms.length - j) 0 rfl ⟨by omega, R, p, sa, sc, ⟨hRl, hRi⟩, hp⟩ ?_
    clear hp hRl hRi
    rintro j w1 ⟨hj, R, p, sa, sc, ⟨hRl, hRi⟩, hp⟩ IH C
    have hQl : (qA (mmQ [] [] x.n j)).length = wsT x.n 3 x.sg.length + mwT x.n j := by rw [qA_len, mmQ_len]; rfl
    have hQb := wsT_le hm 3 x.sg.length (Nat.le_refl _)
    have hQb2 := mwT_le hm j hj
    refine h_run rfl ?_; skip
    refine h_cond_dec (fun hlt => ?_) (fun hlt => ?_)
    ·have hlt' : j < x.ms.length := by omega
     have i4 := (hm.ms j hlt').2.2.2.1
     change inL x.n (x.ms.getD j default).out at i4
     unfold inL at i4
     change 0 ≤ (x.ms.getD j default).out ∧ (x.ms.getD j default).out < x.sg.length at i4
     obtain ⟨o, ho⟩ := Int.eq_ofNat_of_zero_le i4.1
     have hol : o < x.sg.length := by omega
     obtain ⟨e1, e2⟩ := eW o hol
     have hb := mmN_b hm hj
     rw [← hRi] at hb
     have hrow := hb.row o hol
     rw [insOf_get] at hrow
     have eo : (x.ms.getD j default).out.toNat = o := by omega
     have eN : mmN x.n (j + 1) = numS (mmN x.n j) o (wN x.n (o : Nat)) := by
      rw [mmN]
      show numS (mmN x.n j) (x.ms.getD j default).out.toNat (wN x.n (x.ms.getD j default).out) = _
      rw [eo, ho]
     have eQ : mmQ [] [] x.n (j + 1) = mmQ [] [] x.n j ++ ramsL [] (wN x.n (o : Nat)) := by
      rw [mmQ]
      show mmQ [] [] x.n j ++ ramsL [] (wN x.n (x.ms.getD j default).out) = _
      rw [ho]
     refine h_cond_t rfl rfl ?_; (repeat (refine H_ldEN hp rfl (by omega) rfl rfl ?_))
     (first | refine H_box hp ?_ | refine H_alloc hp rfl ?_); intro w b14 hx hp; refine ops_run nopre rfl ?_; (repeat (first | (refine gLoad ?_; refine H_ldB hp rfl rfl ?_) | (refine gStore ?_; refine U_stBN hp rfl rfl rfl rfl ?_; intro w hp; refine ops_run nopre rfl ?_)))
     refine h_call rfl Tryz.func38 (by kernel_rfl) rfl (number_h x w0 hM b1 b5 b6 bs p o (x.ms.getD j default).out ho hol (wN x.n (o : Nat)) e1 e2 l1 R hRl hrow hb.pos _ _ (hp.f5.f5.f5.f5.f5)) ?_; rintro _ w ⟨R', rfl, ⟨hRl', hRi'⟩, hp⟩; refine ops_run nopre rfl ?_; skip
     obtain ⟨p', hp'⟩ : ∃ p', p' = p + wN x.n (o : Nat) := ⟨_, rfl⟩
     rw [← hp'] at hp
     refine h_loop [1, 2, 4, 5, 7, 14, 15, 98, 99, 100] (fun (k : Nat) => [(1, .pointer (some ⟨b1, 0, none⟩)), (2, .pointer (some ⟨b2, 0, none⟩)), (4, .pointer (some ⟨b4, 0, none⟩)), (5, .pointer (some ⟨b5, 0, none⟩)), (7, .func (.func 38) ⟨[]⟩ ⟨[.pointer (some ⟨b1, 0, none⟩), .pointer (some ⟨b5, 0, none⟩), .pointer (some ⟨b6, 0, none⟩)]⟩), (14, .pointer (some ⟨b14, 0, none⟩)), (15, .int .i64 (k : Int)), (98, .slice x.ma x.ms.length x.mc), (99, .int .i64 x.ms.length), (100, .int .i64 (j : Int))])
      (fun k w' => k ≤ wN x.n (o : Nat) ∧ ∃ sa sc, Hp w0 w' [rB b14 70 (eMm (x.ms.getD j default)), rO 31 1 eRo (some ⟨bs, 0, none⟩) x.sg.length R', rRows 3 1 eI R', rB b6 3 [.int .i64 ((p' : Nat) : Int)], rB b5 50 [.slice (some ⟨bs, 0, none⟩) x.sg.length x.sg.length], rB b1 41 x.cs, rO 68 3 eSq sa sc (qA (mmQ [] [] x.n j ++ ramsL [] k)), rB b4 33 [.int .i64 (sumL (pwL x.n 0)), .slice sa (qA (mmQ [] [] x.n j ++ ramsL [] k)).length sc, .slice none 0 0, .slice none 0 0], rB b2 33 (cellsV Tryz.ti33.zero)]) (fun k => wN x.n (o : Nat) - k) 0 rfl ⟨by omega, sa, sc, ?_⟩ ?_
     ·have e0 : mmQ [] [] x.n j ++ ramsL [] 0 = mmQ [] [] x.n j := by simp [ramsL]
      rw [e0]
      exact hp.f4.f4.f4.f4.f4.f5
     clear hp
     rintro k w1 ⟨hk4, sa, sc, hp⟩ IH2 C
     have hQl2 : (qA (mmQ [] [] x.n j ++ ramsL [] k)).length = wsT x.n 3 x.sg.length + mwT x.n j + k := by rw [qA_app, List.length_append, hQl, qA_len]; simp [ramsL]
     refine h_run rfl ?_; (repeat (refine gLoad ?_; first | refine H_ldB hp rfl rfl ?_ | refine H_ldF hp rfl (by omega) (by omega) rfl rfl ?_))
     rw [eo]
     refine h_cond_dec (fun hlt2 => ?_) (fun hlt2 => ?_)
     ·have hlt2' : k < wN x.n (o : Nat) := by omega
      refine h_cond_t rfl rfl ?_; (repeat (refine H_ldB hp rfl rfl ?_))
      refine H_lit hp eSq [⟨1, 0, [], none, 0⟩] rfl rfl rfl rfl (s := 3) rfl (by decide) (by infer_instance) (by rfl) (by rfl) (by rfl) (by decide) ?_; intro w bl hx hp; refine ops_run nopre rfl ?_; skip
      refine U_append hp rfl rfl rfl rfl rfl rfl rfl (by decide) rfl (by first | omega | (simp only [List.length_append, List.length_cons, List.length_nil, List.length_take, List.length_drop, List.length_set, List.length_replicate, List.length_map]; omega)) rfl rfl ?_; intro sa' sc' w hp hnil; refine ops_run nopre rfl ?_; (repeat (refine U_stB hp rfl rfl rfl rfl ?_; intro w hp; refine ops_run nopre rfl ?_))
      have eA : qA (mmQ [] [] x.n j ++ ramsL [] k) ++ [⟨1, 0, [], none, 0⟩] = qA (mmQ [] [] x.n j ++ ramsL [] (k + 1)) := by
       unfold ramsL
       rw [List.replicate_succ', ← List.append_assoc, qA_app _ [_]]; rfl
      rw [eA] at hp
      exact IH2 (k + 1) _ _ _ (by omega) rfl ⟨by omega, sa', sc', hp.drop⟩
     ·refine h_cond_f rfl rfl ?_; skip
      obtain rfl : k = wN x.n (o : Nat) := by omega
      rw [← eQ] at hp
      exact IH (j + 1) _ _ _ (by omega) rfl ⟨by omega, R', p', sa, sc, ⟨by rw [hRl', hRl], by rw [eN, ← hRi, hp']; exact Prod.ext hRi' rfl⟩, hp.drop⟩
    ·refine h_cond_f rfl rfl ?_; (repeat (refine H_ldB hp rfl rfl ?_))
     obtain rfl : j = x.ms.length := by omega
     clear IH
     (first | refine H_box hp ?_ | refine H_alloc hp rfl ?_); intro w bx hx hp; refine ops_run nopre rfl ?_; (repeat (refine H_ldB hp rfl rfl ?_))
     refine h_call rfl Tryz.func39 (by kernel_rfl) rfl (implEvalOrder_h x _ hp.mod hS hW) ?_; rintro _ w ⟨be, ce, rfl, hq⟩; have hx := hq.x; have hp := hp.call1 hq; refine ops_run nopre rfl ?_; skip
     rw [evR_some he] at hp ⊢
     have hev := evtO_in he
     have hin := hev.2.1
     have hll : l.length ≤ 30 := by have h := hev.2.2; rw [x.alen] at h; omega
     have hnl := natsI_len l
     obtain ⟨hO1, hO2⟩ := elO_ok hf he
     have hst := SqP.start hO1
     obtain ⟨m, hmm⟩ : ∃ m, m = wsT x.n 3 x.sg.length + mwT x.n x.ms.length := ⟨_, rfl⟩
     have hm0 : (net0 x.n).seqs.length = m := by rw [hmm]; exact mmQ_len _ _ _ _
     have hm12 : m ≤ 200 := by omega
     have hQm : (qA (mmQ [] [] x.n x.ms.length)).length = m := by rw [hmm]; exact hQl
     have hQs : seqsOf (qA (mmQ [] [] x.n x.ms.length)) = (net0 x.n).seqs.map bareS := by rw [qA_seqs, mmQ_bare]; exact (mmQ_bare _ _ _ _).symm
     obtain ⟨Qm, hQme⟩ : ∃ Qm, Qm = qA (mmQ [] [] x.n x.ms.length) := ⟨_, rfl⟩
     have hp := (rIns_nils (mmQ [] [] x.n x.ms.length) hp)
     rw [← hQme] at hp hQm hQs
     rw [hQm] at hp
     have hRi0 : insOf R = (ordT x.n l 0).2 := congrArg Prod.fst hRi
     have eB : ∀ (N : NetL) (aa : Option Addr) (ac : Nat) (A : List (Int × Int)), N.inputs = sumL (pwL x.n 0) → N.seqs.length = m → N.outs = [] → ([.int .i64 (sumL (pwL x.n 0)), .slice sa m sc, .slice aa A.length ac, .slice none 0 0] : List Value) = ((gN N sa sc).wA aa ac A).cs := fun N aa ac A h1 h2 h3 => by
      show _ = ([.int .i64 N.inputs, .slice sa (gA N.seqs).length sc, .slice aa A.length ac, .slice none N.outs.length 0] : List Value)
      rw [h1, gA_len, h2, h3]; rfl
     refine h_loop [1, 2, 4, 5, 16, 134, 135, 136] (fun (i : Nat) => [(1, .pointer (some ⟨b1, 0, none⟩)), (2, .pointer (some ⟨b2, 0, none⟩)), (4, .pointer (some ⟨b4, 0, none⟩)), (5, .pointer (some ⟨b5, 0, none⟩)), (16, .pointer (some ⟨bx, 0, none⟩)), (134, .slice be l.length ce), (135, .int .i64 l.length), (136, .int .i64 (i : Int))])
      (fun i w' => i ≤ l.length ∧ ∃ R aa ac wv, (R.length = x.sg.length ∧ insOf R = (ordT x.n l i).2) ∧ Hp w0 w' [rB bx 88 [.pointer (some ⟨b4, 0, none⟩), .slice (some ⟨bs, 0, none⟩) x.sg.length x.sg.length, .int .i64 (wv), .bool (ordT x.n l i).1.2], rB b4 33 [.int .i64 (sumL (pwL x.n 0)), .slice sa m sc, .slice aa (ordT x.n l i).1.1.ands.length ac, .slice none 0 0], rO 120 2 eII aa ac (ordT x.n l i).1.1.ands, rO 31 1 eRo (some ⟨bs, 0, none⟩) x.sg.length R, rRows 3 1 eI R, rO 68 3 eSq sa sc Qm, rIns Qm, rO 3 1 eI be ce (natsI l), rB b5 50 [.slice (some ⟨bs, 0, none⟩) x.sg.length x.sg.length], rB b1 41 x.cs, rB b2 33 (cellsV Tryz.ti33.zero)]) (fun i => l.length - i) 0 rfl ⟨by omega, R, none, 0, 0, ⟨hRl, hRi0⟩, ?_⟩ ?_
     ·have hp := hp.ownN (e := 120) (sz := 2) (enc := eII) (c := 0) (X := []) (Ext.refl _) (Own.nil _ _ _ _ _)
      exact (hp.f11.f9.f9.f5.f5.f10.f9.f9.f8.f11.f10).tk 11
     clear hp hRl hRi hRi0
     rintro i w1 ⟨hi, R, aa, ac, wv, ⟨hRl, hRi⟩, hp⟩ IH C
     have hP := ordT_ok hm hf (fun i hi => (hin i hi).1) i hi
     refine h_run rfl ?_; skip
     refine h_cond_dec (fun hlt => ?_) (fun hlt => ?_)
     ·have hlt' : i < l.length := by omega
      obtain ⟨q, hq⟩ : ∃ q, q = l.getD i 0 := ⟨_, rfl⟩
      have hqi : (natsI l).getD i default = ((q : Nat) : Int) := by rw [hq]; exact natsI_get l i
      have hql : q < x.asg.length := by
       have h := (hin q (by rw [hq, List.getD_eq_getElem?_getD, List.getElem?_eq_getElem hlt']; exact List.getElem_mem _)).1
       rw [x.alen] at h; exact h
      obtain ⟨hop1, hop2, hop3, hop4⟩ := opsOk_at hm hf (i := q) (by rw [x.alen]; exact hql)
      have etg : tgL x.n q = (x.asg.getD q default).tg := x.atg q
      have eop : opsL x.n q = (x.asg.getD q default).ops := x.aops q
      have hin3 := hop3
      rw [etg] at hin3
      unfold inL at hin3
      change 0 ≤ (x.asg.getD q default).tg ∧ (x.asg.getD q default).tg < x.sg.length at hin3
      obtain ⟨t, ht⟩ := Int.eq_ofNat_of_zero_le hin3.1
      have htn : (x.asg.getD q default).tg.toNat = t := by omega
      obtain ⟨e1, e2⟩ := eW t (by omega)
      have hw1 := wN_b hm hf hop3
      have hwe : wN x.n (tgL x.n q) = wN x.n (t : Nat) := by rw [etg, ht]
      have la : LtA q x.asg := ⟨hql⟩
      refine h_cond_t rfl rfl ?_; (repeat (refine gLoad ?_; first | refine H_ldB hp rfl rfl ?_ | refine H_ldEN hp rfl (by omega) rfl rfl ?_ | refine H_ldE hp rfl (by omega) (by omega) rfl rfl ?_))
      rw [hqi, Int.toNat_natCast]
      skip
      (first | refine H_box hp ?_ | refine H_alloc hp rfl ?_); intro w b21 hx hp; refine ops_run nopre rfl ?_; (repeat (first | (refine gLoad ?_; first | refine H_ldB hp rfl rfl ?_ | refine H_ldF hp rfl (by omega) (by omega) rfl rfl ?_) | (refine gStore ?_; (first | refine U_stB hp rfl rfl rfl rfl ?_ | refine U_stBN hp rfl rfl rfl rfl ?_); intro w hp; refine ops_run nopre rfl ?_)))
      rw [htn, e1] at hp
      have hpL : Hp w0 _ [_, _] := (hp.f9.f1).tk 2
      refine D_draw (hpL) (by kernel_rfl) (by kernel_rfl) rfl rfl ?_; intro w hx hs; have hp := hp.ext hx; (repeat (refine D_ldB rfl rfl rfl ?_))
      refine gCall ?_
      have hok1 := treeOf_ok hop1 hop2
      have hexp := expr_n w0 R x.sg.length hRl (some ⟨bs, 0, none⟩) x.sg.length bx b4 (wN x.n (t : Nat)) (by rw [← hwe]; exact hw1) (gN (net0 x.n) sa sc) (x.asg.getD q default).ops (x.asg.getD q default).oa (x.asg.getD q default).oc (by rw [← eop]; exact hop1.len) (by omega) (fun u hu => by
       have h := (hP.sig.row _ (by rw [← hRi]; exact getD_mem (X := insOf R) (i := u) (by rw [insOf_len]; exact hu))).1
       rw [insOf_get] at h; omega) (treeA x.n q) (by rw [← eop]; exact hok1.1) hok1.2 (ordT x.n l i).1 (by rw [gN_n]; exact hP.eq) hP.net (fun r hr => by rw [hRi] at hr; exact (hP.sig.row r hr).2) aa ac _ _ ((hp.f3.f3.f3).f1.cgB (eB (net0 x.n) aa ac _ rfl hm0 rfl)).f1
      rw [hRi, ← hwe] at hexp
      refine h_callq rfl Tryz.func40 (by kernel_rfl) rfl (hexp) ?_; rintro _ w ⟨b, c, aa', ac', qq, rfl, hp⟩; have hs := (hp.f10.f5.tk 2); refine ⟨fun _ => hs, ?_⟩; refine D_ops rfl rfl ?_; skip
      obtain ⟨ev, hev2⟩ : ∃ ev, ev = evA adP (ordT x.n l i).2 (wN x.n (tgL x.n q)) (treeA x.n q) (ordT x.n l i).1 := ⟨_, rfl⟩
      rw [← hev2] at hp ⊢
      first | refine V_st0N hp (y := (⟨ev.2, b, c⟩ : RowA Int)) rfl rfl rfl (by omega) (by decide) (rfl) rfl (by kernel_rfl) ?_ | refine V_st0 hp (y := (⟨ev.2, b, c⟩ : RowA Int)) rfl rfl rfl (by omega) (by decide) (rfl) rfl (by kernel_rfl) ?_
      intro w hp; refine D_ops rfl rfl ?_; skip
      rw [htn] at hp
      obtain ⟨Qr, hq1, hback⟩ := rRows_at (hp.f6) (i := t) (by omega)
      have hp := hback _ _ (⟨ev.2, b, c⟩ : RowA Int) (hq1.drop.f1)
      have eT : ordT x.n l (i + 1) = (ev.1, (ordT x.n l i).2.set t ev.2) := by
       rw [ordT, ← hq]
       unfold evS
       rw [← hev2, etg, htn]
      have hlk : ev.1.1.inputs = sumL (pwL x.n 0) ∧ ev.1.1.seqs.length = m ∧ ev.1.1.outs = [] := by
       have h := (hP.step hm hf (i := q) (by rw [x.alen]; exact hql)).eq
       have h2 : evS x.n (ordT x.n l i) q = ordT x.n l (i + 1) := by rw [ordT, ← hq]
       rw [h2, eT] at h
       have h : ev.1.1 = { net0 x.n with ands := ev.1.1.ands } := h
       rw [h]
       exact ⟨rfl, hm0, rfl⟩
      have hp := (((hp.f4).drop).f4.f4.f4.f4).f1.cgB (eB (net0 x.n) aa' ac' ev.1.1.ands rfl hm0 rfl).symm
      refine IH (i + 1) _ _ _ (by omega) rfl ⟨by omega, R.set t ⟨ev.2, b, c⟩, aa', ac', ((wN x.n (tgL x.n q) : Nat) : Int), ⟨by rw [List.length_set]; exact hRl, by rw [eT, insOf_set, hRi]⟩, ?_⟩
      rw [eT]
      exact hp.f1
     ·refine h_cond_f rfl rfl ?_; (repeat (refine H_ldB hp rfl rfl ?_))
      obtain rfl : i = l.length := by omega
      clear IH hP
      have hRi : insOf R = (elO x.n l).2 := hRi
      have hRg : ∀ u, u < R.length → (R.getD u default).ins.length ≤ 1000 := fun u hu => by
       have h := (hst.sig.row _ (by rw [← hRi]; exact getD_mem (X := insOf R) (i := u) (by rw [insOf_len]; exact hu))).1
       rw [insOf_get] at h; omega
      have hQ0 : seqsOf Qm = rlQ (elO x.n l).1.1.seqs 0 := by
       rw [rlQ_zero, hQs, hO1.eq]
      refine h_loop [1, 2, 4, 5, 16, 22, 168, 169, 170] (fun (s : Nat) => [(1, .pointer (some ⟨b1, 0, none⟩)), (2, .pointer (some ⟨b2, 0, none⟩)), (4, .pointer (some ⟨b4, 0, none⟩)), (5, .pointer (some ⟨b5, 0, none⟩)), (16, .pointer (some ⟨bx, 0, none⟩)), (22, .int .i64 (((rgT x.n (elO x.n l).2 (elO x.n l).1 s).2 : Nat) : Int)), (168, .slice x.sa x.sg.length x.sc), (169, .int .i64 x.sg.length), (170, .int .i64 (s : Int))])
       (fun s w' => s ≤ x.sg.length ∧ ∃ Q aa ac wv, (Q.length = m ∧ seqsOf Q = rlQ (rgT x.n (elO x.n l).2 (elO x.n l).1 s).1.1.seqs (rgT x.n (elO x.n l).2 (elO x.n l).1 s).2) ∧ Hp w0 w' [rB bx 88 [.pointer (some ⟨b4, 0, none⟩), .slice (some ⟨bs, 0, none⟩) x.sg.length x.sg.length, .int .i64 (wv), .bool (rgT x.n (elO x.n l).2 (elO x.n l).1 s).1.2], rB b4 33 [.int .i64 (sumL (pwL x.n 0)), .slice sa m sc, .slice aa (rgT x.n (elO x.n l).2 (elO x.n l).1 s).1.1.ands.length ac, .slice none 0 0], rO 120 2 eII aa ac (rgT x.n (elO x.n l).2 (elO x.n l).1 s).1.1.ands, rO 68 3 eSq sa sc Q, rIns Q, rO 31 1 eRo (some ⟨bs, 0, none⟩) x.sg.length R, rRows 3 1 eI R, rB b5 50 [.slice (some ⟨bs, 0, none⟩) x.sg.length x.sg.length], rB b1 41 x.cs, rB b2 33 (cellsV Tryz.ti33.zero)]) (fun s => x.sg.length - s) 0 rfl ⟨by omega, Qm, aa, ac, wv, ⟨hQm, hQ0⟩, (hp.f10.f10.f10.f7.f7.f9.f9.f9.f9.f9).tk 10⟩ ?_
      clear hp
      rintro s w1 ⟨hs, Q, aa, ac, wv, ⟨hQl3, hQs3⟩, hp⟩ IH C
      obtain ⟨hS1, hS2, hS3⟩ := rgT_ok hm hst s hs
      have hS4 := wsT_le hm 3 s hs
      refine h_run rfl ?_; skip
      refine h_cond_dec (fun hlt => ?_) (fun hlt => ?_)
      ·have hlt' : s < x.sg.length := by omega
       obtain ⟨e1, e2⟩ := eW s hlt'
       refine h_cond_t rfl rfl ?_; (repeat (refine H_ldEN hp rfl (by omega) rfl rfl ?_))
       (first | refine H_box hp ?_ | refine H_alloc hp rfl ?_); intro w b24 hx hp; refine ops_run nopre rfl ?_; (repeat (first | (refine gLoad ?_; refine H_ldB hp rfl rfl ?_) | (refine gStore ?_; refine U_stBN hp rfl rfl rfl rfl ?_; intro w hp; refine ops_run nopre rfl ?_)))
       refine h_cond_dec (fun hk => ?_) (fun hk => ?_)
       ·have eT : (rgT x.n (elO x.n l).2 (elO x.n l).1 (s + 1)) = (rgT x.n (elO x.n l).2 (elO x.n l).1 s) := by rw [rgT, if_neg (by rw [kindL_at]; exact hk)]
        refine h_cond_t rfl rfl ?_; skip
        exact IH (s + 1) _ _ _ (by omega) (by rw [eT]; rfl) ⟨by omega, Q, aa, ac, wv, ⟨hQl3, by rw [eT]; exact hQs3⟩, by rw [eT]; exact hp.drop⟩
       ·have hk' : kindL x.n (s : Nat) = 3 := by rw [kindL_at]; exact Decidable.not_not.1 hk
        have eT : (rgT x.n (elO x.n l).2 (elO x.n l).1 (s + 1)) = (rgI x.n (elO x.n l).2 ((s : Nat) : Int) (rgT x.n (elO x.n l).2 (elO x.n l).1 s) x.asg.length) := by rw [rgT, if_pos hk', x.alen]
        refine h_cond_f rfl rfl ?_; (repeat (refine H_ldB hp rfl rfl ?_))
        refine h_loop [1, 2, 4, 5, 16, 22, 23, 24, 168, 169, 170, 179, 180, 181] (fun (i : Nat) => [(1, .pointer (some ⟨b1, 0, none⟩)), (2, .pointer (some ⟨b2, 0, none⟩)), (4, .pointer (some ⟨b4, 0, none⟩)), (5, .pointer (some ⟨b5, 0, none⟩)), (16, .pointer (some ⟨bx, 0, none⟩)), (22, .int .i64 (((rgI x.n (elO x.n l).2 ((s : Nat) : Int) (rgT x.n (elO x.n l).2 (elO x.n l).1 s) i).2 : Nat) : Int)), (23, .int .i64 (s : Int)), (24, .pointer (some ⟨b24, 0, none⟩)), (168, .slice x.sa x.sg.length x.sc), (169, .int .i64 x.sg.length), (170, .int .i64 (s : Int)), (179, .slice x.aa x.asg.length x.ac), (180, .int .i64 x.asg.length), (181, .int .i64 (i : Int))])
         (fun i w' => i ≤ x.asg.length ∧ ∃ Q aa ac wv, (Q.length = m ∧ seqsOf Q = rlQ (rgI x.n (elO x.n l).2 ((s : Nat) : Int) (rgT x.n (elO x.n l).2 (elO x.n l).1 s) i).1.1.seqs (rgI x.n (elO x.n l).2 ((s : Nat) : Int) (rgT x.n (elO x.n l).2 (elO x.n l).1 s) i).2) ∧ Hp w0 w' [rB b24 66 (eSg (x.sg.getD s default)), rB bx 88 [.pointer (some ⟨b4, 0, none⟩), .slice (some ⟨bs, 0, none⟩) x.sg.length x.sg.length, .int .i64 (wv), .bool (rgI x.n (elO x.n l).2 ((s : Nat) : Int) (rgT x.n (elO x.n l).2 (elO x.n l).1 s) i).1.2], rB b4 33 [.int .i64 (sumL (pwL x.n 0)), .slice sa m sc, .slice aa (rgI x.n (elO x.n l).2 ((s : Nat) : Int) (rgT x.n (elO x.n l).2 (elO x.n l).1 s) i).1.1.ands.length ac, .slice none 0 0], rO 120 2 eII aa ac (rgI x.n (elO x.n l).2 ((s : Nat) : Int) (rgT x.n (elO x.n l).2 (elO x.n l).1 s) i).1.1.ands, rO 68 3 eSq sa sc Q, rIns Q, rO 31 1 eRo (some ⟨bs, 0, none⟩) x.sg.length R, rRows 3 1 eI R, rB b5 50 [.slice (some ⟨bs, 0, none⟩) x.sg.length x.sg.length], rB b1 41 x.cs, rB b2 33 (cellsV Tryz.ti33.zero)]) (fun i => x.asg.length - i) 0 rfl ⟨by omega, Q, aa, ac, wv, ⟨hQl3, hQs3⟩, hp⟩ ?_
        clear hp hQl3 hQs3
        rintro i w1 ⟨hi, Q, aa, ac, wv, ⟨hQl3, hQs3⟩, hp⟩ IH2 C
        obtain ⟨hI1, hI2, hI3⟩ := rgI_ok hm hlt' hk' hS1 hS2 i (by rw [x.alen]; exact hi)
        refine h_run rfl ?_; skip
        refine h_cond_dec (fun hlt2 => ?_) (fun hlt2 => ?_)
        ·have hlt2' : i < x.asg.length := by omega
         obtain ⟨hop1, hop2, hop3, hop4⟩ := opsOk_at hm hf (i := i) (by rw [x.alen]; exact hlt2')
         have eop : opsL x.n i = (x.asg.getD i default).ops := x.aops i
         have la : LtA i x.asg := ⟨hlt2'⟩
         refine h_cond_t rfl rfl ?_; (repeat (refine H_ldEN hp rfl (by omega) rfl rfl ?_))
         (first | refine H_box hp ?_ | refine H_alloc hp rfl ?_); intro w b26 hx hp; refine ops_run nopre rfl ?_; (repeat (first | (refine gLoad ?_; refine H_ldB hp rfl rfl ?_) | (refine gStore ?_; refine U_stBN hp rfl rfl rfl rfl ?_; intro w hp; refine ops_run nopre rfl ?_)))
         refine h_cond_dec (fun ht => ?_) (fun ht => ?_)
         ·have htt : tgL x.n i = (s : Nat) := (x.atg i).trans ht
          have hat := rgI_at hm hlt' hk' hS1 hS2 (i := i) (by rw [x.alen]; exact hlt2') htt
          have hw1 := wN_b hm hf hop3
          rw [htt] at hw1
          have hok1 := treeOf_ok hop1 hop2
          obtain ⟨v1, v2, v3, v4⟩ := hI1.ev (wN x.n (s : Nat)) (treeA x.n i)
          obtain ⟨ev, hev2⟩ : ∃ ev, ev = evA adP (elO x.n l).2 (wN x.n (s : Nat)) (treeA x.n i) (rgI x.n (elO x.n l).2 ((s : Nat) : Int) (rgT x.n (elO x.n l).2 (elO x.n l).1 s) i).1 := ⟨_, rfl⟩
          have hevl : ev.2.length = wN x.n (s : Nat) := by rw [hev2]; exact evA_len _ _ _ _ _
          rw [← hev2] at v1 v2 v3 v4
          have eJ : (rgI x.n (elO x.n l).2 ((s : Nat) : Int) (rgT x.n (elO x.n l).2 (elO x.n l).1 s) (i + 1)) = ((bitQ ev.1.1 (rgI x.n (elO x.n l).2 ((s : Nat) : Int) (rgT x.n (elO x.n l).2 (elO x.n l).1 s) i).2 ev.2 (wN x.n (s : Nat)), ev.1.2), (rgI x.n (elO x.n l).2 ((s : Nat) : Int) (rgT x.n (elO x.n l).2 (elO x.n l).1 s) i).2 + wN x.n (s : Nat)) := by
           rw [rgI]
           unfold rgS
           rw [if_pos htt, ← hev2]
          obtain ⟨q0, hq0⟩ : ∃ q0, q0 = (rgI x.n (elO x.n l).2 ((s : Nat) : Int) (rgT x.n (elO x.n l).2 (elO x.n l).1 s) i).2 := ⟨_, rfl⟩
          rw [← hq0] at eJ hat v1 hQs3
          have hlN : ev.1.1.seqs.length = m := by rw [v1.len, hmm]; rfl
          have hlI : (rgI x.n (elO x.n l).2 ((s : Nat) : Int) (rgT x.n (elO x.n l).2 (elO x.n l).1 s) i).1.1.seqs.length = m := by rw [hI1.len, hmm]; rfl
          have hat2 : q0 + wN x.n (s : Nat) ≤ m := by rw [hmm]; exact Nat.le_trans hat (Nat.le_add_right _ _)
          refine h_cond_t rfl rfl ?_; (repeat (first | (refine gLoad ?_; refine H_ldB hp rfl rfl ?_) | (refine gStore ?_; refine U_stB hp rfl rfl rfl rfl ?_; intro w hp; refine ops_run nopre rfl ?_)))
          rw [e1] at hp
          have hexp := expr_n w0 R x.sg.length hRl (some ⟨bs, 0, none⟩) x.sg.length bx b4 (wN x.n (s : Nat)) hw1 (gN (rgI x.n (elO x.n l).2 ((s : Nat) : Int) (rgT x.n (elO x.n l).2 (elO x.n l).1 s) i).1.1 sa sc) (x.asg.getD i default).ops (x.asg.getD i default).oa (x.asg.getD i default).oc (by rw [← eop]; exact hop1.len) (by omega) hRg (treeA x.n i) (by rw [← eop]; exact hok1.1) hok1.2 (rgI x.n (elO x.n l).2 ((s : Nat) : Int) (rgT x.n (elO x.n l).2 (elO x.n l).1 s) i).1 (by rw [gN_n]) hI1.net (fun r hr => by rw [hRi] at hr; exact (hI1.sig.row r hr).2) aa ac _ _ ((hp.f1.f1.f4.f4.f4).f1.cgB (eB (rgI x.n (elO x.n l).2 ((s : Nat) : Int) (rgT x.n (elO x.n l).2 (elO x.n l).1 s) i).1.1 aa ac _ hI1.inp hlI hI1.outs)).f1
          rw [hRi, ← hev2] at hexp
          refine h_call rfl Tryz.func40 (by kernel_rfl) rfl (hexp) ?_; rintro _ w ⟨b, c, aa', ac', qq, rfl, hp⟩; refine ops_run nopre rfl ?_; skip
          have hp := (((hp.f4).drop).f4.f4.f3.f3.f4).cgB (eB (rgI x.n (elO x.n l).2 ((s : Nat) : Int) (rgT x.n (elO x.n l).2 (elO x.n l).1 s) i).1.1 aa' ac' ev.1.1.ands hI1.inp hlI hI1.outs).symm
          refine h_loop [1, 2, 4, 5, 16, 22, 23, 24, 168, 169, 170, 179, 180, 181, 201, 202, 203] (fun (k : Nat) => [(1, .pointer (some ⟨b1, 0, none⟩)), (2, .pointer (some ⟨b2, 0, none⟩)), (4, .pointer (some ⟨b4, 0, none⟩)), (5, .pointer (some ⟨b5, 0, none⟩)), (16, .pointer (some ⟨bx, 0, none⟩)), (22, .int .i64 ((q0 + k : Nat) : Int)), (23, .int .i64 (s : Int)), (24, .pointer (some ⟨b24, 0, none⟩)), (168, .slice x.sa x.sg.length x.sc), (169, .int .i64 x.sg.length), (170, .int .i64 (s : Int)), (179, .slice x.aa x.asg.length x.ac), (180, .int .i64 x.asg.length), (181, .int .i64 (i : Int)), (201, .slice b ev.2.length c), (202, .int .i64 ev.2.length), (203, .int .i64 (k : Int))])
           (fun k w' => k ≤ ev.2.length ∧ ∃ Q wv, (Q.length = m ∧ seqsOf Q = rlQ (bitQ ev.1.1 q0 ev.2 k).seqs (q0 + k)) ∧ Hp w0 w' [rO 3 1 eI b c ev.2, rB b24 66 (eSg (x.sg.getD s default)), rB bx 88 [.pointer (some ⟨b4, 0, none⟩), .slice (some ⟨bs, 0, none⟩) x.sg.length x.sg.length, .int .i64 (wv), .bool ev.1.2], rB b4 33 [.int .i64 (sumL (pwL x.n 0)), .slice sa m sc, .slice aa' ev.1.1.ands.length ac', .slice none 0 0], rO 120 2 eII aa' ac' ev.1.1.ands, rO 68 3 eSq sa sc Q, rIns Q, rO 31 1 eRo (some ⟨bs, 0, none⟩) x.sg.length R, rRows 3 1 eI R, rB b5 50 [.slice (some ⟨bs, 0, none⟩) x.sg.length x.sg.length], rB b1 41 x.cs, rB b2 33 (cellsV Tryz.ti33.zero)]) (fun k => ev.2.length - k) 0 (by rw [hq0]; rfl) ⟨by omega, Q, _, ⟨hQl3, ?_⟩, hp.f3.f1.f3.f4.f4⟩ ?_
          ·rw [hQs3]
           show rlQ (rgI x.n (elO x.n l).2 ((s : Nat) : Int) (rgT x.n (elO x.n l).2 (elO x.n l).1 s) i).1.1.seqs q0 = rlQ ev.1.1.seqs q0
           rw [v3]
          clear hp hQl3 hQs3
          rintro k w1 ⟨hk4, Q, wv, ⟨hQl3, hQs3⟩, hp⟩ IH3 C
          refine h_run rfl ?_; skip
          refine h_cond_dec (fun hlt3 => ?_) (fun hlt3 => ?_)
          ·have hlt3' : k < ev.2.length := by omega
           obtain ⟨u1, _⟩ := v1.bits (bits := ev.2) (w := wN x.n (s : Nat)) hat hevl v2 k (by omega)
           have u2 : (bitQ ev.1.1 q0 ev.2 k).seqs.length = m := by rw [u1.len, hmm]; rfl
           have hvk := v2 _ (getD_mem hlt3')
           have hsn : sa ≠ none := nn_of hp (X := Q) (by omega)
           refine h_cond_t rfl rfl ?_; (repeat (first | (refine gLoad ?_; first | refine H_ldB hp rfl rfl ?_ | refine H_ldEN hp rfl (by omega) rfl rfl ?_) | (refine gBuild ?_; refine U_litI hp rfl rfl rfl rfl rfl rfl rfl rfl rfl rfl ?_; intro w _ hx hp; refine ops_run nopre rfl ?_)))
           rename_i bl
           first | refine U_st1N hp ({ Q.getD (q0 + k) default with ins := [ev.2.getD k default], ia := some ⟨bl, 0, none⟩, ic := 1 }) rfl rfl rfl (by omega) (by decide) rfl rfl ?_ | refine U_st1 hp ({ Q.getD (q0 + k) default with ins := [ev.2.getD k default], ia := some ⟨bl, 0, none⟩, ic := 1 }) rfl rfl rfl (by omega) (by decide) rfl rfl ?_
           intro w hp; refine ops_run nopre rfl ?_; skip
           obtain ⟨Qr, hq1, hback⟩ := rIns_at hp.f7 (i := q0 + k) (by omega)
           have hp := hback _ _ { Q.getD (q0 + k) default with ins := [ev.2.getD k default], ia := some ⟨bl, 0, none⟩, ic := 1 } (hq1.drop.f1)
           exact IH3 (k + 1) _ _ _ (by omega) rfl ⟨by omega, _, wv, ⟨by rw [List.length_set]; exact hQl3, seqs_put hQs3 (by omega) _ _ _⟩, hp.f6.f6.f6.f6.f6.f6⟩
          ·refine h_cond_f rfl rfl ?_; skip
           obtain rfl : k = ev.2.length := by omega
           clear IH3
           refine IH2 (i + 1) _ _ _ (by omega) (by rw [eJ, hevl]; rfl) ⟨by omega, Q, aa', ac', wv, ⟨hQl3, by rw [eJ]; rw [hevl] at hQs3; exact hQs3⟩, ?_⟩
           rw [eJ]
           show Hp w0 _ [rB b24 66 (eSg (x.sg.getD s default)), rB bx 88 [.pointer (some ⟨b4, 0, none⟩), .slice (some ⟨bs, 0, none⟩) x.sg.length x.sg.length, .int .i64 (wv), .bool ev.1.2], rB b4 33 [.int .i64 (sumL (pwL x.n 0)), .slice sa m sc, .slice aa' (bitQ ev.1.1 q0 ev.2 (wN x.n (s : Nat))).ands.length ac', .slice none 0 0], rO 120 2 eII aa' ac' (bitQ ev.1.1 q0 ev.2 (wN x.n (s : Nat))).ands, rO 68 3 eSq sa sc Q, rIns Q, rO 31 1 eRo (some ⟨bs, 0, none⟩) x.sg.length R, rRows 3 1 eI R, rB b5 50 [.slice (some ⟨bs, 0, none⟩) x.sg.length x.sg.length], rB b1 41 x.cs, rB b2 33 (cellsV Tryz.ti33.zero)]
           rw [bitQ_ands]
           exact hp.drop
         ·have eJ : (rgI x.n (elO x.n l).2 ((s : Nat) : Int) (rgT x.n (elO x.n l).2 (elO x.n l).1 s) (i + 1)) = (rgI x.n (elO x.n l).2 ((s : Nat) : Int) (rgT x.n (elO x.n l).2 (elO x.n l).1 s) i) := by
           rw [rgI]
           unfold rgS
           rw [if_neg (show ¬ tgL x.n i = ((s : Nat) : Int) from fun h => ht ((x.atg i).symm.trans h))]
          refine h_cond_f rfl rfl ?_; skip
          exact IH2 (i + 1) _ _ _ (by omega) (by rw [eJ]; rfl) ⟨by omega, Q, aa, ac, wv, ⟨hQl3, by rw [eJ]; exact hQs3⟩, by rw [eJ]; exact hp.drop⟩
        ·refine h_cond_f rfl rfl ?_; skip
         obtain rfl : i = x.asg.length := by omega
         exact IH (s + 1) _ _ _ (by omega) (by rw [eT]; rfl) ⟨by omega, Q, aa, ac, wv, ⟨hQl3, by rw [eT]; exact hQs3⟩, by rw [eT]; exact hp.drop⟩
      ·refine h_cond_f rfl rfl ?_; (repeat (refine H_ldB hp rfl rfl ?_))
       obtain rfl : s = x.sg.length := by omega
       clear IH
       have eR : (rgT x.n (elO x.n l).2 (elO x.n l).1 x.sg.length) = elR x.n l := rfl
       rw [eR] at hp hQs3 hS1 hS2 ⊢
       cases hb : (elR x.n l).1.2 with
       | true =>
        refine h_cond_t rfl rfl ?_; (repeat (first | (refine gStore ?_; refine U_stBN hp rfl rfl rfl rfl ?_; intro w hp; refine ops_run nopre rfl ?_) | (refine gRetc ?_; refine R_ret2v hp rfl ?_)))
        rw [elF_bad he hb]
        exact ⟨zeroN, ⟨rfl, rfl⟩, (rNet_zero hp).tk 1⟩
       | false =>
        refine h_cond_f rfl rfl ?_; (repeat (refine H_ldB hp rfl rfl ?_))
        have hp := hp.drop
        have hlN : (elR x.n l).1.1.seqs.length = m := by rw [hS1.len, hmm]; rfl
        have hmt : ∀ j, j ≤ x.ms.length → SqP x.n (elO x.n l).2 (memT x.n (elO x.n l).2 (elR x.n l).1.1 (elR x.n l).2 j).1 (memT x.n (elO x.n l).2 (elR x.n l).1.1 (elR x.n l).2 j).2 ∧ (memT x.n (elO x.n l).2 (elR x.n l).1.1 (elR x.n l).2 j).2 = (elR x.n l).2 + mwT x.n j := fun j hj => by
         have h := memT_ok hm hf hO2 (N := (elR x.n l).1.1) (by have h := hS1; rw [hS2] at h; exact h) j hj
         rw [hS2]; exact h
        refine h_loop [1, 2, 4, 5, 22, 225, 226, 227] (fun (j : Nat) => [(1, .pointer (some ⟨b1, 0, none⟩)), (2, .pointer (some ⟨b2, 0, none⟩)), (4, .pointer (some ⟨b4, 0, none⟩)), (5, .pointer (some ⟨b5, 0, none⟩)), (22, .int .i64 (((memT x.n (elO x.n l).2 (elR x.n l).1.1 (elR x.n l).2 j).2 : Nat) : Int)), (225, .slice x.ma x.ms.length x.mc), (226, .int .i64 x.ms.length), (227, .int .i64 (j : Int))])
         (fun j w' => j ≤ x.ms.length ∧ ∃ Q, (Q.length = m ∧ seqsOf Q = rlQ (memT x.n (elO x.n l).2 (elR x.n l).1.1 (elR x.n l).2 j).1.seqs (memT x.n (elO x.n l).2 (elR x.n l).1.1 (elR x.n l).2 j).2) ∧ Hp w0 w' [rB b4 33 [.int .i64 (sumL (pwL x.n 0)), .slice sa m sc, .slice aa (elR x.n l).1.1.ands.length ac, .slice none 0 0], rO 120 2 eII aa ac (elR x.n l).1.1.ands, rO 68 3 eSq sa sc Q, rIns Q, rO 31 1 eRo (some ⟨bs, 0, none⟩) x.sg.length R, rRows 3 1 eI R, rB b5 50 [.slice (some ⟨bs, 0, none⟩) x.sg.length x.sg.length], rB b1 41 x.cs, rB b2 33 (cellsV Tryz.ti33.zero)]) (fun j => x.ms.length - j) 0 rfl ⟨by omega, Q, ⟨hQl3, hQs3⟩, hp⟩ ?_
        clear hp hQl3 hQs3
        rintro j w1 ⟨hj, Q, ⟨hQl3, hQs3⟩, hp⟩ IH C
        obtain ⟨hT1, hT2⟩ := hmt j hj
        have hT3 := mwT_le hm j hj
        have hT4 := wsT_le hm 3 x.sg.length (Nat.le_refl _)
        have hS2' : (elR x.n l).2 = wsT x.n 3 x.sg.length := hS2
        refine h_run rfl ?_; skip
        refine h_cond_dec (fun hlt => ?_) (fun hlt => ?_)
        ·have hlt' : j < x.ms.length := by omega
         obtain ⟨i1, i2, i3, i4, _⟩ := hm.ms j hlt'
         change inL x.n (x.ms.getD j default).addr at i1
         change inL x.n (x.ms.getD j default).data at i2
         change inL x.n (x.ms.getD j default).write at i3
         change inL x.n (x.ms.getD j default).out at i4
         obtain ⟨w1', w2', w3', w4', w5'⟩ := mem_w hm hf hlt'
         change wN x.n (x.ms.getD j default).addr = 2 at w1'
         change wN x.n (x.ms.getD j default).write = 1 at w2'
         change wN x.n (x.ms.getD j default).data = wN x.n (x.ms.getD j default).out at w3'
         have f1 := full_at hO2 i1
         have f2 := full_at hO2 i2
         have f3 := full_at hO2 i3
         rw [← hRi, insOf_get] at f1 f2 f3
         unfold inL at i1 i2 i3 i4
         change 0 ≤ (x.ms.getD j default).addr ∧ (x.ms.getD j default).addr < x.sg.length at i1
         change 0 ≤ (x.ms.getD j default).data ∧ (x.ms.getD j default).data < x.sg.length at i2
         change 0 ≤ (x.ms.getD j default).write ∧ (x.ms.getD j default).write < x.sg.length at i3
         change 0 ≤ (x.ms.getD j default).out ∧ (x.ms.getD j default).out < x.sg.length at i4
         obtain ⟨o, ho⟩ := Int.eq_ofNat_of_zero_le i4.1
         have eo : (x.ms.getD j default).out.toNat = o := by omega
         obtain ⟨e1, e2⟩ := eW o (by omega)
         have la1 : LtL (x.ms.getD j default).addr.toNat R := ⟨by omega⟩
         have la2 : LtL (x.ms.getD j default).data.toNat R := ⟨by omega⟩
         have la3 : LtL (x.ms.getD j default).write.toNat R := ⟨by omega⟩
         have hwo : wN x.n (x.ms.getD j default).out = wN x.n (o : Nat) := by rw [ho]
         have eN : (memT x.n (elO x.n l).2 (elR x.n l).1.1 (elR x.n l).2 (j + 1)) = (ramT (elO x.n l).2 (x.ms.getD j default) (memT x.n (elO x.n l).2 (elR x.n l).1.1 (elR x.n l).2 j).1 (memT x.n (elO x.n l).2 (elR x.n l).1.1 (elR x.n l).2 j).2 (wN x.n (o : Nat)), (memT x.n (elO x.n l).2 (elR x.n l).1.1 (elR x.n l).2 j).2 + wN x.n (o : Nat)) := by
          rw [memT]
          show (ramT (elO x.n l).2 (x.ms.getD j default) (memT x.n (elO x.n l).2 (elR x.n l).1.1 (elR x.n l).2 j).1 (memT x.n (elO x.n l).2 (elR x.n l).1.1 (elR x.n l).2 j).2 (wN x.n (x.ms.getD j default).out), (memT x.n (elO x.n l).2 (elR x.n l).1.1 (elR x.n l).2 j).2 + wN x.n (x.ms.getD j default).out) = _
          rw [hwo]
         have hmw := mwT_mono x.n (i := j + 1) (j := x.ms.length) (by omega)
         have hmw2 : mwT x.n (j + 1) = mwT x.n j + wN x.n (o : Nat) := by
          rw [mwT]
          show mwT x.n j + wN x.n (x.ms.getD j default).out = _
          rw [hwo]
         refine h_cond_t rfl rfl ?_; (repeat (refine H_ldEN hp rfl (by omega) rfl rfl ?_))
         (first | refine H_box hp ?_ | refine H_alloc hp rfl ?_); intro w b32 hx hp; refine ops_run nopre rfl ?_; (repeat (refine U_stBN hp rfl rfl rfl rfl ?_; intro w hp; refine ops_run nopre rfl ?_))
         obtain ⟨q0, hq0⟩ : ∃ q0, q0 = (memT x.n (elO x.n l).2 (elR x.n l).1.1 (elR x.n l).2 j).2 := ⟨_, rfl⟩
         rw [← hq0] at hQs3 eN hT1 hT2
         have hq0m : q0 + wN x.n (o : Nat) ≤ m := by omega
         have hra := fun k hk => ramT_ok hm hf hO2 hT1 hlt' (by rw [hT2]; exact congrArg (· + mwT x.n j) hS2) k hk
         refine h_loop [1, 2, 4, 5, 22, 32, 33, 225, 226, 227] (fun (k : Nat) => [(1, .pointer (some ⟨b1, 0, none⟩)), (2, .pointer (some ⟨b2, 0, none⟩)), (4, .pointer (some ⟨b4, 0, none⟩)), (5, .pointer (some ⟨b5, 0, none⟩)), (22, .int .i64 ((q0 + k : Nat) : Int)), (32, .pointer (some ⟨b32, 0, none⟩)), (33, .int .i64 (k : Int)), (225, .slice x.ma x.ms.length x.mc), (226, .int .i64 x.ms.length), (227, .int .i64 (j : Int))])
          (fun k w' => k ≤ wN x.n (o : Nat) ∧ ∃ Q, (Q.length = m ∧ seqsOf Q = rlQ (ramT (elO x.n l).2 (x.ms.getD j default) (memT x.n (elO x.n l).2 (elR x.n l).1.1 (elR x.n l).2 j).1 q0 k).seqs (q0 + k)) ∧ Hp w0 w' [rB b32 70 (eMm (x.ms.getD j default)), rB b4 33 [.int .i64 (sumL (pwL x.n 0)), .slice sa m sc, .slice aa (elR x.n l).1.1.ands.length ac, .slice none 0 0], rO 120 2 eII aa ac (elR x.n l).1.1.ands, rO 68 3 eSq sa sc Q, rIns Q, rO 31 1 eRo (some ⟨bs, 0, none⟩) x.sg.length R, rRows 3 1 eI R, rB b5 50 [.slice (some ⟨bs, 0, none⟩) x.sg.length x.sg.length], rB b1 41 x.cs, rB b2 33 (cellsV Tryz.ti33.zero)]) (fun k => wN x.n (o : Nat) - k) 0 (by rw [hq0]; rfl) ⟨by omega, Q, ⟨hQl3, hQs3⟩, hp⟩ ?_
         clear hp hQl3 hQs3
         rintro k w1 ⟨hk4, Q, ⟨hQl3, hQs3⟩, hp⟩ IH2 C
         refine h_run rfl ?_; (repeat (refine gLoad ?_; first | refine H_ldB hp rfl rfl ?_ | refine H_ldF hp rfl (by omega) (by omega) rfl rfl ?_))
         rw [eo]
         refine h_cond_dec (fun hlt2 => ?_) (fun hlt2 => ?_)
         ·have hlt2' : k < wN x.n (o : Nat) := by omega
          have u2 : (ramT (elO x.n l).2 (x.ms.getD j default) (memT x.n (elO x.n l).2 (elR x.n l).1.1 (elR x.n l).2 j).1 q0 k).seqs.length = m := by
           have h := (hra k (by show k ≤ wN x.n (x.ms.getD j default).out; omega)).len
           rw [hmm]; exact h
          have hsn : sa ≠ none := nn_of hp (X := Q) (by omega)
          have la1n : (R.getD (x.ms.getD j default).addr.toNat default).ia ≠ none := nn_of hp (X := (R.getD (x.ms.getD j default).addr.toNat default).ins) (by omega)
          have la2n : (R.getD (x.ms.getD j default).data.toNat default).ia ≠ none := nn_of hp (X := (R.getD (x.ms.getD j default).data.toNat default).ins) (by omega)
          have la3n : (R.getD (x.ms.getD j default).write.toNat default).ia ≠ none := nn_of hp (X := (R.getD (x.ms.getD j default).write.toNat default).ins) (by omega)
          refine h_cond_t rfl rfl ?_; skip
          refine D_draw hp (by kernel_rfl) (by kernel_rfl) rfl rfl ?_; intro w hx hp; have hs := hp; (repeat (first | (refine gLoad ?_; first | refine D_ldB rfl rfl rfl ?_ | refine D_ldEN rfl (by omega) rfl rfl rfl ?_ | refine D_ldE rfl (by omega) (by omega) rfl rfl rfl ?_) | (refine gBuild ?_; refine V_litI (fun _ hx => hs.ext hx) hp rfl rfl rfl rfl rfl rfl rfl rfl rfl rfl ?_; intro w _ hx hp; have hs := hs.ext hx; refine D_ops rfl rfl ?_)))
          rename_i bl
          have eL : [(R.getD (x.ms.getD j default).addr.toNat default).ins.getD (Int.toNat 0) default, (R.getD (x.ms.getD j default).addr.toNat default).ins.getD (Int.toNat 1) default, (R.getD (x.ms.getD j default).data.toNat default).ins.getD k default, (R.getD (x.ms.getD j default).write.toNat default).ins.getD (Int.toNat 0) default] = ramI (elO x.n l).2 (x.ms.getD j default) k := by
           unfold ramI
           rw [← hRi, insOf_get, insOf_get, insOf_get]; rfl
          first | refine V_st1N hp ({ Q.getD (q0 + k) default with ins := ramI (elO x.n l).2 (x.ms.getD j default) k, ia := some ⟨bl, 0, none⟩, ic := 4 }) rfl rfl rfl (by omega) (by decide) rfl rfl (by kernel_rfl) ?_ | refine V_st1 hp ({ Q.getD (q0 + k) default with ins := ramI (elO x.n l).2 (x.ms.getD j default) k, ia := some ⟨bl, 0, none⟩, ic := 4 }) rfl rfl rfl (by omega) (by decide) rfl rfl (by kernel_rfl) ?_
          intro w hp; refine D_ops rfl rfl ?_; skip
          rw [eL] at hp
          obtain ⟨Qr, hq1, hback⟩ := rIns_at hp.f5 (i := q0 + k) (by omega)
          have hp := hback _ _ { Q.getD (q0 + k) default with ins := ramI (elO x.n l).2 (x.ms.getD j default) k, ia := some ⟨bl, 0, none⟩, ic := 4 } (hq1.drop.f1)
          exact IH2 (k + 1) _ _ _ (by omega) rfl ⟨by omega, _, ⟨by rw [List.length_set]; exact hQl3, seqs_put hQs3 (by omega) _ _ _⟩, hp.f4.f4.f4.f4⟩
         ·refine h_cond_f rfl rfl ?_; skip
          obtain rfl : k = wN x.n (o : Nat) := by omega
          exact IH (j + 1) _ _ _ (by omega) (by rw [eN]; rfl) ⟨by omega, Q, ⟨hQl3, by rw [eN]; exact hQs3⟩, hp.drop⟩
        ·refine h_cond_f rfl rfl ?_; (repeat (refine H_ldB hp rfl rfl ?_))
         obtain rfl : j = x.ms.length := by omega
         clear IH
         have hT0 : (memT x.n (elO x.n l).2 (elR x.n l).1.1 (elR x.n l).2 x.ms.length) = elM x.n l := rfl
         rw [hT0] at hQs3 hT1 hT2
         obtain ⟨g1, g2⟩ := elM_ok hf he
         rw [g2, rlQ_all] at hQs3
         refine h_loop [2, 4, 5, 281, 282, 283] (fun (i : Nat) => [(2, .pointer (some ⟨b2, 0, none⟩)), (4, .pointer (some ⟨b4, 0, none⟩)), (5, .pointer (some ⟨b5, 0, none⟩)), (281, .slice x.sa x.sg.length x.sc), (282, .int .i64 x.sg.length), (283, .int .i64 (i : Int))])
          (fun i w' => i ≤ x.sg.length ∧ ∃ oa oc, Hp w0 w' [rO 3 1 eI oa oc ((outT x.n (elO x.n l).2 i)), rB b4 33 [.int .i64 (sumL (pwL x.n 0)), .slice sa m sc, .slice aa (elR x.n l).1.1.ands.length ac, .slice oa ((outT x.n (elO x.n l).2 i)).length oc], rO 120 2 eII aa ac (elR x.n l).1.1.ands, rO 68 3 eSq sa sc Q, rIns Q, rO 31 1 eRo (some ⟨bs, 0, none⟩) x.sg.length R, rRows 3 1 eI R, rB b5 50 [.slice (some ⟨bs, 0, none⟩) x.sg.length x.sg.length], rB b2 33 (cellsV Tryz.ti33.zero)]) (fun i => x.sg.length - i) 0 rfl ⟨by omega, none, 0, ?_⟩ ?_
         ·have hp := hp.ownN (e := 3) (sz := 1) (enc := eI) (c := 0) (X := []) (Ext.refl _) (Own.nil _ _ _ _ _)
          exact (hp.f9.f8.f8.f8.f8.f8.f8.f8.f8).tk 9
         clear hp
         rintro i w1 ⟨hi, oa, oc, hp⟩ IH C
         have hol := outT_len hO2 i hi
         have hob := wsT_le hm 1 i hi
         obtain ⟨O, hO⟩ : ∃ O, O = outT x.n (elO x.n l).2 i := ⟨_, rfl⟩
         rw [← hO] at hp hol
         refine h_run rfl ?_; skip
         refine h_cond_dec (fun hlt => ?_) (fun hlt => ?_)
         ·have hlt' : i < x.sg.length := by omega
          have la1 : LtL i R := ⟨by omega⟩
          have hri := hRg i (by omega)
          refine h_cond_t rfl rfl ?_; (repeat (refine H_ldEN hp rfl (by omega) rfl rfl ?_))
          (first | refine H_box hp ?_ | refine H_alloc hp rfl ?_); intro w b35 hx hp; refine ops_run nopre rfl ?_; (repeat (first | (refine gLoad ?_; refine H_ldB hp rfl rfl ?_) | (refine gStore ?_; refine U_stBN hp rfl rfl rfl rfl ?_; intro w hp; refine ops_run nopre rfl ?_)))
          refine h_cond_dec (fun hk => ?_) (fun hk => ?_)
          ·have eT : outT x.n (elO x.n l).2 (i + 1) = O ++ (R.getD i default).ins := by rw [outT, if_pos (by rw [kindL_at]; exact hk), ← hO, ← hRi, insOf_get]
           refine h_cond_t rfl rfl ?_; skip
           refine D_draw hp (by kernel_rfl) (by kernel_rfl) rfl rfl ?_; intro w hx hp; have hs := hp; (repeat (refine gLoad ?_; first | refine D_ldB rfl rfl rfl ?_ | refine D_ldEN rfl (by omega) rfl rfl rfl ?_))
           refine V_append hp rfl rfl rfl rfl rfl rfl rfl (by decide) rfl (by first | omega | (simp only [List.length_append, List.length_cons, List.length_nil, List.length_take, List.length_drop, List.length_set, List.length_replicate, List.length_map]; omega)) rfl rfl (by kernel_rfl) ?_; intro oa' oc' w hp hnil; refine D_ops rfl rfl ?_; (repeat (refine V_stB hp rfl rfl rfl rfl (by kernel_rfl) ?_; intro w hp; refine D_ops rfl rfl ?_))
           refine IH (i + 1) _ _ _ (by omega) rfl ⟨by omega, oa', oc', ?_⟩
           rw [eT]
           exact hp.drop
          ·have eT : outT x.n (elO x.n l).2 (i + 1) = O := by rw [outT, if_neg (by rw [kindL_at]; exact hk), ← hO]
           refine h_cond_f rfl rfl ?_; skip
           refine IH (i + 1) _ _ _ (by omega) rfl ⟨by omega, oa, oc, ?_⟩
           rw [eT]
           exact hp.drop
         ·refine h_cond_f rfl rfl ?_; (repeat (refine H_ldB hp rfl rfl ?_))
          obtain rfl : i = x.sg.length := by omega
          clear IH
          subst hQl3
          have hyn : (⟨sumL (pwL x.n 0), Q, sa, sc, (elR x.n l).1.1.ands, aa, ac, O, oa, oc⟩ : NetA).n = elN x.n l := by
           show (⟨sumL (pwL x.n 0), seqsOf Q, (elR x.n l).1.1.ands, O⟩ : NetL) = { (elM x.n l).1 with outs := outT x.n (elO x.n l).2 x.sg.length }
           rw [hQs3, ← g1.inp, hO, ← memT_ands x.n (elO x.n l).2 (elR x.n l).1.1 (elR x.n l).2 x.ms.length]
           rfl
          have h := rNet_shut (x := (⟨sumL (pwL x.n 0), Q, sa, sc, (elR x.n l).1.1.ands, aa, ac, O, oa, oc⟩ : NetA)) (rSq_shut (hp.f1.f1.f2.f4.f4))
          have hp : Hp w0 _ [_, _, _] := (h.f5.f2.f2).tk 3
          refine h_call rfl Tryz.func41 (by kernel_rfl) rfl (hashed_h (⟨sumL (pwL x.n 0), Q, sa, sc, (elR x.n l).1.1.ands, aa, ac, O, oa, oc⟩ : NetA) _ hp.net (by rw [hyn]; exact elN_ok hf he)) ?_; rintro _ w ⟨y2, ⟨hy2, rfl⟩, hq⟩; have hx := hq.x; have hp := hp.call1 hq; refine ops_run nopre rfl ?_; (repeat (first | (refine gStore ?_; refine U_stBN hp rfl rfl rfl rfl ?_; intro w hp; refine ops_run nopre rfl ?_) | (refine gRetc ?_; refine R_ret2v hp rfl ?_)))
          rw [elF_yes he hf hb, ← hyn]
          exact ⟨y2, ⟨hy2, rfl⟩, hp.tk 1⟩
 ·have hfb : flatB x.n = false := by unfold flatB; exact pB_no' hf
  refine h_call rfl Tryz.func36 (by kernel_rfl) rfl (implFlatOk_h x _ hp.mod hS hW) ?_; rintro _ w ⟨rfl, hx⟩; have hp := hp.ext hx; refine ops_run nopre rfl ?_; skip
  rw [hfb]
  refine h_cond_t rfl rfl ?_; (repeat (first | (refine gStore ?_; refine U_stBN hp rfl rfl rfl rfl ?_; intro w hp; refine ops_run nopre rfl ?_) | (refine gRetc ?_; refine R_ret2v hp rfl ?_)))
  rw [elF_flat hf]
  exact ⟨zeroN, ⟨rfl, rfl⟩, (rNet_zero hp).tk 1⟩
end Go.Proofs
