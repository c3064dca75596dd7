/- The contracts of the program's functions that refactor; each under its stated conditions. -/
import Derived.Test.YtifjicajbgoamaaGreatPrmI
import Derived.Test.YtifjicajbgoamaaGreatCovT
import Derived.Test.YtifjicajbgoamaaGreatIns
import Derived.Test.YtifjicajbgoamaaGreatBal
import Derived.Test.YtifjicajbgoamaaGreatEnumT
set_option linter.all false
namespace Go.Xw
open Go.Proofs
def zrA (y0 x : NetA) (A : List (Int × Int)) (aa : Option Addr) (ac : Nat) : NetA := ⟨y0.inputs, x.seqs.map fun s => { s with ins := List.replicate s.ins.length 0 }, y0.sa, y0.sc, A, aa, ac, y0.outs, y0.oa, y0.oc⟩
theorem zrA_n {y0 x : NetA} (hi : y0.inputs = x.inputs) (ho : y0.outs = []) (A : List (Int × Int)) (aa : Option Addr) (ac : Nat) : (zrA y0 x A aa ac).n = zerL x.n A := by
 unfold NetA.n zrA zerL
 dsimp only
 rw [hi, ho]
 congr 1
 unfold seqsOf
 rw [List.map_map, List.map_map]
 rfl
end Go.Xw
namespace Go.Proofs
open Go.Xw
set_option maxRecDepth 100000
set_option maxHeartbeats 4000000
attribute [local irreducible] Holds elemAddr
theorem refactorAt_h (x : NetA) (q : Nat) (ca : Option Addr) (cc : Nat) (cut : List Int) (w0 : World) (hX : NetR w0 x) (hT : Rd w0 ca 1 eI cut) (hP : rfP x.n ((fst_ x.n + q : Nat) : Int) cut) :
  Ret Tryz.prog 42 [x.v, .int .i64 ((fst_ x.n + q : Nat) : Int), .slice ca cut.length cc] w0 (fun v w => ∃ y, (v = .tuple ⟨[y.v, .bool (rfN x.n q cut).isSome]⟩ ∧ y.n = (rfN x.n q cut).getD nilN) ∧ Hp w0 w [rNet y]) := by
 obtain ⟨⟨hok, hkr, hcp⟩, hfk, hnk⟩ := hP
 rw [Int.toNat_natCast] at hcp
 have hbel : rfBel x.n q cut := by
  have := rfP_bel ⟨⟨hok, hkr, by rw [Int.toNat_natCast]; exact hcp⟩, hfk, hnk⟩
  rw [Int.toNat_natCast, show fst_ x.n + q - fst_ x.n = q by omega] at this
  exact this
 have hm := hcp.1.1
 have hn := hok.nums
 have n1 := hn.n1
 have n4 := hn.n2
 have f2 := hn.f2
 have hnd := hok.nodes
 have hsz := hok.size'
 have hal : x.n.ands.length = x.ands.length := rfl
 obtain ⟨b, hb⟩ : ∃ b, b = tbTo x.n cut (fst_ x.n + q) (2 ^ cut.length) := ⟨_, rfl⟩
 have htl := tbTo_lt x.n cut (fst_ x.n + q) (2 ^ cut.length)
 rw [← hb] at htl
 obtain ⟨h0, h1⟩ := htl
 have hnt := notT_b h0 h1
 have et : eII (tabL x.n cut (fst_ x.n + q)) = [.int .i64 (cut.length : Int), .int .i64 b] := by rw [hb]; rfl
 refine enter Tryz.S42ok _ _ rfl rfl (by show _ ≤ _; simp only [List.length]; decide) (fun C => ?_); have hp := Hp.nil w0; refine h_run rfl ?_; skip; (first | refine H_box hp ?_ | refine H_alloc hp rfl ?_); intro w b3 hx hp; refine ops_run nopre rfl ?_; skip; (first | refine H_box hp ?_ | refine H_alloc hp rfl ?_); intro w b6 hx hp; refine ops_run nopre rfl ?_; (repeat (refine H_ldB hp rfl rfl ?_))
 refine h_call rfl Tryz.func82 (by kernel_rfl) rfl (cutTable_h x (fst_ x.n + q) ca cc cut hm hcp.1.2 (by omega) hok _ hp.net hp.rd) ?_; rintro _ w ⟨rfl, hx⟩; have hp := hp.ext hx; refine ops_run nopre rfl ?_; skip
 rw [et]
 (first | refine H_box hp ?_ | refine H_alloc hp rfl ?_); intro w b8 hx hp; refine ops_run nopre rfl ?_; (repeat (first | (refine gLoad ?_; refine H_ldB hp rfl rfl ?_) | (refine gStore ?_; refine U_stBN hp rfl rfl rfl rfl ?_; intro w hp; refine ops_run nopre rfl ?_)))
 refine h_call rfl Tryz.func83 (by kernel_rfl) rfl (implMinimalCover_h cut.length b _ hm h0 h1) ?_; rintro _ w ⟨a1, c1, rfl, hq⟩; have hx := hq.x; have hp := hp.call1 hq; refine ops_run nopre rfl ?_; (repeat (refine H_ldB hp rfl rfl ?_))
 refine h_call rfl Tryz.func84 (by kernel_rfl) rfl (implTableNot_h cut.length b _ hm h0 h1) ?_; rintro _ w ⟨rfl, hx⟩; have hp := hp.ext hx; refine ops_run nopre rfl ?_; skip
 refine h_call rfl Tryz.func83 (by kernel_rfl) rfl (implMinimalCover_h cut.length (notT cut.length b) _ hm hnt.1 hnt.2) ?_; rintro _ w ⟨a2, c2, rfl, hq⟩; have hx := hq.x; have hp := hp.call1 hq; refine ops_run nopre rfl ?_; skip
 have hk1 := minL_ok hm b
 have hk2 := minL_ok hm (notT cut.length b)
 have hcb1 := clTo_b cut.length (minL cut.length b) (minL cut.length b).length
 have hcb2 := clTo_b cut.length (minL cut.length (notT cut.length b)) (minL cut.length (notT cut.length b)).length
 refine N_draw hp (by kernel_rfl) (by kernel_rfl) rfl rfl ?_; (repeat (refine N_ldB rfl rfl rfl ?_))
 refine N_call Tryz.func85 (by kernel_rfl) rfl (fun F w hp => ?_); refine Ret.mono (implCoverLiterals_h cut.length hm a2 c2 _ (minL cut.length (notT cut.length b)) rfl hk2 _ hp.pre.rd) ?_; rintro _ w ⟨rfl, hx⟩; have hp := hp.ext hx; refine ⟨fun _ => hp.sub (by (repeat (first | exact List.sublist_append_left _ _ | apply List.Sublist.cons))), _, hp, ?_⟩; clear hp; refine N_ops rfl rfl ?_; (repeat (refine N_ldB rfl rfl rfl ?_))
 refine N_call Tryz.func85 (by kernel_rfl) rfl (fun F w hp => ?_); refine Ret.mono (implCoverLiterals_h cut.length hm a1 c1 _ (minL cut.length b) rfl hk1 _ hp.pre.rd) ?_; rintro _ w ⟨rfl, hx⟩; have hp := hp.ext hx; refine ⟨fun _ => hp.sub (by (repeat (first | exact List.sublist_append_left _ _ | apply List.Sublist.cons))), _, hp, ?_⟩; clear hp; refine N_ops rfl rfl ?_; skip
 refine N_end ?_; intro w hp C; refine h_run rfl ?_; skip
 have hcok := cvrL_ok hm b
 have hfl01 := cvrF_01 cut.length b
 obtain ⟨K, hK⟩ : ∃ K, K = cvrL cut.length b := ⟨_, rfl⟩
 obtain ⟨fl, hfl⟩ : ∃ fl, fl = cvrF cut.length b := ⟨_, rfl⟩
 have hKc := hK.symm
 have hfc := hfl.symm
 rw [← hK] at hcok
 rw [← hfl] at hfl01
 refine h_cond_dec (fun hl => ?_) (fun hl => ?_)
 ·have hK2 : minL cut.length (notT cut.length b) = K := by rw [hK]; unfold cvrL; rw [if_pos hl]
  have hfl : fl = 1 := by rw [hfl]; unfold cvrF; rw [if_pos hl]
  refine h_cond_t rfl rfl ?_; (repeat (refine H_ldB hp rfl rfl ?_))
  have hp : Hp w0 _ [_, _, _] := (hp.f4.f4.f2).tk 3
  rw [hK2] at hp ⊢
  obtain ⟨aK, haK⟩ : ∃ aK, aK = a2 := ⟨_, rfl⟩
  obtain ⟨cK, hcK⟩ : ∃ cK, cK = c2 := ⟨_, rfl⟩
  rw [← haK, ← hcK] at hp ⊢
  refine h_call rfl Tryz.func86 (by kernel_rfl) rfl (emptyCopy_h x _ hp.net hok) ?_; rintro _ w ⟨y0, ⟨hy0, rfl⟩, hq⟩; have hx := hq.x; have hp := hp.call1 hq; refine ops_run nopre rfl ?_; skip
  (first | refine H_box hp ?_ | refine H_alloc hp rfl ?_); intro w b12 hx hp; refine ops_run nopre rfl ?_; (repeat (first | (refine gLoad ?_; refine H_ldB hp rfl rfl ?_) | (refine gStore ?_; refine U_stBN hp rfl rfl rfl rfl ?_; intro w hp; refine ops_run nopre rfl ?_)))
  refine h_call rfl Tryz.func87 (by kernel_rfl) rfl (leafLits_h x _ hok) ?_; rintro _ w ⟨b13, c13, rfl, hq⟩; have hx := hq.x; have hp := hp.call1 hq; refine ops_run nopre rfl ?_; (repeat (refine H_ldB hp rfl rfl ?_))
  have hya : y0.ands = [] := congrArg NetL.ands hy0
  have hyo : y0.outs = [] := congrArg NetL.outs hy0
  have hyi : y0.inputs = x.inputs := congrArg NetL.inputs hy0
  have hys : seqsOf y0.seqs = (begL x.n []).seqs := congrArg NetL.seqs hy0
  have hyl : y0.seqs.length = x.seqs.length := by rw [← seqsOf_len y0.seqs, hys, beg_at.1, x.slen]
  have hcs : y0.cs = (y0.wA y0.aa y0.ac []).cs := by unfold NetA.cs NetA.wA; rw [hya]
  have hp := (rNet_open hp.f2).f7.f7.f7.f5.f4.f6.f6.f7
  rw [hya] at hp
  have hp := Hp.cgB hp hcs
  refine h_loop4 [1, 2, 3, 6, 9, 11, 12, 13, 45, 46, 47] (fun (i : Nat) (_ : List (Int × Int) × List Int) (_ : Option Addr) (_ : Nat) => [(1, .int .i64 ((fst_ x.n + q : Nat) : Int)), (2, .slice ca cut.length cc), (3, .pointer (some ⟨b3, 0, none⟩)), (6, .pointer (some ⟨b6, 0, none⟩)), (9, .slice aK K.length cK), (11, .int .i64 fl), (12, .pointer (some ⟨b12, 0, none⟩)), (13, .slice b13 (nds x.n) c13), (45, .slice x.aa x.ands.length x.ac), (46, .int .i64 x.ands.length), (47, .int .i64 (i : Int))])
   (fun i S aa ac w' => (i ≤ x.ands.length ∧ rfTo x.n q cut K fl i = some S) ∧ Hp w0 w' [rB b12 31 [.int .i64 y0.inputs, .slice y0.sa y0.seqs.length y0.sc, .slice aa (S.1).length ac, .slice y0.oa y0.outs.length y0.oc], rO 62 2 eII aa ac S.1, rO 3 1 eI b13 c13 (S.2 ++ List.replicate (x.ands.length - i) 0), rSq y0.sa y0.sc y0.seqs, rO 3 1 eI y0.oa y0.oc y0.outs, rO 87 2 eII aK cK K, rB b6 31 (cellsV Tryz.ti31.zero), rB b3 31 x.cs])
   (fun i _ _ _ => x.ands.length - i) 0 ([], leafL x.n) y0.aa y0.ac (by first | rfl | (rw [hfl]; rfl)) ⟨⟨by omega, rfl⟩, hp⟩ ?_
  clear hp
  rintro i S aa ac w1 ⟨⟨hi, hS⟩, hp⟩ IH C
  have r := rfTo_ok hok hbel hfl01 i hi S hS
  have hB := r.b
  have rl := r.len
  have f1 := hB.f1
  have f3 := hB.alen
  have hpl : (S.2 ++ List.replicate (x.ands.length - i) (0 : Int)).length = nds x.n := by simp; omega
  refine h_run rfl ?_; skip
  refine h_cond_dec (fun hlt => ?_) (fun hlt => ?_)
  ·have hlt' : i < x.ands.length := by omega
   have hz : (firstAndL x.n + (i : Int)).toNat = fst_ x.n + i := by omega
   obtain ⟨q1, q2, q3, q4⟩ := hok.and_ hlt'
   have hrep : List.replicate (x.ands.length - i) (0 : Int) = List.replicate (x.ands.length - (i + 1) + 1) 0 := by rw [show x.ands.length - i = x.ands.length - (i + 1) + 1 by omega]
   have hne13 : b13 ≠ none := nn_of hp (X := S.2 ++ List.replicate (x.ands.length - i) (0 : Int)) (by omega)
   have hnone : (rfS x.n q cut K fl S i).2 < 0 → ∀ w, Hp w0 w [] → Hp w0 w [rNet nilA] ∧ (rfN x.n q cut).isSome = false ∧ nilA.n = (rfN x.n q cut).getD nilN := fun hneg w h => by
    have e : rfN x.n q cut = none := by
     unfold rfN
     have h1 := rfTo_stay (rfTo_no hS hneg) (m := x.n.ands.length) (by omega)
     rw [show (tabL x.n cut (fst_ x.n + q)).2 = b from hb.symm, hKc, hfc, h1]; rfl
    rw [e]
    exact ⟨hpNil h, rfl, rfl⟩
   have hstep : ¬ (rfS x.n q cut K fl S i).2 < 0 → rfTo x.n q cut K fl (i + 1) = some ((rfS x.n q cut K fl S i).1, S.2 ++ [(rfS x.n q cut K fl S i).2]) := fun h => rfTo_yes hS h
   refine h_cond_t rfl rfl ?_; (repeat (refine H_ldEN hp rfl (by omega) rfl rfl ?_))
   (first | refine H_box hp ?_ | refine H_alloc hp rfl ?_); intro w b15 hx hp; refine ops_run nopre rfl ?_; (repeat (first | (refine gLoad ?_; refine H_ldB hp rfl rfl ?_) | (refine gStore ?_; refine U_stBN hp rfl rfl rfl rfl ?_; intro w hp; refine ops_run nopre rfl ?_)))
   refine h_call rfl Tryz.func55 (by kernel_rfl) rfl (firstAnd_h x _ hok.b) ?_; rintro _ w ⟨rfl, hx⟩; have hp := hp.ext hx; refine ops_run nopre rfl ?_; skip
   refine h_cond_dec (fun hk => ?_) (fun hk => ?_)
   ·obtain rfl : i = q := by omega
    have hll := rfLits_ok hbel hB rl
    have hg := rfV_good hok hbel (C := K) hB rl
    have hgb := hg.b
    have hsi : rfS x.n i cut K fl S i = ((rfV x.n cut K S).1.ands, if (rfV x.n cut K S).2 < 0 then -1 else xorL (rfV x.n cut K S).2 fl) := by unfold rfS; rw [if_pos rfl]
    refine h_cond_t rfl rfl ?_; skip
    have hp : Hp w0 _ (rO 3 1 eI none 0 ([] : List Int) :: _) := hp.ownN (Ext.refl _) (Own.nil _ _ _ _ _)
    refine h_loop3 [1, 2, 3, 6, 9, 11, 12, 13, 16, 18, 45, 46, 47, 59, 60, 61] (fun (j : Nat) (d : Option Addr) (e : Nat) => [(1, .int .i64 ((fst_ x.n + i : Nat) : Int)), (2, .slice ca cut.length cc), (3, .pointer (some ⟨b3, 0, none⟩)), (6, .pointer (some ⟨b6, 0, none⟩)), (9, .slice aK K.length cK), (11, .int .i64 fl), (12, .pointer (some ⟨b12, 0, none⟩)), (13, .slice b13 (nds x.n) c13), (16, .int .i64 (firstAndL x.n + (i : Int))), (18, .slice d ((rfLits cut S.2).take j).length e), (45, .slice x.aa x.ands.length x.ac), (46, .int .i64 x.ands.length), (47, .int .i64 (i : Int)), (59, .slice ca cut.length cc), (60, .int .i64 cut.length), (61, .int .i64 (j : Int))])
     (fun j d e w' => j ≤ cut.length ∧ Hp w0 w' [rO 3 1 eI d e ((rfLits cut S.2).take j), rB b12 31 [.int .i64 y0.inputs, .slice y0.sa y0.seqs.length y0.sc, .slice aa (S.1).length ac, .slice y0.oa y0.outs.length y0.oc], rO 62 2 eII aa ac S.1, rO 3 1 eI b13 c13 (S.2 ++ List.replicate (x.ands.length - i) 0), rSq y0.sa y0.sc y0.seqs, rO 3 1 eI y0.oa y0.oc y0.outs, rO 87 2 eII aK cK K, rB b6 31 (cellsV Tryz.ti31.zero), rB b3 31 x.cs])
     (fun j _ _ => cut.length - j) 0 none 0 rfl ⟨by omega, hp.f1.drop⟩ ?_
    clear hp
    rintro j d e w2 ⟨hj, hp⟩ IH2 C2
    have hrl := rfLits_len cut S.2
    have htl : ((rfLits cut S.2).take j).length = j := by rw [List.length_take]; omega
    refine h_run rfl ?_; skip
    refine h_cond_dec (fun hlt2 => ?_) (fun hlt2 => ?_)
    ·have hlt2' : j < cut.length := by omega
     have hcj := hbel.2 (cut.getD j default) (getD_mem hlt2')
     have hnec : ca ≠ none := nn_of hp (X := cut) (by omega)
     have e1 : (rfLits cut S.2).take (j + 1) = (rfLits cut S.2).take j ++ [(S.2 ++ List.replicate (x.ands.length - i) (0 : Int)).getD (cut.getD j default).toNat default] := by
      rw [take_snoc (by omega), pad_get]
      congr 2
      exact map_getD (f := fun c : Int => S.2.getD c.toNat default) hlt2'
     refine h_cond_t rfl rfl ?_; (repeat (first | (refine gLoad ?_; first | refine H_ldEN hp rfl (by omega) rfl rfl ?_ | refine H_ldE hp rfl (by omega) (by omega) rfl rfl ?_) | (refine gBuild ?_; refine U_litI hp rfl rfl rfl rfl rfl rfl rfl rfl rfl rfl ?_; intro w _ hx hp; refine ops_run nopre rfl ?_)))
     refine U_append hp rfl rfl rfl rfl rfl rfl rfl (by decide) rfl (by first | omega | (simp only [List.length_append, List.length_cons, List.length_nil, List.length_take, List.length_drop, List.length_set, List.length_replicate, List.length_map]; omega)) rfl rfl ?_; intro d' e' w hp hnil; refine ops_run nopre rfl ?_; skip
     refine IH2 (j + 1) d' e' _ _ _ (by omega) (by rw [e1]; rfl) ⟨by omega, ?_⟩
     rw [e1]
     exact hp.drop
    ·obtain rfl : j = cut.length := by omega
     have htk : (rfLits cut S.2).take cut.length = rfLits cut S.2 := List.take_of_length_le (by omega)
     rw [htk] at hp ⊢
     have hzn := zrA_n hyi hyo S.1 aa ac
     have hzcs : [.int .i64 y0.inputs, .slice y0.sa y0.seqs.length y0.sc, .slice aa (S.1).length ac, .slice y0.oa y0.outs.length y0.oc] = (zrA y0 x S.1 aa ac).cs := by unfold NetA.cs zrA; rw [List.length_map, hyl]
     have hp := Hp.cgB (hp.f2.f2) hzcs
     refine h_cond_f rfl rfl ?_; skip
     refine h_call rfl Tryz.func88 (by kernel_rfl) rfl (addCover_h (zrA y0 x S.1 aa ac) b12 d aK e cK _ _ (rfLits cut S.2) K rfl rfl hp (by rw [hzn]; exact zerL_ok hok hB) (by rw [hzn]; exact hll) (by omega) hcok.2.1 hcok.nn) ?_; rintro _ w ⟨aa', ac', rfl, hp⟩; refine ops_run nopre rfl ?_; skip
     rw [hzn] at hp ⊢
     have hV : coverTo (zerL x.n S.1) (rfLits cut S.2) K K.length = rfV x.n cut K S := rfl
     rw [hV] at hp ⊢
     have hcs2 : ((zrA y0 x S.1 aa ac).wA aa' ac' (rfV x.n cut K S).1.ands).cs = [.int .i64 y0.inputs, .slice y0.sa y0.seqs.length y0.sc, .slice aa' ((rfV x.n cut K S).1.ands).length ac', .slice y0.oa y0.outs.length y0.oc] := by unfold NetA.cs NetA.wA zrA; rw [List.length_map, hyl]
     have hp := Hp.cgB hp hcs2
     refine h_cond_dec (fun hneg => ?_) (fun hneg => ?_)
     ·refine h_cond_t rfl rfl ?_; (repeat (first | (refine gStore ?_; refine U_stBN hp rfl rfl rfl rfl ?_; intro w hp; refine ops_run nopre rfl ?_) | (refine gRetc ?_; refine R_ret2v hp rfl ?_)))
      obtain ⟨h1, h2, h3⟩ := hnone (by rw [hsi]; dsimp only; rw [if_pos hneg]; decide) _ (Hp.of_ext hp.x)
      exact ⟨nilA, ⟨by rw [h2]; rfl, h3⟩, h1⟩
     ·have hsi2 : rfS x.n i cut K fl S i = ((rfV x.n cut K S).1.ands, xorL (rfV x.n cut K S).2 fl) := by rw [hsi, if_neg hneg]
      have hx := xorL_litP (hg.litP hneg) (by have := hg.ok.count; omega) hfl01
      unfold litP at hx
      refine h_cond_f rfl rfl ?_; skip
      refine h_cond_t (decide_eq_true hk) rfl ?_; (repeat (refine U_st0 hp rfl rfl rfl (by omega) (by decide) rfl rfl ?_; intro w hp; refine ops_run nopre rfl ?_))
      rw [hz, hrep, show fst_ x.n + i = S.2.length by omega] at hp
      have hp := hp
      rw [pad_set] at hp
      refine IH (i + 1) ((rfS x.n i cut K fl S i).1, S.2 ++ [(rfS x.n i cut K fl S i).2]) aa' ac' _ _ _ (by omega) rfl ⟨⟨by omega, hstep (by rw [hsi2]; dsimp only; omega)⟩, ?_⟩
      rw [hsi2]
      exact hp.f2.drop
   ·have hiq : i ≠ q := fun h => hk (by omega)
    have l1' : litP (litV S.2 (x.ands.getD i default).1) (firstAndL x.n + S.1.length) := hB.lit (by omega)
    have l2' : litP (litV S.2 (x.ands.getD i default).2) (firstAndL x.n + S.1.length) := hB.lit (by omega)
    unfold litP at l1' l2'
    have hfd : firstAndL (y0.wA aa ac S.1).n = firstAndL x.n := by rw [firstAndL_eq, firstAndL_eq]; show 1 + y0.inputs + (y0.seqs.length : Nat) = _; omega
    have hsi : rfS x.n q cut K fl S i = addC (firstAndL x.n) S.1 (litV S.2 (x.ands.getD i default).1) (litV S.2 (x.ands.getD i default).2) := by unfold rfS; rw [if_neg hiq]; rfl
    have hC : addAndL (y0.wA aa ac S.1).n (litV S.2 (x.ands.getD i default).1) (litV S.2 (x.ands.getD i default).2) = ({ (y0.wA aa ac S.1).n with ands := (rfS x.n q cut K fl S i).1 }, (rfS x.n q cut K fl S i).2) := by
     rw [addAndL_C, hfd, hsi]; rfl
    have hb3 : NetB (y0.wA aa ac S.1) := ⟨by show _ ≤ y0.inputs ∧ y0.inputs ≤ _; omega, by show y0.seqs.length ≤ _; omega, by show S.1.length ≤ _; omega⟩
    have hsb : -1 ≤ (rfS x.n q cut K fl S i).2 ∧ (rfS x.n q cut K fl S i).2 ≤ 1000 := by
     rw [hsi]
     rcases hB.addLit (hB.lit (l := (x.ands.getD i default).1) (by omega)) (hB.lit (l := (x.ands.getD i default).2) (by omega)) with h | ⟨h, _⟩
     ·have := (addC_len (firstAndL x.n) S.1 (litV S.2 (x.ands.getD i default).1) (litV S.2 (x.ands.getD i default).2)).2
      unfold litP at h; omega
     ·rw [h]; dsimp only; omega
    refine h_cond_f rfl rfl ?_; skip
    refine N_draw hp (by kernel_rfl) (by kernel_rfl) rfl rfl ?_; (repeat (refine N_ldB rfl rfl rfl ?_))
    refine N_call Tryz.func90 (by kernel_rfl) rfl (fun F w hp => ?_); refine Ret.mono (mapLit_h _ _ _ _ hpl (x.ands.getD i default).1 _ hp.pre.rd q1 (by omega) (by omega)) ?_; rintro _ w ⟨rfl, hx⟩; have hp := hp.ext hx; refine ⟨fun _ => hp.sub (by (repeat (first | exact List.sublist_append_left _ _ | apply List.Sublist.cons))), _, hp, ?_⟩; clear hp; refine N_ops rfl rfl ?_; (repeat (refine N_ldB rfl rfl rfl ?_))
    refine N_call Tryz.func90 (by kernel_rfl) rfl (fun F w hp => ?_); refine Ret.mono (mapLit_h _ _ _ _ hpl (x.ands.getD i default).2 _ hp.pre.rd q3 (by omega) (by omega)) ?_; rintro _ w ⟨rfl, hx⟩; have hp := hp.ext hx; refine ⟨fun _ => hp.sub (by (repeat (first | exact List.sublist_append_left _ _ | apply List.Sublist.cons))), _, hp, ?_⟩; clear hp; refine N_ops rfl rfl ?_; skip
    rw [litV_pad, litV_pad]
    refine N_f2 ?_; refine N_f2 ?_
    refine N_call Tryz.func89 (by kernel_rfl) rfl (fun F w hp => ?_); refine Ret.mono (addAnd_F (y0.wA aa ac S.1) b12 (litV S.2 (x.ands.getD i default).1) (litV S.2 (x.ands.getD i default).2) hp hb3 (by show S.1.length ≤ _; omega) (by omega) (by omega)) ?_; rintro _ w ⟨aa', ac', rfl, hp⟩; refine ⟨fun hq => Bool.noConfusion (hq.symm.trans (by kernel_rfl : flagAt _ _ = false)), _, hp, ?_⟩; clear hp; refine N_ops rfl rfl ?_; skip
    rw [hC]
    refine N_end ?_; intro w hp C; refine h_run rfl ?_; skip
    refine h_cond_dec (fun hneg => ?_) (fun hneg => ?_)
    ·refine h_cond_t rfl rfl ?_; (repeat (first | (refine gStore ?_; refine U_stBN hp rfl rfl rfl rfl ?_; intro w hp; refine ops_run nopre rfl ?_) | (refine gRetc ?_; refine R_ret2v hp rfl ?_)))
     obtain ⟨h1, h2, h3⟩ := hnone hneg _ (Hp.of_ext hp.x)
     exact ⟨nilA, ⟨by rw [h2]; rfl, h3⟩, h1⟩
    ·refine h_cond_f rfl rfl ?_; skip
     refine h_cond_f (decide_eq_false hk) rfl ?_; (repeat (refine U_st0 hp rfl rfl rfl (by omega) (by decide) rfl rfl ?_; intro w hp; refine ops_run nopre rfl ?_))
     rw [hz, hrep, show fst_ x.n + i = S.2.length by omega, pad_set] at hp
     refine IH (i + 1) ((rfS x.n q cut K fl S i).1, S.2 ++ [(rfS x.n q cut K fl S i).2]) aa' ac' _ _ _ (by omega) rfl ⟨⟨by omega, hstep hneg⟩, ?_⟩
     exact hp.f2.drop
  ·obtain rfl : i = x.ands.length := by omega
   refine h_cond_f rfl rfl ?_; (repeat (refine H_ldB hp rfl rfl ?_))
   rw [Nat.sub_self, List.replicate_zero, List.append_nil] at hp hpl
   refine h_call rfl Tryz.func91 (by kernel_rfl) rfl (copyRoots_h b12 (y0.wA aa ac S.1) x b13 c13 (nds x.n) S.2 hpl (hp.f2.f2.f4.f4.f4) hok (Nat.le_refl _) (by omega) (by show _ ≤ y0.seqs.length; omega) (by show y0.seqs.length ≤ _; omega)) ?_; rintro _ w ⟨R, oa, oc, rfl, ⟨hR, hRs⟩, hp⟩; refine ops_run nopre rfl ?_; (repeat (refine H_ldB hp rfl rfl ?_))
   have hRl : R.length = y0.seqs.length := hR
   have hRs2 : seqsOf R = x.n.seqs.map fun s => ⟨s.kind, s.init, mapL S.2 s.ins⟩ := by
    rw [hRs]
    show upTo (crF (seqsOf y0.seqs) x.n _) x.seqs.length (seqsOf y0.seqs) = _
    rw [hys, ← x.slen]
    exact cr_all beg_at.1 beg_at.2
   have hpre : (NetA.mk y0.inputs R y0.sa y0.sc S.1 aa ac (mapL S.2 x.outs) oa oc).n = finN x.n S.1 S.2 := by
    unfold NetA.n
    rw [hRs2, hyi]
    rfl
   have hfok : NetOkP (finN x.n S.1 S.2) := finN_ok hok hB (by omega)
   have hp := rNet_shut (x := ⟨y0.inputs, R, y0.sa, y0.sc, S.1, aa, ac, mapL S.2 x.outs, oa, oc⟩) (hp.f2.f3.f3)
   refine gCall ?_
   show Holds _ _ _ _ _ (.act (.call _ [.agg ⟨[.int .i64 y0.inputs, .slice y0.sa y0.seqs.length y0.sc, .slice aa S.1.length ac, .slice oa (mapL S.2 x.outs).length oc]⟩]) _)
   rw [← hRl]
   refine h_call rfl Tryz.func92 (by kernel_rfl) rfl (sweep_h ⟨y0.inputs, R, y0.sa, y0.sc, S.1, aa, ac, mapL S.2 x.outs, oa, oc⟩ _ hp.net (by rw [hpre]; exact hfok)) ?_; rintro _ w ⟨z, ⟨hz, rfl⟩, hq⟩; have hx := hq.x; have hp := hp.call1 hq; refine ops_run nopre rfl ?_; (repeat (first | (refine gStore ?_; refine U_stBN hp rfl rfl rfl rfl ?_; intro w hp; refine ops_run nopre rfl ?_) | (refine gRetc ?_; refine R_ret2v hp rfl ?_)))
   rw [hpre] at hz
   have e : rfN x.n q cut = some (sweepL (finN x.n S.1 S.2)) := by
    unfold rfN
    rw [show (tabL x.n cut (fst_ x.n + q)).2 = b from hb.symm, hKc, hfc]
    have hS' : rfTo x.n q cut K fl x.n.ands.length = some S := hS
    rw [hS']; rfl
   rw [e]
   exact ⟨z, ⟨rfl, hz⟩, Hp.tk hp 1⟩
 ·have hK2 : minL cut.length b = K := by rw [hK]; unfold cvrL; rw [if_neg hl]
  have hfl : fl = 0 := by rw [hfl]; unfold cvrF; rw [if_neg hl]
  refine h_cond_f rfl rfl ?_; (repeat (refine H_ldB hp rfl rfl ?_))
  have hp : Hp w0 _ [_, _, _] := (hp.f4.f4.f3).tk 3
  rw [hK2] at hp ⊢
  obtain ⟨aK, haK⟩ : ∃ aK, aK = a1 := ⟨_, rfl⟩
  obtain ⟨cK, hcK⟩ : ∃ cK, cK = c1 := ⟨_, rfl⟩
  rw [← haK, ← hcK] at hp ⊢
  refine h_call rfl Tryz.func86 (by kernel_rfl) rfl (emptyCopy_h x _ hp.net hok) ?_; rintro _ w ⟨y0, ⟨hy0, rfl⟩, hq⟩; have hx := hq.x; have hp := hp.call1 hq; refine ops_run nopre rfl ?_; skip
  (first | refine H_box hp ?_ | refine H_alloc hp rfl ?_); intro w b12 hx hp; refine ops_run nopre rfl ?_; (repeat (first | (refine gLoad ?_; refine H_ldB hp rfl rfl ?_) | (refine gStore ?_; refine U_stBN hp rfl rfl rfl rfl ?_; intro w hp; refine ops_run nopre rfl ?_)))
  refine h_call rfl Tryz.func87 (by kernel_rfl) rfl (leafLits_h x _ hok) ?_; rintro _ w ⟨b13, c13, rfl, hq⟩; have hx := hq.x; have hp := hp.call1 hq; refine ops_run nopre rfl ?_; (repeat (refine H_ldB hp rfl rfl ?_))
  have hya : y0.ands = [] := congrArg NetL.ands hy0
  have hyo : y0.outs = [] := congrArg NetL.outs hy0
  have hyi : y0.inputs = x.inputs := congrArg NetL.inputs hy0
  have hys : seqsOf y0.seqs = (begL x.n []).seqs := congrArg NetL.seqs hy0
  have hyl : y0.seqs.length = x.seqs.length := by rw [← seqsOf_len y0.seqs, hys, beg_at.1, x.slen]
  have hcs : y0.cs = (y0.wA y0.aa y0.ac []).cs := by unfold NetA.cs NetA.wA; rw [hya]
  have hp := (rNet_open hp.f2).f7.f7.f7.f5.f4.f6.f6.f7
  rw [hya] at hp
  have hp := Hp.cgB hp hcs
  refine h_loop4 [1, 2, 3, 6, 9, 11, 12, 13, 45, 46, 47] (fun (i : Nat) (_ : List (Int × Int) × List Int) (_ : Option Addr) (_ : Nat) => [(1, .int .i64 ((fst_ x.n + q : Nat) : Int)), (2, .slice ca cut.length cc), (3, .pointer (some ⟨b3, 0, none⟩)), (6, .pointer (some ⟨b6, 0, none⟩)), (9, .slice aK K.length cK), (11, .int .i64 fl), (12, .pointer (some ⟨b12, 0, none⟩)), (13, .slice b13 (nds x.n) c13), (45, .slice x.aa x.ands.length x.ac), (46, .int .i64 x.ands.length), (47, .int .i64 (i : Int))])
   (fun i S aa ac w' => (i ≤ x.ands.length ∧ rfTo x.n q cut K fl i = some S) ∧ Hp w0 w' [rB b12 31 [.int .i64 y0.inputs, .slice y0.sa y0.seqs.length y0.sc, .slice aa (S.1).length ac, .slice y0.oa y0.outs.length y0.oc], rO 62 2 eII aa ac S.1, rO 3 1 eI b13 c13 (S.2 ++ List.replicate (x.ands.length - i) 0), rSq y0.sa y0.sc y0.seqs, rO 3 1 eI y0.oa y0.oc y0.outs, rO 87 2 eII aK cK K, rB b6 31 (cellsV Tryz.ti31.zero), rB b3 31 x.cs])
   (fun i _ _ _ => x.ands.length - i) 0 ([], leafL x.n) y0.aa y0.ac (by first | rfl | (rw [hfl]; rfl)) ⟨⟨by omega, rfl⟩, hp⟩ ?_
  clear hp
  rintro i S aa ac w1 ⟨⟨hi, hS⟩, hp⟩ IH C
  have r := rfTo_ok hok hbel hfl01 i hi S hS
  have hB := r.b
  have rl := r.len
  have f1 := hB.f1
  have f3 := hB.alen
  have hpl : (S.2 ++ List.replicate (x.ands.length - i) (0 : Int)).length = nds x.n := by simp; omega
  refine h_run rfl ?_; skip
  refine h_cond_dec (fun hlt => ?_) (fun hlt => ?_)
  ·have hlt' : i < x.ands.length := by omega
   have hz : (firstAndL x.n + (i : Int)).toNat = fst_ x.n + i := by omega
   obtain ⟨q1, q2, q3, q4⟩ := hok.and_ hlt'
   have hrep : List.replicate (x.ands.length - i) (0 : Int) = List.replicate (x.ands.length - (i + 1) + 1) 0 := by rw [show x.ands.length - i = x.ands.length - (i + 1) + 1 by omega]
   have hne13 : b13 ≠ none := nn_of hp (X := S.2 ++ List.replicate (x.ands.length - i) (0 : Int)) (by omega)
   have hnone : (rfS x.n q cut K fl S i).2 < 0 → ∀ w, Hp w0 w [] → Hp w0 w [rNet nilA] ∧ (rfN x.n q cut).isSome = false ∧ nilA.n = (rfN x.n q cut).getD nilN := fun hneg w h => by
    have e : rfN x.n q cut = none := by
     unfold rfN
     have h1 := rfTo_stay (rfTo_no hS hneg) (m := x.n.ands.length) (by omega)
     rw [show (tabL x.n cut (fst_ x.n + q)).2 = b from hb.symm, hKc, hfc, h1]; rfl
    rw [e]
    exact ⟨hpNil h, rfl, rfl⟩
   have hstep : ¬ (rfS x.n q cut K fl S i).2 < 0 → rfTo x.n q cut K fl (i + 1) = some ((rfS x.n q cut K fl S i).1, S.2 ++ [(rfS x.n q cut K fl S i).2]) := fun h => rfTo_yes hS h
   refine h_cond_t rfl rfl ?_; (repeat (refine H_ldEN hp rfl (by omega) rfl rfl ?_))
   (first | refine H_box hp ?_ | refine H_alloc hp rfl ?_); intro w b15 hx hp; refine ops_run nopre rfl ?_; (repeat (first | (refine gLoad ?_; refine H_ldB hp rfl rfl ?_) | (refine gStore ?_; refine U_stBN hp rfl rfl rfl rfl ?_; intro w hp; refine ops_run nopre rfl ?_)))
   refine h_call rfl Tryz.func55 (by kernel_rfl) rfl (firstAnd_h x _ hok.b) ?_; rintro _ w ⟨rfl, hx⟩; have hp := hp.ext hx; refine ops_run nopre rfl ?_; skip
   refine h_cond_dec (fun hk => ?_) (fun hk => ?_)
   ·obtain rfl : i = q := by omega
    have hll := rfLits_ok hbel hB rl
    have hg := rfV_good hok hbel (C := K) hB rl
    have hgb := hg.b
    have hsi : rfS x.n i cut K fl S i = ((rfV x.n cut K S).1.ands, if (rfV x.n cut K S).2 < 0 then -1 else xorL (rfV x.n cut K S).2 fl) := by unfold rfS; rw [if_pos rfl]
    refine h_cond_t rfl rfl ?_; skip
    have hp : Hp w0 _ (rO 3 1 eI none 0 ([] : List Int) :: _) := hp.ownN (Ext.refl _) (Own.nil _ _ _ _ _)
    refine h_loop3 [1, 2, 3, 6, 9, 11, 12, 13, 16, 18, 45, 46, 47, 59, 60, 61] (fun (j : Nat) (d : Option Addr) (e : Nat) => [(1, .int .i64 ((fst_ x.n + i : Nat) : Int)), (2, .slice ca cut.length cc), (3, .pointer (some ⟨b3, 0, none⟩)), (6, .pointer (some ⟨b6, 0, none⟩)), (9, .slice aK K.length cK), (11, .int .i64 fl), (12, .pointer (some ⟨b12, 0, none⟩)), (13, .slice b13 (nds x.n) c13), (16, .int .i64 (firstAndL x.n + (i : Int))), (18, .slice d ((rfLits cut S.2).take j).length e), (45, .slice x.aa x.ands.length x.ac), (46, .int .i64 x.ands.length), (47, .int .i64 (i : Int)), (59, .slice ca cut.length cc), (60, .int .i64 cut.length), (61, .int .i64 (j : Int))])
     (fun j d e w' => j ≤ cut.length ∧ Hp w0 w' [rO 3 1 eI d e ((rfLits cut S.2).take j), rB b12 31 [.int .i64 y0.inputs, .slice y0.sa y0.seqs.length y0.sc, .slice aa (S.1).length ac, .slice y0.oa y0.outs.length y0.oc], rO 62 2 eII aa ac S.1, rO 3 1 eI b13 c13 (S.2 ++ List.replicate (x.ands.length - i) 0), rSq y0.sa y0.sc y0.seqs, rO 3 1 eI y0.oa y0.oc y0.outs, rO 87 2 eII aK cK K, rB b6 31 (cellsV Tryz.ti31.zero), rB b3 31 x.cs])
     (fun j _ _ => cut.length - j) 0 none 0 rfl ⟨by omega, hp.f1.drop⟩ ?_
    clear hp
    rintro j d e w2 ⟨hj, hp⟩ IH2 C2
    have hrl := rfLits_len cut S.2
    have htl : ((rfLits cut S.2).take j).length = j := by rw [List.length_take]; omega
    refine h_run rfl ?_; skip
    refine h_cond_dec (fun hlt2 => ?_) (fun hlt2 => ?_)
    ·have hlt2' : j < cut.length := by omega
     have hcj := hbel.2 (cut.getD j default) (getD_mem hlt2')
     have hnec : ca ≠ none := nn_of hp (X := cut) (by omega)
     have e1 : (rfLits cut S.2).take (j + 1) = (rfLits cut S.2).take j ++ [(S.2 ++ List.replicate (x.ands.length - i) (0 : Int)).getD (cut.getD j default).toNat default] := by
      rw [take_snoc (by omega), pad_get]
      congr 2
      exact map_getD (f := fun c : Int => S.2.getD c.toNat default) hlt2'
     refine h_cond_t rfl rfl ?_; (repeat (first | (refine gLoad ?_; first | refine H_ldEN hp rfl (by omega) rfl rfl ?_ | refine H_ldE hp rfl (by omega) (by omega) rfl rfl ?_) | (refine gBuild ?_; refine U_litI hp rfl rfl rfl rfl rfl rfl rfl rfl rfl rfl ?_; intro w _ hx hp; refine ops_run nopre rfl ?_)))
     refine U_append hp rfl rfl rfl rfl rfl rfl rfl (by decide) rfl (by first | omega | (simp only [List.length_append, List.length_cons, List.length_nil, List.length_take, List.length_drop, List.length_set, List.length_replicate, List.length_map]; omega)) rfl rfl ?_; intro d' e' w hp hnil; refine ops_run nopre rfl ?_; skip
     refine IH2 (j + 1) d' e' _ _ _ (by omega) (by rw [e1]; rfl) ⟨by omega, ?_⟩
     rw [e1]
     exact hp.drop
    ·obtain rfl : j = cut.length := by omega
     have htk : (rfLits cut S.2).take cut.length = rfLits cut S.2 := List.take_of_length_le (by omega)
     rw [htk] at hp ⊢
     have hzn := zrA_n hyi hyo S.1 aa ac
     have hzcs : [.int .i64 y0.inputs, .slice y0.sa y0.seqs.length y0.sc, .slice aa (S.1).length ac, .slice y0.oa y0.outs.length y0.oc] = (zrA y0 x S.1 aa ac).cs := by unfold NetA.cs zrA; rw [List.length_map, hyl]
     have hp := Hp.cgB (hp.f2.f2) hzcs
     refine h_cond_f rfl rfl ?_; skip
     refine h_call rfl Tryz.func88 (by kernel_rfl) rfl (addCover_h (zrA y0 x S.1 aa ac) b12 d aK e cK _ _ (rfLits cut S.2) K rfl rfl hp (by rw [hzn]; exact zerL_ok hok hB) (by rw [hzn]; exact hll) (by omega) hcok.2.1 hcok.nn) ?_; rintro _ w ⟨aa', ac', rfl, hp⟩; refine ops_run nopre rfl ?_; skip
     rw [hzn] at hp ⊢
     have hV : coverTo (zerL x.n S.1) (rfLits cut S.2) K K.length = rfV x.n cut K S := rfl
     rw [hV] at hp ⊢
     have hcs2 : ((zrA y0 x S.1 aa ac).wA aa' ac' (rfV x.n cut K S).1.ands).cs = [.int .i64 y0.inputs, .slice y0.sa y0.seqs.length y0.sc, .slice aa' ((rfV x.n cut K S).1.ands).length ac', .slice y0.oa y0.outs.length y0.oc] := by unfold NetA.cs NetA.wA zrA; rw [List.length_map, hyl]
     have hp := Hp.cgB hp hcs2
     refine h_cond_dec (fun hneg => ?_) (fun hneg => ?_)
     ·refine h_cond_t rfl rfl ?_; (repeat (first | (refine gStore ?_; refine U_stBN hp rfl rfl rfl rfl ?_; intro w hp; refine ops_run nopre rfl ?_) | (refine gRetc ?_; refine R_ret2v hp rfl ?_)))
      obtain ⟨h1, h2, h3⟩ := hnone (by rw [hsi]; dsimp only; rw [if_pos hneg]; decide) _ (Hp.of_ext hp.x)
      exact ⟨nilA, ⟨by rw [h2]; rfl, h3⟩, h1⟩
     ·have hsi2 : rfS x.n i cut K fl S i = ((rfV x.n cut K S).1.ands, xorL (rfV x.n cut K S).2 fl) := by rw [hsi, if_neg hneg]
      have hx := xorL_litP (hg.litP hneg) (by have := hg.ok.count; omega) hfl01
      unfold litP at hx
      refine h_cond_f rfl rfl ?_; skip
      refine h_cond_t (decide_eq_true hk) rfl ?_; (repeat (refine U_st0 hp rfl rfl rfl (by omega) (by decide) rfl rfl ?_; intro w hp; refine ops_run nopre rfl ?_))
      rw [hz, hrep, show fst_ x.n + i = S.2.length by omega] at hp
      have hp := hp
      rw [pad_set] at hp
      refine IH (i + 1) ((rfS x.n i cut K fl S i).1, S.2 ++ [(rfS x.n i cut K fl S i).2]) aa' ac' _ _ _ (by omega) rfl ⟨⟨by omega, hstep (by rw [hsi2]; dsimp only; omega)⟩, ?_⟩
      rw [hsi2]
      exact hp.f2.drop
   ·have hiq : i ≠ q := fun h => hk (by omega)
    have l1' : litP (litV S.2 (x.ands.getD i default).1) (firstAndL x.n + S.1.length) := hB.lit (by omega)
    have l2' : litP (litV S.2 (x.ands.getD i default).2) (firstAndL x.n + S.1.length) := hB.lit (by omega)
    unfold litP at l1' l2'
    have hfd : firstAndL (y0.wA aa ac S.1).n = firstAndL x.n := by rw [firstAndL_eq, firstAndL_eq]; show 1 + y0.inputs + (y0.seqs.length : Nat) = _; omega
    have hsi : rfS x.n q cut K fl S i = addC (firstAndL x.n) S.1 (litV S.2 (x.ands.getD i default).1) (litV S.2 (x.ands.getD i default).2) := by unfold rfS; rw [if_neg hiq]; rfl
    have hC : addAndL (y0.wA aa ac S.1).n (litV S.2 (x.ands.getD i default).1) (litV S.2 (x.ands.getD i default).2) = ({ (y0.wA aa ac S.1).n with ands := (rfS x.n q cut K fl S i).1 }, (rfS x.n q cut K fl S i).2) := by
     rw [addAndL_C, hfd, hsi]; rfl
    have hb3 : NetB (y0.wA aa ac S.1) := ⟨by show _ ≤ y0.inputs ∧ y0.inputs ≤ _; omega, by show y0.seqs.length ≤ _; omega, by show S.1.length ≤ _; omega⟩
    have hsb : -1 ≤ (rfS x.n q cut K fl S i).2 ∧ (rfS x.n q cut K fl S i).2 ≤ 1000 := by
     rw [hsi]
     rcases hB.addLit (hB.lit (l := (x.ands.getD i default).1) (by omega)) (hB.lit (l := (x.ands.getD i default).2) (by omega)) with h | ⟨h, _⟩
     ·have := (addC_len (firstAndL x.n) S.1 (litV S.2 (x.ands.getD i default).1) (litV S.2 (x.ands.getD i default).2)).2
      unfold litP at h; omega
     ·rw [h]; dsimp only; omega
    refine h_cond_f rfl rfl ?_; skip
    refine N_draw hp (by kernel_rfl) (by kernel_rfl) rfl rfl ?_; (repeat (refine N_ldB rfl rfl rfl ?_))
    refine N_call Tryz.func90 (by kernel_rfl) rfl (fun F w hp => ?_); refine Ret.mono (mapLit_h _ _ _ _ hpl (x.ands.getD i default).1 _ hp.pre.rd q1 (by omega) (by omega)) ?_; rintro _ w ⟨rfl, hx⟩; have hp := hp.ext hx; refine ⟨fun _ => hp.sub (by (repeat (first | exact List.sublist_append_left _ _ | apply List.Sublist.cons))), _, hp, ?_⟩; clear hp; refine N_ops rfl rfl ?_; (repeat (refine N_ldB rfl rfl rfl ?_))
    refine N_call Tryz.func90 (by kernel_rfl) rfl (fun F w hp => ?_); refine Ret.mono (mapLit_h _ _ _ _ hpl (x.ands.getD i default).2 _ hp.pre.rd q3 (by omega) (by omega)) ?_; rintro _ w ⟨rfl, hx⟩; have hp := hp.ext hx; refine ⟨fun _ => hp.sub (by (repeat (first | exact List.sublist_append_left _ _ | apply List.Sublist.cons))), _, hp, ?_⟩; clear hp; refine N_ops rfl rfl ?_; skip
    rw [litV_pad, litV_pad]
    refine N_f2 ?_; refine N_f2 ?_
    refine N_call Tryz.func89 (by kernel_rfl) rfl (fun F w hp => ?_); refine Ret.mono (addAnd_F (y0.wA aa ac S.1) b12 (litV S.2 (x.ands.getD i default).1) (litV S.2 (x.ands.getD i default).2) hp hb3 (by show S.1.length ≤ _; omega) (by omega) (by omega)) ?_; rintro _ w ⟨aa', ac', rfl, hp⟩; refine ⟨fun hq => Bool.noConfusion (hq.symm.trans (by kernel_rfl : flagAt _ _ = false)), _, hp, ?_⟩; clear hp; refine N_ops rfl rfl ?_; skip
    rw [hC]
    refine N_end ?_; intro w hp C; refine h_run rfl ?_; skip
    refine h_cond_dec (fun hneg => ?_) (fun hneg => ?_)
    ·refine h_cond_t rfl rfl ?_; (repeat (first | (refine gStore ?_; refine U_stBN hp rfl rfl rfl rfl ?_; intro w hp; refine ops_run nopre rfl ?_) | (refine gRetc ?_; refine R_ret2v hp rfl ?_)))
     obtain ⟨h1, h2, h3⟩ := hnone hneg _ (Hp.of_ext hp.x)
     exact ⟨nilA, ⟨by rw [h2]; rfl, h3⟩, h1⟩
    ·refine h_cond_f rfl rfl ?_; skip
     refine h_cond_f (decide_eq_false hk) rfl ?_; (repeat (refine U_st0 hp rfl rfl rfl (by omega) (by decide) rfl rfl ?_; intro w hp; refine ops_run nopre rfl ?_))
     rw [hz, hrep, show fst_ x.n + i = S.2.length by omega, pad_set] at hp
     refine IH (i + 1) ((rfS x.n q cut K fl S i).1, S.2 ++ [(rfS x.n q cut K fl S i).2]) aa' ac' _ _ _ (by omega) rfl ⟨⟨by omega, hstep hneg⟩, ?_⟩
     exact hp.f2.drop
  ·obtain rfl : i = x.ands.length := by omega
   refine h_cond_f rfl rfl ?_; (repeat (refine H_ldB hp rfl rfl ?_))
   rw [Nat.sub_self, List.replicate_zero, List.append_nil] at hp hpl
   refine h_call rfl Tryz.func91 (by kernel_rfl) rfl (copyRoots_h b12 (y0.wA aa ac S.1) x b13 c13 (nds x.n) S.2 hpl (hp.f2.f2.f4.f4.f4) hok (Nat.le_refl _) (by omega) (by show _ ≤ y0.seqs.length; omega) (by show y0.seqs.length ≤ _; omega)) ?_; rintro _ w ⟨R, oa, oc, rfl, ⟨hR, hRs⟩, hp⟩; refine ops_run nopre rfl ?_; (repeat (refine H_ldB hp rfl rfl ?_))
   have hRl : R.length = y0.seqs.length := hR
   have hRs2 : seqsOf R = x.n.seqs.map fun s => ⟨s.kind, s.init, mapL S.2 s.ins⟩ := by
    rw [hRs]
    show upTo (crF (seqsOf y0.seqs) x.n _) x.seqs.length (seqsOf y0.seqs) = _
    rw [hys, ← x.slen]
    exact cr_all beg_at.1 beg_at.2
   have hpre : (NetA.mk y0.inputs R y0.sa y0.sc S.1 aa ac (mapL S.2 x.outs) oa oc).n = finN x.n S.1 S.2 := by
    unfold NetA.n
    rw [hRs2, hyi]
    rfl
   have hfok : NetOkP (finN x.n S.1 S.2) := finN_ok hok hB (by omega)
   have hp := rNet_shut (x := ⟨y0.inputs, R, y0.sa, y0.sc, S.1, aa, ac, mapL S.2 x.outs, oa, oc⟩) (hp.f2.f3.f3)
   refine gCall ?_
   show Holds _ _ _ _ _ (.act (.call _ [.agg ⟨[.int .i64 y0.inputs, .slice y0.sa y0.seqs.length y0.sc, .slice aa S.1.length ac, .slice oa (mapL S.2 x.outs).length oc]⟩]) _)
   rw [← hRl]
   refine h_call rfl Tryz.func92 (by kernel_rfl) rfl (sweep_h ⟨y0.inputs, R, y0.sa, y0.sc, S.1, aa, ac, mapL S.2 x.outs, oa, oc⟩ _ hp.net (by rw [hpre]; exact hfok)) ?_; rintro _ w ⟨z, ⟨hz, rfl⟩, hq⟩; have hx := hq.x; have hp := hp.call1 hq; refine ops_run nopre rfl ?_; (repeat (first | (refine gStore ?_; refine U_stBN hp rfl rfl rfl rfl ?_; intro w hp; refine ops_run nopre rfl ?_) | (refine gRetc ?_; refine R_ret2v hp rfl ?_)))
   rw [hpre] at hz
   have e : rfN x.n q cut = some (sweepL (finN x.n S.1 S.2)) := by
    unfold rfN
    rw [show (tabL x.n cut (fst_ x.n + q)).2 = b from hb.symm, hKc, hfc]
    have hS' : rfTo x.n q cut K fl x.n.ands.length = some S := hS
    rw [hS']; rfl
   rw [e]
   exact ⟨z, ⟨rfl, hz⟩, Hp.tk hp 1⟩
end Go.Proofs
