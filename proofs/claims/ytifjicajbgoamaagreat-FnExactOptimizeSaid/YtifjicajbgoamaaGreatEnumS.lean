/- The contracts of the reference's functions that enumerate cuts: unions of two selections; each under its stated conditions. -/
import Derived.Test.YtifjicajbgoamaaGreatEnum
set_option linter.all false
namespace Go.Proofs
open Go.Xw
set_option maxRecDepth 100000
set_option maxHeartbeats 1500000
attribute [local irreducible] Holds elemAddr
theorem mergeS_h (a b : Option Addr) (ca cb : Nat) (xs ys : List Int) (w0 : World) (ha : Rd w0 a 1 eI xs) (hb : Rd w0 b 1 eI ys) (hl : xs.length ≤ 1000) (hl2 : ys.length ≤ 1000) :
  Ret Tryz.prog 143 [.slice a xs.length ca, .slice b ys.length cb] w0 (fun v w => ∃ a' c', v = .tuple ⟨[.slice a' (mergeL xs ys).length c', .bool (mergeOk xs ys)]⟩ ∧ Hp w0 w [rO 3 1 eI a' c' (mergeL xs ys)]) :=
 (specMergeCuts_ok a b ca cb xs ys w0 ha.h hb.h (by omega) (by omega)).mono fun _ _ h => Go.Xw.MergeQ.hp h
theorem cutLessS_h (a b : Option Addr) (ca cb : Nat) (xs ys : List Int) (w0 : World) (ha : Rd w0 a 1 eI xs) (hb : Rd w0 b 1 eI ys) (hl : xs.length ≤ 1000) :
  Ret Tryz.prog 147 [.slice a xs.length ca, .slice b ys.length cb] w0 (fun v w => v = .bool (cutLt xs ys) ∧ Ext w0 w) :=
 specCutLess_ok a b ca cb xs ys w0 ha.h hb.h (by omega)
theorem l13Within_h (a b : Option Addr) (ca cb : Nat) (Y X : List Int) (w0 : World) (ha : Rd w0 a 1 eI Y) (hb : Rd w0 b 1 eI X) (hl : X.length ≤ 1000) (hl2 : Y.length ≤ 1000) :
  Ret Tryz.prog 145 [.slice a Y.length ca, .slice b X.length cb] w0 (fun v w => v = .bool (pB (∀ x, x ∈ Y → x ∈ X)) ∧ Ext w0 w) := by
 refine enter Tryz.S145ok _ _ rfl rfl (by show _ ≤ _; simp only [List.length]; decide) (fun C => ?_); have hp := Hp.nil w0; refine h_run rfl ?_; skip
 refine h_loop [0, 1, 5] (fun (i : Nat) => [(0, .slice a Y.length ca), (1, .slice b X.length cb), (5, .int .i64 (i : Int))])
  (fun i w' => i ≤ Y.length ∧ (∀ j, j < i → Y.getD j default ∈ X) ∧ Hp w0 w' []) (fun i => Y.length - i) 0 rfl ⟨by omega, fun j hj => by omega, hp⟩ ?_
 clear hp
 rintro i w1 ⟨hi, hall, hp⟩ IH C
 refine h_run rfl ?_; skip
 refine h_cond_dec (fun hlt => ?_) (fun hlt => ?_)
 ·have hlt' : i < Y.length := by omega
  refine h_cond_t rfl rfl ?_; (repeat (refine H_ldEN hp rfl (by omega) rfl rfl ?_))
  by_cases hm : Y.getD i default ∈ X
  ·refine h_call rfl Tryz.func25 (by kernel_rfl) rfl ((l13Has_h b cb X.length X rfl (Y.getD i default) _ hp.rd (by omega)).yes hm) ?_; rintro _ w ⟨rfl, hx⟩; have hp := hp.ext hx; refine ops_run nopre rfl ?_; skip
   refine h_cond_f rfl rfl ?_; skip
   refine IH (i + 1) _ _ _ (by omega) rfl ⟨by omega, fun j hj => ?_, hp⟩
   by_cases hj2 : j < i
   ·exact hall j hj2
   ·obtain rfl : j = i := by omega
    exact hm
  ·refine h_call rfl Tryz.func25 (by kernel_rfl) rfl ((l13Has_h b cb X.length X rfl (Y.getD i default) _ hp.rd (by omega)).no hm) ?_; rintro _ w ⟨rfl, hx⟩; have hp := hp.ext hx; refine ops_run nopre rfl ?_; skip
   refine h_cond_t rfl rfl ?_; (repeat (refine R_ret ?_))
   exact ⟨by rw [pB_no' fun h => hm (h _ (getD_memR hlt'))], hp.x⟩
 ·refine h_cond_f rfl rfl ?_; (repeat (refine R_ret ?_))
  obtain rfl : i = Y.length := by omega
  have hyes : ∀ x, x ∈ Y → x ∈ X := fun x hx => by
   obtain ⟨j, hj, rfl⟩ := List.mem_iff_getElem.1 hx
   have := hall j hj
   rwa [List.getD_eq_getElem?_getD, List.getElem?_eq_getElem hj] at this
  exact ⟨by rw [pB_iff.2 hyes], hp.x⟩
def outC (L : List (List Int)) (u : List Int) (d : Bool) (i : Nat) : List (List Int) := match d with
 | true => insC (L.take i) u
 | false => L.take i
theorem l13Add_h (a : Option Addr) (c : Nat) (R : List (RowA Int)) (au : Option Addr) (cu : Nat) (u : List Int) (w0 : World) (hA : Rd w0 a 1 eRo R) (hAr : RowsR w0 R) (hU : Rd w0 au 1 eI u) (hl : R.length ≤ 100) (hg : ∀ r, r ∈ R → r.ins.length ≤ 4) (hul : u.length ≤ 4) :
  Ret Tryz.prog 144 [.slice a R.length c, .slice au u.length cu] w0 (fun v w => ∃ b c' R', (v = .slice b R'.length c' ∧ insOf R' = insC (insOf R) u ∧ ∀ r, r ∈ R' → r ∈ R ∨ r = ⟨u, au, cu⟩) ∧ Hp w0 w [rO 24 1 eRo b c' R']) := by
 refine enter Tryz.S144ok _ _ rfl rfl (by show _ ≤ _; simp only [List.length]; decide) (fun C => ?_); have hp := Hp.nil w0; refine h_run rfl ?_; skip
 refine H_lit hp (eRo (α := Int)) ([] : List (RowA Int)) rfl rfl rfl rfl (s := 1) rfl (by decide) (by infer_instance) (by rfl) (by rfl) (by rfl) (by decide) ?_; intro w b5 hx hp; refine ops_run nopre rfl ?_; skip
 refine h_loop5 [0, 1, 5, 6, 7] (fun (i : Nat) (d : Bool) (O : List (RowA Int)) (b2 : Option Addr) (c2 : Nat) => [(0, .slice a R.length c), (1, .slice au u.length cu), (5, .slice b2 O.length c2), (6, .bool d), (7, .int .i64 (i : Int))])
  (fun i d O b2 c2 w' => (i ≤ R.length ∧ insOf O = outC (insOf R) u d i ∧ (∀ r, r ∈ O → r ∈ R ∨ r = ⟨u, au, cu⟩) ∧ (d = false → ∀ j, j < i → cutLt ((insOf R).getD j default) u = true) ∧ (d = true → ∃ j, j < i ∧ cutLt ((insOf R).getD j default) u = false)) ∧ Hp w0 w' [rO 24 1 eRo b2 c2 O]) (fun i _ _ _ _ => R.length - i) 0 false [] _ _ rfl ⟨⟨by omega, rfl, fun r hr => by simp at hr, fun _ j hj => by omega, fun h => by cases h⟩, hp⟩ ?_
 clear hp
 rintro i d O b2 c2 w1 ⟨⟨hi, hO, hOm, hd0, hd1⟩, hp⟩ IH C
 have hil : (insOf R).length = R.length := insOf_len R
 have hOl : O.length ≤ R.length + 1 := by
  have h1 := congrArg List.length hO
  rw [insOf_len] at h1
  cases d
  ·have h2 : (outC (insOf R) u false i).length = ((insOf R).take i).length := rfl
   rw [List.length_take] at h2
   omega
  ·have h2 : (outC (insOf R) u true i).length ≤ ((insOf R).take i).length + 1 := insC_len
   rw [List.length_take] at h2
   omega
 refine h_run rfl ?_; skip
 refine h_cond_dec (fun hlt => ?_) (fun hlt => ?_)
 ·have hlt' : i < R.length := by omega
  have hri := hAr.at_ hlt'
  have hgi := hg _ (getD_memR hlt')
  have hgt : (insOf R).getD i default = (R.getD i default).ins := insOf_get R i
  refine h_cond_t rfl rfl ?_; skip
  cases d
  ·have hall := hd0 rfl
   have hno : outC (insOf R) u false (i + 1) = outC (insOf R) u false i ++ [(R.getD i default).ins] := by
    show (insOf R).take (i + 1) = (insOf R).take i ++ _
    rw [take_snocC (by omega), hgt]
   (repeat (first | (refine gGuard ?_; refine h_guard_y rfl nopre rfl ?_) | (refine gLoad ?_; refine H_ldEN hp rfl (by omega) rfl rfl ?_)))
   refine h_call rfl Tryz.func147 (by kernel_rfl) rfl (cutLessS_h _ _ _ _ (R.getD i default).ins u _ hp.rd hp.rd (by omega)) ?_; rintro _ w ⟨rfl, hx⟩; have hp := hp.ext hx; refine ops_run nopre rfl ?_; (repeat (refine h_guard_y rfl nopre rfl ?_))
   by_cases hc : cutLt (R.getD i default).ins u = true
   ·refine h_cond_f (by rw [hc]; rfl) rfl ?_; (repeat (refine H_ldEN hp rfl (by omega) rfl rfl ?_))
    refine H_lit hp (eRo (α := Int)) [R.getD i default] rfl rfl rfl rfl (s := 1) rfl (by decide) (by infer_instance) (by rfl) (by rfl) (by rfl) (by decide) ?_; intro w b67 hx hp; refine ops_run nopre rfl ?_; skip
    refine U_append hp rfl rfl rfl rfl rfl rfl rfl (by decide) rfl (by first | omega | (simp only [List.length_append, List.length_cons, List.length_nil, List.length_take, List.length_drop, List.length_set, List.length_replicate, List.length_map]; omega)) rfl rfl ?_; intro b4 c4 w hp hnil; refine ops_run nopre rfl ?_; skip
    refine IH (i + 1) false (O ++ [R.getD i default]) b4 c4 _ _ _ (by omega) rfl ⟨⟨by omega, ?_, fun r hr => ?_, fun _ j hj => ?_, fun h => (by cases h)⟩, hp.drop⟩
    ·rw [hno, ← hO]
     unfold insOf
     rw [List.map_append]
     rfl
    ·rw [List.mem_append] at hr
     rcases hr with hr | hr
     ·exact hOm r hr
     ·rw [List.mem_singleton.1 hr]; exact .inl (getD_memR hlt')
    ·by_cases hj2 : j < i
     ·exact hall j hj2
     ·obtain rfl : j = i := by omega
      rw [hgt]; exact hc
   ·have hc' : cutLt (R.getD i default).ins u = false := by simpa using hc
    have hop := insC_open (L := insOf R) (u := u) (i := i) (by omega) hall (by rw [hgt]; exact hc')
    rw [hgt] at hop
    have hex : ∃ j, j < i + 1 ∧ cutLt ((insOf R).getD j default) u = false := ⟨i, by omega, by rw [hgt]; exact hc'⟩
    refine h_cond_t (by rw [hc']; rfl) rfl ?_; skip
    refine H_lit hp (eRo (α := Int)) [(⟨u, au, cu⟩ : RowA Int)] rfl rfl rfl rfl (s := 1) rfl (by decide) (by infer_instance) (by rfl) (by rfl) (by rfl) (by decide) ?_; intro w b66 hx hp; refine ops_run nopre rfl ?_; skip
    refine U_append hp rfl rfl rfl rfl rfl rfl rfl (by decide) rfl (by first | omega | (simp only [List.length_append, List.length_cons, List.length_nil, List.length_take, List.length_drop, List.length_set, List.length_replicate, List.length_map]; omega)) rfl rfl ?_; intro b3 c3 w hp hnil; refine ops_run nopre rfl ?_; (repeat (refine H_ldEN hp rfl (by omega) rfl rfl ?_))
    refine h_call rfl Tryz.func147 (by kernel_rfl) rfl (cutLessS_h _ _ _ _ u (R.getD i default).ins _ hp.rd hp.rd (by omega)) ?_; rintro _ w ⟨rfl, hx⟩; have hp := hp.ext hx; refine ops_run nopre rfl ?_; skip
    have hOu : insOf (O ++ [(⟨u, au, cu⟩ : RowA Int)]) = (insOf R).take i ++ [u] := by
     have h1 : insOf O = (insOf R).take i := hO
     rw [← h1]
     unfold insOf
     rw [List.map_append]
     rfl
    by_cases hs : (R.getD i default).ins = u
    ·refine h_cond_t (by rw [hs, cutLt_irr]; rfl) rfl ?_; skip
     refine IH (i + 1) true (O ++ [(⟨u, au, cu⟩ : RowA Int)]) b3 c3 _ _ _ (by omega) rfl ⟨⟨by omega, ?_, fun r hr => ?_, fun h => (by cases h), fun _ => hex⟩, hp.drop⟩
     ·rw [hOu]
      show _ = insC ((insOf R).take (i + 1)) u
      rw [hop, if_pos hs]
     ·rw [List.mem_append] at hr
      rcases hr with hr | hr
      ·exact hOm r hr
      ·exact .inr (List.mem_singleton.1 hr)
    ·have hcu : cutLt u (R.getD i default).ins = true := by
      cases hq : cutLt u (R.getD i default).ins with
      | true => rfl
      | false => exact absurd (cutLt_tri hc' hq) hs
     refine h_cond_f (by rw [hcu]; rfl) rfl ?_; (repeat (refine H_ldEN hp rfl (by omega) rfl rfl ?_))
     have hp := hp.drop
     refine H_lit hp (eRo (α := Int)) [R.getD i default] rfl rfl rfl rfl (s := 1) rfl (by decide) (by infer_instance) (by rfl) (by rfl) (by rfl) (by decide) ?_; intro w b67 hx hp; refine ops_run nopre rfl ?_; skip
     refine U_append hp rfl rfl rfl rfl rfl rfl rfl (by decide) rfl (by first | omega | (simp only [List.length_append, List.length_cons, List.length_nil, List.length_take, List.length_drop, List.length_set, List.length_replicate, List.length_map]; omega)) rfl rfl ?_; intro b4 c4 w hp hnil; refine ops_run nopre rfl ?_; skip
     refine IH (i + 1) true ((O ++ [(⟨u, au, cu⟩ : RowA Int)]) ++ [R.getD i default]) b4 c4 _ _ _ (by omega) rfl ⟨⟨by omega, ?_, fun r hr => ?_, fun h => (by cases h), fun _ => hex⟩, hp.drop⟩
     ·show _ = insC ((insOf R).take (i + 1)) u
      rw [hop, if_neg hs, ← hOu]
      unfold insOf
      rw [List.map_append]
      rfl
     ·rw [List.mem_append, List.mem_append] at hr
      rcases hr with (hr | hr) | hr
      ·exact hOm r hr
      ·exact .inr (List.mem_singleton.1 hr)
      ·rw [List.mem_singleton.1 hr]; exact .inl (getD_memR hlt')
  ·obtain ⟨q, q1, q2⟩ := hd1 rfl
   have hmo : outC (insOf R) u true (i + 1) = outC (insOf R) u true i ++ [(R.getD i default).ins] := by
    show insC ((insOf R).take (i + 1)) u = insC ((insOf R).take i) u ++ _
    rw [take_snocC (by omega), hgt]
    refine insC_more ⟨(insOf R).getD q default, ?_, q2⟩
    have hg : ((insOf R).take i).getD q default = (insOf R).getD q default := by simp [List.getD_eq_getElem?_getD, List.getElem?_take, q1]
    rw [← hg]
    exact getD_memR (by rw [List.length_take]; omega)
   (repeat (refine h_guard_n rfl nopre rfl ?_))
   refine h_cond_f rfl rfl ?_; (repeat (refine H_ldEN hp rfl (by omega) rfl rfl ?_))
   refine H_lit hp (eRo (α := Int)) [R.getD i default] rfl rfl rfl rfl (s := 1) rfl (by decide) (by infer_instance) (by rfl) (by rfl) (by rfl) (by decide) ?_; intro w b67 hx hp; refine ops_run nopre rfl ?_; skip
   refine U_append hp rfl rfl rfl rfl rfl rfl rfl (by decide) rfl (by first | omega | (simp only [List.length_append, List.length_cons, List.length_nil, List.length_take, List.length_drop, List.length_set, List.length_replicate, List.length_map]; omega)) rfl rfl ?_; intro b4 c4 w hp hnil; refine ops_run nopre rfl ?_; skip
   refine IH (i + 1) true (O ++ [R.getD i default]) b4 c4 _ _ _ (by omega) rfl ⟨⟨by omega, ?_, fun r hr => ?_, fun h => (by cases h), fun _ => ⟨q, by omega, q2⟩⟩, hp.drop⟩
   ·rw [hmo, ← hO]
    unfold insOf
    rw [List.map_append]
    rfl
   ·rw [List.mem_append] at hr
    rcases hr with hr | hr
    ·exact hOm r hr
    ·rw [List.mem_singleton.1 hr]; exact .inl (getD_memR hlt')
 ·obtain rfl : i = R.length := by omega
  have htk : (insOf R).take R.length = insOf R := List.take_of_length_le (by omega)
  refine h_cond_f rfl rfl ?_; skip
  cases d
  ·have e : insC (insOf R) u = insOf O ++ [u] := by
    have h1 : insOf O = (insOf R).take R.length := hO
    rw [h1, htk]
    exact insC_all fun j hj => hd0 rfl j (by omega)
   skip
   refine h_cond_t rfl rfl ?_; skip
   refine H_lit hp (eRo (α := Int)) [(⟨u, au, cu⟩ : RowA Int)] rfl rfl rfl rfl (s := 1) rfl (by decide) (by infer_instance) (by rfl) (by rfl) (by rfl) (by decide) ?_; intro w b66 hx hp; refine ops_run nopre rfl ?_; skip
   refine U_append hp rfl rfl rfl rfl rfl rfl rfl (by decide) rfl (by first | omega | (simp only [List.length_append, List.length_cons, List.length_nil, List.length_take, List.length_drop, List.length_set, List.length_replicate, List.length_map]; omega)) rfl rfl ?_; intro b3 c3 w hp hnil; refine ops_run nopre rfl ?_; (repeat (refine R_ret ?_))
   refine ⟨b3, c3, O ++ [(⟨u, au, cu⟩ : RowA Int)], ⟨rfl, ?_, fun r hr => ?_⟩, hp.drop⟩
   ·rw [e]
    unfold insOf
    rw [List.map_append]
    rfl
   ·rw [List.mem_append] at hr
    rcases hr with hr | hr
    ·exact hOm r hr
    ·exact .inr (List.mem_singleton.1 hr)
  ·skip
   refine h_cond_f rfl rfl ?_; (repeat (refine R_ret ?_))
   refine ⟨b2, c2, O, ⟨rfl, ?_, hOm⟩, hp⟩
   have h1 : insOf O = insC ((insOf R).take R.length) u := hO
   rw [h1, htk]
theorem l13Join_h (a b : Option Addr) (ca cb : Nat) (RA RB : List (RowA Int)) (w0 : World) (hA : Rd w0 a 1 eRo RA) (hAr : RowsR w0 RA) (hB : Rd w0 b 1 eRo RB) (hBr : RowsR w0 RB) (hla : RA.length ≤ 8) (hlb : RB.length ≤ 8) (hgA : ∀ r, r ∈ RA → r.ins.length ≤ 4) (hgB : ∀ r, r ∈ RB → r.ins.length ≤ 4) :
  Ret Tryz.prog 131 [.slice a RA.length ca, .slice b RB.length cb] w0 (fun v w => ∃ b' c' R P, (v = .slice b' R.length c' ∧ insOf R = selL (insOf RA) (insOf RB) ∧ ∀ r, r ∈ R → r ∈ P) ∧ Hp w0 w [rO 24 1 eRo b' c' R, rRows 3 1 eI P]) := by
 refine enter Tryz.S131ok _ _ rfl rfl (by show _ ≤ _; simp only [List.length]; decide) (fun C => ?_); have hp := Hp.nil w0; refine h_run rfl ?_; skip
 refine H_lit hp (eRo (α := Int)) ([] : List (RowA Int)) rfl rfl rfl rfl (s := 1) rfl (by decide) (by infer_instance) (by rfl) (by rfl) (by rfl) (by decide) ?_; intro w b5 hx hp; refine ops_run nopre rfl ?_; skip
 have hp := (rRows_nil (e := 3) (s := 1) (enc := eI) hp).f1
 refine h_loop4 [0, 1, 5, 6] (fun (i : Nat) (R : List (RowA Int)) (b' : Option Addr) (c' : Nat) => [(0, .slice a RA.length ca), (1, .slice b RB.length cb), (5, .slice b' R.length c'), (6, .int .i64 (i : Int))])
  (fun i R b' c' w' => i ≤ RA.length ∧ insOf R = ((insOf RA).take i).foldl (joinR (insOf RB)) [] ∧ ∃ P, (∀ r, r ∈ R → r ∈ P) ∧ Hp w0 w' [rO 24 1 eRo b' c' R, rRows 3 1 eI P]) (fun i _ _ _ => RA.length - i) 0 [] _ _ rfl ⟨by omega, rfl, [], fun r hr => hr, hp⟩ ?_
 clear hp
 rintro i R b' c' w1 ⟨hi, hR, P, hRP, hp⟩ IH C
 refine h_run rfl ?_; skip
 refine h_cond_dec (fun hlt => ?_) (fun hlt => ?_)
 ·have hlt' : i < RA.length := by omega
  have hxr := hAr.at_ hlt'
  refine h_cond_t rfl rfl ?_; skip
  refine h_loop4 [0, 1, 5, 6, 7] (fun (j : Nat) (R : List (RowA Int)) (b' : Option Addr) (c' : Nat) => [(0, .slice a RA.length ca), (1, .slice b RB.length cb), (5, .slice b' R.length c'), (6, .int .i64 (i : Int)), (7, .int .i64 (j : Int))])
   (fun j R b' c' w' => j ≤ RB.length ∧ insOf R = joinR ((insOf RB).take j) (((insOf RA).take i).foldl (joinR (insOf RB)) []) (RA.getD i default).ins ∧ ∃ P, (∀ r, r ∈ R → r ∈ P) ∧ Hp w0 w' [rO 24 1 eRo b' c' R, rRows 3 1 eI P]) (fun j _ _ _ => RB.length - j) 0 R b' c' rfl ⟨by omega, hR, P, hRP, hp⟩ ?_
  clear hp hR hRP P
  rintro j R b' c' w1 ⟨hj, hR, P, hRP, hp⟩ IH2 C
  refine h_run rfl ?_; skip
  refine h_cond_dec (fun hlt2 => ?_) (fun hlt2 => ?_)
  ·have hlt2' : j < RB.length := by omega
   have hyr := hBr.at_ hlt2'
   have g1 := hgA _ (getD_memR hlt')
   have g2 := hgB _ (getD_memR hlt2')
   have hRl : R.length ≤ 64 := by
    have h1 := joinR_len (x := (RA.getD i default).ins) (b := (insOf RB).take j) (L := ((insOf RA).take i).foldl (joinR (insOf RB)) [])
    have h2 := joinF_len (b := insOf RB) (m := 8) (by rw [insOf_len]; omega) (a := (insOf RA).take i) (L := [])
    rw [← hR, insOf_len, List.length_take, insOf_len] at h1
    rw [List.length_take, insOf_len, List.length_nil] at h2
    have : min i RA.length ≤ 7 := by omega
    have h3 := Nat.mul_le_mul_right 8 this
    omega
   have hRg : ∀ r, r ∈ R → r.ins.length ≤ 4 := fun r hr => by
    have hm : r.ins ∈ insOf R := List.mem_map.2 ⟨r, hr, rfl⟩
    rw [hR] at hm
    exact mem_joinR (P := fun u => u.length ≤ 4) (mem_joinF (P := fun u => u.length ≤ 4) (by simp) fun x _ y _ h => (mrg_good h).1) (fun y _ h => (mrg_good h).1) _ hm
   have hjs : joinR ((insOf RB).take (j + 1)) (((insOf RA).take i).foldl (joinR (insOf RB)) []) (RA.getD i default).ins = joinS (RA.getD i default).ins (insOf R) (RB.getD j default).ins := by
    rw [take_snocC (by rw [insOf_len]; exact hlt2'), joinR_snoc, ← hR, insOf_get]
   refine h_cond_t rfl rfl ?_; skip
   refine D_draw hp (by kernel_rfl) (by kernel_rfl) rfl rfl ?_; intro w hx hp; have hs := hp; (repeat (refine D_ldEN rfl (by omega) rfl rfl rfl ?_))
   refine h_callq rfl Tryz.func143 (by kernel_rfl) rfl (mergeS_h _ _ _ _ (RA.getD i default).ins (RB.getD j default).ins _ hp.rd hp.rd (by omega) (by omega)) ?_; rintro _ w ⟨au, cu, rfl, hq⟩; have hx := hq.x; have hp := hp.call1 hq; have hs := hs.ext hx; refine ⟨fun _ => hs, ?_⟩; refine D_ops rfl rfl ?_; skip
   skip
   by_cases ho : mergeOk (RA.getD i default).ins (RB.getD j default).ins = true
   ·have hul : (mergeL (RA.getD i default).ins (RB.getD j default).ins).length ≤ 4 := mergeL_len _ _
    have hjs2 : joinS (RA.getD i default).ins (insOf R) (RB.getD j default).ins = insC (insOf R) (mergeL (RA.getD i default).ins (RB.getD j default).ins) := by
     unfold joinS; rw [if_pos ho, merge_yes ho]
    rw [hjs2] at hjs
    refine h_cond_t ho rfl ?_; skip
    refine h_call rfl Tryz.func144 (by kernel_rfl) rfl (l13Add_h _ _ R au cu (mergeL (RA.getD i default).ins (RB.getD j default).ins) _ hp.rd (hp.rows hRP) hp.rd (by omega) hRg hul) ?_; rintro _ w ⟨b2, c2, R2, ⟨rfl, hR2, hRm⟩, hq⟩; have hx := hq.x; have hp := hp.call1 hq; refine ops_run nopre rfl ?_; skip
    refine IH2 (j + 1) R2 b2 c2 _ _ _ (by omega) rfl ⟨by omega, by rw [hjs, hR2], P ++ [(⟨mergeL (RA.getD i default).ins (RB.getD j default).ins, au, cu⟩ : RowA Int)], fun r hr => ?_, (rRows_add (y := (⟨mergeL (RA.getD i default).ins (RB.getD j default).ins, au, cu⟩ : RowA Int)) ((hp.f2.drop).f2.f2)).f1⟩
    rw [List.mem_append]
    rcases hRm r hr with h | h
    ·exact .inl (hRP r h)
    ·exact .inr (List.mem_singleton.2 h)
   ·refine h_cond_f (by simpa using ho) rfl ?_; skip
    refine IH2 (j + 1) R b' c' _ _ _ (by omega) rfl ⟨by omega, ?_, P, hRP, hp.drop⟩
    rw [hjs]
    unfold joinS
    rw [if_neg ho]
  ·refine h_cond_f rfl rfl ?_; skip
   obtain rfl : j = RB.length := by omega
   refine IH (i + 1) R b' c' _ _ _ (by omega) rfl ⟨by omega, ?_, P, hRP, hp⟩
   rw [hR, take_snocC (by rw [insOf_len]; exact hlt'), List.foldl_append, List.take_of_length_le (by rw [insOf_len]; exact Nat.le_refl _), ← insOf_get]
   rfl
 ·obtain rfl : i = RA.length := by omega
  have hRJ : insOf R = joinL (insOf RA) (insOf RB) := by rw [hR, List.take_of_length_le (by rw [insOf_len]; exact Nat.le_refl _)]; rfl
  have hRl : R.length ≤ 64 := by
   have := joinL_len (a := insOf RA) (b := insOf RB) (by rw [insOf_len]; exact hla) (by rw [insOf_len]; exact hlb)
   rw [← hRJ, insOf_len] at this
   exact this
  have hRg : ∀ r, r ∈ R → r.ins.length ≤ 4 := fun r hr => by
   have hm : r.ins ∈ insOf R := List.mem_map.2 ⟨r, hr, rfl⟩
   rw [hRJ] at hm
   exact (joinL_good _ _ _ hm).1
  have hsrt : SrtC (insOf R) := by rw [hRJ]; exact srt_joinL _ _
  have hsel : selL (insOf RA) (insOf RB) = ((insOf R).filter fun u => !pB (domP (insOf R) u)).take 7 := by rw [hRJ]; rfl
  rw [hsel]
  refine h_cond_f rfl rfl ?_; skip
  refine H_lit hp (eRo (α := Int)) ([] : List (RowA Int)) rfl rfl rfl rfl (s := 1) rfl (by decide) (by infer_instance) (by rfl) (by rfl) (by rfl) (by decide) ?_; intro w b10 hx hp; refine ops_run nopre rfl ?_; skip
  refine h_loop4 [5, 10, 11] (fun (i : Nat) (O : List (RowA Int)) (b2 : Option Addr) (c2 : Nat) => [(5, .slice b' R.length c'), (10, .slice b2 O.length c2), (11, .int .i64 (i : Int))])
   (fun i O b2 c2 w' => (i ≤ R.length ∧ O.length ≤ 7 ∧ insOf O = ((insOf R).take i).filter (fun u => !pB (domP (insOf R) u)) ∧ ∀ r, r ∈ O → r ∈ R) ∧ Hp w0 w' [rO 24 1 eRo b2 c2 O, rO 24 1 eRo b' c' R, rRows 3 1 eI P]) (fun i _ _ _ => R.length - i) 0 [] _ _ rfl ⟨⟨by omega, by simp, rfl, fun r hr => by simp at hr⟩, hp⟩ ?_
  clear hp
  rintro i O b2 c2 w1 ⟨⟨hi, hO7, hO, hOR⟩, hp⟩ IH C
  have hspl : (insOf R).filter (fun u => !pB (domP (insOf R) u)) = insOf O ++ ((insOf R).drop i).filter (fun u => !pB (domP (insOf R) u)) := by
   rw [hO, ← List.filter_append, List.take_append_drop]
  have hOl := insOf_len O
  refine h_run rfl ?_; skip
  refine h_guard_by (fun hlt2 => ?_) (fun hlt2 => ?_); all_goals (rw [hlt2]; (first | replace hlt2 := of_decide_eq_true hlt2 | replace hlt2 := of_decide_eq_false hlt2 | skip); (repeat (refine gGuard ?_; first | refine h_guard_y rfl nopre rfl ?_ | refine h_guard_n rfl nopre rfl ?_)))
  ·have hlt2' : i < R.length := by omega
   refine h_cond_dec (fun hlt7 => ?_) (fun hlt7 => ?_)
   ·have hri := hRg _ (getD_memR hlt2')
    have hdk : ∀ q, q < R.length → (R.getD q default).ins.length < (R.getD i default).ins.length → q < i := fun q hq hl => by
     refine Classical.byContradiction fun hn => ?_
     by_cases hqi : q = i
     ·rw [hqi] at hl; omega
     ·have h1 := List.pairwise_iff_getElem.1 hsrt i q (by rw [insOf_len]; omega) (by rw [insOf_len]; omega) (by omega)
      have e1 : (insOf R)[i]'(by rw [insOf_len]; omega) = (R.getD i default).ins := by
       rw [← insOf_get, List.getD_eq_getElem?_getD, List.getElem?_eq_getElem (by rw [insOf_len]; omega)]; rfl
      have e2 : (insOf R)[q]'(by rw [insOf_len]; omega) = (R.getD q default).ins := by
       rw [← insOf_get, List.getD_eq_getElem?_getD, List.getElem?_eq_getElem (by rw [insOf_len]; omega)]; rfl
      rw [e1, e2] at h1
      have := cutLt_len h1
      omega
    have hdom : ∀ fr : Bool, ∀ j, j ≤ i → (fr = true ↔ ∀ q, q < j → ¬ ((R.getD q default).ins.length < (R.getD i default).ins.length ∧ ∀ x, x ∈ (R.getD q default).ins → x ∈ (R.getD i default).ins)) → (j = i ∨ fr = false) → (fr = true ↔ ¬ domP (insOf R) (R.getD i default).ins) := fun fr j hj h hjf => by
     constructor
     ·intro hf
      obtain rfl : j = i := hjf.resolve_right (by rw [hf]; decide)
      rintro ⟨v, hv, h1, h2⟩
      obtain ⟨r, hr, rfl⟩ := List.mem_map.1 hv
      obtain ⟨q, hq, e⟩ := List.mem_iff_getElem.1 hr
      have e2 : R.getD q default = r := by rw [List.getD_eq_getElem?_getD, List.getElem?_eq_getElem hq]; exact e
      exact h.1 hf q (hdk q hq (by rw [e2]; exact h1)) (by rw [e2]; exact ⟨h1, h2⟩)
     ·intro hd
      exact h.2 fun q hq hh => hd ⟨_, List.mem_map.2 ⟨_, getD_memR (show q < R.length by omega), rfl⟩, hh.1, hh.2⟩
    have hst : ∀ fr : Bool, (fr = true ↔ ¬ domP (insOf R) (R.getD i default).ins) → ((insOf R).take (i + 1)).filter (fun u => !pB (domP (insOf R) u)) = insOf O ++ (if fr = true then [(R.getD i default).ins] else []) := fun fr hfr => by
     rw [take_snocC (by rw [insOf_len]; exact hlt2'), List.filter_append, ← hO, insOf_get]
     congr 1
     by_cases hf : fr = true
     ·rw [if_pos hf, List.filter_cons, if_pos (by rw [pB_no' (hfr.1 hf)]; rfl)]
      rfl
     ·have hd : domP (insOf R) (R.getD i default).ins := Classical.byContradiction fun h => hf (hfr.2 h)
      rw [if_neg hf, List.filter_cons, if_neg (by rw [pB_iff.2 hd]; decide)]
      rfl
    refine h_cond_t rfl rfl ?_; skip
    refine h_loop2 [5, 10, 11, 12, 13] (fun (j : Nat) (fr : Bool) => [(5, .slice b' R.length c'), (10, .slice b2 O.length c2), (11, .int .i64 (i : Int)), (12, .bool fr), (13, .int .i64 (j : Int))])
     (fun j fr w' => (j ≤ i ∧ (fr = true ↔ ∀ q, q < j → ¬ ((R.getD q default).ins.length < (R.getD i default).ins.length ∧ ∀ x, x ∈ (R.getD q default).ins → x ∈ (R.getD i default).ins))) ∧ Hp w0 w' [rO 24 1 eRo b2 c2 O, rO 24 1 eRo b' c' R, rRows 3 1 eI P]) (fun j _ => i - j) 0 true rfl ⟨⟨by omega, ⟨fun _ q hq => by omega, fun _ => rfl⟩⟩, hp⟩ ?_
    clear hp
    rintro j fr w1 ⟨⟨hj, hfr⟩, hp⟩ IH2 C
    refine h_run rfl ?_; skip
    refine h_guard_by (fun hlt3 => ?_) (fun hlt3 => ?_); all_goals (rw [hlt3]; (first | replace hlt3 := of_decide_eq_true hlt3 | replace hlt3 := of_decide_eq_false hlt3 | skip); (repeat (refine gGuard ?_; first | refine h_guard_y rfl nopre rfl ?_ | refine h_guard_n rfl nopre rfl ?_)))
    ·have hlt3' : j < i := by omega
     cases fr
     ·skip
      refine h_cond_f rfl rfl ?_; skip
      skip
      refine h_cond_f rfl rfl ?_; skip
      refine IH (i + 1) O b2 c2 _ _ _ (by omega) rfl ⟨⟨by omega, hO7, by rw [hst false (hdom false j (by omega) hfr (.inr rfl))]; simp, hOR⟩, hp⟩
     ·have hrj := hRg _ (getD_memR (show j < R.length by omega))
      have hrowi : RdH w0 [rO 24 1 eRo b2 c2 O, rO 24 1 eRo b' c' R, rRows 3 1 eI P] (R.getD i default).ia 1 eI (R.getD i default).ins := RowsH.mem_ inferInstance (hRP _ (getD_memR hlt2'))
      have hrowj : RdH w0 [rO 24 1 eRo b2 c2 O, rO 24 1 eRo b' c' R, rRows 3 1 eI P] (R.getD j default).ia 1 eI (R.getD j default).ins := RowsH.mem_ inferInstance (hRP _ (getD_memR (show j < R.length by omega)))
      have hnext : ∀ fr' : Bool, (fr' = true ↔ ¬ ((R.getD j default).ins.length < (R.getD i default).ins.length ∧ ∀ x, x ∈ (R.getD j default).ins → x ∈ (R.getD i default).ins)) → (fr' = true ↔ ∀ q, q < j + 1 → ¬ ((R.getD q default).ins.length < (R.getD i default).ins.length ∧ ∀ x, x ∈ (R.getD q default).ins → x ∈ (R.getD i default).ins)) := fun fr' h => by
       rw [h]
       constructor
       ·intro h2 q hq
        by_cases hq2 : q < j
        ·exact hfr.1 rfl q hq2
        ·obtain rfl : q = j := by omega
         exact h2
       ·exact fun h1 => h1 j (by omega)
      skip
      refine h_cond_t rfl rfl ?_; skip
      refine D_draw hp (by kernel_rfl) (by kernel_rfl) rfl rfl ?_; intro w hx hp; have hs := hp; (repeat (refine D_ldEN rfl (by omega) rfl rfl rfl ?_))
      refine h_guard_by (fun h5 => ?_) (fun h5 => ?_); all_goals (rw [h5]; (first | replace h5 := of_decide_eq_true h5 | replace h5 := of_decide_eq_false h5 | skip); (repeat (first | (refine gGuard ?_; first | refine h_guard_yd rfl rfl rfl ?_ | refine h_guard_nd rfl rfl rfl ?_) | (refine gLoad ?_; refine D_ldEN rfl (by omega) rfl rfl rfl ?_))))
      ·by_cases hsub : ∀ x, x ∈ (R.getD j default).ins → x ∈ (R.getD i default).ins
       ·refine h_callq rfl Tryz.func145 (by kernel_rfl) rfl ((l13Within_h _ _ _ _ (R.getD j default).ins (R.getD i default).ins _ hp.rd hp.rd (by omega) (by omega)).tt (pB_iff.2 hsub)) ?_; rintro _ w ⟨rfl, hx⟩; have hp := hp.ext hx; have hs := hs.ext hx; refine ⟨fun _ => hs, ?_⟩; refine D_ops rfl rfl ?_; skip
        skip
        refine IH2 (j + 1) false _ _ _ (by omega) rfl ⟨⟨by omega, hnext false ⟨fun h => (by cases h), fun h => absurd ⟨by omega, hsub⟩ h⟩⟩, hp⟩
       ·refine h_callq rfl Tryz.func145 (by kernel_rfl) rfl ((l13Within_h _ _ _ _ (R.getD j default).ins (R.getD i default).ins _ hp.rd hp.rd (by omega) (by omega)).ff (pB_no' hsub)) ?_; rintro _ w ⟨rfl, hx⟩; have hp := hp.ext hx; have hs := hs.ext hx; refine ⟨fun _ => hs, ?_⟩; refine D_ops rfl rfl ?_; skip
        skip
        refine IH2 (j + 1) true _ _ _ (by omega) rfl ⟨⟨by omega, hnext true ⟨fun _ hh => hsub hh.2, fun _ => rfl⟩⟩, hp⟩
      ·skip
       refine IH2 (j + 1) true _ _ _ (by omega) rfl ⟨⟨by omega, hnext true ⟨fun _ hh => h5 (by omega), fun _ => rfl⟩⟩, hp⟩
    ·obtain rfl : j = i := by omega
     have hfd := hdom fr j (Nat.le_refl _) hfr (.inl rfl)
     refine h_cond_f rfl rfl ?_; skip
     cases fr
     ·skip
      refine h_cond_f rfl rfl ?_; skip
      refine IH (j + 1) O b2 c2 _ _ _ (by omega) rfl ⟨⟨by omega, hO7, by rw [hst false hfd]; simp, hOR⟩, hp⟩
     ·skip
      refine h_cond_t rfl rfl ?_; (repeat (refine H_ldEN hp rfl (by omega) rfl rfl ?_))
      refine H_lit hp (eRo (α := Int)) [(R.getD j default)] rfl rfl rfl rfl (s := 1) rfl (by decide) (by infer_instance) (by rfl) (by rfl) (by rfl) (by decide) ?_; intro w b67 hx hp; refine ops_run nopre rfl ?_; skip
      refine U_append hp rfl rfl rfl rfl rfl rfl rfl (by decide) rfl (by first | omega | (simp only [List.length_append, List.length_cons, List.length_nil, List.length_take, List.length_drop, List.length_set, List.length_replicate, List.length_map]; omega)) rfl rfl ?_; intro b3 c3 w hp hnil; refine ops_run nopre rfl ?_; skip
      refine IH (j + 1) (O ++ [R.getD j default]) b3 c3 _ _ _ (by omega) rfl ⟨⟨by omega, ?_, ?_, fun r hr => ?_⟩, hp.drop⟩
      ·simp
       omega
      ·rw [hst true hfd, if_pos rfl]
       unfold insOf
       rw [List.map_append]
       rfl
      ·rw [List.mem_append] at hr
       rcases hr with hr | hr
       ·exact hOR r hr
       ·rw [List.mem_singleton.1 hr]; exact getD_memR hlt2'
   ·refine h_cond_f rfl rfl ?_; (repeat (refine R_ret ?_))
    refine ⟨b2, c2, O, P, ⟨rfl, ?_, fun r hr => hRP r (hOR r hr)⟩, hp.f1.drop⟩
    rw [hspl, List.take_append_of_le_length (by omega), List.take_of_length_le (by omega)]
  ·obtain rfl : i = R.length := by omega
   rw [List.drop_of_length_le (by rw [insOf_len]; exact Nat.le_refl _), List.filter_nil, List.append_nil] at hspl
   refine h_cond_f rfl rfl ?_; (repeat (refine R_ret ?_))
   refine ⟨b2, c2, O, P, ⟨rfl, ?_, fun r hr => hRP r (hOR r hr)⟩, hp.f1.drop⟩
   rw [hspl, List.take_of_length_le (by omega)]
end Go.Proofs
