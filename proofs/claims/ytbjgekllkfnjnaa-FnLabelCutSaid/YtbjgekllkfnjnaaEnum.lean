/- The contracts of the program's functions that enumerate cuts: unions of two selections; each under its stated conditions. -/
import Derived.Test.YtbjgekllkfnjnaaEnumLaw
import Derived.Test.YtbjgekllkfnjnaaSame
import Derived.Test.YtbjgekllkfnjnaaCut
set_option linter.all false
namespace Go.Xw
def RowsR (w : World) (R : List (RowA Int)) : Prop := ∀ r, r ∈ R → Rd w r.ia 1 eI r.ins
theorem RowsR.ext {w w' : World} {R : List (RowA Int)} (h : RowsR w R) (hx : Ext w w') : RowsR w' R := fun r hr => (h r hr).ext hx
theorem RowsR.at_ {w : World} {R : List (RowA Int)} (h : RowsR w R) {i : Nat} (hi : i < R.length) : Rd w (R.getD i default).ia 1 eI (R.getD i default).ins := h _ (getD_memR hi)
theorem Hp.rows {w0 w : World} {L : List Res} (hp : Hp w0 w L) {R P : List (RowA Int)} [h : RowsH w0 L 1 eI P] (hm : ∀ r, r ∈ R → r ∈ P) : RowsR w R := fun r hr => ⟨h.h w hp r (hm r hr)⟩
theorem MergeQ.hp {e : TypeId} {xs ys : List Int} {w : World} {v : Value} {w' : World} (h : Go.Proofs.MergeQ e xs ys w v w') : ∃ a' c', v = .tuple ⟨[.slice a' (Go.Proofs.mergeL xs ys).length c', .bool (Go.Proofs.mergeOk xs ys)]⟩ ∧ Hp w w' [rO e 1 eI a' c' (Go.Proofs.mergeL xs ys)] := by
 obtain ⟨a', c', h1, h2, h3⟩ := h
 exact ⟨a', c', h1, (Hp.nil w).ownN h3 h2⟩
end Go.Xw
namespace Go.Proofs
open Go.Xw
set_option maxRecDepth 100000
set_option maxHeartbeats 1500000
attribute [local irreducible] Holds elemAddr
theorem mergeI_h (a b : Option Addr) (ca cb : Nat) (xs ys : List Int) (w0 : World) (ha : Rd w0 a 1 eI xs) (hb : Rd w0 b 1 eI ys) (hl : xs.length ≤ 1000) (hl2 : ys.length ≤ 1000) :
  Ret Try.prog 143 [.slice a xs.length ca, .slice b ys.length cb] w0 (fun v w => ∃ a' c', v = .tuple ⟨[.slice a' (mergeL xs ys).length c', .bool (mergeOk xs ys)]⟩ ∧ Hp w0 w [rO 3 1 eI a' c' (mergeL xs ys)]) :=
 (implMergeCuts_ok a b ca cb xs ys w0 ha.h hb.h (by omega) (by omega)).mono fun _ _ h => Go.Xw.MergeQ.hp h
theorem cutLess_h (a b : Option Addr) (ca cb : Nat) (xs ys : List Int) (w0 : World) (ha : Rd w0 a 1 eI xs) (hb : Rd w0 b 1 eI ys) (hl : xs.length ≤ 1000) :
  Ret Try.prog 144 [.slice a xs.length ca, .slice b ys.length cb] w0 (fun v w => v = .bool (cutLt xs ys) ∧ Ext w0 w) :=
 implCutLess_ok a b ca cb xs ys w0 ha.h hb.h (by omega)
theorem containsAll_h (a b : Option Addr) (ca cb : Nat) (X Y : List Int) (w0 : World) (ha : Rd w0 a 1 eI X) (hb : Rd w0 b 1 eI Y) (hl : X.length ≤ 1000) (hl2 : Y.length ≤ 1000) :
  Ret Try.prog 145 [.slice a X.length ca, .slice b Y.length cb] w0 (fun v w => v = .bool (pB (∀ x, x ∈ Y → x ∈ X)) ∧ Ext w0 w) := by
 refine enter Try.S145ok _ _ rfl rfl (by show _ ≤ _; simp only [List.length]; decide) (fun C => ?_); have hp := Hp.nil w0; refine h_run rfl ?_; skip
 refine h_loop [0, 7, 8, 9] (fun (i : Nat) => [(0, .slice a X.length ca), (7, .slice b Y.length cb), (8, .int .i64 Y.length), (9, .int .i64 (i : Int))])
  (fun i w' => i ≤ Y.length ∧ (∀ j, j < i → Y.getD j default ∈ X) ∧ Hp w0 w' []) (fun i => Y.length - i) 0 rfl ⟨by omega, fun j hj => by omega, hp⟩ ?_
 clear hp
 rintro i w1 ⟨hi, hall, hp⟩ IH C
 refine h_run rfl ?_; skip
 refine h_cond_dec (fun hlt => ?_) (fun hlt => ?_)
 ·have hlt' : i < Y.length := by omega
  refine h_cond_t rfl rfl ?_; (repeat (refine H_ldEN hp rfl (by omega) rfl rfl ?_))
  by_cases hm : Y.getD i default ∈ X
  ·refine h_call rfl Try.func98 (by kernel_rfl) rfl ((hasInt_h a ca X.length X rfl (Y.getD i default) _ hp.rd (by omega)).yes hm) ?_; rintro _ w ⟨rfl, hx⟩; have hp := hp.ext hx; refine ops_run nopre rfl ?_; skip
   refine h_cond_f rfl rfl ?_; skip
   refine IH (i + 1) _ _ _ (by omega) rfl ⟨by omega, fun j hj => ?_, hp⟩
   by_cases hj2 : j < i
   ·exact hall j hj2
   ·obtain rfl : j = i := by omega
    exact hm
  ·refine h_call rfl Try.func98 (by kernel_rfl) rfl ((hasInt_h a ca X.length X rfl (Y.getD i default) _ hp.rd (by omega)).no hm) ?_; rintro _ w ⟨rfl, hx⟩; have hp := hp.ext hx; refine ops_run nopre rfl ?_; skip
   refine h_cond_t rfl rfl ?_; (repeat (refine R_ret ?_))
   exact ⟨by rw [pB_no' fun h => hm (h _ (getD_memR hlt'))], hp.x⟩
 ·refine h_cond_f rfl rfl ?_; (repeat (refine R_ret ?_))
  obtain rfl : i = Y.length := by omega
  have hyes : ∀ x, x ∈ Y → x ∈ X := fun x hx => by
   obtain ⟨j, hj, rfl⟩ := List.mem_iff_getElem.1 hx
   have := hall j hj
   rwa [List.getD_eq_getElem?_getD, List.getElem?_eq_getElem hj] at this
  exact ⟨by rw [pB_iff.2 hyes], hp.x⟩
theorem candidates_h (a b : Option Addr) (ca cb : Nat) (RA RB : List (RowA Int)) (w0 : World) (hA : Rd w0 a 1 eRo RA) (hAr : RowsR w0 RA) (hB : Rd w0 b 1 eRo RB) (hBr : RowsR w0 RB) (hla : RA.length ≤ 8) (hlb : RB.length ≤ 8) (hgA : ∀ r, r ∈ RA → r.ins.length ≤ 4) (hgB : ∀ r, r ∈ RB → r.ins.length ≤ 4) :
  Ret Try.prog 101 [.slice a RA.length ca, .slice b RB.length cb] w0 (fun v w => ∃ b' c' R P, (v = .slice b' R.length c' ∧ insOf R = freeL (joinL (insOf RA) (insOf RB)) ∧ ∀ r, r ∈ R → r ∈ P) ∧ Hp w0 w [rO 26 1 eRo b' c' R, rRows 3 1 eI P]) := by
 refine enter Try.S101ok _ _ rfl rfl (by show _ ≤ _; simp only [List.length]; decide) (fun C => ?_); have hp := Hp.nil w0; refine h_run rfl ?_; skip
 have hp0 : Hp w0 _ [rO 26 1 (eRo (α := Int)) none 0 [], rRows 3 1 eI []] := (rRows_nil hp).ownN (Ext.refl _) (Own.nil _ _ _ _ _)
 refine h_loop4 [1, 5, 19, 20, 21] (fun (i : Nat) (R : List (RowA Int)) (b' : Option Addr) (c' : Nat) => [(1, .slice b RB.length cb), (5, .slice b' R.length c'), (19, .slice a RA.length ca), (20, .int .i64 RA.length), (21, .int .i64 (i : Int))])
  (fun i R b' c' w' => i ≤ RA.length ∧ insOf R = ((insOf RA).take i).foldl (joinR (insOf RB)) [] ∧ ∃ P, (∀ r, r ∈ R → r ∈ P) ∧ Hp w0 w' [rO 26 1 eRo b' c' R, rRows 3 1 eI P]) (fun i _ _ _ => RA.length - i) 0 [] none 0 rfl ⟨by omega, rfl, [], fun r hr => hr, hp0⟩ ?_
 clear hp hp0
 rintro i R b' c' w1 ⟨hi, hR, P, hRP, hp⟩ IH C
 refine h_run rfl ?_; skip
 refine h_cond_dec (fun hlt => ?_) (fun hlt => ?_)
 ·have hlt' : i < RA.length := by omega
  have hxr := hAr.at_ hlt'
  refine h_cond_t rfl rfl ?_; (repeat (refine H_ldEN hp rfl (by omega) rfl rfl ?_))
  refine h_loop4 [1, 5, 7, 19, 20, 21, 25, 26, 27] (fun (j : Nat) (R : List (RowA Int)) (b' : Option Addr) (c' : Nat) => [(1, .slice b RB.length cb), (5, .slice b' R.length c'), (7, .slice (RA.getD i default).ia (RA.getD i default).ins.length (RA.getD i default).ic), (19, .slice a RA.length ca), (20, .int .i64 RA.length), (21, .int .i64 (i : Int)), (25, .slice b RB.length cb), (26, .int .i64 RB.length), (27, .int .i64 (j : Int))])
   (fun j R b' c' w' => j ≤ RB.length ∧ insOf R = joinR ((insOf RB).take j) (((insOf RA).take i).foldl (joinR (insOf RB)) []) (RA.getD i default).ins ∧ ∃ P, (∀ r, r ∈ R → r ∈ P) ∧ Hp w0 w' [rO 26 1 eRo b' c' R, rRows 3 1 eI P]) (fun j _ _ _ => RB.length - j) 0 R b' c' rfl ⟨by omega, hR, P, hRP, hp⟩ ?_
  clear hp hR hRP P
  rintro j R b' c' w1 ⟨hj, hR, P, hRP, hp⟩ IH2 C
  refine h_run rfl ?_; skip
  refine h_cond_dec (fun hlt2 => ?_) (fun hlt2 => ?_)
  ·have hlt2' : j < RB.length := by omega
   have hyr := hBr.at_ hlt2'
   have g1 := hgA _ (getD_memR hlt')
   have g2 := hgB _ (getD_memR hlt2')
   have hRl : R.length ≤ 64 := by
    have h1 := joinR_len (x := (RA.getD i default).ins) (b := (insOf RB).take j) (L := ((insOf RA).take i).foldl (joinR (insOf RB)) [])
    have h2 := joinF_len (b := insOf RB) (m := 8) (by rw [insOf_len]; omega) (a := (insOf RA).take i) (L := [])
    rw [← hR, insOf_len, List.length_take, insOf_len] at h1
    rw [List.length_take, insOf_len, List.length_nil] at h2
    have : min i RA.length ≤ 7 := by omega
    have h3 := Nat.mul_le_mul_right 8 this
    omega
   have hRg : ∀ r, r ∈ R → r.ins.length ≤ 4 := fun r hr => by
    have hm : r.ins ∈ insOf R := List.mem_map.2 ⟨r, hr, rfl⟩
    rw [hR] at hm
    exact mem_joinR (P := fun u => u.length ≤ 4) (mem_joinF (P := fun u => u.length ≤ 4) (by simp) fun x _ y _ h => (mrg_good h).1) (fun y _ h => (mrg_good h).1) _ hm
   have hjs : joinR ((insOf RB).take (j + 1)) (((insOf RA).take i).foldl (joinR (insOf RB)) []) (RA.getD i default).ins = joinS (RA.getD i default).ins (insOf R) (RB.getD j default).ins := by
    rw [take_snocC (by rw [insOf_len]; exact hlt2'), joinR_snoc, ← hR, insOf_get]
   refine h_cond_t rfl rfl ?_; (repeat (refine H_ldEN hp rfl (by omega) rfl rfl ?_))
   refine h_call rfl Try.func143 (by kernel_rfl) rfl (mergeI_h _ _ _ _ (RA.getD i default).ins (RB.getD j default).ins _ hp.rd hp.rd (by omega) (by omega)) ?_; rintro _ w ⟨au, cu, rfl, hq⟩; have hx := hq.x; have hp := hp.call1 hq; refine ops_run nopre rfl ?_; skip
   by_cases ho : mergeOk (RA.getD i default).ins (RB.getD j default).ins = true
   ·refine h_cond_f (by rw [ho]; rfl) rfl ?_; skip
    have hgood := mrg_good ho
    have hul : (mergeL (RA.getD i default).ins (RB.getD j default).ins).length ≤ 4 := mergeL_len _ _
    have hue : mergeL (RA.getD i default).ins (RB.getD j default).ins = mrg (RA.getD i default).ins (RB.getD j default).ins := merge_yes ho
    have hjs2 : joinS (RA.getD i default).ins (insOf R) (RB.getD j default).ins = insC (insOf R) (mergeL (RA.getD i default).ins (RB.getD j default).ins) := by
     unfold joinS; rw [if_pos ho, hue]
    rw [hjs2] at hjs
    obtain ⟨u, hu⟩ : ∃ u, u = mergeL (RA.getD i default).ins (RB.getD j default).ins := ⟨_, rfl⟩
    rw [← hu] at hp hul hjs ⊢
    clear hjs2 hue hgood
    refine h_loop [1, 5, 7, 10, 12, 19, 20, 21, 25, 26, 27] (fun (q : Nat) => [(1, .slice b RB.length cb), (5, .slice b' R.length c'), (7, .slice (RA.getD i default).ia (RA.getD i default).ins.length (RA.getD i default).ic), (10, .slice au u.length cu), (12, .int .i64 (q : Int)), (19, .slice a RA.length ca), (20, .int .i64 RA.length), (21, .int .i64 (i : Int)), (25, .slice b RB.length cb), (26, .int .i64 RB.length), (27, .int .i64 (j : Int))])
     (fun q w' => q ≤ R.length ∧ (∀ k, k < q → cutLt (R.getD k default).ins u = true) ∧ Hp w0 w' [rO 3 1 eI au cu u, rO 26 1 eRo b' c' R, rRows 3 1 eI P]) (fun q => R.length - q) 0 rfl ⟨by omega, fun k hk => by omega, hp⟩ ?_
    clear hp
    rintro q w1 ⟨hq, hall, hp⟩ IH3 C
    have hcap := hp.f1.own.cap
    have hall2 : ∀ k, k < q → cutLt ((insOf R).getD k default) u = true := fun k hk => by rw [insOf_get]; exact hall k hk
    refine h_run rfl ?_; skip
    refine h_guard_by (fun hlt3 => ?_) (fun hlt3 => ?_); all_goals (rw [hlt3]; (first | replace hlt3 := of_decide_eq_true hlt3 | replace hlt3 := of_decide_eq_false hlt3 | skip); (repeat (first | (refine gGuard ?_; first | refine h_guard_y rfl nopre rfl ?_ | refine h_guard_n rfl nopre rfl ?_) | (refine gLoad ?_; refine H_ldEN hp rfl (by omega) rfl rfl ?_))))
    ·have hlt3' : q < R.length := by omega
     have hrow : RdH w0 [rO 3 1 eI au cu u, rO 26 1 eRo b' c' R, rRows 3 1 eI P] (R.getD q default).ia 1 eI (R.getD q default).ins := RowsH.mem_ inferInstance (hRP _ (getD_memR hlt3'))
     have hrl : (R.getD q default).ins.length ≤ 4 := hRg _ (getD_memR hlt3')
     refine h_call rfl Try.func144 (by kernel_rfl) rfl (cutLess_h _ _ _ _ (R.getD q default).ins u _ hp.rd hp.rd (by omega)) ?_; rintro _ w ⟨rfl, hx⟩; have hp := hp.ext hx; refine ops_run nopre rfl ?_; skip
     by_cases hc : cutLt (R.getD q default).ins u = true
     ·refine h_cond_t hc rfl ?_; skip
      refine IH3 (q + 1) _ _ _ (by omega) rfl ⟨by omega, fun k hk => ?_, hp⟩
      by_cases hk2 : k < q
      ·exact hall k hk2
      ·obtain rfl : k = q := by omega
       exact hc
     ·have hc' : cutLt (R.getD q default).ins u = false := by simpa using hc
      have hat := insC_at (i := q) (L := insOf R) (u := u) (by rw [insOf_len]; exact hq) hall2 (fun _ => by rw [insOf_get]; exact hc')
      refine h_cond_f hc' rfl ?_; skip
      refine h_guard_by (fun h5 => ?_) (fun h5 => ?_); all_goals (rw [h5]; (first | replace h5 := of_decide_eq_true h5 | replace h5 := of_decide_eq_false h5 | skip); (repeat (first | (refine gGuard ?_; first | refine h_guard_y rfl nopre rfl ?_ | refine h_guard_n rfl nopre rfl ?_) | (refine gLoad ?_; refine H_ldEN hp rfl (by omega) rfl rfl ?_))))
      ·by_cases hs : (R.getD q default).ins = u
       ·refine h_call rfl Try.func119 (by kernel_rfl) rfl ((implSameInts_h _ _ _ _ (R.getD q default).ins u _ hp.rd hp.rd (by omega) (by omega)).yes hs) ?_; rintro _ w ⟨rfl, hx⟩; have hp := hp.ext hx; refine ops_run nopre rfl ?_; skip
        refine h_cond_t rfl rfl ?_; skip
        refine IH2 (j + 1) R b' c' _ _ _ (by omega) rfl ⟨by omega, ?_, P, hRP, hp.drop⟩
        rw [hjs, hat, if_pos ⟨by rw [insOf_len]; exact hlt3', by rw [insOf_get]; exact hs⟩]
       ·refine h_call rfl Try.func119 (by kernel_rfl) rfl ((implSameInts_h _ _ _ _ (R.getD q default).ins u _ hp.rd hp.rd (by omega) (by omega)).no hs) ?_; rintro _ w ⟨rfl, hx⟩; have hp := hp.ext hx; refine ops_run nopre rfl ?_; skip
        have hin : insC (insOf R) u = (insOf R).take q ++ u :: (insOf R).drop q := by rw [hat, if_neg (fun hh => hs (by rw [← insOf_get]; exact hh.2))]
        refine h_cond_f rfl rfl ?_; skip
        refine H_lit hp (eRo (α := Int)) [(⟨[], none, 0⟩ : RowA Int)] rfl rfl rfl rfl (s := 1) rfl (by decide) (by infer_instance) (by rfl) (by rfl) (by rfl) (by decide) ?_; intro w b66 hx hp; refine ops_run nopre rfl ?_; skip
        refine U_append hp rfl rfl rfl rfl rfl rfl rfl (by decide) rfl (by first | omega | (simp only [List.length_append, List.length_cons, List.length_nil, List.length_take, List.length_drop, List.length_set, List.length_replicate, List.length_map]; omega)) rfl rfl ?_; intro b2 c2 w hp hnil; refine ops_run nopre rfl ?_; skip
        have hp := hp.drop
        have hcap2 := hp.f1.own.cap
        have hXl : (R ++ [(⟨[], none, 0⟩ : RowA Int)]).length = R.length + 1 := by simp
        have hne2 : b2 ≠ none := nn_of hp (X := R ++ [(⟨[], none, 0⟩ : RowA Int)]) (by omega)
        refine D_draw hp (by kernel_rfl) (by kernel_rfl) rfl rfl ?_; intro w hx hp; have hs := hp; skip
        refine V_shift (q := q) (X := R ++ [(⟨[], none, 0⟩ : RowA Int)]) (a := b2) (c := c2) hp (by omega) rfl (by rw [hXl]; rfl) rfl rfl (by rw [hXl]; rfl) rfl rfl rfl rfl rfl (by kernel_rfl) ?_; intro w hp
        refine D_ops rfl rfl ?_; skip
        have hsl : (shiftL (R ++ [(⟨[], none, 0⟩ : RowA Int)]) q).length = R.length + 1 := by rw [shiftL_len (by omega), hXl]
        first | refine U_st0N hp (y := (⟨u, au, cu⟩ : RowA Int)) rfl rfl rfl (by omega) (by decide) (rfl) rfl ?_ | refine U_st0 hp (y := (⟨u, au, cu⟩ : RowA Int)) rfl rfl rfl (by omega) (by decide) (rfl) rfl ?_
        intro w hp; refine ops_run nopre rfl ?_; skip
        rw [shiftL_snoc R _ hq] at hp
        have hp := (rRows_add (y := (⟨u, au, cu⟩ : RowA Int)) (hp.f1.f2.f2)).f1
        have hnl : (R.take q ++ (⟨u, au, cu⟩ : RowA Int) :: R.drop q).length = (R ++ [(⟨[], none, 0⟩ : RowA Int)]).length := by
         rw [List.length_append, List.length_cons, List.length_take, List.length_drop, hXl]; omega
        refine IH2 (j + 1) (R.take q ++ (⟨u, au, cu⟩ : RowA Int) :: R.drop q) b2 c2 _ _ _ (by omega) (by rw [hnl]; rfl) ⟨by omega, ?_, P ++ [(⟨u, au, cu⟩ : RowA Int)], fun r hr => ?_, hp⟩
        ·rw [hjs, hin]
         unfold insOf
         rw [List.map_append, List.map_cons, List.map_take, List.map_drop]
        ·rw [List.mem_append, List.mem_cons] at hr
         rw [List.mem_append]
         rcases hr with hr | hr | hr
         ·exact .inl (hRP _ (List.mem_of_mem_take hr))
         ·exact .inr (List.mem_singleton.2 hr)
         ·exact .inl (hRP _ (List.mem_of_mem_drop hr))
      ·exact absurd hlt3 h5
    ·have hqe : q = R.length := by omega
     have hin : insC (insOf R) u = (insOf R).take q ++ u :: (insOf R).drop q := by
      have hat := insC_at (i := q) (L := insOf R) (u := u) (by rw [insOf_len]; exact hq) hall2 (fun hh => by rw [insOf_len] at hh; omega)
      rw [hat, if_neg (fun hh => by rw [insOf_len] at hh; omega)]
     refine h_cond_f rfl rfl ?_; skip
     refine h_guard_by (fun h5 => ?_) (fun h5 => ?_); all_goals (rw [h5]; (first | replace h5 := of_decide_eq_true h5 | replace h5 := of_decide_eq_false h5 | skip); (repeat (first | (refine gGuard ?_; first | refine h_guard_y rfl nopre rfl ?_ | refine h_guard_n rfl nopre rfl ?_) | (refine gLoad ?_; refine H_ldEN hp rfl (by omega) rfl rfl ?_))))
     ·exact absurd h5 hlt3
     ·refine h_cond_f rfl rfl ?_; skip
      refine H_lit hp (eRo (α := Int)) [(⟨[], none, 0⟩ : RowA Int)] rfl rfl rfl rfl (s := 1) rfl (by decide) (by infer_instance) (by rfl) (by rfl) (by rfl) (by decide) ?_; intro w b66 hx hp; refine ops_run nopre rfl ?_; skip
      refine U_append hp rfl rfl rfl rfl rfl rfl rfl (by decide) rfl (by first | omega | (simp only [List.length_append, List.length_cons, List.length_nil, List.length_take, List.length_drop, List.length_set, List.length_replicate, List.length_map]; omega)) rfl rfl ?_; intro b2 c2 w hp hnil; refine ops_run nopre rfl ?_; skip
      have hp := hp.drop
      have hcap2 := hp.f1.own.cap
      have hXl : (R ++ [(⟨[], none, 0⟩ : RowA Int)]).length = R.length + 1 := by simp
      have hne2 : b2 ≠ none := nn_of hp (X := R ++ [(⟨[], none, 0⟩ : RowA Int)]) (by omega)
      refine D_draw hp (by kernel_rfl) (by kernel_rfl) rfl rfl ?_; intro w hx hp; have hs := hp; skip
      refine V_shift (q := q) (X := R ++ [(⟨[], none, 0⟩ : RowA Int)]) (a := b2) (c := c2) hp (by omega) rfl (by rw [hXl]; rfl) rfl rfl (by rw [hXl]; rfl) rfl rfl rfl rfl rfl (by kernel_rfl) ?_; intro w hp
      refine D_ops rfl rfl ?_; skip
      have hsl : (shiftL (R ++ [(⟨[], none, 0⟩ : RowA Int)]) q).length = R.length + 1 := by rw [shiftL_len (by omega), hXl]
      first | refine U_st0N hp (y := (⟨u, au, cu⟩ : RowA Int)) rfl rfl rfl (by omega) (by decide) (rfl) rfl ?_ | refine U_st0 hp (y := (⟨u, au, cu⟩ : RowA Int)) rfl rfl rfl (by omega) (by decide) (rfl) rfl ?_
      intro w hp; refine ops_run nopre rfl ?_; skip
      rw [shiftL_snoc R _ hq] at hp
      have hp := (rRows_add (y := (⟨u, au, cu⟩ : RowA Int)) (hp.f1.f2.f2)).f1
      have hnl : (R.take q ++ (⟨u, au, cu⟩ : RowA Int) :: R.drop q).length = (R ++ [(⟨[], none, 0⟩ : RowA Int)]).length := by
       rw [List.length_append, List.length_cons, List.length_take, List.length_drop, hXl]; omega
      refine IH2 (j + 1) (R.take q ++ (⟨u, au, cu⟩ : RowA Int) :: R.drop q) b2 c2 _ _ _ (by omega) (by rw [hnl]; rfl) ⟨by omega, ?_, P ++ [(⟨u, au, cu⟩ : RowA Int)], fun r hr => ?_, hp⟩
      ·rw [hjs, hin]
       unfold insOf
       rw [List.map_append, List.map_cons, List.map_take, List.map_drop]
      ·rw [List.mem_append, List.mem_cons] at hr
       rw [List.mem_append]
       rcases hr with hr | hr | hr
       ·exact .inl (hRP _ (List.mem_of_mem_take hr))
       ·exact .inr (List.mem_singleton.2 hr)
       ·exact .inl (hRP _ (List.mem_of_mem_drop hr))
   ·refine h_cond_t (by simp only [Bool.not_eq_true] at ho; rw [ho]; rfl) rfl ?_; skip
    refine IH2 (j + 1) R b' c' _ _ _ (by omega) rfl ⟨by omega, ?_, P, hRP, hp.drop⟩
    rw [hjs]
    unfold joinS
    rw [if_neg ho]
  ·refine h_cond_f rfl rfl ?_; skip
   obtain rfl : j = RB.length := by omega
   refine IH (i + 1) R b' c' _ _ _ (by omega) rfl ⟨by omega, ?_, P, hRP, hp⟩
   rw [hR, take_snocC (by rw [insOf_len]; exact hlt'), List.foldl_append, List.take_of_length_le (by rw [insOf_len]; exact Nat.le_refl _), ← insOf_get]
   rfl
 ·obtain rfl : i = RA.length := by omega
  have hRJ : insOf R = joinL (insOf RA) (insOf RB) := by rw [hR, List.take_of_length_le (by rw [insOf_len]; exact Nat.le_refl _)]; rfl
  have hRl : R.length ≤ 64 := by
   have := joinL_len (a := insOf RA) (b := insOf RB) (by rw [insOf_len]; exact hla) (by rw [insOf_len]; exact hlb)
   rw [← hRJ, insOf_len] at this
   exact this
  have hRg : ∀ r, r ∈ R → r.ins.length ≤ 4 := fun r hr => by
   have hm : r.ins ∈ insOf R := List.mem_map.2 ⟨r, hr, rfl⟩
   rw [hRJ] at hm
   exact (joinL_good _ _ _ hm).1
  rw [← hRJ]
  refine h_cond_f rfl rfl ?_; skip
  have hp0 : Hp w0 _ [rO 26 1 (eRo (α := Int)) none 0 [], rO 26 1 eRo b' c' R, rRows 3 1 eI P] := hp.ownN (Ext.refl _) (Own.nil _ _ _ _ _)
  refine h_loop4 [5, 13, 82, 83, 84] (fun (i : Nat) (O : List (RowA Int)) (b2 : Option Addr) (c2 : Nat) => [(5, .slice b' R.length c'), (13, .slice b2 O.length c2), (82, .slice b' R.length c'), (83, .int .i64 R.length), (84, .int .i64 (i : Int))])
   (fun i O b2 c2 w' => (i ≤ R.length ∧ insOf O = ((insOf R).take i).filter (fun u => !pB (domP (insOf R) u)) ∧ ∀ r, r ∈ O → r ∈ R) ∧ Hp w0 w' [rO 26 1 eRo b2 c2 O, rO 26 1 eRo b' c' R, rRows 3 1 eI P]) (fun i _ _ _ => R.length - i) 0 [] none 0 rfl ⟨⟨by omega, rfl, fun r hr => by simp at hr⟩, hp0⟩ ?_
  clear hp hp0
  rintro i O b2 c2 w1 ⟨⟨hi, hO, hOR⟩, hp⟩ IH C
  have hOl : O.length ≤ i := by
   have h1 := congrArg List.length hO
   have h2 := List.length_filter_le (fun u => !pB (domP (insOf R) u)) ((insOf R).take i)
   rw [insOf_len] at h1
   rw [List.length_take] at h2
   omega
  refine h_run rfl ?_; skip
  refine h_cond_dec (fun hlt2 => ?_) (fun hlt2 => ?_)
  ·have hlt2' : i < R.length := by omega
   have hri := hRg _ (getD_memR hlt2')
   refine h_cond_t rfl rfl ?_; (repeat (refine H_ldEN hp rfl (by omega) rfl rfl ?_))
   refine h_loop2 [5, 13, 15, 16, 82, 83, 84, 88, 89, 90] (fun (j : Nat) (fr : Bool) => [(5, .slice b' R.length c'), (13, .slice b2 O.length c2), (15, .slice (R.getD i default).ia (R.getD i default).ins.length (R.getD i default).ic), (16, .bool fr), (82, .slice b' R.length c'), (83, .int .i64 R.length), (84, .int .i64 (i : Int)), (88, .slice b' R.length c'), (89, .int .i64 R.length), (90, .int .i64 (j : Int))])
    (fun j fr w' => (j ≤ R.length ∧ (fr = true ↔ ∀ q, q < j → ¬ ((R.getD q default).ins.length < (R.getD i default).ins.length ∧ ∀ x, x ∈ (R.getD q default).ins → x ∈ (R.getD i default).ins))) ∧ Hp w0 w' [rO 26 1 eRo b2 c2 O, rO 26 1 eRo b' c' R, rRows 3 1 eI P]) (fun j _ => R.length - j) 0 true rfl ⟨⟨by omega, ⟨fun _ q hq => by omega, fun _ => rfl⟩⟩, hp⟩ ?_
   clear hp
   rintro j fr w1 ⟨⟨hj, hfr⟩, hp⟩ IH2 C
   refine h_run rfl ?_; skip
   refine h_cond_dec (fun hlt3 => ?_) (fun hlt3 => ?_)
   ·have hlt3' : j < R.length := by omega
    have hrj := hRg _ (getD_memR hlt3')
    have hrowi : RdH w0 [rO 26 1 eRo b2 c2 O, rO 26 1 eRo b' c' R, rRows 3 1 eI P] (R.getD i default).ia 1 eI (R.getD i default).ins := RowsH.mem_ inferInstance (hRP _ (getD_memR hlt2'))
    have hrowj : RdH w0 [rO 26 1 eRo b2 c2 O, rO 26 1 eRo b' c' R, rRows 3 1 eI P] (R.getD j default).ia 1 eI (R.getD j default).ins := RowsH.mem_ inferInstance (hRP _ (getD_memR hlt3'))
    have hnext : ∀ fr' : Bool, (fr' = true ↔ fr = true ∧ ¬ ((R.getD j default).ins.length < (R.getD i default).ins.length ∧ ∀ x, x ∈ (R.getD j default).ins → x ∈ (R.getD i default).ins)) → (fr' = true ↔ ∀ q, q < j + 1 → ¬ ((R.getD q default).ins.length < (R.getD i default).ins.length ∧ ∀ x, x ∈ (R.getD q default).ins → x ∈ (R.getD i default).ins)) := fun fr' h => by
     rw [h, hfr]
     constructor
     ·rintro ⟨h1, h2⟩ q hq
      by_cases hq2 : q < j
      ·exact h1 q hq2
      ·obtain rfl : q = j := by omega
       exact h2
     ·exact fun h1 => ⟨fun q hq => h1 q (by omega), h1 j (by omega)⟩
    refine h_cond_t rfl rfl ?_; (repeat (refine H_ldEN hp rfl (by omega) rfl rfl ?_))
    refine h_guard_by (fun h5 => ?_) (fun h5 => ?_); all_goals (rw [h5]; (first | replace h5 := of_decide_eq_true h5 | replace h5 := of_decide_eq_false h5 | skip); (repeat (refine gGuard ?_; first | refine h_guard_y rfl nopre rfl ?_ | refine h_guard_n rfl nopre rfl ?_)))
    ·by_cases hs : ∀ x, x ∈ (R.getD j default).ins → x ∈ (R.getD i default).ins
     ·refine h_call rfl Try.func145 (by kernel_rfl) rfl ((containsAll_h _ _ _ _ (R.getD i default).ins (R.getD j default).ins _ hp.rd hp.rd (by omega) (by omega)).tt (pB_iff.2 hs)) ?_; rintro _ w ⟨rfl, hx⟩; have hp := hp.ext hx; refine ops_run nopre rfl ?_; skip
      refine h_cond_t rfl rfl ?_; skip
      refine IH2 (j + 1) false _ _ _ (by omega) rfl ⟨⟨by omega, hnext false ⟨fun h => (by cases h), fun h => absurd ⟨by omega, hs⟩ h.2⟩⟩, hp⟩
     ·refine h_call rfl Try.func145 (by kernel_rfl) rfl ((containsAll_h _ _ _ _ (R.getD i default).ins (R.getD j default).ins _ hp.rd hp.rd (by omega) (by omega)).ff (pB_no' hs)) ?_; rintro _ w ⟨rfl, hx⟩; have hp := hp.ext hx; refine ops_run nopre rfl ?_; skip
      refine h_cond_f rfl rfl ?_; skip
      refine IH2 (j + 1) fr _ _ _ (by omega) rfl ⟨⟨by omega, hnext fr ⟨fun h => ⟨h, fun hh => hs hh.2⟩, fun h => h.1⟩⟩, hp⟩
    ·refine h_cond_f rfl rfl ?_; skip
     refine IH2 (j + 1) fr _ _ _ (by omega) rfl ⟨⟨by omega, hnext fr ⟨fun h => ⟨h, fun hh => h5 (by omega)⟩, fun h => h.1⟩⟩, hp⟩
   ·obtain rfl : j = R.length := by omega
    have hdom : fr = true ↔ ¬ domP (insOf R) (R.getD i default).ins := by
     rw [hfr]
     constructor
     ·rintro h ⟨v, hv, h1, h2⟩
      obtain ⟨r, hr, rfl⟩ := List.mem_map.1 hv
      obtain ⟨q, hq, e⟩ := List.mem_iff_getElem.1 hr
      have e2 : R.getD q default = r := by rw [List.getD_eq_getElem?_getD, List.getElem?_eq_getElem hq]; exact e
      exact h q hq (by rw [e2]; exact ⟨h1, h2⟩)
     ·intro h q hq hh
      exact h ⟨_, List.mem_map.2 ⟨_, getD_memR hq, rfl⟩, hh.1, hh.2⟩
    have hst : ((insOf R).take (i + 1)).filter (fun u => !pB (domP (insOf R) u)) = insOf O ++ (if fr = true then [(R.getD i default).ins] else []) := by
     rw [take_snocC (by rw [insOf_len]; exact hlt2'), List.filter_append, ← hO, insOf_get]
     congr 1
     by_cases hf : fr = true
     ·rw [if_pos hf, List.filter_cons, if_pos (by rw [pB_no' (hdom.1 hf)]; rfl)]
      rfl
     ·have hd : domP (insOf R) (R.getD i default).ins := Classical.byContradiction fun h => hf (hdom.2 h)
      rw [if_neg hf, List.filter_cons, if_neg (by rw [pB_iff.2 hd]; decide)]
      rfl
    refine h_cond_f rfl rfl ?_; skip
    cases fr
    ·skip
     refine h_cond_f rfl rfl ?_; skip
     refine IH (i + 1) O b2 c2 _ _ _ (by omega) rfl ⟨⟨by omega, by rw [hst]; simp, hOR⟩, hp⟩
    ·skip
     refine h_cond_t rfl rfl ?_; skip
     refine H_lit hp (eRo (α := Int)) [(R.getD i default)] rfl rfl rfl rfl (s := 1) rfl (by decide) (by infer_instance) (by rfl) (by rfl) (by rfl) (by decide) ?_; intro w b67 hx hp; refine ops_run nopre rfl ?_; skip
     refine U_append hp rfl rfl rfl rfl rfl rfl rfl (by decide) rfl (by first | omega | (simp only [List.length_append, List.length_cons, List.length_nil, List.length_take, List.length_drop, List.length_set, List.length_replicate, List.length_map]; omega)) rfl rfl ?_; intro b3 c3 w hp hnil; refine ops_run nopre rfl ?_; skip
     refine IH (i + 1) (O ++ [R.getD i default]) b3 c3 _ _ _ (by omega) rfl ⟨⟨by omega, ?_, fun r hr => ?_⟩, hp.drop⟩
     ·rw [hst, if_pos rfl]
      unfold insOf
      rw [List.map_append]
      rfl
     ·rw [List.mem_append] at hr
      rcases hr with hr | hr
      ·exact hOR r hr
      ·rw [List.mem_singleton.1 hr]; exact getD_memR hlt2'
  ·obtain rfl : i = R.length := by omega
   rw [List.take_of_length_le (by rw [insOf_len]; exact Nat.le_refl _)] at hO
   refine h_cond_f rfl rfl ?_; (repeat (refine R_ret ?_))
   exact ⟨b2, c2, O, P, ⟨rfl, hO, fun r hr => hRP r (hOR r hr)⟩, hp.f1.drop⟩
end Go.Proofs
