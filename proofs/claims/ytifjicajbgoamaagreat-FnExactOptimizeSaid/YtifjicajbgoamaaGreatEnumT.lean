/- Texts that belong together; each under its stated conditions. -/
import Derived.Test.YtifjicajbgoamaaGreatEnum
import Derived.Test.YtifjicajbgoamaaGreatEnumS
set_option linter.all false
section
namespace Go.Xw
theorem rRows_app {α : Type} {e : TypeId} {s : Nat} {enc : α → List Value} {w0 w : World} {L : List Res} {P Q : List (RowA α)} (h : Hp w0 w (rRows e s enc Q :: rRows e s enc P :: L)) : Hp w0 w (rRows e s enc (P ++ Q) :: L) := by
 have h1 := (h.f1).unpack
 have h2 : Hp w0 w (rRows e s enc Q :: (P.map (fun r => rO e s enc r.ia r.ic r.ins) ++ L)) := h1.perm (List.perm_middle)
 have h3 := h2.unpack
 refine Hp.pack (Hp.perm h3 ?_)
 rw [List.map_append, ← List.append_assoc]
 exact (List.perm_append_comm).append_right _
end Go.Xw
namespace Go.Proofs
open Go.Xw
set_option maxRecDepth 100000
set_option maxHeartbeats 2000000
attribute [local irreducible] Holds elemAddr
theorem cutsOf_four {n : NetL} (hok : NetOkP n) {k : Nat} (hk : k < nds n) : ∀ u, u ∈ cutsOf n k → u.length ≤ 4 := fun u hu => by
 have n1 := hok.nums.n1
 by_cases h0 : k = 0
 ·rw [h0, cutsOf_0] at hu
  rw [List.mem_singleton.1 hu]; simp
 ·by_cases h1 : k < fst_ n
  ·rw [cutsOf_leaf (by omega) h1] at hu
   rw [List.mem_singleton.1 hu]; simp
  ·have := cutsOf_and hok (i := k - fst_ n) (by omega)
   rw [show fst_ n + (k - fst_ n) = k by omega] at this
   rw [this, List.mem_append] at hu
   rcases hu with hu | hu
   ·exact (joinL_good _ _ u (selL_mem hu).1).1
   ·rw [List.mem_singleton.1 hu]; simp
structure CutsR (n : NetL) (m k : Nat) (Q : List (RowA (RowA Int))) (P : List (RowA Int)) : Prop where
 len : Q.length = m + 1
 cuts : ∀ j, j < k → insOf (Q.getD j default).ins = cutsOf n j
 nil : ∀ j, k ≤ j → j < m + 1 → Q.getD j default = ⟨[], none, 0⟩
 mem : ∀ j, j < k → ∀ r, r ∈ (Q.getD j default).ins → r ∈ P
theorem CutsR.next {n : NetL} {m k : Nat} {Q : List (RowA (RowA Int))} {P P' : List (RowA Int)} (h : CutsR n m k Q P) (hk : k < m + 1) {y : RowA (RowA Int)} (h1 : insOf y.ins = cutsOf n k) (h2 : ∀ r, r ∈ y.ins → r ∈ P') (h3 : ∀ r, r ∈ P → r ∈ P') : CutsR n m (k + 1) (Q.set k y) P' := by
 have hl := h.len
 refine ⟨by rw [List.length_set]; exact hl, fun j hj => ?_, fun j h1 h2 => ?_, fun j hj r hr => ?_⟩
 ·rw [set_getE (by omega)]
  by_cases hjk : j = k
  ·rw [if_pos hjk, hjk]; exact h1
  ·rw [if_neg hjk]; exact h.cuts j (by omega)
 ·rw [set_getE (by omega), if_neg (by omega)]
  exact h.nil j (by omega) h2
 ·rw [set_getE (by omega)] at hr
  by_cases hjk : j = k
  ·rw [if_pos hjk] at hr; exact h2 r hr
  ·rw [if_neg hjk] at hr; exact h3 r (h.mem j (by omega) r hr)
theorem cuts_put {w0 w : World} {L : List Res} {P : List (RowA Int)} {Q : List (RowA (RowA Int))} {k : Nat} {y : RowA (RowA Int)} {z : RowA Int} (hp : Hp w0 w (rO 24 1 eRo y.ia y.ic y.ins :: rO 3 1 eI z.ia z.ic z.ins :: rRows 3 1 eI P :: rRows 24 1 eRo Q :: L)) (hk : k < Q.length) :
  Hp w0 w (rRows 3 1 eI (P ++ [z]) :: rRows 24 1 eRo (Q.set k y) :: L) := by
 have h1 := rRows_add (hp.f3.f1.f3.f3)
 obtain ⟨Qr, h2, hback⟩ := rRows_at (h1.f1.f1.f2) hk
 exact (hback _ _ y ((h2.drop).f1.f1.f2)).f1
theorem allCuts_h (x : NetA) (m : Nat) (w0 : World) (hX : NetR w0 x) (hok : NetOkP x.n) (hm : m < nds x.n) :
  Ret Tryz.prog 56 [x.v, .int .i64 (m : Int)] w0 (fun v w => ∃ b c Q P, (v = .slice b Q.length c ∧ CutsR x.n m (m + 1) Q P) ∧ Hp w0 w [rO 72 1 eRo b c Q, rRows 24 1 eRo Q, rRows 3 1 eI P]) := by
 have hn := hok.nums
 obtain ⟨n1, n2, n3, n4, n5, n6⟩ := hn
 have hnd := hok.nodes
 have hsz := hok.size'
 have hal : x.n.ands.length = x.ands.length := rfl
 refine enter Tryz.S56ok _ _ rfl rfl (by show _ ≤ _; simp only [List.length]; decide) (fun C => ?_); have hp := Hp.nil w0; refine h_run rfl ?_; skip; (first | refine H_box hp ?_ | refine H_alloc hp rfl ?_); intro w b2 hx hp; refine ops_run nopre rfl ?_; skip
 rw [show (m : Int) + 1 = ((m + 1 : Nat) : Int) by omega]
 refine H_make hp (eRo (α := RowA Int)) (⟨[], none, 0⟩ : RowA (RowA Int)) rfl rfl rfl rfl (s := 1) rfl (by decide) rfl (by unfold maxLen; omega) (by show 24 * _ ≤ _; omega) ?_; intro w b5 hx hp; refine ops_run nopre rfl ?_; skip
 have hp := (rRows_nils (e := 24) (s := 1) (enc := eRo (α := Int)) (m + 1) hp)
 have hp := (rRows_nil (e := 3) (s := 1) (enc := eI) hp)
 refine h_loop [1, 2, 5, 6] (fun (k : Nat) => [(1, .int .i64 (m : Int)), (2, .pointer (some ⟨b2, 0, none⟩)), (5, .slice (some ⟨b5, 0, none⟩) (m + 1) (m + 1)), (6, .int .i64 (k : Int))])
  (fun k w' => k ≤ m + 1 ∧ ∃ Q P, CutsR x.n m k Q P ∧ Hp w0 w' [rRows 3 1 eI P, rRows 24 1 eRo Q, rO 72 1 eRo (some ⟨b5, 0, none⟩) (m + 1) Q, rB b2 31 x.cs]) (fun k => m + 1 - k) 0 rfl
  ⟨by omega, List.replicate (m + 1) ⟨[], none, 0⟩, [], ⟨by simp, fun j hj => by omega, fun j _ hj => by simp [List.getD_eq_getElem?_getD, hj], fun j hj => by omega⟩, hp⟩ ?_
 clear hp
 rintro k w1 ⟨hk, Q, P, hQ, hp⟩ IH C
 have hQl := hQ.len
 refine h_run rfl ?_; skip
 refine h_cond_dec (fun hlt => ?_) (fun hlt => ?_)
 ·have hk2 : k < m + 1 := by omega
  have hnilk := hQ.nil k (Nat.le_refl _) hk2
  refine h_cond_t rfl rfl ?_; skip
  by_cases h0 : k = 0
  ·subst h0
   refine h_cond_t (decide_eq_true rfl) rfl ?_; (repeat (refine U_litI hp rfl rfl rfl rfl rfl rfl rfl rfl rfl rfl ?_; intro w _ hx hp; refine ops_run nopre rfl ?_))
   rename_i bi
   refine H_lit hp (eRo (α := Int)) [(⟨[], some ⟨bi, 0, none⟩, 0⟩ : RowA Int)] rfl rfl rfl rfl (s := 1) rfl (by decide) (by infer_instance) (by rfl) (by rfl) (by rfl) (by decide) ?_; intro w b59 hx hp; refine ops_run nopre rfl ?_; skip
   first | refine U_st0N hp (y := (⟨[(⟨[], some ⟨bi, 0, none⟩, 0⟩ : RowA Int)], some ⟨b59, 0, none⟩, 1⟩ : RowA (RowA Int))) rfl rfl rfl (by omega) (by decide) (rfl) rfl ?_ | refine U_st0 hp (y := (⟨[(⟨[], some ⟨bi, 0, none⟩, 0⟩ : RowA Int)], some ⟨b59, 0, none⟩, 1⟩ : RowA (RowA Int))) rfl rfl rfl (by omega) (by decide) (rfl) rfl ?_
   intro w hp; refine ops_run nopre rfl ?_; skip
   have hp := cuts_put (k := 0) (y := (⟨[(⟨[], some ⟨bi, 0, none⟩, 0⟩ : RowA Int)], some ⟨b59, 0, none⟩, 1⟩ : RowA (RowA Int))) (z := (⟨[], some ⟨bi, 0, none⟩, 0⟩ : RowA Int)) hp (by omega)
   refine IH (0 + 1) _ _ _ (by omega) rfl ⟨by omega, _, _, hQ.next hk2 (y := (⟨[(⟨[], some ⟨bi, 0, none⟩, 0⟩ : RowA Int)], some ⟨b59, 0, none⟩, 1⟩ : RowA (RowA Int))) rfl (fun r hr => List.mem_append_right _ hr) (fun r hr => List.mem_append_left _ hr), hp⟩
  ·refine h_cond_f (decide_eq_false (by omega)) rfl ?_; (repeat (refine H_ldB hp rfl rfl ?_))
   by_cases hA : fst_ x.n ≤ k
   ·have hi : k - fst_ x.n < x.ands.length := by omega
    have hki : fst_ x.n + (k - fst_ x.n) = k := by omega
    obtain ⟨q1, q2, q3, q4⟩ := hok.and_ hi
    have ka := n5 (k - fst_ x.n) hi
    have kb := n6 (k - fst_ x.n) hi
    have eka : kA x.n (k - fst_ x.n) = ((x.ands.getD (k - fst_ x.n) default).1 / 2).toNat := rfl
    have ekb : kB x.n (k - fst_ x.n) = ((x.ands.getD (k - fst_ x.n) default).2 / 2).toNat := rfl
    have ez : ((k : Int) - firstAndL x.n).toNat = k - fst_ x.n := by omega
    have hca := hQ.cuts _ (show kA x.n (k - fst_ x.n) < k by omega)
    have hcb := hQ.cuts _ (show kB x.n (k - fst_ x.n) < k by omega)
    have hla : (Q.getD (kA x.n (k - fst_ x.n)) default).ins.length ≤ 8 := by rw [← insOf_len, hca]; exact (cutsOf_len hok (by omega)).2
    have hlb : (Q.getD (kB x.n (k - fst_ x.n)) default).ins.length ≤ 8 := by rw [← insOf_len, hcb]; exact (cutsOf_len hok (by omega)).2
    have hga : ∀ r, r ∈ (Q.getD (kA x.n (k - fst_ x.n)) default).ins → r.ins.length ≤ 4 := fun r hr => cutsOf_four hok (k := kA x.n (k - fst_ x.n)) (by omega) _ (by rw [← hca]; exact List.mem_map.2 ⟨r, hr, rfl⟩)
    have hgb : ∀ r, r ∈ (Q.getD (kB x.n (k - fst_ x.n)) default).ins → r.ins.length ≤ 4 := fun r hr => cutsOf_four hok (k := kB x.n (k - fst_ x.n)) (by omega) _ (by rw [← hcb]; exact List.mem_map.2 ⟨r, hr, rfl⟩)
    rw [eka] at hca hla hga
    rw [ekb] at hcb hlb hgb
    refine h_call rfl Tryz.func39 (by kernel_rfl) rfl ((isAnd_h x k _ hok.b).yes (by omega)) ?_; rintro _ w ⟨rfl, hx⟩; have hp := hp.ext hx; refine ops_run nopre rfl ?_; skip
    refine h_cond_f rfl rfl ?_; skip
    refine N_draw hp (by kernel_rfl) (by kernel_rfl) rfl rfl ?_; (repeat (refine N_ldB rfl rfl rfl ?_))
    refine N_call Tryz.func55 (by kernel_rfl) rfl (fun F w hp => ?_); refine Ret.mono (firstAnd_h x _ hok.b) ?_; rintro _ w ⟨rfl, hx⟩; have hp := hp.ext hx; refine ⟨fun _ => hp.sub (by (repeat (first | exact List.sublist_append_left _ _ | apply List.Sublist.cons))), _, hp, ?_⟩; clear hp; refine N_ops rfl rfl ?_; (repeat (refine N_ldE rfl (by omega) (by omega) rfl rfl rfl ?_))
    (first | refine N_box ?_ | refine N_alloc rfl ?_); intro b7; refine N_ops rfl rfl ?_; (repeat (refine N_stBN rfl rfl rfl rfl (by kernel_rfl) ?_; refine N_ops rfl rfl ?_))
    refine N_end ?_; intro w hp C; refine h_run rfl ?_; skip
    rw [ez] at hp
    have hlk : ∀ w, Hp w0 w [rB b7 62 (eII (x.ands.getD (k - fst_ x.n) default)), rRows 3 1 eI P, rRows 24 1 eRo Q, rO 72 1 eRo (some ⟨b5, 0, none⟩) (m + 1) Q, rB b2 31 x.cs] → True := fun _ _ => trivial
    have hp : Hp w0 _ [rB b7 62 (eII (x.ands.getD (k - fst_ x.n) default)), rRows 3 1 eI P, rRows 24 1 eRo Q, rO 72 1 eRo (some ⟨b5, 0, none⟩) (m + 1) Q, rB b2 31 x.cs] := hp
    have hra : RdH w0 [rB b7 62 (eII (x.ands.getD (k - fst_ x.n) default)), rRows 3 1 eI P, rRows 24 1 eRo Q, rO 72 1 eRo (some ⟨b5, 0, none⟩) (m + 1) Q, rB b2 31 x.cs] (Q.getD ((x.ands.getD (k - fst_ x.n) default).1 / 2).toNat default).ia 1 eRo (Q.getD ((x.ands.getD (k - fst_ x.n) default).1 / 2).toNat default).ins := RowsH.at_ (inferInstance : RowsH w0 _ 1 eRo Q) (by omega)
    have hrb : RdH w0 [rB b7 62 (eII (x.ands.getD (k - fst_ x.n) default)), rRows 3 1 eI P, rRows 24 1 eRo Q, rO 72 1 eRo (some ⟨b5, 0, none⟩) (m + 1) Q, rB b2 31 x.cs] (Q.getD ((x.ands.getD (k - fst_ x.n) default).2 / 2).toNat default).ia 1 eRo (Q.getD ((x.ands.getD (k - fst_ x.n) default).2 / 2).toNat default).ins := RowsH.at_ (inferInstance : RowsH w0 _ 1 eRo Q) (by omega)
    have hma := hQ.mem _ (show kA x.n (k - fst_ x.n) < k by omega)
    have hmb := hQ.mem _ (show kB x.n (k - fst_ x.n) < k by omega)
    rw [eka] at hma
    rw [ekb] at hmb
    have hcand : (cutsOf x.n k) = (freeL (joinL (cutsOf x.n (kA x.n (k - fst_ x.n))) (cutsOf x.n (kB x.n (k - fst_ x.n))))).take 7 ++ [[(k : Int)]] := by
     have := cutsOf_and hok (i := k - fst_ x.n) hi
     rw [hki] at this
     exact this
    refine D_draw hp (by kernel_rfl) (by kernel_rfl) rfl rfl ?_; intro w hx hp; have hs := hp; (repeat (refine gLoad ?_; first | refine D_ldB rfl rfl rfl ?_ | refine D_ldE rfl (by omega) (by omega) rfl rfl rfl ?_))
    refine h_callq rfl Tryz.func101 (by kernel_rfl) rfl (candidates_h _ _ _ _ (Q.getD ((x.ands.getD (k - fst_ x.n) default).1 / 2).toNat default).ins (Q.getD ((x.ands.getD (k - fst_ x.n) default).2 / 2).toNat default).ins _ hp.rd (hp.rows hma) hp.rd (hp.rows hmb) hla hlb hga hgb) ?_; rintro _ w ⟨b', c', R, P', ⟨rfl, hRc, hRP⟩, hq⟩; have hx := hq.x; have hp := hp.call2 hq; have hs := hs.ext hx; refine ⟨fun _ => hs, ?_⟩; refine D_ops rfl rfl ?_; skip
    skip
    rw [hca, hcb, ← eka, ← ekb] at hRc
    have hRl : R.length ≤ 64 := by
     have h1 := congrArg List.length hRc
     have h2 := List.length_filter_le (fun u => !pB (domP (joinL (cutsOf x.n (kA x.n (k - fst_ x.n))) (cutsOf x.n (kB x.n (k - fst_ x.n)))) u)) (joinL (cutsOf x.n (kA x.n (k - fst_ x.n))) (cutsOf x.n (kB x.n (k - fst_ x.n))))
     have h3 := joinL_len (cutsOf_len hok (k := kA x.n (k - fst_ x.n)) (by omega)).2 (cutsOf_len hok (k := kB x.n (k - fst_ x.n)) (by omega)).2
     rw [insOf_len] at h1
     unfold freeL at h1
     omega
    rw [← hRc] at hcand
    have hcap := hp.own.cap
    refine h_cond_dec (fun hgt => ?_) (fun hgt => ?_)
    ·have hpre : RdH w0 [rO 24 1 eRo b' c' R, rRows 3 1 eI P', rB b7 62 (eII (x.ands.getD (k - fst_ x.n) default)), rRows 3 1 eI P, rRows 24 1 eRo Q, rO 72 1 eRo (some ⟨b5, 0, none⟩) (m + 1) Q, rB b2 31 x.cs] (subA b' c' Tryz.ti24.size 0) 1 eRo (R.take 7) := ⟨fun w hp => (hp.sl eRo_ok).takeL (by omega) hcap⟩
     have hR7 : (R.take 7).length = 7 := by rw [List.length_take]; omega
     have hins : insOf (R.take 7) = (insOf R).take 7 := by unfold insOf; rw [List.map_take]
     have hR7m : ∀ r, r ∈ R.take 7 → r ∈ P' := fun r hr => hRP r (List.mem_of_mem_take hr)
     refine h_cond_t rfl rfl ?_; skip
     refine H_lit hp (eRo (α := Int)) ([] : List (RowA Int)) rfl rfl rfl rfl (s := 1) rfl (by decide) (by infer_instance) (by rfl) (by rfl) (by rfl) (by decide) ?_; intro w b45 hx hp; refine ops_run nopre rfl ?_; skip
     refine U_append hp rfl (hR7) rfl rfl rfl rfl rfl (by decide) rfl (by first | omega | (simp only [List.length_append, List.length_cons, List.length_nil, List.length_take, List.length_drop, List.length_set, List.length_replicate, List.length_map]; omega)) rfl rfl ?_; intro a4 c4 w hp hnil; refine ops_run nopre rfl ?_; (repeat (refine U_litI hp rfl rfl rfl rfl rfl rfl rfl rfl rfl rfl ?_; intro w _ hx hp; refine ops_run nopre rfl ?_))
     rename_i bk
     refine H_lit hp (eRo (α := Int)) [(⟨[(k : Int)], some ⟨bk, 0, none⟩, 1⟩ : RowA Int)] rfl rfl rfl rfl (s := 1) rfl (by decide) (by infer_instance) (by rfl) (by rfl) (by rfl) (by decide) ?_; intro w b50 hx hp; refine ops_run nopre rfl ?_; skip
     refine U_append hp rfl rfl rfl rfl rfl rfl rfl (by decide) rfl (by first | omega | (simp only [List.length_append, List.length_cons, List.length_nil, List.length_take, List.length_drop, List.length_set, List.length_replicate, List.length_map]; omega)) rfl rfl ?_; intro a6 c6 w hp hnil; refine ops_run nopre rfl ?_; skip
     first | refine U_st0N hp (y := (⟨([] ++ R.take 7) ++ [(⟨[(k : Int)], some ⟨bk, 0, none⟩, 1⟩ : RowA Int)], a6, c6⟩ : RowA (RowA Int))) rfl rfl rfl (by omega) (by decide) (rfl) rfl ?_ | refine U_st0 hp (y := (⟨([] ++ R.take 7) ++ [(⟨[(k : Int)], some ⟨bk, 0, none⟩, 1⟩ : RowA Int)], a6, c6⟩ : RowA (RowA Int))) rfl rfl rfl (by omega) (by decide) (rfl) rfl ?_
     intro w hp; refine ops_run nopre rfl ?_; skip
     have hp := (rRows_app (((((hp.drop).f2.drop).f3.drop)).f1.f1.f3.f3)).f1.f2
     have hp := cuts_put (k := k) (y := (⟨([] ++ R.take 7) ++ [(⟨[(k : Int)], some ⟨bk, 0, none⟩, 1⟩ : RowA Int)], a6, c6⟩ : RowA (RowA Int))) (z := (⟨[(k : Int)], some ⟨bk, 0, none⟩, 1⟩ : RowA Int)) hp (by omega)
     refine IH (k + 1) _ _ _ (by omega) rfl ⟨by omega, _, _, hQ.next hk2 (y := (⟨([] ++ R.take 7) ++ [(⟨[(k : Int)], some ⟨bk, 0, none⟩, 1⟩ : RowA Int)], a6, c6⟩ : RowA (RowA Int))) ?_ (fun r hr => ?_) (fun r hr => List.mem_append_left _ (List.mem_append_left _ hr)), hp⟩
     ·rw [hcand, ← hins]
      unfold insOf
      rw [List.map_append, List.nil_append]
      rfl
     ·have hr : r ∈ ([] ++ R.take 7) ++ [(⟨[(k : Int)], some ⟨bk, 0, none⟩, 1⟩ : RowA Int)] := hr
      rw [List.nil_append, List.mem_append] at hr
      rcases hr with hr | hr
      ·exact List.mem_append_left _ (List.mem_append_right _ (hR7m r hr))
      ·exact List.mem_append_right _ hr
    ·have hR7 : R.length ≤ 7 := by omega
     have hins : insOf R = (insOf R).take 7 := by rw [List.take_of_length_le (by rw [insOf_len]; omega)]
     have hR7m : ∀ r, r ∈ R → r ∈ P' := hRP
     refine h_cond_f rfl rfl ?_; skip
     refine H_lit hp (eRo (α := Int)) ([] : List (RowA Int)) rfl rfl rfl rfl (s := 1) rfl (by decide) (by infer_instance) (by rfl) (by rfl) (by rfl) (by decide) ?_; intro w b45 hx hp; refine ops_run nopre rfl ?_; skip
     refine U_append hp rfl rfl rfl rfl rfl rfl rfl (by decide) rfl (by first | omega | (simp only [List.length_append, List.length_cons, List.length_nil, List.length_take, List.length_drop, List.length_set, List.length_replicate, List.length_map]; omega)) rfl rfl ?_; intro a4 c4 w hp hnil; refine ops_run nopre rfl ?_; (repeat (refine U_litI hp rfl rfl rfl rfl rfl rfl rfl rfl rfl rfl ?_; intro w _ hx hp; refine ops_run nopre rfl ?_))
     rename_i bk
     refine H_lit hp (eRo (α := Int)) [(⟨[(k : Int)], some ⟨bk, 0, none⟩, 1⟩ : RowA Int)] rfl rfl rfl rfl (s := 1) rfl (by decide) (by infer_instance) (by rfl) (by rfl) (by rfl) (by decide) ?_; intro w b50 hx hp; refine ops_run nopre rfl ?_; skip
     refine U_append hp rfl rfl rfl rfl rfl rfl rfl (by decide) rfl (by first | omega | (simp only [List.length_append, List.length_cons, List.length_nil, List.length_take, List.length_drop, List.length_set, List.length_replicate, List.length_map]; omega)) rfl rfl ?_; intro a6 c6 w hp hnil; refine ops_run nopre rfl ?_; skip
     first | refine U_st0N hp (y := (⟨([] ++ R) ++ [(⟨[(k : Int)], some ⟨bk, 0, none⟩, 1⟩ : RowA Int)], a6, c6⟩ : RowA (RowA Int))) rfl rfl rfl (by omega) (by decide) (rfl) rfl ?_ | refine U_st0 hp (y := (⟨([] ++ R) ++ [(⟨[(k : Int)], some ⟨bk, 0, none⟩, 1⟩ : RowA Int)], a6, c6⟩ : RowA (RowA Int))) rfl rfl rfl (by omega) (by decide) (rfl) rfl ?_
     intro w hp; refine ops_run nopre rfl ?_; skip
     have hp := (rRows_app (((((hp.drop).f2.drop).f3.drop)).f1.f1.f3.f3)).f1.f2
     have hp := cuts_put (k := k) (y := (⟨([] ++ R) ++ [(⟨[(k : Int)], some ⟨bk, 0, none⟩, 1⟩ : RowA Int)], a6, c6⟩ : RowA (RowA Int))) (z := (⟨[(k : Int)], some ⟨bk, 0, none⟩, 1⟩ : RowA Int)) hp (by omega)
     refine IH (k + 1) _ _ _ (by omega) rfl ⟨by omega, _, _, hQ.next hk2 (y := (⟨([] ++ R) ++ [(⟨[(k : Int)], some ⟨bk, 0, none⟩, 1⟩ : RowA Int)], a6, c6⟩ : RowA (RowA Int))) ?_ (fun r hr => ?_) (fun r hr => List.mem_append_left _ (List.mem_append_left _ hr)), hp⟩
     ·rw [hcand, ← hins]
      unfold insOf
      rw [List.map_append, List.nil_append]
      rfl
     ·have hr : r ∈ ([] ++ R) ++ [(⟨[(k : Int)], some ⟨bk, 0, none⟩, 1⟩ : RowA Int)] := hr
      rw [List.nil_append, List.mem_append] at hr
      rcases hr with hr | hr
      ·exact List.mem_append_left _ (List.mem_append_right _ (hR7m r hr))
      ·exact List.mem_append_right _ hr
   ·refine h_call rfl Tryz.func39 (by kernel_rfl) rfl ((isAnd_h x k _ hok.b).no (by omega)) ?_; rintro _ w ⟨rfl, hx⟩; have hp := hp.ext hx; refine ops_run nopre rfl ?_; skip
    refine h_cond_t rfl rfl ?_; (repeat (refine U_litI hp rfl rfl rfl rfl rfl rfl rfl rfl rfl rfl ?_; intro w _ hx hp; refine ops_run nopre rfl ?_))
    rename_i bi
    refine H_lit hp (eRo (α := Int)) [(⟨[(k : Int)], some ⟨bi, 0, none⟩, 1⟩ : RowA Int)] rfl rfl rfl rfl (s := 1) rfl (by decide) (by infer_instance) (by rfl) (by rfl) (by rfl) (by decide) ?_; intro w b59 hx hp; refine ops_run nopre rfl ?_; skip
    first | refine U_st0N hp (y := (⟨[(⟨[(k : Int)], some ⟨bi, 0, none⟩, 1⟩ : RowA Int)], some ⟨b59, 0, none⟩, 1⟩ : RowA (RowA Int))) rfl rfl rfl (by omega) (by decide) (rfl) rfl ?_ | refine U_st0 hp (y := (⟨[(⟨[(k : Int)], some ⟨bi, 0, none⟩, 1⟩ : RowA Int)], some ⟨b59, 0, none⟩, 1⟩ : RowA (RowA Int))) rfl rfl rfl (by omega) (by decide) (rfl) rfl ?_
    intro w hp; refine ops_run nopre rfl ?_; skip
    have hp := cuts_put (k := k) (y := (⟨[(⟨[(k : Int)], some ⟨bi, 0, none⟩, 1⟩ : RowA Int)], some ⟨b59, 0, none⟩, 1⟩ : RowA (RowA Int))) (z := (⟨[(k : Int)], some ⟨bi, 0, none⟩, 1⟩ : RowA Int)) hp (by omega)
    refine IH (k + 1) _ _ _ (by omega) rfl ⟨by omega, _, _, hQ.next hk2 (y := (⟨[(⟨[(k : Int)], some ⟨bi, 0, none⟩, 1⟩ : RowA Int)], some ⟨b59, 0, none⟩, 1⟩ : RowA (RowA Int))) ?_ (fun r hr => List.mem_append_right _ hr) (fun r hr => List.mem_append_left _ hr), hp⟩
    rw [cutsOf_leaf (by omega) (by omega)]
    rfl
 ·refine h_cond_f rfl rfl ?_; (repeat (refine R_ret ?_))
  obtain rfl : k = m + 1 := by omega
  exact ⟨some ⟨b5, 0, none⟩, m + 1, Q, P, ⟨by rw [hQl], hQ⟩, (hp.f1.f2).tk 3⟩
end Go.Proofs
end
section
namespace Go.Proofs
open Go.Xw
set_option maxRecDepth 100000
set_option maxHeartbeats 2000000
attribute [local irreducible] Holds elemAddr
structure CutsG (n : NetL) (k : Nat) (Q : List (RowA (RowA Int))) (P : List (RowA Int)) : Prop where
 len : Q.length = k
 cuts : ∀ j, j < k → insOf (Q.getD j default).ins = cutsOf n j
 mem : ∀ j, j < k → ∀ r, r ∈ (Q.getD j default).ins → r ∈ P
theorem CutsG.next {n : NetL} {k : Nat} {Q : List (RowA (RowA Int))} {P P' : List (RowA Int)} (h : CutsG n k Q P) {y : RowA (RowA Int)} (h1 : insOf y.ins = cutsOf n k) (h2 : ∀ r, r ∈ y.ins → r ∈ P') (h3 : ∀ r, r ∈ P → r ∈ P') : CutsG n (k + 1) (Q ++ [y]) P' := by
 have hl := h.len
 have g1 : ∀ j, j < k → (Q ++ [y]).getD j default = Q.getD j default := fun j hj => by
  simp [List.getD_eq_getElem?_getD, List.getElem?_append_left (show j < Q.length by omega)]
 have g2 : (Q ++ [y]).getD k default = y := by
  subst hl
  simp [List.getD_eq_getElem?_getD]
 refine ⟨by rw [List.length_append, hl]; rfl, fun j hj => ?_, fun j hj r hr => ?_⟩
 ·by_cases hjk : j = k
  ·rw [hjk, g2]; exact h1
  ·rw [g1 j (by omega)]; exact h.cuts j (by omega)
 ·by_cases hjk : j = k
  ·rw [hjk, g2] at hr; exact h2 r hr
  ·rw [g1 j (by omega)] at hr; exact h3 r (h.mem j (by omega) r hr)
theorem cuts_addG {w0 w : World} {L : List Res} {P : List (RowA Int)} {Q : List (RowA (RowA Int))} {y : RowA (RowA Int)} {z : RowA Int} (hp : Hp w0 w (rO 24 1 eRo y.ia y.ic y.ins :: rO 3 1 eI z.ia z.ic z.ins :: rRows 3 1 eI P :: rRows 24 1 eRo Q :: L)) :
  Hp w0 w (rRows 3 1 eI (P ++ [z]) :: rRows 24 1 eRo (Q ++ [y]) :: L) := by
 have h1 := rRows_add (hp.f3.f1.f3.f3)
 exact (rRows_add (h1.f2.f2)).f1
theorem l13All_h (x : NetA) (m : Nat) (w0 : World) (hX : NetR w0 x) (hok : NetOkP x.n) (hm : m < nds x.n) :
  Ret Tryz.prog 97 [x.v, .int .i64 (m : Int)] w0 (fun v w => ∃ b c Q P, (v = .slice b Q.length c ∧ CutsG x.n (m + 1) Q P) ∧ Hp w0 w [rO 72 1 eRo b c Q, rRows 24 1 eRo Q, rRows 3 1 eI P]) := by
 have hn := hok.nums
 obtain ⟨n1, n2, n3, n4, n5, n6⟩ := hn
 have hnd := hok.nodes
 have hsz := hok.size'
 have hal : x.n.ands.length = x.ands.length := rfl
 refine enter Tryz.S97ok _ _ rfl rfl (by show _ ≤ _; simp only [List.length]; decide) (fun C => ?_); have hp := Hp.nil w0; refine h_run rfl ?_; skip; (first | refine H_box hp ?_ | refine H_alloc hp rfl ?_); intro w b2 hx hp; refine ops_run nopre rfl ?_; (repeat (refine U_litI hp rfl rfl rfl rfl rfl rfl rfl rfl rfl rfl ?_; intro w _ hx hp; refine ops_run nopre rfl ?_))
 rename_i bi
 refine H_lit hp (eRo (α := Int)) [(⟨[], some ⟨bi, 0, none⟩, 0⟩ : RowA Int)] rfl rfl rfl rfl (s := 1) rfl (by decide) (by infer_instance) (by rfl) (by rfl) (by rfl) (by decide) ?_; intro w b59 hx hp; refine ops_run nopre rfl ?_; skip
 refine H_lit hp (eRo (α := RowA Int)) [(⟨[(⟨[], some ⟨bi, 0, none⟩, 0⟩ : RowA Int)], some ⟨b59, 0, none⟩, 1⟩ : RowA (RowA Int))] rfl rfl rfl rfl (s := 1) rfl (by decide) (by infer_instance) (by rfl) (by rfl) (by rfl) (by decide) ?_; intro w b60 hx hp; refine ops_run nopre rfl ?_; skip
 have hp := (rRows_nil (e := 24) (s := 1) (enc := eRo (α := Int)) hp)
 have hp := (rRows_nil (e := 3) (s := 1) (enc := eI) hp)
 have hp := cuts_addG (y := (⟨[(⟨[], some ⟨bi, 0, none⟩, 0⟩ : RowA Int)], some ⟨b59, 0, none⟩, 1⟩ : RowA (RowA Int))) (z := (⟨[], some ⟨bi, 0, none⟩, 0⟩ : RowA Int)) (hp.f1.f1.f4.f4)
 have hQ0 : CutsG x.n 1 ([] ++ [(⟨[(⟨[], some ⟨bi, 0, none⟩, 0⟩ : RowA Int)], some ⟨b59, 0, none⟩, 1⟩ : RowA (RowA Int))]) ([] ++ [(⟨[], some ⟨bi, 0, none⟩, 0⟩ : RowA Int)]) :=
  CutsG.next (k := 0) (Q := []) (P := []) ⟨rfl, fun j hj => (by omega), fun j hj => (by omega)⟩ (by rw [cutsOf_0]; rfl) (fun r hr => by simpa using hr) (fun r hr => by simp at hr)
 refine h_loop4 [1, 2, 5, 6] (fun (k : Nat) (Q : List (RowA (RowA Int))) (b' : Option Addr) (c' : Nat) => [(1, .int .i64 (m : Int)), (2, .pointer (some ⟨b2, 0, none⟩)), (5, .slice b' Q.length c'), (6, .int .i64 (k : Int))])
  (fun k Q b' c' w' => 0 < k ∧ k ≤ m + 1 ∧ ∃ P, CutsG x.n k Q P ∧ Hp w0 w' [rO 72 1 eRo b' c' Q, rRows 3 1 eI P, rRows 24 1 eRo Q, rB b2 31 x.cs]) (fun k _ _ _ => m + 1 - k) 1 _ _ _ rfl
  ⟨by omega, by omega, _, hQ0, (hp.f3.f2.f2.f3)⟩ ?_
 clear hp hQ0
 rintro k Q b' c' w1 ⟨hk0, hk, P, hQ, hp⟩ IH C
 have hQl := hQ.len
 refine h_run rfl ?_; skip
 refine h_cond_dec (fun hlt => ?_) (fun hlt => ?_)
 ·have hk2 : k < m + 1 := by omega
  refine h_cond_t rfl rfl ?_; skip
  refine H_lit hp (eRo (α := Int)) ([] : List (RowA Int)) rfl rfl rfl rfl (s := 1) rfl (by decide) (by infer_instance) (by rfl) (by rfl) (by rfl) (by decide) ?_; intro w b40 hx hp; refine ops_run nopre rfl ?_; (repeat (refine H_ldB hp rfl rfl ?_))
  refine h_call rfl Tryz.func24 (by kernel_rfl) rfl (l08First_h x _ hok.b) ?_; rintro _ w ⟨rfl, hx⟩; have hp := hp.ext hx; refine ops_run nopre rfl ?_; skip
  refine h_cond_dec (fun hge => ?_) (fun hge => ?_)
  ·have hi : k - fst_ x.n < x.ands.length := by omega
   have hki : fst_ x.n + (k - fst_ x.n) = k := by omega
   obtain ⟨q1, q2, q3, q4⟩ := hok.and_ hi
   have ka := n5 (k - fst_ x.n) hi
   have kb := n6 (k - fst_ x.n) hi
   have eka : kA x.n (k - fst_ x.n) = ((x.ands.getD (k - fst_ x.n) default).1 / 2).toNat := rfl
   have ekb : kB x.n (k - fst_ x.n) = ((x.ands.getD (k - fst_ x.n) default).2 / 2).toNat := rfl
   have ez : ((k : Int) - firstAndL x.n).toNat = k - fst_ x.n := by omega
   have hca := hQ.cuts _ (show kA x.n (k - fst_ x.n) < k by omega)
   have hcb := hQ.cuts _ (show kB x.n (k - fst_ x.n) < k by omega)
   have hla : (Q.getD (kA x.n (k - fst_ x.n)) default).ins.length ≤ 8 := by rw [← insOf_len, hca]; exact (cutsOf_len hok (by omega)).2
   have hlb : (Q.getD (kB x.n (k - fst_ x.n)) default).ins.length ≤ 8 := by rw [← insOf_len, hcb]; exact (cutsOf_len hok (by omega)).2
   have hga : ∀ r, r ∈ (Q.getD (kA x.n (k - fst_ x.n)) default).ins → r.ins.length ≤ 4 := fun r hr => cutsOf_four hok (k := kA x.n (k - fst_ x.n)) (by omega) _ (by rw [← hca]; exact List.mem_map.2 ⟨r, hr, rfl⟩)
   have hgb : ∀ r, r ∈ (Q.getD (kB x.n (k - fst_ x.n)) default).ins → r.ins.length ≤ 4 := fun r hr => cutsOf_four hok (k := kB x.n (k - fst_ x.n)) (by omega) _ (by rw [← hcb]; exact List.mem_map.2 ⟨r, hr, rfl⟩)
   rw [eka] at hca hla hga
   rw [ekb] at hcb hlb hgb
   refine h_cond_t rfl rfl ?_; skip
   refine N_draw hp (by kernel_rfl) (by kernel_rfl) rfl rfl ?_; (repeat (refine N_ldB rfl rfl rfl ?_))
   refine N_call Tryz.func24 (by kernel_rfl) rfl (fun F w hp => ?_); refine Ret.mono (l08First_h x _ hok.b) ?_; rintro _ w ⟨rfl, hx⟩; have hp := hp.ext hx; refine ⟨fun _ => hp.sub (by (repeat (first | exact List.sublist_append_left _ _ | apply List.Sublist.cons))), _, hp, ?_⟩; clear hp; refine N_ops rfl rfl ?_; (repeat (refine N_ldE rfl (by omega) (by omega) rfl rfl rfl ?_))
   (first | refine N_box ?_ | refine N_alloc rfl ?_); intro b7; refine N_ops rfl rfl ?_; (repeat (refine N_stBN rfl rfl rfl rfl (by kernel_rfl) ?_; refine N_ops rfl rfl ?_))
   refine N_end ?_; intro w hp C; refine h_run rfl ?_; skip
   rw [ez] at hp
   have hp : Hp w0 _ [rB b7 62 (eII (x.ands.getD (k - fst_ x.n) default)), rO 24 1 (eRo (α := Int)) (some ⟨b40, 0, none⟩) 0 [], rO 72 1 eRo b' c' Q, rRows 3 1 eI P, rRows 24 1 eRo Q, rB b2 31 x.cs] := hp
   have hra : RdH w0 [rB b7 62 (eII (x.ands.getD (k - fst_ x.n) default)), rO 24 1 (eRo (α := Int)) (some ⟨b40, 0, none⟩) 0 [], rO 72 1 eRo b' c' Q, rRows 3 1 eI P, rRows 24 1 eRo Q, rB b2 31 x.cs] (Q.getD ((x.ands.getD (k - fst_ x.n) default).1 / 2).toNat default).ia 1 eRo (Q.getD ((x.ands.getD (k - fst_ x.n) default).1 / 2).toNat default).ins := RowsH.at_ (inferInstance : RowsH w0 _ 1 eRo Q) (by omega)
   have hrb : RdH w0 [rB b7 62 (eII (x.ands.getD (k - fst_ x.n) default)), rO 24 1 (eRo (α := Int)) (some ⟨b40, 0, none⟩) 0 [], rO 72 1 eRo b' c' Q, rRows 3 1 eI P, rRows 24 1 eRo Q, rB b2 31 x.cs] (Q.getD ((x.ands.getD (k - fst_ x.n) default).2 / 2).toNat default).ia 1 eRo (Q.getD ((x.ands.getD (k - fst_ x.n) default).2 / 2).toNat default).ins := RowsH.at_ (inferInstance : RowsH w0 _ 1 eRo Q) (by omega)
   have hma := hQ.mem _ (show kA x.n (k - fst_ x.n) < k by omega)
   have hmb := hQ.mem _ (show kB x.n (k - fst_ x.n) < k by omega)
   rw [eka] at hma
   rw [ekb] at hmb
   have hcand : (cutsOf x.n k) = selL (cutsOf x.n (kA x.n (k - fst_ x.n))) (cutsOf x.n (kB x.n (k - fst_ x.n))) ++ [[(k : Int)]] := by
    have := cutsOf_and hok (i := k - fst_ x.n) hi
    rw [hki] at this
    exact this
   refine D_draw hp (by kernel_rfl) (by kernel_rfl) rfl rfl ?_; intro w hx hp; have hs := hp; (repeat (refine gLoad ?_; first | refine D_ldB rfl rfl rfl ?_ | refine D_ldE rfl (by omega) (by omega) rfl rfl rfl ?_))
   refine h_callq rfl Tryz.func131 (by kernel_rfl) rfl (l13Join_h _ _ _ _ (Q.getD ((x.ands.getD (k - fst_ x.n) default).1 / 2).toNat default).ins (Q.getD ((x.ands.getD (k - fst_ x.n) default).2 / 2).toNat default).ins _ hp.rd (hp.rows hma) hp.rd (hp.rows hmb) hla hlb hga hgb) ?_; rintro _ w ⟨b9, c9, R, P', ⟨rfl, hRc, hRP⟩, hq⟩; have hx := hq.x; have hp := hp.call2 hq; have hs := hs.ext hx; refine ⟨fun _ => hs, ?_⟩; refine D_ops rfl rfl ?_; skip
   (repeat (refine U_litI hp rfl rfl rfl rfl rfl rfl rfl rfl rfl rfl ?_; intro w _ hx hp; refine ops_run nopre rfl ?_))
   rw [hca, hcb, ← eka, ← ekb] at hRc
   have hRl : R.length ≤ 7 := by
    rw [← insOf_len, hRc]
    unfold selL
    rw [List.length_take]
    omega
   rw [← hRc] at hcand
   rename_i bk
   refine H_lit hp (eRo (α := Int)) [(⟨[(k : Int)], some ⟨bk, 0, none⟩, 1⟩ : RowA Int)] rfl rfl rfl rfl (s := 1) rfl (by decide) (by infer_instance) (by rfl) (by rfl) (by rfl) (by decide) ?_; intro w b50 hx hp; refine ops_run nopre rfl ?_; skip
   refine U_append hp rfl rfl rfl rfl rfl rfl rfl (by decide) rfl (by first | omega | (simp only [List.length_append, List.length_cons, List.length_nil, List.length_take, List.length_drop, List.length_set, List.length_replicate, List.length_map]; omega)) rfl rfl ?_; intro a6 c6 w hp hnil; refine ops_run nopre rfl ?_; skip
   refine H_lit hp (eRo (α := RowA Int)) [(⟨R ++ [(⟨[(k : Int)], some ⟨bk, 0, none⟩, 1⟩ : RowA Int)], a6, c6⟩ : RowA (RowA Int))] rfl rfl rfl rfl (s := 1) rfl (by decide) (by infer_instance) (by rfl) (by rfl) (by rfl) (by decide) ?_; intro w b51 hx hp; refine ops_run nopre rfl ?_; skip
   refine U_append hp rfl rfl rfl rfl rfl rfl rfl (by decide) rfl (by first | omega | (simp only [List.length_append, List.length_cons, List.length_nil, List.length_take, List.length_drop, List.length_set, List.length_replicate, List.length_map]; omega)) rfl rfl ?_; intro a7 c7 w hp hnil; refine ops_run nopre rfl ?_; skip
   have hp := ((hp.drop).drop).f2.f2.f2.f4.f4
   have hp := ((hp.drop).drop).f3.f2.f2.f4.f4
   have hp := (rRows_app hp).f3.f4.f2.f3.f4
   have hp := cuts_addG (y := (⟨R ++ [(⟨[(k : Int)], some ⟨bk, 0, none⟩, 1⟩ : RowA Int)], a6, c6⟩ : RowA (RowA Int))) (z := (⟨[(k : Int)], some ⟨bk, 0, none⟩, 1⟩ : RowA Int)) hp
   refine IH (k + 1) (Q ++ [(⟨R ++ [(⟨[(k : Int)], some ⟨bk, 0, none⟩, 1⟩ : RowA Int)], a6, c6⟩ : RowA (RowA Int))]) a7 c7 _ _ _ (by omega) rfl ⟨by omega, by omega, _, hQ.next (y := (⟨R ++ [(⟨[(k : Int)], some ⟨bk, 0, none⟩, 1⟩ : RowA Int)], a6, c6⟩ : RowA (RowA Int))) ?_ (fun r hr => ?_) (fun r hr => List.mem_append_left _ (List.mem_append_left _ hr)), hp.f1.f1.f2⟩
   ·rw [hcand]
    unfold insOf
    rw [List.map_append]
    rfl
   ·have hr : r ∈ R ++ [(⟨[(k : Int)], some ⟨bk, 0, none⟩, 1⟩ : RowA Int)] := hr
    rw [List.mem_append] at hr
    rcases hr with hr | hr
    ·exact List.mem_append_left _ (List.mem_append_right _ (hRP r hr))
    ·exact List.mem_append_right _ hr
  ·have hRl : ([] : List (RowA Int)).length ≤ 7 := by simp
   refine h_cond_f rfl rfl ?_; (repeat (refine U_litI hp rfl rfl rfl rfl rfl rfl rfl rfl rfl rfl ?_; intro w _ hx hp; refine ops_run nopre rfl ?_))
   rename_i bk
   refine H_lit hp (eRo (α := Int)) [(⟨[(k : Int)], some ⟨bk, 0, none⟩, 1⟩ : RowA Int)] rfl rfl rfl rfl (s := 1) rfl (by decide) (by infer_instance) (by rfl) (by rfl) (by rfl) (by decide) ?_; intro w b50 hx hp; refine ops_run nopre rfl ?_; skip
   refine U_append hp rfl rfl rfl rfl rfl rfl rfl (by decide) rfl (by first | omega | (simp only [List.length_append, List.length_cons, List.length_nil, List.length_take, List.length_drop, List.length_set, List.length_replicate, List.length_map]; omega)) rfl rfl ?_; intro a6 c6 w hp hnil; refine ops_run nopre rfl ?_; skip
   refine H_lit hp (eRo (α := RowA Int)) [(⟨[] ++ [(⟨[(k : Int)], some ⟨bk, 0, none⟩, 1⟩ : RowA Int)], a6, c6⟩ : RowA (RowA Int))] rfl rfl rfl rfl (s := 1) rfl (by decide) (by infer_instance) (by rfl) (by rfl) (by rfl) (by decide) ?_; intro w b51 hx hp; refine ops_run nopre rfl ?_; skip
   refine U_append hp rfl rfl rfl rfl rfl rfl rfl (by decide) rfl (by first | omega | (simp only [List.length_append, List.length_cons, List.length_nil, List.length_take, List.length_drop, List.length_set, List.length_replicate, List.length_map]; omega)) rfl rfl ?_; intro a7 c7 w hp hnil; refine ops_run nopre rfl ?_; skip
   have hp := ((hp.drop).drop).f2.f4.f4.f3.f4
   have hp := cuts_addG (y := (⟨[] ++ [(⟨[(k : Int)], some ⟨bk, 0, none⟩, 1⟩ : RowA Int)], a6, c6⟩ : RowA (RowA Int))) (z := (⟨[(k : Int)], some ⟨bk, 0, none⟩, 1⟩ : RowA Int)) hp
   refine IH (k + 1) (Q ++ [(⟨[] ++ [(⟨[(k : Int)], some ⟨bk, 0, none⟩, 1⟩ : RowA Int)], a6, c6⟩ : RowA (RowA Int))]) a7 c7 _ _ _ (by omega) rfl ⟨by omega, by omega, _, hQ.next (y := (⟨[] ++ [(⟨[(k : Int)], some ⟨bk, 0, none⟩, 1⟩ : RowA Int)], a6, c6⟩ : RowA (RowA Int))) ?_ (fun r hr => List.mem_append_right _ hr) (fun r hr => List.mem_append_left _ hr), hp.f1.f1.f2⟩
   rw [cutsOf_leaf (by omega) (by omega)]
   rfl
 ·refine h_cond_f rfl rfl ?_; (repeat (refine R_ret ?_))
  obtain rfl : k = m + 1 := by omega
  exact ⟨b', c', Q, P, ⟨rfl, hQ⟩, (hp.f1.f2.f2).tk 3⟩
theorem specEnumCuts_x (x : NetA) (k : Int) (w0 : World) (hX : NetR w0 x) (hS : NetS x.n) (hW : NetW x.n) (hK : i64R k) :
  Ret Tryz.prog 52 [x.v, .int .i64 k] w0 (fun v w => ∃ b c R, (v = .slice b R.length c ∧ insOf R = enumF x.n k) ∧ Hp w0 w [rO 24 1 eRo b c R, rRows 3 1 eI R]) := by
 unfold i64R at hK
 refine enter Tryz.S52ok _ _ rfl rfl (by show _ ≤ _; simp only [List.length]; decide) (fun C => ?_); have hp := Hp.nil w0; refine h_run rfl ?_; skip; (first | refine H_box hp ?_ | refine H_alloc hp rfl ?_); intro w b2 hx hp; refine ops_run nopre rfl ?_; skip
 refine H_lit hp (eRo (α := Int)) ([] : List (RowA Int)) rfl rfl rfl rfl (s := 1) rfl (by decide) (by infer_instance) (by rfl) (by rfl) (by rfl) (by decide) ?_; intro w b5 hx hp; refine ops_run nopre rfl ?_; (repeat (refine H_ldB hp rfl rfl ?_))
 by_cases hok : NetOkP x.n
 ·have hn := hok.nums
  obtain ⟨n1, n2, n3, n4, n5, n6⟩ := hn
  have hnd := hok.nodes
  have hcnt : nodeCountL x.n = nodesL x.n := if_pos hok.size
  refine h_call rfl Tryz.func50 (by kernel_rfl) rfl ((specNetOk_h x _ hp.net hS hW).tt (netOkB_yes hok)) ?_; rintro _ w ⟨rfl, hx⟩; have hp := hp.ext hx; refine ops_run nopre rfl ?_; (repeat (refine h_guard_y rfl nopre rfl ?_))
  refine h_guard_by (fun h1 => ?_) (fun h1 => ?_); all_goals (rw [h1]; (first | replace h1 := of_decide_eq_true h1 | replace h1 := of_decide_eq_false h1 | skip); (repeat (first | (refine gGuard ?_; first | refine h_guard_y rfl nopre rfl ?_ | refine h_guard_n rfl nopre rfl ?_) | (refine gLoad ?_; refine H_ldB hp rfl rfl ?_))))
  ·refine h_cond_t rfl rfl ?_; (repeat (refine R_ret ?_))
   exact ⟨some ⟨b5, 0, none⟩, 0, [], ⟨rfl, by rw [enumF_no (fun h => by omega)]; rfl⟩, rRows_nil (hp.f1.f1) |>.f2.f1.f2 |>.tk 2⟩
  ·refine h_call rfl Tryz.func62 (by kernel_rfl) rfl (specNodeCount_h x _) ?_; rintro _ w ⟨rfl, hx⟩; have hp := hp.ext hx; refine ops_run nopre rfl ?_; (repeat (refine h_guard_y rfl nopre rfl ?_))
   rw [hcnt]
   refine h_cond_dec (fun h2 => ?_) (fun h2 => ?_)
   ·refine h_cond_t rfl rfl ?_; (repeat (refine R_ret ?_))
    exact ⟨some ⟨b5, 0, none⟩, 0, [], ⟨rfl, by rw [enumF_no (fun h => by omega)]; rfl⟩, rRows_nil (hp.f1.f1) |>.f2.f1.f2 |>.tk 2⟩
   ·obtain ⟨m, rfl⟩ := Int.eq_ofNat_of_zero_le (show 0 ≤ k by omega)
    have hlen := cutsOf_len hok (k := m) (by omega)
    refine h_cond_f rfl rfl ?_; (repeat (refine H_ldB hp rfl rfl ?_))
    refine h_call rfl Tryz.func97 (by kernel_rfl) rfl (l13All_h x m _ hp.net hok (by omega)) ?_; rintro _ w ⟨b8, c8, Q, P, ⟨rfl, hQ⟩, hq⟩
    have hp : Hp w0 _ [rO 72 1 eRo b8 c8 Q, rRows 24 1 eRo Q, rRows 3 1 eI P, rO 24 1 (eRo (α := Int)) (some ⟨b5, 0, none⟩) 0 [], rB b2 31 x.cs] := hp.call hq
    have hQl := hQ.len
    have hcm := hQ.cuts m (by omega)
    have hmm := hQ.mem m (by omega)
    have hrl : (Q.getD m default).ins.length ≤ 8 := by rw [← insOf_len, hcm]; exact hlen.2
    have hrg : ∀ r, r ∈ (Q.getD m default).ins → r.ins.length ≤ 4 := fun r hr => cutsOf_four hok (k := m) (by omega) _ (by rw [← hcm]; exact List.mem_map.2 ⟨r, hr, rfl⟩)
    have hne8 : b8 ≠ none := nn_of hp (X := Q) (by omega)
    refine ops_run nopre rfl ?_; skip
    rw [enumF_yes ⟨hok, by omega, by omega⟩, show ((m : Nat) : Int).toNat = m by omega, ← hcm]
    have hp := rRows_nil (e := 3) (s := 1) (enc := eI) hp
    refine h_loop4 [1, 5, 6, 7] (fun (j : Nat) (O : List (RowA Int)) (b' : Option Addr) (c' : Nat) => [(1, .int .i64 (m : Int)), (5, .slice b' O.length c'), (6, .slice b8 Q.length c8), (7, .int .i64 (j : Int))])
     (fun j O b' c' w' => j ≤ (Q.getD m default).ins.length ∧ insOf O = (insOf (Q.getD m default).ins).take j ∧ Hp w0 w' [rO 24 1 eRo b' c' O, rRows 3 1 eI O, rO 72 1 eRo b8 c8 Q, rRows 24 1 eRo Q, rRows 3 1 eI P]) (fun j _ _ _ => (Q.getD m default).ins.length - j) 0 [] _ _ rfl
     ⟨by omega, rfl, (hp.f3.f3.f3.f3.f4).tk 5⟩ ?_
    clear hp
    rintro j O b' c' w1 ⟨hj, hO, hp⟩ IH C
    have hOl : O.length = j := by
     have h1 := congrArg List.length hO
     rw [insOf_len, List.length_take, insOf_len] at h1
     omega
    have hrow : RdH w0 [rO 24 1 eRo b' c' O, rRows 3 1 eI O, rO 72 1 eRo b8 c8 Q, rRows 24 1 eRo Q, rRows 3 1 eI P] (Q.getD m default).ia 1 eRo (Q.getD m default).ins := RowsH.at_ (inferInstance : RowsH w0 _ 1 eRo Q) (by omega)
    refine h_run rfl ?_; (repeat (refine H_ldEN hp rfl (by omega) rfl rfl ?_))
    refine h_cond_dec (fun hlt => ?_) (fun hlt => ?_)
    ·have hlt' : j < (Q.getD m default).ins.length := by omega
     have hgi := hrg _ (getD_memR hlt')
     have hrowj : RdH w0 [rO 24 1 eRo b' c' O, rRows 3 1 eI O, rO 72 1 eRo b8 c8 Q, rRows 24 1 eRo Q, rRows 3 1 eI P] ((Q.getD m default).ins.getD j default).ia 1 eI ((Q.getD m default).ins.getD j default).ins := RowsH.mem_ inferInstance (hmm _ (getD_memR hlt'))
     refine h_cond_t rfl rfl ?_; (repeat (first | (refine gLoad ?_; refine H_ldEN hp rfl (by omega) rfl rfl ?_) | (refine gBuild ?_; refine U_litI hp rfl rfl rfl rfl rfl rfl rfl rfl rfl rfl ?_; intro w _ hx hp; refine ops_run nopre rfl ?_)))
     refine U_append hp rfl rfl rfl rfl rfl rfl rfl (by decide) rfl (by first | omega | (simp only [List.length_append, List.length_cons, List.length_nil, List.length_take, List.length_drop, List.length_set, List.length_replicate, List.length_map]; omega)) rfl rfl ?_; intro ac cc w hp hnil; refine ops_run nopre rfl ?_; skip
     refine H_lit hp (eRo (α := Int)) [(⟨[] ++ ((Q.getD m default).ins.getD j default).ins, ac, cc⟩ : RowA Int)] rfl rfl rfl rfl (s := 1) rfl (by decide) (by infer_instance) (by rfl) (by rfl) (by rfl) (by decide) ?_; intro w b67 hx hp; refine ops_run nopre rfl ?_; skip
     refine U_append hp rfl rfl rfl rfl rfl rfl rfl (by decide) rfl (by first | omega | (simp only [List.length_append, List.length_cons, List.length_nil, List.length_take, List.length_drop, List.length_set, List.length_replicate, List.length_map]; omega)) rfl rfl ?_; intro b3 c3 w hp hnil; refine ops_run nopre rfl ?_; skip
     refine IH (j + 1) (O ++ [(⟨[] ++ ((Q.getD m default).ins.getD j default).ins, ac, cc⟩ : RowA Int)]) b3 c3 _ _ _ (by omega) rfl ⟨by omega, ?_, (rRows_add (y := (⟨[] ++ ((Q.getD m default).ins.getD j default).ins, ac, cc⟩ : RowA Int)) ((hp.drop).f1.f2.f2)).f1⟩
     rw [take_snocC (by rw [insOf_len]; exact hlt'), ← hO, insOf_get]
     unfold insOf
     rw [List.map_append]
     rfl
    ·refine h_cond_f rfl rfl ?_; (repeat (refine R_ret ?_))
     obtain rfl : j = (Q.getD m default).ins.length := by omega
     rw [List.take_of_length_le (by rw [insOf_len]; exact Nat.le_refl _)] at hO
     exact ⟨b', c', O, ⟨rfl, hO⟩, hp.tk 2⟩
 ·refine h_call rfl Tryz.func50 (by kernel_rfl) rfl ((specNetOk_h x _ hp.net hS hW).ff (netOkB_no hok)) ?_; rintro _ w ⟨rfl, hx⟩; have hp := hp.ext hx; refine ops_run nopre rfl ?_; (repeat (refine h_guard_n rfl nopre rfl ?_))
  refine h_cond_t rfl rfl ?_; (repeat (refine R_ret ?_))
  exact ⟨some ⟨b5, 0, none⟩, 0, [], ⟨rfl, by rw [enumF_no (fun h => hok h.1)]; rfl⟩, rRows_nil (hp.f1.f1) |>.f2.f1.f2 |>.tk 2⟩
end Go.Proofs
end
