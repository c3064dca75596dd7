/- The contracts of the program's EnumCuts; each under its stated conditions. -/
import Derived.Test.YtbjgekllkfnjnaaEnum
set_option linter.all false
namespace Go.Xw
theorem rRows_app {α : Type} {e : TypeId} {s : Nat} {enc : α → List Value} {w0 w : World} {L : List Res} {P Q : List (RowA α)} (h : Hp w0 w (rRows e s enc Q :: rRows e s enc P :: L)) : Hp w0 w (rRows e s enc (P ++ Q) :: L) := by
 have h1 := (h.f1).unpack
 have h2 : Hp w0 w (rRows e s enc Q :: (P.map (fun r => rO e s enc r.ia r.ic r.ins) ++ L)) := h1.perm (List.perm_middle)
 have h3 := h2.unpack
 refine Hp.pack (Hp.perm h3 ?_)
 rw [List.map_append, ← List.append_assoc]
 exact (List.perm_append_comm).append_right _
end Go.Xw
namespace Go.Proofs
open Go.Xw
set_option maxRecDepth 100000
set_option maxHeartbeats 2000000
attribute [local irreducible] Holds elemAddr
theorem cutsOf_four {n : NetL} (hok : NetOkP n) {k : Nat} (hk : k < nds n) : ∀ u, u ∈ cutsOf n k → u.length ≤ 4 := fun u hu => by
 have n1 := hok.nums.n1
 by_cases h0 : k = 0
 ·rw [h0, cutsOf_0] at hu
  rw [List.mem_singleton.1 hu]; simp
 ·by_cases h1 : k < fst_ n
  ·rw [cutsOf_leaf (by omega) h1] at hu
   rw [List.mem_singleton.1 hu]; simp
  ·have := cutsOf_and hok (i := k - fst_ n) (by omega)
   rw [show fst_ n + (k - fst_ n) = k by omega] at this
   rw [this, List.mem_append] at hu
   rcases hu with hu | hu
   ·exact (joinL_good _ _ u (selL_mem hu).1).1
   ·rw [List.mem_singleton.1 hu]; simp
structure CutsR (n : NetL) (m k : Nat) (Q : List (RowA (RowA Int))) (P : List (RowA Int)) : Prop where
 len : Q.length = m + 1
 cuts : ∀ j, j < k → insOf (Q.getD j default).ins = cutsOf n j
 nil : ∀ j, k ≤ j → j < m + 1 → Q.getD j default = ⟨[], none, 0⟩
 mem : ∀ j, j < k → ∀ r, r ∈ (Q.getD j default).ins → r ∈ P
theorem CutsR.next {n : NetL} {m k : Nat} {Q : List (RowA (RowA Int))} {P P' : List (RowA Int)} (h : CutsR n m k Q P) (hk : k < m + 1) {y : RowA (RowA Int)} (h1 : insOf y.ins = cutsOf n k) (h2 : ∀ r, r ∈ y.ins → r ∈ P') (h3 : ∀ r, r ∈ P → r ∈ P') : CutsR n m (k + 1) (Q.set k y) P' := by
 have hl := h.len
 refine ⟨by rw [List.length_set]; exact hl, fun j hj => ?_, fun j h1 h2 => ?_, fun j hj r hr => ?_⟩
 ·rw [set_getE (by omega)]
  by_cases hjk : j = k
  ·rw [if_pos hjk, hjk]; exact h1
  ·rw [if_neg hjk]; exact h.cuts j (by omega)
 ·rw [set_getE (by omega), if_neg (by omega)]
  exact h.nil j (by omega) h2
 ·rw [set_getE (by omega)] at hr
  by_cases hjk : j = k
  ·rw [if_pos hjk] at hr; exact h2 r hr
  ·rw [if_neg hjk] at hr; exact h3 r (h.mem j (by omega) r hr)
theorem cuts_put {w0 w : World} {L : List Res} {P : List (RowA Int)} {Q : List (RowA (RowA Int))} {k : Nat} {y : RowA (RowA Int)} {z : RowA Int} (hp : Hp w0 w (rO 26 1 eRo y.ia y.ic y.ins :: rO 3 1 eI z.ia z.ic z.ins :: rRows 3 1 eI P :: rRows 26 1 eRo Q :: L)) (hk : k < Q.length) :
  Hp w0 w (rRows 3 1 eI (P ++ [z]) :: rRows 26 1 eRo (Q.set k y) :: L) := by
 have h1 := rRows_add (hp.f3.f1.f3.f3)
 obtain ⟨Qr, h2, hback⟩ := rRows_at (h1.f1.f1.f2) hk
 exact (hback _ _ y ((h2.drop).f1.f1.f2)).f1
theorem allCuts_h (x : NetA) (m : Nat) (w0 : World) (hX : NetR w0 x) (hok : NetOkP x.n) (hm : m < nds x.n) :
  Ret Try.prog 52 [x.v, .int .i64 (m : Int)] w0 (fun v w => ∃ b c Q P, (v = .slice b Q.length c ∧ CutsR x.n m (m + 1) Q P) ∧ Hp w0 w [rO 37 1 eRo b c Q, rRows 26 1 eRo Q, rRows 3 1 eI P]) := by
 have hn := hok.nums
 obtain ⟨n1, n2, n3, n4, n5, n6⟩ := hn
 have hnd := hok.nodes
 have hsz := hok.size'
 have hal : x.n.ands.length = x.ands.length := rfl
 refine enter Try.S52ok _ _ rfl rfl (by show _ ≤ _; simp only [List.length]; decide) (fun C => ?_); have hp := Hp.nil w0; refine h_run rfl ?_; skip; (first | refine H_box hp ?_ | refine H_alloc hp rfl ?_); intro w b2 hx hp; refine ops_run nopre rfl ?_; skip
 rw [show (m : Int) + 1 = ((m + 1 : Nat) : Int) by omega]
 refine H_make hp (eRo (α := RowA Int)) (⟨[], none, 0⟩ : RowA (RowA Int)) rfl rfl rfl rfl (s := 1) rfl (by decide) rfl (by unfold maxLen; omega) (by show 24 * _ ≤ _; omega) ?_; intro w b5 hx hp; refine ops_run nopre rfl ?_; skip
 have hp := (rRows_nils (e := 26) (s := 1) (enc := eRo (α := Int)) (m + 1) hp)
 have hp := (rRows_nil (e := 3) (s := 1) (enc := eI) hp)
 refine h_loop [1, 2, 5, 6] (fun (k : Nat) => [(1, .int .i64 (m : Int)), (2, .pointer (some ⟨b2, 0, none⟩)), (5, .slice (some ⟨b5, 0, none⟩) (m + 1) (m + 1)), (6, .int .i64 (k : Int))])
  (fun k w' => k ≤ m + 1 ∧ ∃ Q P, CutsR x.n m k Q P ∧ Hp w0 w' [rRows 3 1 eI P, rRows 26 1 eRo Q, rO 37 1 eRo (some ⟨b5, 0, none⟩) (m + 1) Q, rB b2 28 x.cs]) (fun k => m + 1 - k) 0 rfl
  ⟨by omega, List.replicate (m + 1) ⟨[], none, 0⟩, [], ⟨by simp, fun j hj => by omega, fun j _ hj => by simp [List.getD_eq_getElem?_getD, hj], fun j hj => by omega⟩, hp⟩ ?_
 clear hp
 rintro k w1 ⟨hk, Q, P, hQ, hp⟩ IH C
 have hQl := hQ.len
 refine h_run rfl ?_; skip
 refine h_cond_dec (fun hlt => ?_) (fun hlt => ?_)
 ·have hk2 : k < m + 1 := by omega
  have hnilk := hQ.nil k (Nat.le_refl _) hk2
  refine h_cond_t rfl rfl ?_; skip
  by_cases h0 : k = 0
  ·subst h0
   refine h_cond_t (decide_eq_true rfl) rfl ?_; (repeat (refine U_litI hp rfl rfl rfl rfl rfl rfl rfl rfl rfl rfl ?_; intro w _ hx hp; refine ops_run nopre rfl ?_))
   rename_i bi
   refine H_lit hp (eRo (α := Int)) [(⟨[], some ⟨bi, 0, none⟩, 0⟩ : RowA Int)] rfl rfl rfl rfl (s := 1) rfl (by decide) (by infer_instance) (by rfl) (by rfl) (by rfl) (by decide) ?_; intro w b59 hx hp; refine ops_run nopre rfl ?_; skip
   first | refine U_st0N hp (y := (⟨[(⟨[], some ⟨bi, 0, none⟩, 0⟩ : RowA Int)], some ⟨b59, 0, none⟩, 1⟩ : RowA (RowA Int))) rfl rfl rfl (by omega) (by decide) (rfl) rfl ?_ | refine U_st0 hp (y := (⟨[(⟨[], some ⟨bi, 0, none⟩, 0⟩ : RowA Int)], some ⟨b59, 0, none⟩, 1⟩ : RowA (RowA Int))) rfl rfl rfl (by omega) (by decide) (rfl) rfl ?_
   intro w hp; refine ops_run nopre rfl ?_; skip
   have hp := cuts_put (k := 0) (y := (⟨[(⟨[], some ⟨bi, 0, none⟩, 0⟩ : RowA Int)], some ⟨b59, 0, none⟩, 1⟩ : RowA (RowA Int))) (z := (⟨[], some ⟨bi, 0, none⟩, 0⟩ : RowA Int)) hp (by omega)
   refine IH (0 + 1) _ _ _ (by omega) rfl ⟨by omega, _, _, hQ.next hk2 (y := (⟨[(⟨[], some ⟨bi, 0, none⟩, 0⟩ : RowA Int)], some ⟨b59, 0, none⟩, 1⟩ : RowA (RowA Int))) rfl (fun r hr => List.mem_append_right _ hr) (fun r hr => List.mem_append_left _ hr), hp⟩
  ·refine h_cond_f (decide_eq_false (by omega)) rfl ?_; (repeat (refine H_ldB hp rfl rfl ?_))
   by_cases hA : fst_ x.n ≤ k
   ·have hi : k - fst_ x.n < x.ands.length := by omega
    have hki : fst_ x.n + (k - fst_ x.n) = k := by omega
    obtain ⟨q1, q2, q3, q4⟩ := hok.and_ hi
    have ka := n5 (k - fst_ x.n) hi
    have kb := n6 (k - fst_ x.n) hi
    have eka : kA x.n (k - fst_ x.n) = ((x.ands.getD (k - fst_ x.n) default).1 / 2).toNat := rfl
    have ekb : kB x.n (k - fst_ x.n) = ((x.ands.getD (k - fst_ x.n) default).2 / 2).toNat := rfl
    have ez : ((k : Int) - firstAndL x.n).toNat = k - fst_ x.n := by omega
    have hca := hQ.cuts _ (show kA x.n (k - fst_ x.n) < k by omega)
    have hcb := hQ.cuts _ (show kB x.n (k - fst_ x.n) < k by omega)
    have hla : (Q.getD (kA x.n (k - fst_ x.n)) default).ins.length ≤ 8 := by rw [← insOf_len, hca]; exact (cutsOf_len hok (by omega)).2
    have hlb : (Q.getD (kB x.n (k - fst_ x.n)) default).ins.length ≤ 8 := by rw [← insOf_len, hcb]; exact (cutsOf_len hok (by omega)).2
    have hga : ∀ r, r ∈ (Q.getD (kA x.n (k - fst_ x.n)) default).ins → r.ins.length ≤ 4 := fun r hr => cutsOf_four hok (k := kA x.n (k - fst_ x.n)) (by omega) _ (by rw [← hca]; exact List.mem_map.2 ⟨r, hr, rfl⟩)
    have hgb : ∀ r, r ∈ (Q.getD (kB x.n (k - fst_ x.n)) default).ins → r.ins.length ≤ 4 := fun r hr => cutsOf_four hok (k := kB x.n (k - fst_ x.n)) (by omega) _ (by rw [← hcb]; exact List.mem_map.2 ⟨r, hr, rfl⟩)
    rw [eka] at hca hla hga
    rw [ekb] at hcb hlb hgb
    refine h_call rfl Try.func46 (by kernel_rfl) rfl ((isAnd_h x k _ hok.b).yes (by omega)) ?_; rintro _ w ⟨rfl, hx⟩; have hp := hp.ext hx; refine ops_run nopre rfl ?_; skip
    refine h_cond_f rfl rfl ?_; skip
    refine N_draw hp (by kernel_rfl) (by kernel_rfl) rfl rfl ?_; (repeat (refine N_ldB rfl rfl rfl ?_))
    refine N_call Try.func91 (by kernel_rfl) rfl (fun F w hp => ?_); refine Ret.mono (firstAnd_h x _ hok.b) ?_; rintro _ w ⟨rfl, hx⟩; have hp := hp.ext hx; refine ⟨fun _ => hp.sub (by (repeat (first | exact List.sublist_append_left _ _ | apply List.Sublist.cons))), _, hp, ?_⟩; clear hp; refine N_ops rfl rfl ?_; (repeat (refine N_ldE rfl (by omega) (by omega) rfl rfl rfl ?_))
    (first | refine N_box ?_ | refine N_alloc rfl ?_); intro b7; refine N_ops rfl rfl ?_; (repeat (refine N_stBN rfl rfl rfl rfl (by kernel_rfl) ?_; refine N_ops rfl rfl ?_))
    refine N_end ?_; intro w hp C; refine h_run rfl ?_; skip
    rw [ez] at hp
    have hlk : ∀ w, Hp w0 w [rB b7 79 (eII (x.ands.getD (k - fst_ x.n) default)), rRows 3 1 eI P, rRows 26 1 eRo Q, rO 37 1 eRo (some ⟨b5, 0, none⟩) (m + 1) Q, rB b2 28 x.cs] → True := fun _ _ => trivial
    have hp : Hp w0 _ [rB b7 79 (eII (x.ands.getD (k - fst_ x.n) default)), rRows 3 1 eI P, rRows 26 1 eRo Q, rO 37 1 eRo (some ⟨b5, 0, none⟩) (m + 1) Q, rB b2 28 x.cs] := hp
    have hra : RdH w0 [rB b7 79 (eII (x.ands.getD (k - fst_ x.n) default)), rRows 3 1 eI P, rRows 26 1 eRo Q, rO 37 1 eRo (some ⟨b5, 0, none⟩) (m + 1) Q, rB b2 28 x.cs] (Q.getD ((x.ands.getD (k - fst_ x.n) default).1 / 2).toNat default).ia 1 eRo (Q.getD ((x.ands.getD (k - fst_ x.n) default).1 / 2).toNat default).ins := RowsH.at_ (inferInstance : RowsH w0 _ 1 eRo Q) (by omega)
    have hrb : RdH w0 [rB b7 79 (eII (x.ands.getD (k - fst_ x.n) default)), rRows 3 1 eI P, rRows 26 1 eRo Q, rO 37 1 eRo (some ⟨b5, 0, none⟩) (m + 1) Q, rB b2 28 x.cs] (Q.getD ((x.ands.getD (k - fst_ x.n) default).2 / 2).toNat default).ia 1 eRo (Q.getD ((x.ands.getD (k - fst_ x.n) default).2 / 2).toNat default).ins := RowsH.at_ (inferInstance : RowsH w0 _ 1 eRo Q) (by omega)
    have hma := hQ.mem _ (show kA x.n (k - fst_ x.n) < k by omega)
    have hmb := hQ.mem _ (show kB x.n (k - fst_ x.n) < k by omega)
    rw [eka] at hma
    rw [ekb] at hmb
    have hcand : (cutsOf x.n k) = (freeL (joinL (cutsOf x.n (kA x.n (k - fst_ x.n))) (cutsOf x.n (kB x.n (k - fst_ x.n))))).take 7 ++ [[(k : Int)]] := by
     have := cutsOf_and hok (i := k - fst_ x.n) hi
     rw [hki] at this
     exact this
    refine D_draw hp (by kernel_rfl) (by kernel_rfl) rfl rfl ?_; intro w hx hp; have hs := hp; (repeat (refine gLoad ?_; first | refine D_ldB rfl rfl rfl ?_ | refine D_ldE rfl (by omega) (by omega) rfl rfl rfl ?_))
    refine h_callq rfl Try.func101 (by kernel_rfl) rfl (candidates_h _ _ _ _ (Q.getD ((x.ands.getD (k - fst_ x.n) default).1 / 2).toNat default).ins (Q.getD ((x.ands.getD (k - fst_ x.n) default).2 / 2).toNat default).ins _ hp.rd (hp.rows hma) hp.rd (hp.rows hmb) hla hlb hga hgb) ?_; rintro _ w ⟨b', c', R, P', ⟨rfl, hRc, hRP⟩, hq⟩; have hx := hq.x; have hp := hp.call2 hq; have hs := hs.ext hx; refine ⟨fun _ => hs, ?_⟩; refine D_ops rfl rfl ?_; skip
    skip
    rw [hca, hcb, ← eka, ← ekb] at hRc
    have hRl : R.length ≤ 64 := by
     have h1 := congrArg List.length hRc
     have h2 := List.length_filter_le (fun u => !pB (domP (joinL (cutsOf x.n (kA x.n (k - fst_ x.n))) (cutsOf x.n (kB x.n (k - fst_ x.n)))) u)) (joinL (cutsOf x.n (kA x.n (k - fst_ x.n))) (cutsOf x.n (kB x.n (k - fst_ x.n))))
     have h3 := joinL_len (cutsOf_len hok (k := kA x.n (k - fst_ x.n)) (by omega)).2 (cutsOf_len hok (k := kB x.n (k - fst_ x.n)) (by omega)).2
     rw [insOf_len] at h1
     unfold freeL at h1
     omega
    rw [← hRc] at hcand
    have hcap := hp.own.cap
    refine h_cond_dec (fun hgt => ?_) (fun hgt => ?_)
    ·have hpre : RdH w0 [rO 26 1 eRo b' c' R, rRows 3 1 eI P', rB b7 79 (eII (x.ands.getD (k - fst_ x.n) default)), rRows 3 1 eI P, rRows 26 1 eRo Q, rO 37 1 eRo (some ⟨b5, 0, none⟩) (m + 1) Q, rB b2 28 x.cs] (subA b' c' Try.ti26.size 0) 1 eRo (R.take 7) := ⟨fun w hp => (hp.sl eRo_ok).takeL (by omega) hcap⟩
     have hR7 : (R.take 7).length = 7 := by rw [List.length_take]; omega
     have hins : insOf (R.take 7) = (insOf R).take 7 := by unfold insOf; rw [List.map_take]
     have hR7m : ∀ r, r ∈ R.take 7 → r ∈ P' := fun r hr => hRP r (List.mem_of_mem_take hr)
     refine h_cond_t rfl rfl ?_; skip
     refine H_lit hp (eRo (α := Int)) ([] : List (RowA Int)) rfl rfl rfl rfl (s := 1) rfl (by decide) (by infer_instance) (by rfl) (by rfl) (by rfl) (by decide) ?_; intro w b45 hx hp; refine ops_run nopre rfl ?_; skip
     refine U_append hp rfl (hR7) rfl rfl rfl rfl rfl (by decide) rfl (by first | omega | (simp only [List.length_append, List.length_cons, List.length_nil, List.length_take, List.length_drop, List.length_set, List.length_replicate, List.length_map]; omega)) rfl rfl ?_; intro a4 c4 w hp hnil; refine ops_run nopre rfl ?_; (repeat (refine U_litI hp rfl rfl rfl rfl rfl rfl rfl rfl rfl rfl ?_; intro w _ hx hp; refine ops_run nopre rfl ?_))
     rename_i bk
     refine H_lit hp (eRo (α := Int)) [(⟨[(k : Int)], some ⟨bk, 0, none⟩, 1⟩ : RowA Int)] rfl rfl rfl rfl (s := 1) rfl (by decide) (by infer_instance) (by rfl) (by rfl) (by rfl) (by decide) ?_; intro w b50 hx hp; refine ops_run nopre rfl ?_; skip
     refine U_append hp rfl rfl rfl rfl rfl rfl rfl (by decide) rfl (by first | omega | (simp only [List.length_append, List.length_cons, List.length_nil, List.length_take, List.length_drop, List.length_set, List.length_replicate, List.length_map]; omega)) rfl rfl ?_; intro a6 c6 w hp hnil; refine ops_run nopre rfl ?_; skip
     first | refine U_st0N hp (y := (⟨([] ++ R.take 7) ++ [(⟨[(k : Int)], some ⟨bk, 0, none⟩, 1⟩ : RowA Int)], a6, c6⟩ : RowA (RowA Int))) rfl rfl rfl (by omega) (by decide) (rfl) rfl ?_ | refine U_st0 hp (y := (⟨([] ++ R.take 7) ++ [(⟨[(k : Int)], some ⟨bk, 0, none⟩, 1⟩ : RowA Int)], a6, c6⟩ : RowA (RowA Int))) rfl rfl rfl (by omega) (by decide) (rfl) rfl ?_
     intro w hp; refine ops_run nopre rfl ?_; skip
     have hp := (rRows_app (((((hp.drop).f2.drop).f3.drop)).f1.f1.f3.f3)).f1.f2
     have hp := cuts_put (k := k) (y := (⟨([] ++ R.take 7) ++ [(⟨[(k : Int)], some ⟨bk, 0, none⟩, 1⟩ : RowA Int)], a6, c6⟩ : RowA (RowA Int))) (z := (⟨[(k : Int)], some ⟨bk, 0, none⟩, 1⟩ : RowA Int)) hp (by omega)
     refine IH (k + 1) _ _ _ (by omega) rfl ⟨by omega, _, _, hQ.next hk2 (y := (⟨([] ++ R.take 7) ++ [(⟨[(k : Int)], some ⟨bk, 0, none⟩, 1⟩ : RowA Int)], a6, c6⟩ : RowA (RowA Int))) ?_ (fun r hr => ?_) (fun r hr => List.mem_append_left _ (List.mem_append_left _ hr)), hp⟩
     ·rw [hcand, ← hins]
      unfold insOf
      rw [List.map_append, List.nil_append]
      rfl
     ·have hr : r ∈ ([] ++ R.take 7) ++ [(⟨[(k : Int)], some ⟨bk, 0, none⟩, 1⟩ : RowA Int)] := hr
      rw [List.nil_append, List.mem_append] at hr
      rcases hr with hr | hr
      ·exact List.mem_append_left _ (List.mem_append_right _ (hR7m r hr))
      ·exact List.mem_append_right _ hr
    ·have hR7 : R.length ≤ 7 := by omega
     have hins : insOf R = (insOf R).take 7 := by rw [List.take_of_length_le (by rw [insOf_len]; omega)]
     have hR7m : ∀ r, r ∈ R → r ∈ P' := hRP
     refine h_cond_f rfl rfl ?_; skip
     refine H_lit hp (eRo (α := Int)) ([] : List (RowA Int)) rfl rfl rfl rfl (s := 1) rfl (by decide) (by infer_instance) (by rfl) (by rfl) (by rfl) (by decide) ?_; intro w b45 hx hp; refine ops_run nopre rfl ?_; skip
     refine U_append hp rfl rfl rfl rfl rfl rfl rfl (by decide) rfl (by first | omega | (simp only [List.length_append, List.length_cons, List.length_nil, List.length_take, List.length_drop, List.length_set, List.length_replicate, List.length_map]; omega)) rfl rfl ?_; intro a4 c4 w hp hnil; refine ops_run nopre rfl ?_; (repeat (refine U_litI hp rfl rfl rfl rfl rfl rfl rfl rfl rfl rfl ?_; intro w _ hx hp; refine ops_run nopre rfl ?_))
     rename_i bk
     refine H_lit hp (eRo (α := Int)) [(⟨[(k : Int)], some ⟨bk, 0, none⟩, 1⟩ : RowA Int)] rfl rfl rfl rfl (s := 1) rfl (by decide) (by infer_instance) (by rfl) (by rfl) (by rfl) (by decide) ?_; intro w b50 hx hp; refine ops_run nopre rfl ?_; skip
     refine U_append hp rfl rfl rfl rfl rfl rfl rfl (by decide) rfl (by first | omega | (simp only [List.length_append, List.length_cons, List.length_nil, List.length_take, List.length_drop, List.length_set, List.length_replicate, List.length_map]; omega)) rfl rfl ?_; intro a6 c6 w hp hnil; refine ops_run nopre rfl ?_; skip
     first | refine U_st0N hp (y := (⟨([] ++ R) ++ [(⟨[(k : Int)], some ⟨bk, 0, none⟩, 1⟩ : RowA Int)], a6, c6⟩ : RowA (RowA Int))) rfl rfl rfl (by omega) (by decide) (rfl) rfl ?_ | refine U_st0 hp (y := (⟨([] ++ R) ++ [(⟨[(k : Int)], some ⟨bk, 0, none⟩, 1⟩ : RowA Int)], a6, c6⟩ : RowA (RowA Int))) rfl rfl rfl (by omega) (by decide) (rfl) rfl ?_
     intro w hp; refine ops_run nopre rfl ?_; skip
     have hp := (rRows_app (((((hp.drop).f2.drop).f3.drop)).f1.f1.f3.f3)).f1.f2
     have hp := cuts_put (k := k) (y := (⟨([] ++ R) ++ [(⟨[(k : Int)], some ⟨bk, 0, none⟩, 1⟩ : RowA Int)], a6, c6⟩ : RowA (RowA Int))) (z := (⟨[(k : Int)], some ⟨bk, 0, none⟩, 1⟩ : RowA Int)) hp (by omega)
     refine IH (k + 1) _ _ _ (by omega) rfl ⟨by omega, _, _, hQ.next hk2 (y := (⟨([] ++ R) ++ [(⟨[(k : Int)], some ⟨bk, 0, none⟩, 1⟩ : RowA Int)], a6, c6⟩ : RowA (RowA Int))) ?_ (fun r hr => ?_) (fun r hr => List.mem_append_left _ (List.mem_append_left _ hr)), hp⟩
     ·rw [hcand, ← hins]
      unfold insOf
      rw [List.map_append, List.nil_append]
      rfl
     ·have hr : r ∈ ([] ++ R) ++ [(⟨[(k : Int)], some ⟨bk, 0, none⟩, 1⟩ : RowA Int)] := hr
      rw [List.nil_append, List.mem_append] at hr
      rcases hr with hr | hr
      ·exact List.mem_append_left _ (List.mem_append_right _ (hR7m r hr))
      ·exact List.mem_append_right _ hr
   ·refine h_call rfl Try.func46 (by kernel_rfl) rfl ((isAnd_h x k _ hok.b).no (by omega)) ?_; rintro _ w ⟨rfl, hx⟩; have hp := hp.ext hx; refine ops_run nopre rfl ?_; skip
    refine h_cond_t rfl rfl ?_; (repeat (refine U_litI hp rfl rfl rfl rfl rfl rfl rfl rfl rfl rfl ?_; intro w _ hx hp; refine ops_run nopre rfl ?_))
    rename_i bi
    refine H_lit hp (eRo (α := Int)) [(⟨[(k : Int)], some ⟨bi, 0, none⟩, 1⟩ : RowA Int)] rfl rfl rfl rfl (s := 1) rfl (by decide) (by infer_instance) (by rfl) (by rfl) (by rfl) (by decide) ?_; intro w b59 hx hp; refine ops_run nopre rfl ?_; skip
    first | refine U_st0N hp (y := (⟨[(⟨[(k : Int)], some ⟨bi, 0, none⟩, 1⟩ : RowA Int)], some ⟨b59, 0, none⟩, 1⟩ : RowA (RowA Int))) rfl rfl rfl (by omega) (by decide) (rfl) rfl ?_ | refine U_st0 hp (y := (⟨[(⟨[(k : Int)], some ⟨bi, 0, none⟩, 1⟩ : RowA Int)], some ⟨b59, 0, none⟩, 1⟩ : RowA (RowA Int))) rfl rfl rfl (by omega) (by decide) (rfl) rfl ?_
    intro w hp; refine ops_run nopre rfl ?_; skip
    have hp := cuts_put (k := k) (y := (⟨[(⟨[(k : Int)], some ⟨bi, 0, none⟩, 1⟩ : RowA Int)], some ⟨b59, 0, none⟩, 1⟩ : RowA (RowA Int))) (z := (⟨[(k : Int)], some ⟨bi, 0, none⟩, 1⟩ : RowA Int)) hp (by omega)
    refine IH (k + 1) _ _ _ (by omega) rfl ⟨by omega, _, _, hQ.next hk2 (y := (⟨[(⟨[(k : Int)], some ⟨bi, 0, none⟩, 1⟩ : RowA Int)], some ⟨b59, 0, none⟩, 1⟩ : RowA (RowA Int))) ?_ (fun r hr => List.mem_append_right _ hr) (fun r hr => List.mem_append_left _ hr), hp⟩
    rw [cutsOf_leaf (by omega) (by omega)]
    rfl
 ·refine h_cond_f rfl rfl ?_; (repeat (refine R_ret ?_))
  obtain rfl : k = m + 1 := by omega
  exact ⟨some ⟨b5, 0, none⟩, m + 1, Q, P, ⟨by rw [hQl], hQ⟩, (hp.f1.f2).tk 3⟩
theorem copyIntsR_h (a : Option Addr) (c : Nat) (xs : List Int) (w0 : World) (ha : Rd w0 a 1 eI xs) (hl : xs.length ≤ 1000) :
  Ret Try.prog 100 [.slice a xs.length c] w0 (fun v w => ∃ b c', v = .slice b xs.length c' ∧ Hp w0 w [rO 3 1 eI b c' xs]) := by
 refine (copyInts_ok a c xs w0 ha.h (by omega)).mono ?_
 rintro v w ⟨b, c', rfl, ho, hx⟩
 exact ⟨b, c', rfl, (Hp.nil w0).ownN hx ho⟩
theorem copyLists_h (a : Option Addr) (c n : Nat) (R : List (RowA Int)) (hn : R.length = n) (w0 : World) (hA : Rd w0 a 1 eRo R) (hAr : RowsR w0 R) (hl : R.length ≤ 1000) (hg : ∀ r, r ∈ R → r.ins.length ≤ 1000) :
  Ret Try.prog 51 [.slice a n c] w0 (fun v w => ∃ b c' R', (v = .slice b R'.length c' ∧ insOf R' = insOf R) ∧ Hp w0 w [rO 26 1 eRo b c' R', rRows 3 1 eI R']) := by
 subst hn
 refine enter Try.S51ok _ _ rfl rfl (by show _ ≤ _; simp only [List.length]; decide) (fun C => ?_); have hp := Hp.nil w0; refine h_run rfl ?_; skip
 have hp0 : Hp w0 _ [rO 26 1 (eRo (α := Int)) none 0 [], rRows 3 1 eI []] := (rRows_nil hp).ownN (Ext.refl _) (Own.nil _ _ _ _ _)
 refine h_loop4 [3, 6, 7, 8] (fun (i : Nat) (O : List (RowA Int)) (b2 : Option Addr) (c2 : Nat) => [(3, .slice b2 O.length c2), (6, .slice a R.length c), (7, .int .i64 R.length), (8, .int .i64 (i : Int))])
  (fun i O b2 c2 w' => (i ≤ R.length ∧ insOf O = (insOf R).take i) ∧ Hp w0 w' [rO 26 1 eRo b2 c2 O, rRows 3 1 eI O]) (fun i _ _ _ => R.length - i) 0 [] none 0 rfl ⟨⟨by omega, rfl⟩, hp0⟩ ?_
 clear hp hp0
 rintro i O b2 c2 w1 ⟨⟨hi, hO⟩, hp⟩ IH C
 have hOl : O.length = i := by
  have h1 := congrArg List.length hO
  rw [insOf_len, List.length_take, insOf_len] at h1
  omega
 refine h_run rfl ?_; skip
 refine h_cond_dec (fun hlt => ?_) (fun hlt => ?_)
 ·have hlt' : i < R.length := by omega
  have hri := hAr.at_ hlt'
  have hgi := hg _ (getD_memR hlt')
  refine h_cond_t rfl rfl ?_; (repeat (refine H_ldEN hp rfl (by omega) rfl rfl ?_))
  refine h_call rfl Try.func100 (by kernel_rfl) rfl (copyIntsR_h _ _ (R.getD i default).ins _ hp.rd (by omega)) ?_; rintro _ w ⟨ac, cc, rfl, hq⟩; have hx := hq.x; have hp := hp.call1 hq; refine ops_run nopre rfl ?_; skip
  refine H_lit hp (eRo (α := Int)) [(⟨(R.getD i default).ins, ac, cc⟩ : RowA Int)] rfl rfl rfl rfl (s := 1) rfl (by decide) (by infer_instance) (by rfl) (by rfl) (by rfl) (by decide) ?_; intro w b67 hx hp; refine ops_run nopre rfl ?_; skip
  refine U_append hp rfl rfl rfl rfl rfl rfl rfl (by decide) rfl (by first | omega | (simp only [List.length_append, List.length_cons, List.length_nil, List.length_take, List.length_drop, List.length_set, List.length_replicate, List.length_map]; omega)) rfl rfl ?_; intro b3 c3 w hp hnil; refine ops_run nopre rfl ?_; skip
  refine IH (i + 1) (O ++ [(⟨(R.getD i default).ins, ac, cc⟩ : RowA Int)]) b3 c3 _ _ _ (by omega) rfl ⟨⟨by omega, ?_⟩, ?_⟩
  ·rw [take_snocC (by rw [insOf_len]; exact hlt'), ← hO, insOf_get]
   unfold insOf
   rw [List.map_append]
   rfl
  ·exact (rRows_add (y := (⟨(R.getD i default).ins, ac, cc⟩ : RowA Int)) ((hp.drop).f1.f2.f2)).f1
 ·refine h_cond_f rfl rfl ?_; (repeat (refine R_ret ?_))
  obtain rfl : i = R.length := by omega
  rw [List.take_of_length_le (by rw [insOf_len]; exact Nat.le_refl _)] at hO
  exact ⟨b2, c2, O, ⟨rfl, hO⟩, hp⟩
theorem implEnumCuts_x (x : NetA) (k : Int) (w0 : World) (hX : NetR w0 x) (hS : NetS x.n) (hW : NetW x.n) (hK : i64R k) :
  Ret Try.prog 18 [x.v, .int .i64 k] w0 (fun v w => ∃ b c R, (v = .slice b R.length c ∧ insOf R = enumF x.n k) ∧ Hp w0 w [rO 26 1 eRo b c R, rRows 3 1 eI R]) := by
 unfold i64R at hK
 refine enter Try.S18ok _ _ rfl rfl (by show _ ≤ _; simp only [List.length]; decide) (fun C => ?_); have hp := Hp.nil w0; refine h_run rfl ?_; skip; (first | refine H_box hp ?_ | refine H_alloc hp rfl ?_); intro w b2 hx hp; refine ops_run nopre rfl ?_; (repeat (refine H_ldB hp rfl rfl ?_))
 by_cases hok : NetOkP x.n
 ·have hn := hok.nums
  obtain ⟨n1, n2, n3, n4, n5, n6⟩ := hn
  have hnd := hok.nodes
  refine h_call rfl Try.func43 (by kernel_rfl) rfl ((implNetOk_h x _ hp.net hS).tt (netOkB_yes hok)) ?_; rintro _ w ⟨rfl, hx⟩; have hp := hp.ext hx; refine ops_run nopre rfl ?_; (repeat (first | (refine gGuard ?_; refine h_guard_y rfl nopre rfl ?_) | (refine gLoad ?_; refine H_ldB hp rfl rfl ?_)))
  refine h_call rfl Try.func49 (by kernel_rfl) rfl (nodeCount_h x _ hok.b) ?_; rintro _ w ⟨rfl, hx⟩; have hp := hp.ext hx; refine ops_run nopre rfl ?_; (repeat (refine h_guard_y rfl nopre rfl ?_))
  by_cases hin : 0 ≤ k ∧ k ≤ nodesL x.n - 1
  ·refine h_call rfl Try.func48 (by kernel_rfl) rfl ((inRange_h k 0 (nodesL x.n - 1) _).yes hin) ?_; rintro _ w ⟨rfl, hx⟩; have hp := hp.ext hx; refine ops_run nopre rfl ?_; (repeat (refine h_guard_y rfl nopre rfl ?_))
   obtain ⟨m, rfl⟩ := Int.eq_ofNat_of_zero_le hin.1
   refine h_cond_f rfl rfl ?_; (repeat (refine H_ldB hp rfl rfl ?_))
   refine h_call rfl Try.func52 (by kernel_rfl) rfl (allCuts_h x m _ hp.net hok (by omega)) ?_; rintro _ w ⟨b5, c5, Q, P, ⟨rfl, hQ⟩, hq⟩
   have hp : Hp w0 _ [rO 37 1 eRo b5 c5 Q, rRows 26 1 eRo Q, rRows 3 1 eI P, rB b2 28 x.cs] := hp.call hq
   have hQl := hQ.len
   have hcm := hQ.cuts m (by omega)
   have hmm := hQ.mem m (by omega)
   have hlen := cutsOf_len hok (k := m) (by omega)
   have hrl : (Q.getD m default).ins.length ≤ 8 := by rw [← insOf_len, hcm]; exact hlen.2
   have hrg : ∀ r, r ∈ (Q.getD m default).ins → r.ins.length ≤ 4 := fun r hr => cutsOf_four hok (k := m) (by omega) _ (by rw [← hcm]; exact List.mem_map.2 ⟨r, hr, rfl⟩)
   have hrow : RdH w0 [rO 37 1 eRo b5 c5 Q, rRows 26 1 eRo Q, rRows 3 1 eI P, rB b2 28 x.cs] (Q.getD m default).ia 1 eRo (Q.getD m default).ins := RowsH.at_ (inferInstance : RowsH w0 _ 1 eRo Q) (by omega)
   have hne5 : b5 ≠ none := nn_of hp (X := Q) (by omega)
   refine ops_run nopre rfl ?_; (repeat (refine H_ldEN hp rfl (by omega) rfl rfl ?_))
   refine h_call rfl Try.func51 (by kernel_rfl) rfl (copyLists_h _ _ _ (Q.getD m default).ins rfl _ hp.rd (hp.rows hmm) (by omega) (fun r hr => by have := hrg r hr; omega)) ?_; rintro _ w ⟨b6, c6, R', ⟨rfl, hR'⟩, hq⟩; refine ops_run nopre rfl ?_; (repeat (refine R_ret ?_))
   refine ⟨b6, c6, R', ⟨rfl, ?_⟩, (Hp.of_ext hp.x).trans hq⟩
   rw [hR', hcm, enumF_yes ⟨hok, by omega, by omega⟩]
   rfl
  ·refine h_call rfl Try.func48 (by kernel_rfl) rfl ((inRange_h k 0 (nodesL x.n - 1) _).no hin) ?_; rintro _ w ⟨rfl, hx⟩; have hp := hp.ext hx; refine ops_run nopre rfl ?_; (repeat (refine h_guard_y rfl nopre rfl ?_))
   refine h_cond_t rfl rfl ?_; (repeat (refine R_ret ?_))
   exact ⟨none, 0, [], ⟨rfl, by rw [enumF_no (fun h => hin (by omega))]; rfl⟩, (rRows_nil (Hp.of_ext hp.x)).ownN (Ext.refl _) (Own.nil _ _ _ _ _)⟩
 ·refine h_call rfl Try.func43 (by kernel_rfl) rfl ((implNetOk_h x _ hp.net hS).ff (netOkB_no hok)) ?_; rintro _ w ⟨rfl, hx⟩; have hp := hp.ext hx; refine ops_run nopre rfl ?_; (repeat (refine h_guard_n rfl nopre rfl ?_))
  refine h_cond_t rfl rfl ?_; (repeat (refine R_ret ?_))
  exact ⟨none, 0, [], ⟨rfl, by rw [enumF_no (fun h => hok h.1)]; rfl⟩, (rRows_nil (Hp.of_ext hp.x)).ownN (Ext.refl _) (Own.nil _ _ _ _ _)⟩
end Go.Proofs
