/- The contracts of the functions that add AND nodes; each under its stated conditions. -/
import Derived.Test.YtiepmliokblkjaaGreatAddLaw
set_option linter.all false
namespace Go.Xw
def NetA.wA (y : NetA) (aa : Option Addr) (ac : Nat) (l : List (Int × Int)) : NetA := ⟨y.inputs, y.seqs, y.sa, y.sc, l, aa, ac, y.outs, y.oa, y.oc⟩
class Bk (w0 : World) (b : Nat) (t : outParam TypeId) (cs : outParam (List Value)) : Prop where
 h : Blk w0 b t cs
instance (priority := low) BkH.base {w0 : World} {L : List Res} {b : Nat} {t : TypeId} {cs : List Value} [h : Bk w0 b t cs] : BkH w0 L b t cs := ⟨fun _ hp => h.h.ext hp.x⟩
theorem NetA.wA_n (y : NetA) (aa : Option Addr) (ac : Nat) {r : NetL × Int} (h : r.1 = { y.n with ands := r.1.ands }) : (y.wA aa ac r.1.ands).n = r.1 := by rw [h]; rfl
end Go.Xw
namespace Go.Proofs
open Go.Xw
set_option maxRecDepth 100000
set_option maxHeartbeats 1000000
attribute [local irreducible] Holds elemAddr
theorem addAnd_h (y : NetA) (p : Nat) (a b : Int) {w0 w : World} {L : List Res} (hp : Hp w0 w (rB p 33 y.cs :: rO 120 2 eII y.aa y.ac y.ands :: L)) (hb : NetB y) (hl : y.ands.length ≤ 1000000) (ha : 0 ≤ a ∧ a ≤ 1000000) (hb2 : 0 ≤ b ∧ b ≤ 1000000) :
  Ret Tryz.prog 106 [.pointer (some ⟨p, 0, none⟩), .int .i64 a, .int .i64 b] w (fun v w' => ∃ aa ac, v = .int .i64 (addAndL y.n a b).2 ∧ Hp w0 w' (rB p 33 (y.wA aa ac (addAndL y.n a b).1.ands).cs :: rO 120 2 eII aa ac (addAndL y.n a b).1.ands :: L)) := by
 have hnc := notL_eq ha.1 (by omega)
 have hnn : ∀ v, notL a = v ↔ bits .xor .i64 a 1 = v := fun v => .rfl
 refine enter Tryz.S106ok _ _ rfl rfl (by show _ ≤ _; simp only [List.length]; decide) (fun C => ?_); refine h_run rfl ?_; skip
 refine h_guard_by (fun h1 => ?_) (fun h1 => ?_); all_goals (rw [h1]; (first | replace h1 := of_decide_eq_true h1 | replace h1 := of_decide_eq_false h1 | skip); (repeat (refine gGuard ?_; first | refine h_guard_y rfl nopre rfl ?_ | refine h_guard_n rfl nopre rfl ?_)))
 ·refine h_cond_t rfl rfl ?_; (repeat (refine R_ret ?_))
  have e : addAndL y.n a b = (y.n, 0) := by unfold addAndL; rw [if_pos (.inl h1)]
  rw [e]
  exact ⟨y.aa, y.ac, rfl, hp⟩
 ·refine h_guard_by (fun h2 => ?_) (fun h2 => ?_); all_goals (rw [h2]; (first | replace h2 := of_decide_eq_true h2 | replace h2 := of_decide_eq_false h2 | skip); (repeat (refine gGuard ?_; first | refine h_guard_y rfl nopre rfl ?_ | refine h_guard_n rfl nopre rfl ?_)))
  ·refine h_cond_t rfl rfl ?_; (repeat (refine R_ret ?_))
   have e : addAndL y.n a b = (y.n, 0) := by unfold addAndL; rw [if_pos (.inr (.inl h2))]
   rw [e]
   exact ⟨y.aa, y.ac, rfl, hp⟩
  ·refine h_cond_dec (fun h3 => ?_) (fun h3 => ?_)
   ·refine h_cond_t rfl rfl ?_; (repeat (refine R_ret ?_))
    have e : addAndL y.n a b = (y.n, 0) := by unfold addAndL; rw [if_pos (.inr (.inr h3))]
    rw [e]
    exact ⟨y.aa, y.ac, rfl, hp⟩
   ·have e0 : ¬ (a = 0 ∨ b = 0 ∨ notL a = b) := fun h => h.elim h1 fun h => h.elim h2 h3
    refine h_cond_f rfl rfl ?_; skip
    refine h_guard_by (fun h4 => ?_) (fun h4 => ?_); all_goals (rw [h4]; (first | replace h4 := of_decide_eq_true h4 | replace h4 := of_decide_eq_false h4 | skip); (repeat (refine gGuard ?_; first | refine h_guard_y rfl nopre rfl ?_ | refine h_guard_n rfl nopre rfl ?_)))
    ·refine h_cond_t rfl rfl ?_; (repeat (refine R_ret ?_))
     have e : addAndL y.n a b = (y.n, b) := by unfold addAndL; rw [if_neg e0, if_pos (.inl h4)]
     rw [e]
     exact ⟨y.aa, y.ac, rfl, hp⟩
    ·refine h_cond_dec (fun h5 => ?_) (fun h5 => ?_)
     ·refine h_cond_t rfl rfl ?_; (repeat (refine R_ret ?_))
      have e : addAndL y.n a b = (y.n, b) := by unfold addAndL; rw [if_neg e0, if_pos (.inr h5)]
      rw [e]
      exact ⟨y.aa, y.ac, rfl, hp⟩
     ·refine h_cond_f rfl rfl ?_; skip
      refine h_cond_dec (fun h6 => ?_) (fun h6 => ?_)
      ·refine h_cond_t rfl rfl ?_; (repeat (refine R_ret ?_))
       have e : addAndL y.n a b = (y.n, a) := by unfold addAndL; rw [if_neg e0, if_neg (fun h => h.elim h4 h5), if_pos h6]
       rw [e]
       exact ⟨y.aa, y.ac, rfl, hp⟩
      ·have e1 : addAndL y.n a b = if y.ands.idxOf (min a b, max a b) < y.ands.length then (y.n, 2 * (firstAndL y.n + (y.ands.idxOf (min a b, max a b) : Nat)))
         else if 300 ≤ y.ands.length then (y.n, -1) else ({ y.n with ands := y.ands ++ [(min a b, max a b)] }, 2 * nodesL y.n) := by
        unfold addAndL; rw [if_neg e0, if_neg (fun h => h.elim h4 h5), if_neg h6]; rfl
       refine h_cond_f rfl rfl ?_; skip
       (first | refine H_box hp ?_ | refine H_alloc hp rfl ?_); intro w b7 hx hp; refine ops_run nopre rfl ?_; (repeat (first | (refine gLoad ?_; refine H_ldB hp rfl rfl ?_) | (refine gStore ?_; refine U_stBN hp rfl rfl rfl rfl ?_; intro w hp; refine ops_run nopre rfl ?_)))
       refine h_loop [0, 7, 46, 47, 48] (fun (i : Nat) => [(0, .pointer (some ⟨p, 0, none⟩)), (7, .pointer (some ⟨b7, 0, none⟩)), (46, .slice y.aa y.ands.length y.ac), (47, .int .i64 y.ands.length), (48, .int .i64 (i : Int))])
        (fun i w' => i ≤ y.ands.length ∧ (∀ j, j < i → y.ands.getD j default ≠ (min a b, max a b)) ∧ Hp w0 w' (rB b7 120 (eII (min a b, max a b)) :: rB p 33 y.cs :: rO 120 2 eII y.aa y.ac y.ands :: L)) (fun i => y.ands.length - i) 0 rfl ⟨by omega, fun j hj => by omega, hp⟩ ?_
       rintro i w2 ⟨hi, hne, hp⟩ IH C
       refine h_run rfl ?_; skip
       refine h_cond_dec (fun hlt => ?_) (fun hlt => ?_)
       ·have hlt' : i < y.ands.length := by omega
        refine h_cond_t rfl rfl ?_; (repeat (refine H_ldEN hp rfl (by omega) rfl rfl ?_))
        (first | refine H_box hp ?_ | refine H_alloc hp rfl ?_); intro w b9 hx hp; refine ops_run nopre rfl ?_; (repeat (first | (refine gLoad ?_; refine H_ldB hp rfl rfl ?_) | (refine gStore ?_; refine U_stBN hp rfl rfl rfl rfl ?_; intro w hp; refine ops_run nopre rfl ?_)))
        refine h_cond_b (fun he => ?_) (fun he => ?_)
        ·have he : y.ands.getD i default = (min a b, max a b) := by
          simp only [Bool.and_true, Bool.and_eq_true, decide_eq_true_eq] at he
          first | exact Prod.ext he.1 he.2 | exact Prod.ext he.1.symm he.2.symm
         have hix := idxOf_at hne hlt' he
         refine h_cond_t rfl rfl ?_; (repeat (refine H_ldB hp rfl rfl ?_))
         have hfb := firstAndL_eq y
         obtain ⟨g1, g2, g3⟩ := id hb
         refine h_call rfl Tryz.func70 (by kernel_rfl) rfl (firstAnd_h y _ hb) ?_; rintro _ w ⟨rfl, hx⟩; have hp := hp.ext hx; refine ops_run nopre rfl ?_; (repeat (refine R_ret ?_))
         rw [e1, hix, if_pos hlt']
         skip
         exact ⟨y.aa, y.ac, rfl, hp.drop.drop⟩
        ·have he : y.ands.getD i default ≠ (min a b, max a b) := fun h2 => by
          simp only [Bool.and_true, Bool.and_eq_false_iff, decide_eq_false_iff_not] at he
          rcases he with he | he <;> exact he (by rw [h2])
         refine h_cond_f rfl rfl ?_; skip
         refine IH (i + 1) _ _ _ (by omega) rfl ⟨by omega, fun j hj => ?_, hp.drop⟩
         by_cases hj2 : j < i
         ·exact hne j hj2
         ·obtain rfl : j = i := by omega
          exact he
       ·obtain rfl : i = y.ands.length := by omega
        have hix := idxOf_none hne
        refine h_cond_f rfl rfl ?_; (repeat (refine H_ldB hp rfl rfl ?_))
        refine h_cond_dec (fun h7 => ?_) (fun h7 => ?_)
        ·refine h_cond_t rfl rfl ?_; (repeat (refine R_ret ?_))
         rw [e1, if_neg hix, if_pos (by omega)]
         exact ⟨y.aa, y.ac, rfl, hp.drop⟩
        ·refine h_cond_f rfl rfl ?_; skip
         refine D_draw hp (by kernel_rfl) (by kernel_rfl) rfl rfl ?_; intro w hx hp; have hs := hp; (repeat (refine D_ldB rfl rfl rfl ?_))
         refine D_lit (fun _ hx => hs.ext hx) hp eII [(min a b, max a b)] rfl rfl rfl rfl (s := 2) rfl (by decide) (by infer_instance) (by rfl) (by rfl) (by rfl) (by decide) ?_; intro w b8 hx hp; have hs := hs.ext hx; refine D_ops rfl rfl ?_; skip
         refine V_append hp rfl rfl rfl rfl rfl rfl rfl (by decide) rfl (by first | omega | (simp only [List.length_append, List.length_cons, List.length_nil, List.length_take, List.length_drop, List.length_set, List.length_replicate, List.length_map]; omega)) rfl rfl (by kernel_rfl) ?_; intro b' c' w hp hnil; refine D_ops rfl rfl ?_; (repeat (refine V_stB hp rfl rfl rfl rfl (by kernel_rfl) ?_; intro w hp; refine D_ops rfl rfl ?_))
         have hb3 : NetB (y.wA b' c' (y.ands ++ [(min a b, max a b)])) := ⟨hb.1, hb.2, by show (y.ands ++ _).length ≤ _; simp; omega⟩
         have hnd : nodesL (y.wA b' c' (y.ands ++ [(min a b, max a b)])).n = nodesL y.n + 1 := by rw [nodesL_eq, nodesL_eq]; show 1 + y.inputs + y.seqs.length + ((y.ands ++ _).length : Nat) = _; simp; omega
         have hnd2 := nodesL_eq y
         obtain ⟨g1, g2, g3⟩ := id hb
         (repeat (refine H_ldB hp rfl rfl ?_))
         refine h_call rfl Tryz.func128 (by kernel_rfl) rfl (nodeCount_h (y.wA b' c' (y.ands ++ [(min a b, max a b)])) _ hb3) ?_; rintro _ w ⟨rfl, hx⟩; have hp := hp.ext hx; refine ops_run nopre rfl ?_; (repeat (refine R_ret ?_))
         rw [e1, if_neg hix, if_neg (by omega)]
         refine ⟨b', c', by congr 1; omega, ?_⟩
         exact hp.drop.drop
theorem addAnd_F (y : NetA) (p : Nat) (a b : Int) {w0 w : World} {L F : List Res} (hp : Hp w0 w ((rB p 33 y.cs :: rO 120 2 eII y.aa y.ac y.ands :: L) ++ F)) (hb : NetB y) (hl : y.ands.length ≤ 1000000) (ha : 0 ≤ a ∧ a ≤ 1000000) (hb2 : 0 ≤ b ∧ b ≤ 1000000) :
  Ret Tryz.prog 106 [.pointer (some ⟨p, 0, none⟩), .int .i64 a, .int .i64 b] w (fun v w' => ∃ aa ac, v = .int .i64 (addAndL y.n a b).2 ∧ Hp w0 w' ((rB p 33 (y.wA aa ac (addAndL y.n a b).1.ands).cs :: rO 120 2 eII aa ac (addAndL y.n a b).1.ands :: L) ++ F)) :=
 addAnd_h (L := L ++ F) y p a b hp hb hl ha hb2
theorem addOr_h (y : NetA) (p : Nat) (a b : Int) {w0 w : World} {L : List Res} (hp : Hp w0 w (rB p 33 y.cs :: rO 120 2 eII y.aa y.ac y.ands :: L)) (hok : NetOkP y.n) (ha : litP a (nodesL y.n)) (hb : litP b (nodesL y.n)) :
  Ret Tryz.prog 153 [.pointer (some ⟨p, 0, none⟩), .int .i64 a, .int .i64 b] w (fun v w' => ∃ aa ac, v = .int .i64 (addOrL y.n a b).2 ∧ Hp w0 w' (rB p 33 (y.wA aa ac (addOrL y.n a b).1.ands).cs :: rO 120 2 eII aa ac (addOrL y.n a b).1.ands :: L)) := by
 have hc := hok.count
 have hs := hok.size'
 have ha' := ha
 have hb' := hb
 unfold litP at ha' hb'
 have na := notL_b ha'.1 (by omega)
 have nb := notL_b hb'.1 (by omega)
 have la := litP_not ha (by omega)
 have lb := litP_not hb (by omega)
 have g := good_and hok la lb
 have gb := g.b
 refine enter Tryz.S153ok _ _ rfl rfl (by show _ ≤ _; simp only [List.length]; decide) (fun C => ?_); refine h_run rfl ?_; skip
 refine h_call rfl Tryz.func106 (by kernel_rfl) rfl (addAnd_h y p (notL a) (notL b) hp hok.b (by omega) (by omega) (by omega)) ?_; rintro _ w ⟨aa, ac, rfl, hp⟩; refine ops_run nopre rfl ?_; skip
 refine h_cond_dec (fun h0 => ?_) (fun h0 => ?_)
 ·refine h_cond_t rfl rfl ?_; (repeat (refine R_ret ?_))
  have e : addOrL y.n a b = ((addAndL y.n (notL a) (notL b)).1, -1) := by unfold addOrL orL; rw [if_pos h0]
  rw [e]
  exact ⟨aa, ac, rfl, hp⟩
 ·refine h_cond_f rfl rfl ?_; (repeat (refine R_ret ?_))
  have e : addOrL y.n a b = ((addAndL y.n (notL a) (notL b)).1, notL (addAndL y.n (notL a) (notL b)).2) := by unfold addOrL orL; rw [if_neg h0]
  rw [e]
  exact ⟨aa, ac, rfl, hp⟩
noncomputable def addF (n : NetL) (lits : List Int) (r : NetL × Int) : NetL × Int := @ite _ (NetOkP n ∧ ∀ l, l ∈ lits → litP l (nodesL n)) (Classical.propDecidable _) (finL n r) (n, -1)
theorem addF_no {n : NetL} {lits : List Int} {r : NetL × Int} (h : ¬ (NetOkP n ∧ ∀ l, l ∈ lits → litP l (nodesL n))) : addF n lits r = (n, -1) := by unfold addF; rw [if_neg h]
theorem addF_neg {n : NetL} {lits : List Int} {r : NetL × Int} (h : NetOkP n ∧ ∀ l, l ∈ lits → litP l (nodesL n)) (h2 : r.2 < 0) : addF n lits r = (n, -1) := by unfold addF finL; rw [if_pos h, if_pos h2]
theorem addF_yes {n : NetL} {lits : List Int} {r : NetL × Int} (h : NetOkP n ∧ ∀ l, l ∈ lits → litP l (nodesL n)) (h2 : ¬ r.2 < 0) : addF n lits r = r := by unfold addF finL; rw [if_pos h, if_neg h2]
theorem specAddAnd_x (x : NetA) (a b : Int) (w0 : World) (hX : NetR w0 x) (hS : NetS x.n) (hW : NetW x.n) (ha : i64R a) (hb : i64R b) :
  Ret Tryz.prog 86 [x.v, .int .i64 a, .int .i64 b] w0 (fun v w => ∃ y, (y.n = (addF x.n [a, b] (addAndL x.n a b)).1 ∧ v = .tuple ⟨[y.v, .int .i64 (addF x.n [a, b] (addAndL x.n a b)).2]⟩) ∧ Hp w0 w [rNet y]) := by
 refine enter Tryz.S86ok _ _ rfl rfl (by show _ ≤ _; simp only [List.length]; decide) (fun C => ?_); have hp := Hp.nil w0; refine h_run rfl ?_; skip; (first | refine H_box hp ?_ | refine H_alloc hp rfl ?_); intro w b3 hx hp; refine ops_run nopre rfl ?_; skip; (first | refine H_box hp ?_ | refine H_alloc hp rfl ?_); intro w b6 hx hp; refine ops_run nopre rfl ?_; (repeat (refine H_ldB hp rfl rfl ?_))
 refine h_call rfl Tryz.func80 (by kernel_rfl) rfl (specCopyNet_h x _ hp.net hS) ?_; rintro _ w ⟨y, ⟨hy, rfl⟩, hq⟩; have hx := hq.x; have hp := hp.call1 hq; refine ops_run nopre rfl ?_; skip
 (first | refine H_box hp ?_ | refine H_alloc hp rfl ?_); intro w b8 hx hp; refine ops_run nopre rfl ?_; (repeat (first | (refine gLoad ?_; refine H_ldB hp rfl rfl ?_) | (refine gStore ?_; refine U_stBN hp rfl rfl rfl rfl ?_; intro w hp; refine ops_run nopre rfl ?_)))
 have hya : y.ands = x.ands := congrArg NetL.ands hy
 refine h_call rfl Tryz.func82 (by kernel_rfl) rfl (specNodeCount_h x _) ?_; rintro _ w ⟨rfl, hx⟩; have hp := hp.ext hx; refine ops_run nopre rfl ?_; (repeat (refine H_ldB hp rfl rfl ?_))
 by_cases hok : NetOkP x.n
 ·have hc := hok.count
  rw [show nodeCountL x.n = nodesL x.n from if_pos hok.size]
  refine h_call rfl Tryz.func77 (by kernel_rfl) rfl ((specNetOk_h x _ hp.net hS hW).tt (netOkB_yes hok)) ?_; rintro _ w ⟨rfl, hx⟩; have hp := hp.ext hx; refine ops_run nopre rfl ?_; (repeat (refine h_guard_y rfl nopre rfl ?_))
  by_cases la : litP a (nodesL x.n)
  ·refine h_call rfl Tryz.func81 (by kernel_rfl) rfl ((l08Lit_h a _ _ ha).yes la) ?_; rintro _ w ⟨rfl, hx⟩; have hp := hp.ext hx; refine ops_run nopre rfl ?_; (repeat (refine h_guard_y rfl nopre rfl ?_))
   by_cases lb : litP b (nodesL x.n)
   ·refine h_call rfl Tryz.func81 (by kernel_rfl) rfl ((l08Lit_h b _ _ hb).yes lb) ?_; rintro _ w ⟨rfl, hx⟩; have hp := hp.ext hx; refine ops_run nopre rfl ?_; (repeat (refine h_guard_y rfl nopre rfl ?_))
    have hl : ∀ l, l ∈ [a, b] → litP l (nodesL x.n) := fun l h => by simp at h; rcases h with rfl | rfl <;> assumption
    have la' := la
    have lb' := lb
    unfold litP at la' lb'
    have hnn := notL_iff la'.1 (by omega) lb'.1 (by omega)
    refine h_cond_f rfl rfl ?_; skip
    refine h_guard_by (fun h1 => ?_) (fun h1 => ?_); all_goals (rw [h1]; (first | replace h1 := of_decide_eq_true h1 | replace h1 := of_decide_eq_false h1 | skip); (repeat (refine gGuard ?_; first | refine h_guard_y rfl nopre rfl ?_ | refine h_guard_n rfl nopre rfl ?_)))
    ·refine h_cond_t rfl rfl ?_; (repeat (first | (refine gLoad ?_; refine H_ldB hp rfl rfl ?_) | (refine gStore ?_; refine U_stBN hp rfl rfl rfl rfl ?_; intro w hp; refine ops_run nopre rfl ?_) | (refine gRetc ?_; refine R_ret2v hp rfl ?_)))
     have e : addAndL x.n a b = (x.n, 0) := by unfold addAndL; rw [if_pos (.inl h1)]
     rw [addF_yes ⟨hok, hl⟩ (by rw [e]; dsimp only; omega), e]
     exact ⟨y, ⟨hy, rfl⟩, hp.sub (by simp)⟩
    ·refine h_guard_by (fun h2 => ?_) (fun h2 => ?_); all_goals (rw [h2]; (first | replace h2 := of_decide_eq_true h2 | replace h2 := of_decide_eq_false h2 | skip); (repeat (refine gGuard ?_; first | refine h_guard_y rfl nopre rfl ?_ | refine h_guard_n rfl nopre rfl ?_)))
     ·refine h_cond_t rfl rfl ?_; (repeat (first | (refine gLoad ?_; refine H_ldB hp rfl rfl ?_) | (refine gStore ?_; refine U_stBN hp rfl rfl rfl rfl ?_; intro w hp; refine ops_run nopre rfl ?_) | (refine gRetc ?_; refine R_ret2v hp rfl ?_)))
      have e : addAndL x.n a b = (x.n, 0) := by unfold addAndL; rw [if_pos (.inr (.inl h2))]
      rw [addF_yes ⟨hok, hl⟩ (by rw [e]; dsimp only; omega), e]
      exact ⟨y, ⟨hy, rfl⟩, hp.sub (by simp)⟩
     ·refine h_cond_dec (fun h3 => ?_) (fun h3 => ?_)
      ·refine h_cond_t rfl rfl ?_; (repeat (first | (refine gLoad ?_; refine H_ldB hp rfl rfl ?_) | (refine gStore ?_; refine U_stBN hp rfl rfl rfl rfl ?_; intro w hp; refine ops_run nopre rfl ?_) | (refine gRetc ?_; refine R_ret2v hp rfl ?_)))
       have e : addAndL x.n a b = (x.n, 0) := by unfold addAndL; rw [if_pos (.inr (.inr (hnn.2 h3)))]
       rw [addF_yes ⟨hok, hl⟩ (by rw [e]; dsimp only; omega), e]
       exact ⟨y, ⟨hy, rfl⟩, hp.sub (by simp)⟩
      ·have e0 : ¬ (a = 0 ∨ b = 0 ∨ notL a = b) := fun h => h.elim h1 fun h => h.elim h2 fun h => h3 (hnn.1 h)
       refine h_cond_f rfl rfl ?_; skip
       refine h_guard_by (fun h4 => ?_) (fun h4 => ?_); all_goals (rw [h4]; (first | replace h4 := of_decide_eq_true h4 | replace h4 := of_decide_eq_false h4 | skip); (repeat (refine gGuard ?_; first | refine h_guard_y rfl nopre rfl ?_ | refine h_guard_n rfl nopre rfl ?_)))
       ·refine h_cond_t rfl rfl ?_; (repeat (first | (refine gLoad ?_; refine H_ldB hp rfl rfl ?_) | (refine gStore ?_; refine U_stBN hp rfl rfl rfl rfl ?_; intro w hp; refine ops_run nopre rfl ?_) | (refine gRetc ?_; refine R_ret2v hp rfl ?_)))
        have e : addAndL x.n a b = (x.n, b) := by unfold addAndL; rw [if_neg e0, if_pos (.inl h4)]
        rw [addF_yes ⟨hok, hl⟩ (by rw [e]; dsimp only; omega), e]
        exact ⟨y, ⟨hy, rfl⟩, hp.sub (by simp)⟩
       ·refine h_cond_dec (fun h5 => ?_) (fun h5 => ?_)
        ·refine h_cond_t rfl rfl ?_; (repeat (first | (refine gLoad ?_; refine H_ldB hp rfl rfl ?_) | (refine gStore ?_; refine U_stBN hp rfl rfl rfl rfl ?_; intro w hp; refine ops_run nopre rfl ?_) | (refine gRetc ?_; refine R_ret2v hp rfl ?_)))
         have e : addAndL x.n a b = (x.n, b) := by unfold addAndL; rw [if_neg e0, if_pos (.inr h5)]
         rw [addF_yes ⟨hok, hl⟩ (by rw [e]; dsimp only; omega), e]
         exact ⟨y, ⟨hy, rfl⟩, hp.sub (by simp)⟩
        ·refine h_cond_f rfl rfl ?_; skip
         refine h_cond_dec (fun h6 => ?_) (fun h6 => ?_)
         ·refine h_cond_t rfl rfl ?_; (repeat (first | (refine gLoad ?_; refine H_ldB hp rfl rfl ?_) | (refine gStore ?_; refine U_stBN hp rfl rfl rfl rfl ?_; intro w hp; refine ops_run nopre rfl ?_) | (refine gRetc ?_; refine R_ret2v hp rfl ?_)))
          have e : addAndL x.n a b = (x.n, a) := by unfold addAndL; rw [if_neg e0, if_neg (fun h => h.elim h4 h5), if_pos h6]
          rw [addF_yes ⟨hok, hl⟩ (by rw [e]; dsimp only; omega), e]
          exact ⟨y, ⟨hy, rfl⟩, hp.sub (by simp)⟩
         ·have e1 : addAndL x.n a b = if x.ands.idxOf (min a b, max a b) < x.ands.length then (x.n, 2 * (firstAndL x.n + (x.ands.idxOf (min a b, max a b) : Nat)))
            else if 300 ≤ x.ands.length then (x.n, -1) else ({ x.n with ands := x.ands ++ [(min a b, max a b)] }, 2 * nodesL x.n) := by
           unfold addAndL; rw [if_neg e0, if_neg (fun h => h.elim h4 h5), if_neg h6]; rfl
          have hsz := hok.size'
          refine h_cond_f rfl rfl ?_; skip
          (first | refine H_box hp ?_ | refine H_alloc hp rfl ?_); intro w b10 hx hp; refine ops_run nopre rfl ?_; (repeat (refine U_stBN hp rfl rfl rfl rfl ?_; intro w hp; refine ops_run nopre rfl ?_))
          refine h_loop [3, 6, 8, 9, 10, 11] (fun (i : Nat) => [(3, .pointer (some ⟨b3, 0, none⟩)), (6, .pointer (some ⟨b6, 0, none⟩)), (8, .pointer (some ⟨b8, 0, none⟩)), (9, .int .i64 (nodesL x.n)), (10, .pointer (some ⟨b10, 0, none⟩)), (11, .int .i64 (i : Int))])
           (fun i w' => i ≤ x.ands.length ∧ (∀ j, j < i → x.ands.getD j default ≠ (min a b, max a b)) ∧ Hp w0 w' [rB b10 120 (eII (min a b, max a b)), rB b8 33 y.cs, rNet y, rB b6 33 (cellsV Tryz.ti33.zero), rB b3 33 x.cs]) (fun i => x.ands.length - i) 0 rfl ⟨by omega, fun j hj => by omega, hp⟩ ?_
          rintro i w2 ⟨hi, hne, hp⟩ IH C
          refine h_run rfl ?_; (repeat (refine H_ldB hp rfl rfl ?_))
          refine h_cond_dec (fun hlt => ?_) (fun hlt => ?_)
          ·have hlt' : i < x.ands.length := by omega
           refine h_cond_t rfl rfl ?_; skip
           refine D_draw hp (by kernel_rfl) (by kernel_rfl) rfl rfl ?_; intro w hx hp; have hs := hp; (repeat (refine gLoad ?_; first | refine D_ldB rfl rfl rfl ?_ | refine D_ldEN rfl (by omega) rfl rfl rfl ?_))
           refine h_cond_b (fun he => ?_) (fun he => ?_)
           ·have he : x.ands.getD i default = (min a b, max a b) := by
             simp only [Bool.and_true, Bool.and_eq_true, decide_eq_true_eq] at he
             first | exact Prod.ext he.1 he.2 | exact Prod.ext he.1.symm he.2.symm
            have hix := idxOf_at hne hlt' he
            refine h_cond_t rfl rfl ?_; skip
            refine D_draw hp (by kernel_rfl) (by kernel_rfl) rfl rfl ?_; intro w hx hp; have hs := hp; (repeat (refine D_ldB rfl rfl rfl ?_))
            refine h_callq rfl Tryz.func137 (by kernel_rfl) rfl (l08First_h x _ hok.b) ?_; rintro _ w ⟨rfl, hx⟩; have hp := hp.ext hx; have hs := hs.ext hx; refine ⟨fun _ => hs, ?_⟩; refine D_ops rfl rfl ?_; (repeat (first | (refine gStore ?_; refine V_stBN hp rfl rfl rfl rfl (by kernel_rfl) ?_; intro w hp; refine D_ops rfl rfl ?_) | (refine gRetc ?_; refine R_ret2v hp rfl ?_)))
            have e : addAndL x.n a b = (x.n, 2 * (firstAndL x.n + (i : Int))) := by rw [e1, hix, if_pos hlt']
            rw [addF_yes ⟨hok, hl⟩ (by rw [e]; dsimp only; omega), e]
            exact ⟨y, ⟨hy, rfl⟩, hp.sub (by simp)⟩
           ·have he : x.ands.getD i default ≠ (min a b, max a b) := fun h2 => by
             simp only [Bool.and_true, Bool.and_eq_false_iff, decide_eq_false_iff_not] at he
             rcases he with he | he <;> exact he (by rw [h2])
            refine h_cond_f rfl rfl ?_; skip
            refine IH (i + 1) _ _ _ (by omega) rfl ⟨by omega, fun j hj => ?_, hp⟩
            by_cases hj2 : j < i
            ·exact hne j hj2
            ·obtain rfl : j = i := by omega
             exact he
          ·obtain rfl : i = x.ands.length := by omega
           have hix := idxOf_none hne
           refine h_cond_f rfl rfl ?_; (repeat (refine H_ldB hp rfl rfl ?_))
           refine h_cond_dec (fun h7 => ?_) (fun h7 => ?_)
           ·refine h_cond_t rfl rfl ?_; (repeat (first | (refine gLoad ?_; refine H_ldB hp rfl rfl ?_) | (refine gStore ?_; refine U_stBN hp rfl rfl rfl rfl ?_; intro w hp; refine ops_run nopre rfl ?_) | (refine gRetc ?_; refine R_ret2v hp rfl ?_)))
            have e : addAndL x.n a b = (x.n, -1) := by rw [e1, if_neg hix, if_pos (by omega)]
            rw [addF_neg ⟨hok, hl⟩ (by rw [e]; exact (by decide : (-1 : Int) < 0))]
            exact ⟨y, ⟨hy, rfl⟩, hp.sub (by simp)⟩
           ·have hp := rNet_open hp.f2
            have hlen : y.ands.length = x.ands.length := by rw [hya]
            have e : addAndL x.n a b = ({ x.n with ands := x.ands ++ [(min a b, max a b)] }, 2 * nodesL x.n) := by rw [e1, if_neg hix, if_neg (by omega)]
            refine h_cond_f rfl rfl ?_; (repeat (refine H_ldB hp rfl rfl ?_))
            refine H_lit hp eII [(min a b, max a b)] rfl rfl rfl rfl (s := 2) rfl (by decide) (by infer_instance) (by rfl) (by rfl) (by rfl) (by decide) ?_; intro w b8' hx hp; refine ops_run nopre rfl ?_; skip
            refine U_append hp rfl rfl rfl rfl rfl rfl rfl (by decide) rfl (by first | omega | (simp only [List.length_append, List.length_cons, List.length_nil, List.length_take, List.length_drop, List.length_set, List.length_replicate, List.length_map]; omega)) rfl rfl ?_; intro b' c' w hp hnil; refine ops_run nopre rfl ?_; (repeat (first | (refine gLoad ?_; refine H_ldB hp rfl rfl ?_) | (refine gStore ?_; (first | refine U_stB hp rfl rfl rfl rfl ?_ | refine U_stBN hp rfl rfl rfl rfl ?_); intro w hp; refine ops_run nopre rfl ?_) | (refine gRetc ?_; refine R_ret2v hp rfl ?_)))
            rw [addF_yes ⟨hok, hl⟩ (by rw [e]; dsimp only; omega), e]
            refine ⟨y.wA b' c' (y.ands ++ [(min a b, max a b)]), ⟨?_, rfl⟩, ?_⟩
            ·rw [hya, ← hy]; rfl
            ·exact Hp.sub (rNet_shut (x := y.wA b' c' (y.ands ++ [(min a b, max a b)])) hp.drop) (by simp)
   ·refine h_call rfl Tryz.func81 (by kernel_rfl) rfl ((l08Lit_h b _ _ hb).no lb) ?_; rintro _ w ⟨rfl, hx⟩; have hp := hp.ext hx; refine ops_run nopre rfl ?_; (repeat (refine h_guard_y rfl nopre rfl ?_))
    have hno : ¬ (NetOkP x.n ∧ ∀ l, l ∈ [a, b] → litP l (nodesL x.n)) := fun h => lb (h.2 b (by simp))
    refine h_cond_t rfl rfl ?_; (repeat (first | (refine gLoad ?_; refine H_ldB hp rfl rfl ?_) | (refine gStore ?_; refine U_stBN hp rfl rfl rfl rfl ?_; intro w hp; refine ops_run nopre rfl ?_) | (refine gRetc ?_; refine R_ret2v hp rfl ?_)))
    rw [addF_no hno]
    exact ⟨y, ⟨hy, rfl⟩, hp.sub (by simp)⟩
  ·refine h_call rfl Tryz.func81 (by kernel_rfl) rfl ((l08Lit_h a _ _ ha).no la) ?_; rintro _ w ⟨rfl, hx⟩; have hp := hp.ext hx; refine ops_run nopre rfl ?_; (repeat (refine gGuard ?_; first | refine h_guard_y rfl nopre rfl ?_ | refine h_guard_n rfl nopre rfl ?_))
   have hno : ¬ (NetOkP x.n ∧ ∀ l, l ∈ [a, b] → litP l (nodesL x.n)) := fun h => la (h.2 a (by simp))
   refine h_cond_t rfl rfl ?_; (repeat (first | (refine gLoad ?_; refine H_ldB hp rfl rfl ?_) | (refine gStore ?_; refine U_stBN hp rfl rfl rfl rfl ?_; intro w hp; refine ops_run nopre rfl ?_) | (refine gRetc ?_; refine R_ret2v hp rfl ?_)))
   rw [addF_no hno]
   exact ⟨y, ⟨hy, rfl⟩, hp.sub (by simp)⟩
 ·refine h_call rfl Tryz.func77 (by kernel_rfl) rfl ((specNetOk_h x _ hp.net hS hW).ff (netOkB_no hok)) ?_; rintro _ w ⟨rfl, hx⟩; have hp := hp.ext hx; refine ops_run nopre rfl ?_; (repeat (refine h_guard_n rfl nopre rfl ?_))
  have hno : ¬ (NetOkP x.n ∧ ∀ l, l ∈ [a, b] → litP l (nodesL x.n)) := fun h => hok h.1
  refine h_cond_t rfl rfl ?_; (repeat (first | (refine gLoad ?_; refine H_ldB hp rfl rfl ?_) | (refine gStore ?_; refine U_stBN hp rfl rfl rfl rfl ?_; intro w hp; refine ops_run nopre rfl ?_) | (refine gRetc ?_; refine R_ret2v hp rfl ?_)))
  rw [addF_no hno]
  exact ⟨y, ⟨hy, rfl⟩, hp.sub (by simp)⟩
theorem addF_S {n : NetL} {lits : List Int} {r : NetL × Int} (h : NetS n) (g : NetOkP n → (∀ l, l ∈ lits → litP l (nodesL n)) → GoodN n r) : NetS (addF n lits r).1 := by
 by_cases hh : NetOkP n ∧ ∀ l, l ∈ lits → litP l (nodesL n)
 ·by_cases h2 : r.2 < 0
  ·rw [addF_neg hh h2]; exact h
  ·rw [addF_yes hh h2]; exact (g hh.1 hh.2).ok.S'
 ·rw [addF_no hh]; exact h
theorem two_lits {n : NetL} {a b : Int} : (∀ l, l ∈ [a, b] → litP l (nodesL n)) ↔ litP a (nodesL n) ∧ litP b (nodesL n) := by simp
theorem sAddAnd {n : NetL} (h : NetS n) (a b : Int) : NetS (addF n [a, b] (addAndL n a b)).1 := addF_S h fun h hl => good_and h (hl a (by simp)) (hl b (by simp))
def lNot (a : Int) : Int := if a < 0 then -2 else notL a
theorem lNot_R {a : Int} (h : i64R a) : i64R (lNot a) := by
 unfold lNot
 split
 ·unfold i64R; omega
 ·have := notL_b (a := a) (by omega) h.2
  unfold i64R; omega
theorem lNot_lit {a k : Int} (h : i64R a) : litP (lNot a) k ↔ litP a k := by
 unfold lNot
 split
 ·unfold litP; omega
 ·exact notL_lit h (by omega)
theorem lNot_yes {a k : Int} (h : litP a k) : lNot a = notL a := by unfold litP at h; unfold lNot; rw [if_neg (by omega)]
theorem l10Not_h (a : Int) (w0 : World) : Ret Tryz.prog 172 [.int .i64 a] w0 (fun v w' => v = .int .i64 (lNot a) ∧ Ext w0 w') := by
 refine enter Tryz.S172ok _ _ rfl rfl (by show _ ≤ _; simp only [List.length]; decide) (fun C => ?_); have hp := Hp.nil w0; refine h_run rfl ?_; skip
 refine h_cond_dec (fun h => ?_) (fun h => ?_)
 ·refine h_cond_t rfl rfl ?_; (repeat (refine R_ret ?_))
  exact ⟨by rw [lNot, if_pos h], hp.x⟩
 ·refine h_cond_f rfl rfl ?_; (repeat (refine R_ret ?_))
  exact ⟨by rw [lNot, if_neg h]; rfl, hp.x⟩
theorem addF_or {n : NetL} {a b : Int} (ha : i64R a) (hb : i64R b) : addF n [a, b] (addOrL n a b) =
  if (addF n [lNot a, lNot b] (addAndL n (lNot a) (lNot b))).2 < 0 then (n, -1) else ((addF n [lNot a, lNot b] (addAndL n (lNot a) (lNot b))).1, notL (addF n [lNot a, lNot b] (addAndL n (lNot a) (lNot b))).2) := by
 by_cases hh : NetOkP n ∧ ∀ l, l ∈ [a, b] → litP l (nodesL n)
 ·have hl := two_lits.1 hh.2
  have hh' : NetOkP n ∧ ∀ l, l ∈ [notL a, notL b] → litP l (nodesL n) := ⟨hh.1, two_lits.2 ⟨(notL_lit ha hl.1.1).2 hl.1, (notL_lit hb hl.2.1).2 hl.2⟩⟩
  rw [lNot_yes hl.1, lNot_yes hl.2]
  by_cases h2 : (addAndL n (notL a) (notL b)).2 < 0
  ·have e : addOrL n a b = ((addAndL n (notL a) (notL b)).1, -1) := by unfold addOrL orL; rw [if_pos h2]
   rw [addF_neg hh (by rw [e]; exact (by decide : (-1 : Int) < 0)), addF_neg hh' h2]
   rfl
  ·have hc := hh.1.count
   have g := good_and hh'.1 (two_lits.1 hh'.2).1 (two_lits.1 hh'.2).2
   have gc := g.ok.count
   have gl := g.litP h2
   have gl2 := litP_not gl (by omega)
   unfold Go.Xw.litP at gl2
   have e : addOrL n a b = ((addAndL n (notL a) (notL b)).1, notL (addAndL n (notL a) (notL b)).2) := by unfold addOrL orL; rw [if_neg h2]
   rw [addF_yes hh (by rw [e]; dsimp only; omega), addF_yes hh' h2, if_neg h2, e]
 ·have hh' : ¬ (NetOkP n ∧ ∀ l, l ∈ [lNot a, lNot b] → litP l (nodesL n)) := fun h => hh ⟨h.1, two_lits.2 ⟨(lNot_lit ha).1 (two_lits.1 h.2).1, (lNot_lit hb).1 (two_lits.1 h.2).2⟩⟩
  rw [addF_no hh, addF_no hh']
  rfl
theorem specAddOr_x (x : NetA) (a b : Int) (w0 : World) (hX : NetR w0 x) (hS : NetS x.n) (hW : NetW x.n) (ha : i64R a) (hb : i64R b) :
  Ret Tryz.prog 144 [x.v, .int .i64 a, .int .i64 b] w0 (fun v w => ∃ y, (y.n = (addF x.n [a, b] (addOrL x.n a b)).1 ∧ v = .tuple ⟨[y.v, .int .i64 (addF x.n [a, b] (addOrL x.n a b)).2]⟩) ∧ Hp w0 w [rNet y]) := by
 rw [addF_or ha hb]
 refine enter Tryz.S144ok _ _ rfl rfl (by show _ ≤ _; simp only [List.length]; decide) (fun C => ?_); have hp := Hp.nil w0; refine h_run rfl ?_; skip; (first | refine H_box hp ?_ | refine H_alloc hp rfl ?_); intro w b3 hx hp; refine ops_run nopre rfl ?_; skip; (first | refine H_box hp ?_ | refine H_alloc hp rfl ?_); intro w b6 hx hp; refine ops_run nopre rfl ?_; skip
 refine N_draw hp (by kernel_rfl) (by kernel_rfl) rfl rfl ?_; (repeat (refine N_ldB rfl rfl rfl ?_))
 refine N_call Tryz.func172 (by kernel_rfl) rfl (fun F w hp => ?_); refine Ret.mono (l10Not_h a _) ?_; rintro _ w ⟨rfl, hx⟩; have hp := hp.ext hx; refine ⟨fun _ => hp.sub (by (repeat (first | exact List.sublist_append_left _ _ | apply List.Sublist.cons))), _, hp, ?_⟩; clear hp; refine N_ops rfl rfl ?_; skip
 refine N_call Tryz.func172 (by kernel_rfl) rfl (fun F w hp => ?_); refine Ret.mono (l10Not_h b _) ?_; rintro _ w ⟨rfl, hx⟩; have hp := hp.ext hx; refine ⟨fun _ => hp.sub (by (repeat (first | exact List.sublist_append_left _ _ | apply List.Sublist.cons))), _, hp, ?_⟩; clear hp; refine N_ops rfl rfl ?_; skip
 refine N_call Tryz.func86 (by kernel_rfl) rfl (fun F w hp => ?_); refine Ret.mono (specAddAnd_x x _ _ _ hp.net hS hW (lNot_R ha) (lNot_R hb)) ?_; rintro _ w ⟨y, ⟨hy, rfl⟩, hq⟩; have hp := hp.callF1 hq; refine ⟨fun _ => hp.sub (by (repeat (first | exact List.sublist_append_left _ _ | apply List.Sublist.cons))), _, hp, ?_⟩; clear hp; refine N_ops rfl rfl ?_; skip
 (first | refine N_box ?_ | refine N_alloc rfl ?_); intro b8; refine N_ops rfl rfl ?_; (repeat (refine N_stBN rfl rfl rfl rfl (by kernel_rfl) ?_; refine N_ops rfl rfl ?_))
 refine N_end ?_; intro w hp C; refine h_run rfl ?_; skip
 refine h_cond_dec (fun h0 => ?_) (fun h0 => ?_)
 ·refine h_cond_t rfl rfl ?_; (repeat (refine H_ldB hp rfl rfl ?_))
  refine h_call rfl Tryz.func80 (by kernel_rfl) rfl (specCopyNet_h x _ hp.net hS) ?_; rintro _ w ⟨z, ⟨hz, rfl⟩, hq⟩; have hx := hq.x; have hp := hp.call1 hq; refine ops_run nopre rfl ?_; (repeat (first | (refine gStore ?_; refine U_stBN hp rfl rfl rfl rfl ?_; intro w hp; refine ops_run nopre rfl ?_) | (refine gRetc ?_; refine R_ret2v hp rfl ?_)))
  rw [if_pos h0]
  exact ⟨z, ⟨hz, rfl⟩, hp.sub (by simp)⟩
 ·refine h_cond_f rfl rfl ?_; (repeat (first | (refine gLoad ?_; refine H_ldB hp rfl rfl ?_) | (refine gStore ?_; refine U_stBN hp rfl rfl rfl rfl ?_; intro w hp; refine ops_run nopre rfl ?_) | (refine gRetc ?_; refine R_ret2v hp rfl ?_)))
  rw [if_neg h0]
  exact ⟨y, ⟨hy, rfl⟩, hp.sub (by simp)⟩
end Go.Proofs
