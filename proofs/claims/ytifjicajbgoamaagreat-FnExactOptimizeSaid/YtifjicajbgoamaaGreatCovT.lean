/- Texts that belong together; each under its stated conditions. -/
import Derived.Test.YtifjicajbgoamaaGreatBalLaw
import Derived.Test.YtifjicajbgoamaaGreatCutLess
import Derived.Test.YtifjicajbgoamaaGreatCutsOk
import Derived.Test.YtifjicajbgoamaaGreatIns
set_option linter.all false
section
namespace Go.Xw
open Go.Proofs
set_option maxHeartbeats 1000000
end Go.Xw
end
section
namespace Go.Xw
open Go.Proofs
set_option maxHeartbeats 1000000
def rfLess (h : NetL) (k : Int) (c : List Int) : Prop := (rfF h k c).2 = true ∧ (rfF h k c).1.ands.length < h.ands.length
noncomputable def pickL (h : NetL) (k : Int) : List (List Int) → NetL
 | [] => h
 | c :: cs => @ite _ (rfLess h k c) (Classical.propDecidable _) (rfF h k c).1 (pickL h k cs)
theorem pickL_yes {h : NetL} {k : Int} {c : List Int} {cs : List (List Int)} (hc : rfLess h k c) : pickL h k (c :: cs) = (rfF h k c).1 := by rw [pickL, if_pos hc]
theorem pickL_no {h : NetL} {k : Int} {c : List Int} {cs : List (List Int)} (hc : ¬ rfLess h k c) : pickL h k (c :: cs) = pickL h k cs := by rw [pickL, if_neg hc]
noncomputable def cutsM (h : NetL) (i : Nat) : List (List Int) := (cutsOf h (fst_ h + i)).dropLast
noncomputable def refS (h : NetL) (i : Nat) : NetL := pickL h ((fst_ h + i : Nat) : Int) (cutsM h i)
noncomputable def refG : Nat → Nat → NetL → NetL
 | 0, _, h => h
 | f + 1, i, h => if i < h.ands.length then refG f (i + 1) (refS h i) else h
noncomputable def refL (n : NetL) : NetL := if 40 < (hashL n).ands.length then hashL n else refG ((hashL n).ands.length + 1) 0 (hashL n)
structure Like (h m : NetL) : Prop where
 ok : NetOkP m
 le : m.ands.length ≤ h.ands.length
 run : ∀ ins, runL m ins = runL h ins
theorem rfF_ok {n : NetL} (hok : NetOkP n) (k : Int) (cut : List Int) : NetOkP (rfF n k cut).1 := by
 by_cases h1 : rfP n k cut
 ·cases h2 : rfN n (k.toNat - fst_ n) cut with
  | none => rw [rfF_no h1 h2]; exact hok
  | some m => rw [rfF_yes h1 h2]; exact rfN_ok hok (rfP_bel h1) h2
 ·rw [rfF_bad h1]; exact hok
theorem pick_like {h : NetL} (hok : NetOkP h) (k : Int) : ∀ cs, Like h (pickL h k cs)
 | [] => ⟨hok, Nat.le_refl _, fun _ => rfl⟩
 | c :: cs => by
  by_cases hc : rfLess h k c
  ·rw [pickL_yes hc]; exact ⟨rfF_ok hok k c, Nat.le_of_lt hc.2, fun ins => rfF_run ins⟩
  ·rw [pickL_no hc]; exact pick_like hok k cs
theorem refG_like {h : NetL} (hok : NetOkP h) : ∀ f i, Like h (refG f i h)
 | 0, _ => ⟨hok, Nat.le_refl _, fun _ => rfl⟩
 | f + 1, i => by
  rw [refG]
  split
  ·have h1 := pick_like hok ((fst_ h + i : Nat) : Int) (cutsM h i)
   have h2 := refG_like (h := refS h i) h1.ok f (i + 1)
   exact ⟨h2.ok, Nat.le_trans h2.le h1.le, fun ins => (h2.run ins).trans (h1.run ins)⟩
  ·exact ⟨hok, Nat.le_refl _, fun _ => rfl⟩
theorem ref_like {n : NetL} (hok : NetOkP n) : NetOkP (refL n) ∧ (refL n).ands.length ≤ (hashL n).ands.length ∧ ∀ ins, runL (refL n) ins = runL n ins := by
 have hh := hashL_ok hok
 unfold refL
 split
 ·exact ⟨hh, Nat.le_refl _, fun ins => hash_run hok ins⟩
 ·have h := refG_like hh ((hashL n).ands.length + 1) 0
  exact ⟨h.ok, h.le, fun ins => (h.run ins).trans (hash_run hok ins)⟩
theorem refL_ok {n : NetL} (h : NetOkP n) : NetOkP (refL n) := (ref_like h).1
noncomputable def refF (n : NetL) : NetL := ifNet n (refL n)
noncomputable def balF (n : NetL) : NetL := ifNet n (balanceL n)
theorem nilN_ok : NetOkP nilN := netOkB_iff.1 (by
 have : NetOkP nilN := ⟨by unfold sizeOk nilN; simp, fun i hi => by simp [nilN] at hi, fun i hi => by simp [rootsL, rootsTo, nilN] at hi, fun i hi => by simp [nilN] at hi⟩
 exact netOkB_iff.2 this)
theorem ifNet_ok {n r : NetL} (h : NetOkP n → NetOkP r) : NetOkP (ifNet n r) := by
 by_cases h1 : NetOkP n
 ·rw [ifNet_yes h1]; exact h h1
 ·rw [ifNet_no h1]; exact nilN_ok
theorem refF_ok (n : NetL) : NetOkP (refF n) := ifNet_ok refL_ok
theorem balF_ok' (n : NetL) : NetOkP (balF n) := ifNet_ok balanceL_ok
noncomputable def optB (n : NetL) : NetL := balF (refF (balF n))
def optP (a b : NetL) : Prop := depthL b < depthL a ∨ (depthL b = depthL a ∧ b.ands.length < a.ands.length)
noncomputable def optL (n : NetL) : NetL := @ite _ (optP (refF n) (optB n)) (Classical.propDecidable _) (optB n) (refF n)
theorem optL_yes {n : NetL} (h : optP (refF n) (optB n)) : optL n = optB n := by unfold optL; rw [if_pos h]
theorem optL_no {n : NetL} (h : ¬ optP (refF n) (optB n)) : optL n = refF n := by unfold optL; rw [if_neg h]
theorem optL_ok (n : NetL) : NetOkP (optL n) := by
 by_cases h : optP (refF n) (optB n)
 ·rw [optL_yes h]; exact balF_ok' _
 ·rw [optL_no h]; exact refF_ok n
theorem sOpt {n : NetL} (_ : NetS n) : NetS (optL n) := (optL_ok n).S'
theorem cuts_rfP {n : NetL} (h : NetOkP n) {i : Nat} (hi : i < n.ands.length) {u : List Int} (hu : u ∈ cutsM n i) : rfP n ((fst_ n + i : Nat) : Int) u := by
 have n1 := h.nums.n1
 have n2 := h.nums.n2
 have hu2 : u ∈ selL (cutsOf n (kA n i)) (cutsOf n (kB n i)) := by
  unfold cutsM at hu
  rw [cutsOf_and h hi, List.dropLast_concat] at hu
  exact hu
 have hm : u ∈ cutsOf n (fst_ n + i) := by rw [cutsOf_and h hi]; exact List.mem_append_left _ hu2
 refine ⟨⟨h, by omega, ?_⟩, by omega, cuts_not h hi hu2⟩
 rw [Int.toNat_natCast]
 exact cuts_P h (by omega) hm
end Go.Xw
end
section
namespace Go.Proofs
open Go.Xw
set_option maxRecDepth 100000
set_option maxHeartbeats 8000000
attribute [local irreducible] Holds elemAddr
theorem nodeCount_O (x : NetA) (N : Int) (h : nodeCountL x.n = N) (w0 : World) : Ret Tryz.prog 62 [x.v] w0 (fun v w => v = .int .i64 N ∧ Ext w0 w) := by rw [← h]; exact specNodeCount_h x w0
theorem covF_bad {n : NetL} {lits : List Int} {K : List (Int × Int)} (h : ¬ (coverOkP lits.length K ∧ NetOkP n ∧ ∀ l, l ∈ lits → litP l (nodesL n))) : covF n lits K = (n, -1) := by
 by_cases hc : coverOkP lits.length K
 ·rw [covF_yes hc]; exact addF_no fun hh => h ⟨hc, hh⟩
 ·exact covF_no hc
theorem litC_xor {l v : Int} {k : Nat} (h0 : 0 ≤ l) (h1 : l ≤ 1000000) : bits .xor .i64 (bits .xor .i64 l 1) (bits .and .i64 (v / 2 ^ ((k : Int)).toNat) 1) = litC l v k := by
 have hn := notL_b h0 (show l ≤ 9223372036854775807 by omega)
 have e1 := notL_eq h0 (show l ≤ 9223372036854775807 by omega)
 have e2 := notL_eq hn.1 hn.2.1
 have hb : bits .and .i64 (v / 2 ^ ((k : Int)).toNat) 1 = bitI v k := rfl
 have hb2 := and1_01 (v / 2 ^ k)
 rw [hb]
 unfold litC
 have hb3 : bitI v k = 0 ∨ bitI v k = 1 := hb2
 rcases hb3 with e | e
 ·rw [e, if_pos rfl]
  exact xor_zero hn.1 hn.2.1
 ·rw [e, if_neg (by decide)]
  show notL (notL l) = l
  split at e1 <;> split at e2 <;> omega
theorem specAddCover_x (x : NetA) (la : Option Addr) (lc : Nat) (lits : List Int) (ca : Option Addr) (cc : Nat) (K : List (Int × Int)) (w0 : World) (hX : NetR w0 x) (hS : NetS x.n) (hW : NetW x.n) (hR : Rd w0 la 1 eI lits) (hL : lits.length ≤ 1048576) (hV : ∀ i, i < lits.length → i64R (lits.getD i default)) (hR2 : Rd w0 ca 2 eII K) (hL2 : K.length ≤ 1048576) (hV2 : ∀ i, i < K.length → i64R (K.getD i default).1 ∧ i64R (K.getD i default).2) :
  Ret Tryz.prog 32 [x.v, .slice la lits.length lc, .slice ca K.length cc] w0 (fun v w => ∃ y, (y.n = (covF x.n lits K).1 ∧ v = .tuple ⟨[y.v, .int .i64 (covF x.n lits K).2]⟩) ∧ Hp w0 w [rNet y]) := by
 have hbad : ∀ w, Hp w0 w [rNet x] → True := fun _ _ => trivial
 clear hbad
 refine enter Tryz.S32ok _ _ rfl rfl (by show _ ≤ _; simp only [List.length]; decide) (fun C => ?_); have hp := Hp.nil w0; refine h_run rfl ?_; skip; (first | refine H_box hp ?_ | refine H_alloc hp rfl ?_); intro w b3 hx hp; refine ops_run nopre rfl ?_; skip; (first | refine H_box hp ?_ | refine H_alloc hp rfl ?_); intro w b6 hx hp; refine ops_run nopre rfl ?_; (repeat (refine H_ldB hp rfl rfl ?_))
 by_cases hok : NetOkP x.n
 ·refine h_call rfl Tryz.func50 (by kernel_rfl) rfl ((specNetOk_h x _ hp.net hS hW).tt (netOkB_yes hok)) ?_; rintro _ w ⟨rfl, hx⟩; have hp := hp.ext hx; refine ops_run nopre rfl ?_; (repeat (refine h_guard_y rfl nopre rfl ?_))
  refine h_guard_by (fun h1 => ?_) (fun h1 => ?_); all_goals (rw [h1]; (first | replace h1 := of_decide_eq_true h1 | replace h1 := of_decide_eq_false h1 | skip); (repeat (refine gGuard ?_; first | refine h_guard_y rfl nopre rfl ?_ | refine h_guard_n rfl nopre rfl ?_)))
  ·refine h_cond_t rfl rfl ?_; (repeat (refine H_ldB hp rfl rfl ?_))
   refine h_call rfl Tryz.func26 (by kernel_rfl) rfl (specCopyNet_h x _ hp.net hS) ?_; rintro _ w ⟨z, ⟨hz, rfl⟩, hq⟩; have hx := hq.x; have hp := hp.call1 hq; refine ops_run nopre rfl ?_; (repeat (first | (refine gStore ?_; refine U_stBN hp rfl rfl rfl rfl ?_; intro w hp; refine ops_run nopre rfl ?_) | (refine gRetc ?_; refine R_ret2v hp rfl ?_)))
   rw [covF_bad (fun h => by have := h.1.1.2; omega)]
   exact ⟨z, ⟨hz, rfl⟩, Hp.tk hp 1⟩
  ·have hmi : i64R (lits.length : Int) := by unfold i64R; omega
   by_cases hc : coverOkP lits.length K
   ·refine h_call rfl Tryz.func70 (by kernel_rfl) rfl ((l03Ok_h (lits.length : Int) ca cc _ K rfl _ hmi hp.rd hV2 hL2).tt (coverOkB_yes hc)) ?_; rintro _ w ⟨rfl, hx⟩; have hp := hp.ext hx; refine ops_run nopre rfl ?_; (repeat (refine h_guard_y rfl nopre rfl ?_))
    have hcn := hok.count
    refine h_cond_f rfl rfl ?_; skip
    refine h_loop [1, 2, 3, 6, 8] (fun (k : Nat) => [(1, .slice la lits.length lc), (2, .slice ca K.length cc), (3, .pointer (some ⟨b3, 0, none⟩)), (6, .pointer (some ⟨b6, 0, none⟩)), (8, .int .i64 (k : Int))])
     (fun k w' => (k ≤ lits.length ∧ ∀ l, l ∈ lits.take k → litP l (nodesL x.n)) ∧ Hp w0 w' [rB b6 31 (cellsV Tryz.ti31.zero), rB b3 31 x.cs]) (fun k => lits.length - k) 0 rfl ⟨⟨by omega, fun l hl => by simp at hl⟩, hp⟩ ?_
    clear hp
    rintro k w1 ⟨⟨hk, hall⟩, hp⟩ IH C
    refine h_run rfl ?_; skip
    refine h_cond_dec (fun hlt => ?_) (fun hlt => ?_)
    ·have hlt' : k < lits.length := by omega
     have hnd : nodeCountL x.n = nodesL x.n := if_pos hok.size
     have hne : la ≠ none := nn_of hp (X := lits) (by omega)
     refine h_cond_t rfl rfl ?_; skip
     refine N_draw hp (by kernel_rfl) (by kernel_rfl) rfl rfl ?_; (repeat (refine nLoad ?_; first | refine N_ldB rfl rfl rfl ?_ | refine N_ldEN rfl (by omega) rfl rfl rfl ?_))
     refine N_call Tryz.func62 (by kernel_rfl) rfl (fun F w hp => ?_); refine Ret.mono (nodeCount_O x (nodesL x.n) hnd _) ?_; rintro _ w ⟨rfl, hx⟩; have hp := hp.ext hx; refine ⟨fun _ => hp.sub (by (repeat (first | exact List.sublist_append_left _ _ | apply List.Sublist.cons))), _, hp, ?_⟩; clear hp; refine N_ops rfl rfl ?_; skip
     by_cases hl : litP (lits.getD k default) (nodesL x.n)
     ·refine N_call Tryz.func71 (by kernel_rfl) rfl (fun F w hp => ?_); refine Ret.mono ((l08Lit_h (lits.getD k default) _ _ (hV k hlt')).yes hl) ?_; rintro _ w ⟨rfl, hx⟩; have hp := hp.ext hx; refine ⟨fun _ => hp.sub (by (repeat (first | exact List.sublist_append_left _ _ | apply List.Sublist.cons))), _, hp, ?_⟩; clear hp; refine N_ops rfl rfl ?_; skip
      refine N_end ?_; intro w hp C; refine h_run rfl ?_; skip
      refine h_cond_f rfl rfl ?_; skip
      refine IH (k + 1) _ _ _ (by omega) rfl ⟨⟨by omega, fun l hm => ?_⟩, hp⟩
      rw [take_snoc hlt'] at hm
      rcases List.mem_append.1 hm with hm | hm
      ·exact hall l hm
      ·simp only [List.mem_singleton] at hm
       subst hm
       exact hl
     ·refine N_call Tryz.func71 (by kernel_rfl) rfl (fun F w hp => ?_); refine Ret.mono ((l08Lit_h (lits.getD k default) _ _ (hV k hlt')).no hl) ?_; rintro _ w ⟨rfl, hx⟩; have hp := hp.ext hx; refine ⟨fun _ => hp.sub (by (repeat (first | exact List.sublist_append_left _ _ | apply List.Sublist.cons))), _, hp, ?_⟩; clear hp; refine N_ops rfl rfl ?_; skip
      refine N_end ?_; intro w hp C; refine h_run rfl ?_; skip
      refine h_cond_t rfl rfl ?_; (repeat (refine H_ldB hp rfl rfl ?_))
      refine h_call rfl Tryz.func26 (by kernel_rfl) rfl (specCopyNet_h x _ hp.net hS) ?_; rintro _ w ⟨z, ⟨hz, rfl⟩, hq⟩; have hx := hq.x; have hp := hp.call1 hq; refine ops_run nopre rfl ?_; (repeat (first | (refine gStore ?_; refine U_stBN hp rfl rfl rfl rfl ?_; intro w hp; refine ops_run nopre rfl ?_) | (refine gRetc ?_; refine R_ret2v hp rfl ?_)))
      rw [covF_bad (fun h => hl (h.2.2 _ (getD_mem hlt')))]
      exact ⟨z, ⟨hz, rfl⟩, Hp.tk hp 1⟩
    ·obtain rfl : k = lits.length := by omega
     clear IH
     rw [List.take_length] at hall
     refine h_cond_f rfl rfl ?_; (repeat (refine H_ldB hp rfl rfl ?_))
     refine h_call rfl Tryz.func26 (by kernel_rfl) rfl (specCopyNet_h x _ hp.net hS) ?_; rintro _ w ⟨y0, ⟨hy0, rfl⟩, hq⟩; have hx := hq.x; have hp := hp.call1 hq; refine ops_run nopre rfl ?_; skip
     (first | refine H_box hp ?_ | refine H_alloc hp rfl ?_); intro w b9 hx hp; refine ops_run nopre rfl ?_; (repeat (refine U_stBN hp rfl rfl rfl rfl ?_; intro w hp; refine ops_run nopre rfl ?_))
     rw [covF_yes hc]
     refine h_loop2 [1, 2, 3, 6, 9, 10, 11] (fun (i : Nat) (_ : NetA) => [(1, .slice la lits.length lc), (2, .slice ca K.length cc), (3, .pointer (some ⟨b3, 0, none⟩)), (6, .pointer (some ⟨b6, 0, none⟩)), (9, .pointer (some ⟨b9, 0, none⟩)), (10, .int .i64 (coverTo x.n lits K i).2), (11, .int .i64 (i : Int))])
      (fun i z w' => (i ≤ K.length ∧ ¬ (coverTo x.n lits K i).2 < 0 ∧ z.n = (coverTo x.n lits K i).1) ∧ Hp w0 w' [rB b9 31 z.cs, rNet z, rB b6 31 (cellsV Tryz.ti31.zero), rB b3 31 x.cs]) (fun i _ => K.length - i) 0 y0 rfl
      ⟨⟨by omega, by show ¬ (0 : Int) < 0; decide, hy0⟩, hp⟩ ?_
     clear hp
     rintro i z w2 ⟨⟨hi, hs0, hz⟩, hp⟩ IH C
     have g := good_cover hok hall K i hi
     obtain ⟨r, hr⟩ : ∃ r, r = coverTo x.n lits K i := ⟨_, rfl⟩
     rw [← hr] at hs0 hz g ⊢
     have hg := g.ok.count
     have hrl : ∀ l, l ∈ lits → litP l (nodesL r.1) := fun l hm => (hall l hm).mono g.nodes
     refine h_run rfl ?_; skip
     refine h_cond_dec (fun hlt2 => ?_) (fun hlt2 => ?_)
     ·have hlt2' : i < K.length := by omega
      have hnext : coverTo x.n lits K (i + 1) = if (cubeTo r.1 lits (K.getD i default) lits.length).2 < 0 then ((cubeTo r.1 lits (K.getD i default) lits.length).1, -1) else if (addOrL (cubeTo r.1 lits (K.getD i default) lits.length).1 r.2 (cubeTo r.1 lits (K.getD i default) lits.length).2).2 < 0 then ((addOrL (cubeTo r.1 lits (K.getD i default) lits.length).1 r.2 (cubeTo r.1 lits (K.getD i default) lits.length).2).1, -1) else addOrL (cubeTo r.1 lits (K.getD i default) lits.length).1 r.2 (cubeTo r.1 lits (K.getD i default) lits.length).2 := by
       rw [coverTo, ← hr, if_neg hs0]
      have hneC : ca ≠ none := nn_of hp (X := K) (by omega)
      obtain ⟨c, hcc⟩ : ∃ c, c = K.getD i default := ⟨_, rfl⟩
      have hcp := hc.2.2 _ (getD_mem hlt2')
      rw [← hcc] at hnext hcp
      have hstay : (coverTo x.n lits K (i + 1)).2 < 0 → addF x.n lits (coverTo x.n lits K K.length) = (x.n, -1) := fun hneg => by
       rw [coverTo_stay hneg (show i + 1 ≤ K.length from hlt2')]
       exact addF_neg ⟨hok, hall⟩ hneg
      refine h_cond_t rfl rfl ?_; skip
      refine h_loop2 [1, 2, 3, 6, 9, 10, 11, 12, 13] (fun (k : Nat) (_ : NetA) => [(1, .slice la lits.length lc), (2, .slice ca K.length cc), (3, .pointer (some ⟨b3, 0, none⟩)), (6, .pointer (some ⟨b6, 0, none⟩)), (9, .pointer (some ⟨b9, 0, none⟩)), (10, .int .i64 r.2), (11, .int .i64 (i : Int)), (12, .int .i64 (cubeTo r.1 lits c k).2), (13, .int .i64 (k : Int))])
       (fun k u w' => (k ≤ lits.length ∧ ¬ (cubeTo r.1 lits c k).2 < 0 ∧ u.n = (cubeTo r.1 lits c k).1) ∧ Hp w0 w' [rB b9 31 u.cs, rNet u, rB b6 31 (cellsV Tryz.ti31.zero), rB b3 31 x.cs]) (fun k _ => lits.length - k) 0 z rfl
       ⟨⟨by omega, by show ¬ (1 : Int) < 0; decide, hz⟩, hp⟩ ?_
      clear hp
      rintro k u w3 ⟨⟨hk, hk0, hu⟩, hp⟩ IH2 C2
      have g2 := good_cube g.ok hrl c k hk
      have hg2 := g2.ok.count
      obtain ⟨t, ht⟩ : ∃ t, t = cubeTo r.1 lits c k := ⟨_, rfl⟩
      rw [← ht] at hk0 hu g2 hg2 ⊢
      have hbt := g2.litP hk0
      have hbk : ((k : Nat) : Int) ≤ ((IntKind.i64.bits : Nat) : Int) := by show ((k : Nat) : Int) ≤ 64; omega
      have huok : NetOkP u.n := by rw [hu]; exact g2.ok
      refine h_run rfl ?_; skip
      refine h_cond_dec (fun hlt3 => ?_) (fun hlt3 => ?_)
      ·have hlt3' : k < lits.length := by omega
       have hlk := (hrl _ (getD_mem hlt3')).mono g2.nodes
       have hlk' := hlk
       unfold litP at hlk'
       refine h_cond_t rfl rfl ?_; (repeat (refine H_ldFN hp rfl (by omega) rfl rfl ?_))
       rw [← hcc]
       refine h_cond_dec (fun hb0 => ?_) (fun hb0 => ?_)
       ·have hb1 : bitI c.1 k = 1 := hb0
        have hbn : ¬ bitI c.1 k = 0 := by rw [hb1]; decide
        have hcl := litC_lit (v := c.2) (j := k) hlk (by omega)
        have hadd := cubeTo_add (n := r.1) (lits := lits) (c := c) (k := k) (by rw [← ht]; exact hk0) hbn
        rw [← ht] at hadd
        have hj1 := hbt.i64 (by omega)
        have hj2 := hcl.i64 (by omega)
        have hlv : NetOkP t.1 ∧ ∀ l, l ∈ [t.2, litC (lits.getD k default) c.2 k] → litP l (nodesL t.1) := ⟨g2.ok, two_lits.2 ⟨hbt, hcl⟩⟩
        have ecx := litC_xor (v := c.2) (k := k) hlk'.1 (show lits.getD k default ≤ 1000000 by omega)
        refine h_cond_t rfl rfl ?_; skip
        refine N_draw hp (by kernel_rfl) (by kernel_rfl) rfl rfl ?_; (repeat (refine nLoad ?_; first | refine N_ldB rfl rfl rfl ?_ | refine N_ldEN rfl (by omega) rfl rfl rfl ?_ | refine N_ldFN rfl (by omega) rfl rfl rfl ?_))
        rw [← hcc]
        show HoldsF _ _ _ _ _ _ (G.act (.call _ [_, .int .i64 t.2, .int .i64 (bits .xor .i64 (bits .xor .i64 (lits.getD k default) 1) (bits .and .i64 (c.2 / 2 ^ ((k : Int)).toNat) 1))]) _)
        rw [ecx]
        refine N_call Tryz.func34 (by kernel_rfl) rfl (fun F w hp => ?_); refine Ret.mono (specAddAnd_x u t.2 (litC (lits.getD k default) c.2 k) _ (rNet_r (hp.pre.take (rNet u))) huok.S' huok.W hj1 hj2) ?_; rintro _ w ⟨u', ⟨hu', rfl⟩, hq⟩; have hp := hp.callF1 hq; refine ⟨fun _ => hp.sub (by (repeat (first | exact List.sublist_append_left _ _ | apply List.Sublist.cons))), _, hp, ?_⟩; clear hp; refine N_ops rfl rfl ?_; skip
        (first | refine N_box ?_ | refine N_alloc rfl ?_); intro b14; refine N_ops rfl rfl ?_; (repeat (refine N_stBN rfl rfl rfl rfl (by kernel_rfl) ?_; refine N_ops rfl rfl ?_))
        refine N_end ?_; intro w hp C; refine h_run rfl ?_; skip
        rw [hu] at hu' ⊢
        by_cases hneg : (addAndL t.1 t.2 (litC (lits.getD k default) c.2 k)).2 < 0
        ·rw [addF_neg hlv hneg] at hu' ⊢
         refine h_cond_t rfl rfl ?_; (repeat (refine H_ldB hp rfl rfl ?_))
         refine h_call rfl Tryz.func26 (by kernel_rfl) rfl (specCopyNet_h x _ hp.net hS) ?_; rintro _ w ⟨q, ⟨hqe, rfl⟩, hq⟩; have hx := hq.x; have hp := hp.call1 hq; refine ops_run nopre rfl ?_; (repeat (first | (refine gStore ?_; refine U_stBN hp rfl rfl rfl rfl ?_; intro w hp; refine ops_run nopre rfl ?_) | (refine gRetc ?_; refine R_ret2v hp rfl ?_)))
         have e1 : cubeTo r.1 lits c lits.length = addAndL t.1 t.2 (litC (lits.getD k default) c.2 k) := by
          rw [cubeTo_stay (k := k + 1) (by rw [hadd]; exact hneg) hlt3', hadd]
         rw [hstay (by rw [hnext, e1, if_pos hneg]; show (-1 : Int) < 0; decide)]
         exact ⟨q, ⟨hqe, rfl⟩, Hp.tk hp 1⟩
        ·rw [addF_yes hlv hneg] at hu' ⊢
         refine h_cond_f (decide_eq_false hneg) rfl ?_; (repeat (first | (refine gLoad ?_; refine H_ldB hp rfl rfl ?_) | (refine gStore ?_; refine U_stBN hp rfl rfl rfl rfl ?_; intro w hp; refine ops_run nopre rfl ?_)))
         refine IH2 (k + 1) u' _ _ _ (by omega) (by rw [hadd]; rfl) ⟨⟨by omega, by rw [hadd]; exact hneg, by rw [hadd]; exact hu'⟩, ?_⟩
         exact hp.drop.f2.drop.f1
       ·have hb1 : ¬ bitI c.1 k = 1 := hb0
        have hb2 : bitI c.1 k = 0 ∨ bitI c.1 k = 1 := and1_01 (c.1 / 2 ^ k)
        have hb00 : bitI c.1 k = 0 := hb2.resolve_right hb1
        refine h_cond_f rfl rfl ?_; skip
        have es := cubeTo_skip (n := r.1) (lits := lits) (c := c) (k := k) (by rw [← ht]; exact hk0) hb00
        rw [← ht] at es
        exact IH2 (k + 1) u _ _ _ (by omega) (by rw [es]; rfl) ⟨⟨by omega, by rw [es]; exact hk0, by rw [es]; exact hu⟩, hp⟩
      ·obtain rfl : k = lits.length := by omega
       clear IH2
       rw [← ht] at hnext
       have hs1 := (g.litP hs0).mono g2.nodes
       have hj1 := hs1.i64 (by omega)
       have hj2 := hbt.i64 (by omega)
       have hlv : NetOkP t.1 ∧ ∀ l, l ∈ [r.2, t.2] → litP l (nodesL t.1) := ⟨g2.ok, two_lits.2 ⟨hs1, hbt⟩⟩
       refine h_cond_f rfl rfl ?_; (repeat (refine H_ldB hp rfl rfl ?_))
       refine h_call rfl Tryz.func72 (by kernel_rfl) rfl (specAddOr_x u r.2 t.2 _ (rNet_r (hp.take (rNet u))) huok.S' huok.W hj1 hj2) ?_; rintro _ w ⟨u', ⟨hu', rfl⟩, hq⟩; have hx := hq.x; have hp := hp.call1 hq; refine ops_run nopre rfl ?_; skip
       (first | refine H_box hp ?_ | refine H_alloc hp rfl ?_); intro w b16 hx hp; refine ops_run nopre rfl ?_; (repeat (refine U_stBN hp rfl rfl rfl rfl ?_; intro w hp; refine ops_run nopre rfl ?_))
       rw [hu] at hu' ⊢
       by_cases hneg : (addOrL t.1 r.2 t.2).2 < 0
       ·rw [addF_neg hlv hneg] at hu' ⊢
        refine h_cond_t rfl rfl ?_; (repeat (refine H_ldB hp rfl rfl ?_))
        refine h_call rfl Tryz.func26 (by kernel_rfl) rfl (specCopyNet_h x _ hp.net hS) ?_; rintro _ w ⟨q, ⟨hqe, rfl⟩, hq⟩; have hx := hq.x; have hp := hp.call1 hq; refine ops_run nopre rfl ?_; (repeat (first | (refine gStore ?_; refine U_stBN hp rfl rfl rfl rfl ?_; intro w hp; refine ops_run nopre rfl ?_) | (refine gRetc ?_; refine R_ret2v hp rfl ?_)))
        rw [hstay (by rw [hnext, if_neg hk0, if_pos hneg]; show (-1 : Int) < 0; decide)]
        exact ⟨q, ⟨hqe, rfl⟩, Hp.tk hp 1⟩
       ·rw [addF_yes hlv hneg] at hu' ⊢
        have e2 : coverTo x.n lits K (i + 1) = addOrL t.1 r.2 t.2 := by rw [hnext, if_neg hk0, if_neg hneg]
        refine h_cond_f (decide_eq_false hneg) rfl ?_; (repeat (first | (refine gLoad ?_; refine H_ldB hp rfl rfl ?_) | (refine gStore ?_; refine U_stBN hp rfl rfl rfl rfl ?_; intro w hp; refine ops_run nopre rfl ?_)))
        refine IH (i + 1) u' _ _ _ (by omega) (by rw [e2]; rfl) ⟨⟨by omega, by rw [e2]; exact hneg, by rw [e2]; exact hu'⟩, ?_⟩
        exact hp.drop.f2.drop.f1
     ·obtain rfl : i = K.length := by omega
      refine h_cond_f rfl rfl ?_; (repeat (first | (refine gLoad ?_; refine H_ldB hp rfl rfl ?_) | (refine gStore ?_; refine U_stBN hp rfl rfl rfl rfl ?_; intro w hp; refine ops_run nopre rfl ?_) | (refine gRetc ?_; refine R_ret2v hp rfl ?_)))
      rw [← hr, addF_yes ⟨hok, hall⟩ hs0]
      exact ⟨z, ⟨hz, rfl⟩, Hp.tk hp.f1 1⟩
   ·refine h_call rfl Tryz.func70 (by kernel_rfl) rfl ((l03Ok_h (lits.length : Int) ca cc _ K rfl _ hmi hp.rd hV2 hL2).ff (coverOkB_no hc)) ?_; rintro _ w ⟨rfl, hx⟩; have hp := hp.ext hx; refine ops_run nopre rfl ?_; (repeat (refine h_guard_y rfl nopre rfl ?_))
    refine h_cond_t rfl rfl ?_; (repeat (refine H_ldB hp rfl rfl ?_))
    refine h_call rfl Tryz.func26 (by kernel_rfl) rfl (specCopyNet_h x _ hp.net hS) ?_; rintro _ w ⟨z, ⟨hz, rfl⟩, hq⟩; have hx := hq.x; have hp := hp.call1 hq; refine ops_run nopre rfl ?_; (repeat (first | (refine gStore ?_; refine U_stBN hp rfl rfl rfl rfl ?_; intro w hp; refine ops_run nopre rfl ?_) | (refine gRetc ?_; refine R_ret2v hp rfl ?_)))
    rw [covF_bad (fun h => hc h.1)]
    exact ⟨z, ⟨hz, rfl⟩, Hp.tk hp 1⟩
 ·refine h_call rfl Tryz.func50 (by kernel_rfl) rfl ((specNetOk_h x _ hp.net hS hW).ff (netOkB_no hok)) ?_; rintro _ w ⟨rfl, hx⟩; have hp := hp.ext hx; refine ops_run nopre rfl ?_; (repeat (refine h_guard_n rfl nopre rfl ?_))
  refine h_cond_t rfl rfl ?_; (repeat (refine H_ldB hp rfl rfl ?_))
  refine h_call rfl Tryz.func26 (by kernel_rfl) rfl (specCopyNet_h x _ hp.net hS) ?_; rintro _ w ⟨z, ⟨hz, rfl⟩, hq⟩; have hx := hq.x; have hp := hp.call1 hq; refine ops_run nopre rfl ?_; (repeat (first | (refine gStore ?_; refine U_stBN hp rfl rfl rfl rfl ?_; intro w hp; refine ops_run nopre rfl ?_) | (refine gRetc ?_; refine R_ret2v hp rfl ?_)))
  rw [covF_bad (fun h => hok h.2.1)]
  exact ⟨z, ⟨hz, rfl⟩, Hp.tk hp 1⟩
end Go.Proofs
end
