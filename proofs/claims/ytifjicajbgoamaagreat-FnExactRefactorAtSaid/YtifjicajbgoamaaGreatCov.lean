/- The contracts of the program's functions that add a cover; each under its stated conditions. -/
import Derived.Test.YtifjicajbgoamaaGreatCovLaw
set_option linter.all false
namespace Go.Proofs
open Go.Xw
set_option maxRecDepth 100000
set_option maxHeartbeats 4000000
attribute [local irreducible] Holds elemAddr
theorem addCover_h (y : NetA) (p : Nat) (la ca : Option Addr) (lc cc m q : Nat) (lits : List Int) (Cs : List (Int × Int)) (hm : lits.length = m) (hq : Cs.length = q) {w0 w : World} {L : List Res} (hp : Hp w0 w (rB p 31 y.cs :: rO 62 2 eII y.aa y.ac y.ands :: L)) [hT : RdH w0 L la 1 eI lits] [hC : RdH w0 L ca 2 eII Cs] (hok : NetOkP y.n) (hl : ∀ l, l ∈ lits → litP l (nodesL y.n)) (hml : m ≤ 4) (hql : q ≤ 81) (hcb : ∀ c, c ∈ Cs → 0 ≤ c.1 ∧ 0 ≤ c.2) :
    Ret Tryz.prog 88 [.pointer (some ⟨p, 0, none⟩), .slice la m lc, .slice ca q cc] w (fun v w' => ∃ aa ac, v = .int .i64 (coverTo y.n lits Cs Cs.length).2 ∧ Hp w0 w' (rB p 31 (y.wA aa ac (coverTo y.n lits Cs Cs.length).1.ands).cs :: rO 62 2 eII aa ac (coverTo y.n lits Cs Cs.length).1.ands :: L)) := by
  subst hm hq
  refine enter Tryz.S88ok _ _ rfl rfl (by show _ ≤ _; simp only [List.length]; decide) (fun C => ?_); refine h_run rfl ?_; skip
  refine h_loop3 [0, 1, 7, 13, 14, 15] (fun (i : Nat) (_ : Option Addr) (_ : Nat) => [(0, .pointer (some ⟨p, 0, none⟩)), (1, .slice la lits.length lc), (7, .int .i64 (coverTo y.n lits Cs i).2), (13, .slice ca Cs.length cc), (14, .int .i64 Cs.length), (15, .int .i64 (i : Int))])
    (fun i aa ac w' => (i ≤ Cs.length ∧ ¬ (coverTo y.n lits Cs i).2 < 0) ∧ Hp w0 w' (rB p 31 [.int .i64 y.inputs, .slice y.sa y.seqs.length y.sc, .slice aa ((coverTo y.n lits Cs i).1.ands).length ac, .slice y.oa y.outs.length y.oc] :: rO 62 2 eII aa ac (coverTo y.n lits Cs i).1.ands :: L)) (fun i _ _ => Cs.length - i) 0 y.aa y.ac rfl
    ⟨⟨by omega, by show ¬ (0 : Int) < 0; decide⟩, hp⟩ ?_
  clear hp
  rintro i aa ac w1 ⟨⟨hi, hs0⟩, hp⟩ IH C1
  have g := good_cover hok hl Cs i hi
  obtain ⟨r, hr⟩ : ∃ r, r = coverTo y.n lits Cs i := ⟨_, rfl⟩
  rw [← hr] at hs0 hp g
  have hg := g.ok.count
  have hrl : ∀ l, l ∈ lits → litP l (nodesL r.1) := fun l hm => (hl l hm).mono g.nodes
  rw [← hr]
  refine h_run rfl ?_; skip
  refine h_cond_dec (fun hlt => ?_) (fun hlt => ?_)
  · have hlt' : i < Cs.length := by omega
    have hnext : coverTo y.n lits Cs (i + 1) = if (cubeTo r.1 lits (Cs.getD i default) lits.length).2 < 0 then ((cubeTo r.1 lits (Cs.getD i default) lits.length).1, -1) else if (addOrL (cubeTo r.1 lits (Cs.getD i default) lits.length).1 r.2 (cubeTo r.1 lits (Cs.getD i default) lits.length).2).2 < 0 then ((addOrL (cubeTo r.1 lits (Cs.getD i default) lits.length).1 r.2 (cubeTo r.1 lits (Cs.getD i default) lits.length).2).1, -1) else addOrL (cubeTo r.1 lits (Cs.getD i default) lits.length).1 r.2 (cubeTo r.1 lits (Cs.getD i default) lits.length).2 := by
      rw [coverTo, ← hr, if_neg hs0]
    have hc0 := hcb _ (getD_mem hlt')
    obtain ⟨c, hc⟩ : ∃ c, c = Cs.getD i default := ⟨_, rfl⟩
    rw [← hc] at hnext hc0
    have hneC : ca ≠ none := nn_of hp (X := Cs) (by omega)
    refine h_cond_t rfl rfl ?_; (repeat (refine H_ldEN hp rfl (by omega) rfl rfl ?_))
    (first | (refine H_box hp ?_; intro w b9 hx hp) | (refine H_alloc hp rfl ?_; intro w b9 hx hp)); refine ops_run nopre rfl ?_; (repeat (refine U_stBN hp rfl rfl rfl rfl ?_; intro w hp; refine ops_run nopre rfl ?_))
    rw [← hc] at hp
    refine h_loop3 [0, 1, 7, 9, 10, 13, 14, 15, 19, 20, 21] (fun (k : Nat) (_ : Option Addr) (_ : Nat) => [(0, .pointer (some ⟨p, 0, none⟩)), (1, .slice la lits.length lc), (7, .int .i64 r.2), (9, .pointer (some ⟨b9, 0, none⟩)), (10, .int .i64 (cubeTo r.1 lits c k).2), (13, .slice ca Cs.length cc), (14, .int .i64 Cs.length), (15, .int .i64 (i : Int)), (19, .slice la lits.length lc), (20, .int .i64 lits.length), (21, .int .i64 (k : Int))])
      (fun k aa ac w' => (k ≤ lits.length ∧ ¬ (cubeTo r.1 lits c k).2 < 0) ∧ Hp w0 w' (rB p 31 [.int .i64 y.inputs, .slice y.sa y.seqs.length y.sc, .slice aa ((cubeTo r.1 lits c k).1.ands).length ac, .slice y.oa y.outs.length y.oc] :: rO 62 2 eII aa ac (cubeTo r.1 lits c k).1.ands :: rB b9 87 (eII c) :: L)) (fun k _ _ => lits.length - k) 0 aa ac rfl
      ⟨⟨by omega, by show ¬ (1 : Int) < 0; decide⟩, hp.f2.f2⟩ ?_
    clear hp
    rintro k aa ac w2 ⟨⟨hk, hk0⟩, hp⟩ IH2 C2
    have g2 := good_cube g.ok hrl c k hk
    have hg2 := g2.ok.count
    obtain ⟨t, ht⟩ : ∃ t, t = cubeTo r.1 lits c k := ⟨_, rfl⟩
    rw [← ht] at hk0 hp g2 hg2
    rw [← ht]
    have hyn : (y.wA aa ac t.1.ands).n = t.1 := NetA.wA_n y aa ac (g.trans g2).eq
    have hbt := g2.litP hk0
    have hbt' := hbt
    unfold litP at hbt'
    have hyb : NetB (y.wA aa ac t.1.ands) := by have h : NetOkP (y.wA aa ac t.1.ands).n := by rw [hyn]; exact g2.ok
                                                exact h.b
    have hyl : (y.wA aa ac t.1.ands).ands.length ≤ 1000000 := by have h := g2.ok.size; unfold sizeOk at h; show t.1.ands.length ≤ _; omega
    refine h_run rfl ?_; skip
    refine h_cond_dec (fun hlt2 => ?_) (fun hlt2 => ?_)
    · have hlt2' : k < lits.length := by omega
      have hneL : la ≠ none := nn_of hp (X := lits) (by omega)
      have hlk := (hrl _ (getD_mem hlt2')).mono g2.nodes
      have hlk' := hlk
      unfold litP at hlk'
      have hbk : ((k : Nat) : Int) ≤ ((IntKind.i64.bits : Nat) : Int) := by show ((k : Nat) : Int) ≤ 64; omega
      refine h_cond_t rfl rfl ?_; (repeat (refine gLoad ?_; first | refine H_ldB hp rfl rfl ?_ | refine H_ldEN hp rfl (by omega) rfl rfl ?_))
      refine h_cond_dec (fun hb0 => ?_) (fun hb0 => ?_)
      · have hb0' : bitI c.1 k = 0 := hb0
        refine h_cond_t rfl rfl ?_; skip
        refine IH2 (k + 1) aa ac _ _ _ (by omega) (by rw [cubeTo_skip (by rw [← ht]; exact hk0) hb0', ← ht]; rfl) ⟨⟨by omega, by rw [cubeTo_skip (by rw [← ht]; exact hk0) hb0', ← ht]; exact hk0⟩, ?_⟩
        rw [cubeTo_skip (by rw [← ht]; exact hk0) hb0', ← ht]
        exact hp
      · have hb0' : ¬ bitI c.1 k = 0 := hb0
        have hcl := litC_lit (v := c.2) (j := k) hlk (by omega)
        have hcl' := hcl
        unfold litP at hcl'
        have hadd := cubeTo_add (n := r.1) (lits := lits) (c := c) (k := k) (by rw [← ht]; exact hk0) hb0'
        rw [← ht] at hadd
        have g3 := good_cube g.ok hrl c (k + 1) hlt2'
        rw [hadd] at g3
        have hfin : ∀ w', (∃ aa' ac', Hp w0 w' (rB p 31 ((y.wA aa ac t.1.ands).wA aa' ac' (addAndL t.1 t.2 (litC (lits.getD k default) c.2 k)).1.ands).cs :: rO 62 2 eII aa' ac' (addAndL t.1 t.2 (litC (lits.getD k default) c.2 k)).1.ands :: rB b9 87 (eII c) :: L)) → (addAndL t.1 t.2 (litC (lits.getD k default) c.2 k)).2 < 0 → ∃ aa ac, Value.int IntKind.i64 (-1) = .int .i64 (coverTo y.n lits Cs Cs.length).2 ∧ Hp w0 w' (rB p 31 (y.wA aa ac (coverTo y.n lits Cs Cs.length).1.ands).cs :: rO 62 2 eII aa ac (coverTo y.n lits Cs Cs.length).1.ands :: L) := by
          rintro w' ⟨aa', ac', hp⟩ hneg
          have e1 : cubeTo r.1 lits c lits.length = addAndL t.1 t.2 (litC (lits.getD k default) c.2 k) := by
            rw [cubeTo_stay (k := k + 1) (by rw [hadd]; exact hneg) hlt2', hadd]
          have e2 : coverTo y.n lits Cs (i + 1) = ((addAndL t.1 t.2 (litC (lits.getD k default) c.2 k)).1, -1) := by rw [hnext, e1, if_pos hneg]
          have e3 : coverTo y.n lits Cs Cs.length = ((addAndL t.1 t.2 (litC (lits.getD k default) c.2 k)).1, -1) := by
            rw [coverTo_stay (k := i + 1) (by rw [e2]; show (-1 : Int) < 0; decide) hlt', e2]
          rw [e3]
          exact ⟨aa', ac', rfl, hp.f2.drop⟩
        refine h_cond_f rfl rfl ?_; (repeat (refine H_ldB hp rfl rfl ?_))
        refine h_cond_dec (fun hv => ?_) (fun hv => ?_)
        · have hv' : litC (lits.getD k default) c.2 k = notL (lits.getD k default) := by unfold litC; rw [if_pos (show bitI c.2 k = 0 from hv)]
          rw [hv'] at hadd g3 hfin hcl'
          refine h_cond_t rfl rfl ?_; skip
          refine h_call rfl Tryz.func89 (by kernel_rfl) rfl (addAnd_h (y.wA aa ac t.1.ands) p t.2 (notL (lits.getD k default)) hp hyb hyl (by omega) (by omega)) ?_; rintro _ w ⟨aa', ac', rfl, hp⟩; refine ops_run nopre rfl ?_; skip
          rw [hyn] at hp ⊢
          refine h_cond_dec (fun hneg => ?_) (fun hneg => ?_)
          · refine h_cond_t rfl rfl ?_; (repeat (refine R_ret ?_))
            exact hfin _ ⟨aa', ac', hp⟩ hneg
          · refine h_cond_f rfl rfl ?_; skip
            refine IH2 (k + 1) aa' ac' _ _ _ (by omega) (by rw [hadd]; rfl) ⟨⟨by omega, by rw [hadd]; exact hneg⟩, ?_⟩
            rw [hadd]
            exact hp
        · have hv' : litC (lits.getD k default) c.2 k = lits.getD k default := by unfold litC; rw [if_neg (show ¬ bitI c.2 k = 0 from hv)]
          rw [hv'] at hadd g3 hfin hcl'
          refine h_cond_f rfl rfl ?_; skip
          refine h_call rfl Tryz.func89 (by kernel_rfl) rfl (addAnd_h (y.wA aa ac t.1.ands) p t.2 (lits.getD k default) hp hyb hyl (by omega) (by omega)) ?_; rintro _ w ⟨aa', ac', rfl, hp⟩; refine ops_run nopre rfl ?_; skip
          rw [hyn] at hp ⊢
          refine h_cond_dec (fun hneg => ?_) (fun hneg => ?_)
          · refine h_cond_t rfl rfl ?_; (repeat (refine R_ret ?_))
            exact hfin _ ⟨aa', ac', hp⟩ hneg
          · refine h_cond_f rfl rfl ?_; skip
            refine IH2 (k + 1) aa' ac' _ _ _ (by omega) (by rw [hadd]; rfl) ⟨⟨by omega, by rw [hadd]; exact hneg⟩, ?_⟩
            rw [hadd]
            exact hp
    · obtain rfl : k = lits.length := by omega
      clear IH2
      rw [← ht] at hnext
      refine h_cond_f rfl rfl ?_; skip
      refine h_call rfl Tryz.func128 (by kernel_rfl) rfl (addOr_h (y.wA aa ac t.1.ands) p r.2 t.2 hp (by rw [hyn]; exact g2.ok) (by rw [hyn]; exact (g.litP hs0).mono g2.nodes) (by rw [hyn]; exact hbt)) ?_; rintro _ w ⟨aa', ac', rfl, hp⟩; refine ops_run nopre rfl ?_; skip
      rw [hyn] at hp ⊢
      refine h_cond_dec (fun hneg => ?_) (fun hneg => ?_)
      · have e2 : coverTo y.n lits Cs (i + 1) = ((addOrL t.1 r.2 t.2).1, -1) := by rw [hnext, if_neg hk0, if_pos hneg]
        have e3 : coverTo y.n lits Cs Cs.length = ((addOrL t.1 r.2 t.2).1, -1) := by
          rw [coverTo_stay (k := i + 1) (by rw [e2]; show (-1 : Int) < 0; decide) hlt', e2]
        refine h_cond_t rfl rfl ?_; (repeat (refine R_ret ?_))
        rw [e3]
        exact ⟨aa', ac', rfl, hp.f2.drop⟩
      · have e2 : coverTo y.n lits Cs (i + 1) = addOrL t.1 r.2 t.2 := by rw [hnext, if_neg hk0, if_neg hneg]
        refine h_cond_f rfl rfl ?_; skip
        refine IH (i + 1) aa' ac' _ _ _ (by omega) (by rw [e2]; rfl) ⟨⟨by omega, by rw [e2]; exact hneg⟩, ?_⟩
        rw [e2]
        exact hp.f2.drop
  · obtain rfl : i = Cs.length := by omega
    refine h_cond_f rfl rfl ?_; (repeat (refine R_ret ?_))
    exact ⟨aa, ac, by rw [hr], by rw [← hr]; exact hp⟩
end Go.Proofs
