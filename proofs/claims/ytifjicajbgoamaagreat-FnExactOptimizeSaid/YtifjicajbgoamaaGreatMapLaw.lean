/- Texts that belong together; each under its stated conditions. -/
import Derived.Test.YtifjicajbgoamaaGreatAddLaw
import Derived.Test.YtifjicajbgoamaaGreatBits
import Derived.Test.YtifjicajbgoamaaGreatAdd
set_option linter.all false
section
namespace Go.Xw
def bitI (inp : Int) (k : Nat) : Int := bits .and .i64 (inp / 2 ^ k) 1
def litV (V : List Int) (l : Int) : Int := bits .xor .i64 (V.getD (l / 2).toNat default) (bits .and .i64 l 1)
def inTo (n : NetL) (inp : Int) : Nat → List Int
 | 0 => List.replicate (nds n) 0
 | k + 1 => (inTo n inp k).set (1 + k) (bitI inp k)
def stTo (n : NetL) (st : List Int) (inp : Int) : Nat → List Int
 | 0 => inTo n inp n.inputs.toNat
 | k + 1 => (stTo n st inp k).set (1 + n.inputs.toNat + k) (bits .and .i64 (st.getD k default) 1)
def vTo (n : NetL) (st : List Int) (inp : Int) : Nat → List Int
 | 0 => stTo n st inp st.length
 | i + 1 => (vTo n st inp i).set (fst_ n + i) (bits .and .i64 (litV (vTo n st inp i) (n.ands.getD i default).1) (litV (vTo n st inp i) (n.ands.getD i default).2))
def valsL (n : NetL) (st : List Int) (inp : Int) : List Int := vTo n st inp n.ands.length
def is01 (z : Int) : Prop := z = 0 ∨ z = 1
def All01 (V : List Int) : Prop := ∀ j, is01 (V.getD j default)
theorem All01.set {V : List Int} (h : All01 V) {i : Nat} {z : Int} (hz : is01 z) : All01 (V.set i z) := by
 intro j
 have hj := h j
 simp only [List.getD_eq_getElem?_getD, List.getElem?_set] at hj ⊢
 split
 ·split
  ·exact hz
  ·exact .inl rfl
 ·exact hj
theorem and1_01 (z : Int) : is01 (bits .and .i64 z 1) := by rw [bits_and_one]; unfold is01; omega
theorem litV_01 {V : List Int} (h : All01 V) (l : Int) : is01 (litV V l) := by
 unfold litV
 rw [xor_01 (h _) (and1_01 l)]
 unfold is01
 split <;> simp
theorem and_is01 {a b : Int} (ha : is01 a) (hb : is01 b) : is01 (bits .and .i64 a b) := by
 rw [and_01 ha hb]; unfold is01; split <;> simp
theorem inTo_01 (n : NetL) (inp : Int) : ∀ k, All01 (inTo n inp k)
 | 0 => fun j => by
  simp only [inTo, List.getD_eq_getElem?_getD, List.getElem?_replicate]
  split
  ·exact .inl rfl
  ·exact .inl rfl
 | k + 1 => (inTo_01 n inp k).set (and1_01 _)
theorem stTo_01 (n : NetL) (st : List Int) (inp : Int) : ∀ k, All01 (stTo n st inp k)
 | 0 => inTo_01 _ _ _
 | k + 1 => (stTo_01 n st inp k).set (and1_01 _)
theorem vTo_01 (n : NetL) (st : List Int) (inp : Int) : ∀ k, All01 (vTo n st inp k)
 | 0 => stTo_01 _ _ _ _
 | k + 1 => (vTo_01 n st inp k).set (and_is01 (litV_01 (vTo_01 n st inp k) _) (litV_01 (vTo_01 n st inp k) _))
theorem valsL_01 (n : NetL) (st : List Int) (inp : Int) : All01 (valsL n st inp) := vTo_01 _ _ _ _
def packTo (V : List Int) (ls : List Int) : Nat → Int
 | 0 => 0
 | k + 1 => packTo V ls k + litV V (ls.getD k default) * 2 ^ k
def packL (V : List Int) (ls : List Int) : Int := packTo V ls ls.length
end Go.Xw
end
section
namespace Go.Xw
open Go.Proofs
def cubeOkP (m : Int) (c : Int × Int) : Prop := (0 ≤ m ∧ m ≤ 4) ∧ (0 ≤ c.1 ∧ c.1 ≤ 2 ^ m.toNat - 1) ∧ (0 ≤ c.2 ∧ c.2 ≤ 2 ^ m.toNat - 1) ∧ bits .andNot .i64 c.2 c.1 = 0
def coverOkP (m : Int) (C : List (Int × Int)) : Prop := (0 ≤ m ∧ m ≤ 4) ∧ C.length ≤ 81 ∧ ∀ c, c ∈ C → cubeOkP m c
def litC (l v : Int) (k : Nat) : Int := if bitI v k = 0 then notL l else l
def cubeTo (n : NetL) (lits : List Int) (c : Int × Int) : Nat → NetL × Int
 | 0 => (n, 1)
 | k + 1 => if (cubeTo n lits c k).2 < 0 then cubeTo n lits c k else if bitI c.1 k = 0 then cubeTo n lits c k
  else addAndL (cubeTo n lits c k).1 (cubeTo n lits c k).2 (litC (lits.getD k default) c.2 k)
def coverTo (n : NetL) (lits : List Int) (C : List (Int × Int)) : Nat → NetL × Int
 | 0 => (n, 0)
 | i + 1 => if (coverTo n lits C i).2 < 0 then coverTo n lits C i
  else if (cubeTo (coverTo n lits C i).1 lits (C.getD i default) lits.length).2 < 0 then ((cubeTo (coverTo n lits C i).1 lits (C.getD i default) lits.length).1, -1)
  else if (addOrL (cubeTo (coverTo n lits C i).1 lits (C.getD i default) lits.length).1 (coverTo n lits C i).2 (cubeTo (coverTo n lits C i).1 lits (C.getD i default) lits.length).2).2 < 0 then ((addOrL (cubeTo (coverTo n lits C i).1 lits (C.getD i default) lits.length).1 (coverTo n lits C i).2 (cubeTo (coverTo n lits C i).1 lits (C.getD i default) lits.length).2).1, -1)
  else addOrL (cubeTo (coverTo n lits C i).1 lits (C.getD i default) lits.length).1 (coverTo n lits C i).2 (cubeTo (coverTo n lits C i).1 lits (C.getD i default) lits.length).2
theorem cubeTo_stay {n : NetL} {lits : List Int} {c : Int × Int} {k : Nat} (h : (cubeTo n lits c k).2 < 0) : ∀ {m : Nat}, k ≤ m → cubeTo n lits c m = cubeTo n lits c k := by
 intro m hm
 induction hm with
 | refl => rfl
 | step _ ih => rw [cubeTo, ih, if_pos h]
theorem cubeTo_skip {n : NetL} {lits : List Int} {c : Int × Int} {k : Nat} (h : ¬ (cubeTo n lits c k).2 < 0) (h0 : bitI c.1 k = 0) : cubeTo n lits c (k + 1) = cubeTo n lits c k := by rw [cubeTo, if_neg h, if_pos h0]
theorem cubeTo_add {n : NetL} {lits : List Int} {c : Int × Int} {k : Nat} (h : ¬ (cubeTo n lits c k).2 < 0) (h0 : ¬ bitI c.1 k = 0) : cubeTo n lits c (k + 1) = addAndL (cubeTo n lits c k).1 (cubeTo n lits c k).2 (litC (lits.getD k default) c.2 k) := by rw [cubeTo, if_neg h, if_neg h0]
theorem coverTo_stay {n : NetL} {lits : List Int} {C : List (Int × Int)} {k : Nat} (h : (coverTo n lits C k).2 < 0) : ∀ {m : Nat}, k ≤ m → coverTo n lits C m = coverTo n lits C k := by
 intro m hm
 induction hm with
 | refl => rfl
 | step _ ih => rw [coverTo, ih, if_pos h]
theorem litC_lit {l v k : Int} {j : Nat} (h : litP l k) (hk : k ≤ 1000000) : litP (litC l v j) k := by
 unfold litC
 split
 ·exact litP_not h hk
 ·exact h
theorem good_one {n : NetL} (h : NetOkP n) {v : Int} (hv : litP v (nodesL n)) : GoodN n (n, v) := ⟨h, rfl, Int.le_refl _, .inl hv, fun hn => by unfold litP at hv; dsimp only at hn; omega⟩
theorem good_cube {n : NetL} (h : NetOkP n) {lits : List Int} (hl : ∀ l, l ∈ lits → litP l (nodesL n)) (c : Int × Int) : ∀ k, k ≤ lits.length → GoodN n (cubeTo n lits c k)
 | 0, _ => good_one h (by have := h.count; unfold litP; omega)
 | k + 1, hk => by
  have ih := good_cube h hl c k (by omega)
  unfold cubeTo
  split
  ·exact ih
  ·rename_i h0
   split
   ·exact ih
   ·have hc := ih.ok.count
    exact ih.trans (good_and ih.ok (ih.litP h0) (litC_lit ((hl _ (getD_mem (by omega))).mono ih.nodes) (by omega)))
theorem good_cover {n : NetL} (h : NetOkP n) {lits : List Int} (hl : ∀ l, l ∈ lits → litP l (nodesL n)) (C : List (Int × Int)) : ∀ i, i ≤ C.length → GoodN n (coverTo n lits C i)
 | 0, _ => good_one h (by have := h.count; unfold litP; omega)
 | i + 1, hi => by
  have ih := good_cover h hl C i (by omega)
  have g := good_cube ih.ok (fun l hm => (hl l hm).mono ih.nodes) (C.getD i default) lits.length (Nat.le_refl _)
  unfold coverTo
  split
  ·exact ih
  ·rename_i h0
   split
   ·exact (ih.trans g).fail
   ·rename_i h1
    have g2 := good_or g.ok ((ih.litP h0).mono g.nodes) (g.litP h1)
    split
    ·exact (ih.trans (g.trans g2)).fail
    ·exact ih.trans (g.trans g2)
open Classical in
noncomputable def covF (n : NetL) (lits : List Int) (C : List (Int × Int)) : NetL × Int := if coverOkP lits.length C then addF n lits (coverTo n lits C C.length) else (n, -1)
theorem covF_yes {n : NetL} {lits : List Int} {C : List (Int × Int)} (h : coverOkP lits.length C) : covF n lits C = addF n lits (coverTo n lits C C.length) := by unfold covF; rw [if_pos h]
theorem covF_no {n : NetL} {lits : List Int} {C : List (Int × Int)} (h : ¬ coverOkP lits.length C) : covF n lits C = (n, -1) := by unfold covF; rw [if_neg h]
end Go.Xw
end
section
namespace Go.Proofs
open Go.Xw
set_option maxRecDepth 100000
set_option maxHeartbeats 4000000
attribute [local irreducible] Holds elemAddr
theorem addCover_h (y : NetA) (p : Nat) (la ca : Option Addr) (lc cc m q : Nat) (lits : List Int) (Cs : List (Int × Int)) (hm : lits.length = m) (hq : Cs.length = q) {w0 w : World} {L : List Res} (hp : Hp w0 w (rB p 31 y.cs :: rO 62 2 eII y.aa y.ac y.ands :: L)) [hT : RdH w0 L la 1 eI lits] [hC : RdH w0 L ca 2 eII Cs] (hok : NetOkP y.n) (hl : ∀ l, l ∈ lits → litP l (nodesL y.n)) (hml : m ≤ 4) (hql : q ≤ 81) (hcb : ∀ c, c ∈ Cs → 0 ≤ c.1 ∧ 0 ≤ c.2) :
  Ret Tryz.prog 88 [.pointer (some ⟨p, 0, none⟩), .slice la m lc, .slice ca q cc] w (fun v w' => ∃ aa ac, v = .int .i64 (coverTo y.n lits Cs Cs.length).2 ∧ Hp w0 w' (rB p 31 (y.wA aa ac (coverTo y.n lits Cs Cs.length).1.ands).cs :: rO 62 2 eII aa ac (coverTo y.n lits Cs Cs.length).1.ands :: L)) := by
 subst hm hq
 refine enter Tryz.S88ok _ _ rfl rfl (by show _ ≤ _; simp only [List.length]; decide) (fun C => ?_); refine h_run rfl ?_; skip
 refine h_loop3 [0, 1, 7, 13, 14, 15] (fun (i : Nat) (_ : Option Addr) (_ : Nat) => [(0, .pointer (some ⟨p, 0, none⟩)), (1, .slice la lits.length lc), (7, .int .i64 (coverTo y.n lits Cs i).2), (13, .slice ca Cs.length cc), (14, .int .i64 Cs.length), (15, .int .i64 (i : Int))])
  (fun i aa ac w' => (i ≤ Cs.length ∧ ¬ (coverTo y.n lits Cs i).2 < 0) ∧ Hp w0 w' (rB p 31 [.int .i64 y.inputs, .slice y.sa y.seqs.length y.sc, .slice aa ((coverTo y.n lits Cs i).1.ands).length ac, .slice y.oa y.outs.length y.oc] :: rO 62 2 eII aa ac (coverTo y.n lits Cs i).1.ands :: L)) (fun i _ _ => Cs.length - i) 0 y.aa y.ac rfl
  ⟨⟨by omega, by show ¬ (0 : Int) < 0; decide⟩, hp⟩ ?_
 clear hp
 rintro i aa ac w1 ⟨⟨hi, hs0⟩, hp⟩ IH C1
 have g := good_cover hok hl Cs i hi
 obtain ⟨r, hr⟩ : ∃ r, r = coverTo y.n lits Cs i := ⟨_, rfl⟩
 rw [← hr] at hs0 hp g
 have hg := g.ok.count
 have hrl : ∀ l, l ∈ lits → litP l (nodesL r.1) := fun l hm => (hl l hm).mono g.nodes
 rw [← hr]
 refine h_run rfl ?_; skip
 refine h_cond_dec (fun hlt => ?_) (fun hlt => ?_)
 ·have hlt' : i < Cs.length := by omega
  have hnext : coverTo y.n lits Cs (i + 1) = if (cubeTo r.1 lits (Cs.getD i default) lits.length).2 < 0 then ((cubeTo r.1 lits (Cs.getD i default) lits.length).1, -1) else if (addOrL (cubeTo r.1 lits (Cs.getD i default) lits.length).1 r.2 (cubeTo r.1 lits (Cs.getD i default) lits.length).2).2 < 0 then ((addOrL (cubeTo r.1 lits (Cs.getD i default) lits.length).1 r.2 (cubeTo r.1 lits (Cs.getD i default) lits.length).2).1, -1) else addOrL (cubeTo r.1 lits (Cs.getD i default) lits.length).1 r.2 (cubeTo r.1 lits (Cs.getD i default) lits.length).2 := by
   rw [coverTo, ← hr, if_neg hs0]
  have hc0 := hcb _ (getD_mem hlt')
  obtain ⟨c, hc⟩ : ∃ c, c = Cs.getD i default := ⟨_, rfl⟩
  rw [← hc] at hnext hc0
  have hneC : ca ≠ none := nn_of hp (X := Cs) (by omega)
  refine h_cond_t rfl rfl ?_; (repeat (refine H_ldEN hp rfl (by omega) rfl rfl ?_))
  (first | refine H_box hp ?_ | refine H_alloc hp rfl ?_); intro w b9 hx hp; refine ops_run nopre rfl ?_; (repeat (refine U_stBN hp rfl rfl rfl rfl ?_; intro w hp; refine ops_run nopre rfl ?_))
  rw [← hc] at hp
  refine h_loop3 [0, 1, 7, 9, 10, 13, 14, 15, 19, 20, 21] (fun (k : Nat) (_ : Option Addr) (_ : Nat) => [(0, .pointer (some ⟨p, 0, none⟩)), (1, .slice la lits.length lc), (7, .int .i64 r.2), (9, .pointer (some ⟨b9, 0, none⟩)), (10, .int .i64 (cubeTo r.1 lits c k).2), (13, .slice ca Cs.length cc), (14, .int .i64 Cs.length), (15, .int .i64 (i : Int)), (19, .slice la lits.length lc), (20, .int .i64 lits.length), (21, .int .i64 (k : Int))])
   (fun k aa ac w' => (k ≤ lits.length ∧ ¬ (cubeTo r.1 lits c k).2 < 0) ∧ Hp w0 w' (rB p 31 [.int .i64 y.inputs, .slice y.sa y.seqs.length y.sc, .slice aa ((cubeTo r.1 lits c k).1.ands).length ac, .slice y.oa y.outs.length y.oc] :: rO 62 2 eII aa ac (cubeTo r.1 lits c k).1.ands :: rB b9 87 (eII c) :: L)) (fun k _ _ => lits.length - k) 0 aa ac rfl
   ⟨⟨by omega, by show ¬ (1 : Int) < 0; decide⟩, hp.f2.f2⟩ ?_
  clear hp
  rintro k aa ac w2 ⟨⟨hk, hk0⟩, hp⟩ IH2 C2
  have g2 := good_cube g.ok hrl c k hk
  have hg2 := g2.ok.count
  obtain ⟨t, ht⟩ : ∃ t, t = cubeTo r.1 lits c k := ⟨_, rfl⟩
  rw [← ht] at hk0 hp g2 hg2
  rw [← ht]
  have hyn : (y.wA aa ac t.1.ands).n = t.1 := NetA.wA_n y aa ac (g.trans g2).eq
  have hbt := g2.litP hk0
  have hbt' := hbt
  unfold litP at hbt'
  have hyb : NetB (y.wA aa ac t.1.ands) := by have h : NetOkP (y.wA aa ac t.1.ands).n := by rw [hyn]; exact g2.ok
                                              exact h.b
  have hyl : (y.wA aa ac t.1.ands).ands.length ≤ 1000000 := by have h := g2.ok.size; unfold sizeOk at h; show t.1.ands.length ≤ _; omega
  refine h_run rfl ?_; skip
  refine h_cond_dec (fun hlt2 => ?_) (fun hlt2 => ?_)
  ·have hlt2' : k < lits.length := by omega
   have hneL : la ≠ none := nn_of hp (X := lits) (by omega)
   have hlk := (hrl _ (getD_mem hlt2')).mono g2.nodes
   have hlk' := hlk
   unfold litP at hlk'
   have hbk : ((k : Nat) : Int) ≤ ((IntKind.i64.bits : Nat) : Int) := by show ((k : Nat) : Int) ≤ 64; omega
   refine h_cond_t rfl rfl ?_; (repeat (refine gLoad ?_; first | refine H_ldB hp rfl rfl ?_ | refine H_ldEN hp rfl (by omega) rfl rfl ?_))
   refine h_cond_dec (fun hb0 => ?_) (fun hb0 => ?_)
   ·have hb0' : bitI c.1 k = 0 := hb0
    refine h_cond_t rfl rfl ?_; skip
    refine IH2 (k + 1) aa ac _ _ _ (by omega) (by rw [cubeTo_skip (by rw [← ht]; exact hk0) hb0', ← ht]; rfl) ⟨⟨by omega, by rw [cubeTo_skip (by rw [← ht]; exact hk0) hb0', ← ht]; exact hk0⟩, ?_⟩
    rw [cubeTo_skip (by rw [← ht]; exact hk0) hb0', ← ht]
    exact hp
   ·have hb0' : ¬ bitI c.1 k = 0 := hb0
    have hcl := litC_lit (v := c.2) (j := k) hlk (by omega)
    have hcl' := hcl
    unfold litP at hcl'
    have hadd := cubeTo_add (n := r.1) (lits := lits) (c := c) (k := k) (by rw [← ht]; exact hk0) hb0'
    rw [← ht] at hadd
    have g3 := good_cube g.ok hrl c (k + 1) hlt2'
    rw [hadd] at g3
    have hfin : ∀ w', (∃ aa' ac', Hp w0 w' (rB p 31 ((y.wA aa ac t.1.ands).wA aa' ac' (addAndL t.1 t.2 (litC (lits.getD k default) c.2 k)).1.ands).cs :: rO 62 2 eII aa' ac' (addAndL t.1 t.2 (litC (lits.getD k default) c.2 k)).1.ands :: rB b9 87 (eII c) :: L)) → (addAndL t.1 t.2 (litC (lits.getD k default) c.2 k)).2 < 0 → ∃ aa ac, Value.int IntKind.i64 (-1) = .int .i64 (coverTo y.n lits Cs Cs.length).2 ∧ Hp w0 w' (rB p 31 (y.wA aa ac (coverTo y.n lits Cs Cs.length).1.ands).cs :: rO 62 2 eII aa ac (coverTo y.n lits Cs Cs.length).1.ands :: L) := by
     rintro w' ⟨aa', ac', hp⟩ hneg
     have e1 : cubeTo r.1 lits c lits.length = addAndL t.1 t.2 (litC (lits.getD k default) c.2 k) := by
      rw [cubeTo_stay (k := k + 1) (by rw [hadd]; exact hneg) hlt2', hadd]
     have e2 : coverTo y.n lits Cs (i + 1) = ((addAndL t.1 t.2 (litC (lits.getD k default) c.2 k)).1, -1) := by rw [hnext, e1, if_pos hneg]
     have e3 : coverTo y.n lits Cs Cs.length = ((addAndL t.1 t.2 (litC (lits.getD k default) c.2 k)).1, -1) := by
      rw [coverTo_stay (k := i + 1) (by rw [e2]; show (-1 : Int) < 0; decide) hlt', e2]
     rw [e3]
     exact ⟨aa', ac', rfl, hp.f2.drop⟩
    refine h_cond_f rfl rfl ?_; (repeat (refine H_ldB hp rfl rfl ?_))
    refine h_cond_dec (fun hv => ?_) (fun hv => ?_)
    ·have hv' : litC (lits.getD k default) c.2 k = notL (lits.getD k default) := by unfold litC; rw [if_pos (show bitI c.2 k = 0 from hv)]
     rw [hv'] at hadd g3 hfin hcl'
     refine h_cond_t rfl rfl ?_; skip
     refine h_call rfl Tryz.func89 (by kernel_rfl) rfl (addAnd_h (y.wA aa ac t.1.ands) p t.2 (notL (lits.getD k default)) hp hyb hyl (by omega) (by omega)) ?_; rintro _ w ⟨aa', ac', rfl, hp⟩; refine ops_run nopre rfl ?_; skip
     rw [hyn] at hp ⊢
     refine h_cond_dec (fun hneg => ?_) (fun hneg => ?_)
     ·refine h_cond_t rfl rfl ?_; (repeat (refine R_ret ?_))
      exact hfin _ ⟨aa', ac', hp⟩ hneg
     ·refine h_cond_f rfl rfl ?_; skip
      refine IH2 (k + 1) aa' ac' _ _ _ (by omega) (by rw [hadd]; rfl) ⟨⟨by omega, by rw [hadd]; exact hneg⟩, ?_⟩
      rw [hadd]
      exact hp
    ·have hv' : litC (lits.getD k default) c.2 k = lits.getD k default := by unfold litC; rw [if_neg (show ¬ bitI c.2 k = 0 from hv)]
     rw [hv'] at hadd g3 hfin hcl'
     refine h_cond_f rfl rfl ?_; skip
     refine h_call rfl Tryz.func89 (by kernel_rfl) rfl (addAnd_h (y.wA aa ac t.1.ands) p t.2 (lits.getD k default) hp hyb hyl (by omega) (by omega)) ?_; rintro _ w ⟨aa', ac', rfl, hp⟩; refine ops_run nopre rfl ?_; skip
     rw [hyn] at hp ⊢
     refine h_cond_dec (fun hneg => ?_) (fun hneg => ?_)
     ·refine h_cond_t rfl rfl ?_; (repeat (refine R_ret ?_))
      exact hfin _ ⟨aa', ac', hp⟩ hneg
     ·refine h_cond_f rfl rfl ?_; skip
      refine IH2 (k + 1) aa' ac' _ _ _ (by omega) (by rw [hadd]; rfl) ⟨⟨by omega, by rw [hadd]; exact hneg⟩, ?_⟩
      rw [hadd]
      exact hp
  ·obtain rfl : k = lits.length := by omega
   clear IH2
   rw [← ht] at hnext
   refine h_cond_f rfl rfl ?_; skip
   refine h_call rfl Tryz.func128 (by kernel_rfl) rfl (addOr_h (y.wA aa ac t.1.ands) p r.2 t.2 hp (by rw [hyn]; exact g2.ok) (by rw [hyn]; exact (g.litP hs0).mono g2.nodes) (by rw [hyn]; exact hbt)) ?_; rintro _ w ⟨aa', ac', rfl, hp⟩; refine ops_run nopre rfl ?_; skip
   rw [hyn] at hp ⊢
   refine h_cond_dec (fun hneg => ?_) (fun hneg => ?_)
   ·have e2 : coverTo y.n lits Cs (i + 1) = ((addOrL t.1 r.2 t.2).1, -1) := by rw [hnext, if_neg hk0, if_pos hneg]
    have e3 : coverTo y.n lits Cs Cs.length = ((addOrL t.1 r.2 t.2).1, -1) := by
     rw [coverTo_stay (k := i + 1) (by rw [e2]; show (-1 : Int) < 0; decide) hlt', e2]
    refine h_cond_t rfl rfl ?_; (repeat (refine R_ret ?_))
    rw [e3]
    exact ⟨aa', ac', rfl, hp.f2.drop⟩
   ·have e2 : coverTo y.n lits Cs (i + 1) = addOrL t.1 r.2 t.2 := by rw [hnext, if_neg hk0, if_neg hneg]
    refine h_cond_f rfl rfl ?_; skip
    refine IH (i + 1) aa' ac' _ _ _ (by omega) (by rw [e2]; rfl) ⟨⟨by omega, by rw [e2]; exact hneg⟩, ?_⟩
    rw [e2]
    exact hp.f2.drop
 ·obtain rfl : i = Cs.length := by omega
  refine h_cond_f rfl rfl ?_; (repeat (refine R_ret ?_))
  exact ⟨aa, ac, by rw [hr], by rw [← hr]; exact hp⟩
end Go.Proofs
end
section
namespace Go.Proofs
open Go.Xw
set_option maxRecDepth 100000
set_option maxHeartbeats 4000000
attribute [local irreducible] Holds elemAddr
noncomputable def cubeOkB (m : Int) (c : Int × Int) : Bool := @decide (cubeOkP m c) (Classical.propDecidable _)
theorem cubeOkB_yes {m : Int} {c : Int × Int} (h : cubeOkP m c) : cubeOkB m c = true := by simp [cubeOkB, h]
theorem cubeOkB_no {m : Int} {c : Int × Int} (h : ¬ cubeOkP m c) : cubeOkB m c = false := by simp [cubeOkB, h]
noncomputable def coverOkB (m : Int) (K : List (Int × Int)) : Bool := @decide (coverOkP m K) (Classical.propDecidable _)
theorem coverOkB_yes {m : Int} {K : List (Int × Int)} (h : coverOkP m K) : coverOkB m K = true := by simp [coverOkB, h]
theorem coverOkB_no {m : Int} {K : List (Int × Int)} (h : ¬ coverOkP m K) : coverOkB m K = false := by simp [coverOkB, h]
theorem pow_small {m : Int} (h : 0 ≤ m ∧ m ≤ 4) : (1 : Int) ≤ 2 ^ m.toNat ∧ (2 : Int) ^ m.toNat ≤ 16 := by
 obtain rfl | rfl | rfl | rfl | rfl : m = 0 ∨ m = 1 ∨ m = 2 ∨ m = 3 ∨ m = 4 := by omega
 all_goals decide
theorem implCubeOk_h (m : Int) (c : Int × Int) (w0 : World) (hm : i64R m) (hc : i64R c.1 ∧ i64R c.2) : Ret Tryz.prog 142 [.int .i64 m, .agg ⟨eII c⟩] w0 (fun v w => v = .bool (cubeOkB m c) ∧ Ext w0 w) := by
 refine enter Tryz.S142ok _ _ rfl rfl (by show _ ≤ _; simp only [List.length]; decide) (fun C => ?_); have hp := Hp.nil w0; refine h_run rfl ?_; skip; (first | refine H_box hp ?_ | refine H_alloc hp rfl ?_); intro w b3 hx hp; refine ops_run nopre rfl ?_; skip
 by_cases h0 : 0 ≤ m ∧ m ≤ 4
 ·have h2 := pow_small h0
  have hbk : m ≤ ((IntKind.i64.bits : Nat) : Int) := by show m ≤ 64; omega
  refine h_call rfl Tryz.func77 (by kernel_rfl) rfl ((inRange_h m 0 4 _).yes h0) ?_; rintro _ w ⟨rfl, hx⟩; have hp := hp.ext hx; refine ops_run nopre rfl ?_; (repeat (first | (refine gGuard ?_; refine h_guard_y rfl nopre rfl ?_) | (refine gLoad ?_; refine H_ldB hp rfl rfl ?_)))
  by_cases h1 : 0 ≤ c.1 ∧ c.1 ≤ 1 * 2 ^ m.toNat - 1
  ·refine h_call rfl Tryz.func77 (by kernel_rfl) rfl ((inRange_h c.1 0 (1 * 2 ^ m.toNat - 1) _).yes h1) ?_; rintro _ w ⟨rfl, hx⟩; have hp := hp.ext hx; refine ops_run nopre rfl ?_; (repeat (first | (refine gGuard ?_; refine h_guard_y rfl nopre rfl ?_) | (refine gLoad ?_; refine H_ldB hp rfl rfl ?_)))
   by_cases h3 : 0 ≤ c.2 ∧ c.2 ≤ 1 * 2 ^ m.toNat - 1
   ·refine h_call rfl Tryz.func77 (by kernel_rfl) rfl ((inRange_h c.2 0 (1 * 2 ^ m.toNat - 1) _).yes h3) ?_; rintro _ w ⟨rfl, hx⟩; have hp := hp.ext hx; refine ops_run nopre rfl ?_; (repeat (first | (refine gGuard ?_; refine h_guard_y rfl nopre rfl ?_) | (refine gLoad ?_; refine H_ldB hp rfl rfl ?_) | refine R_ret ?_))
    refine ⟨?_, hp.x⟩
    by_cases h4 : bits .andNot .i64 c.2 c.1 = 0
    ·rw [decide_eq_true h4, cubeOkB_yes ⟨h0, by omega, by omega, h4⟩]
    ·rw [decide_eq_false h4, cubeOkB_no (fun h => h4 h.2.2.2)]
   ·refine h_call rfl Tryz.func77 (by kernel_rfl) rfl ((inRange_h c.2 0 (1 * 2 ^ m.toNat - 1) _).no h3) ?_; rintro _ w ⟨rfl, hx⟩; have hp := hp.ext hx; refine ops_run nopre rfl ?_; (repeat (first | (refine gGuard ?_; refine h_guard_n rfl nopre rfl ?_) | refine R_ret ?_))
    exact ⟨by rw [cubeOkB_no (fun h => h3 (by have := h.2.2.1; omega))], hp.x⟩
  ·refine h_call rfl Tryz.func77 (by kernel_rfl) rfl ((inRange_h c.1 0 (1 * 2 ^ m.toNat - 1) _).no h1) ?_; rintro _ w ⟨rfl, hx⟩; have hp := hp.ext hx; refine ops_run nopre rfl ?_; (repeat (first | (refine gGuard ?_; refine h_guard_n rfl nopre rfl ?_) | refine R_ret ?_))
   exact ⟨by rw [cubeOkB_no (fun h => h1 (by have := h.2.1; omega))], hp.x⟩
 ·refine h_call rfl Tryz.func77 (by kernel_rfl) rfl ((inRange_h m 0 4 _).no h0) ?_; rintro _ w ⟨rfl, hx⟩; have hp := hp.ext hx; refine ops_run nopre rfl ?_; (repeat (first | (refine gGuard ?_; refine h_guard_n rfl nopre rfl ?_) | refine R_ret ?_))
  exact ⟨by rw [cubeOkB_no (fun h => h0 h.1)], hp.x⟩
theorem implCoverOk_h (m : Int) (ca : Option Addr) (cc q : Nat) (K : List (Int × Int)) (hq : K.length = q) (w0 : World) (hm : i64R m) (hR : Rd w0 ca 2 eII K) (hK : ∀ i, i < K.length → i64R (K.getD i default).1 ∧ i64R (K.getD i default).2) (hb : q ≤ 1048576) : Ret Tryz.prog 126 [.int .i64 m, .slice ca q cc] w0 (fun v w => v = .bool (coverOkB m K) ∧ Ext w0 w) := by
 subst hq
 refine enter Tryz.S126ok _ _ rfl rfl (by show _ ≤ _; simp only [List.length]; decide) (fun C => ?_); have hp := Hp.nil w0; refine h_run rfl ?_; skip
 by_cases h0 : 0 ≤ m ∧ m ≤ 4
 ·refine h_call rfl Tryz.func77 (by kernel_rfl) rfl ((inRange_h m 0 4 _).yes h0) ?_; rintro _ w ⟨rfl, hx⟩; have hp := hp.ext hx; refine ops_run nopre rfl ?_; (repeat (refine h_guard_y rfl nopre rfl ?_))
  refine h_cond_dec (fun h1 => ?_) (fun h1 => ?_)
  ·refine h_cond_t rfl rfl ?_; (repeat (refine R_ret ?_))
   exact ⟨by rw [coverOkB_no (fun h => by have := h.2.1; omega)], hp.x⟩
  ·refine h_cond_f rfl rfl ?_; skip
   refine h_loop [0, 15, 16, 17] (fun (i : Nat) => [(0, .int .i64 m), (15, .slice ca K.length cc), (16, .int .i64 K.length), (17, .int .i64 (i : Int))])
    (fun i w' => (i ≤ K.length ∧ ∀ c, c ∈ K.take i → cubeOkP m c) ∧ Hp w0 w' []) (fun i => K.length - i) 0 rfl ⟨⟨by omega, fun c hc => by simp at hc⟩, hp⟩ ?_
   clear hp
   rintro i w1 ⟨⟨hi, hall⟩, hp⟩ IH C
   refine h_run rfl ?_; skip
   refine h_cond_dec (fun hlt => ?_) (fun hlt => ?_)
   ·have hlt' : i < K.length := by omega
    have hci := hK i hlt'
    have hne : ca ≠ none := nn_of hp (X := K) (by omega)
    refine h_cond_t rfl rfl ?_; (repeat (refine H_ldEN hp rfl (by omega) rfl rfl ?_))
    (first | refine H_box hp ?_ | refine H_alloc hp rfl ?_); intro w b6 hx hp; refine ops_run nopre rfl ?_; (repeat (first | (refine gLoad ?_; refine H_ldB hp rfl rfl ?_) | (refine gStore ?_; refine U_stBN hp rfl rfl rfl rfl ?_; intro w hp; refine ops_run nopre rfl ?_)))
    by_cases h2 : cubeOkP m (K.getD i default)
    ·refine h_call rfl Tryz.func142 (by kernel_rfl) rfl ((implCubeOk_h m (K.getD i default) _ hm hci).tt (cubeOkB_yes h2)) ?_; rintro _ w ⟨rfl, hx⟩; have hp := hp.ext hx; refine ops_run nopre rfl ?_; skip
     refine h_cond_f rfl rfl ?_; skip
     refine IH (i + 1) _ _ _ (by omega) rfl ⟨⟨by omega, fun c hc => ?_⟩, hp.drop⟩
     rw [take_snoc hlt'] at hc
     rcases List.mem_append.1 hc with hc | hc
     ·exact hall c hc
     ·simp only [List.mem_singleton] at hc
      subst hc
      exact h2
    ·refine h_call rfl Tryz.func142 (by kernel_rfl) rfl ((implCubeOk_h m (K.getD i default) _ hm hci).ff (cubeOkB_no h2)) ?_; rintro _ w ⟨rfl, hx⟩; have hp := hp.ext hx; refine ops_run nopre rfl ?_; skip
     refine h_cond_t rfl rfl ?_; (repeat (refine R_ret ?_))
     exact ⟨by rw [coverOkB_no (fun h => h2 (h.2.2 _ (getD_mem hlt')))], Hp.x hp⟩
   ·obtain rfl : i = K.length := by omega
    refine h_cond_f rfl rfl ?_; (repeat (refine R_ret ?_))
    rw [List.take_length] at hall
    exact ⟨by rw [coverOkB_yes ⟨h0, by omega, hall⟩], hp.x⟩
 ·refine h_call rfl Tryz.func77 (by kernel_rfl) rfl ((inRange_h m 0 4 _).no h0) ?_; rintro _ w ⟨rfl, hx⟩; have hp := hp.ext hx; refine ops_run nopre rfl ?_; (repeat (refine h_guard_n rfl nopre rfl ?_))
  refine h_cond_t rfl rfl ?_; (repeat (refine R_ret ?_))
  exact ⟨by rw [coverOkB_no (fun h => h0 h.1)], hp.x⟩
end Go.Proofs
end
section
namespace Go.Xw
open Go.RowKit
def mapL (to : List Int) (lits : List Int) : List Int := lits.map (litV to)
theorem mapL_len (to lits : List Int) : (mapL to lits).length = lits.length := by simp [mapL]
theorem litV_eq (to : List Int) {l : Int} (h0 : 0 ≤ to.getD (l / 2).toNat default) (h1 : to.getD (l / 2).toNat default ≤ 9223372036854775807) : litV to l = if l % 2 = 0 then to.getD (l / 2).toNat default else notL (to.getD (l / 2).toNat default) := by
 unfold litV
 rw [bits_and_one]
 have : l % 2 = 0 ∨ l % 2 = 1 := by omega
 rcases this with h | h
 ·rw [h, if_pos rfl]; exact xor_zero h0 h1
 ·rw [h, if_neg (by decide)]; rfl
theorem litV_litP {to : List Int} {l k : Int} (h : litP (to.getD (l / 2).toNat default) k) (hk : k ≤ 1000000) : litP (litV to l) k := by
 have h' := h
 unfold litP at h'
 rw [litV_eq to h'.1 (by omega)]
 split
 ·exact h
 ·exact litP_not h hk
theorem litV_congr {to to' : List Int} {l : Int} (h : to.getD (l / 2).toNat default = to'.getD (l / 2).toNat default) : litV to l = litV to' l := by
 unfold litV; rw [h]
theorem pad_get {to : List Int} {m k : Nat} : (to ++ List.replicate m (0 : Int)).getD k default = to.getD k default := by
 simp only [List.getD_eq_getElem?_getD]
 by_cases h : k < to.length
 ·rw [List.getElem?_append_left h]
 ·rw [List.getElem?_append_right (by omega), List.getElem?_eq_none (by omega : to.length ≤ k), List.getElem?_replicate]
  split <;> rfl
theorem litV_pad {to : List Int} {m : Nat} {l : Int} : litV (to ++ List.replicate m 0) l = litV to l := litV_congr pad_get
theorem mapL_pad {to : List Int} {m : Nat} {lits : List Int} : mapL (to ++ List.replicate m 0) lits = mapL to lits := by
 unfold mapL
 exact List.map_congr_left fun l _ => litV_pad
theorem pad_set {to : List Int} {m : Nat} {y : Int} : (to ++ List.replicate (m + 1) (0 : Int)).set to.length y = (to ++ [y]) ++ List.replicate m 0 := row_set to m 0 y
def leafL (n : NetL) : List Int := (List.range (fst_ n)).map fun k => 2 * ((k : Nat) : Int)
theorem leafL_len (n : NetL) : (leafL n).length = fst_ n := by simp [leafL]
theorem leafL_get {n : NetL} {k : Nat} (h : k < fst_ n) : (leafL n).getD k default = 2 * (k : Int) := range_get (f := fun k => 2 * ((k : Nat) : Int)) h
def addC (f : Int) (A : List (Int × Int)) (a b : Int) : List (Int × Int) × Int :=
 if a = 0 ∨ b = 0 ∨ notL a = b then (A, 0)
 else if a = 1 ∨ a = b then (A, b)
 else if b = 1 then (A, a)
 else if A.idxOf (min a b, max a b) < A.length then (A, 2 * (f + (A.idxOf (min a b, max a b) : Nat)))
 else if 300 ≤ A.length then (A, -1)
 else (A ++ [(min a b, max a b)], 2 * (f + A.length))
theorem addAndL_C (n : NetL) (a b : Int) : addAndL n a b = ({ n with ands := (addC (firstAndL n) n.ands a b).1 }, (addC (firstAndL n) n.ands a b).2) := by
 have e : nodesL n = firstAndL n + n.ands.length := rfl
 unfold addAndL addC
 rw [e]
 repeat' split
 all_goals rfl
structure Bld (f : Int) (A : List (Int × Int)) (to : List Int) : Prop where
 f1 : 1 ≤ f ∧ f ≤ 33
 alen : A.length ≤ 300
 aok : ∀ i, i < A.length → litP (A.getD i default).1 (f + i) ∧ litP (A.getD i default).2 (f + i)
 tok : ∀ i, i < to.length → litP (to.getD i default) (f + A.length)
theorem Bld.lit {f : Int} {A : List (Int × Int)} {to : List Int} (h : Bld f A to) {l : Int} (hl : (l / 2).toNat < to.length) : litP (litV to l) (f + A.length) :=
 litV_litP (h.tok _ hl) (by have := h.f1; have := h.alen; omega)
theorem Bld.snoc {f : Int} {A : List (Int × Int)} {to : List Int} (h : Bld f A to) {y : Int} (hy : litP y (f + A.length)) : Bld f A (to ++ [y]) :=
 ⟨h.f1, h.alen, h.aok, fun i hi => by
  simp at hi
  by_cases hi2 : i < to.length
  ·rw [snoc_lt hi2]; exact h.tok i hi2
  ·obtain rfl : i = to.length := by omega
   rw [snoc_eq]; exact hy⟩
theorem Bld.and_ {f : Int} {A : List (Int × Int)} {to : List Int} (h : Bld f A to) {x : Int × Int} (h1 : litP x.1 (f + A.length)) (h2 : litP x.2 (f + A.length)) (hl : A.length < 300) : Bld f (A ++ [x]) to := by
 refine ⟨h.f1, by simp; omega, fun i hi => ?_, fun i hi => (h.tok i hi).mono (by simp; omega)⟩
 simp at hi
 by_cases hi2 : i < A.length
 ·rw [snoc_lt hi2]; exact h.aok i hi2
 ·obtain rfl : i = A.length := by omega
  rw [snoc_eq]; exact ⟨h1, h2⟩
theorem addC_cases (f : Int) (A : List (Int × Int)) (a b : Int) : (addC f A a b).1 = A ∨ ((addC f A a b).1 = A ++ [(min a b, max a b)] ∧ A.length < 300) := by
 unfold addC
 (repeat' split) <;> first | exact .inl rfl | (exact .inr ⟨rfl, by omega⟩)
theorem addC_len (f : Int) (A : List (Int × Int)) (a b : Int) : A.length ≤ (addC f A a b).1.length ∧ (addC f A a b).1.length ≤ A.length + 1 := by
 rcases addC_cases f A a b with h | ⟨h, _⟩ <;> rw [h] <;> simp
theorem Bld.add {f : Int} {A : List (Int × Int)} {to : List Int} (h : Bld f A to) {a b : Int} (ha : litP a (f + A.length)) (hb : litP b (f + A.length)) : Bld f (addC f A a b).1 to := by
 rcases addC_cases f A a b with e | ⟨e, hl⟩
 ·rw [e]; exact h
 ·rw [e]
  refine h.and_ ?_ ?_ hl <;> unfold litP at * <;> dsimp only <;> omega
theorem Bld.addLit {f : Int} {A : List (Int × Int)} {to : List Int} (h : Bld f A to) {a b : Int} (ha : litP a (f + A.length)) (hb : litP b (f + A.length)) : litP (addC f A a b).2 (f + (addC f A a b).1.length) ∨ (addC f A a b = (A, -1) ∧ 300 ≤ A.length) := by
 have hc := h.f1
 unfold addC
 unfold litP at *
 repeat' split
 all_goals first | (right; exact ⟨rfl, by assumption⟩) | (left; dsimp only; first | omega | (simp only [List.length_append, List.length_cons, List.length_nil]; omega))
theorem Bld.step {f : Int} {A : List (Int × Int)} {to : List Int} (h : Bld f A to) {a b : Int} (ha : litP a (f + A.length)) (hb : litP b (f + A.length)) (h0 : 0 ≤ (addC f A a b).2) : Bld f (addC f A a b).1 (to ++ [(addC f A a b).2]) := by
 refine (h.add ha hb).snoc ?_
 rcases h.addLit ha hb with h1 | ⟨h1, _⟩
 ·exact h1
 ·rw [h1] at h0; exact absurd h0 (by dsimp only; omega)
def begL (n : NetL) (A : List (Int × Int)) : NetL := ⟨n.inputs, n.seqs.map fun s => ⟨s.kind, s.init, []⟩, A, []⟩
def zerL (n : NetL) (A : List (Int × Int)) : NetL := ⟨n.inputs, n.seqs.map fun s => ⟨s.kind, s.init, List.replicate s.ins.length 0⟩, A, []⟩
def finN (n : NetL) (A : List (Int × Int)) (to : List Int) : NetL := ⟨n.inputs, n.seqs.map fun s => ⟨s.kind, s.init, mapL to s.ins⟩, A, mapL to n.outs⟩
theorem firstAndL_zer (n : NetL) (A : List (Int × Int)) : firstAndL (zerL n A) = firstAndL n := by unfold firstAndL zerL; simp
theorem firstAndL_fin (n : NetL) (A : List (Int × Int)) (to : List Int) : firstAndL (finN n A to) = firstAndL n := by unfold firstAndL finN; simp
theorem map_getD {α β : Type} [Inhabited α] [Inhabited β] {f : α → β} {X : List α} {i : Nat} (h : i < X.length) : (X.map f).getD i default = f (X.getD i default) := by
 simp [List.getD_eq_getElem?_getD, h]
theorem NetOkP.mk' {n : NetL} (h1 : sizeOk n) (h2 : ∀ s, s ∈ n.seqs → seqOkP s) (h3 : ∀ o, o ∈ n.outs → litP o (nodesL n)) (h4 : ∀ s, s ∈ n.seqs → ∀ l, l ∈ s.ins → litP l (nodesL n))
  (h5 : ∀ i, i < n.ands.length → litP (n.ands.getD i default).1 (firstAndL n + i) ∧ litP (n.ands.getD i default).2 (firstAndL n + i)) : NetOkP n :=
 ⟨h1, mem_iff_getD.1 h2, (mem_iff_getD (p := fun x => litP x (nodesL n))).1 (by
  intro x hx
  rw [rootsL_eq, List.mem_append, List.mem_flatMap] at hx
  rcases hx with hx | ⟨s, hs, hx⟩
  ·exact h3 x hx
  ·exact h4 s hs x hx), h5⟩
theorem NetOkP.sq {n : NetL} (h : NetOkP n) : ∀ s, s ∈ n.seqs → seqOkP s := mem_iff_getD.2 h.seqs
theorem zerL_ok {n : NetL} (h : NetOkP n) {A : List (Int × Int)} {to : List Int} (hb : Bld (firstAndL n) A to) : NetOkP (zerL n A) := by
 obtain ⟨s1, s2, s3, s4⟩ := h.size
 refine .mk' ⟨s1, by simp [zerL]; omega, hb.alen, by simp [zerL]⟩ (fun s hs => ?_) (fun o ho => by simp [zerL] at ho) (fun s hs l hl => ?_) (fun i hi => by rw [firstAndL_zer]; exact hb.aok i hi)
 ·obtain ⟨t, ht, rfl⟩ := List.mem_map.1 hs
  have := h.sq t ht
  unfold seqOkP at this ⊢
  simpa using this
 ·obtain ⟨t, ht, rfl⟩ := List.mem_map.1 hs
  simp at hl
  obtain ⟨_, rfl⟩ := hl
  have : nodesL (zerL n A) = firstAndL n + A.length := by have := firstAndL_zer n A; unfold firstAndL at this; unfold nodesL; rw [this]; rfl
  rw [this]
  have := hb.f1
  unfold litP; omega
theorem finN_nodes (n : NetL) (A : List (Int × Int)) (to : List Int) : nodesL (finN n A to) = firstAndL n + A.length := by
 have := firstAndL_fin n A to; unfold firstAndL at this; unfold nodesL; rw [this]; rfl
theorem finN_ok {n : NetL} (h : NetOkP n) {A : List (Int × Int)} {to : List Int} (hb : Bld (firstAndL n) A to) (ht : nds n ≤ to.length) : NetOkP (finN n A to) := by
 obtain ⟨s1, s2, s3, s4⟩ := h.size
 have hn := h.nums
 have hl : ∀ l, litP l (nodesL n) → litP (litV to l) (firstAndL n + A.length) := fun l hl => hb.lit (by have := hl.nat hn; omega)
 refine .mk' ⟨s1, by simp [finN]; omega, hb.alen, by simp [finN, mapL]; omega⟩ (fun s hs => ?_) (fun o ho => ?_) (fun s hs l hm => ?_) (fun i hi => by rw [firstAndL_fin]; exact hb.aok i hi)
 ·obtain ⟨t, ht, rfl⟩ := List.mem_map.1 hs
  have := h.sq t ht
  unfold seqOkP at this ⊢
  simpa [mapL] using this
 ·rw [finN_nodes]
  obtain ⟨l, hl1, rfl⟩ := List.mem_map.1 ho
  exact hl l (h.out l hl1)
 ·rw [finN_nodes]
  obtain ⟨t, ht, rfl⟩ := List.mem_map.1 hs
  obtain ⟨l, hl1, rfl⟩ := List.mem_map.1 hm
  exact hl l (h.inp ht l hl1)
theorem Bld.leaf {n : NetL} (h : NetOkP n) : Bld (firstAndL n) [] (leafL n) := by
 have hc := h.count
 have hs := h.size
 have h2 := h.nums.f2
 unfold sizeOk at hs
 refine ⟨⟨hc.1, by unfold firstAndL; omega⟩, by simp, fun i hi => by simp at hi, fun i hi => ?_⟩
 rw [leafL_len] at hi
 rw [leafL_get hi]
 unfold litP
 simp
 omega
theorem NetOkP.andP {n : NetL} (h : NetOkP n) {i : Nat} (hi : i < n.ands.length) : litP (n.ands.getD i default).1 (firstAndL n + i) ∧ litP (n.ands.getD i default).2 (firstAndL n + i) := h.ands i hi
def swTo (n : NetL) (K : List Bool) : Nat → List (Int × Int) × List Int
 | 0 => ([], leafL n)
 | i + 1 => if K.getD (fst_ n + i) default = true then ((swTo n K i).1 ++ [(litV (swTo n K i).2 (n.ands.getD i default).1, litV (swTo n K i).2 (n.ands.getD i default).2)], (swTo n K i).2 ++ [2 * (firstAndL n + (swTo n K i).1.length)])
  else ((swTo n K i).1, (swTo n K i).2 ++ [0])
noncomputable def sweepL (n : NetL) : NetL := finN n (swTo n (reachedL n) n.ands.length).1 (swTo n (reachedL n) n.ands.length).2
theorem swTo_len (n : NetL) (K : List Bool) : ∀ i, (swTo n K i).1.length ≤ i ∧ (swTo n K i).2.length = fst_ n + i
 | 0 => by simp [swTo, leafL_len]
 | i + 1 => by
  have := swTo_len n K i
  unfold swTo
  split <;> simp <;> omega
theorem swTo_ok {n : NetL} (h : NetOkP n) (K : List Bool) : ∀ i, i ≤ n.ands.length → Bld (firstAndL n) (swTo n K i).1 (swTo n K i).2
 | 0, _ => .leaf h
 | i + 1, hi => by
  have ih := swTo_ok h K i (by omega)
  have hl := swTo_len n K i
  have hs := h.size
  have hn := h.nums
  have f2 := hn.f2
  unfold sizeOk at hs
  obtain ⟨q1, q2⟩ := h.andP (show i < n.ands.length by omega)
  unfold litP at q1 q2
  unfold swTo
  split
  ·refine (ih.and_ (ih.lit (by omega)) (ih.lit (by omega)) (by omega)).snoc ?_
   have := ih.f1
   unfold litP; simp; omega
  ·refine ih.snoc ?_
   have := ih.f1
   unfold litP; omega
theorem sweepL_ok {n : NetL} (h : NetOkP n) : NetOkP (sweepL n) := by
 have hl := swTo_len n (reachedL n) n.ands.length
 have := h.nums.n1
 exact finN_ok h (swTo_ok h _ _ (Nat.le_refl _)) (by omega)
def haTo (n : NetL) : Nat → List (Int × Int) × List Int
 | 0 => ([], leafL n)
 | i + 1 => ((addC (firstAndL n) (haTo n i).1 (litV (haTo n i).2 (n.ands.getD i default).1) (litV (haTo n i).2 (n.ands.getD i default).2)).1,
     (haTo n i).2 ++ [(addC (firstAndL n) (haTo n i).1 (litV (haTo n i).2 (n.ands.getD i default).1) (litV (haTo n i).2 (n.ands.getD i default).2)).2])
theorem haTo_len (n : NetL) : ∀ i, (haTo n i).1.length ≤ i ∧ (haTo n i).2.length = fst_ n + i
 | 0 => by simp [haTo, leafL_len]
 | i + 1 => by
  have := haTo_len n i
  have h2 := addC_len (firstAndL n) (haTo n i).1 (litV (haTo n i).2 (n.ands.getD i default).1) (litV (haTo n i).2 (n.ands.getD i default).2)
  unfold haTo
  simp only [List.length_append, List.length_cons, List.length_nil]
  omega
theorem haTo_lits {n : NetL} (h : NetOkP n) {i : Nat} (hi : i < n.ands.length) (ih : Bld (firstAndL n) (haTo n i).1 (haTo n i).2) :
  litP (litV (haTo n i).2 (n.ands.getD i default).1) (firstAndL n + (haTo n i).1.length) ∧ litP (litV (haTo n i).2 (n.ands.getD i default).2) (firstAndL n + (haTo n i).1.length) := by
 have hl := haTo_len n i
 have f2 := h.nums.f2
 obtain ⟨q1, q2⟩ := h.andP hi
 unfold litP at q1 q2
 exact ⟨ih.lit (by omega), ih.lit (by omega)⟩
theorem haTo_ok {n : NetL} (h : NetOkP n) : ∀ i, i ≤ n.ands.length → Bld (firstAndL n) (haTo n i).1 (haTo n i).2
 | 0, _ => .leaf h
 | i + 1, hi => by
  have ih := haTo_ok h i (by omega)
  have hl := haTo_len n i
  have hs := h.size
  unfold sizeOk at hs
  obtain ⟨l1, l2⟩ := haTo_lits h (by omega) ih
  refine ih.step l1 l2 ?_
  rcases ih.addLit l1 l2 with h1 | ⟨_, h1⟩
  ·exact h1.1
  ·omega
def preL (n : NetL) : NetL := finN n (haTo n n.ands.length).1 (haTo n n.ands.length).2
noncomputable def hashL (n : NetL) : NetL := sweepL (preL n)
theorem preL_ok {n : NetL} (h : NetOkP n) : NetOkP (preL n) := by
 have hl := haTo_len n n.ands.length
 have := h.nums.n1
 exact finN_ok h (haTo_ok h _ (Nat.le_refl _)) (by omega)
theorem hashL_ok {n : NetL} (h : NetOkP n) : NetOkP (hashL n) := sweepL_ok (preL_ok h)
def nilN : NetL := ⟨0, [], [], []⟩
noncomputable def ifNet (n : NetL) (r : NetL) : NetL := if netOkB n = true then r else nilN
theorem ifNet_yes {n r : NetL} (h : NetOkP n) : ifNet n r = r := by rw [ifNet, if_pos (netOkB_iff.2 h)]
theorem ifNet_no {n r : NetL} (h : ¬ NetOkP n) : ifNet n r = nilN := by rw [ifNet, if_neg (fun hh => h (netOkB_iff.1 hh))]
end Go.Xw
end
