/- Texts that belong together; each under its stated conditions. -/
import Derived.Test.YtiepmliokblkjaaGreatAdd
import Derived.Test.YtiepmliokblkjaaGreatExprSim
import Derived.Test.YtiepmliokblkjaaGreatModR
set_option linter.all false
section
namespace Go.Proofs
open Go.Xw
set_option maxRecDepth 100000
set_option maxHeartbeats 1000000
attribute [local irreducible] Holds elemAddr
theorem addXor_h (y : NetA) (p : Nat) (u v : Int) {w0 w : World} {L : List Res} (hp : Hp w0 w (rB p 33 y.cs :: rO 120 2 eII y.aa y.ac y.ands :: L)) (hok : NetOkP y.n) (hu : litP u (nodesL y.n)) (hv : litP v (nodesL y.n)) :
  Ret Tryz.prog 154 [.pointer (some ⟨p, 0, none⟩), .int .i64 u, .int .i64 v] w (fun r w' => ∃ aa ac, r = .int .i64 (addXorL y.n u v).2 ∧ Hp w0 w' (rB p 33 (y.wA aa ac (addXorL y.n u v).1.ands).cs :: rO 120 2 eII aa ac (addXorL y.n u v).1.ands :: L)) := by
 have hc0 := hok.count
 obtain ⟨a, ea⟩ : ∃ a, a = u := ⟨_, rfl⟩
 obtain ⟨b, eb⟩ : ∃ b, b = notL v := ⟨_, rfl⟩
 obtain ⟨c, ec⟩ : ∃ c, c = notL u := ⟨_, rfl⟩
 obtain ⟨d, ed⟩ : ∃ d, d = v := ⟨_, rfl⟩
 have e : addXorL y.n u v = addTwoL y.n a b c d := by rw [ea, eb, ec, ed]; rfl
 have ha : litP a (nodesL y.n) := by rw [ea]; exact hu
 have hb : litP b (nodesL y.n) := by rw [eb]; exact litP_not hv (by omega)
 have hcc : litP c (nodesL y.n) := by rw [ec]; exact litP_not hu (by omega)
 have hd : litP d (nodesL y.n) := by rw [ed]; exact hv
 have eb' : bits .xor .i64 v 1 = b := eb.symm
 have ec' : bits .xor .i64 a 1 = c := by rw [ea]; exact ec.symm
 rw [e]
 have hc := hok.count
 have hs := hok.size'
 have hya : y.n.ands = y.ands := rfl
 have gA := good_and hok ha hb
 have gB := good_and gA.ok (hcc.mono gA.nodes) (hd.mono gA.nodes)
 have gAb := gA.b
 have gBb := gB.b
 have gAc := gA.ok.count
 have gBc := gB.ok.count
 have gAs := gA.ok.size
 have gBs := gB.ok.size
 unfold sizeOk at gAs gBs
 have e0 : addTwoL y.n a b c d = if (addAndL y.n a b).2 < 0 then ((addAndL y.n a b).1, -1)
   else if (addAndL (addAndL y.n a b).1 c d).2 < 0 then ((addAndL (addAndL y.n a b).1 c d).1, -1)
   else addOrL (addAndL (addAndL y.n a b).1 c d).1 (addAndL y.n a b).2 (addAndL (addAndL y.n a b).1 c d).2 := rfl
 have ha' := ha
 have hb' := hb
 have hc' := hcc
 have hd' := hd
 unfold litP at ha' hb' hc' hd'
 refine enter Tryz.S154ok _ _ rfl rfl (by show _ ≤ _; simp only [List.length]; decide) (fun C => ?_); refine h_run rfl ?_; skip
 refine gCall ?_
 rw [eb', ← ea]
 refine h_call rfl Tryz.func106 (by kernel_rfl) rfl (addAnd_h y p a b hp hok.b (by omega) (by omega) (by omega)) ?_; rintro _ w ⟨aa, ac, rfl, hp⟩; refine ops_run nopre rfl ?_; skip
 have y1n := NetA.wA_n y aa ac gA.eq
 refine h_cond_dec (fun h0 => ?_) (fun h0 => ?_)
 ·refine h_cond_t rfl rfl ?_; (repeat (refine R_ret ?_))
  rw [e0, if_pos h0]
  exact ⟨aa, ac, rfl, hp⟩
 ·refine h_cond_f rfl rfl ?_; skip
  refine gCall ?_
  rw [ec', ← ed]
  refine h_call rfl Tryz.func106 (by kernel_rfl) rfl (addAnd_h (y.wA aa ac (addAndL y.n a b).1.ands) p c d hp (by have := gA.ok; rw [← y1n] at this; exact this.b) (by show (addAndL y.n a b).1.ands.length ≤ _; omega) (by omega) (by omega)) ?_; rintro _ w ⟨aa2, ac2, rfl, hp⟩; refine ops_run nopre rfl ?_; skip
  rw [y1n] at hp ⊢
  skip
  have y2n : ((y.wA aa ac (addAndL y.n a b).1.ands).wA aa2 ac2 (addAndL (addAndL y.n a b).1 c d).1.ands).n = (addAndL (addAndL y.n a b).1 c d).1 := NetA.wA_n _ aa2 ac2 (by rw [y1n]; exact gB.eq)
  refine h_cond_dec (fun h1 => ?_) (fun h1 => ?_)
  ·refine h_cond_t rfl rfl ?_; (repeat (refine R_ret ?_))
   rw [e0, if_neg h0, if_pos h1]
   exact ⟨aa2, ac2, rfl, hp⟩
  ·refine h_cond_f rfl rfl ?_; skip
   have hok2 := gB.ok
   have hl1 := (gA.litP h0).mono gB.nodes
   have hl2 := gB.litP h1
   rw [← y2n] at hok2 hl1 hl2
   refine h_call rfl Tryz.func153 (by kernel_rfl) rfl (addOr_h ((y.wA aa ac (addAndL y.n a b).1.ands).wA aa2 ac2 (addAndL (addAndL y.n a b).1 c d).1.ands) p (addAndL y.n a b).2 _ hp hok2 hl1 (by rw [y2n] at hl2 ⊢; exact hl2)) ?_; rintro _ w ⟨aa3, ac3, rfl, hp⟩; refine ops_run nopre rfl ?_; (repeat (refine R_ret ?_))
   rw [e0, if_neg h0, if_neg h1]
   rw [y2n] at hp ⊢
   skip
   exact ⟨aa3, ac3, rfl, hp⟩
theorem addMux_h (y : NetA) (p : Nat) (s u v : Int) {w0 w : World} {L : List Res} (hp : Hp w0 w (rB p 33 y.cs :: rO 120 2 eII y.aa y.ac y.ands :: L)) (hok : NetOkP y.n) (hs0 : litP s (nodesL y.n)) (hu : litP u (nodesL y.n)) (hv : litP v (nodesL y.n)) :
  Ret Tryz.prog 156 [.pointer (some ⟨p, 0, none⟩), .int .i64 s, .int .i64 u, .int .i64 v] w (fun r w' => ∃ aa ac, r = .int .i64 (addMuxL y.n s u v).2 ∧ Hp w0 w' (rB p 33 (y.wA aa ac (addMuxL y.n s u v).1.ands).cs :: rO 120 2 eII aa ac (addMuxL y.n s u v).1.ands :: L)) := by
 have hc0 := hok.count
 obtain ⟨a, ea⟩ : ∃ a, a = s := ⟨_, rfl⟩
 obtain ⟨b, eb⟩ : ∃ b, b = u := ⟨_, rfl⟩
 obtain ⟨c, ec⟩ : ∃ c, c = notL s := ⟨_, rfl⟩
 obtain ⟨d, ed⟩ : ∃ d, d = v := ⟨_, rfl⟩
 have e : addMuxL y.n s u v = addTwoL y.n a b c d := by rw [ea, eb, ec, ed]; rfl
 have ha : litP a (nodesL y.n) := by rw [ea]; exact hs0
 have hb : litP b (nodesL y.n) := by rw [eb]; exact hu
 have hcc : litP c (nodesL y.n) := by rw [ec]; exact litP_not hs0 (by omega)
 have hd : litP d (nodesL y.n) := by rw [ed]; exact hv
 have ec' : bits .xor .i64 a 1 = c := by rw [ea]; exact ec.symm
 rw [e]
 have hc := hok.count
 have hs := hok.size'
 have hya : y.n.ands = y.ands := rfl
 have gA := good_and hok ha hb
 have gB := good_and gA.ok (hcc.mono gA.nodes) (hd.mono gA.nodes)
 have gAb := gA.b
 have gBb := gB.b
 have gAc := gA.ok.count
 have gBc := gB.ok.count
 have gAs := gA.ok.size
 have gBs := gB.ok.size
 unfold sizeOk at gAs gBs
 have e0 : addTwoL y.n a b c d = if (addAndL y.n a b).2 < 0 then ((addAndL y.n a b).1, -1)
   else if (addAndL (addAndL y.n a b).1 c d).2 < 0 then ((addAndL (addAndL y.n a b).1 c d).1, -1)
   else addOrL (addAndL (addAndL y.n a b).1 c d).1 (addAndL y.n a b).2 (addAndL (addAndL y.n a b).1 c d).2 := rfl
 have ha' := ha
 have hb' := hb
 have hc' := hcc
 have hd' := hd
 unfold litP at ha' hb' hc' hd'
 refine enter Tryz.S156ok _ _ rfl rfl (by show _ ≤ _; simp only [List.length]; decide) (fun C => ?_); refine h_run rfl ?_; skip
 refine gCall ?_
 rw [← ea, ← eb]
 refine h_call rfl Tryz.func106 (by kernel_rfl) rfl (addAnd_h y p a b hp hok.b (by omega) (by omega) (by omega)) ?_; rintro _ w ⟨aa, ac, rfl, hp⟩; refine ops_run nopre rfl ?_; skip
 have y1n := NetA.wA_n y aa ac gA.eq
 refine h_cond_dec (fun h0 => ?_) (fun h0 => ?_)
 ·refine h_cond_t rfl rfl ?_; (repeat (refine R_ret ?_))
  rw [e0, if_pos h0]
  exact ⟨aa, ac, rfl, hp⟩
 ·refine h_cond_f rfl rfl ?_; skip
  refine gCall ?_
  rw [ec', ← ed]
  refine h_call rfl Tryz.func106 (by kernel_rfl) rfl (addAnd_h (y.wA aa ac (addAndL y.n a b).1.ands) p c d hp (by have := gA.ok; rw [← y1n] at this; exact this.b) (by show (addAndL y.n a b).1.ands.length ≤ _; omega) (by omega) (by omega)) ?_; rintro _ w ⟨aa2, ac2, rfl, hp⟩; refine ops_run nopre rfl ?_; skip
  rw [y1n] at hp ⊢
  skip
  have y2n : ((y.wA aa ac (addAndL y.n a b).1.ands).wA aa2 ac2 (addAndL (addAndL y.n a b).1 c d).1.ands).n = (addAndL (addAndL y.n a b).1 c d).1 := NetA.wA_n _ aa2 ac2 (by rw [y1n]; exact gB.eq)
  refine h_cond_dec (fun h1 => ?_) (fun h1 => ?_)
  ·refine h_cond_t rfl rfl ?_; (repeat (refine R_ret ?_))
   rw [e0, if_neg h0, if_pos h1]
   exact ⟨aa2, ac2, rfl, hp⟩
  ·refine h_cond_f rfl rfl ?_; skip
   have hok2 := gB.ok
   have hl1 := (gA.litP h0).mono gB.nodes
   have hl2 := gB.litP h1
   rw [← y2n] at hok2 hl1 hl2
   refine h_call rfl Tryz.func153 (by kernel_rfl) rfl (addOr_h ((y.wA aa ac (addAndL y.n a b).1.ands).wA aa2 ac2 (addAndL (addAndL y.n a b).1 c d).1.ands) p (addAndL y.n a b).2 _ hp hok2 hl1 (by rw [y2n] at hl2 ⊢; exact hl2)) ?_; rintro _ w ⟨aa3, ac3, rfl, hp⟩; refine ops_run nopre rfl ?_; (repeat (refine R_ret ?_))
   rw [e0, if_neg h0, if_neg h1]
   rw [y2n] at hp ⊢
   skip
   exact ⟨aa3, ac3, rfl, hp⟩
theorem addF_W {n : NetL} {lits : List Int} {r : NetL × Int} (h : NetW n) (g : NetOkP n → (∀ l, l ∈ lits → litP l (nodesL n)) → GoodN n r) : NetW (addF n lits r).1 := by
 by_cases hh : NetOkP n ∧ ∀ l, l ∈ lits → litP l (nodesL n)
 ·by_cases h2 : r.2 < 0
  ·rw [addF_neg hh h2]; exact h
  ·rw [addF_yes hh h2]; exact (g hh.1 hh.2).ok.W
 ·rw [addF_no hh]; exact h
theorem wAddAnd {n : NetL} (h : NetW n) (a b : Int) : NetW (addF n [a, b] (addAndL n a b)).1 := addF_W h fun h hl => good_and h (hl a (by simp)) (hl b (by simp))
theorem addF_R {n : NetL} {a b : Int} : i64R (addF n [a, b] (addAndL n a b)).2 := by
 by_cases hh : NetOkP n ∧ ∀ l, l ∈ [a, b] → litP l (nodesL n)
 ·have g := (good_and hh.1 (hh.2 a (by simp)) (hh.2 b (by simp))).b
  by_cases h2 : (addAndL n a b).2 < 0
  ·rw [addF_neg hh h2]; unfold i64R; dsimp only; omega
  ·rw [addF_yes hh h2]; unfold i64R; omega
 ·rw [addF_no hh]; unfold i64R; dsimp only; omega
noncomputable def joinF (n m : NetL) (p q : Int) : NetL × Int := if (addF m [p, q] (addOrL m p q)).2 < 0 then (n, -1) else addF m [p, q] (addOrL m p q)
theorem joinF_no {n m : NetL} {p q : Int} (h : p < 0 ∨ q < 0) : joinF n m p q = (n, -1) := by
 unfold joinF
 rw [addF_no (fun hh => by have h1 := two_lits.1 hh.2; unfold litP at h1; omega)]
 rfl
noncomputable def twoF (n : NetL) (a b c d : Int) : NetL × Int :=
 joinF n (addF (addF n [a, b] (addAndL n a b)).1 [c, d] (addAndL (addF n [a, b] (addAndL n a b)).1 c d)).1 (addF n [a, b] (addAndL n a b)).2 (addF (addF n [a, b] (addAndL n a b)).1 [c, d] (addAndL (addF n [a, b] (addAndL n a b)).1 c d)).2
theorem twoF_yes {n : NetL} {a b c d : Int} (hok : NetOkP n) (ha : litP a (nodesL n)) (hb : litP b (nodesL n)) (hc : litP c (nodesL n)) (hd : litP d (nodesL n)) : twoF n a b c d = finL n (addTwoL n a b c d) := by
 have gA := good_and hok ha hb
 have gB := good_and gA.ok (hc.mono gA.nodes) (hd.mono gA.nodes)
 unfold twoF
 by_cases h0 : (addAndL n a b).2 < 0
 ·rw [addF_neg ⟨hok, two_lits.2 ⟨ha, hb⟩⟩ h0, joinF_no (.inl (by dsimp only; omega))]
  unfold addTwoL finL
  rw [if_pos h0]; rfl
 ·rw [addF_yes ⟨hok, two_lits.2 ⟨ha, hb⟩⟩ h0]
  by_cases h1 : (addAndL (addAndL n a b).1 c d).2 < 0
  ·rw [addF_neg ⟨gA.ok, two_lits.2 ⟨hc.mono gA.nodes, hd.mono gA.nodes⟩⟩ h1, joinF_no (.inr (by dsimp only; omega))]
   unfold addTwoL finL
   rw [if_neg h0, if_pos h1]; rfl
  ·rw [addF_yes ⟨gA.ok, two_lits.2 ⟨hc.mono gA.nodes, hd.mono gA.nodes⟩⟩ h1]
   unfold addTwoL finL joinF
   rw [if_neg h0, if_neg h1]
   have hv : NetOkP (addAndL (addAndL n a b).1 c d).1 ∧ ∀ l, l ∈ [(addAndL n a b).2, (addAndL (addAndL n a b).1 c d).2] → litP l (nodesL (addAndL (addAndL n a b).1 c d).1) := ⟨gB.ok, two_lits.2 ⟨(gA.litP h0).mono gB.nodes, gB.litP h1⟩⟩
   by_cases h2 : (addOrL (addAndL (addAndL n a b).1 c d).1 (addAndL n a b).2 (addAndL (addAndL n a b).1 c d).2).2 < 0
   ·rw [addF_neg hv h2, if_pos h2]; rfl
   ·rw [addF_yes hv h2, if_neg h2]
theorem twoF_no {n : NetL} {a b c d : Int} (h : ¬ (NetOkP n ∧ litP a (nodesL n) ∧ litP b (nodesL n))) : twoF n a b c d = (n, -1) := by
 unfold twoF
 rw [addF_no (fun hh => h ⟨hh.1, two_lits.1 hh.2⟩)]
 exact joinF_no (.inl (by dsimp only; omega))
theorem addXor_two {n : NetL} {a b : Int} (ha : i64R a) (hb : i64R b) : addF n [a, b] (addXorL n a b) = twoF n a (lNot b) (lNot a) b := by
 by_cases hh : NetOkP n ∧ ∀ l, l ∈ [a, b] → litP l (nodesL n)
 ·obtain ⟨la, lb⟩ := two_lits.1 hh.2
  have hc := hh.1.count
  rw [lNot_yes la, lNot_yes lb, twoF_yes hh.1 la (litP_not lb (by omega)) (litP_not la (by omega)) lb]
  unfold addF addXorL
  rw [if_pos hh]
 ·rw [addF_no hh, twoF_no (fun h => hh ⟨h.1, two_lits.2 ⟨h.2.1, (lNot_lit hb).1 h.2.2⟩⟩)]
theorem addMux_two {n : NetL} {s a b : Int} (hok : NetOkP n) (hs : litP s (nodesL n)) (ha : litP a (nodesL n)) (hb : litP b (nodesL n)) : addF n [s, a, b] (addMuxL n s a b) = twoF n s a (lNot s) b := by
 have hc := hok.count
 rw [lNot_yes hs, twoF_yes hok hs ha (litP_not hs (by omega)) hb]
 unfold addF addMuxL
 rw [if_pos ⟨hok, by simp [hs, ha, hb]⟩]
theorem l10Join_h (x m : NetA) (p q : Int) (w0 : World) (hX : NetR w0 x) (hM : NetR w0 m) (hS : NetS x.n) (hSm : NetS m.n) (hWm : NetW m.n) (hp0 : i64R p) (hq0 : i64R q) :
  Ret Tryz.prog 175 [x.v, m.v, .int .i64 p, .int .i64 q] w0 (fun v w => ∃ y, (y.n = (joinF x.n m.n p q).1 ∧ v = .tuple ⟨[y.v, .int .i64 (joinF x.n m.n p q).2]⟩) ∧ Hp w0 w [rNet y]) := by
 refine enter Tryz.S175ok _ _ rfl rfl (by show _ ≤ _; simp only [List.length]; decide) (fun C => ?_); have hp := Hp.nil w0; refine h_run rfl ?_; skip; (first | refine H_box hp ?_ | refine H_alloc hp rfl ?_); intro w b4 hx hp; refine ops_run nopre rfl ?_; skip; (first | refine H_box hp ?_ | refine H_alloc hp rfl ?_); intro w b5 hx hp; refine ops_run nopre rfl ?_; skip; (first | refine H_box hp ?_ | refine H_alloc hp rfl ?_); intro w b8 hx hp; refine ops_run nopre rfl ?_; (repeat (refine H_ldB hp rfl rfl ?_))
 refine h_call rfl Tryz.func144 (by kernel_rfl) rfl (specAddOr_x m p q _ hp.net hSm hWm hp0 hq0) ?_; rintro _ w ⟨y, ⟨hy, rfl⟩, hq⟩; have hx := hq.x; have hp := hp.call1 hq; refine ops_run nopre rfl ?_; skip
 (first | refine H_box hp ?_ | refine H_alloc hp rfl ?_); intro w b10 hx hp; refine ops_run nopre rfl ?_; (repeat (refine U_stBN hp rfl rfl rfl rfl ?_; intro w hp; refine ops_run nopre rfl ?_))
 refine h_cond_dec (fun h0 => ?_) (fun h0 => ?_)
 ·refine h_cond_t rfl rfl ?_; (repeat (refine H_ldB hp rfl rfl ?_))
  refine h_call rfl Tryz.func80 (by kernel_rfl) rfl (specCopyNet_h x _ hp.net hS) ?_; rintro _ w ⟨z, ⟨hz, rfl⟩, hq⟩; have hx := hq.x; have hp := hp.call1 hq; refine ops_run nopre rfl ?_; (repeat (first | (refine gStore ?_; refine U_stBN hp rfl rfl rfl rfl ?_; intro w hp; refine ops_run nopre rfl ?_) | (refine gRetc ?_; refine R_ret2v hp rfl ?_)))
  unfold joinF
  rw [if_pos h0]
  exact ⟨z, ⟨hz, rfl⟩, hp.sub (by simp)⟩
 ·refine h_cond_f rfl rfl ?_; (repeat (first | (refine gLoad ?_; refine H_ldB hp rfl rfl ?_) | (refine gStore ?_; refine U_stBN hp rfl rfl rfl rfl ?_; intro w hp; refine ops_run nopre rfl ?_) | (refine gRetc ?_; refine R_ret2v hp rfl ?_)))
  unfold joinF
  rw [if_neg h0]
  exact ⟨y, ⟨hy, rfl⟩, hp.sub (by simp)⟩
theorem specAddXor_x (x : NetA) (a b : Int) (w0 : World) (hX : NetR w0 x) (hS : NetS x.n) (hW : NetW x.n) (ha : i64R a) (hb : i64R b) :
  Ret Tryz.prog 174 [x.v, .int .i64 a, .int .i64 b] w0 (fun v w => ∃ y, (y.n = (addF x.n [a, b] (addXorL x.n a b)).1 ∧ v = .tuple ⟨[y.v, .int .i64 (addF x.n [a, b] (addXorL x.n a b)).2]⟩) ∧ Hp w0 w [rNet y]) := by
 rw [addXor_two ha hb]
 refine enter Tryz.S174ok _ _ rfl rfl (by show _ ≤ _; simp only [List.length]; decide) (fun C => ?_); have hp := Hp.nil w0; refine h_run rfl ?_; skip; (first | refine H_box hp ?_ | refine H_alloc hp rfl ?_); intro w b3 hx hp; refine ops_run nopre rfl ?_; skip; (first | refine H_box hp ?_ | refine H_alloc hp rfl ?_); intro w b6 hx hp; refine ops_run nopre rfl ?_; skip
 refine N_draw hp (by kernel_rfl) (by kernel_rfl) rfl rfl ?_; (repeat (refine N_ldB rfl rfl rfl ?_))
 refine N_call Tryz.func172 (by kernel_rfl) rfl (fun F w hp => ?_); refine Ret.mono (l10Not_h b _) ?_; rintro _ w ⟨rfl, hx⟩; have hp := hp.ext hx; refine ⟨fun _ => hp.sub (by (repeat (first | exact List.sublist_append_left _ _ | apply List.Sublist.cons))), _, hp, ?_⟩; clear hp; refine N_ops rfl rfl ?_; skip
 refine N_call Tryz.func86 (by kernel_rfl) rfl (fun F w hp => ?_); refine Ret.mono (specAddAnd_x x a (lNot b) _ hp.net hS hW ha (lNot_R hb)) ?_; rintro _ w ⟨y, ⟨hy, rfl⟩, hq⟩; have hp := hp.callF1 hq; refine ⟨fun _ => hp.sub (by (repeat (first | exact List.sublist_append_left _ _ | apply List.Sublist.cons))), _, hp, ?_⟩; clear hp; refine N_ops rfl rfl ?_; skip
 (first | refine N_box ?_ | refine N_alloc rfl ?_); intro b8; refine N_ops rfl rfl ?_; (repeat (refine N_stBN rfl rfl rfl rfl (by kernel_rfl) ?_; refine N_ops rfl rfl ?_))
 refine N_end ?_; intro w hp C; refine h_run rfl ?_; skip
 have hSy : NetS y.n := by rw [hy]; exact sAddAnd hS _ _
 have hWy : NetW y.n := by rw [hy]; exact wAddAnd hW _ _
 refine N_draw hp (by kernel_rfl) (by kernel_rfl) rfl rfl ?_; (repeat (refine N_ldB rfl rfl rfl ?_))
 refine N_call Tryz.func172 (by kernel_rfl) rfl (fun F w hp => ?_); refine Ret.mono (l10Not_h a _) ?_; rintro _ w ⟨rfl, hx⟩; have hp := hp.ext hx; refine ⟨fun _ => hp.sub (by (repeat (first | exact List.sublist_append_left _ _ | apply List.Sublist.cons))), _, hp, ?_⟩; clear hp; refine N_ops rfl rfl ?_; skip
 refine N_call Tryz.func86 (by kernel_rfl) rfl (fun F w hp => ?_); refine Ret.mono (specAddAnd_x y (lNot a) b _ (rNet_r (hp.pre.take (rNet y))) hSy hWy (lNot_R ha) hb) ?_; rintro _ w ⟨z, ⟨hz, rfl⟩, hq⟩; have hp := hp.callF1 hq; refine ⟨fun _ => hp.sub (by (repeat (first | exact List.sublist_append_left _ _ | apply List.Sublist.cons))), _, hp, ?_⟩; clear hp; refine N_ops rfl rfl ?_; (repeat (refine N_stBN rfl rfl rfl rfl (by kernel_rfl) ?_; refine N_ops rfl rfl ?_))
 skip
 refine N_end ?_; intro w hp C; refine h_run rfl ?_; (repeat (refine H_ldB hp rfl rfl ?_))
 have hSz : NetS z.n := by rw [hz]; exact sAddAnd hSy _ _
 have hWz : NetW z.n := by rw [hz]; exact wAddAnd hWy _ _
 refine h_call rfl Tryz.func175 (by kernel_rfl) rfl (l10Join_h x z _ _ _ hp.net hp.net hS hSz hWz addF_R addF_R) ?_; rintro _ w ⟨u, ⟨hu, rfl⟩, hq⟩; have hx := hq.x; have hp := hp.call1 hq; refine ops_run nopre rfl ?_; (repeat (first | (refine gStore ?_; refine U_stBN hp rfl rfl rfl rfl ?_; intro w hp; refine ops_run nopre rfl ?_) | (refine gRetc ?_; refine R_ret2v hp rfl ?_)))
 unfold twoF
 rw [← hy, ← hz]
 exact ⟨u, ⟨hu, rfl⟩, hp.sub (by simp)⟩
theorem specAddMux_x (x : NetA) (s a b : Int) (w0 : World) (hX : NetR w0 x) (hS : NetS x.n) (hW : NetW x.n) (hs : i64R s) (ha : i64R a) (hb : i64R b) :
  Ret Tryz.prog 145 [x.v, .int .i64 s, .int .i64 a, .int .i64 b] w0 (fun v w => ∃ y, (y.n = (addF x.n [s, a, b] (addMuxL x.n s a b)).1 ∧ v = .tuple ⟨[y.v, .int .i64 (addF x.n [s, a, b] (addMuxL x.n s a b)).2]⟩) ∧ Hp w0 w [rNet y]) := by
 refine enter Tryz.S145ok _ _ rfl rfl (by show _ ≤ _; simp only [List.length]; decide) (fun C => ?_); have hp := Hp.nil w0; refine h_run rfl ?_; skip; (first | refine H_box hp ?_ | refine H_alloc hp rfl ?_); intro w b4 hx hp; refine ops_run nopre rfl ?_; skip; (first | refine H_box hp ?_ | refine H_alloc hp rfl ?_); intro w b8 hx hp; refine ops_run nopre rfl ?_; (repeat (refine H_ldB hp rfl rfl ?_))
 refine h_call rfl Tryz.func82 (by kernel_rfl) rfl (specNodeCount_h x _) ?_; rintro _ w ⟨rfl, hx⟩; have hp := hp.ext hx; refine ops_run nopre rfl ?_; (repeat (refine H_ldB hp rfl rfl ?_))
 by_cases hok : NetOkP x.n
 ·rw [show nodeCountL x.n = nodesL x.n from if_pos hok.size]
  refine h_call rfl Tryz.func77 (by kernel_rfl) rfl ((specNetOk_h x _ hp.net hS hW).tt (netOkB_yes hok)) ?_; rintro _ w ⟨rfl, hx⟩; have hp := hp.ext hx; refine ops_run nopre rfl ?_; (repeat (refine h_guard_y rfl nopre rfl ?_))
  by_cases ls : litP s (nodesL x.n)
  ·refine h_call rfl Tryz.func81 (by kernel_rfl) rfl ((l08Lit_h s _ _ hs).yes ls) ?_; rintro _ w ⟨rfl, hx⟩; have hp := hp.ext hx; refine ops_run nopre rfl ?_; (repeat (refine h_guard_y rfl nopre rfl ?_))
   by_cases la : litP a (nodesL x.n)
   ·refine h_call rfl Tryz.func81 (by kernel_rfl) rfl ((l08Lit_h a _ _ ha).yes la) ?_; rintro _ w ⟨rfl, hx⟩; have hp := hp.ext hx; refine ops_run nopre rfl ?_; (repeat (refine h_guard_y rfl nopre rfl ?_))
    by_cases lb : litP b (nodesL x.n)
    ·refine h_call rfl Tryz.func81 (by kernel_rfl) rfl ((l08Lit_h b _ _ hb).yes lb) ?_; rintro _ w ⟨rfl, hx⟩; have hp := hp.ext hx; refine ops_run nopre rfl ?_; (repeat (refine h_guard_y rfl nopre rfl ?_))
     rw [addMux_two hok ls la lb]
     refine h_cond_f rfl rfl ?_; (repeat (refine H_ldB hp rfl rfl ?_))
     refine h_call rfl Tryz.func86 (by kernel_rfl) rfl (specAddAnd_x x s a _ hp.net hS hW hs ha) ?_; rintro _ w ⟨y, ⟨hy, rfl⟩, hq⟩; have hx := hq.x; have hp := hp.call1 hq; refine ops_run nopre rfl ?_; skip
     (first | refine H_box hp ?_ | refine H_alloc hp rfl ?_); intro w b11 hx hp; refine ops_run nopre rfl ?_; (repeat (refine U_stBN hp rfl rfl rfl rfl ?_; intro w hp; refine ops_run nopre rfl ?_))
     have hSy : NetS y.n := by rw [hy]; exact sAddAnd hS _ _
     have hWy : NetW y.n := by rw [hy]; exact wAddAnd hW _ _
     refine N_draw hp (by kernel_rfl) (by kernel_rfl) rfl rfl ?_; (repeat (refine N_ldB rfl rfl rfl ?_))
     refine N_call Tryz.func172 (by kernel_rfl) rfl (fun F w hp => ?_); refine Ret.mono (l10Not_h s _) ?_; rintro _ w ⟨rfl, hx⟩; have hp := hp.ext hx; refine ⟨fun _ => hp.sub (by (repeat (first | exact List.sublist_append_left _ _ | apply List.Sublist.cons))), _, hp, ?_⟩; clear hp; refine N_ops rfl rfl ?_; skip
     refine N_call Tryz.func86 (by kernel_rfl) rfl (fun F w hp => ?_); refine Ret.mono (specAddAnd_x y (lNot s) b _ (rNet_r (hp.pre.take (rNet y))) hSy hWy (lNot_R hs) hb) ?_; rintro _ w ⟨z, ⟨hz, rfl⟩, hq⟩; have hp := hp.callF1 hq; refine ⟨fun _ => hp.sub (by (repeat (first | exact List.sublist_append_left _ _ | apply List.Sublist.cons))), _, hp, ?_⟩; clear hp; refine N_ops rfl rfl ?_; (repeat (refine N_stBN rfl rfl rfl rfl (by kernel_rfl) ?_; refine N_ops rfl rfl ?_))
     skip
     refine N_end ?_; intro w hp C; refine h_run rfl ?_; (repeat (refine H_ldB hp rfl rfl ?_))
     have hSz : NetS z.n := by rw [hz]; exact sAddAnd hSy _ _
     have hWz : NetW z.n := by rw [hz]; exact wAddAnd hWy _ _
     refine h_call rfl Tryz.func175 (by kernel_rfl) rfl (l10Join_h x z _ _ _ hp.net hp.net hS hSz hWz addF_R addF_R) ?_; rintro _ w ⟨u, ⟨hu, rfl⟩, hq⟩; have hx := hq.x; have hp := hp.call1 hq; refine ops_run nopre rfl ?_; (repeat (first | (refine gStore ?_; refine U_stBN hp rfl rfl rfl rfl ?_; intro w hp; refine ops_run nopre rfl ?_) | (refine gRetc ?_; refine R_ret2v hp rfl ?_)))
     unfold twoF
     rw [← hy, ← hz]
     exact ⟨u, ⟨hu, rfl⟩, hp.sub (by simp)⟩
    ·refine h_call rfl Tryz.func81 (by kernel_rfl) rfl ((l08Lit_h b _ _ hb).no lb) ?_; rintro _ w ⟨rfl, hx⟩; have hp := hp.ext hx; refine ops_run nopre rfl ?_; (repeat (refine h_guard_y rfl nopre rfl ?_))
     have hbad : ¬ (NetOkP x.n ∧ litP s (nodesL x.n) ∧ litP a (nodesL x.n) ∧ litP b (nodesL x.n)) := fun h => lb h.2.2.2
     have hno : ¬ (NetOkP x.n ∧ ∀ l, l ∈ [s, a, b] → litP l (nodesL x.n)) := fun h => hbad ⟨h.1, h.2 s (by simp), h.2 a (by simp), h.2 b (by simp)⟩
     refine h_cond_t rfl rfl ?_; (repeat (refine H_ldB hp rfl rfl ?_))
     refine h_call rfl Tryz.func80 (by kernel_rfl) rfl (specCopyNet_h x _ hp.net hS) ?_; rintro _ w ⟨z, ⟨hz, rfl⟩, hq⟩; have hx := hq.x; have hp := hp.call1 hq; refine ops_run nopre rfl ?_; (repeat (first | (refine gStore ?_; refine U_stBN hp rfl rfl rfl rfl ?_; intro w hp; refine ops_run nopre rfl ?_) | (refine gRetc ?_; refine R_ret2v hp rfl ?_)))
     rw [addF_no hno]
     exact ⟨z, ⟨hz, rfl⟩, hp.sub (by simp)⟩
   ·refine h_call rfl Tryz.func81 (by kernel_rfl) rfl ((l08Lit_h a _ _ ha).no la) ?_; rintro _ w ⟨rfl, hx⟩; have hp := hp.ext hx; refine ops_run nopre rfl ?_; (repeat (refine gGuard ?_; first | refine h_guard_y rfl nopre rfl ?_ | refine h_guard_n rfl nopre rfl ?_))
    have hbad : ¬ (NetOkP x.n ∧ litP s (nodesL x.n) ∧ litP a (nodesL x.n) ∧ litP b (nodesL x.n)) := fun h => la h.2.2.1
    have hno : ¬ (NetOkP x.n ∧ ∀ l, l ∈ [s, a, b] → litP l (nodesL x.n)) := fun h => hbad ⟨h.1, h.2 s (by simp), h.2 a (by simp), h.2 b (by simp)⟩
    refine h_cond_t rfl rfl ?_; (repeat (refine H_ldB hp rfl rfl ?_))
    refine h_call rfl Tryz.func80 (by kernel_rfl) rfl (specCopyNet_h x _ hp.net hS) ?_; rintro _ w ⟨z, ⟨hz, rfl⟩, hq⟩; have hx := hq.x; have hp := hp.call1 hq; refine ops_run nopre rfl ?_; (repeat (first | (refine gStore ?_; refine U_stBN hp rfl rfl rfl rfl ?_; intro w hp; refine ops_run nopre rfl ?_) | (refine gRetc ?_; refine R_ret2v hp rfl ?_)))
    rw [addF_no hno]
    exact ⟨z, ⟨hz, rfl⟩, hp.sub (by simp)⟩
  ·refine h_call rfl Tryz.func81 (by kernel_rfl) rfl ((l08Lit_h s _ _ hs).no ls) ?_; rintro _ w ⟨rfl, hx⟩; have hp := hp.ext hx; refine ops_run nopre rfl ?_; (repeat (refine gGuard ?_; first | refine h_guard_y rfl nopre rfl ?_ | refine h_guard_n rfl nopre rfl ?_))
   have hbad : ¬ (NetOkP x.n ∧ litP s (nodesL x.n) ∧ litP a (nodesL x.n) ∧ litP b (nodesL x.n)) := fun h => ls h.2.1
   have hno : ¬ (NetOkP x.n ∧ ∀ l, l ∈ [s, a, b] → litP l (nodesL x.n)) := fun h => hbad ⟨h.1, h.2 s (by simp), h.2 a (by simp), h.2 b (by simp)⟩
   refine h_cond_t rfl rfl ?_; (repeat (refine H_ldB hp rfl rfl ?_))
   refine h_call rfl Tryz.func80 (by kernel_rfl) rfl (specCopyNet_h x _ hp.net hS) ?_; rintro _ w ⟨z, ⟨hz, rfl⟩, hq⟩; have hx := hq.x; have hp := hp.call1 hq; refine ops_run nopre rfl ?_; (repeat (first | (refine gStore ?_; refine U_stBN hp rfl rfl rfl rfl ?_; intro w hp; refine ops_run nopre rfl ?_) | (refine gRetc ?_; refine R_ret2v hp rfl ?_)))
   rw [addF_no hno]
   exact ⟨z, ⟨hz, rfl⟩, hp.sub (by simp)⟩
 ·refine h_call rfl Tryz.func77 (by kernel_rfl) rfl ((specNetOk_h x _ hp.net hS hW).ff (netOkB_no hok)) ?_; rintro _ w ⟨rfl, hx⟩; have hp := hp.ext hx; refine ops_run nopre rfl ?_; (repeat (refine h_guard_n rfl nopre rfl ?_))
  have hbad : ¬ (NetOkP x.n ∧ litP s (nodesL x.n) ∧ litP a (nodesL x.n) ∧ litP b (nodesL x.n)) := fun h => hok h.1
  have hno : ¬ (NetOkP x.n ∧ ∀ l, l ∈ [s, a, b] → litP l (nodesL x.n)) := fun h => hbad ⟨h.1, h.2 s (by simp), h.2 a (by simp), h.2 b (by simp)⟩
  refine h_cond_t rfl rfl ?_; (repeat (refine H_ldB hp rfl rfl ?_))
  refine h_call rfl Tryz.func80 (by kernel_rfl) rfl (specCopyNet_h x _ hp.net hS) ?_; rintro _ w ⟨z, ⟨hz, rfl⟩, hq⟩; have hx := hq.x; have hp := hp.call1 hq; refine ops_run nopre rfl ?_; (repeat (first | (refine gStore ?_; refine U_stBN hp rfl rfl rfl rfl ?_; intro w hp; refine ops_run nopre rfl ?_) | (refine gRetc ?_; refine R_ret2v hp rfl ?_)))
  rw [addF_no hno]
  exact ⟨z, ⟨hz, rfl⟩, hp.sub (by simp)⟩
end Go.Proofs
end
section
namespace Go.Proofs
open Go.Xw
set_option maxRecDepth 100000
set_option maxHeartbeats 2000000
attribute [local irreducible] Holds elemAddr
theorem keep_h (lit : Int) (bx p wd : Nat) (sv : Value) (bad : Bool) {w0 w1 : World} {L : List Res} (hp1 : Hp w0 w1 (rB bx 88 [.pointer (some ⟨p, 0, none⟩), sv, .int .i64 (wd : Int), .bool bad] :: L)) :
  Ret Tryz.prog 152 [.pointer (some ⟨bx, 0, none⟩), .int .i64 lit] w1 (fun v w' => v = .int .i64 (if lit < 0 then 0 else lit) ∧ Hp w0 w' (rB bx 88 [.pointer (some ⟨p, 0, none⟩), sv, .int .i64 (wd : Int), .bool (if lit < 0 then true else bad)] :: L)) := by
 refine enter Tryz.S152ok _ _ rfl rfl (by show _ ≤ _; simp only [List.length]; decide) (fun C => ?_); have hp := hp1; refine h_run rfl ?_
 skip
 refine h_cond_dec (fun h => ?_) (fun h => ?_)
 ·rw [if_pos h, if_pos h]
  refine h_cond_t rfl rfl ?_; (repeat (first | (refine gStore ?_; refine U_stB hp rfl rfl rfl rfl ?_; intro w hp; refine ops_run nopre rfl ?_) | refine R_ret ?_))
  exact ⟨rfl, hp⟩
 ·rw [if_neg h, if_neg h]
  refine h_cond_f rfl rfl ?_; (repeat (refine R_ret ?_))
  exact ⟨rfl, hp⟩
theorem adAnd_h (y : NetA) (s : NetL × Bool) (hs : s.1 = { y.n with ands := s.1.ands }) (hok : NetOkP s.1) (a b : Int) (ha : litP a (nodesL s.1)) (hb : litP b (nodesL s.1)) (bx p wd : Nat) (sv : Value) (aa : Option Addr) (ac : Nat) {w0 w1 : World} {L : List Res} (hp1 : Hp w0 w1 (rB bx 88 [.pointer (some ⟨p, 0, none⟩), sv, .int .i64 (wd : Int), .bool s.2] :: rB p 33 (y.wA aa ac s.1.ands).cs :: rO 120 2 eII aa ac s.1.ands :: L)) :
  Ret Tryz.prog 98 [.pointer (some ⟨bx, 0, none⟩), .int .i64 a, .int .i64 b] w1 (fun v w' => ∃ aa' ac', v = .int .i64 (adP.and s a b).2 ∧ Hp w0 w' (rB bx 88 [.pointer (some ⟨p, 0, none⟩), sv, .int .i64 (wd : Int), .bool (adP.and s a b).1.2] :: rB p 33 (y.wA aa' ac' (adP.and s a b).1.1.ands).cs :: rO 120 2 eII aa' ac' (adP.and s a b).1.1.ands :: L)) := by
 have hyn : (y.wA aa ac s.1.ands).n = s.1 := hs.symm
 have hyo : NetOkP (y.wA aa ac s.1.ands).n := by rw [hyn]; exact hok
 have hcnt := hok.count
 refine enter Tryz.S98ok _ _ rfl rfl (by show _ ≤ _; simp only [List.length]; decide) (fun C => ?_); have hp := hp1; refine h_run rfl ?_
 (repeat (refine H_ldB hp rfl rfl ?_))
 refine h_call rfl Tryz.func106 (by kernel_rfl) rfl (addAnd_h (y.wA aa ac s.1.ands) p a b (hp.f2.f2) hyo.b (by show s.1.ands.length ≤ _; omega) (by unfold litP at ha; omega) (by unfold litP at hb; omega)) ?_; rintro _ w ⟨aa', ac', rfl, hp⟩; refine ops_run nopre rfl ?_; skip
 rw [hyn] at hp ⊢
 have hp := hp.f1.f1.f2
 refine h_call rfl Tryz.func152 (by kernel_rfl) rfl (keep_h (addAndL s.1 a b).2 bx p wd sv s.2 hp) ?_; rintro _ w ⟨rfl, hp⟩; refine ops_run nopre rfl ?_; (repeat (refine R_ret ?_))
 have e : adP.and s a b = if (addAndL s.1 a b).2 < 0 then (((addAndL s.1 a b).1, true), 0) else (((addAndL s.1 a b).1, s.2), (addAndL s.1 a b).2) := rfl
 by_cases h0 : (addAndL s.1 a b).2 < 0
 ·rw [if_pos h0] at e hp ⊢
  rw [e]
  exact ⟨aa', ac', rfl, hp⟩
 ·rw [if_neg h0] at e hp ⊢
  rw [e]
  exact ⟨aa', ac', rfl, hp⟩
theorem adOr_h (y : NetA) (s : NetL × Bool) (hs : s.1 = { y.n with ands := s.1.ands }) (hok : NetOkP s.1) (a b : Int) (ha : litP a (nodesL s.1)) (hb : litP b (nodesL s.1)) (bx p wd : Nat) (sv : Value) (aa : Option Addr) (ac : Nat) {w0 w1 : World} {L : List Res} (hp1 : Hp w0 w1 (rB bx 88 [.pointer (some ⟨p, 0, none⟩), sv, .int .i64 (wd : Int), .bool s.2] :: rB p 33 (y.wA aa ac s.1.ands).cs :: rO 120 2 eII aa ac s.1.ands :: L)) :
  Ret Tryz.prog 99 [.pointer (some ⟨bx, 0, none⟩), .int .i64 a, .int .i64 b] w1 (fun v w' => ∃ aa' ac', v = .int .i64 (adP.or s a b).2 ∧ Hp w0 w' (rB bx 88 [.pointer (some ⟨p, 0, none⟩), sv, .int .i64 (wd : Int), .bool (adP.or s a b).1.2] :: rB p 33 (y.wA aa' ac' (adP.or s a b).1.1.ands).cs :: rO 120 2 eII aa' ac' (adP.or s a b).1.1.ands :: L)) := by
 have hyn : (y.wA aa ac s.1.ands).n = s.1 := hs.symm
 have hyo : NetOkP (y.wA aa ac s.1.ands).n := by rw [hyn]; exact hok
 have hcnt := hok.count
 refine enter Tryz.S99ok _ _ rfl rfl (by show _ ≤ _; simp only [List.length]; decide) (fun C => ?_); have hp := hp1; refine h_run rfl ?_
 (repeat (refine H_ldB hp rfl rfl ?_))
 refine h_call rfl Tryz.func153 (by kernel_rfl) rfl (addOr_h (y.wA aa ac s.1.ands) p a b (hp.f2.f2) hyo (by rw [hyn]; exact ha) (by rw [hyn]; exact hb)) ?_; rintro _ w ⟨aa', ac', rfl, hp⟩; refine ops_run nopre rfl ?_; skip
 rw [hyn] at hp ⊢
 have hp := hp.f1.f1.f2
 refine h_call rfl Tryz.func152 (by kernel_rfl) rfl (keep_h (addOrL s.1 a b).2 bx p wd sv s.2 hp) ?_; rintro _ w ⟨rfl, hp⟩; refine ops_run nopre rfl ?_; (repeat (refine R_ret ?_))
 have e : adP.or s a b = if (addOrL s.1 a b).2 < 0 then (((addOrL s.1 a b).1, true), 0) else (((addOrL s.1 a b).1, s.2), (addOrL s.1 a b).2) := rfl
 by_cases h0 : (addOrL s.1 a b).2 < 0
 ·rw [if_pos h0] at e hp ⊢
  rw [e]
  exact ⟨aa', ac', rfl, hp⟩
 ·rw [if_neg h0] at e hp ⊢
  rw [e]
  exact ⟨aa', ac', rfl, hp⟩
theorem adXor_h (y : NetA) (s : NetL × Bool) (hs : s.1 = { y.n with ands := s.1.ands }) (hok : NetOkP s.1) (a b : Int) (ha : litP a (nodesL s.1)) (hb : litP b (nodesL s.1)) (bx p wd : Nat) (sv : Value) (aa : Option Addr) (ac : Nat) {w0 w1 : World} {L : List Res} (hp1 : Hp w0 w1 (rB bx 88 [.pointer (some ⟨p, 0, none⟩), sv, .int .i64 (wd : Int), .bool s.2] :: rB p 33 (y.wA aa ac s.1.ands).cs :: rO 120 2 eII aa ac s.1.ands :: L)) :
  Ret Tryz.prog 100 [.pointer (some ⟨bx, 0, none⟩), .int .i64 a, .int .i64 b] w1 (fun v w' => ∃ aa' ac', v = .int .i64 (adP.xor s a b).2 ∧ Hp w0 w' (rB bx 88 [.pointer (some ⟨p, 0, none⟩), sv, .int .i64 (wd : Int), .bool (adP.xor s a b).1.2] :: rB p 33 (y.wA aa' ac' (adP.xor s a b).1.1.ands).cs :: rO 120 2 eII aa' ac' (adP.xor s a b).1.1.ands :: L)) := by
 have hyn : (y.wA aa ac s.1.ands).n = s.1 := hs.symm
 have hyo : NetOkP (y.wA aa ac s.1.ands).n := by rw [hyn]; exact hok
 have hcnt := hok.count
 refine enter Tryz.S100ok _ _ rfl rfl (by show _ ≤ _; simp only [List.length]; decide) (fun C => ?_); have hp := hp1; refine h_run rfl ?_
 (repeat (refine H_ldB hp rfl rfl ?_))
 refine h_call rfl Tryz.func154 (by kernel_rfl) rfl (addXor_h (y.wA aa ac s.1.ands) p a b (hp.f2.f2) hyo (by rw [hyn]; exact ha) (by rw [hyn]; exact hb)) ?_; rintro _ w ⟨aa', ac', rfl, hp⟩; refine ops_run nopre rfl ?_; skip
 rw [hyn] at hp ⊢
 have hp := hp.f1.f1.f2
 refine h_call rfl Tryz.func152 (by kernel_rfl) rfl (keep_h (addXorL s.1 a b).2 bx p wd sv s.2 hp) ?_; rintro _ w ⟨rfl, hp⟩; refine ops_run nopre rfl ?_; (repeat (refine R_ret ?_))
 have e : adP.xor s a b = if (addXorL s.1 a b).2 < 0 then (((addXorL s.1 a b).1, true), 0) else (((addXorL s.1 a b).1, s.2), (addXorL s.1 a b).2) := rfl
 by_cases h0 : (addXorL s.1 a b).2 < 0
 ·rw [if_pos h0] at e hp ⊢
  rw [e]
  exact ⟨aa', ac', rfl, hp⟩
 ·rw [if_neg h0] at e hp ⊢
  rw [e]
  exact ⟨aa', ac', rfl, hp⟩
theorem adMux_h (y : NetA) (s : NetL × Bool) (hs : s.1 = { y.n with ands := s.1.ands }) (hok : NetOkP s.1) (c a b : Int) (hc : litP c (nodesL s.1)) (ha : litP a (nodesL s.1)) (hb : litP b (nodesL s.1)) (bx p wd : Nat) (sv : Value) (aa : Option Addr) (ac : Nat) {w0 w1 : World} {L : List Res} (hp1 : Hp w0 w1 (rB bx 88 [.pointer (some ⟨p, 0, none⟩), sv, .int .i64 (wd : Int), .bool s.2] :: rB p 33 (y.wA aa ac s.1.ands).cs :: rO 120 2 eII aa ac s.1.ands :: L)) :
  Ret Tryz.prog 103 [.pointer (some ⟨bx, 0, none⟩), .int .i64 c, .int .i64 a, .int .i64 b] w1 (fun v w' => ∃ aa' ac', v = .int .i64 (adP.mux s c a b).2 ∧ Hp w0 w' (rB bx 88 [.pointer (some ⟨p, 0, none⟩), sv, .int .i64 (wd : Int), .bool (adP.mux s c a b).1.2] :: rB p 33 (y.wA aa' ac' (adP.mux s c a b).1.1.ands).cs :: rO 120 2 eII aa' ac' (adP.mux s c a b).1.1.ands :: L)) := by
 have hyn : (y.wA aa ac s.1.ands).n = s.1 := hs.symm
 have hyo : NetOkP (y.wA aa ac s.1.ands).n := by rw [hyn]; exact hok
 have hcnt := hok.count
 refine enter Tryz.S103ok _ _ rfl rfl (by show _ ≤ _; simp only [List.length]; decide) (fun C => ?_); have hp := hp1; refine h_run rfl ?_
 (repeat (refine H_ldB hp rfl rfl ?_))
 refine h_call rfl Tryz.func156 (by kernel_rfl) rfl (addMux_h (y.wA aa ac s.1.ands) p c a b (hp.f2.f2) hyo (by rw [hyn]; exact hc) (by rw [hyn]; exact ha) (by rw [hyn]; exact hb)) ?_; rintro _ w ⟨aa', ac', rfl, hp⟩; refine ops_run nopre rfl ?_; skip
 rw [hyn] at hp ⊢
 have hp := hp.f1.f1.f2
 refine h_call rfl Tryz.func152 (by kernel_rfl) rfl (keep_h (addMuxL s.1 c a b).2 bx p wd sv s.2 hp) ?_; rintro _ w ⟨rfl, hp⟩; refine ops_run nopre rfl ?_; (repeat (refine R_ret ?_))
 have e : adP.mux s c a b = if (addMuxL s.1 c a b).2 < 0 then (((addMuxL s.1 c a b).1, true), 0) else (((addMuxL s.1 c a b).1, s.2), (addMuxL s.1 c a b).2) := rfl
 by_cases h0 : (addMuxL s.1 c a b).2 < 0
 ·rw [if_pos h0] at e hp ⊢
  rw [e]
  exact ⟨aa', ac', rfl, hp⟩
 ·rw [if_neg h0] at e hp ⊢
  rw [e]
  exact ⟨aa', ac', rfl, hp⟩
end Go.Proofs
end
