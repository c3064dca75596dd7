/- Texts that belong together; each under its stated conditions. -/
import Derived.Test.YtiepmliokblkjaaGreatElabLaw
set_option linter.all false
section
namespace Go.Xw
open Go.Proofs
set_option maxHeartbeats 1000000
theorem set_eqD {α : Type} [Inhabited α] {X : List α} {i j : Nat} {y : α} (hi : i < X.length) : (X.set i y).getD j default = if j = i then y else X.getD j default := set_getE hi
def setQ (N : NetL) (q : Nat) (l : List Int) : NetL := { N with seqs := N.seqs.set q ⟨(N.seqs.getD q default).kind, (N.seqs.getD q default).init, l⟩ }
theorem setQ_nodes (N : NetL) (q : Nat) (l : List Int) : nodesL (setQ N q l) = nodesL N ∧ firstAndL (setQ N q l) = firstAndL N := by
 unfold nodesL firstAndL setQ
 simp
theorem setQ_ok {N : NetL} (h : NetOkP N) {q : Nat} (hq : q < N.seqs.length) {l : List Int} (hl : (N.seqs.getD q default).kind = 0 ∧ l.length = 1 ∨ (N.seqs.getD q default).kind = 1 ∧ l.length = 4) (hv : ∀ z, z ∈ l → litP z (nodesL N)) : NetOkP (setQ N q l) := by
 obtain ⟨e1, e2⟩ := setQ_nodes N q l
 have hs := h.sq _ (getD_mem hq)
 refine .mk' ⟨h.size.1, by unfold setQ; rw [List.length_set]; exact h.size.2.1, h.size.2.2.1, h.size.2.2.2⟩ (fun s hs2 => ?_) (fun o ho => by rw [e1]; exact h.out o ho) (fun s hs2 z hz => ?_) (fun i hi => by rw [e2]; exact h.ands i hi)
 ·rcases List.mem_or_eq_of_mem_set hs2 with hs2 | rfl
  ·exact h.sq s hs2
  ·unfold seqOkP at hs ⊢
   rcases hl with ⟨h1, h2⟩ | ⟨h1, h2⟩
   ·rw [h1] at hs ⊢
    have hs2 : 0 ≤ (N.seqs.getD q default).init ∧ (N.seqs.getD q default).init ≤ 1 := by omega
    exact .inl ⟨rfl, hs2, h2⟩
   ·rw [h1] at hs ⊢
    have hs2 : 0 ≤ (N.seqs.getD q default).init ∧ (N.seqs.getD q default).init ≤ 31 := by omega
    exact .inr ⟨rfl, hs2, h2⟩
 ·rw [e1]
  rcases List.mem_or_eq_of_mem_set hs2 with hs2 | rfl
  ·exact h.inp hs2 z hz
  ·exact hv z hz
theorem setQ_seqs (N : NetL) (q : Nat) (l : List Int) : (setQ N q l).seqs.length = N.seqs.length ∧ ∀ p, ((setQ N q l).seqs.getD p default).kind = (N.seqs.getD p default).kind ∧ ((setQ N q l).seqs.getD p default).init = (N.seqs.getD p default).init := by
 refine ⟨by unfold setQ; simp, fun p => ?_⟩
 by_cases hq : q < N.seqs.length
 ·have : (setQ N q l).seqs.getD p default = if p = q then ⟨(N.seqs.getD q default).kind, (N.seqs.getD q default).init, l⟩ else N.seqs.getD p default := set_eqD hq
  rw [this]
  split
  ·rename_i h; rw [h]; exact ⟨rfl, rfl⟩
  ·exact ⟨rfl, rfl⟩
 ·have : (setQ N q l).seqs = N.seqs := by unfold setQ; exact List.set_eq_of_length_le (by omega)
  rw [this]; exact ⟨rfl, rfl⟩
def rlQ (Q : List SeqL) (q : Nat) : List SeqL := Q.take q ++ (Q.drop q).map bareS
theorem rlQ_all (Q : List SeqL) : rlQ Q Q.length = Q := by simp [rlQ]
theorem rlQ_zero (Q : List SeqL) : rlQ Q 0 = Q.map bareS := by simp [rlQ]
theorem rlQ_len (Q : List SeqL) (q : Nat) : (rlQ Q q).length = Q.length := by simp [rlQ]; omega
theorem rlQ_get {Q : List SeqL} {q p : Nat} (hp : p < Q.length) : (rlQ Q q).getD p default = if p < q then Q.getD p default else bareS (Q.getD p default) := by
 unfold rlQ
 by_cases h : p < q
 ·rw [if_pos h, List.getD_eq_getElem?_getD, List.getElem?_append_left (by rw [List.length_take]; omega), List.getElem?_take_of_lt h, ← List.getD_eq_getElem?_getD]
 ·rw [if_neg h, List.getD_eq_getElem?_getD, List.getElem?_append_right (by rw [List.length_take]; omega), List.length_take, List.getElem?_map, List.getElem?_drop, show q + (p - min q Q.length) = p by omega, List.getD_eq_getElem?_getD, List.getElem?_eq_getElem hp]
  rfl
theorem rlQ_set {N : NetL} {q : Nat} (hq : q < N.seqs.length) (l : List Int) : rlQ (setQ N q l).seqs (q + 1) = (rlQ N.seqs q).set q ⟨((rlQ N.seqs q).getD q default).kind, ((rlQ N.seqs q).getD q default).init, l⟩ := by
 obtain ⟨e1, e2⟩ := setQ_seqs N q l
 refine list_eq (by rw [List.length_set, rlQ_len, rlQ_len, e1]) fun p hp => ?_
 rw [rlQ_len, e1] at hp
 rw [rlQ_get (by rw [e1]; exact hp), set_eqD (by rw [rlQ_len]; exact hq), rlQ_get hq, if_neg (Nat.lt_irrefl q)]
 have e3 : (setQ N q l).seqs.getD p default = if p = q then ⟨(N.seqs.getD q default).kind, (N.seqs.getD q default).init, l⟩ else N.seqs.getD p default := set_eqD hq
 rw [e3]
 by_cases hpq : p = q
 ·subst hpq
  rw [if_pos (by omega), if_pos rfl, if_pos rfl]; rfl
 ·rw [if_neg hpq, if_neg hpq, rlQ_get hp]
  by_cases h : p < q
  ·rw [if_pos h, if_pos (by omega)]
  ·rw [if_neg h, if_neg (by omega)]
def bitQ (N : NetL) (q : Nat) (bits : List Int) : Nat → NetL
 | 0 => N
 | k + 1 => setQ (bitQ N q bits k) (q + k) [bits.getD k default]
noncomputable def rgS (n : ModL) (sig : List (List Int)) (s : Int) (st : (NetL × Bool) × Nat) (i : Nat) : (NetL × Bool) × Nat :=
 if tgL n i = s then ((bitQ (evA adP sig (wN n s) (treeA n i) st.1).1.1 st.2 (evA adP sig (wN n s) (treeA n i) st.1).2 (wN n s), (evA adP sig (wN n s) (treeA n i) st.1).1.2), st.2 + wN n s) else st
noncomputable def rgI (n : ModL) (sig : List (List Int)) (s : Int) (st : (NetL × Bool) × Nat) : Nat → (NetL × Bool) × Nat
 | 0 => st
 | i + 1 => rgS n sig s (rgI n sig s st i) i
noncomputable def rgT (n : ModL) (sig : List (List Int)) (st : NetL × Bool) : Nat → (NetL × Bool) × Nat
 | 0 => (st, 0)
 | s + 1 => if kindL n (s : Nat) = 3 then rgI n sig (s : Nat) (rgT n sig st s) n.asg.length else rgT n sig st s
structure SqP (n : ModL) (sig : List (List Int)) (N : NetL) (q : Nat) : Prop where
 net : NetOkP N
 inp : N.inputs = sumL (pwL n 0)
 len : N.seqs.length = wsT n 3 n.sg.length + mwT n n.ms.length
 kind : ∀ p, p < N.seqs.length → (N.seqs.getD p default).kind = if p < wsT n 3 n.sg.length then 0 else 1
 outs : N.outs = []
 sig : SigP n N sig
 qle : q ≤ N.seqs.length
theorem SqP.start {n : ModL} {st : (NetL × Bool) × List (List Int)} (h : EvP n st) : SqP n st.2 st.1.1 0 := by
 have e := h.eq
 refine ⟨h.net, by rw [e]; rfl, by rw [e]; exact mmQ_len _ _ _ _, fun p hp => ?_, by rw [e]; rfl, h.sig, Nat.zero_le _⟩
 rw [e] at hp ⊢
 exact mmQ_kind _ _ n n.ms.length p hp
theorem SqP.set {n : ModL} {sig : List (List Int)} {N : NetL} {q : Nat} (h : SqP n sig N q) (hq : q < N.seqs.length) {l : List Int} (hl : l.length = if q < wsT n 3 n.sg.length then 1 else 4) (hv : ∀ z, z ∈ l → litP z (nodesL N)) : SqP n sig (setQ N q l) (q + 1) := by
 obtain ⟨e1, e2⟩ := setQ_seqs N q l
 have hk := h.kind q hq
 refine ⟨setQ_ok h.net hq ?_ hv, h.inp, by rw [e1]; exact h.len, fun p hp => by rw [(e2 p).1]; exact h.kind p (by rw [e1] at hp; exact hp), h.outs, h.sig.mono (by rw [(setQ_nodes N q l).1]; exact Int.le_refl _), by rw [e1]; omega⟩
 split at hk
 ·rename_i h1; rw [if_pos h1] at hl; exact .inl ⟨hk, hl⟩
 ·rename_i h1; rw [if_neg h1] at hl; exact .inr ⟨hk, hl⟩
theorem SqP.bits {n : ModL} {sig : List (List Int)} {N : NetL} {q : Nat} (h : SqP n sig N q) {bits : List Int} {w : Nat} (hq : q + w ≤ wsT n 3 n.sg.length) (hb : bits.length = w) (hv : ∀ z, z ∈ bits → litP z (nodesL N)) : ∀ k, k ≤ w → SqP n sig (bitQ N q bits k) (q + k) ∧ nodesL (bitQ N q bits k) = nodesL N
 | 0, _ => ⟨h, rfl⟩
 | k + 1, hk => by
  obtain ⟨ih, ih2⟩ := SqP.bits h hq hb hv k (by omega)
  refine ⟨ih.set (by rw [ih.len]; omega) (by rw [if_pos (by omega)]; rfl) (fun z hz => ?_), by rw [bitQ, (setQ_nodes _ _ _).1, ih2]⟩
  simp only [List.mem_singleton] at hz
  rw [hz, ih2]
  exact hv _ (getD_mem (by omega))
theorem SqP.ev {n : ModL} {sig : List (List Int)} {st : NetL × Bool} {q : Nat} (h : SqP n sig st.1 q) (w : Nat) (t : ExT) : SqP n sig (evA adP sig w t st).1.1 q ∧ (∀ z, z ∈ (evA adP sig w t st).2 → litP z (nodesL (evA adP sig w t st).1.1)) ∧ (evA adP sig w t st).1.1.seqs = st.1.seqs ∧ (st.2 = true → (evA adP sig w t st).1.2 = true) := by
 have g := evGood h.net h.sig w t
 have e := g.le_.1.2
 have es : (evA adP sig w t st).1.1.seqs = st.1.seqs := by rw [e]
 refine ⟨⟨g.i, by rw [e]; exact h.inp, by rw [es]; exact h.len, fun p hp => by rw [es] at hp ⊢; exact h.kind p hp, by rw [e]; exact h.outs, h.sig.mono g.le_.1.1, by rw [es]; exact h.qle⟩, g.v, es, g.le_.2⟩
theorem SqP.rgS {n : ModL} {sig : List (List Int)} {st : (NetL × Bool) × Nat} (h : SqP n sig st.1.1 st.2) {s : Int} {i : Nat} (ht : tgL n i = s) (hq : st.2 + wN n s ≤ wsT n 3 n.sg.length) : SqP n sig (rgS n sig s st i).1.1 (rgS n sig s st i).2 ∧ (rgS n sig s st i).2 = st.2 + wN n s ∧ (st.1.2 = true → (rgS n sig s st i).1.2 = true) := by
 obtain ⟨h1, h2, h3, h4⟩ := h.ev (wN n s) (treeA n i)
 unfold Go.Xw.rgS
 rw [if_pos ht]
 exact ⟨(h1.bits hq (evA_len adP sig _ _ _) h2 _ (Nat.le_refl _)).1, rfl, h4⟩
theorem cntM_reg {n : ModL} (hm : ModOkP n) {s : Nat} (hk : kindL n (s : Nat) = 3) : ∀ j, j ≤ n.ms.length → cntM n.ms (s : Nat) j = 0
 | 0, _ => rfl
 | j + 1, hj => by
  rw [cntM, cntM_reg hm hk j (by omega), if_neg]
  intro he
  have := (hm.ms j (by omega)).2.2.2.2
  rw [he, hk] at this
  omega
theorem cntA_reg {n : ModL} (hm : ModOkP n) {s : Nat} (hs : s < n.sg.length) (hk : kindL n (s : Nat) = 3) : cntA n.asg (s : Nat) n.asg.length = 1 := by
 have h1 := hm.drv s hs (by rw [kindL_at] at hk; omega)
 have h2 := cntM_reg hm hk n.ms.length (Nat.le_refl _)
 unfold drvL at h1
 omega
theorem rgI_ok {n : ModL} (hm : ModOkP n) {sig : List (List Int)} {st : (NetL × Bool) × Nat} {s : Nat} (hs : s < n.sg.length) (hk : kindL n (s : Nat) = 3) (h : SqP n sig st.1.1 st.2) (hq : st.2 = wsT n 3 s) : ∀ i, i ≤ n.asg.length → SqP n sig (rgI n sig (s : Nat) st i).1.1 (rgI n sig (s : Nat) st i).2 ∧ (((rgI n sig (s : Nat) st i).2 : Nat) : Int) = (wsT n 3 s : Nat) + cntA n.asg (s : Nat) i * (wN n (s : Nat) : Nat) ∧ (st.1.2 = true → (rgI n sig (s : Nat) st i).1.2 = true)
 | 0, _ => ⟨h, by simp [rgI, cntA, hq], fun h => h⟩
 | i + 1, hi => by
  obtain ⟨h1, h2, h3⟩ := rgI_ok hm hs hk h hq i (by omega)
  rw [rgI, cntA]
  by_cases he : tgL n i = (s : Nat)
  ·have hc := cntA_reg hm hs hk
   have hmo := cntA_mono n.asg (s : Nat) (i := i + 1) n.asg.length hi
   have he2 : (n.asg.getD i default).tg = (s : Nat) := he
   rw [cntA, if_pos he2] at hmo
   have h0 := (cntA_b n.asg (s : Nat) i).1
   have h4 : cntA n.asg (s : Nat) i = 0 := by omega
   rw [h4] at h2 ⊢
   have h5 : wsT n 3 (s + 1) = wsT n 3 s + wN n (s : Nat) := by rw [wsT, if_pos hk]
   have h6 := wsT_mono n 3 (i := s + 1) (j := n.sg.length) (by omega)
   obtain ⟨g1, g2, g3⟩ := h1.rgS he (by omega)
   rw [if_pos he2]
   exact ⟨g1, by rw [g2]; omega, fun hb => g3 (h3 hb)⟩
  ·rw [if_neg (show ¬ (n.asg.getD i default).tg = (s : Nat) from he)]
   have e : rgS n sig (s : Nat) (rgI n sig (s : Nat) st i) i = rgI n sig (s : Nat) st i := by unfold Go.Xw.rgS; rw [if_neg he]
   rw [e]
   exact ⟨h1, h2, h3⟩
theorem rgI_at {n : ModL} (hm : ModOkP n) {sig : List (List Int)} {st : (NetL × Bool) × Nat} {s : Nat} (hs : s < n.sg.length) (hk : kindL n (s : Nat) = 3) (h : SqP n sig st.1.1 st.2) (hq : st.2 = wsT n 3 s) {i : Nat} (hi : i < n.asg.length) (he : tgL n i = (s : Nat)) : (rgI n sig (s : Nat) st i).2 + wN n (s : Nat) ≤ wsT n 3 n.sg.length := by
 have h2 := (rgI_ok hm hs hk h hq i (by omega)).2.1
 have hc := cntA_reg hm hs hk
 have hmo := cntA_mono n.asg (s : Nat) (i := i + 1) n.asg.length hi
 have he2 : (n.asg.getD i default).tg = (s : Nat) := he
 rw [cntA, if_pos he2] at hmo
 have h0 := (cntA_b n.asg (s : Nat) i).1
 have h4 : cntA n.asg (s : Nat) i = 0 := by omega
 rw [h4] at h2
 have h5 : wsT n 3 (s + 1) = wsT n 3 s + wN n (s : Nat) := by rw [wsT, if_pos hk]
 have h6 := wsT_mono n 3 (i := s + 1) (j := n.sg.length) (by omega)
 omega
theorem rgT_ok {n : ModL} (hm : ModOkP n) {sig : List (List Int)} {st : NetL × Bool} (h : SqP n sig st.1 0) : ∀ s, s ≤ n.sg.length → SqP n sig (rgT n sig st s).1.1 (rgT n sig st s).2 ∧ (rgT n sig st s).2 = wsT n 3 s ∧ (st.2 = true → (rgT n sig st s).1.2 = true)
 | 0, _ => ⟨h, rfl, fun h => h⟩
 | s + 1, hs => by
  obtain ⟨h1, h2, h3⟩ := rgT_ok hm h s (by omega)
  rw [rgT, wsT]
  by_cases hk : kindL n (s : Nat) = 3
  ·rw [if_pos hk, if_pos hk]
   obtain ⟨g1, g2, g3⟩ := rgI_ok hm (by omega) hk h1 h2 n.asg.length (Nat.le_refl _)
   rw [cntA_reg hm (by omega) hk] at g2
   exact ⟨g1, by omega, fun hb => g3 (h3 hb)⟩
  ·rw [if_neg hk, if_neg hk]
   exact ⟨h1, h2, h3⟩
def ramI (sig : List (List Int)) (x : MmL) (k : Nat) : List Int := [(sig.getD x.addr.toNat default).getD 0 default, (sig.getD x.addr.toNat default).getD 1 default, (sig.getD x.data.toNat default).getD k default, (sig.getD x.write.toNat default).getD 0 default]
def ramT (sig : List (List Int)) (x : MmL) (N : NetL) (q : Nat) : Nat → NetL
 | 0 => N
 | k + 1 => setQ (ramT sig x N q k) (q + k) (ramI sig x k)
def memT (n : ModL) (sig : List (List Int)) (N : NetL) (q : Nat) : Nat → NetL × Nat
 | 0 => (N, q)
 | j + 1 => (ramT sig (n.ms.getD j default) (memT n sig N q j).1 (memT n sig N q j).2 (wN n (n.ms.getD j default).out), (memT n sig N q j).2 + wN n (n.ms.getD j default).out)
def FullP (n : ModL) (sig : List (List Int)) : Prop := ∀ s : Nat, s < n.sg.length → (sig.getD s default).length = wN n (s : Nat)
theorem full_at {n : ModL} {sig : List (List Int)} (h : FullP n sig) {s : Int} (hs : inL n s) : (sig.getD s.toNat default).length = wN n s := by
 unfold inL at hs
 have := h s.toNat (by omega)
 rw [this, show ((s.toNat : Nat) : Int) = s by omega]
theorem sig_at {n : ModL} {N : NetL} {sig : List (List Int)} (h : SigP n N sig) {s : Int} (hs : inL n s) : ∀ z, z ∈ sig.getD s.toNat default → litP z (nodesL N) := by
 unfold inL at hs
 exact (h.row _ (getD_mem (by rw [h.len]; omega))).2
theorem mem_w {n : ModL} (hm : ModOkP n) (hf : FlatP n) {j : Nat} (hj : j < n.ms.length) : wN n (n.ms.getD j default).addr = 2 ∧ wN n (n.ms.getD j default).write = 1 ∧ wN n (n.ms.getD j default).data = wN n (n.ms.getD j default).out ∧ 1 ≤ wN n (n.ms.getD j default).out ∧ wN n (n.ms.getD j default).out ≤ 4 := by
 obtain ⟨h1, h2, h3⟩ := hf.ms j hj
 have h4 := wN_b hm hf (hm.ms j hj).2.2.2.1
 refine ⟨?_, ?_, ?_, h4⟩
 ·unfold wN; rw [h1]; rfl
 ·unfold wN; rw [h2]; rfl
 ·unfold wN; rw [h3]
theorem ramT_ok {n : ModL} (hm : ModOkP n) (hf : FlatP n) {sig : List (List Int)} (hF : FullP n sig) {N : NetL} {q j : Nat} (h : SqP n sig N q) (hj : j < n.ms.length) (hq : q = wsT n 3 n.sg.length + mwT n j) : ∀ k, k ≤ wN n (n.ms.getD j default).out → SqP n sig (ramT sig (n.ms.getD j default) N q k) (q + k)
 | 0, _ => h
 | k + 1, hk => by
  have ih := ramT_ok hm hf hF h hj hq k (by omega)
  obtain ⟨i1, i2, i3, i4⟩ := hm.ms j hj
  obtain ⟨w1, w2, w3, w4, w5⟩ := mem_w hm hf hj
  have h6 := mwT_mono n (i := j + 1) (j := n.ms.length) (by omega)
  rw [mwT] at h6
  refine ih.set (by rw [ih.len]; omega) (by rw [if_neg (by omega)]; rfl) (fun z hz => ?_)
  simp only [ramI, List.mem_cons, List.not_mem_nil, or_false] at hz
  have f1 := full_at hF i1
  have f2 := full_at hF i2
  have f3 := full_at hF i3
  rcases hz with rfl | rfl | rfl | rfl
  ·exact sig_at ih.sig i1 _ (getD_mem (by omega))
  ·exact sig_at ih.sig i1 _ (getD_mem (by omega))
  ·exact sig_at ih.sig i2 _ (getD_mem (by omega))
  ·exact sig_at ih.sig i3 _ (getD_mem (by omega))
theorem memT_ok {n : ModL} (hm : ModOkP n) (hf : FlatP n) {sig : List (List Int)} (hF : FullP n sig) {N : NetL} (h : SqP n sig N (wsT n 3 n.sg.length)) : ∀ j, j ≤ n.ms.length → SqP n sig (memT n sig N (wsT n 3 n.sg.length) j).1 (memT n sig N (wsT n 3 n.sg.length) j).2 ∧ (memT n sig N (wsT n 3 n.sg.length) j).2 = wsT n 3 n.sg.length + mwT n j
 | 0, _ => ⟨h, rfl⟩
 | j + 1, hj => by
  obtain ⟨h1, h2⟩ := memT_ok hm hf hF h j (by omega)
  exact ⟨ramT_ok hm hf hF h1 (by omega) h2 _ (Nat.le_refl _), by rw [memT, mwT, h2, Nat.add_assoc]⟩
def outT (n : ModL) (sig : List (List Int)) : Nat → List Int
 | 0 => []
 | i + 1 => if kindL n (i : Nat) = 1 then outT n sig i ++ sig.getD i default else outT n sig i
theorem outT_len {n : ModL} {sig : List (List Int)} (hF : FullP n sig) : ∀ i, i ≤ n.sg.length → (outT n sig i).length = wsT n 1 i
 | 0, _ => rfl
 | i + 1, hi => by
  rw [outT, wsT]
  split
  ·rw [List.length_append, outT_len hF i (by omega), hF i (by omega)]
  ·exact outT_len hF i (by omega)
theorem outT_lit {n : ModL} {N : NetL} {sig : List (List Int)} (h : SigP n N sig) : ∀ i, i ≤ n.sg.length → ∀ z, z ∈ outT n sig i → litP z (nodesL N)
 | 0, _, z, hz => by cases hz
 | i + 1, hi, z, hz => by
  rw [outT] at hz
  split at hz
  ·rcases List.mem_append.1 hz with hz | hz
   ·exact outT_lit h i (by omega) z hz
   ·exact (h.row _ (getD_mem (by rw [h.len]; omega))).2 z hz
  ·exact outT_lit h i (by omega) z hz
theorem outs_ok {n : ModL} (hm : ModOkP n) (hf : FlatP n) {sig : List (List Int)} (hF : FullP n sig) {N : NetL} {q : Nat} (h : SqP n sig N q) : NetOkP { N with outs := outT n sig n.sg.length } := by
 refine .mk' ⟨h.net.size.1, h.net.size.2.1, h.net.size.2.2.1, ?_⟩ h.net.sq (fun o ho => outT_lit h.sig _ (Nat.le_refl _) o ho) (fun s hs => h.net.inp hs) h.net.ands
 show (outT n sig n.sg.length).length ≤ 16
 rw [outT_len hF _ (Nat.le_refl _)]
 have h1 := wsT_all hm 1
 have h2 := hf.s1
 omega
noncomputable def elO (n : ModL) (l : List Nat) : (NetL × Bool) × List (List Int) := ordT n l l.length
noncomputable def elR (n : ModL) (l : List Nat) : (NetL × Bool) × Nat := rgT n (elO n l).2 (elO n l).1 n.sg.length
noncomputable def elM (n : ModL) (l : List Nat) : NetL × Nat := memT n (elO n l).2 (elR n l).1.1 (elR n l).2 n.ms.length
noncomputable def elN (n : ModL) (l : List Nat) : NetL := { (elM n l).1 with outs := outT n (elO n l).2 n.sg.length }
open Classical in
noncomputable def elF (n : ModL) : NetL × Bool := match evtO n with
 | some l => if FlatP n ∧ (elR n l).1.2 = false then (hashL (elN n l), true) else (default, false)
 | none => (default, false)
theorem elF_flat {n : ModL} (h : ¬ FlatP n) : elF n = (default, false) := by
 unfold elF
 cases evtO n with
 | none => rfl
 | some l => exact if_neg (fun hh => h hh.1)
theorem elF_bad {n : ModL} {l : List Nat} (h : evtO n = some l) (hb : (elR n l).1.2 = true) : elF n = (default, false) := by
 unfold elF
 rw [h]
 exact if_neg (fun hh => by rw [hb] at hh; exact Bool.noConfusion hh.2)
theorem elF_yes {n : ModL} {l : List Nat} (h : evtO n = some l) (hf : FlatP n) (hb : (elR n l).1.2 = false) : elF n = (hashL (elN n l), true) := by
 unfold elF
 rw [h]
 exact if_pos ⟨hf, hb⟩
theorem flat_mod {n : ModL} (hf : FlatP n) : n.ins = [] ∧ ModOkP n := by
 have h := hf.ev
 cases he : evtO n with
 | none => rw [he] at h; exact Bool.noConfusion h
 | some l => exact (evtO_in he).1
section
variable {n : ModL} {l : List Nat} (hf : FlatP n) (he : evtO n = some l)
include hf he
theorem elO_ok : EvP n (elO n l) ∧ FullP n (elO n l).2 := by
 have hm := (flat_mod hf).2
 obtain ⟨_, hin, _⟩ := evtO_in he
 exact ⟨ordT_ok hm hf (fun i hi => (hin i hi).1) _ (Nat.le_refl _), ord_full hm hf he⟩
theorem elR_ok : SqP n (elO n l).2 (elR n l).1.1 (elR n l).2 ∧ (elR n l).2 = wsT n 3 n.sg.length ∧ ((elO n l).1.2 = true → (elR n l).1.2 = true) :=
 rgT_ok (flat_mod hf).2 (SqP.start (elO_ok hf he).1) n.sg.length (Nat.le_refl _)
theorem elM_ok : SqP n (elO n l).2 (elM n l).1 (elM n l).2 ∧ (elM n l).2 = (elM n l).1.seqs.length := by
 obtain ⟨h1, h2, _⟩ := elR_ok hf he
 have hm := (flat_mod hf).2
 have h3 := memT_ok hm hf (elO_ok hf he).2 (N := (elR n l).1.1) (by rw [← h2]; exact h1) n.ms.length (Nat.le_refl _)
 rw [← h2] at h3
 have h4 := h3.1.len
 refine ⟨h3.1, ?_⟩
 show (memT n (elO n l).2 (elR n l).1.1 (elR n l).2 n.ms.length).2 = (memT n (elO n l).2 (elR n l).1.1 (elR n l).2 n.ms.length).1.seqs.length
 rw [h4, h3.2, h2]
theorem elN_ok : NetOkP (elN n l) := outs_ok (flat_mod hf).2 hf (elO_ok hf he).2 (elM_ok hf he).1
end
end Go.Xw
end
section
namespace Go.Xw
open Go.Proofs
set_option maxHeartbeats 1000000
theorem sEl (n : ModL) : NetS (elF n).1 := by
 by_cases hf : FlatP n
 ·cases he : evtO n with
  | none => have h := hf.ev; rw [he] at h; exact Bool.noConfusion h
  | some l =>
   cases hb : (elR n l).1.2 with
   | true => rw [elF_bad he hb]; exact ⟨Nat.zero_le _, fun i hi => absurd hi (Nat.not_lt_zero _), Nat.zero_le _, Nat.zero_le _⟩
   | false => rw [elF_yes he hf hb]; exact (hashL_ok (elN_ok hf he)).S'
 ·rw [elF_flat hf]; exact ⟨Nat.zero_le _, fun i hi => absurd hi (Nat.not_lt_zero _), Nat.zero_le _, Nat.zero_le _⟩
theorem rgI_bad {n : ModL} (hm : ModOkP n) {sig : List (List Int)} {st : (NetL × Bool) × Nat} {s : Nat} (hs : s < n.sg.length) (hk : kindL n (s : Nat) = 3) (h : SqP n sig st.1.1 st.2) (hq : st.2 = wsT n 3 s) {i : Nat} (hb : (rgI n sig (s : Nat) st i).1.2 = true) : ∀ j, i ≤ j → j ≤ n.asg.length → (rgI n sig (s : Nat) st j).1.2 = true := fun j hij hj => by
 obtain ⟨d, rfl⟩ := Nat.le.dest hij
 clear hij
 induction d with
 | zero => exact hb
 | succ d ih =>
  have ih := ih (by omega)
  show (rgI n sig (s : Nat) st (i + d + 1)).1.2 = true
  rw [rgI]
  by_cases he : tgL n (i + d) = (s : Nat)
  ·exact ((rgI_ok hm hs hk h hq (i + d) (by omega)).1.rgS he (rgI_at hm hs hk h hq (by omega) he)).2.2 ih
  ·unfold Go.Xw.rgS
   rw [if_neg he]
   exact ih
theorem rgT_bad {n : ModL} (hm : ModOkP n) {sig : List (List Int)} {st : NetL × Bool} (h : SqP n sig st.1 0) {s : Nat} (hb : (rgT n sig st s).1.2 = true) : ∀ j, s ≤ j → j ≤ n.sg.length → (rgT n sig st j).1.2 = true := fun j hij hj => by
 obtain ⟨d, rfl⟩ := Nat.le.dest hij
 clear hij
 induction d with
 | zero => exact hb
 | succ d ih =>
  have ih := ih (by omega)
  show (rgT n sig st (s + d + 1)).1.2 = true
  rw [rgT]
  by_cases hk : kindL n ((s + d : Nat) : Int) = 3
  ·rw [if_pos hk]
   obtain ⟨h1, h2, _⟩ := rgT_ok hm h (s + d) (by omega)
   exact (rgI_ok hm (by omega) hk h1 h2 n.asg.length (Nat.le_refl _)).2.2 ih
  ·rw [if_neg hk]; exact ih
section
variable {n : ModL} {l : List Nat} (hf : FlatP n) (he : evtO n = some l)
include hf he
theorem elF_badO {i : Nat} (hi : i ≤ l.length) (hb : (ordT n l i).1.2 = true) : elF n = (default, false) := by
 obtain ⟨_, hin, _⟩ := evtO_in he
 exact elF_bad he ((elR_ok hf he).2.2 (ordT_bad (flat_mod hf).2 hf (fun i hi => (hin i hi).1) hb l.length hi (Nat.le_refl _)))
theorem elF_badT {s : Nat} (hs : s ≤ n.sg.length) (hb : (rgT n (elO n l).2 (elO n l).1 s).1.2 = true) : elF n = (default, false) :=
 elF_bad he (rgT_bad (flat_mod hf).2 (SqP.start (elO_ok hf he).1) hb n.sg.length hs (Nat.le_refl _))
theorem elF_badR {s i : Nat} (hs : s < n.sg.length) (hk : kindL n (s : Nat) = 3) (hi : i ≤ n.asg.length) (hb : (rgI n (elO n l).2 (s : Nat) (rgT n (elO n l).2 (elO n l).1 s) i).1.2 = true) : elF n = (default, false) := by
 have hm := (flat_mod hf).2
 obtain ⟨h1, h2, _⟩ := rgT_ok hm (SqP.start (elO_ok hf he).1) s (by omega)
 refine elF_badT hf he (s := s + 1) (by omega) ?_
 rw [rgT, if_pos hk]
 exact rgI_bad hm hs hk h1 h2 hb n.asg.length hi (Nat.le_refl _)
end
theorem axF_ev {N : NetL} {sig : List (List Int)} {ops : List OpL} {w : Nat} (h : AxP N sig ops (w : Nat)) (hb : (evA adP sig w (treeOf ops sig.length) (N, false)).1.2 = false) : axF N sig ops (w : Nat) = ((evA adP sig w (treeOf ops sig.length) (N, false)).1.1, (evA adP sig w (treeOf ops sig.length) (N, false)).2) := by
 have e : axR sig (w : Int) (treeOf ops sig.length) N = evA adP sig w (treeOf ops sig.length) (N, false) := by unfold axR; rw [Int.toNat_natCast]
 rw [axF_yes h (by rw [e]; exact hb), e]
theorem axF_evB {N : NetL} {sig : List (List Int)} {ops : List OpL} {w : Nat} (hb : (evA adP sig w (treeOf ops sig.length) (N, false)).1.2 = true) : axF N sig ops (w : Nat) = (N, []) := by
 have e : axR sig (w : Int) (treeOf ops sig.length) N = evA adP sig w (treeOf ops sig.length) (N, false) := by unfold axR; rw [Int.toNat_natCast]
 exact axF_bad (by rw [e]; exact hb)
end Go.Xw
end
