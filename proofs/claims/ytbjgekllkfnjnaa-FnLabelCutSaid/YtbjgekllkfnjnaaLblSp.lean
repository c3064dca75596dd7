/- The reference's search for one more unit, as plain data; no condition but the stated ones. -/
import Derived.Test.YtbjgekllkfnjnaaLblLaw
set_option linter.all false
namespace Go.Xw
set_option maxHeartbeats 1000000
def vc (x : Nat × Bool) : Nat := 2 * x.1 + (if x.2 = true then 0 else 1)
def cv (z : Nat) : Nat × Bool := (z / 2, decide (z % 2 = 0))
theorem cv_vc (x : Nat × Bool) : cv (vc x) = x := by
 obtain ⟨k, b⟩ := x
 cases b
 ·show (( 2 * k + 1) / 2, decide ((2 * k + 1) % 2 = 0)) = (k, false)
  rw [show (2 * k + 1) / 2 = k by omega, decide_eq_false (by omega)]
 ·show ((2 * k + 0) / 2, decide ((2 * k + 0) % 2 = 0)) = (k, true)
  rw [show (2 * k + 0) / 2 = k by omega, decide_eq_true (by omega)]
theorem vc_lt {x : Nat × Bool} {N : Nat} (h : x.1 < N) : vc x < 2 * N := by unfold vc; split <;> omega
structure SIn (G : GrF) (f : Flo) (B Q : List Int) (q : Nat) : Prop where
 len : B.length = 2 * G.N
 qle : q ≤ Q.length
 qn : ∀ j, j < Q.length → ∃ z : Nat, Q.getD j default = (z : Int) ∧ z < 2 * G.N ∧ B.getD z default ≠ -2 ∧ ¬ G.free (z / 2)
 inj : ∀ i j, i < Q.length → j < Q.length → Q.getD i default = Q.getD j default → i = j
 all : ∀ z, z < 2 * G.N → B.getD z default ≠ -2 → ∃ j, j < Q.length ∧ Q.getD j default = (z : Int)
 frm : ∀ j (z : Nat), j < Q.length → Q.getD j default = (z : Int) → (B.getD z default = -1 ∧ z % 2 = 0 ∧ ∃ p, G.free p ∧ G.arc p (z / 2)) ∨ ∃ i, ∃ y : Nat, i < j ∧ Q.getD i default = (y : Int) ∧ B.getD z default = (y : Int) ∧ Stp G f (cv y) (cv z)
 don : ∀ j (z : Nat), j < q → Q.getD j default = (z : Int) → ∀ x, Stp G f (cv z) x → ¬ G.free x.1 → B.getD (vc x) default ≠ -2
 nol : ∀ j (z : Nat), j < q → Q.getD j default = (z : Int) → z % 2 = 1 → ¬ G.leaf (z / 2)
theorem set_get2 {B : List Int} {z w : Nat} {y : Int} (hz : z < B.length) : (B.set z y).getD w default = if w = z then y else B.getD w default := by
 by_cases h : w = z
 ·subst h
  rw [if_pos rfl, List.getD_eq_getElem?_getD, List.getElem?_set_self hz, Option.getD_some]
 ·rw [if_neg h, List.getD_eq_getElem?_getD, List.getElem?_set_ne (fun h2 => h h2.symm), ← List.getD_eq_getElem?_getD]
theorem SIn.add {G : GrF} {f : Flo} {B Q : List Int} {q : Nat} (h : SIn G f B Q q) {z : Nat} {y : Int} (hz : z < 2 * G.N) (hn : B.getD z default = -2) (hy : y ≠ -2) (hf : ¬ G.free (z / 2))
  (hfr : (y = -1 ∧ z % 2 = 0 ∧ ∃ p, G.free p ∧ G.arc p (z / 2)) ∨ ∃ i, ∃ w : Nat, i < Q.length ∧ Q.getD i default = (w : Int) ∧ y = (w : Int) ∧ Stp G f (cv w) (cv z)) : SIn G f (B.set z y) (Q ++ [(z : Int)]) q := by
 have hl := h.len
 have hset : ∀ w, (B.set z y).getD w default = if w = z then y else B.getD w default := fun w => set_get2 (by omega)
 have hup : ∀ w, B.getD w default ≠ -2 → (B.set z y).getD w default ≠ -2 := fun w hw => by
  rw [hset]; split
  ·exact hy
  ·exact hw
 have hQ : ∀ j, j < (Q ++ [(z : Int)]).length → (j < Q.length ∧ (Q ++ [(z : Int)]).getD j default = Q.getD j default) ∨ (j = Q.length ∧ (Q ++ [(z : Int)]).getD j default = (z : Int)) := fun j hj => by
  by_cases h1 : j < Q.length
  ·exact .inl ⟨h1, snoc_lt h1⟩
  ·simp at hj
   obtain rfl : j = Q.length := by omega
   exact .inr ⟨rfl, snoc_eq⟩
 have hnz : ∀ j, j < Q.length → Q.getD j default ≠ (z : Int) := fun j hj he => by
  obtain ⟨w, w1, _, w3, _⟩ := h.qn j hj
  rw [w1] at he
  have : w = z := by omega
  subst this
  exact w3 hn
 refine ⟨by rw [List.length_set]; exact hl, by simp; have := h.qle; omega, fun j hj => ?_, fun i j hi hj he => ?_, fun w hw hb => ?_, fun j w hj hw => ?_, fun j w hj hw x hs hx => ?_, fun j w hj hw => ?_⟩
 ·rcases hQ j hj with ⟨h1, h2⟩ | ⟨h1, h2⟩
  ·obtain ⟨w, w1, w2, w3, w4⟩ := h.qn j h1
   exact ⟨w, by rw [h2, w1], w2, hup w w3, w4⟩
  ·exact ⟨z, h2, hz, by rw [hset, if_pos rfl]; exact hy, hf⟩
 ·rcases hQ i hi with ⟨h1, h2⟩ | ⟨h1, h2⟩ <;> rcases hQ j hj with ⟨h3, h4⟩ | ⟨h3, h4⟩
  ·exact h.inj i j h1 h3 (by rw [← h2, ← h4]; exact he)
  ·rw [h2, h4] at he; exact absurd he (hnz i h1)
  ·rw [h2, h4] at he; exact absurd he.symm (hnz j h3)
  ·omega
 ·by_cases hwz : w = z
  ·subst hwz; exact ⟨Q.length, by simp, snoc_eq⟩
  ·rw [hset, if_neg hwz] at hb
   obtain ⟨j, j1, j2⟩ := h.all w hw hb
   exact ⟨j, by simp; omega, by rw [snoc_lt j1]; exact j2⟩
 ·rcases hQ j hj with ⟨h1, h2⟩ | ⟨h1, h2⟩
  ·rw [h2] at hw
   have hwz : w ≠ z := fun he => hnz j h1 (by rw [hw, he])
   rw [hset, if_neg hwz]
   rcases h.frm j w h1 hw with h3 | ⟨i, y', i1, i2, i3, i4⟩
   ·exact .inl h3
   ·exact .inr ⟨i, y', i1, by rw [snoc_lt (by omega)]; exact i2, i3, i4⟩
  ·rw [h2] at hw
   have hwz : w = z := by omega
   subst hwz
   rw [hset, if_pos rfl]
   rcases hfr with h3 | ⟨i, w', i1, i2, i3, i4⟩
   ·exact .inl h3
   ·exact .inr ⟨i, w', by omega, by rw [snoc_lt i1]; exact i2, i3, i4⟩
 ·have hjl : j < Q.length := by have := h.qle; omega
  rw [snoc_lt hjl] at hw
  exact hup _ (h.don j w hj hw x hs hx)
 ·have hjl : j < Q.length := by have := h.qle; omega
  rw [snoc_lt hjl] at hw
  exact h.nol j w hj hw
theorem SIn.next {G : GrF} {f : Flo} {B Q : List Int} {q z : Nat} (h : SIn G f B Q q) (hq : q < Q.length) (hz : Q.getD q default = (z : Int)) (hd : ∀ x, Stp G f (cv z) x → ¬ G.free x.1 → B.getD (vc x) default ≠ -2) (hl : z % 2 = 1 → ¬ G.leaf (z / 2)) : SIn G f B Q (q + 1) :=
 ⟨h.len, by omega, h.qn, h.inj, h.all, h.frm, fun j w hj hw => by
  by_cases hjq : j = q
  ·subst hjq
   have : w = z := by rw [hz] at hw; omega
   subst this
   exact hd
  ·exact h.don j w (by omega) hw, fun j w hj hw => by
  by_cases hjq : j = q
  ·subst hjq
   have : w = z := by rw [hz] at hw; omega
   subst this
   exact hl
  ·exact h.nol j w (by omega) hw⟩
theorem nodup_ltX : ∀ (N : Nat) (L : List Nat), L.Nodup → (∀ x, x ∈ L → x < N) → L.length ≤ N
 | 0, L, _, h => by
  cases L with
  | nil => exact Nat.le_refl _
  | cons x L => exact absurd (h x (by simp)) (by omega)
 | N + 1, L, hn, h => by
  by_cases hm : N ∈ L
  ·have h1 := nodup_ltX N (L.erase N) (hn.erase N) fun x hx => by
    have h2 := h x (List.mem_of_mem_erase hx)
    have h3 : x ≠ N := fun he => by subst he; exact (List.Nodup.not_mem_erase hn) hx
    omega
   rw [List.length_erase_of_mem hm] at h1
   omega
  ·have h1 := nodup_ltX N L hn fun x hx => by
    have h2 := h x hx
    have h3 : x ≠ N := fun he => hm (he ▸ hx)
    omega
   omega
def SSrc (G : GrF) (B : List Int) : Prop := ∀ p c, G.free p → G.arc p c → ¬ G.free c → B.getD (2 * c) default ≠ -2
theorem SIn.reach {G : GrF} {f : Flo} {B Q : List Int} {q : Nat} (h : SIn G f B Q q) : ∀ m j (z : Nat), j < m → j < Q.length → Q.getD j default = (z : Int) → Rch G f (cv z).1 (cv z).2
 | 0, _, _, hm, _, _ => by omega
 | m + 1, j, z, hm, hj, hz => by
  rcases h.frm j z hj hz with ⟨_, h2, p, h3, h4⟩ | ⟨i, y, i1, i2, i3, i4⟩
  ·have e : (cv z).2 = true := decide_eq_true h2
   rw [e]
   exact .arc (.srcF h3) h4
  ·exact i4.res (h.reach m i y (by omega) (by omega) i2)
theorem SIn.rch {G : GrF} (hG : GrOk G) {f : Flo} (hf : FlP G f) (hfr : ∀ k, G.free k → k < G.N) {B Q : List Int} (h : SIn G f B Q Q.length) (hs : SSrc G B) {k : Nat} {b : Bool} : Rch G f k b ↔ G.free k ∨ (k < G.N ∧ B.getD (vc (k, b)) default ≠ -2) := by
 constructor
 ·intro r
  have stp : ∀ x y : Nat × Bool, (G.free x.1 ∨ (x.1 < G.N ∧ B.getD (vc x) default ≠ -2)) → ¬ G.free x.1 → Stp G f x y → y.1 < G.N → G.free y.1 ∨ (y.1 < G.N ∧ B.getD (vc y) default ≠ -2) := fun x y hx hnx hst hy => by
   by_cases hfy : G.free y.1
   ·exact .inl hfy
   ·obtain ⟨hx1, hx2⟩ := hx.resolve_left hnx
    obtain ⟨j, j1, j2⟩ := h.all (vc x) (vc_lt hx1) hx2
    exact .inr ⟨hy, h.don j (vc x) j1 j2 y (by rw [cv_vc]; exact hst) hfy⟩
  induction r with
  | srcT h1 => exact .inl h1
  | srcF h1 => exact .inl h1
  | @thru k r h1 h2 ih => exact stp (k, true) (k, false) ih h1 (.thru (.inr h2)) (r.lt hG hf hfr)
  | @undo k p r h1 ih =>
   have harc := hf.ea p k (by omega)
   by_cases hk : G.free k
   ·exact .inl (hG.arcF p k harc hk)
   ·exact stp (k, true) (p, false) ih hk (.undo h1 harc) (hG.arcN p k harc).1
  | @arc k c r h1 ih =>
   by_cases hk : G.free k
   ·by_cases hc : G.free c
    ·exact .inl hc
    ·exact .inr ⟨(hG.arcN k c h1).2, hs k c hk h1 hc⟩
   ·exact stp (k, false) (c, true) ih hk (.arc h1) (hG.arcN k c h1).2
  | @rev k r h1 ih =>
   by_cases hk : G.free k
   ·exact .inl hk
   ·exact stp (k, false) (k, true) ih hk (.rev h1) (r.lt hG hf hfr)
 ·rintro (h1 | ⟨h1, h2⟩)
  ·cases b
   ·exact .srcF h1
   ·exact .srcT h1
  ·obtain ⟨j, j1, j2⟩ := h.all (vc (k, b)) (vc_lt h1) h2
   have := h.reach (j + 1) j _ (by omega) j1 j2
   rw [cv_vc] at this
   exact this
theorem SIn.term {G : GrF} (hG : GrOk G) {f : Flo} (hf : FlP G f) (hfr : ∀ k, G.free k → k < G.N) (hl : ∀ k, G.leaf k → ¬ G.free k) {B Q : List Int} (h : SIn G f B Q Q.length) (hs : SSrc G B) : Term G f := fun k r hk => by
 rcases (h.rch hG hf hfr hs).1 r with h1 | ⟨h1, h2⟩
 ·exact hl k hk h1
 ·obtain ⟨j, j1, j2⟩ := h.all (vc (k, false)) (vc_lt h1) h2
  have e : vc (k, false) = 2 * k + 1 := rfl
  refine h.nol j _ j1 j2 (by rw [e]; omega) ?_
  rw [e, show (2 * k + 1) / 2 = k by omega]
  exact hk
theorem SIn.near {G : GrF} (hG : GrOk G) {f : Flo} (hf : FlP G f) (hfr : ∀ k, G.free k → k < G.N) {B Q : List Int} (h : SIn G f B Q Q.length) (hs : SSrc G B) {k : Nat} (hk : k < G.N) : NrC G f k ↔ B.getD (2 * k) default ≠ -2 ∧ B.getD (2 * k + 1) default = -2 := by
 have hno : ∀ b, G.free k → B.getD (vc (k, b)) default = -2 := fun b hfk => Classical.byContradiction fun hne => by
  obtain ⟨j, j1, j2⟩ := h.all (vc (k, b)) (vc_lt hk) hne
  obtain ⟨z, z1, _, _, z4⟩ := h.qn j j1
  have : z = vc (k, b) := by rw [j2] at z1; omega
  subst this
  refine z4 ?_
  have e := congrArg Prod.fst (cv_vc (k, b))
  have e : vc (k, b) / 2 = k := e
  rw [e]; exact hfk
 unfold NrC
 rw [h.rch hG hf hfr hs, h.rch hG hf hfr hs]
 have e1 : vc (k, true) = 2 * k := rfl
 have e2 : vc (k, false) = 2 * k + 1 := rfl
 constructor
 ·rintro ⟨h1, h2⟩
  have hnf : ¬ G.free k := fun h3 => h2 (.inl h3)
  obtain ⟨_, h4⟩ := h1.resolve_left hnf
  exact ⟨by rw [← e1]; exact h4, Classical.byContradiction fun h5 => h2 (.inr ⟨hk, by rw [e2]; exact h5⟩)⟩
 ·rintro ⟨h1, h2⟩
  have hnf : ¬ G.free k := fun h3 => h1 (by rw [← e1]; exact hno true h3)
  exact ⟨.inr ⟨hk, by rw [e1]; exact h1⟩, fun h3 => (h3.resolve_left hnf).2 (by rw [e2]; exact h2)⟩
structure RepM (G : GrF) (U : List Bool) (V : List Int) (par : Nat → Nat) (f : Flo) (pend : Option Nat) : Prop where
 g : ∀ k, f.g k = ind (U.getD k default = true)
 e : ∀ c, pend ≠ some c → ∀ p, f.e p c = ind (U.getD c default = true ∧ par c = p)
 pe : ∀ c, pend = some c → U.getD c default = true ∧ ∀ p, f.e p c = 0
 par : ∀ c, pend ≠ some c → U.getD c default = true → (0 ≤ V.getD c default → V.getD c default = (par c : Int) ∧ ¬ G.free (par c)) ∧ (V.getD c default < 0 → G.free (par c))
theorem RepM.zero (G : GrF) (N : Nat) (V : List Int) : RepM G (List.replicate N false) V (fun _ => 0) ⟨fun _ => 0, fun _ _ => 0⟩ none := by
 have hU : ∀ k, (List.replicate N false).getD k default = false := fun k => by
  rw [List.getD_eq_getElem?_getD, List.getElem?_replicate]; split <;> rfl
 refine ⟨fun k => ?_, fun c _ p => ?_, fun c h => (by cases h), fun c _ h => ?_⟩
 ·rw [hU, ind_no (by decide)]
 ·rw [hU, ind_no (fun h => by cases h.1)]
 ·rw [hU] at h; cases h
theorem boolset {U : List Bool} {k j : Nat} {b : Bool} (hk : k < U.length) : (U.set k b).getD j default = if j = k then b else U.getD j default := by
 by_cases h : j = k
 ·subst h
  rw [if_pos rfl, List.getD_eq_getElem?_getD, List.getElem?_set_self hk, Option.getD_some]
 ·rw [if_neg h, List.getD_eq_getElem?_getD, List.getElem?_set_ne (fun h2 => h h2.symm), ← List.getD_eq_getElem?_getD]
theorem RepM.thru {G : GrF} {U : List Bool} {V : List Int} {par : Nat → Nat} {f : Flo} (h : RepM G U V par f none) {k : Nat} (hk : k < U.length) (h0 : f.g k = 0) : RepM G (U.set k true) V par (bump f (k, true) (k, false)) (some k) := by
 have e : bump f (k, true) (k, false) = ⟨upd1 f.g k 1, f.e⟩ := by unfold bump; rw [if_pos rfl]; rfl
 have hUk : ¬ U.getD k default = true := fun hh => by
  have := h.g k
  rw [ind_yes hh] at this; omega
 rw [e]
 refine ⟨fun j => ?_, fun c hc p => ?_, fun c hc => ?_, fun c hc hU => ?_⟩
 ·show upd1 f.g k 1 j = _
  rw [boolset hk]
  by_cases hj : j = k
  ·subst hj; rw [upd1_at, h0, if_pos rfl, ind_yes rfl]; rfl
  ·rw [upd1_ne hj, if_neg hj]; exact h.g j
 ·have hck : c ≠ k := fun he => hc (by rw [he])
  rw [boolset hk, if_neg hck]; exact h.e c (by simp) p
 ·have hck : k = c := Option.some.inj hc
  subst hck
  refine ⟨by rw [boolset hk, if_pos rfl], fun p => ?_⟩
  show f.e p k = 0
  rw [h.e k (by simp), ind_no (fun hh => hUk hh.1)]
 ·have hck : c ≠ k := fun he => hc (by rw [he])
  rw [boolset hk, if_neg hck] at hU
  exact h.par c (by simp) hU
theorem RepM.rev {G : GrF} {U : List Bool} {V : List Int} {par : Nat → Nat} {f : Flo} {k : Nat} (h : RepM G U V par f (some k)) (hk : k < U.length) : RepM G (U.set k false) V par (bump f (k, false) (k, true)) none := by
 have e : bump f (k, false) (k, true) = ⟨upd1 f.g k (-1), f.e⟩ := by unfold bump; rw [if_pos rfl]; rfl
 obtain ⟨hU, he⟩ := h.pe k rfl
 rw [e]
 refine ⟨fun j => ?_, fun c _ p => ?_, fun c hc => (by cases hc), fun c _ hU2 => ?_⟩
 ·show upd1 f.g k (-1) j = _
  rw [boolset hk]
  by_cases hj : j = k
  ·subst hj; rw [upd1_at, h.g j, ind_yes hU, if_pos rfl, ind_no (by decide)]; rfl
  ·rw [upd1_ne hj, if_neg hj]; exact h.g j
 ·show f.e p c = _
  rw [boolset hk]
  by_cases hc : c = k
  ·subst hc; rw [he p, if_pos rfl, ind_no (fun hh => by cases hh.1)]
  ·rw [if_neg hc]; exact h.e c (fun hh => hc (Option.some.inj hh).symm) p
 ·rw [boolset hk] at hU2
  by_cases hc : c = k
  ·rw [if_pos hc] at hU2; cases hU2
  ·rw [if_neg hc] at hU2
   exact h.par c (fun hh => hc (Option.some.inj hh).symm) hU2
theorem RepM.undo {G : GrF} {U : List Bool} {V : List Int} {par : Nat → Nat} {f : Flo} {c p : Nat} (h : RepM G U V par f none) (hpc : p ≠ c) (h0 : 0 < f.e p c) : RepM G U V par (bump f (c, true) (p, false)) (some c) := by
 have e : bump f (c, true) (p, false) = ⟨f.g, upd2 f.e p c (-1)⟩ := by unfold bump; rw [if_neg (fun h => hpc h.symm)]; rfl
 have hce := h.e c (by simp)
 have hcp : U.getD c default = true ∧ par c = p := Classical.byContradiction fun hno => by
  have := hce p
  rw [ind_no hno] at this; omega
 rw [e]
 refine ⟨h.g, fun d hd q => ?_, fun d hd => ?_, fun d hd hU => h.par d (by simp) hU⟩
 ·have hdc : d ≠ c := fun he => hd (by rw [he])
  show upd2 f.e p c (-1) q d = _
  rw [upd2_ne (fun hh => hdc hh.2)]
  exact h.e d (by simp) q
 ·have hdc : c = d := Option.some.inj hd
  subst hdc
  refine ⟨hcp.1, fun q => ?_⟩
  show upd2 f.e p c (-1) q c = 0
  by_cases hq : q = p
  ·subst hq; rw [upd2_at, hce q, ind_yes hcp]; rfl
  ·rw [upd2_ne (fun hh => hq hh.1), hce q, ind_no (fun hh => hq (hh.2.symm.trans hcp.2))]
end Go.Xw
