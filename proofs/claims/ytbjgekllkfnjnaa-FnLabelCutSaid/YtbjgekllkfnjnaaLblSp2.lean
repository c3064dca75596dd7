/- How the reference sends a unit along the way that it found, as plain data; no condition but the stated ones. -/
import Derived.Test.YtbjgekllkfnjnaaLblSp
set_option linter.all false
namespace Go.Xw
set_option maxHeartbeats 1000000
structure PushS (G : GrF) (f : Flo) (Q : List Int) (U : List Bool) (V : List Int) (j z : Nat) (par : Nat → Nat) (f' : Flo) : Prop where
 j0 : 0 < j
 jq : j ≤ Q.length
 at_ : Q.getD (j - 1) default = (z : Int)
 pin : ∃ seen, PIn G f f' (cv z) seen ∧ ∀ s, seen s → ∃ i, j - 1 ≤ i ∧ i < Q.length ∧ Q.getD i default = (vc s : Int)
 rep : RepM G U V par f' (if z % 2 = 0 then some (z / 2) else none)
theorem PushS.start {G : GrF} {f : Flo} (hf : FlP G f) {U : List Bool} {V : List Int} {par : Nat → Nat} (hr : RepM G U V par f none) {B Q : List Int} {q : Nat} (hS : SIn G f B Q q) {z : Nat} (hq : q < Q.length) (hz : Q.getD q default = (z : Int)) (h2 : z % 2 = 1) (hl : G.leaf (z / 2)) : PushS G f Q U V (q + 1) z par f where
 j0 := by omega
 jq := by omega
 at_ := hz
 pin := by
  obtain ⟨z', h3, _, _, h4⟩ := hS.qn q hq
  obtain rfl : z' = z := by omega
  refine ⟨_, by rw [show cv z' = (z' / 2, false) from by unfold cv; rw [decide_eq_false (by omega)]]; exact PIn.start hf hl h4, fun s hs => ⟨q, by omega, hq, ?_⟩⟩
  rw [hz, hs]
  show (z' : Int) = ((2 * (z' / 2) + 1 : Nat) : Int)
  omega
 rep := by rw [if_neg (by omega)]; exact hr
theorem PushS.kind {G : GrF} (hG : GrOk G) {f : Flo} (hf : FlP G f) (hfr : ∀ k, G.free k → k < G.N) {B Q : List Int} {q : Nat} (hS : SIn G f B Q q) {U : List Bool} {V : List Int} (hU : U.length = G.N) (hV : V.length = G.N) {j z : Nat} {par : Nat → Nat} {f' : Flo} (h : PushS G f Q U V j z par f') :
  (B.getD z default = -1 ∧ z % 2 = 0 ∧ ∃ par' f2, FlP G f2 ∧ f2.tot G = f.tot G + 1 ∧ RepM G U (V.set (z / 2) (-1)) par' f2 none) ∨
  ∃ i y : Nat, i + 1 < j ∧ B.getD z default = (y : Int) ∧ y < 2 * G.N ∧
   ((z % 2 = 1 ∧ z = y + 1 ∧ ∃ par' f2, PushS G f Q (U.set (z / 2) true) V (i + 1) y par' f2) ∨
    (z % 2 = 0 ∧ y = z + 1 ∧ ∃ par' f2, PushS G f Q (U.set (z / 2) false) V (i + 1) y par' f2) ∨
    (z % 2 = 0 ∧ y % 2 = 1 ∧ y ≠ z + 1 ∧ ∃ par' f2, PushS G f Q U (V.set (z / 2) ((y / 2 : Nat) : Int)) (i + 1) y par' f2) ∨
    (z % 2 = 1 ∧ y % 2 = 0 ∧ z ≠ y + 1 ∧ ∃ par' f2, PushS G f Q U V (i + 1) y par' f2)) := by
 obtain ⟨seen, hp, hs⟩ := h.pin
 have hj0 := h.j0
 have hjq := h.jq
 have hat := h.at_
 have hrep := h.rep
 obtain ⟨z', h3, hzN, hzB, hzf⟩ := hS.qn (j - 1) (by omega)
 obtain rfl : z' = z := by omega
 have hkN : z' / 2 < G.N := by omega
 have ev : ∀ {w : Nat}, w % 2 = 0 → cv w = (w / 2, true) := fun {w} hw => by unfold cv; rw [decide_eq_true hw]
 have od : ∀ {w : Nat}, w % 2 = 1 → cv w = (w / 2, false) := fun {w} hw => by unfold cv; rw [decide_eq_false (by omega)]
 rcases hS.frm (j - 1) z' (by omega) hat with ⟨h4, h5, p, h6, h7⟩ | ⟨i, y, h4, h5, h6, h7⟩
 ·left
  rw [if_pos h5] at hrep
  rw [ev h5] at hp
  have hns : ¬ seen (p, false) := fun hh => by
   obtain ⟨i, _, i2, i3⟩ := hs _ hh
   obtain ⟨y, y1, _, _, y2⟩ := hS.qn i i2
   have e : y = 2 * p + 1 := by
    have : vc (p, false) = 2 * p + 1 := rfl
    omega
   subst e
   exact y2 (by rw [show (2 * p + 1) / 2 = p by omega]; exact h6)
  have hst := hp.step hG (.arc h7) hns (hfr p h6)
  obtain ⟨d1, d2⟩ := hst.done h6
  exact ⟨h4, h5, _, _, d1, d2, hrep.feed (by omega) (hG.arcI _ _ h7) (.inr ⟨rfl, h6⟩)⟩
 ·right
  obtain ⟨y', y1, yN, _, yf⟩ := hS.qn i (by omega)
  obtain rfl : y' = y := by omega
  have hns : ¬ seen (cv y') := fun hh => by
   obtain ⟨i', i1, i2, i3⟩ := hs _ hh
   rw [vc_cv] at i3
   have := hS.inj i i' (by omega) i2 (by omega)
   omega
  have hyk : (cv y').1 < G.N := by show y' / 2 < G.N; omega
  have hst := hp.step hG h7 hns hyk
  have hpin : ∃ seen', PIn G f (bump f' (cv y') (cv z')) (cv y') seen' ∧ ∀ s, seen' s → ∃ i', i + 1 - 1 ≤ i' ∧ i' < Q.length ∧ Q.getD i' default = (vc s : Int) := by
   refine ⟨_, hst, fun s hh => ?_⟩
   rcases hh with rfl | hh
   ·exact ⟨i, by omega, by omega, by rw [vc_cv]; exact h5⟩
   ·obtain ⟨i', i1, i2, i3⟩ := hs _ hh
    exact ⟨i', by omega, i2, i3⟩
  refine ⟨i, y', by omega, h6, yN, ?_⟩
  rcases Nat.mod_two_eq_zero_or_one z' with hz | hz
  ·rcases Nat.mod_two_eq_zero_or_one y' with hy | hy
   ·rw [ev hz, ev hy] at h7
    generalize z' / 2 = k at h7
    generalize y' / 2 = m at h7
    cases h7
   ·rw [ev hz, od hy] at h7
    rw [if_pos hz] at hrep
    generalize hk : z' / 2 = k at *
    generalize hm : y' / 2 = m at *
    cases h7 with
    | rev h8 =>
     refine .inr (.inl ⟨hz, by omega, par, _, by omega, by omega, h5, hpin, ?_⟩)
     rw [if_neg (by omega), ev hz, od hy, hk, hm]
     exact hrep.rev (by omega)
    | arc h8 =>
     have hne := hG.arcI _ _ h8
     refine .inr (.inr (.inl ⟨hz, hy, by omega, fun c => if c = k then m else par c, _, by omega, by omega, h5, hpin, ?_⟩))
     rw [if_neg (by omega), ev hz, od hy, hk, hm]
     exact hrep.feed (by omega) hne (.inl ⟨rfl, yf⟩)
  ·rcases Nat.mod_two_eq_zero_or_one y' with hy | hy
   ·rw [od hz, ev hy] at h7
    rw [if_neg (by omega)] at hrep
    rw [ev hy] at hns
    generalize hk : z' / 2 = k at *
    generalize hm : y' / 2 = m at *
    cases h7 with
    | thru h8 =>
     have hg := (hp.oldT k hns).1
     refine .inl ⟨hz, by omega, par, _, by omega, by omega, h5, hpin, ?_⟩
     rw [if_pos hy, od hz, ev hy, hk, hm]
     exact hrep.thru (by omega) (by rw [hg]; exact h8.resolve_left hzf)
    | undo h8 h9 =>
     have hne := hG.arcI _ _ h9
     have he := (hp.oldT m hns).2 k
     refine .inr (.inr (.inr ⟨hz, hy, by omega, par, _, by omega, by omega, h5, hpin, ?_⟩))
     rw [if_pos hy, od hz, ev hy, hk, hm]
     exact hrep.undo hne (by rw [he]; exact h8)
   ·rw [od hz, od hy] at h7
    generalize z' / 2 = k at h7
    generalize y' / 2 = m at h7
    cases h7
end Go.Xw
