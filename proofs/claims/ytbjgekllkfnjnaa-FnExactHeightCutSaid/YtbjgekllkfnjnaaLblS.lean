/- The contracts of the reference's functions on labels: fan-in and search; each under its stated conditions. -/
import Derived.Test.YtbjgekllkfnjnaaLblSp
import Derived.Test.YtbjgekllkfnjnaaCone
import Derived.Test.YtbjgekllkfnjnaaFam
set_option linter.all false
namespace Go.Xw
set_option maxHeartbeats 1000000
def fanL (n : NetL) (k : Nat) : List Int :=
 if k < fst_ n then [] else (if 1 < (n.ands.getD (k - fst_ n) default).1 then [(n.ands.getD (k - fst_ n) default).1 / 2] else []) ++ (if 1 < (n.ands.getD (k - fst_ n) default).2 then [(n.ands.getD (k - fst_ n) default).2 / 2] else [])
theorem fan_mem {n : NetL} (hok : NetOkP n) {k : Nat} (hk : k < nds n) {z : Int} : z ∈ fanL n k ↔ ∃ i, i < n.ands.length ∧ k = fst_ n + i ∧ ∃ c : Nat, z = (c : Int) ∧ c ≠ 0 ∧ c < k ∧ (c = kA n i ∨ c = kB n i) := by
 have hn := hok.nums
 obtain ⟨n1, n2, n3, n4, n5, n6⟩ := hn
 unfold fanL
 by_cases h : k < fst_ n
 ·rw [if_pos h]
  constructor
  ·intro hz; cases hz
  ·rintro ⟨i, _, h2, _⟩; omega
 ·rw [if_neg h]
  have hi : k - fst_ n < n.ands.length := by omega
  obtain ⟨⟨q1, q2⟩, q3, q4⟩ := hok.ands _ hi
  have ka := n5 _ hi
  have kb := n6 _ hi
  have ea : ((kA n (k - fst_ n) : Nat) : Int) = (n.ands.getD (k - fst_ n) default).1 / 2 := Int.toNat_of_nonneg (show 0 ≤ (n.ands.getD (k - fst_ n) default).1 / 2 by omega)
  have eb : ((kB n (k - fst_ n) : Nat) : Int) = (n.ands.getD (k - fst_ n) default).2 / 2 := Int.toNat_of_nonneg (show 0 ≤ (n.ands.getD (k - fst_ n) default).2 / 2 by omega)
  rw [List.mem_append]
  constructor
  ·intro hz
   refine ⟨k - fst_ n, hi, by omega, ?_⟩
   rcases hz with hz | hz
   ·split at hz
    ·rw [List.mem_singleton] at hz
     exact ⟨kA n (k - fst_ n), by omega, by omega, by omega, .inl rfl⟩
    ·cases hz
   ·split at hz
    ·rw [List.mem_singleton] at hz
     exact ⟨kB n (k - fst_ n), by omega, by omega, by omega, .inr rfl⟩
    ·cases hz
  ·rintro ⟨i, h1, h2, c, h3, h4, _, h5⟩
   obtain rfl : i = k - fst_ n := by omega
   rcases h5 with h5 | h5
   ·left; rw [if_pos (by omega), List.mem_singleton]; omega
   ·right; rw [if_pos (by omega), List.mem_singleton]; omega
theorem fan_arc {n : NetL} (hok : NetOkP n) {k0 k : Nat} (hk : k < nds n) (hc : InCone n k0 k) {z : Int} : z ∈ fanL n k ↔ ∃ c : Nat, z = (c : Int) ∧ lgArc n k0 k c := by
 rw [fan_mem hok hk]
 constructor
 ·rintro ⟨i, h1, h2, c, h3, h4, _, h5⟩
  exact ⟨c, h3, hc, h4, i, h1, h2, h5⟩
 ·rintro ⟨c, h3, h⟩
  have hlt := lgArc.lt hok.nums h
  obtain ⟨_, h4, i, h1, h2, h5⟩ := h
  exact ⟨i, h1, h2, c, h3, h4, hlt.1, h5⟩
theorem fan_len (n : NetL) (k : Nat) : (fanL n k).length ≤ 2 := by
 unfold fanL
 split
 ·simp
 ·split <;> split <;> simp
theorem fan_at {n : NetL} (hok : NetOkP n) {k : Nat} (hk : k < nds n) {i : Nat} (hi : i < (fanL n k).length) : ∃ c : Nat, (fanL n k).getD i default = (c : Int) ∧ c < nds n := by
 have hm : (fanL n k).getD i default ∈ fanL n k := by
  rw [List.getD_eq_getElem?_getD, List.getElem?_eq_getElem hi]
  exact List.getElem_mem hi
 obtain ⟨_, _, _, c, h1, _, h2, _⟩ := (fan_mem hok hk).1 hm
 exact ⟨c, h1, by omega⟩
theorem mem_getD {α : Type} [Inhabited α] {X : List α} {y : α} (h : y ∈ X) : ∃ i, i < X.length ∧ X.getD i default = y := by
 obtain ⟨i, hi, he⟩ := List.getElem_of_mem h
 exact ⟨i, hi, by rw [List.getD_eq_getElem?_getD, List.getElem?_eq_getElem hi]; exact he⟩
theorem rch_cone {n : NetL} (hn : Nums n) {k0 : Nat} {L : List Int} {h : Int} (hL : LblOk n L k0) (hk2 : fst_ n ≤ k0) (hh : 1 ≤ h) {f : Flo} (hf : FlP (lgG n k0 L h) f) {k : Nat} {b : Bool} (r : Rch (lgG n k0 L h) f k b) : InCone n k0 k ∧ k ≠ 0 := by
 have n1 := hn.n1
 have f1 := hn.f1
 have src : ∀ k, lgFree n k0 L h k → InCone n k0 k ∧ k ≠ 0 := fun k hk => by
  rcases hk with rfl | ⟨h1, h2⟩
  ·exact ⟨.refl _, by omega⟩
  ·refine ⟨h1, fun h3 => ?_⟩
   have h4 := hL.leaf k (by have := hn.f1; omega)
   omega
 induction r with
 | srcT h1 => exact src _ h1
 | srcF h1 => exact src _ h1
 | thru _ _ _ ih => exact ih
 | @undo k p r h0 ih =>
  have ha : lgArc n k0 p k := hf.ea p k (by omega)
  have := lgArc.lt hn ha
  exact ⟨ha.1, by omega⟩
 | @arc k c r ha ih => exact ⟨lgArc.cone ha, ha.2.1⟩
 | rev _ _ ih => exact ih
theorem cv_even {z : Nat} (h : z % 2 = 0) : cv z = (z / 2, true) := by unfold cv; rw [decide_eq_true h]
theorem cv_odd {z : Nat} (h : z % 2 = 1) : cv z = (z / 2, false) := by unfold cv; rw [decide_eq_false (by omega)]
theorem SIn.zero (G : GrF) (f : Flo) : SIn G f (List.replicate (2 * G.N) (-2)) [] 0 := by
 have hB : ∀ z, z < 2 * G.N → (List.replicate (2 * G.N) (-2 : Int)).getD z default = -2 := fun z hz => by
  rw [List.getD_eq_getElem?_getD, List.getElem?_replicate, if_pos hz]; rfl
 refine ⟨by simp, Nat.le_refl _, fun j hj => ?_, fun i j hi => ?_, fun z hz hb => absurd (hB z hz) hb, fun j z hj => ?_, fun j z hj => ?_, fun j z hj => ?_⟩
 ·cases hj
 ·cases hi
 ·cases hj
 ·cases hj
 ·cases hj
theorem set_up {B : List Int} {z w : Nat} {y : Int} (hz : z < B.length) (hy : y ≠ -2) (h : B.getD w default ≠ -2) : (B.set z y).getD w default ≠ -2 := by
 rw [set_get2 hz]
 split
 ·exact hy
 ·exact h
theorem set_on {B : List Int} {z : Nat} {y : Int} (hz : z < B.length) (hy : y ≠ -2) : (B.set z y).getD z default ≠ -2 := by rw [set_get2 hz, if_pos rfl]; exact hy
structure NxOk (G : GrF) (f : Flo) (z : Nat) (NX : List Int) : Prop where
 st : ∀ y, y ∈ NX → ∃ w : Nat, y = (w : Int) ∧ w < 2 * G.N ∧ ¬ G.free (w / 2) ∧ Stp G f (cv z) (cv w)
 cl : ∀ s, Stp G f (cv z) s → ¬ G.free s.1 → ((vc s : Nat) : Int) ∈ NX
 lf : z % 2 = 1 → ¬ G.leaf (z / 2)
theorem nx_thru {G : GrF} {U : List Bool} {V : List Int} {par : Nat → Nat} {f : Flo} (hr : RepM G U V par f none) {z : Nat} (hz : z < 2 * G.N) (h2 : z % 2 = 0) (hfz : ¬ G.free (z / 2)) (hU : U.getD (z / 2) default = false) : NxOk G f z [2 * ((z / 2 : Nat) : Int) + 1] := by
 have hU : ¬ U.getD (z / 2) default = true := by rw [hU]; decide
 have hg := hr.g (z / 2)
 rw [ind_no hU] at hg
 refine ⟨fun y hy => ?_, fun s hs hns => ?_, fun h => by omega⟩
 ·rw [List.mem_singleton] at hy
  refine ⟨z + 1, by omega, by omega, by rw [show (z + 1) / 2 = z / 2 by omega]; exact hfz, ?_⟩
  rw [cv_even h2, cv_odd (by omega), show (z + 1) / 2 = z / 2 by omega]
  exact .thru (.inr hg)
 ·rw [cv_even h2] at hs
  cases hs with
  | thru _ => rw [List.mem_singleton]; show ((2 * (z / 2) + 1 : Nat) : Int) = _; omega
  | @undo p _ h0 ha =>
   rw [hr.e _ (by simp), ind_no (fun h => hU h.1)] at h0
   omega
theorem nx_undo {G : GrF} (hG : GrOk G) {U : List Bool} {V : List Int} {par : Nat → Nat} {f : Flo} (hf : FlP G f) (hr : RepM G U V par f none) {z : Nat} (h2 : z % 2 = 0) (hfz : ¬ G.free (z / 2)) (hU : U.getD (z / 2) default = true) (hV : 0 ≤ V.getD (z / 2) default) : V.getD (z / 2) default < G.N ∧ NxOk G f z [2 * V.getD (z / 2) default + 1] := by
 have hg := hr.g (z / 2)
 rw [ind_yes hU] at hg
 obtain ⟨p1, p2⟩ := (hr.par (z / 2) (by simp) hU).1 hV
 have he := hr.e (z / 2) (by simp) (par (z / 2))
 rw [ind_yes ⟨hU, rfl⟩] at he
 have ha := hf.ea (par (z / 2)) (z / 2) (by omega)
 obtain ⟨a1, a2⟩ := hG.arcN _ _ ha
 refine ⟨by omega, fun y hy => ?_, fun s hs hns => ?_, fun h => by omega⟩
 ·rw [List.mem_singleton] at hy
  refine ⟨2 * par (z / 2) + 1, by omega, by omega, by rw [show (2 * par (z / 2) + 1) / 2 = par (z / 2) by omega]; exact p2, ?_⟩
  rw [cv_even h2, cv_odd (by omega), show (2 * par (z / 2) + 1) / 2 = par (z / 2) by omega]
  exact .undo (by omega) ha
 ·rw [cv_even h2] at hs
  cases hs with
  | thru h => exact absurd (h.resolve_left hfz) (by omega)
  | @undo p _ h0 _ =>
   have hp : par (z / 2) = p := Classical.byContradiction fun hne => by
    rw [hr.e _ (by simp), ind_no (fun h => hne h.2)] at h0
    omega
   rw [List.mem_singleton]
   show ((2 * p + 1 : Nat) : Int) = _
   omega
theorem nx_none {G : GrF} {U : List Bool} {V : List Int} {par : Nat → Nat} {f : Flo} (hr : RepM G U V par f none) {z : Nat} (h2 : z % 2 = 0) (hfz : ¬ G.free (z / 2)) (hU : U.getD (z / 2) default = true) (hV : V.getD (z / 2) default < 0) : NxOk G f z [] := by
 have hg := hr.g (z / 2)
 rw [ind_yes hU] at hg
 have p1 := (hr.par (z / 2) (by simp) hU).2 hV
 refine ⟨fun y hy => (by cases hy), fun s hs hns => ?_, fun h => by omega⟩
 rw [cv_even h2] at hs
 cases hs with
 | thru h => exact absurd (h.resolve_left hfz) (by omega)
 | @undo p _ h0 _ =>
  have hp : par (z / 2) = p := Classical.byContradiction fun hne => by
   rw [hr.e _ (by simp), ind_no (fun h => hne h.2)] at h0
   omega
  exact absurd (hp ▸ p1) hns
def twoL (X : List Int) : List Int := X.map fun c => 2 * c
theorem twoL_len (X : List Int) : (twoL X).length = X.length := by unfold twoL; rw [List.length_map]
theorem twoL_get {X : List Int} {i : Nat} (hi : i < X.length) : (twoL X).getD i default = 2 * X.getD i default := by
 unfold twoL
 rw [List.getD_eq_getElem?_getD, List.getElem?_map, List.getElem?_eq_getElem hi, List.getD_eq_getElem?_getD, List.getElem?_eq_getElem hi]
 rfl
theorem nx_low {G : GrF} (hG : GrOk G) {U : List Bool} {V : List Int} {par : Nat → Nat} {f : Flo} (hr : RepM G U V par f none) {z : Nat} (hz : z < 2 * G.N) (h2 : z % 2 = 1) (hfz : ¬ G.free (z / 2)) (hl : ¬ G.leaf (z / 2)) {X : List Int} (hX : ∀ y, y ∈ X ↔ ∃ c : Nat, y = (c : Int) ∧ G.arc (z / 2) c) :
  NxOk G f z (twoL X ++ (if U.getD (z / 2) default = true then [2 * ((z / 2 : Nat) : Int)] else [])) := by
 have hg := hr.g (z / 2)
 refine ⟨fun y hy => ?_, fun s hs hns => ?_, fun _ => hl⟩
 ·rcases List.mem_append.1 hy with hy | hy
  ·unfold twoL at hy
   obtain ⟨c', hc', rfl⟩ := List.mem_map.1 hy
   obtain ⟨c, rfl, ha⟩ := (hX c').1 hc'
   obtain ⟨a1, a2⟩ := hG.arcN _ _ ha
   refine ⟨2 * c, by omega, by omega, fun hf => hfz (hG.arcF _ _ ha (by rw [show 2 * c / 2 = c by omega] at hf; exact hf)), ?_⟩
   rw [cv_odd h2, cv_even (by omega), show 2 * c / 2 = c by omega]
   exact .arc ha
  ·split at hy
   ·rename_i hU
    rw [ind_yes hU] at hg
    rw [List.mem_singleton] at hy
    refine ⟨2 * (z / 2), by omega, by omega, by rw [show 2 * (z / 2) / 2 = z / 2 by omega]; exact hfz, ?_⟩
    rw [cv_odd h2, cv_even (by omega), show 2 * (z / 2) / 2 = z / 2 by omega]
    exact .rev (by omega)
   ·cases hy
 ·rw [cv_odd h2] at hs
  cases hs with
  | @arc _ c ha =>
   refine List.mem_append_left _ (List.mem_map.2 ⟨(c : Int), (hX _).2 ⟨c, rfl, ha⟩, ?_⟩)
   show 2 * (c : Int) = ((2 * c + 0 : Nat) : Int)
   omega
  | rev h =>
   have hU : U.getD (z / 2) default = true := Classical.byContradiction fun hno => by
    rw [hg, ind_no hno] at h; omega
   refine List.mem_append_right _ ?_
   rw [if_pos hU, List.mem_singleton]
   show ((2 * (z / 2) + 0 : Nat) : Int) = _
   omega
end Go.Xw
namespace Go.Proofs
open Go.Xw
set_option maxRecDepth 100000
set_option maxHeartbeats 2000000
attribute [local irreducible] Holds elemAddr
theorem l17Fan_h (x : NetA) (k : Nat) (w0 : World) (hX : NetR w0 x) (hok : NetOkP x.n) (hk : k < nds x.n) :
  Ret Try.prog 147 [x.v, .int .i64 (k : Int)] w0 (fun v w => ∃ b c, v = .slice b (fanL x.n k).length c ∧ Hp w0 w [rO 3 1 eI b c (fanL x.n k)]) := by
 have hn := hok.nums
 obtain ⟨n1, n2, n3, n4, n5, n6⟩ := hn
 have hnd := hok.nodes
 have hsz := hok.size'
 have hal : x.n.ands.length = x.ands.length := rfl
 refine enter Try.S147ok _ _ rfl rfl (by show _ ≤ _; simp only [List.length]; decide) (fun C => ?_); have hp := Hp.nil w0; refine h_run rfl ?_; skip; (first | refine H_box hp ?_ | refine H_alloc hp rfl ?_); intro w b2 hx hp; refine ops_run nopre rfl ?_; (repeat (first | (refine gLoad ?_; refine H_ldB hp rfl rfl ?_) | (refine gBuild ?_; refine U_litI hp rfl rfl rfl rfl rfl rfl rfl rfl rfl rfl ?_; intro w _ hx hp; refine ops_run nopre rfl ?_)))
 rename_i bk
 refine h_call rfl Try.func61 (by kernel_rfl) rfl (l08First_h x _ hok.b) ?_; rintro _ w ⟨rfl, hx⟩; have hp := hp.ext hx; refine ops_run nopre rfl ?_; skip
 refine h_cond_dec (fun h1 => ?_) (fun h1 => ?_)
 ·refine h_cond_t rfl rfl ?_; (repeat (refine R_ret ?_))
  have e : fanL x.n k = [] := if_pos (by omega)
  rw [e]
  exact ⟨_, _, rfl, hp.sub (by simp)⟩
 ·have hi : k - fst_ x.n < x.ands.length := by omega
  have ez : ((k : Int) - firstAndL x.n).toNat = k - fst_ x.n := by omega
  obtain ⟨q1, q2, q3, q4⟩ := hok.and_ hi
  have e : fanL x.n k = (if 1 < (x.ands.getD (k - fst_ x.n) default).1 then [(x.ands.getD (k - fst_ x.n) default).1 / 2] else []) ++ (if 1 < (x.ands.getD (k - fst_ x.n) default).2 then [(x.ands.getD (k - fst_ x.n) default).2 / 2] else []) := if_neg (by omega)
  refine h_cond_f rfl rfl ?_; skip
  refine N_draw hp (by kernel_rfl) (by kernel_rfl) rfl rfl ?_; (repeat (refine N_ldB rfl rfl rfl ?_))
  refine N_call Try.func61 (by kernel_rfl) rfl (fun F w hp => ?_); refine Ret.mono (l08First_h x _ hok.b) ?_; rintro _ w ⟨rfl, hx⟩; have hp := hp.ext hx; refine ⟨fun _ => hp.sub (by (repeat (first | exact List.sublist_append_left _ _ | apply List.Sublist.cons))), _, hp, ?_⟩; clear hp; refine N_ops rfl rfl ?_; (repeat (refine N_ldE rfl (by omega) (by omega) rfl rfl rfl ?_))
  (first | refine N_box ?_ | refine N_alloc rfl ?_); intro b7; refine N_ops rfl rfl ?_; (repeat (refine N_stBN rfl rfl rfl rfl (by kernel_rfl) ?_; refine N_ops rfl rfl ?_))
  refine N_end ?_; intro w hp C; refine h_run rfl ?_; (repeat (refine H_ldB hp rfl rfl ?_))
  rw [← ez] at q1 q2 q3 q4 e
  refine h_cond_dec (fun ha => ?_) (fun ha => ?_)
  ·rw [if_pos ha] at e
   refine h_cond_t rfl rfl ?_; (repeat (first | (refine gLoad ?_; refine H_ldB hp rfl rfl ?_) | (refine gBuild ?_; refine U_litI hp rfl rfl rfl rfl rfl rfl rfl rfl rfl rfl ?_; intro w _ hx hp; refine ops_run nopre rfl ?_)))
   refine U_append hp rfl rfl rfl rfl rfl rfl rfl (by decide) rfl (by first | omega | (simp only [List.length_append, List.length_cons, List.length_nil, List.length_take, List.length_drop, List.length_set, List.length_replicate, List.length_map]; omega)) rfl rfl ?_; intro r1 c1 w hp hnil; refine ops_run nopre rfl ?_; (repeat (refine H_ldB hp rfl rfl ?_))
   refine h_cond_dec (fun hb => ?_) (fun hb => ?_)
   ·rw [if_pos hb] at e
    refine h_cond_t rfl rfl ?_; (repeat (first | (refine gLoad ?_; refine H_ldB hp rfl rfl ?_) | (refine gBuild ?_; refine U_litI hp rfl rfl rfl rfl rfl rfl rfl rfl rfl rfl ?_; intro w _ hx hp; refine ops_run nopre rfl ?_)))
    refine U_append hp rfl rfl rfl rfl rfl rfl rfl (by decide) rfl (by first | omega | (simp only [List.length_append, List.length_cons, List.length_nil, List.length_take, List.length_drop, List.length_set, List.length_replicate, List.length_map]; omega)) rfl rfl ?_; intro r2 c2 w hp hnil; refine ops_run nopre rfl ?_; (repeat (refine R_ret ?_))
    rw [e]
    exact ⟨r2, c2, rfl, hp.sub (by simp)⟩
   ·rw [if_neg hb] at e
    refine h_cond_f rfl rfl ?_; (repeat (refine R_ret ?_))
    rw [e]
    exact ⟨r1, c1, rfl, hp.sub (by simp)⟩
  ·rw [if_neg ha] at e
   refine h_cond_f rfl rfl ?_; (repeat (refine H_ldB hp rfl rfl ?_))
   refine h_cond_dec (fun hb => ?_) (fun hb => ?_)
   ·rw [if_pos hb] at e
    refine h_cond_t rfl rfl ?_; (repeat (first | (refine gLoad ?_; refine H_ldB hp rfl rfl ?_) | (refine gBuild ?_; refine U_litI hp rfl rfl rfl rfl rfl rfl rfl rfl rfl rfl ?_; intro w _ hx hp; refine ops_run nopre rfl ?_)))
    refine U_append hp rfl rfl rfl rfl rfl rfl rfl (by decide) rfl (by first | omega | (simp only [List.length_append, List.length_cons, List.length_nil, List.length_take, List.length_drop, List.length_set, List.length_replicate, List.length_map]; omega)) rfl rfl ?_; intro r2 c2 w hp hnil; refine ops_run nopre rfl ?_; (repeat (refine R_ret ?_))
    rw [e]
    exact ⟨r2, c2, rfl, hp.sub (by simp)⟩
   ·rw [if_neg hb] at e
    refine h_cond_f rfl rfl ?_; (repeat (refine R_ret ?_))
    rw [e]
    exact ⟨_, _, rfl, hp.sub (by simp)⟩
theorem l17Search_h (x : NetA) (G : GrF) (hGN : G.N = nds x.n) (hGo : GrOk G) (f : Flo) (hf : FlP G f) (hfl : ∀ k, G.free k → k < G.N) (hlf : ∀ k, G.leaf k → k < fst_ x.n) (har : ∀ p c, G.arc p c → (c : Int) ∈ fanL x.n p) (hvs : ∀ k b, Rch G f k b → ∀ z, z ∈ fanL x.n k → ∃ c : Nat, z = (c : Int) ∧ G.arc k c)
  (UPa Ua Va : Option Addr) (UPc Uc Vc : Nat) (UP U : List Bool) (V : List Int) (par : Nat → Nat) (w0 : World) (hX : NetR w0 x) (hok : NetOkP x.n) (hR1 : Rd w0 UPa 1 eB UP) (hR2 : Rd w0 Ua 1 eB U) (hR3 : Rd w0 Va 1 eI V) (hl1 : UP.length = nds x.n) (hl2 : U.length = nds x.n) (hl3 : V.length = nds x.n)
  (hup : ∀ k, k < nds x.n → (UP.getD k default = true ↔ G.free k)) (hr : RepM G U V par f none) :
  Ret Try.prog 110 [x.v, .slice UPa UP.length UPc, .slice Ua U.length Uc, .slice Va V.length Vc] w0 (fun v w => ∃ b c B Q q t, (v = .tuple ⟨[.slice b (2 * nds x.n) c, .int .i64 t]⟩ ∧ SIn G f B Q q ∧ SSrc G B ∧ ((t = -1 ∧ q = Q.length) ∨ ∃ z : Nat, t = (z : Int) ∧ q < Q.length ∧ Q.getD q default = (z : Int) ∧ z % 2 = 1 ∧ z / 2 < fst_ x.n)) ∧ Hp w0 w [rO 3 1 eI b c B]) := by
 have hn := hok.nums
 obtain ⟨n1, n2, n3, n4, n5, n6⟩ := hn
 have hnd := hok.nodes
 have hsz := hok.size'
 have hal : x.n.ands.length = x.ands.length := rfl
 have hcnt : nodeCountL x.n = (nds x.n : Int) := by rw [nodeCountL, if_pos hok.size, n4]
 refine enter Try.S110ok _ _ rfl rfl (by show _ ≤ _; simp only [List.length]; decide) (fun C => ?_); have hp := Hp.nil w0; refine h_run rfl ?_; skip; (first | refine H_box hp ?_ | refine H_alloc hp rfl ?_); intro w b4 hx hp; refine ops_run nopre rfl ?_; (repeat (refine U_litI hp rfl rfl rfl rfl rfl rfl rfl rfl rfl rfl ?_; intro w _ hx hp; refine ops_run nopre rfl ?_))
 refine h_loop5 [1, 2, 3, 4, 10, 11, 12] (fun (k : Nat) (tb : Option Addr) (tc : Nat) (qb : Option Addr) (qc : Nat) => [(1, .slice UPa UP.length UPc), (2, .slice Ua U.length Uc), (3, .slice Va V.length Vc), (4, .pointer (some ⟨b4, 0, none⟩)), (10, .slice tb (List.replicate k (-2 : Int)).length tc), (11, .slice qb ([] : List Int).length qc), (12, .int .i64 (k : Int))])
  (fun k tb tc qb qc w' => k ≤ 2 * nds x.n ∧ Hp w0 w' [rO 3 1 eI tb tc (List.replicate k (-2 : Int)), rO 3 1 eI qb qc [], rB b4 28 x.cs]) (fun k _ _ _ _ => 2 * nds x.n - k) 0 _ _ _ _ rfl ⟨by omega, hp.f1⟩ ?_
 clear hp
 rintro k tb tc qb qc w1 ⟨hk, hp⟩ IH C
 refine h_run rfl ?_; (repeat (refine H_ldB hp rfl rfl ?_))
 refine h_call rfl Try.func13 (by kernel_rfl) rfl (specNodeCount_h x _) ?_; rintro _ w ⟨rfl, hx⟩; have hp := hp.ext hx; refine ops_run nopre rfl ?_; skip
 rw [hcnt]
 refine h_cond_dec (fun hlt => ?_) (fun hlt => ?_)
 ·have e : List.replicate (k + 1) (-2 : Int) = List.replicate k (-2 : Int) ++ [-2] := List.replicate_succ'
  have hrl : (List.replicate k (-2 : Int)).length = k := by simp
  refine h_cond_t rfl rfl ?_; (repeat (refine U_litI hp rfl rfl rfl rfl rfl rfl rfl rfl rfl rfl ?_; intro w _ hx hp; refine ops_run nopre rfl ?_))
  refine U_append hp rfl rfl rfl rfl rfl rfl rfl (by decide) rfl (by first | omega | (simp only [List.length_append, List.length_cons, List.length_nil, List.length_take, List.length_drop, List.length_set, List.length_replicate, List.length_map]; omega)) rfl rfl ?_; intro tb' tc' w hp hnil; refine ops_run nopre rfl ?_; skip
  refine IH (k + 1) tb' tc' qb qc _ _ _ (by omega) (by rw [e]; rfl) ⟨by omega, ?_⟩
  rw [e]
  exact hp.drop
 ·obtain rfl : k = 2 * nds x.n := by omega
  clear IH
  refine h_cond_f rfl rfl ?_; skip
  rw [List.length_replicate]
  have hS0 : SIn G f (List.replicate (2 * nds x.n) (-2)) [] 0 := by rw [← hGN]; exact SIn.zero G f
  refine h_loop5 [1, 2, 3, 4, 10, 11, 13] (fun (k : Nat) (B : List Int) (Q : List Int) (qb : Option Addr) (qc : Nat) => [(1, .slice UPa UP.length UPc), (2, .slice Ua U.length Uc), (3, .slice Va V.length Vc), (4, .pointer (some ⟨b4, 0, none⟩)), (10, .slice tb (2 * nds x.n) tc), (11, .slice qb Q.length qc), (13, .int .i64 (k : Int))])
   (fun k B Q qb qc w' => (k ≤ nds x.n ∧ SIn G f B Q 0 ∧ ∀ p c, p < k → G.free p → G.arc p c → ¬ G.free c → B.getD (2 * c) default ≠ -2) ∧ Hp w0 w' [rO 3 1 eI tb tc B, rO 3 1 eI qb qc Q, rB b4 28 x.cs]) (fun k _ _ _ _ => nds x.n - k) 0 _ [] qb qc rfl ⟨⟨by omega, hS0, fun p c hp => by omega⟩, hp⟩ ?_
  clear hp hS0
  rintro k B Q qb qc w1 ⟨⟨hk, hS, hsr⟩, hp⟩ IH C
  refine h_run rfl ?_; (repeat (refine H_ldB hp rfl rfl ?_))
  refine h_call rfl Try.func13 (by kernel_rfl) rfl (specNodeCount_h x _) ?_; rintro _ w ⟨rfl, hx⟩; have hp := hp.ext hx; refine ops_run nopre rfl ?_; skip
  rw [hcnt]
  refine h_cond_dec (fun hlt => ?_) (fun hlt => ?_)
  ·have hkN : k < nds x.n := by omega
   have hfn := fan_len x.n k
   refine h_cond_t rfl rfl ?_; (repeat (refine H_ldB hp rfl rfl ?_))
   refine h_call rfl Try.func147 (by kernel_rfl) rfl (l17Fan_h x k _ hp.net hok hkN) ?_; rintro _ w ⟨ba, ca, rfl, hq⟩; have hx := hq.x; have hp := hp.call1 hq; refine ops_run nopre rfl ?_; skip
   refine h_loop5 [1, 2, 3, 4, 10, 11, 13, 14, 15] (fun (i : Nat) (B : List Int) (Q : List Int) (qb : Option Addr) (qc : Nat) => [(1, .slice UPa UP.length UPc), (2, .slice Ua U.length Uc), (3, .slice Va V.length Vc), (4, .pointer (some ⟨b4, 0, none⟩)), (10, .slice tb (2 * nds x.n) tc), (11, .slice qb Q.length qc), (13, .int .i64 (k : Int)), (14, .slice ba (fanL x.n k).length ca), (15, .int .i64 (i : Int))])
    (fun i B Q qb qc w' => (i ≤ (fanL x.n k).length ∧ SIn G f B Q 0 ∧ (∀ p c, p < k → G.free p → G.arc p c → ¬ G.free c → B.getD (2 * c) default ≠ -2) ∧ ∀ j, j < i → ∀ c : Nat, (fanL x.n k).getD j default = (c : Int) → ¬ G.free c → B.getD (2 * c) default ≠ -2) ∧ Hp w0 w' [rO 3 1 eI tb tc B, rO 3 1 eI qb qc Q, rO 3 1 eI ba ca (fanL x.n k), rB b4 28 x.cs])
    (fun i _ _ _ _ => (fanL x.n k).length - i) 0 B Q qb qc rfl ⟨⟨by omega, hS, hsr, fun j hj => by omega⟩, hp.f2.f2⟩ ?_
   clear hp hS hsr
   rintro i B Q qb qc w2 ⟨⟨hi, hS, hsr, hdn⟩, hp⟩ IH2 C
   have hBl : B.length = 2 * nds x.n := by rw [← hGN]; exact hS.len
   have hQl : Q.length ≤ 2 * nds x.n := by rw [← hGN]; exact hS.qlen
   refine h_run rfl ?_; skip
   refine h_guard_by (fun h1 => ?_) (fun h1 => ?_); all_goals (rw [h1]; (first | replace h1 := of_decide_eq_true h1 | replace h1 := of_decide_eq_false h1 | skip); (repeat (first | (refine gGuard ?_; first | refine h_guard_y rfl nopre rfl ?_ | refine h_guard_n rfl nopre rfl ?_) | (refine gLoad ?_; refine H_ldEN hp rfl (by omega) rfl rfl ?_))))
   ·have hi2 : i < (fanL x.n k).length := by omega
    obtain ⟨c, hc, hcN⟩ := fan_at hok hkN hi2
    refine h_cond_b (fun h2 => ?_) (fun h2 => ?_)
    ·have hfk : G.free k := (hup k hkN).1 h2
     refine h_cond_t rfl rfl ?_; (repeat (refine gLoad ?_; first | refine H_ldEN hp rfl (by omega) rfl rfl ?_ | refine H_ldE hp rfl (by omega) (by omega) rfl rfl ?_))
     refine h_guard_by (fun h3 => ?_) (fun h3 => ?_); all_goals (rw [h3]; (first | replace h3 := of_decide_eq_true h3 | replace h3 := of_decide_eq_false h3 | skip); (repeat (first | (refine gGuard ?_; first | refine h_guard_y rfl nopre rfl ?_ | refine h_guard_n rfl nopre rfl ?_) | (refine gLoad ?_; first | refine H_ldEN hp rfl (by omega) rfl rfl ?_ | refine H_ldE hp rfl (by omega) (by omega) rfl rfl ?_))))
     ·have ez : ((fanL x.n k).getD i default).toNat = c := by omega
      have ez2 : (2 * (fanL x.n k).getD i default).toNat = 2 * c := by omega
      have hnf : ¬ G.free c := fun hf => by
       rw [ez, (hup c hcN).2 hf] at h3
       cases h3
      refine h_cond_dec (fun h4 => ?_) (fun h4 => ?_)
      ·have h4' : B.getD (2 * c) default = -2 := by rw [← ez2]; exact h4
       refine h_cond_t rfl rfl ?_; (repeat (first | (refine gLoad ?_; refine H_ldEN hp rfl (by omega) rfl rfl ?_) | (refine gStore ?_; refine U_st0 hp rfl rfl rfl (by omega) (by decide) rfl rfl ?_; intro w hp; refine ops_run nopre rfl ?_) | (refine gBuild ?_; refine U_litI hp rfl rfl rfl rfl rfl rfl rfl rfl rfl rfl ?_; intro w _ hx hp; refine ops_run nopre rfl ?_)))
       refine U_append hp rfl rfl rfl rfl rfl rfl rfl (by decide) rfl (by first | omega | (simp only [List.length_append, List.length_cons, List.length_nil, List.length_take, List.length_drop, List.length_set, List.length_replicate, List.length_map]; omega)) rfl rfl ?_; intro qb' qc' w hp hnil; refine ops_run nopre rfl ?_; skip
       obtain ⟨c', hc', hca⟩ := hvs k false (.srcF hfk) _ (getD_mem hi2)
       obtain rfl : c' = c := by omega
       have hcB : 2 * c' < B.length := by omega
       have hS' : SIn G f (B.set (2 * (fanL x.n k).getD i default).toNat (-1)) (Q ++ [2 * (fanL x.n k).getD i default]) 0 := by
        rw [ez2, show 2 * (fanL x.n k).getD i default = ((2 * c' : Nat) : Int) by omega]
        exact hS.add (by omega) h4' (by decide) (by rw [show 2 * c' / 2 = c' by omega]; exact hnf) (.inl ⟨rfl, by omega, k, hfk, by rw [show 2 * c' / 2 = c' by omega]; exact hca⟩)
       refine IH2 (i + 1) _ (Q ++ [2 * (fanL x.n k).getD i default]) qb' qc' _ _ _ (by omega) rfl ⟨⟨by omega, hS', fun p d g1 g2 g3 g4 => ?_, fun j hj d g1 g2 => ?_⟩, hp.drop⟩
       ·rw [ez2]; exact set_up hcB (by decide) (hsr p d g1 g2 g3 g4)
       ·rw [ez2]
        by_cases hji : j = i
        ·subst hji
         obtain rfl : d = c' := by omega
         exact set_on hcB (by decide)
        ·exact set_up hcB (by decide) (hdn j (by omega) d g1 g2)
      ·refine h_cond_f rfl rfl ?_; skip
       refine IH2 (i + 1) B Q qb qc _ _ _ (by omega) rfl ⟨⟨by omega, hS, hsr, fun j hj d g1 g2 => ?_⟩, hp⟩
       by_cases hji : j = i
       ·subst hji
        obtain rfl : d = c := by omega
        rw [← ez2]; exact h4
       ·exact hdn j (by omega) d g1 g2
     ·have ez : ((fanL x.n k).getD i default).toNat = c := by omega
      have hfc : G.free c := (hup c hcN).1 (by rw [← ez]; simpa using h3)
      refine h_cond_f rfl rfl ?_; skip
      refine IH2 (i + 1) B Q qb qc _ _ _ (by omega) rfl ⟨⟨by omega, hS, hsr, fun j hj d g1 g2 => ?_⟩, hp⟩
      by_cases hji : j = i
      ·subst hji
       obtain rfl : d = c := by omega
       exact absurd hfc g2
      ·exact hdn j (by omega) d g1 g2
    ·clear IH2
     refine h_cond_f rfl rfl ?_; skip
     refine IH (k + 1) B Q qb qc _ _ _ (by omega) rfl ⟨⟨by omega, hS, fun p d g1 g2 g3 g4 => ?_⟩, (hp.f2).drop⟩
     by_cases hpk : p = k
     ·rw [hpk] at g2
      rw [(hup k hkN).2 g2] at h2
      cases h2
     ·exact hsr p d (by omega) g2 g3 g4
   ·clear IH2
    refine h_cond_f rfl rfl ?_; skip
    refine IH (k + 1) B Q qb qc _ _ _ (by omega) rfl ⟨⟨by omega, hS, fun p d g1 g2 g3 g4 => ?_⟩, (hp.f2).drop⟩
    by_cases hpk : p = k
    ·rw [hpk] at g3
     obtain ⟨j, j1, j2⟩ := mem_getD (har k d g3)
     exact hdn j (by omega) d j2 g4
    ·exact hsr p d (by omega) g2 g3 g4
  ·obtain rfl : k = nds x.n := by omega
   clear IH
   have hsrc : SSrc G B := fun p c h1 h2 h3 => hsr p c (by rw [← hGN]; exact hfl p h1) h1 h2 h3
   clear hsr
   refine h_cond_f rfl rfl ?_; skip
   refine h_loop5 [2, 3, 4, 10, 11, 16] (fun (q : Nat) (B : List Int) (Q : List Int) (qb : Option Addr) (qc : Nat) => [(2, .slice Ua U.length Uc), (3, .slice Va V.length Vc), (4, .pointer (some ⟨b4, 0, none⟩)), (10, .slice tb (2 * nds x.n) tc), (11, .slice qb Q.length qc), (16, .int .i64 (q : Int))])
    (fun q B Q qb qc w' => (q ≤ Q.length ∧ SIn G f B Q q ∧ SSrc G B) ∧ Hp w0 w' [rO 3 1 eI tb tc B, rO 3 1 eI qb qc Q, rB b4 28 x.cs]) (fun q _ _ _ _ => 2 * nds x.n - q) 0 B Q qb qc rfl ⟨⟨by omega, hS, hsrc⟩, hp⟩ ?_
   clear hp hS hsrc
   rintro q B Q qb qc w1 ⟨⟨hq, hS, hsrc⟩, hp⟩ IH C
   have hBl : B.length = 2 * nds x.n := by rw [← hGN]; exact hS.len
   have hQl : Q.length ≤ 2 * nds x.n := by rw [← hGN]; exact hS.qlen
   refine h_run rfl ?_; skip
   refine h_cond_dec (fun hlt => ?_) (fun hlt => ?_)
   ·have hlt' : q < Q.length := by omega
    obtain ⟨z, hz, hzN, hzB, hzf⟩ := hS.qn q hlt'
    have hzN2 : z < 2 * nds x.n := by rw [← hGN]; exact hzN
    have hQi : 0 ≤ Q.getD q default ∧ Q.getD q default < 2 * nds x.n := by omega
    have ek : Q.getD q default / 2 = ((z / 2 : Nat) : Int) := by omega
    have hkN : z / 2 < nds x.n := by omega
    refine h_cond_t rfl rfl ?_; (repeat (first | (refine gLoad ?_; refine H_ldEN hp rfl (by omega) rfl rfl ?_) | (refine gBuild ?_; refine U_litI hp rfl rfl rfl rfl rfl rfl rfl rfl rfl rfl ?_; intro w _ hx hp; refine ops_run nopre rfl ?_)))
    rw [ek]
    rename_i bx
    refine h_cond_dec (fun hpar => ?_) (fun hpar => ?_)
    ·have h2 : z % 2 = 0 := by omega
     refine h_cond_t rfl rfl ?_; (repeat (refine H_ldEN hp rfl (by omega) rfl rfl ?_))
     refine h_cond_b (fun hu => ?_) (fun hu => ?_)
     ·have hU : U.getD (z / 2) default = false := by simpa using hu
      have hNx := nx_thru hr hzN h2 hzf hU
      refine h_cond_t rfl rfl ?_; (repeat (refine U_litI hp rfl rfl rfl rfl rfl rfl rfl rfl rfl rfl ?_; intro w _ hx hp; refine ops_run nopre rfl ?_))
      refine U_append hp rfl rfl rfl rfl rfl rfl rfl (by decide) rfl (by first | omega | (simp only [List.length_append, List.length_cons, List.length_nil, List.length_take, List.length_drop, List.length_set, List.length_replicate, List.length_map]; omega)) rfl rfl ?_; intro nb nc w hp hnil; refine ops_run nopre rfl ?_; skip
      have hp := hp.drop
      obtain ⟨NX, hNX⟩ : ∃ NX : List Int, NX = [] ++ [2 * ((z / 2 : Nat) : Int) + 1] := ⟨_, rfl⟩
      rw [← hNX] at hp ⊢
      have hNx : NxOk G f z NX := by rw [hNX]; exact hNx
      have hNl : NX.length ≤ 3 := by rw [hNX]; simp
      refine h_loop5 [2, 3, 4, 10, 11, 16, 18, 21] (fun (i : Nat) (B : List Int) (Q : List Int) (qb : Option Addr) (qc : Nat) => [(2, .slice Ua U.length Uc), (3, .slice Va V.length Vc), (4, .pointer (some ⟨b4, 0, none⟩)), (10, .slice tb (2 * nds x.n) tc), (11, .slice qb Q.length qc), (16, .int .i64 (q : Int)), (18, .slice nb NX.length nc), (21, .int .i64 (i : Int))])
       (fun i B Q qb qc w' => (i ≤ NX.length ∧ SIn G f B Q q ∧ q < Q.length ∧ Q.getD q default = (z : Int) ∧ SSrc G B ∧ ∀ j, j < i → B.getD (NX.getD j default).toNat default ≠ -2) ∧ Hp w0 w' [rO 3 1 eI nb nc NX, rO 3 1 eI tb tc B, rO 3 1 eI qb qc Q, rB b4 28 x.cs])
       (fun i _ _ _ _ => NX.length - i) 0 B Q qb qc rfl ⟨⟨by omega, hS, hlt', hz, hsrc, fun j hj => by omega⟩, hp⟩ ?_
      clear hp hS hlt' hz hsrc hBl hQl hQi
      rintro i B Q qb qc w2 ⟨⟨hi, hS, hlt', hz, hsrc, hdone⟩, hp⟩ IH2 C
      have hBl : B.length = 2 * nds x.n := by rw [← hGN]; exact hS.len
      have hQl : Q.length ≤ 2 * nds x.n := by rw [← hGN]; exact hS.qlen
      refine h_run rfl ?_; skip
      refine h_cond_dec (fun hl2 => ?_) (fun hl2 => ?_)
      ·have hi2 : i < NX.length := by omega
       obtain ⟨y, hy, hyN, hyf, hys⟩ := hNx.st _ (getD_mem hi2)
       rw [hGN] at hyN
       have ey : (NX.getD i default).toNat = y := by omega
       refine h_cond_t rfl rfl ?_; (repeat (refine gLoad ?_; first | refine H_ldEN hp rfl (by omega) rfl rfl ?_ | refine H_ldE hp rfl (by omega) (by omega) rfl rfl ?_))
       refine h_cond_dec (fun hb => ?_) (fun hb => ?_)
       ·have hb' : B.getD y default = -2 := by rw [← ey]; exact hb
        refine h_cond_t rfl rfl ?_; skip
        refine D_draw hp (by kernel_rfl) (by kernel_rfl) rfl rfl ?_; intro w hx hp; have hs := hp; (repeat (first | (refine gLoad ?_; refine D_ldEN rfl (by omega) rfl rfl rfl ?_) | (refine gStore ?_; refine V_st0 hp rfl rfl rfl (by omega) (by decide) rfl rfl (by kernel_rfl) ?_; intro w hp; refine D_ops rfl rfl ?_)))
        (repeat (first | (refine gLoad ?_; refine H_ldEN hp rfl (by omega) rfl rfl ?_) | (refine gBuild ?_; refine U_litI hp rfl rfl rfl rfl rfl rfl rfl rfl rfl rfl ?_; intro w _ hx hp; refine ops_run nopre rfl ?_)))
        refine U_append hp rfl rfl rfl rfl rfl rfl rfl (by decide) rfl (by first | omega | (simp only [List.length_append, List.length_cons, List.length_nil, List.length_take, List.length_drop, List.length_set, List.length_replicate, List.length_map]; omega)) rfl rfl ?_; intro qb' qc' w hp hnil; refine ops_run nopre rfl ?_; skip
        have hS' : SIn G f (B.set (NX.getD i default).toNat (Q.getD q default)) (Q ++ [NX.getD i default]) q := by
         rw [ey, hz, hy]
         exact hS.add (by omega) hb' (by omega) hyf (.inr ⟨q, z, hlt', hz, rfl, hys⟩)
        have hyB : y < B.length := by omega
        have hzz : (z : Int) ≠ -2 := by omega
        refine IH2 (i + 1) _ (Q ++ [NX.getD i default]) qb' qc' _ _ _ (by omega) rfl ⟨⟨by omega, hS', by simp; omega, by rw [snoc_lt hlt']; exact hz, fun p c h1 h2 h3 => ?_, fun j hj => ?_⟩, hp.drop⟩
        ·rw [ey, hz]; exact set_up hyB hzz (hsrc p c h1 h2 h3)
        ·rw [ey, hz]
         by_cases hji : j = i
         ·subst hji; rw [ey]; exact set_on hyB hzz
         ·exact set_up hyB hzz (hdone j (by omega))
       ·refine h_cond_f rfl rfl ?_; skip
        refine IH2 (i + 1) B Q qb qc _ _ _ (by omega) rfl ⟨⟨by omega, hS, hlt', hz, hsrc, fun j hj => ?_⟩, hp⟩
        by_cases hji : j = i
        ·subst hji; exact hb
        ·exact hdone j (by omega)
      ·clear IH2
       refine h_cond_f rfl rfl ?_; skip
       refine IH (q + 1) B Q qb qc _ _ _ (by omega) rfl ⟨⟨by omega, hS.next hlt' hz (fun s hs hns => ?_) hNx.lf, hsrc⟩, hp.drop⟩
       obtain ⟨j, j1, j2⟩ := mem_getD (hNx.cl s hs hns)
       have := hdone j (by omega)
       rw [j2] at this
       exact this
     ·have hU : U.getD (z / 2) default = true := by simpa using hu
      refine h_cond_f rfl rfl ?_; (repeat (refine H_ldEN hp rfl (by omega) rfl rfl ?_))
      refine h_cond_dec (fun hv => ?_) (fun hv => ?_)
      ·obtain ⟨hvN, hNx⟩ := nx_undo hGo hf hr h2 hzf hU hv
       rw [hGN] at hvN
       refine h_cond_t rfl rfl ?_; (repeat (first | (refine gLoad ?_; refine H_ldEN hp rfl (by omega) rfl rfl ?_) | (refine gBuild ?_; refine U_litI hp rfl rfl rfl rfl rfl rfl rfl rfl rfl rfl ?_; intro w _ hx hp; refine ops_run nopre rfl ?_)))
       refine U_append hp rfl rfl rfl rfl rfl rfl rfl (by decide) rfl (by first | omega | (simp only [List.length_append, List.length_cons, List.length_nil, List.length_take, List.length_drop, List.length_set, List.length_replicate, List.length_map]; omega)) rfl rfl ?_; intro nb nc w hp hnil; refine ops_run nopre rfl ?_; skip
       have hp := hp.drop
       obtain ⟨NX, hNX⟩ : ∃ NX : List Int, NX = [] ++ [2 * V.getD (z / 2) default + 1] := ⟨_, rfl⟩
       rw [← hNX] at hp ⊢
       have hNx : NxOk G f z NX := by rw [hNX]; exact hNx
       have hNl : NX.length ≤ 3 := by rw [hNX]; simp
       refine h_loop5 [2, 3, 4, 10, 11, 16, 18, 21] (fun (i : Nat) (B : List Int) (Q : List Int) (qb : Option Addr) (qc : Nat) => [(2, .slice Ua U.length Uc), (3, .slice Va V.length Vc), (4, .pointer (some ⟨b4, 0, none⟩)), (10, .slice tb (2 * nds x.n) tc), (11, .slice qb Q.length qc), (16, .int .i64 (q : Int)), (18, .slice nb NX.length nc), (21, .int .i64 (i : Int))])
        (fun i B Q qb qc w' => (i ≤ NX.length ∧ SIn G f B Q q ∧ q < Q.length ∧ Q.getD q default = (z : Int) ∧ SSrc G B ∧ ∀ j, j < i → B.getD (NX.getD j default).toNat default ≠ -2) ∧ Hp w0 w' [rO 3 1 eI nb nc NX, rO 3 1 eI tb tc B, rO 3 1 eI qb qc Q, rB b4 28 x.cs])
        (fun i _ _ _ _ => NX.length - i) 0 B Q qb qc rfl ⟨⟨by omega, hS, hlt', hz, hsrc, fun j hj => by omega⟩, hp⟩ ?_
       clear hp hS hlt' hz hsrc hBl hQl hQi
       rintro i B Q qb qc w2 ⟨⟨hi, hS, hlt', hz, hsrc, hdone⟩, hp⟩ IH2 C
       have hBl : B.length = 2 * nds x.n := by rw [← hGN]; exact hS.len
       have hQl : Q.length ≤ 2 * nds x.n := by rw [← hGN]; exact hS.qlen
       refine h_run rfl ?_; skip
       refine h_cond_dec (fun hl2 => ?_) (fun hl2 => ?_)
       ·have hi2 : i < NX.length := by omega
        obtain ⟨y, hy, hyN, hyf, hys⟩ := hNx.st _ (getD_mem hi2)
        rw [hGN] at hyN
        have ey : (NX.getD i default).toNat = y := by omega
        refine h_cond_t rfl rfl ?_; (repeat (refine gLoad ?_; first | refine H_ldEN hp rfl (by omega) rfl rfl ?_ | refine H_ldE hp rfl (by omega) (by omega) rfl rfl ?_))
        refine h_cond_dec (fun hb => ?_) (fun hb => ?_)
        ·have hb' : B.getD y default = -2 := by rw [← ey]; exact hb
         refine h_cond_t rfl rfl ?_; skip
         refine D_draw hp (by kernel_rfl) (by kernel_rfl) rfl rfl ?_; intro w hx hp; have hs := hp; (repeat (first | (refine gLoad ?_; refine D_ldEN rfl (by omega) rfl rfl rfl ?_) | (refine gStore ?_; refine V_st0 hp rfl rfl rfl (by omega) (by decide) rfl rfl (by kernel_rfl) ?_; intro w hp; refine D_ops rfl rfl ?_)))
         (repeat (first | (refine gLoad ?_; refine H_ldEN hp rfl (by omega) rfl rfl ?_) | (refine gBuild ?_; refine U_litI hp rfl rfl rfl rfl rfl rfl rfl rfl rfl rfl ?_; intro w _ hx hp; refine ops_run nopre rfl ?_)))
         refine U_append hp rfl rfl rfl rfl rfl rfl rfl (by decide) rfl (by first | omega | (simp only [List.length_append, List.length_cons, List.length_nil, List.length_take, List.length_drop, List.length_set, List.length_replicate, List.length_map]; omega)) rfl rfl ?_; intro qb' qc' w hp hnil; refine ops_run nopre rfl ?_; skip
         have hS' : SIn G f (B.set (NX.getD i default).toNat (Q.getD q default)) (Q ++ [NX.getD i default]) q := by
          rw [ey, hz, hy]
          exact hS.add (by omega) hb' (by omega) hyf (.inr ⟨q, z, hlt', hz, rfl, hys⟩)
         have hyB : y < B.length := by omega
         have hzz : (z : Int) ≠ -2 := by omega
         refine IH2 (i + 1) _ (Q ++ [NX.getD i default]) qb' qc' _ _ _ (by omega) rfl ⟨⟨by omega, hS', by simp; omega, by rw [snoc_lt hlt']; exact hz, fun p c h1 h2 h3 => ?_, fun j hj => ?_⟩, hp.drop⟩
         ·rw [ey, hz]; exact set_up hyB hzz (hsrc p c h1 h2 h3)
         ·rw [ey, hz]
          by_cases hji : j = i
          ·subst hji; rw [ey]; exact set_on hyB hzz
          ·exact set_up hyB hzz (hdone j (by omega))
        ·refine h_cond_f rfl rfl ?_; skip
         refine IH2 (i + 1) B Q qb qc _ _ _ (by omega) rfl ⟨⟨by omega, hS, hlt', hz, hsrc, fun j hj => ?_⟩, hp⟩
         by_cases hji : j = i
         ·subst hji; exact hb
         ·exact hdone j (by omega)
       ·clear IH2
        refine h_cond_f rfl rfl ?_; skip
        refine IH (q + 1) B Q qb qc _ _ _ (by omega) rfl ⟨⟨by omega, hS.next hlt' hz (fun s hs hns => ?_) hNx.lf, hsrc⟩, hp.drop⟩
        obtain ⟨j, j1, j2⟩ := mem_getD (hNx.cl s hs hns)
        have := hdone j (by omega)
        rw [j2] at this
        exact this
      ·have hNx := nx_none hr h2 hzf hU (by omega)
       refine h_cond_f rfl rfl ?_; skip
       refine h_loop [2, 3, 4, 10, 11, 16, 18, 21] (fun (i : Nat) => [(2, .slice Ua U.length Uc), (3, .slice Va V.length Vc), (4, .pointer (some ⟨b4, 0, none⟩)), (10, .slice tb (2 * nds x.n) tc), (11, .slice qb Q.length qc), (16, .int .i64 (q : Int)), (18, .slice (some ⟨bx, 0, none⟩) 0 0), (21, .int .i64 (i : Int))])
        (fun i w' => Hp w0 w' [rO 3 1 eI tb tc B, rO 3 1 eI qb qc Q, rB b4 28 x.cs]) (fun i => 0) 0 rfl hp.drop ?_
       clear hp
       rintro i w2 hp IH2 C
       clear IH2
       refine h_run rfl ?_; skip
       refine h_cond_dec (fun hl2 => ?_) (fun hl2 => ?_)
       ·omega
       ·refine h_cond_f rfl rfl ?_; skip
        refine IH (q + 1) B Q qb qc _ _ _ (by omega) rfl ⟨⟨by omega, hS.next hlt' hz (fun s hs hns => ?_) hNx.lf, hsrc⟩, hp⟩
        exact absurd (hNx.cl s hs hns) (by simp)
    ·have h2 : z % 2 = 1 := by omega
     refine h_cond_f rfl rfl ?_; (repeat (refine H_ldB hp rfl rfl ?_))
     refine h_call rfl Try.func61 (by kernel_rfl) rfl (l08First_h x _ hok.b) ?_; rintro _ w ⟨rfl, hx⟩; have hp := hp.ext hx; refine ops_run nopre rfl ?_; skip
     refine h_cond_dec (fun hlf2 => ?_) (fun hlf2 => ?_)
     ·refine h_cond_t rfl rfl ?_; skip
      refine D_draw hp (by kernel_rfl) (by kernel_rfl) rfl rfl ?_; intro w hx hp; have hs := hp; (repeat (first | (refine gLoad ?_; refine D_ldEN rfl (by omega) rfl rfl rfl ?_) | refine R_ret ?_))
      exact ⟨tb, tc, B, Q, q, _, ⟨rfl, hS, hsrc, .inr ⟨z, hz, hlt', hz, h2, by omega⟩⟩, hp.sub (by simp)⟩
     ·have hl : ¬ G.leaf (z / 2) := fun h => by have := hlf _ h; omega
      have hrch := hS.reach (q + 1) q z (by omega) hlt' hz
      rw [cv_odd h2] at hrch
      have hfan : ∀ y, y ∈ fanL x.n (z / 2) ↔ ∃ c : Nat, y = (c : Int) ∧ G.arc (z / 2) c := fun y => ⟨hvs _ _ hrch y, fun ⟨c, h1, h2⟩ => by rw [h1]; exact har _ _ h2⟩
      have hNx := nx_low hGo hr hzN h2 hzf hl hfan
      have hfn := fan_len x.n (z / 2)
      have htl := twoL_len (fanL x.n (z / 2))
      refine h_cond_f rfl rfl ?_; (repeat (refine H_ldB hp rfl rfl ?_))
      refine h_call rfl Try.func147 (by kernel_rfl) rfl (l17Fan_h x (z / 2) _ hp.net hok hkN) ?_; rintro _ w ⟨ba, ca, rfl, hq⟩; have hx := hq.x; have hp := hp.call1 hq; refine ops_run nopre rfl ?_; skip
      refine h_loop3 [2, 3, 4, 10, 11, 16, 17, 18, 19, 20] (fun (i : Nat) (nb : Option Addr) (nc : Nat) => [(2, .slice Ua U.length Uc), (3, .slice Va V.length Vc), (4, .pointer (some ⟨b4, 0, none⟩)), (10, .slice tb (2 * nds x.n) tc), (11, .slice qb Q.length qc), (16, .int .i64 (q : Int)), (17, .int .i64 ((z / 2 : Nat) : Int)), (18, .slice nb ((twoL (fanL x.n (z / 2))).take i).length nc), (19, .slice ba (fanL x.n (z / 2)).length ca), (20, .int .i64 (i : Int))])
       (fun i nb nc w' => i ≤ (fanL x.n (z / 2)).length ∧ Hp w0 w' [rO 3 1 eI nb nc ((twoL (fanL x.n (z / 2))).take i), rO 3 1 eI tb tc B, rO 3 1 eI qb qc Q, rB b4 28 x.cs, rO 3 1 eI ba ca (fanL x.n (z / 2))]) (fun i _ _ => (fanL x.n (z / 2)).length - i) 0 _ _ rfl ⟨by omega, hp.f4.f4.f4.f4⟩ ?_
      clear hp
      rintro i nb nc w2 ⟨hi, hp⟩ IH2 C
      have hml : ((twoL (fanL x.n (z / 2))).take i).length = i := by rw [List.length_take]; omega
      refine h_run rfl ?_; skip
      refine h_cond_dec (fun hl3 => ?_) (fun hl3 => ?_)
      ·have hi2 : i < (fanL x.n (z / 2)).length := by omega
       obtain ⟨c, hc, hcN⟩ := fan_at hok hkN hi2
       have e : (twoL (fanL x.n (z / 2))).take (i + 1) = (twoL (fanL x.n (z / 2))).take i ++ [2 * (fanL x.n (z / 2)).getD i default] := by rw [take_snoc (by omega), twoL_get hi2]
       refine h_cond_t rfl rfl ?_; (repeat (first | (refine gLoad ?_; refine H_ldEN hp rfl (by omega) rfl rfl ?_) | (refine gBuild ?_; refine U_litI hp rfl rfl rfl rfl rfl rfl rfl rfl rfl rfl ?_; intro w _ hx hp; refine ops_run nopre rfl ?_)))
       refine U_append hp rfl rfl rfl rfl rfl rfl rfl (by decide) rfl (by first | omega | (simp only [List.length_append, List.length_cons, List.length_nil, List.length_take, List.length_drop, List.length_set, List.length_replicate, List.length_map]; omega)) rfl rfl ?_; intro nb' nc' w hp hnil; refine ops_run nopre rfl ?_; skip
       refine IH2 (i + 1) nb' nc' _ _ _ (by omega) (by rw [e]; rfl) ⟨by omega, ?_⟩
       rw [e]
       exact hp.drop
      ·obtain rfl : i = (fanL x.n (z / 2)).length := by omega
       clear IH2
       have e : (twoL (fanL x.n (z / 2))).take (fanL x.n (z / 2)).length = twoL (fanL x.n (z / 2)) := by rw [← htl, List.take_length]
       rw [e] at hp hml ⊢
       have hp : Hp w0 _ [rO 3 1 eI nb nc (twoL (fanL x.n (z / 2))), rO 3 1 eI tb tc B, rO 3 1 eI qb qc Q, rB b4 28 x.cs] := hp.tk 4
       refine h_cond_f rfl rfl ?_; (repeat (refine H_ldEN hp rfl (by omega) rfl rfl ?_))
       refine h_cond_b (fun hu => ?_) (fun hu => ?_)
       ·rw [if_pos hu] at hNx
        refine h_cond_t rfl rfl ?_; (repeat (refine U_litI hp rfl rfl rfl rfl rfl rfl rfl rfl rfl rfl ?_; intro w _ hx hp; refine ops_run nopre rfl ?_))
        refine U_append hp rfl rfl rfl rfl rfl rfl rfl (by decide) rfl (by first | omega | (simp only [List.length_append, List.length_cons, List.length_nil, List.length_take, List.length_drop, List.length_set, List.length_replicate, List.length_map]; omega)) rfl rfl ?_; intro nb' nc' w hp hnil; refine ops_run nopre rfl ?_; skip
        have hp := hp.drop
        obtain ⟨NX, hNX⟩ : ∃ NX : List Int, NX = twoL (fanL x.n (z / 2)) ++ [2 * ((z / 2 : Nat) : Int)] := ⟨_, rfl⟩
        rw [← hNX] at hp hNx ⊢
        have hNl : NX.length ≤ 3 := by rw [hNX, List.length_append, htl]; simp; omega
        revert hp
        generalize nb' = nb, nc' = nc
        intro hp
        refine h_loop5 [2, 3, 4, 10, 11, 16, 18, 21] (fun (i : Nat) (B : List Int) (Q : List Int) (qb : Option Addr) (qc : Nat) => [(2, .slice Ua U.length Uc), (3, .slice Va V.length Vc), (4, .pointer (some ⟨b4, 0, none⟩)), (10, .slice tb (2 * nds x.n) tc), (11, .slice qb Q.length qc), (16, .int .i64 (q : Int)), (18, .slice nb NX.length nc), (21, .int .i64 (i : Int))])
         (fun i B Q qb qc w' => (i ≤ NX.length ∧ SIn G f B Q q ∧ q < Q.length ∧ Q.getD q default = (z : Int) ∧ SSrc G B ∧ ∀ j, j < i → B.getD (NX.getD j default).toNat default ≠ -2) ∧ Hp w0 w' [rO 3 1 eI nb nc NX, rO 3 1 eI tb tc B, rO 3 1 eI qb qc Q, rB b4 28 x.cs])
         (fun i _ _ _ _ => NX.length - i) 0 B Q qb qc rfl ⟨⟨by omega, hS, hlt', hz, hsrc, fun j hj => by omega⟩, hp⟩ ?_
        clear hp hS hlt' hz hsrc hBl hQl hQi
        rintro i B Q qb qc w2 ⟨⟨hi, hS, hlt', hz, hsrc, hdone⟩, hp⟩ IH2 C
        have hBl : B.length = 2 * nds x.n := by rw [← hGN]; exact hS.len
        have hQl : Q.length ≤ 2 * nds x.n := by rw [← hGN]; exact hS.qlen
        refine h_run rfl ?_; skip
        refine h_cond_dec (fun hl2 => ?_) (fun hl2 => ?_)
        ·have hi2 : i < NX.length := by omega
         obtain ⟨y, hy, hyN, hyf, hys⟩ := hNx.st _ (getD_mem hi2)
         rw [hGN] at hyN
         have ey : (NX.getD i default).toNat = y := by omega
         refine h_cond_t rfl rfl ?_; (repeat (refine gLoad ?_; first | refine H_ldEN hp rfl (by omega) rfl rfl ?_ | refine H_ldE hp rfl (by omega) (by omega) rfl rfl ?_))
         refine h_cond_dec (fun hb => ?_) (fun hb => ?_)
         ·have hb' : B.getD y default = -2 := by rw [← ey]; exact hb
          refine h_cond_t rfl rfl ?_; skip
          refine D_draw hp (by kernel_rfl) (by kernel_rfl) rfl rfl ?_; intro w hx hp; have hs := hp; (repeat (first | (refine gLoad ?_; refine D_ldEN rfl (by omega) rfl rfl rfl ?_) | (refine gStore ?_; refine V_st0 hp rfl rfl rfl (by omega) (by decide) rfl rfl (by kernel_rfl) ?_; intro w hp; refine D_ops rfl rfl ?_)))
          (repeat (first | (refine gLoad ?_; refine H_ldEN hp rfl (by omega) rfl rfl ?_) | (refine gBuild ?_; refine U_litI hp rfl rfl rfl rfl rfl rfl rfl rfl rfl rfl ?_; intro w _ hx hp; refine ops_run nopre rfl ?_)))
          refine U_append hp rfl rfl rfl rfl rfl rfl rfl (by decide) rfl (by first | omega | (simp only [List.length_append, List.length_cons, List.length_nil, List.length_take, List.length_drop, List.length_set, List.length_replicate, List.length_map]; omega)) rfl rfl ?_; intro qb' qc' w hp hnil; refine ops_run nopre rfl ?_; skip
          have hS' : SIn G f (B.set (NX.getD i default).toNat (Q.getD q default)) (Q ++ [NX.getD i default]) q := by
           rw [ey, hz, hy]
           exact hS.add (by omega) hb' (by omega) hyf (.inr ⟨q, z, hlt', hz, rfl, hys⟩)
          have hyB : y < B.length := by omega
          have hzz : (z : Int) ≠ -2 := by omega
          refine IH2 (i + 1) _ (Q ++ [NX.getD i default]) qb' qc' _ _ _ (by omega) rfl ⟨⟨by omega, hS', by simp; omega, by rw [snoc_lt hlt']; exact hz, fun p c h1 h2 h3 => ?_, fun j hj => ?_⟩, hp.drop⟩
          ·rw [ey, hz]; exact set_up hyB hzz (hsrc p c h1 h2 h3)
          ·rw [ey, hz]
           by_cases hji : j = i
           ·subst hji; rw [ey]; exact set_on hyB hzz
           ·exact set_up hyB hzz (hdone j (by omega))
         ·refine h_cond_f rfl rfl ?_; skip
          refine IH2 (i + 1) B Q qb qc _ _ _ (by omega) rfl ⟨⟨by omega, hS, hlt', hz, hsrc, fun j hj => ?_⟩, hp⟩
          by_cases hji : j = i
          ·subst hji; exact hb
          ·exact hdone j (by omega)
        ·clear IH2
         refine h_cond_f rfl rfl ?_; skip
         refine IH (q + 1) B Q qb qc _ _ _ (by omega) rfl ⟨⟨by omega, hS.next hlt' hz (fun s hs hns => ?_) hNx.lf, hsrc⟩, hp.drop⟩
         obtain ⟨j, j1, j2⟩ := mem_getD (hNx.cl s hs hns)
         have := hdone j (by omega)
         rw [j2] at this
         exact this
       ·rw [if_neg (by rw [hu]; decide), List.append_nil] at hNx
        refine h_cond_f rfl rfl ?_; skip
        obtain ⟨NX, hNX⟩ : ∃ NX : List Int, NX = twoL (fanL x.n (z / 2)) := ⟨_, rfl⟩
        rw [← hNX] at hp hNx ⊢
        have hNl : NX.length ≤ 3 := by rw [hNX, htl]; omega
        refine h_loop5 [2, 3, 4, 10, 11, 16, 18, 21] (fun (i : Nat) (B : List Int) (Q : List Int) (qb : Option Addr) (qc : Nat) => [(2, .slice Ua U.length Uc), (3, .slice Va V.length Vc), (4, .pointer (some ⟨b4, 0, none⟩)), (10, .slice tb (2 * nds x.n) tc), (11, .slice qb Q.length qc), (16, .int .i64 (q : Int)), (18, .slice nb NX.length nc), (21, .int .i64 (i : Int))])
         (fun i B Q qb qc w' => (i ≤ NX.length ∧ SIn G f B Q q ∧ q < Q.length ∧ Q.getD q default = (z : Int) ∧ SSrc G B ∧ ∀ j, j < i → B.getD (NX.getD j default).toNat default ≠ -2) ∧ Hp w0 w' [rO 3 1 eI nb nc NX, rO 3 1 eI tb tc B, rO 3 1 eI qb qc Q, rB b4 28 x.cs])
         (fun i _ _ _ _ => NX.length - i) 0 B Q qb qc rfl ⟨⟨by omega, hS, hlt', hz, hsrc, fun j hj => by omega⟩, hp⟩ ?_
        clear hp hS hlt' hz hsrc hBl hQl hQi
        rintro i B Q qb qc w2 ⟨⟨hi, hS, hlt', hz, hsrc, hdone⟩, hp⟩ IH2 C
        have hBl : B.length = 2 * nds x.n := by rw [← hGN]; exact hS.len
        have hQl : Q.length ≤ 2 * nds x.n := by rw [← hGN]; exact hS.qlen
        refine h_run rfl ?_; skip
        refine h_cond_dec (fun hl2 => ?_) (fun hl2 => ?_)
        ·have hi2 : i < NX.length := by omega
         obtain ⟨y, hy, hyN, hyf, hys⟩ := hNx.st _ (getD_mem hi2)
         rw [hGN] at hyN
         have ey : (NX.getD i default).toNat = y := by omega
         refine h_cond_t rfl rfl ?_; (repeat (refine gLoad ?_; first | refine H_ldEN hp rfl (by omega) rfl rfl ?_ | refine H_ldE hp rfl (by omega) (by omega) rfl rfl ?_))
         refine h_cond_dec (fun hb => ?_) (fun hb => ?_)
         ·have hb' : B.getD y default = -2 := by rw [← ey]; exact hb
          refine h_cond_t rfl rfl ?_; skip
          refine D_draw hp (by kernel_rfl) (by kernel_rfl) rfl rfl ?_; intro w hx hp; have hs := hp; (repeat (first | (refine gLoad ?_; refine D_ldEN rfl (by omega) rfl rfl rfl ?_) | (refine gStore ?_; refine V_st0 hp rfl rfl rfl (by omega) (by decide) rfl rfl (by kernel_rfl) ?_; intro w hp; refine D_ops rfl rfl ?_)))
          (repeat (first | (refine gLoad ?_; refine H_ldEN hp rfl (by omega) rfl rfl ?_) | (refine gBuild ?_; refine U_litI hp rfl rfl rfl rfl rfl rfl rfl rfl rfl rfl ?_; intro w _ hx hp; refine ops_run nopre rfl ?_)))
          refine U_append hp rfl rfl rfl rfl rfl rfl rfl (by decide) rfl (by first | omega | (simp only [List.length_append, List.length_cons, List.length_nil, List.length_take, List.length_drop, List.length_set, List.length_replicate, List.length_map]; omega)) rfl rfl ?_; intro qb' qc' w hp hnil; refine ops_run nopre rfl ?_; skip
          have hS' : SIn G f (B.set (NX.getD i default).toNat (Q.getD q default)) (Q ++ [NX.getD i default]) q := by
           rw [ey, hz, hy]
           exact hS.add (by omega) hb' (by omega) hyf (.inr ⟨q, z, hlt', hz, rfl, hys⟩)
          have hyB : y < B.length := by omega
          have hzz : (z : Int) ≠ -2 := by omega
          refine IH2 (i + 1) _ (Q ++ [NX.getD i default]) qb' qc' _ _ _ (by omega) rfl ⟨⟨by omega, hS', by simp; omega, by rw [snoc_lt hlt']; exact hz, fun p c h1 h2 h3 => ?_, fun j hj => ?_⟩, hp.drop⟩
          ·rw [ey, hz]; exact set_up hyB hzz (hsrc p c h1 h2 h3)
          ·rw [ey, hz]
           by_cases hji : j = i
           ·subst hji; rw [ey]; exact set_on hyB hzz
           ·exact set_up hyB hzz (hdone j (by omega))
         ·refine h_cond_f rfl rfl ?_; skip
          refine IH2 (i + 1) B Q qb qc _ _ _ (by omega) rfl ⟨⟨by omega, hS, hlt', hz, hsrc, fun j hj => ?_⟩, hp⟩
          by_cases hji : j = i
          ·subst hji; exact hb
          ·exact hdone j (by omega)
        ·clear IH2
         refine h_cond_f rfl rfl ?_; skip
         refine IH (q + 1) B Q qb qc _ _ _ (by omega) rfl ⟨⟨by omega, hS.next hlt' hz (fun s hs hns => ?_) hNx.lf, hsrc⟩, hp.drop⟩
         obtain ⟨j, j1, j2⟩ := mem_getD (hNx.cl s hs hns)
         have := hdone j (by omega)
         rw [j2] at this
         exact this
   ·obtain rfl : q = Q.length := by omega
    clear IH
    refine h_cond_f rfl rfl ?_; (repeat (refine R_ret ?_))
    exact ⟨tb, tc, B, Q, _, _, ⟨rfl, hS, hsrc, .inl ⟨rfl, rfl⟩⟩, hp.sub (by simp)⟩
end Go.Proofs
