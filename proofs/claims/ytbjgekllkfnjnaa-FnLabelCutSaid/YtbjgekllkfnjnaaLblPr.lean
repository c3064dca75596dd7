/- The program's search for one more unit, as plain data; no condition but the stated ones. -/
import Derived.Test.YtbjgekllkfnjnaaLblLaw
set_option linter.all false
namespace Go.Xw
set_option maxHeartbeats 1000000
theorem cone_lb {n : NetL} (hn : Nums n) {L : List Int} {k0 : Nat} (hL : LblOk n L k0) {m k : Nat} (h : InCone n m k) (hm : m < k0) : L.getD k default ≤ L.getD m default := by
 induction h with
 | refl => exact Int.le_refl _
 | @left i k hi h ih =>
  have ka := hn.ka i hi
  have h1 := hL.mono i hi hm
  have h2 := ih (by omega)
  omega
 | @right i k hi h ih =>
  have kb := hn.kb i hi
  have h1 := hL.mono i hi hm
  have h2 := ih (by omega)
  omega
structure PSr (G : GrF) (f : Flo) (k0 : Nat) (FR : List ((Nat × Bool) × (Nat × Bool))) (q : Nat) : Prop where
 nd : (FR.map Prod.fst).Nodup
 pos : 0 < FR.length
 st : FR.getD 0 default = ((k0, true), (k0, true))
 dom : ∀ p, p ∈ FR → p.1.1 < G.N
 qle : q ≤ FR.length
 frm : ∀ j, 0 < j → j < FR.length → (FR.getD j default).1.1 ≠ 0 → ∃ i, i < j ∧ (FR.getD i default).1 = (FR.getD j default).2 ∧ (FR.getD i default).1.1 ≠ 0 ∧ Stp G f (FR.getD j default).2 (FR.getD j default).1
 don : ∀ j, j < q → ∀ s, Stp G f (FR.getD j default).1 s → ∃ i, i < FR.length ∧ (FR.getD i default).1 = s
 nol : ∀ j k, j < q → (FR.getD j default).1 = (k, false) → ¬ G.leaf k
theorem PSr.free {n : NetL} (hn : Nums n) {k0 : Nat} {L : List Int} {h : Int} (hL : LblOk n L k0) (hk : fst_ n ≤ k0) (hh : 1 ≤ h) {f : Flo} {FR : List ((Nat × Bool) × (Nat × Bool))} (hP : PSr (lgG n k0 L h) f k0 FR FR.length) :
  ∀ m k, InCone n m k → InCone n k0 m → lgFree n k0 L h m → (∃ i, i < FR.length ∧ (FR.getD i default).1 = (m, true)) → lgFree n k0 L h k → ∀ b, ∃ i, i < FR.length ∧ (FR.getD i default).1 = (k, b) := by
 intro m k hc
 have thru : ∀ m, lgFree n k0 L h m → (∃ i, i < FR.length ∧ (FR.getD i default).1 = (m, true)) → ∃ i, i < FR.length ∧ (FR.getD i default).1 = (m, false) := fun m hm ⟨i, i1, i2⟩ => hP.don i i1 _ (by rw [i2]; exact .thru (.inl hm))
 have step : ∀ i c k, i < n.ands.length → (c = kA n i ∨ c = kB n i) → InCone n c k → InCone n k0 (fst_ n + i) → lgFree n k0 L h (fst_ n + i) → (∃ j, j < FR.length ∧ (FR.getD j default).1 = (fst_ n + i, true)) → lgFree n k0 L h k → InCone n k0 c ∧ lgFree n k0 L h c ∧ ∃ j, j < FR.length ∧ (FR.getD j default).1 = (c, true) := fun i c k hi hc hck hm hfm hkey hfk => by
  have ka := hn.ka i hi
  have kb := hn.kb i hi
  have f1 := hn.f1
  have hml := hm.le hn
  have hckl := hck.le hn
  have hcl : c < fst_ n + i := by rcases hc with rfl | rfl <;> omega
  have hlk : h ≤ L.getD k default := by
   rcases hfk with rfl | ⟨_, h2⟩
   ·omega
   ·exact h2
  have hlc := cone_lb hn hL hck (by omega)
  have hc0 : c ≠ 0 := fun h0 => by
   have := hL.leaf c (by omega)
   omega
  have hcc : InCone n k0 c := by
   rcases hc with rfl | rfl
   ·exact hm.trans (.left hi (.refl _))
   ·exact hm.trans (.right hi (.refl _))
  obtain ⟨j, j1, j2⟩ := thru _ hfm hkey
  exact ⟨hcc, .inr ⟨hcc, by omega⟩, hP.don j j1 (c, true) (by rw [j2]; exact .arc ⟨hm, hc0, i, hi, rfl, hc⟩)⟩
 induction hc with
 | refl =>
  intro _ hf hkey _ b
  cases b
  ·exact thru _ hf hkey
  ·exact hkey
 | @left i k hi hc ih =>
  intro hm hfm hkey hfk b
  obtain ⟨s1, s2, s3⟩ := step i _ k hi (.inl rfl) hc hm hfm hkey hfk
  exact ih s1 s2 s3 hfk b
 | @right i k hi hc ih =>
  intro hm hfm hkey hfk b
  obtain ⟨s1, s2, s3⟩ := step i _ k hi (.inr rfl) hc hm hfm hkey hfk
  exact ih s1 s2 s3 hfk b
theorem PSr.reach {G : GrF} {f : Flo} {k0 : Nat} {FR : List ((Nat × Bool) × (Nat × Bool))} {q : Nat} (hP : PSr G f k0 FR q) (hf : G.free k0) : ∀ m j, j < m → j < FR.length → (FR.getD j default).1.1 ≠ 0 → Rch G f (FR.getD j default).1.1 (FR.getD j default).1.2
 | 0, _, h, _, _ => by omega
 | m + 1, j, hj, hl, h0 => by
  by_cases hj0 : j = 0
  ·subst hj0
   rw [hP.st]
   exact .srcT hf
  ·obtain ⟨i, i1, i2, i3, i4⟩ := hP.frm j (by omega) hl h0
   have := hP.reach hf m i (by omega) (by omega) i3
   rw [i2] at this
   exact i4.res this
def KeyIn (FR : List ((Nat × Bool) × (Nat × Bool))) (x : Nat × Bool) : Prop := ∃ i, i < FR.length ∧ (FR.getD i default).1 = x
theorem PSr.rch {G : GrF} (hG : GrOk G) {f : Flo} (hf : FlP G f) {k0 : Nat} {FR : List ((Nat × Bool) × (Nat × Bool))} (hP : PSr G f k0 FR FR.length) (hk0 : G.free k0) (hfree : ∀ k b, G.free k → KeyIn FR (k, b)) {k : Nat} (hk : k ≠ 0) {b : Bool} : Rch G f k b ↔ KeyIn FR (k, b) := by
 constructor
 ·intro r
  clear hk
  induction r with
  | srcT h => exact hfree _ _ h
  | srcF h => exact hfree _ _ h
  | thru _ _ h0 ih => obtain ⟨i, i1, i2⟩ := ih; exact hP.don i i1 _ (by rw [i2]; exact .thru (.inr h0))
  | @undo k p _ h0 ih => obtain ⟨i, i1, i2⟩ := ih; exact hP.don i i1 _ (by rw [i2]; exact .undo h0 (hf.ea p k (by omega)))
  | arc _ ha ih => obtain ⟨i, i1, i2⟩ := ih; exact hP.don i i1 _ (by rw [i2]; exact .arc ha)
  | rev _ h0 ih => obtain ⟨i, i1, i2⟩ := ih; exact hP.don i i1 _ (by rw [i2]; exact .rev h0)
 ·rintro ⟨i, i1, i2⟩
  have := hP.reach hk0 (i + 1) i (by omega) i1 (by rw [i2]; exact hk)
  rw [i2] at this
  exact this
theorem PSr.term {G : GrF} (hG : GrOk G) {f : Flo} (hf : FlP G f) {k0 : Nat} {FR : List ((Nat × Bool) × (Nat × Bool))} (hP : PSr G f k0 FR FR.length) (hk0 : G.free k0) (hfree : ∀ k b, G.free k → KeyIn FR (k, b)) (hl0 : ¬ G.leaf 0) : Term G f := fun k r hl => by
 have hk : k ≠ 0 := fun h => hl0 (h ▸ hl)
 obtain ⟨i, i1, i2⟩ := (hP.rch hG hf hk0 hfree hk).1 r
 exact hP.nol i k i1 i2 hl
theorem PSr.near {G : GrF} (hG : GrOk G) {f : Flo} (hf : FlP G f) {k0 : Nat} {FR : List ((Nat × Bool) × (Nat × Bool))} (hP : PSr G f k0 FR FR.length) (hk0 : G.free k0) (hfree : ∀ k b, G.free k → KeyIn FR (k, b)) {k : Nat} (hk : k ≠ 0) : NrC G f k ↔ KeyIn FR (k, true) ∧ ¬ KeyIn FR (k, false) := by
 unfold NrC
 rw [hP.rch hG hf hk0 hfree hk, hP.rch hG hf hk0 hfree hk]
theorem PSr.add {G : GrF} {f : Flo} {k0 : Nat} {FR : List ((Nat × Bool) × (Nat × Bool))} {q : Nat} (hP : PSr G f k0 FR q) {x y : Nat × Bool} (hx : ¬ KeyIn FR x) (hN : x.1 < G.N) (hy : KeyIn FR y) (hs : x.1 = 0 ∨ (y.1 ≠ 0 ∧ Stp G f y x)) : PSr G f k0 (FR ++ [(x, y)]) q := by
 have hlt : ∀ j, j < FR.length → (FR ++ [(x, y)]).getD j default = FR.getD j default := fun j hj => snoc_lt hj
 have heq : (FR ++ [(x, y)]).getD FR.length default = (x, y) := snoc_eq
 have hlen : (FR ++ [(x, y)]).length = FR.length + 1 := by simp
 refine ⟨?_, by omega, by rw [hlt 0 hP.pos]; exact hP.st, fun p hp => ?_, by have := hP.qle; omega, fun j hj hl h0 => ?_, fun j hj s hst => ?_, fun j k hj he => ?_⟩
 ·rw [List.map_append, List.nodup_append]
  refine ⟨hP.nd, by simp, fun a ha b hb => ?_⟩
  simp at hb; subst hb
  intro he
  obtain ⟨p, hp, hpe⟩ := List.mem_map.1 ha
  obtain ⟨i, hi, hie⟩ := List.getElem_of_mem hp
  exact hx ⟨i, hi, by rw [List.getD_eq_getElem?_getD, List.getElem?_eq_getElem hi]; show (FR[i]).1 = _; rw [hie, hpe, he]⟩
 ·rcases List.mem_append.1 hp with hp | hp
  ·exact hP.dom p hp
  ·simp at hp; subst hp; exact hN
 ·by_cases hjl : j < FR.length
  ·rw [hlt j hjl] at h0 ⊢
   obtain ⟨i, i1, i2, i3, i4⟩ := hP.frm j hj hjl h0
   exact ⟨i, i1, by rw [hlt i (by omega)]; exact i2, by rw [hlt i (by omega)]; exact i3, i4⟩
  ·obtain rfl : j = FR.length := by omega
   rw [heq] at h0 ⊢
   obtain ⟨i, i1, i2⟩ := hy
   obtain ⟨s1, s2⟩ := hs.resolve_left h0
   exact ⟨i, i1, by rw [hlt i i1]; exact i2, by rw [hlt i i1, i2]; exact s1, s2⟩
 ·have hjl : j < FR.length := by have := hP.qle; omega
  rw [hlt j hjl] at hst
  obtain ⟨i, i1, i2⟩ := hP.don j hj s hst
  exact ⟨i, by omega, by rw [hlt i i1]; exact i2⟩
 ·have hjl : j < FR.length := by have := hP.qle; omega
  rw [hlt j hjl] at he
  exact hP.nol j k hj he
theorem PSr.next {G : GrF} {f : Flo} {k0 : Nat} {FR : List ((Nat × Bool) × (Nat × Bool))} {q : Nat} (hP : PSr G f k0 FR q) (hq : q < FR.length) (hd : ∀ s, Stp G f (FR.getD q default).1 s → KeyIn FR s) (hl : ∀ k, (FR.getD q default).1 = (k, false) → ¬ G.leaf k) : PSr G f k0 FR (q + 1) :=
 ⟨hP.nd, hP.pos, hP.st, hP.dom, by omega, hP.frm, fun j hj => by
  by_cases hjq : j = q
  ·subst hjq; exact hd
  ·exact hP.don j (by omega), fun j k hj => by
  by_cases hjq : j = q
  ·subst hjq; exact hl k
  ·exact hP.nol j k (by omega)⟩
theorem PSr.start {G : GrF} {f : Flo} {k0 : Nat} (hk : k0 < G.N) : PSr G f k0 [((k0, true), (k0, true))] 0 :=
 ⟨by simp, by simp, rfl, fun p hp => by simp at hp; subst hp; exact hk, by omega, fun j hj hl => by simp at hl; omega, fun j hj => by omega, fun j k hj => by omega⟩
end Go.Xw
