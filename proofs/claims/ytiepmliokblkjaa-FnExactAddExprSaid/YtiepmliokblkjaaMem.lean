/- Slices that read as lists, rows of the call's own, and the rules for loads, stores, appends and makes; each under its stated conditions. -/
import Derived.Test.YtiepmliokblkjaaCore
set_option linter.all false
namespace Go.Xw
open Go.RowKit
theorem add_of_add (a : Addr) (i j : Nat) : (a.add i).add j = a.add (i + j) := by
 unfold Addr.add
 by_cases hi : i = 0 <;> by_cases hj : j = 0 <;> simp [hi, hj, Nat.add_assoc]
theorem block_of_add (a : Addr) (n : Nat) : (a.add n).block = a.block := by unfold Addr.add; split <;> rfl
def Sl (w : World) (a : Option Addr) (n sz : Nat) (f : Nat → Nat → Value) : Prop :=
 (0 < n → a ≠ none) ∧ ∀ i j, i < n → j < sz → w.cell? ((elemAddr a sz (i : Int)).add j) = some (f i j)
theorem Sl.ext {w w' : World} {a : Option Addr} {n sz : Nat} {f : Nat → Nat → Value} (h : Sl w a n sz f) (hx : Ext w w') : Sl w' a n sz f :=
 ⟨h.1, fun i j hi hj => hx.cell (h.2 i j hi hj)⟩
theorem Sl.nil (w : World) (sz : Nat) (f : Nat → Nat → Value) (a : Option Addr) : Sl w a 0 sz f := ⟨fun h => absurd h (by omega), fun i j hi => absurd hi (by omega)⟩
theorem Sl.congr {w : World} {a : Option Addr} {n sz : Nat} {f g : Nat → Nat → Value} (h : Sl w a n sz f) (hfg : ∀ i j, i < n → j < sz → f i j = g i j) : Sl w a n sz g :=
 ⟨h.1, fun i j hi hj => (h.2 i j hi hj).trans (by rw [hfg i j hi hj])⟩
theorem Sl.at_ {w : World} {a : Option Addr} {n sz : Nat} {f : Nat → Nat → Value} (h : Sl w a n sz f) {z : Int} {j : Nat} (h0 : 0 ≤ z) (h1 : z < n) (hj : j < sz) :
  w.cell? (addA (elemAddr a sz z) j) = some (f z.toNat j) := by
 have h2 := h.2 z.toNat j (by omega) hj
 rw [addA_eq]
 have : ((z.toNat : Nat) : Int) = z := Int.toNat_of_nonneg h0
 rw [this] at h2
 exact h2
theorem Sl.at0 {w : World} {a : Option Addr} {n sz : Nat} {f : Nat → Nat → Value} (h : Sl w a n sz f) {z : Int} (h0 : 0 ≤ z) (h1 : z < n) (hj : 0 < sz) :
  w.cell? (elemAddr a sz z) = some (f z.toNat 0) := by
 have h2 := h.at_ h0 h1 hj
 rw [addA_eq] at h2
 simpa [Addr.add] using h2
def eI (x : Int) : List Value := [.int .i64 x]
def eU8 (x : Int) : List Value := [.int .u8 x]
def eB (x : Bool) : List Value := [.bool x]
def eII (x : Int × Int) : List Value := [.int .i64 x.1, .int .i64 x.2]
def fL {α : Type} [Inhabited α] (enc : α → List Value) (L : List α) : Nat → Nat → Value := fun i j => match nthL (enc (L.getD i default)) j with
 | some v => v
 | none => undef
theorem Sl.sub {w : World} {a : Option Addr} {n sz c lo hi : Nat} {f : Nat → Nat → Value} (h : Sl w a n sz f) (h1 : lo ≤ hi) (h2 : hi ≤ n) (hc : n ≤ c) : Sl w (subA a c sz lo) (hi - lo) sz fun i j => f (lo + i) j := by
 unfold subA
 split
 ·rename_i he
  have : hi - lo = 0 := by omega
  rw [this]
  exact Sl.nil _ _ _ _
 ·cases a with
  | none =>
   have hn : ¬ 0 < n := fun hn => h.1 hn rfl
   have : hi - lo = 0 := by omega
   rw [this]
   exact Sl.nil _ _ _ _
  | some a =>
   refine ⟨fun _ => by simp, fun i j hi hj => ?_⟩
   have h3 := h.2 (lo + i) j (by omega) hj
   rw [← h3]
   congr 1
   simp only [elemAddr, Option.getD_some, Option.map_some, Int.toNat_natCast, add_of_add, Nat.add_mul]
def Own {α : Type} (w : World) (B : Nat) (e : TypeId) (sz : Nat) (enc : α → List Value) (a : Option Addr) (c : Nat) (L : List α) : Prop :=
 w.ownsRow B e sz (.slice a L.length c) L.length (L.flatMap enc)
def blk (a : Option Addr) : Option Nat := a.map (·.block)
section
variable {α : Type} {w w' : World} {B : Nat} {e : TypeId} {sz : Nat} {enc : α → List Value} {a : Option Addr} {c : Nat} {L : List α}
theorem ownBlock_slice (a : Option Addr) (n c : Nat) : Value.ownBlock (.slice a n c) = blk a := by cases a <;> rfl
theorem Own.lt (h : Own w B e sz enc a c L) {k : Nat} (hk : blk a = some k) : B ≤ k ∧ k < w.heap.size :=
 World.ownsRow.lt h k (by rw [ownBlock_slice]; exact hk)
theorem Own.kept {row : Option Nat} (h : Own w B e sz enc a c L) (hg : w.grownBy w' row) (hne : blk a = none ∨ blk a ≠ row) : Own w' B e sz enc a c L :=
 World.ownsRow.kept h hg (by rw [ownBlock_slice]; exact hne)
theorem Own.ext (h : Own w B e sz enc a c L) (hx : Ext w w') : Own w' B e sz enc a c L := by
 refine h.kept (row := none) ⟨hx.os, hx.tape, hx.output, hx.size, fun k hk _ => Below.block hx k hk⟩ ?_
 cases hb : blk a <;> simp
theorem Own.mono {B' : Nat} (h : Own w B e sz enc a c L) (hB : B' ≤ B) : Own w B' e sz enc a c L := by
 refine ⟨h.1, ?_⟩
 rcases h.2 with h2 | ⟨g, cap, cur, hv, hb, r⟩
 ·exact .inl h2
 ·exact .inr ⟨g, cap, cur, hv, by omega, r⟩
theorem Own.nil (w : World) (B : Nat) (e : TypeId) (sz : Nat) (enc : α → List Value) : Own w B e sz enc none 0 ([] : List α) := by
 have := World.ownsRow_nil w B e sz
 exact this
theorem Own.form (h : Own w B e sz enc a c L) : (a = none ∧ L = [] ∧ c = 0) ∨ ∃ g, a = some ⟨g, 0, none⟩ ∧ L.length ≤ c ∧ B ≤ g := by
 rcases h.2 with ⟨h1, h2⟩ | ⟨g, cap, cur, hv, hb, hg, hn, hc, _⟩
 ·injection h1 with h3 h4 h5
  exact .inl ⟨h3, List.length_eq_zero_iff.1 h2, h5⟩
 ·injection hv with h3 h4 h5
  subst h5
  exact .inr ⟨g, h3, hn, hb⟩
theorem Own.cap (h : Own w B e sz enc a c L) : L.length ≤ c := by
 rcases h.form with ⟨_, rfl, _⟩ | ⟨g, _, h, _⟩
 ·simp
 ·exact h
theorem flat_get {L : List α} (hz : ∀ x, (enc x).length = sz) : ∀ {i j : Nat} {x : α}, L[i]? = some x → j < sz → (L.flatMap enc)[i * sz + j]? = (enc x)[j]? := by
 induction L with
 | nil => intro i j x h; simp at h
 | cons y L ih =>
  intro i j x h hj
  cases i with
  | zero =>
   simp at h; subst h
   simp only [List.flatMap_cons, Nat.zero_mul, Nat.zero_add]
   rw [List.getElem?_append_left (by rw [hz]; exact hj)]
  | succ i =>
   simp only [List.flatMap_cons]
   rw [List.getElem?_append_right (by rw [hz, Nat.succ_mul]; omega), hz]
   rw [show (i + 1) * sz + j - sz = i * sz + j by rw [Nat.succ_mul]; omega]
   exact ih (by simpa using h) hj
theorem Own.sl [Inhabited α] (h : Own w B e sz enc a c L) (hz : ∀ x, (enc x).length = sz) : Sl w a L.length sz (fL enc L) := by
 rcases h.form with ⟨rfl, rfl, rfl⟩ | ⟨g, rfl, hn, hb⟩
 ·exact Sl.nil _ _ _ _
 ·refine ⟨fun _ => by simp, fun i j hi hj => ?_⟩
  have hc := World.ownsRow.cells h (g := g) rfl (i * sz + j)
  have hx : L[i]? = some (L[i]'hi) := List.getElem?_eq_getElem hi
  have hf := flat_get (enc := enc) (sz := sz) hz hx hj
  have hlt : j < (enc (L[i]'hi)).length := by rw [hz]; exact hj
  rw [List.getElem?_eq_getElem hlt] at hf
  have hq := hc _ hf
  have ha : (elemAddr (some ⟨g, 0, none⟩) sz (i : Int)).add j = (⟨g, 0, none⟩ : Addr).add (i * sz + j) := by
   simp only [elemAddr, Option.getD_some, Int.toNat_natCast]
   rw [add_of_add]
  rw [ha, hq]
  simp only [fL, nthL_eq, List.getD_eq_getElem?_getD, hx, Option.getD_some, List.getElem?_eq_getElem hlt]
end
theorem Blk.cell {w : World} {b : Nat} {t : TypeId} {cs : List Value} (h : Blk w b t cs) (i : Nat) : w.cell? ⟨b, i, none⟩ = cs[i]? := by
 simp [World.cell?, show w.heap[b]? = _ from h]
theorem Blk.frozen {w : World} {b : Nat} {t : TypeId} {cs : List Value} (h : Blk w b t cs) (i : Nat) : w.frozen? ⟨b, i, none⟩ = false := by
 simp [World.frozen?, show w.heap[b]? = _ from h]
theorem Blk.set_ {w : World} {b : Nat} {t : TypeId} {cs : List Value} (h : Blk w b t cs) (i : Nat) (u : Value) : Blk (w.setCell ⟨b, i, none⟩ u) b t (cs.set i u) := by
 unfold Blk at h ⊢
 simp [World.setCell, Array.getElem?_modify, h]
theorem Blk.grown {w w' : World} {b : Nat} {t : TypeId} {cs : List Value} {row : Option Nat} (h : Blk w b t cs) (hg : w.grownBy w' row) (hne : some b ≠ row) : Blk w' b t cs :=
 (hg.block b h.lt hne).trans h
theorem Sl.grown {w w' : World} {a : Option Addr} {n sz : Nat} {f : Nat → Nat → Value} {row : Option Nat} (h : Sl w a n sz f) (hg : w.grownBy w' row) (hne : blk a = none ∨ blk a ≠ row) : Sl w' a n sz f := by
 refine ⟨h.1, fun i j hi hj => ?_⟩
 refine hg.cell (h.2 i j hi hj) ?_
 rw [block_of_add]
 cases a with
 | none => exact absurd rfl (h.1 (by omega))
 | some a =>
  simp only [elemAddr, Option.getD_some, block_of_add]
  rcases hne with hne | hne
  ·simp [blk] at hne
  ·simpa [blk] using hne
section
variable {P : Program} {tt : TT} {t : TypeId} {w : World}
theorem loadVar1 (hok : TTok P tt) (ha : aggOf tt t = some false) {ad : Addr} {v : Value} (h : w.cell? ad = some v) : (loadVar t ad).run P w = .ok v w := by
 simp [loadVar, isAgg_run hok ha, h]
theorem loadVarN (hok : TTok P tt) (ha : aggOf tt t = some true) {i : TI} (hi : tl tt t = some i) {ad : Addr} {l : List Value} (hl : l.length = i.size)
  (h : ∀ j u, l[j]? = some u → w.cell? (ad.add j) = some u) : (loadVar t ad).run P w = .ok (.agg ⟨l⟩) w := by
 have hc := run_loadCells_list (P := P) (w := w) ad l h
 simp only [loadVar, Sem.run_bind, isAgg_run hok ha, Result.andThen_ok, if_true, sizeOf_run hok hi]
 rw [← hl, hc]
 rfl
theorem ld_blk (hok : TTok P tt) (ha : aggOf tt t = some false) {b o : Nat} {tb : TypeId} {cs : List Value} {v : Value} (h : Blk w b tb cs) (hv : nthL cs o = some v) :
  (loadVar t ⟨b, o, none⟩).run P w = .ok v w := loadVar1 hok ha (by rw [h.cell, ← nthL_eq]; exact hv)
theorem ld_blkN (hok : TTok P tt) (ha : aggOf tt t = some true) {i : TI} (hi : tl tt t = some i) {b o : Nat} {tb : TypeId} {cs l : List Value} (h : Blk w b tb cs) (hv : takeF i.size (dropF o cs) = some l) :
  (loadVar t ⟨b, o, none⟩).run P w = .ok (.agg ⟨l⟩) w := by
 obtain ⟨h1, h2⟩ := takeF_eq hv
 rw [dropF_eq] at h1 h2
 refine loadVarN hok ha hi (by rw [h1, List.length_take]; omega) fun j u hu => ?_
 have : (⟨b, o, none⟩ : Addr).add j = ⟨b, o + j, none⟩ := by rw [← addA_eq]; rfl
 rw [this, h.cell]
 rw [h1, List.getElem?_take] at hu
 split at hu
 ·rw [List.getElem?_drop] at hu; exact hu
 ·cases hu
theorem ld_el (hok : TTok P tt) (ha : aggOf tt t = some false) {a : Option Addr} {n sz : Nat} {f : Nat → Nat → Value} {z : Int} (h : Sl w a n sz f) (h0 : 0 ≤ z) (h1 : z < n) (hj : 0 < sz) :
  (loadVar t (elemAddr a sz z)).run P w = .ok (f z.toNat 0) w := loadVar1 hok ha (h.at0 h0 h1 hj)
theorem ld_elN (hok : TTok P tt) (ha : aggOf tt t = some false) {a : Option Addr} {n sz : Nat} {f : Nat → Nat → Value} {i : Nat} (h : Sl w a n sz f) (h1 : i < n) (hj : 0 < sz) :
  (loadVar t (elemAddr a sz (i : Int))).run P w = .ok (f i 0) w := by
 have := ld_el (t := t) (z := (i : Int)) hok ha h (by omega) (by omega) hj
 simpa using this
theorem ld_fd (hok : TTok P tt) (ha : aggOf tt t = some false) {a : Option Addr} {n sz : Nat} {f : Nat → Nat → Value} {z : Int} {j : Nat} (h : Sl w a n sz f) (h0 : 0 ≤ z) (h1 : z < n) (hj : j < sz) :
  (loadVar t (addA (elemAddr a sz z) j)).run P w = .ok (f z.toNat j) w := loadVar1 hok ha (h.at_ h0 h1 hj)
end
end Go.Xw
