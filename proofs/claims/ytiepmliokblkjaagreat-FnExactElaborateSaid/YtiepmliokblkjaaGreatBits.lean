/- Texts that belong together; each under its stated conditions. -/
import Derived.Test.YtiepmliokblkjaaGreatCore
import Derived.Laws.BitsAllLaws
import Derived.Laws.BitsLemmas
import Derived.IntWalk
set_option linter.all false
section
namespace Go.Xw
open Go.RowKit
theorem add_of_add (a : Addr) (i j : Nat) : (a.add i).add j = a.add (i + j) := by
 unfold Addr.add
 by_cases hi : i = 0 <;> by_cases hj : j = 0 <;> simp [hi, hj, Nat.add_assoc]
theorem block_of_add (a : Addr) (n : Nat) : (a.add n).block = a.block := by unfold Addr.add; split <;> rfl
def Sl (w : World) (a : Option Addr) (n sz : Nat) (f : Nat → Nat → Value) : Prop :=
 (0 < n → a ≠ none) ∧ ∀ i j, i < n → j < sz → w.cell? ((elemAddr a sz (i : Int)).add j) = some (f i j)
theorem Sl.ext {w w' : World} {a : Option Addr} {n sz : Nat} {f : Nat → Nat → Value} (h : Sl w a n sz f) (hx : Ext w w') : Sl w' a n sz f :=
 ⟨h.1, fun i j hi hj => hx.cell (h.2 i j hi hj)⟩
theorem Sl.nil (w : World) (sz : Nat) (f : Nat → Nat → Value) (a : Option Addr) : Sl w a 0 sz f := ⟨fun h => absurd h (by omega), fun i j hi => absurd hi (by omega)⟩
theorem Sl.congr {w : World} {a : Option Addr} {n sz : Nat} {f g : Nat → Nat → Value} (h : Sl w a n sz f) (hfg : ∀ i j, i < n → j < sz → f i j = g i j) : Sl w a n sz g :=
 ⟨h.1, fun i j hi hj => (h.2 i j hi hj).trans (by rw [hfg i j hi hj])⟩
theorem Sl.at_ {w : World} {a : Option Addr} {n sz : Nat} {f : Nat → Nat → Value} (h : Sl w a n sz f) {z : Int} {j : Nat} (h0 : 0 ≤ z) (h1 : z < n) (hj : j < sz) :
  w.cell? (addA (elemAddr a sz z) j) = some (f z.toNat j) := by
 have h2 := h.2 z.toNat j (by omega) hj
 rw [addA_eq]
 have : ((z.toNat : Nat) : Int) = z := Int.toNat_of_nonneg h0
 rw [this] at h2
 exact h2
theorem Sl.at0 {w : World} {a : Option Addr} {n sz : Nat} {f : Nat → Nat → Value} (h : Sl w a n sz f) {z : Int} (h0 : 0 ≤ z) (h1 : z < n) (hj : 0 < sz) :
  w.cell? (elemAddr a sz z) = some (f z.toNat 0) := by
 have h2 := h.at_ h0 h1 hj
 rw [addA_eq] at h2
 simpa [Addr.add] using h2
def eI (x : Int) : List Value := [.int .i64 x]
def eU8 (x : Int) : List Value := [.int .u8 x]
def eB (x : Bool) : List Value := [.bool x]
def eII (x : Int × Int) : List Value := [.int .i64 x.1, .int .i64 x.2]
def fL {α : Type} [Inhabited α] (enc : α → List Value) (L : List α) : Nat → Nat → Value := fun i j => match nthL (enc (L.getD i default)) j with
 | some v => v
 | none => undef
theorem Sl.sub {w : World} {a : Option Addr} {n sz c lo hi : Nat} {f : Nat → Nat → Value} (h : Sl w a n sz f) (h1 : lo ≤ hi) (h2 : hi ≤ n) (hc : n ≤ c) : Sl w (subA a c sz lo) (hi - lo) sz fun i j => f (lo + i) j := by
 unfold subA
 split
 ·rename_i he
  have : hi - lo = 0 := by omega
  rw [this]
  exact Sl.nil _ _ _ _
 ·cases a with
  | none =>
   have hn : ¬ 0 < n := fun hn => h.1 hn rfl
   have : hi - lo = 0 := by omega
   rw [this]
   exact Sl.nil _ _ _ _
  | some a =>
   refine ⟨fun _ => by simp, fun i j hi hj => ?_⟩
   have h3 := h.2 (lo + i) j (by omega) hj
   rw [← h3]
   congr 1
   simp only [elemAddr, Option.getD_some, Option.map_some, Int.toNat_natCast, add_of_add, Nat.add_mul]
theorem fL_drop {α : Type} [Inhabited α] (enc : α → List Value) (L : List α) (lo i j : Nat) : fL enc L (lo + i) j = fL enc (L.drop lo) i j := by
 simp only [fL, List.getD_eq_getElem?_getD, List.getElem?_drop]
theorem Sl.dropL {α : Type} [Inhabited α] {enc : α → List Value} {w : World} {a : Option Addr} {sz c : Nat} {L : List α} (h : Sl w a L.length sz (fL enc L)) {lo : Nat} (h2 : lo ≤ L.length) (hc : L.length ≤ c) :
  Sl w (subA a c sz lo) (L.drop lo).length sz (fL enc (L.drop lo)) := by
 have h3 := h.sub (hi := L.length) (c := c) h2 (Nat.le_refl _) hc
 rw [List.length_drop]
 exact h3.congr fun i j hi hj => fL_drop enc L lo i j
def Own {α : Type} (w : World) (B : Nat) (e : TypeId) (sz : Nat) (enc : α → List Value) (a : Option Addr) (c : Nat) (L : List α) : Prop :=
 w.ownsRow B e sz (.slice a L.length c) L.length (L.flatMap enc)
def blk (a : Option Addr) : Option Nat := a.map (·.block)
section
variable {α : Type} {w w' : World} {B : Nat} {e : TypeId} {sz : Nat} {enc : α → List Value} {a : Option Addr} {c : Nat} {L : List α}
theorem ownBlock_slice (a : Option Addr) (n c : Nat) : Value.ownBlock (.slice a n c) = blk a := by cases a <;> rfl
theorem Own.lt (h : Own w B e sz enc a c L) {k : Nat} (hk : blk a = some k) : B ≤ k ∧ k < w.heap.size :=
 World.ownsRow.lt h k (by rw [ownBlock_slice]; exact hk)
theorem Own.kept {row : Option Nat} (h : Own w B e sz enc a c L) (hg : w.grownBy w' row) (hne : blk a = none ∨ blk a ≠ row) : Own w' B e sz enc a c L :=
 World.ownsRow.kept h hg (by rw [ownBlock_slice]; exact hne)
theorem Own.ext (h : Own w B e sz enc a c L) (hx : Ext w w') : Own w' B e sz enc a c L := by
 refine h.kept (row := none) ⟨hx.os, hx.tape, hx.output, hx.size, fun k hk _ => Below.block hx k hk⟩ ?_
 cases hb : blk a <;> simp
theorem Own.mono {B' : Nat} (h : Own w B e sz enc a c L) (hB : B' ≤ B) : Own w B' e sz enc a c L := by
 refine ⟨h.1, ?_⟩
 rcases h.2 with h2 | ⟨g, cap, cur, hv, hb, r⟩
 ·exact .inl h2
 ·exact .inr ⟨g, cap, cur, hv, by omega, r⟩
theorem Own.nil (w : World) (B : Nat) (e : TypeId) (sz : Nat) (enc : α → List Value) : Own w B e sz enc none 0 ([] : List α) := by
 have := World.ownsRow_nil w B e sz
 exact this
theorem Own.form (h : Own w B e sz enc a c L) : (a = none ∧ L = [] ∧ c = 0) ∨ ∃ g, a = some ⟨g, 0, none⟩ ∧ L.length ≤ c ∧ B ≤ g := by
 rcases h.2 with ⟨h1, h2⟩ | ⟨g, cap, cur, hv, hb, hg, hn, hc, _⟩
 ·injection h1 with h3 h4 h5
  exact .inl ⟨h3, List.length_eq_zero_iff.1 h2, h5⟩
 ·injection hv with h3 h4 h5
  subst h5
  exact .inr ⟨g, h3, hn, hb⟩
theorem Own.cap (h : Own w B e sz enc a c L) : L.length ≤ c := by
 rcases h.form with ⟨_, rfl, _⟩ | ⟨g, _, h, _⟩
 ·simp
 ·exact h
theorem flat_get {L : List α} (hz : ∀ x, (enc x).length = sz) : ∀ {i j : Nat} {x : α}, L[i]? = some x → j < sz → (L.flatMap enc)[i * sz + j]? = (enc x)[j]? := by
 induction L with
 | nil => intro i j x h; simp at h
 | cons y L ih =>
  intro i j x h hj
  cases i with
  | zero =>
   simp at h; subst h
   simp only [List.flatMap_cons, Nat.zero_mul, Nat.zero_add]
   rw [List.getElem?_append_left (by rw [hz]; exact hj)]
  | succ i =>
   simp only [List.flatMap_cons]
   rw [List.getElem?_append_right (by rw [hz, Nat.succ_mul]; omega), hz]
   rw [show (i + 1) * sz + j - sz = i * sz + j by rw [Nat.succ_mul]; omega]
   exact ih (by simpa using h) hj
theorem Own.sl [Inhabited α] (h : Own w B e sz enc a c L) (hz : ∀ x, (enc x).length = sz) : Sl w a L.length sz (fL enc L) := by
 rcases h.form with ⟨rfl, rfl, rfl⟩ | ⟨g, rfl, hn, hb⟩
 ·exact Sl.nil _ _ _ _
 ·refine ⟨fun _ => by simp, fun i j hi hj => ?_⟩
  have hc := World.ownsRow.cells h (g := g) rfl (i * sz + j)
  have hx : L[i]? = some (L[i]'hi) := List.getElem?_eq_getElem hi
  have hf := flat_get (enc := enc) (sz := sz) hz hx hj
  have hlt : j < (enc (L[i]'hi)).length := by rw [hz]; exact hj
  rw [List.getElem?_eq_getElem hlt] at hf
  have hq := hc _ hf
  have ha : (elemAddr (some ⟨g, 0, none⟩) sz (i : Int)).add j = (⟨g, 0, none⟩ : Addr).add (i * sz + j) := by
   simp only [elemAddr, Option.getD_some, Int.toNat_natCast]
   rw [add_of_add]
  rw [ha, hq]
  simp only [fL, nthL_eq, List.getD_eq_getElem?_getD, hx, Option.getD_some, List.getElem?_eq_getElem hlt]
end
theorem Blk.cell {w : World} {b : Nat} {t : TypeId} {cs : List Value} (h : Blk w b t cs) (i : Nat) : w.cell? ⟨b, i, none⟩ = cs[i]? := by
 simp [World.cell?, show w.heap[b]? = _ from h]
theorem Blk.frozen {w : World} {b : Nat} {t : TypeId} {cs : List Value} (h : Blk w b t cs) (i : Nat) : w.frozen? ⟨b, i, none⟩ = false := by
 simp [World.frozen?, show w.heap[b]? = _ from h]
theorem Blk.set_ {w : World} {b : Nat} {t : TypeId} {cs : List Value} (h : Blk w b t cs) (i : Nat) (u : Value) : Blk (w.setCell ⟨b, i, none⟩ u) b t (cs.set i u) := by
 unfold Blk at h ⊢
 simp [World.setCell, Array.getElem?_modify, h]
theorem Blk.grown {w w' : World} {b : Nat} {t : TypeId} {cs : List Value} {row : Option Nat} (h : Blk w b t cs) (hg : w.grownBy w' row) (hne : some b ≠ row) : Blk w' b t cs :=
 (hg.block b h.lt hne).trans h
theorem Sl.grown {w w' : World} {a : Option Addr} {n sz : Nat} {f : Nat → Nat → Value} {row : Option Nat} (h : Sl w a n sz f) (hg : w.grownBy w' row) (hne : blk a = none ∨ blk a ≠ row) : Sl w' a n sz f := by
 refine ⟨h.1, fun i j hi hj => ?_⟩
 refine hg.cell (h.2 i j hi hj) ?_
 rw [block_of_add]
 cases a with
 | none => exact absurd rfl (h.1 (by omega))
 | some a =>
  simp only [elemAddr, Option.getD_some, block_of_add]
  rcases hne with hne | hne
  ·simp [blk] at hne
  ·simpa [blk] using hne
section
variable {P : Program} {tt : TT} {t : TypeId} {w : World}
theorem loadVar1 (hok : TTok P tt) (ha : aggOf tt t = some false) {ad : Addr} {v : Value} (h : w.cell? ad = some v) : (loadVar t ad).run P w = .ok v w := by
 simp [loadVar, isAgg_run hok ha, h]
theorem loadVarN (hok : TTok P tt) (ha : aggOf tt t = some true) {i : TI} (hi : tl tt t = some i) {ad : Addr} {l : List Value} (hl : l.length = i.size)
  (h : ∀ j u, l[j]? = some u → w.cell? (ad.add j) = some u) : (loadVar t ad).run P w = .ok (.agg ⟨l⟩) w := by
 have hc := run_loadCells_list (P := P) (w := w) ad l h
 simp only [loadVar, Sem.run_bind, isAgg_run hok ha, Result.andThen_ok, if_true, sizeOf_run hok hi]
 rw [← hl, hc]
 rfl
theorem ld_blk (hok : TTok P tt) (ha : aggOf tt t = some false) {b o : Nat} {tb : TypeId} {cs : List Value} {v : Value} (h : Blk w b tb cs) (hv : nthL cs o = some v) :
  (loadVar t ⟨b, o, none⟩).run P w = .ok v w := loadVar1 hok ha (by rw [h.cell, ← nthL_eq]; exact hv)
theorem ld_blkN (hok : TTok P tt) (ha : aggOf tt t = some true) {i : TI} (hi : tl tt t = some i) {b o : Nat} {tb : TypeId} {cs l : List Value} (h : Blk w b tb cs) (hv : takeF i.size (dropF o cs) = some l) :
  (loadVar t ⟨b, o, none⟩).run P w = .ok (.agg ⟨l⟩) w := by
 obtain ⟨h1, h2⟩ := takeF_eq hv
 rw [dropF_eq] at h1 h2
 refine loadVarN hok ha hi (by rw [h1, List.length_take]; omega) fun j u hu => ?_
 have : (⟨b, o, none⟩ : Addr).add j = ⟨b, o + j, none⟩ := by rw [← addA_eq]; rfl
 rw [this, h.cell]
 rw [h1, List.getElem?_take] at hu
 split at hu
 ·rw [List.getElem?_drop] at hu; exact hu
 ·cases hu
theorem ld_el (hok : TTok P tt) (ha : aggOf tt t = some false) {a : Option Addr} {n sz : Nat} {f : Nat → Nat → Value} {z : Int} (h : Sl w a n sz f) (h0 : 0 ≤ z) (h1 : z < n) (hj : 0 < sz) :
  (loadVar t (elemAddr a sz z)).run P w = .ok (f z.toNat 0) w := loadVar1 hok ha (h.at0 h0 h1 hj)
theorem ld_elN (hok : TTok P tt) (ha : aggOf tt t = some false) {a : Option Addr} {n sz : Nat} {f : Nat → Nat → Value} {i : Nat} (h : Sl w a n sz f) (h1 : i < n) (hj : 0 < sz) :
  (loadVar t (elemAddr a sz (i : Int))).run P w = .ok (f i 0) w := by
 have := ld_el (t := t) (z := (i : Int)) hok ha h (by omega) (by omega) hj
 simpa using this
theorem ld_fd (hok : TTok P tt) (ha : aggOf tt t = some false) {a : Option Addr} {n sz : Nat} {f : Nat → Nat → Value} {z : Int} {j : Nat} (h : Sl w a n sz f) (h0 : 0 ≤ z) (h1 : z < n) (hj : j < sz) :
  (loadVar t (addA (elemAddr a sz z) j)).run P w = .ok (f z.toNat j) w := loadVar1 hok ha (h.at_ h0 h1 hj)
end
end Go.Xw
end
section
namespace Go.Xw
open Go.RowKit
theorem Chg.of_ext {ids : List Nat} {w w' : World} (h : Ext w w') : Chg ids w w' := ⟨h.os, h.tape, h.output, h.size, fun k hk _ => Below.block h k hk⟩
theorem Chg.of_grown {a : Option Addr} {w w' : World} (h : w.grownBy w' (blk a)) : Chg (blk a).toList w w' :=
 ⟨h.os, h.tape, h.output, h.size, fun k hk hn => h.block k hk fun he => hn (by rw [← he]; simp)⟩
theorem Chg.of_grown1 {b : Nat} {w w' : World} (h : w.grownBy w' (some b)) : Chg [b] w w' :=
 ⟨h.os, h.tape, h.output, h.size, fun k hk hn => h.block k hk fun he => hn (by injection he with he; simp [he])⟩
theorem Own.st {α : Type} {w w' : World} {B : Nat} {e : TypeId} {sz : Nat} {enc : α → List Value} {a : Option Addr} {c : Nat} {L : List α} (h : ∀ k, k ∈ (blk a).toList → w'.heap[k]? = w.heap[k]?) (ho : Own w B e sz enc a c L) : Own w' B e sz enc a c L := by
 refine ⟨ho.1, ?_⟩
 rcases ho.2 with hn | ⟨g, cap, cur, hv, hb, hgg, rest⟩
 ·exact .inl hn
 ·refine .inr ⟨g, cap, cur, hv, hb, ?_, rest⟩
  injection hv with h1 h2 h3
  subst h1
  rw [h g (by simp [blk])]
  exact hgg
def rO {α : Type} (e : TypeId) (sz : Nat) (enc : α → List Value) (a : Option Addr) (c : Nat) (L : List α) : Res where
 ids := (blk a).toList
 P w := Own w 0 e sz enc a c L
 st := Own.st
 lt := fun ho k hk => by simp at hk; exact (ho.lt hk).2
def rAll (Rs : List Res) : Res where
 ids := Rs.flatMap Res.ids
 P w := ∀ R, R ∈ Rs → R.P w
 st := fun h hP R hR => R.st (fun k hk => h k (List.mem_flatMap.2 ⟨R, hR, hk⟩)) (hP R hR)
 lt := fun hP k hk => by
  obtain ⟨R, hR, hk⟩ := List.mem_flatMap.1 hk
  exact R.lt (hP R hR) k hk
section
variable {w0 w w' : World} {L M Rs : List Res} {R : Res}
theorem Hp.pack (h : Hp w0 w (Rs ++ L)) : Hp w0 w (rAll Rs :: L) := by
 refine ⟨h.x, ?_, ?_, fun R hR => ?_⟩
 ·have := h.nd; rw [List.flatMap_append] at this; exact this
 ·have := h.lo; rw [List.flatMap_append] at this; exact this
 ·rcases List.mem_cons.1 hR with rfl | hR
  ·exact fun Q hQ => h.h Q (List.mem_append_left _ hQ)
  ·exact h.h R (List.mem_append_right _ hR)
theorem Hp.unpack (h : Hp w0 w (rAll Rs :: L)) : Hp w0 w (Rs ++ L) := by
 refine ⟨h.x, ?_, ?_, fun R hR => ?_⟩
 ·have := h.nd; rw [List.flatMap_append]; exact this
 ·have := h.lo; rw [List.flatMap_append]; exact this
 ·rcases List.mem_append.1 hR with hR | hR
  ·exact h.h (rAll Rs) (by simp) R hR
  ·exact h.h R (List.mem_cons_of_mem _ hR)
theorem Hp.allAt (h : Hp w0 w (rAll Rs :: L)) {i : Nat} (hi : Rs[i]? = some R) : ∃ Q, Hp w0 w (R :: Q :: L) ∧ ∀ w' L' R', Hp w0 w' (R' :: Q :: L') → Hp w0 w' (rAll (Rs.set i R') :: L') := by
 have hlt := (List.getElem?_eq_some_iff.1 hi).1
 have e1 : Rs = Rs.take i ++ R :: Rs.drop (i + 1) := by
  have h2 := (List.getElem?_eq_some_iff.1 hi).2
  rw [← h2, ← List.drop_eq_getElem_cons hlt, List.take_append_drop]
 have e2 : ∀ Q, Rs.set i Q = Rs.take i ++ Q :: Rs.drop (i + 1) := fun Q => by rw [List.set_eq_take_append_cons_drop, if_pos hlt]
 refine ⟨rAll (Rs.take i ++ Rs.drop (i + 1)), ?_, fun w' L' R' hq => ?_⟩
 ·have h3 := h.unpack
  rw [e1, List.append_assoc] at h3
  have h4 : Hp w0 w ((Rs.take i ++ Rs.drop (i + 1)) ++ (R :: L)) := h3.perm (by
   rw [List.append_assoc]
   exact (List.Perm.append_left _ (by rw [List.cons_append]; exact List.perm_middle.symm)))
  exact h4.pack.f1
 ·refine Hp.pack ?_
  rw [e2, List.append_assoc]
  have h5 : Hp w0 w' ((Rs.take i ++ Rs.drop (i + 1)) ++ (R' :: L')) := hq.f1.unpack
  refine h5.perm ?_
  rw [List.append_assoc]
  exact (List.Perm.append_left _ (by rw [List.cons_append]; exact List.perm_middle))
theorem Hp.ownN {α : Type} {e : TypeId} {sz : Nat} {enc : α → List Value} {a : Option Addr} {c : Nat} {X : List α} (h : Hp w0 w L) (hx : Ext w w') (ho : Own w' w.heap.size e sz enc a c X) : Hp w0 w' (rO e sz enc a c X :: L) :=
 h.call1 ⟨hx, by cases hk : blk a <;> simp [rO, hk], fun k hk => by
  simp [rO] at hk; exact (ho.lt hk).1, fun R hR => by simp at hR; subst hR; exact ho.mono (Nat.zero_le _)⟩
theorem Hp.blkS {b : Nat} {t : TypeId} {cs cs' : List Value} (h : Hp w0 w (rB b t cs :: L)) (hk : Blk w' b t cs') (g : w.grownBy w' (some b)) : Hp w0 w' (rB b t cs' :: L) :=
 h.upd (Chg.of_grown1 g) hk (fun k hk => .inl hk) (by simp [rB])
theorem Hp.ownS {α : Type} {e : TypeId} {sz : Nat} {enc : α → List Value} {a : Option Addr} {c : Nat} {X X' : List α} (h : Hp w0 w (rO e sz enc a c X :: L)) (ho : Own w' 0 e sz enc a c X') (g : w.grownBy w' (blk a)) : Hp w0 w' (rO e sz enc a c X' :: L) :=
 h.upd (Chg.of_grown g) ho (fun k hk => .inl hk) (by cases hk : blk a <;> simp [rO, hk])
theorem Hp.own {α : Type} {e : TypeId} {sz : Nat} {enc : α → List Value} {a : Option Addr} {c : Nat} {X : List α} (h : Hp w0 w (rO e sz enc a c X :: L)) : Own w 0 e sz enc a c X := h.g0
end
theorem Own.pre {α : Type} {enc : α → List Value} {e : TypeId} {s : Nat} {a : Option Addr} {c B : Nat} {w : World} {X Y : List α} (h : Own w B e s enc a c (X ++ Y)) (hl : ∀ x, (enc x).length = s) : Own w B e s enc a c X := by
 unfold Own at h ⊢
 have e1 : ∀ Z : List α, (Z.flatMap enc).length = Z.length * s := fun Z => by
  induction Z with
  | nil => simp
  | cons z Z ih => simp [ih, hl, Nat.succ_mul]; omega
 refine ⟨by simp [e1], ?_⟩
 rcases h.2 with hn | ⟨g, cap, cur, hv, hb, hgg, h1, h2, h3, h4⟩
 ·left
  simp only [Value.slice.injEq] at hn ⊢
  obtain ⟨⟨h1, h2, h3⟩, h4⟩ := hn
  simp at h4
  exact ⟨⟨h1, by simp [h4.1], h3⟩, by simp [h4.1]⟩
 ·simp only [Value.slice.injEq] at hv
  obtain ⟨rfl, _, rfl⟩ := hv
  refine .inr ⟨g, c, cur, rfl, hb, hgg, by simp at h1; omega, h2, h3, ?_⟩
  have h5 := congrArg (List.take (X.length * s)) h4
  rw [List.take_take, List.flatMap_append, List.take_append_of_le_length (by rw [e1]; exact Nat.le_refl _), List.take_of_length_le (l := X.flatMap enc) (by rw [e1]; exact Nat.le_refl _)] at h5
  rw [Nat.min_eq_left (by simp [Nat.add_mul])] at h5
  exact h5
theorem Hp.ownP {α : Type} {enc : α → List Value} {e : TypeId} {s : Nat} {a : Option Addr} {c : Nat} {w0 w : World} {L : List Res} {X Y : List α} (h : Hp w0 w (rO e s enc a c (X ++ Y) :: L)) (hl : ∀ x, (enc x).length = s) : Hp w0 w (rO e s enc a c X :: L) :=
 h.upd ⟨rfl, rfl, rfl, Nat.le_refl _, fun _ _ _ => rfl⟩ (Own.pre h.g0 hl) (fun k hk => .inl hk) (by cases hk : Go.Xw.blk a <;> simp [rO, hk])
theorem subA_zero (a : Option Addr) (c s : Nat) : subA a c s 0 = a := by
 unfold subA
 split
 ·rfl
 ·cases a <;> simp [Addr.add]
class Rd (w : World) (a : Option Addr) {α : outParam Type} [Inhabited α] (s : outParam Nat) (enc : outParam (α → List Value)) (X : outParam (List α)) : Prop where
 h : Sl w a X.length s (fL enc X)
class RdH (w0 : World) (L : List Res) (a : Option Addr) {α : outParam Type} [Inhabited α] (s : outParam Nat) (enc : outParam (α → List Value)) (X : outParam (List α)) : Prop where
 h : ∀ w, Hp w0 w L → Sl w a X.length s (fL enc X)
theorem nn_of {w0 w : World} {L : List Res} (hp : Hp w0 w L) {a : Option Addr} {α : Type} [Inhabited α] {s : Nat} {enc : α → List Value} {X : List α} [h : RdH w0 L a s enc X] (hn : 0 < X.length) : a ≠ none := (h.h w hp).1 hn
end Go.Xw
end
section
namespace Go.Xw
theorem ofInt_toNat (z : Int) : ((BitVec.ofInt 64 z).toNat : Int) = z % 18446744073709551616 := by
 rw [BitVec.toNat_ofInt]
 have : (0 : Int) ≤ z % 18446744073709551616 := Int.emod_nonneg _ (by decide)
 simp
 omega
theorem bits_and_mask (z : Int) (k : Nat) (hk : k ≤ 62) : bits .and .i64 z (2 ^ k - 1) = z % 2 ^ k := by
 have hp : (2 : Int) ^ k = ((2 ^ k : Nat) : Int) := by simp
 have hpos : 0 < 2 ^ k := Nat.two_pow_pos k
 have hle : 2 ^ k ≤ 2 ^ 62 := Nat.pow_le_pow_right (by decide) hk
 have hm : (BitVec.ofInt 64 ((2 : Int) ^ k - 1)).toNat = 2 ^ k - 1 := by
  have h := ofInt_toNat ((2 : Int) ^ k - 1)
  rw [hp] at h ⊢
  omega
 show IntKind.i64.wrap (((BitVec.ofInt 64 z) &&& (BitVec.ofInt 64 (2 ^ k - 1))).toNat : Int) = _
 rw [BitVec.toNat_and, hm, Nat.and_two_pow_sub_one_eq_mod]
 have h1 := ofInt_toNat z
 have h2 : (((BitVec.ofInt 64 z).toNat % 2 ^ k : Nat) : Int) = z % 2 ^ k := by
  rw [Int.natCast_emod, h1, hp]
  have hd : ((2 ^ k : Nat) : Int) ∣ 18446744073709551616 := by
   have : (2 ^ k : Nat) ∣ 18446744073709551616 := by
    have : (18446744073709551616 : Nat) = 2 ^ 64 := by decide
    rw [this]
    exact Nat.pow_dvd_pow 2 (by omega)
   exact Int.natCast_dvd_natCast.2 this
  exact Int.emod_emod_of_dvd z hd
 rw [h2]
 have h3 : 0 ≤ z % 2 ^ k := Int.emod_nonneg _ (by rw [hp]; omega)
 have h4 : z % 2 ^ k < 2 ^ k := Int.emod_lt_of_pos _ (by rw [hp]; omega)
 rw [hp] at h3 h4 ⊢
 exact IntWalk.i64_in _ (by omega)
theorem bits_and_one (z : Int) : bits .and .i64 z 1 = z % 2 := by
 have := bits_and_mask z 1 (by decide)
 simpa using this
theorem ofNat_toNat (a : Nat) (ha : a < 9223372036854775808) : (BitVec.ofInt 64 (a : Int)).toNat = a := by
 have := ofInt_toNat (a : Int)
 omega
theorem bits_xor_nat (a b : Nat) (ha : a < 9223372036854775808) (hb : b < 9223372036854775808) : bits .xor .i64 (a : Int) (b : Int) = ((a ^^^ b : Nat) : Int) := by
 have hx : a ^^^ b < 9223372036854775808 := Nat.xor_lt_two_pow (n := 63) ha hb
 show IntKind.i64.wrap ((BitVec.ofInt 64 (a : Int) ^^^ BitVec.ofInt 64 (b : Int)).toNat : Int) = _
 rw [BitVec.toNat_xor, ofNat_toNat a ha, ofNat_toNat b hb]
 exact IntWalk.i64_in _ (by omega)
end Go.Xw
end
