/- Appends, stops and loads over worlds as lists of resources; each under its stated conditions. -/
import Derived.Test.YtiepmliokblkjaaGreatStep
set_option linter.all false
namespace Go.Xw
open Go.RowKit
theorem append_where {P : Program} {w w' : World} {t ty e : TypeId} {i : TypeInfo} {z : Value} {size bytes : Nat} (ht : P.underlying t = some (.slice e)) (hi : P.info? e = some i) (hz : i.zero = some z)
  (hsize : i.size = size) (hby : i.bytes = bytes) (hzs : z.cells.size = size) (hsz : 0 < size) {a a' : Option Addr} {n c m' c' : Nat} {xs : List Value} (hown : w.ownsRow 0 e size (.slice a n c) n xs)
  (ad : Addr) (m sc : Nat) (news : List Value) (hl : news.length = m * size) (hnews : ∀ j u, news[j]? = some u → w.cell? (ad.add j) = some u) (h1 : ∀ u ∈ news, u.oneCell' = true)
  (h63 : n + m ≤ maxLen) (hbytes : (n + m) * bytes ≤ 140737488355328) (hr : (Builtin.append_ #[t, t] ty #[.slice a n c, .slice (some ad) m sc]).run P w = .ok (.slice a' m' c') w') :
  ∀ k, k ∈ (blk a').toList → k ∈ (blk a).toList ∨ w.heap.size ≤ k := by
 have hsmall : n + m ≤ 9223372036854775807 := by simp only [maxLen] at h63; omega
 subst hsize
 subst hby
 rcases hown.2 with ⟨hv, rfl⟩ | ⟨g, cap, cur, hv, _, hg, hnc, hcm, hcs, htake⟩
 ·injection hv with h2 _ h3
  subst h2; subst h3
  by_cases hm : m = 0
  ·subst hm
   have hn : news = [] := List.eq_nil_of_length_eq_zero (by simpa using hl)
   subst hn
   have hq : (Builtin.append_ #[t, t] ty #[.slice none 0 0, .slice (some ad) 0 sc]).run P w = .ok (.slice none 0 0) w := by
    simp [Builtin.append_, run_underlying ht, sizeOf, typeInfo, hi, Builtin.lenOf, Builtin.firstCells, loadCells, loadCellsFrom]
   rw [hq] at hr
   injection hr with hr _
   injection hr with hr _ _
   subst hr
   intro k hk
   simp [blk] at hk
  ·have hq := run_append_nil (P := P) w t ty e i z ht hi hz ad m sc news hl hnews (by omega) (by omega) (by have hb := hbytes; simp only [Nat.zero_add] at hb; omega)
   rw [hq] at hr
   injection hr with hr _
   injection hr with hr _ _
   subst hr
   intro k hk
   simp [blk] at hk
   exact .inr (by omega)
 ·injection hv with h2 _ h3
  subst h2; subst h3
  by_cases hroom : n + m ≤ c
  ·have hfit : n * i.size + news.length ≤ cur.size := by rw [hl, hcs, ← Nat.add_mul]; exact Nat.mul_le_mul_right _ hroom
   have hq := run_append_room (P := P) w t ty e i ht hi g n c cur hg ad m sc news hl hnews h1 hroom hfit
   rw [hq] at hr
   injection hr with hr _
   injection hr with hr _ _
   subst hr
   exact fun k hk => .inl hk
  ·have holds : ∀ j u, xs[j]? = some u → w.cell? ((⟨g, 0, none⟩ : Addr).add j) = some u := World.ownsRow.cells hown (g := g) rfl
   have hq := run_append_grow (P := P) w t ty e i z ht hi hz ⟨g, 0, none⟩ n c xs hown.1 holds ad m sc news hl hnews (by omega) (by omega) (growslice_fits (by omega) hbytes)
   rw [hq] at hr
   injection hr with hr _
   injection hr with hr _ _
   subst hr
   intro k hk
   simp [blk] at hk
   exact .inr (by omega)
theorem append_runH {P : Program} {tt : TT} {α : Type} [Inhabited α] {enc : α → List Value} {w0 w : World} {F : List Res} {e t : TypeId} {a : Option Addr} {c : Nat} {L M : List α} (hok : TTok P tt) {i j : TI} (hi : tl tt t = some i) (hd : i.desc = .slice e) (hj : tl tt e = some j) (hz : (cellsV j.zero).length = j.size) (hsz : 0 < j.size) (he : EncOk enc j.size)
  (hp : Hp w0 w (rO e j.size enc a c L :: F)) {sa : Option Addr} {sc : Nat} (hs : Sl w sa M.length j.size (fL enc M)) (hm : L.length + M.length ≤ maxLen) (hb : (L.length + M.length) * j.bytes ≤ 140737488355328) (ty : TypeId) :
  ∃ a' c' w', (Builtin.append_ #[t, t] ty #[.slice a L.length c, .slice sa M.length sc]).run P w = .ok (.slice a' (L ++ M).length c') w' ∧ Hp w0 w' (rO e j.size enc a' c' (L ++ M) :: F) ∧ Chg (blk a).toList w w' ∧
   (a' = none ↔ a = none ∧ M = []) := by
 obtain ⟨a', c', w', hr, h1, h2, h3⟩ := append_run (P := P) hok hi hd hj hz hsz he hp.own (sc := sc) hs hm hb (Nat.zero_le _) ty
 refine ⟨a', c', w', hr, hp.upd (Chg.of_grown h2) h1 ?_ (by cases hk : blk a' <;> simp [rO, hk]), Chg.of_grown h2, h3⟩
 obtain ⟨info, td, q1, q2, q3, q4, q5, htd, q6⟩ := hok.get hi
 obtain ⟨info', td', g1, g2, g3, g4, g5, gtd, g6⟩ := hok.get hj
 rw [toD_slice (htd.trans hd)] at q5
 have hzc : j.zero.cells.size = j.size := by rw [cellsV_eq] at hz; simpa using hz
 cases sa with
 | none =>
  have hM : M = [] := by
   rcases Nat.eq_zero_or_pos M.length with h | h
   ·exact List.length_eq_zero_iff.1 h
   ·exact absurd rfl (hs.1 h)
  subst hM
  have hcap := hp.own.cap
  have hq : (Builtin.append_ #[t, t] ty #[.slice a L.length c, .slice none ([] : List α).length sc]).run P w = .ok (.slice a L.length c) w := by
   cases a with
   | none => simp [Builtin.append_, run_underlying q5, sizeOf, typeInfo, g1, Builtin.lenOf, Builtin.firstCells, hcap]
   | some a => simp [Builtin.append_, run_underlying q5, sizeOf, typeInfo, g1, Builtin.lenOf, Builtin.firstCells, hcap, storeCells]
  rw [hq] at hr
  injection hr with hr _
  injection hr with hr _ _
  subst hr
  exact fun k hk => .inl hk
 | some ad =>
  exact append_where q5 g1 g4 g2 g3 hzc hsz hp.own ad M.length sc (M.flatMap enc) (flat_len he.len M) (hs.flat he) (fun u hu => by
   obtain ⟨x, _, hx⟩ := List.mem_flatMap.1 hu
   exact he.one x u hx) hm hb hr
section
variable {S : Setting} {sz : Nat} {R : Value → World → Prop} {C : World → Prop} {w : World} {g' : G} {obl : List Prop}
variable {ops : Array Oper} {rest : List Oper} {k : List Item} {env : Env} {w0 : World} {F : List Res}
theorem H_box (hp : Hp w0 w F) {t : TypeId} {v : Value} {d : Nat} (hk : ∀ w' b, Ext w w' → Hp w0 w' (rB b t (cellsV v) :: F) → Holds S sz R C w' (.ops false ops rest k ((d, .pointer (some ⟨b, 0, none⟩)) :: env))) :
  Holds S sz R C w (.act (.box t v) ⟨false, ops, rest, some d, k, env⟩) :=
 h_box fun w' b hb hx hB => hk w' b hx (hp.blkN hb hx hB)
theorem H_alloc (hp : Hp w0 w F) {t : TypeId} {i : TI} {d : Nat} [hS : S.Ok] (hi : tl S.tt t = some i) (hk : ∀ w' b, Ext w w' → Hp w0 w' (rB b t (cellsV i.zero) :: F) → Holds S sz R C w' (.ops false ops rest k ((d, .pointer (some ⟨b, 0, none⟩)) :: env))) :
  Holds S sz R C w (.act (.alloc t) ⟨false, ops, rest, some d, k, env⟩) :=
 h_alloc hi fun w' b hb hx hB => hk w' b hx (hp.blkN hb hx hB)
theorem H_lit (hp : Hp w0 w F) {α : Type} (enc : α → List Value) (M : List α) {t e : TypeId} {i j : TI} {nn : Nat} {parts : List (Nat × Value)} {cs : List Value} {d : Nat} [hS : S.Ok] (hi : tl S.tt t = some i) (hd : i.desc = .slice e) (hj : tl S.tt e = some j) (hz : (cellsV j.zero).length = j.size) {s : Nat} (hs0 : j.size = s) (hsz : 0 < s)
  (he : EncOk enc s) (hc : litCells S.tt e nn parts = some cs) (hM : M.flatMap enc = cs) (hn : M.length = nn) (hb : nn * s ≤ 16777216)
  (hk : ∀ w' b, Ext w w' → Hp w0 w' (rO e s enc (some ⟨b, 0, none⟩) M.length M :: F) → Holds S sz R C w' (.ops false ops rest k ((d, .slice (some ⟨b, 0, none⟩) M.length M.length) :: env))) :
  Holds S sz R C w (.act (.buildSlice t nn parts) ⟨false, ops, rest, some d, k, env⟩) :=
 h_lit enc M hi hd hj hz hs0 hsz he hc hM hn hb fun w' b _ hx ho => hk w' b hx (hp.ownN hx ho)
theorem H_make (hp : Hp w0 w F) {α : Type} (enc : α → List Value) (dz : α) {t e : TypeId} {i j : TI} {n : Nat} {d : Nat} [hS : S.Ok] (hi : tl S.tt t = some i) (hd : i.desc = .slice e) (hj : tl S.tt e = some j) (hz : (cellsV j.zero).length = j.size) {s : Nat} (hs0 : j.size = s) (hsz : 0 < s)
  (hzd : enc dz = cellsV j.zero) (hm : n ≤ maxLen) (hb : j.bytes * n ≤ 281474976710656)
  (hk : ∀ w' b, Ext w w' → Hp w0 w' (rO e s enc (some ⟨b, 0, none⟩) n (List.replicate n dz) :: F) → Holds S sz R C w' (.ops false ops rest k ((d, .slice (some ⟨b, 0, none⟩) n n) :: env))) :
  Holds S sz R C w (.act (.makeSlice t (.int .i64 (n : Int)) (.int .i64 (n : Int))) ⟨false, ops, rest, some d, k, env⟩) :=
 h_make enc dz hi hd hj hz hs0 hsz hzd hm hb fun w' b _ hx ho => hk w' b hx (hp.ownN hx ho)
theorem H_append {α : Type} [Inhabited α] {enc : α → List Value} {L : List α} (M : List α) {t u e ty : TypeId} {a sa : Option Addr} {c sc : Nat} {s : Nat} (hp : Hp w0 w (rO e s enc a c L :: F)) {i j : TI} {m : Nat} (hM : M.length = m) {d : Nat} [hS : S.Ok] (hi : tl S.tt t = some i) (hd : i.desc = .slice e) (hj : tl S.tt e = some j) (hz : (cellsV j.zero).length = j.size) (hs0 : j.size = s) (hsz : 0 < s)
  (hu : u = t) (he : EncOk enc s) (hs : Sl w sa M.length s (fL enc M)) (hm : L.length + M.length ≤ maxLen) (hb : (L.length + M.length) * j.bytes ≤ 140737488355328)
  (hk : ∀ a' c' w', Hp w0 w' (rO e s enc a' c' (L ++ M) :: F) → Chg (blk a).toList w w' → (a' = none ↔ a = none ∧ M = []) → Holds S sz R C w' (.ops false ops rest k ((d, .slice a' (L ++ M).length c') :: env))) :
  Holds S sz R C w (.act (.append t u ty (.slice a L.length c) (.slice sa m sc)) ⟨false, ops, rest, some d, k, env⟩) := by
 subst hs0
 subst hM
 subst hu
 obtain ⟨a', c', w', hr, h1, h2, h3⟩ := append_runH (P := S.P) hS.tt hi hd hj hz hsz he hp (sc := sc) hs hm hb ty
 refine h_act rfl (by simp only [Action.sem, Sem.run_bind, hr, Result.andThen_ok, Sem.run_pure]) (hk a' c' w' h1 h2 h3)
theorem H_stB {b o : Nat} {tb t : TypeId} {cs : List Value} {v : Value} {i : TI} [hS : S.Ok] (hp : Hp w0 w (rB b tb cs :: F)) (hi : tl S.tt t = some i) (hs : i.size = 1) (ho : o < cs.length) (hv : v.oneCell' = true)
  (hk : ∀ w', Hp w0 w' (rB b tb (cs.set o v) :: F) → Holds S sz R C w' (.ops false ops rest k env)) : Holds S sz R C w (.act (.store t ⟨b, o, none⟩ v) ⟨false, ops, rest, none, k, env⟩) := by
 obtain ⟨w', r, h, g⟩ := (show Blk w b tb cs from hp.g0).st1 hS.tt hi hs ho hv
 exact h_act_skip rfl r (hk w' (hp.blkS h g))
theorem H_stBN {b : Nat} {tb t : TypeId} {cs vs : List Value} {i : TI} [hS : S.Ok] (hp : Hp w0 w (rB b tb cs :: F)) (hi : tl S.tt t = some i) (hs : i.size = vs.length) (hl : cs.length = vs.length) (h1 : ∀ v ∈ vs, v.oneCell' = true)
  (hk : ∀ w', Hp w0 w' (rB b tb vs :: F) → Holds S sz R C w' (.ops false ops rest k env)) : Holds S sz R C w (.act (.store t ⟨b, 0, none⟩ (.agg ⟨vs⟩)) ⟨false, ops, rest, none, k, env⟩) := by
 obtain ⟨w', r, h, g⟩ := Blk.storeN hS.tt hi (show Blk w b tb cs from hp.g0) hs hl h1
 exact h_act_skip rfl r (hk w' (hp.blkS h g))
theorem H_st0 {α : Type} {enc : α → List Value} {e t : TypeId} {a : Option Addr} {c s : Nat} {L : List α} (hp : Hp w0 w (rO e s enc a c L :: F)) {i : TI} [hS : S.Ok] (hi : tl S.tt t = some i) (hs : i.size = 1) (he : EncOk enc s) {z : Int} {x y : α} {v : Value} (hx : L[z.toNat]? = some x) (hj : 0 < s) (hy : enc y = (enc x).set 0 v) (hv : v.oneCell' = true)
  (hk : ∀ w', Hp w0 w' (rO e s enc a c (L.set z.toNat y) :: F) → Holds S sz R C w' (.ops false ops rest k env)) : Holds S sz R C w (.act (.store t (elemAddr a s z) v) ⟨false, ops, rest, none, k, env⟩) := by
 obtain ⟨w', r, h, g⟩ := hp.own.st0 hS.tt hi hs he hx hj hy hv
 exact h_act_skip rfl r (hk w' (hp.ownS h g))
theorem H_st1 {α : Type} {enc : α → List Value} {e t : TypeId} {a : Option Addr} {c s : Nat} {L : List α} (hp : Hp w0 w (rO e s enc a c L :: F)) {i : TI} [hS : S.Ok] (hi : tl S.tt t = some i) (hs : i.size = 1) (he : EncOk enc s) {z : Int} {j : Nat} {x y : α} {v : Value} (hx : L[z.toNat]? = some x) (hj : j < s) (hy : enc y = (enc x).set j v) (hv : v.oneCell' = true)
  (hk : ∀ w', Hp w0 w' (rO e s enc a c (L.set z.toNat y) :: F) → Holds S sz R C w' (.ops false ops rest k env)) : Holds S sz R C w (.act (.store t (addA (elemAddr a s z) j) v) ⟨false, ops, rest, none, k, env⟩) := by
 obtain ⟨w', r, h, g⟩ := hp.own.st1 hS.tt hi hs he hx hj hy hv
 exact h_act_skip rfl r (hk w' (hp.ownS h g))
theorem H_stN {α : Type} {enc : α → List Value} {e t : TypeId} {a : Option Addr} {c s : Nat} {L : List α} (hp : Hp w0 w (rO e s enc a c L :: F)) {i : TI} [hS : S.Ok] (hi : tl S.tt t = some i) (hs : i.size = s) (he : EncOk enc s) {z : Int} (h0 : 0 ≤ z) (h1 : z < L.length) (y : α) {cs : List Value} (hy : enc y = cs)
  (hk : ∀ w', Hp w0 w' (rO e s enc a c (L.set z.toNat y) :: F) → Holds S sz R C w' (.ops false ops rest k env)) : Holds S sz R C w (.act (.store t (elemAddr a s z) (.agg ⟨cs⟩)) ⟨false, ops, rest, none, k, env⟩) := by
 subst hy
 obtain ⟨w', r, h, g⟩ := hp.own.storeN hS.tt hi hs he h0 h1 y
 exact h_act_skip rfl r (hk w' (hp.ownS h g))
theorem D_draw {L' : List Res} {id : Nat} {e : Env} [hS : S.Ok] (hs : Hp w0 w L') (hm : S.P.follows .mixedOrders = true) (hB : lexOk ops = true) (he : pruneF env S.live = some e)
  (h : run S sz 400 (.ops true ops ops.toList k e) [] = (g', obl)) (hg : ∀ w1, Ext w w1 → Hp w0 w1 L' → Holds S sz R (fun w' => Hp w0 w' L') w1 g') (ho : All obl := by ((repeat' apply And.intro) <;> first | exact trivial | omega | exact wi (by omega) | exact wu (by omega) | exact wb (by omega) | (refine Sl.nn (by assumption) ?_; omega) | (refine nn_of (by assumption) ?_; omega) | exact Option.some_ne_none _ | assumption | decide)) : Holds S sz R C w (.code (.code (.region id ops true) :: k) env) :=
 h_draw (fun w' => Hp w0 w' L') hm hB (hs.ext (Ext.drawn _)) he h (hg _ (Ext.drawn _) (hs.ext (Ext.drawn _))) ho
theorem D_load {t : TypeId} {ad : Addr} {d : Nat} {v : Value} [hS : S.Ok] (hl : ∀ w', C w' → (loadVar t ad).run S.P w' = .ok v w') (hp : ops.toList.take (ops.toList.length - rest.length) ++ rest = ops.toList)
  (h : run S sz 400 (.ops true ops rest k ((d, v) :: env)) [] = (g', obl)) (hg : Holds S sz R C w g') (ho : All obl := by ((repeat' apply And.intro) <;> first | exact trivial | omega | exact wi (by omega) | exact wu (by omega) | exact wb (by omega) | (refine Sl.nn (by assumption) ?_; omega) | (refine nn_of (by assumption) ?_; omega) | exact Option.some_ne_none _ | assumption | decide)) : Holds S sz R C w (.act (.load t ad) ⟨true, ops, rest, some d, k, env⟩) :=
 h_loadq rfl hl (ops_run (fun _ => ⟨_, hp.symm⟩) h hg ho)
theorem D_ops {l : List Oper} [hS : S.Ok] (hp : ops.toList.take (ops.toList.length - l.length) ++ l = ops.toList)
  (h : run S sz 400 (.ops true ops l k env) [] = (g', obl)) (hg : Holds S sz R C w g') (ho : All obl := by ((repeat' apply And.intro) <;> first | exact trivial | omega | exact wi (by omega) | exact wu (by omega) | exact wb (by omega) | (refine Sl.nn (by assumption) ?_; omega) | (refine nn_of (by assumption) ?_; omega) | exact Option.some_ne_none _ | assumption | decide)) : Holds S sz R C w (.ops true ops l k env) :=
 ops_run (fun _ => ⟨_, hp.symm⟩) h hg ho
theorem D_box (hC : ∀ w', Ext w w' → C w') (hp : Hp w0 w F) {t : TypeId} {v : Value} {d : Nat} (hk : ∀ w' b, Ext w w' → Hp w0 w' (rB b t (cellsV v) :: F) → Holds S sz R C w' (.ops true ops rest k ((d, .pointer (some ⟨b, 0, none⟩)) :: env))) :
  Holds S sz R C w (.act (.box t v) ⟨true, ops, rest, some d, k, env⟩) :=
 h_actq rfl rfl (box_run v) ⟨fun _ => hC _ (Ext.alloc _ _), hk _ _ (Ext.alloc _ _) (hp.blkN rfl (Ext.alloc _ _) (Blk.new _ _ _))⟩
theorem D_alloc (hC : ∀ w', Ext w w' → C w') (hp : Hp w0 w F) {t : TypeId} {i : TI} {d : Nat} [hS : S.Ok] (hi : tl S.tt t = some i) (hk : ∀ w' b, Ext w w' → Hp w0 w' (rB b t (cellsV i.zero) :: F) → Holds S sz R C w' (.ops true ops rest k ((d, .pointer (some ⟨b, 0, none⟩)) :: env))) :
  Holds S sz R C w (.act (.alloc t) ⟨true, ops, rest, some d, k, env⟩) :=
 h_actq rfl rfl (alloc_run hS.tt hi) ⟨fun _ => hC _ (Ext.alloc _ _), hk _ _ (Ext.alloc _ _) (hp.blkN rfl (Ext.alloc _ _) (Blk.new _ _ _))⟩
theorem D_lit (hC : ∀ w', Ext w w' → C w') (hp : Hp w0 w F) {α : Type} (enc : α → List Value) (M : List α) {t e : TypeId} {i j : TI} {nn : Nat} {parts : List (Nat × Value)} {cs : List Value} {d : Nat} [hS : S.Ok] (hi : tl S.tt t = some i) (hd : i.desc = .slice e) (hj : tl S.tt e = some j) (hz : (cellsV j.zero).length = j.size) {s : Nat} (hs0 : j.size = s) (hsz : 0 < s)
  (he : EncOk enc s) (hc : litCells S.tt e nn parts = some cs) (hM : M.flatMap enc = cs) (hn : M.length = nn) (hb : nn * s ≤ 16777216)
  (hk : ∀ w' b, Ext w w' → Hp w0 w' (rO e s enc (some ⟨b, 0, none⟩) M.length M :: F) → Holds S sz R C w' (.ops true ops rest k ((d, .slice (some ⟨b, 0, none⟩) M.length M.length) :: env))) :
  Holds S sz R C w (.act (.buildSlice t nn parts) ⟨true, ops, rest, some d, k, env⟩) := by
 subst hs0
 subst hn
 have hr := lit_run (P := S.P) (w := w) hS.tt hi hd hj hz hsz hc hb
 refine h_actq (v := .slice (some ⟨w.heap.size, 0, none⟩) M.length M.length) (w' := w.alloc (.cells ⟨cs⟩ e)) rfl rfl (by simp only [Action.sem, Sem.run_bind, hr, Result.andThen_ok, Sem.run_pure]) ?_
 have hm : M.length ≤ maxLen := by
  have := Nat.le_mul_of_pos_right M.length hsz
  unfold maxLen; omega
 exact ⟨fun _ => hC _ (Ext.alloc _ _), hk _ _ (Ext.alloc _ _) (hp.ownN (Ext.alloc _ _) (Own.lit w e cs M he hM hm))⟩
theorem D_append {α : Type} [Inhabited α] {enc : α → List Value} {L : List α} (M : List α) {t u e ty : TypeId} {a sa : Option Addr} {c sc : Nat} {s : Nat} (hp : Hp w0 w (rO e s enc a c L :: F)) (hC : ∀ w', flagAt ops rest = true → (∀ a' c', Hp w0 w' (rO e s enc a' c' (L ++ M) :: F) → C w') := by (intro _ hq; exact absurd hq (by decide))) {i j : TI} {m : Nat} (hM : M.length = m) {d : Nat} [hS : S.Ok] (hi : tl S.tt t = some i) (hd : i.desc = .slice e) (hj : tl S.tt e = some j) (hz : (cellsV j.zero).length = j.size) (hs0 : j.size = s) (hsz : 0 < s)
  (hu : u = t) (he : EncOk enc s) (hs : Sl w sa M.length s (fL enc M)) (hm : L.length + M.length ≤ maxLen) (hb : (L.length + M.length) * j.bytes ≤ 140737488355328)
  (hk : ∀ a' c' w', Hp w0 w' (rO e s enc a' c' (L ++ M) :: F) → Chg (blk a).toList w w' → (a' = none ↔ a = none ∧ M = []) → Holds S sz R C w' (.ops true ops rest k ((d, .slice a' (L ++ M).length c') :: env))) :
  Holds S sz R C w (.act (.append t u ty (.slice a L.length c) (.slice sa m sc)) ⟨true, ops, rest, some d, k, env⟩) := by
 subst hs0
 subst hM
 subst hu
 obtain ⟨a', c', w', hr, h1, h2, h3⟩ := append_runH (P := S.P) hS.tt hi hd hj hz hsz he hp (sc := sc) hs hm hb ty
 exact h_actq rfl rfl (by simp only [Action.sem, Sem.run_bind, hr, Result.andThen_ok, Sem.run_pure]) ⟨fun hq => hC _ hq _ _ h1, hk a' c' w' h1 h2 h3⟩
theorem D_stB {b o : Nat} {tb t : TypeId} {cs : List Value} {v : Value} {i : TI} [hS : S.Ok] (hp : Hp w0 w (rB b tb cs :: F)) (hi : tl S.tt t = some i) (hs : i.size = 1) (ho : o < cs.length) (hv : v.oneCell' = true) (hfl : flagAt ops rest = false)
  (hk : ∀ w', Hp w0 w' (rB b tb (cs.set o v) :: F) → Holds S sz R C w' (.ops true ops rest k env)) : Holds S sz R C w (.act (.store t ⟨b, o, none⟩ v) ⟨true, ops, rest, none, k, env⟩) := by
 obtain ⟨w', r, h, g⟩ := (show Blk w b tb cs from hp.g0).st1 hS.tt hi hs ho hv
 exact h_act_skipq rfl rfl r ⟨fun hq => absurd hq (by rw [hfl]; decide), hk w' (hp.blkS h g)⟩
theorem D_stBN {b : Nat} {tb t : TypeId} {cs vs : List Value} {i : TI} [hS : S.Ok] (hp : Hp w0 w (rB b tb cs :: F)) (hi : tl S.tt t = some i) (hs : i.size = vs.length) (hl : cs.length = vs.length) (h1 : ∀ v ∈ vs, v.oneCell' = true) (hfl : flagAt ops rest = false)
  (hk : ∀ w', Hp w0 w' (rB b tb vs :: F) → Holds S sz R C w' (.ops true ops rest k env)) : Holds S sz R C w (.act (.store t ⟨b, 0, none⟩ (.agg ⟨vs⟩)) ⟨true, ops, rest, none, k, env⟩) := by
 obtain ⟨w', r, h, g⟩ := Blk.storeN hS.tt hi (show Blk w b tb cs from hp.g0) hs hl h1
 exact h_act_skipq rfl rfl r ⟨fun hq => absurd hq (by rw [hfl]; decide), hk w' (hp.blkS h g)⟩
theorem D_st0 {α : Type} {enc : α → List Value} {e t : TypeId} {a : Option Addr} {c s : Nat} {L : List α} (hp : Hp w0 w (rO e s enc a c L :: F)) {i : TI} [hS : S.Ok] (hi : tl S.tt t = some i) (hs : i.size = 1) (he : EncOk enc s) {z : Int} {x y : α} {v : Value} (hx : L[z.toNat]? = some x) (hj : 0 < s) (hy : enc y = (enc x).set 0 v) (hv : v.oneCell' = true) (hfl : flagAt ops rest = false)
  (hk : ∀ w', Hp w0 w' (rO e s enc a c (L.set z.toNat y) :: F) → Holds S sz R C w' (.ops true ops rest k env)) : Holds S sz R C w (.act (.store t (elemAddr a s z) v) ⟨true, ops, rest, none, k, env⟩) := by
 obtain ⟨w', r, h, g⟩ := hp.own.st0 hS.tt hi hs he hx hj hy hv
 exact h_act_skipq rfl rfl r ⟨fun hq => absurd hq (by rw [hfl]; decide), hk w' (hp.ownS h g)⟩
theorem D_st1 {α : Type} {enc : α → List Value} {e t : TypeId} {a : Option Addr} {c s : Nat} {L : List α} (hp : Hp w0 w (rO e s enc a c L :: F)) {i : TI} [hS : S.Ok] (hi : tl S.tt t = some i) (hs : i.size = 1) (he : EncOk enc s) {z : Int} {j : Nat} {x y : α} {v : Value} (hx : L[z.toNat]? = some x) (hj : j < s) (hy : enc y = (enc x).set j v) (hv : v.oneCell' = true) (hfl : flagAt ops rest = false)
  (hk : ∀ w', Hp w0 w' (rO e s enc a c (L.set z.toNat y) :: F) → Holds S sz R C w' (.ops true ops rest k env)) : Holds S sz R C w (.act (.store t (addA (elemAddr a s z) j) v) ⟨true, ops, rest, none, k, env⟩) := by
 obtain ⟨w', r, h, g⟩ := hp.own.st1 hS.tt hi hs he hx hj hy hv
 exact h_act_skipq rfl rfl r ⟨fun hq => absurd hq (by rw [hfl]; decide), hk w' (hp.ownS h g)⟩
theorem Hp.blk {w0 w : World} {b : Nat} {t : TypeId} {cs : List Value} {L : List Res} (h : Hp w0 w (rB b t cs :: L)) : Blk w b t cs := h.g0
theorem Hp.sl {α : Type} [Inhabited α] {enc : α → List Value} {e : TypeId} {s : Nat} {a : Option Addr} {c : Nat} {X : List α} {L : List Res} {w0 w : World} (h : Hp w0 w (rO e s enc a c X :: L)) (he : EncOk enc s) : Sl w a X.length s (fL enc X) := h.own.sl he.len
end
def ldV (tt : TT) (t : TypeId) (cs : List Value) (o : Nat) : Option Value :=
 match aggOf tt t with
 | some false => nthL cs o
 | some true => match tl tt t with
  | some i => match takeF i.size (dropF o cs) with
   | some l => some (.agg ⟨l⟩)
   | none => none
  | none => none
 | none => none
theorem ldV_blk {P : Program} {tt : TT} {t : TypeId} {w : World} (hok : TTok P tt) {b o : Nat} {tb : TypeId} {cs : List Value} {v : Value} (h : Blk w b tb cs) (hv : ldV tt t cs o = some v) : (loadVar t ⟨b, o, none⟩).run P w = .ok v w := by
 unfold ldV at hv
 split at hv
 ·rename_i ha
  exact ld_blk hok ha h hv
 ·rename_i ha
  split at hv
  ·rename_i i hi
   split at hv
   ·rename_i l hl
    injection hv with hv
    subst hv
    exact ld_blkN hok ha hi h hl
   ·cases hv
  ·cases hv
 ·cases hv
theorem fL_cell {α : Type} [Inhabited α] {enc : α → List Value} {X : List α} {i j : Nat} {u : Value} (h : (enc (X.getD i default))[j]? = some u) : fL enc X i j = u := by
 simp only [fL, nthL_eq, h]
theorem ldV_el {P : Program} {tt : TT} {t : TypeId} {w : World} (hok : TTok P tt) {α : Type} [Inhabited α] {enc : α → List Value} {X : List α} {a : Option Addr} {s : Nat} (he : EncOk enc s) {z : Int} {j : Nat} {v : Value} (h : Sl w a X.length s (fL enc X)) (h0 : 0 ≤ z) (h1 : z < X.length)
  (hv : ldV tt t (enc (X.getD z.toNat default)) j = some v) : (loadVar t (addA (elemAddr a s z) j)).run P w = .ok v w := by
 have hlen := he.len (X.getD z.toNat default)
 unfold ldV at hv
 split at hv
 ·rename_i ha
  rw [nthL_eq] at hv
  have hj : j < s := by
   rw [← hlen]
   exact (List.getElem?_eq_some_iff.1 hv).1
  rw [← fL_cell (X := X) hv]
  exact ld_fd hok ha h h0 h1 hj
 ·rename_i ha
  split at hv
  ·rename_i i hi
   split at hv
   ·rename_i l hl
    injection hv with hv
    subst hv
    obtain ⟨h2, h3⟩ := takeF_eq hl
    rw [dropF_eq] at h2 h3
    rw [List.length_drop, hlen] at h3
    refine loadVarN hok ha hi (by rw [h2, List.length_take, List.length_drop, hlen]; omega) fun q u hu => ?_
    rw [h2, List.getElem?_take] at hu
    split at hu
    ·rename_i hq
     rw [List.getElem?_drop] at hu
     have hlt : j + q < s := by
      rw [← hlen]
      exact (List.getElem?_eq_some_iff.1 hu).1
     have h4 := h.at_ h0 h1 hlt
     rw [fL_cell (X := X) hu, addA_eq] at h4
     rw [addA_eq, add_of_add]
     exact h4
    ·cases hu
   ·cases hv
  ·cases hv
 ·cases hv
theorem ldV_el0 {P : Program} {tt : TT} {t : TypeId} {w : World} (hok : TTok P tt) {α : Type} [Inhabited α] {enc : α → List Value} {X : List α} {a : Option Addr} {s : Nat} (he : EncOk enc s) {z : Int} {v : Value} (h : Sl w a X.length s (fL enc X)) (h0 : 0 ≤ z) (h1 : z < X.length)
  (hv : ldV tt t (enc (X.getD z.toNat default)) 0 = some v) : (loadVar t (elemAddr a s z)).run P w = .ok v w := by
 have hq : addA (elemAddr a s z) 0 = elemAddr a s z := by rw [addA_eq]; simp [Addr.add]
 have := ldV_el hok he h h0 h1 hv
 rwa [hq] at this
class BkH (w0 : World) (L : List Res) (b : Nat) (t : outParam TypeId) (cs : outParam (List Value)) : Prop where
 h : ∀ w, Hp w0 w L → Blk w b t cs
instance BkH.head {w0 : World} {L : List Res} {b : Nat} {t : TypeId} {cs : List Value} : BkH w0 (rB b t cs :: L) b t cs := ⟨fun _ hp => hp.g0⟩
instance BkH.tail {w0 : World} {L : List Res} {R : Res} {b : Nat} {t : TypeId} {cs : List Value} [h : BkH w0 L b t cs] : BkH w0 (R :: L) b t cs := ⟨fun w hp => h.h w hp.drop⟩
instance (priority := low) RdH.base {w0 : World} {L : List Res} {a : Option Addr} {α : Type} [Inhabited α] {s : Nat} {enc : α → List Value} {X : List α} [h : Rd w0 a s enc X] : RdH w0 L a s enc X := ⟨fun _ hp => h.h.ext hp.x⟩
instance RdH.head {w0 : World} {L : List Res} {a : Option Addr} {α : Type} [Inhabited α] {s : Nat} {enc : α → List Value} {X : List α} {e : TypeId} {c : Nat} [he : EncOk enc s] : RdH w0 (rO e s enc a c X :: L) a s enc X := ⟨fun _ hp => hp.sl he⟩
instance RdH.tail {w0 : World} {L : List Res} {R : Res} {a : Option Addr} {α : Type} [Inhabited α] {s : Nat} {enc : α → List Value} {X : List α} [h : RdH w0 L a s enc X] : RdH w0 (R :: L) a s enc X := ⟨fun w hp => h.h w hp.drop⟩
theorem Rd.ext {w w' : World} {a : Option Addr} {α : Type} [Inhabited α] {s : Nat} {enc : α → List Value} {X : List α} (h : Rd w a s enc X) (hx : Ext w w') : Rd w' a s enc X := ⟨h.h.ext hx⟩
theorem Hp.rd {w0 w : World} {L : List Res} (hp : Hp w0 w L) {a : Option Addr} {α : Type} [Inhabited α] {s : Nat} {enc : α → List Value} {X : List α} [h : RdH w0 L a s enc X] : Rd w a s enc X := ⟨h.h w hp⟩
section
variable {S : Setting} {sz : Nat} {R : Value → World → Prop} {C : World → Prop} {w : World} {g' : G} {obl : List Prop}
variable {ops : Array Oper} {rest : List Oper} {k : List Item} {env : Env} {w0 : World} {F : List Res}
theorem H_ldB {b o : Nat} {tb t : TypeId} {cs : List Value} {v : Value} {d : Nat} [hS : S.Ok] (hp : Hp w0 w F) [hb : BkH w0 F b tb cs] (hv : ldV S.tt t cs o = some v)
  (h : run S sz 400 (.ops false ops rest k ((d, v) :: env)) [] = (g', obl)) (hg : Holds S sz R C w g') (ho : All obl := by ((repeat' apply And.intro) <;> first | exact trivial | omega | exact wi (by omega) | exact wu (by omega) | exact wb (by omega) | (refine Sl.nn (by assumption) ?_; omega) | (refine nn_of (by assumption) ?_; omega) | exact Option.some_ne_none _ | assumption | decide)) : Holds S sz R C w (.act (.load t ⟨b, o, none⟩) ⟨false, ops, rest, some d, k, env⟩) :=
 h_load (ldV_blk hS.tt (hb.h w hp) hv) h hg ho
theorem H_ldF {s1 : Nat} {α : Type} [Inhabited α] {enc : α → List Value} {X : List α} {a : Option Addr} {s : Nat} [he : EncOk enc s] {z : Int} {j : Nat} {t : TypeId} {v : Value} {d : Nat} [hS : S.Ok] (hp : Hp w0 w F) [hr : RdH w0 F a s enc X] (hs1 : s1 = s) (h0 : 0 ≤ z) (h1 : z < X.length) (hv : ldV S.tt t (enc (X.getD z.toNat default)) j = some v)
  (h : run S sz 400 (.ops false ops rest k ((d, v) :: env)) [] = (g', obl)) (hg : Holds S sz R C w g') (ho : All obl := by ((repeat' apply And.intro) <;> first | exact trivial | omega | exact wi (by omega) | exact wu (by omega) | exact wb (by omega) | (refine Sl.nn (by assumption) ?_; omega) | (refine nn_of (by assumption) ?_; omega) | exact Option.some_ne_none _ | assumption | decide)) : Holds S sz R C w (.act (.load t (addA (elemAddr a s1 z) j)) ⟨false, ops, rest, some d, k, env⟩) := by
 subst hs1
 exact h_load (ldV_el hS.tt he (hr.h w hp) h0 h1 hv) h hg ho
theorem H_ldE {s1 : Nat} {α : Type} [Inhabited α] {enc : α → List Value} {X : List α} {a : Option Addr} {s : Nat} [he : EncOk enc s] {z : Int} {t : TypeId} {v : Value} {d : Nat} [hS : S.Ok] (hp : Hp w0 w F) [hr : RdH w0 F a s enc X] (hs1 : s1 = s) (h0 : 0 ≤ z) (h1 : z < X.length) (hv : ldV S.tt t (enc (X.getD z.toNat default)) 0 = some v)
  (h : run S sz 400 (.ops false ops rest k ((d, v) :: env)) [] = (g', obl)) (hg : Holds S sz R C w g') (ho : All obl := by ((repeat' apply And.intro) <;> first | exact trivial | omega | exact wi (by omega) | exact wu (by omega) | exact wb (by omega) | (refine Sl.nn (by assumption) ?_; omega) | (refine nn_of (by assumption) ?_; omega) | exact Option.some_ne_none _ | assumption | decide)) : Holds S sz R C w (.act (.load t (elemAddr a s1 z)) ⟨false, ops, rest, some d, k, env⟩) := by
 subst hs1
 exact h_load (ldV_el0 hS.tt he (hr.h w hp) h0 h1 hv) h hg ho
theorem D_ldB {L' : List Res} {b o : Nat} {tb t : TypeId} {cs : List Value} {v : Value} {d : Nat} [hS : S.Ok] [hb : BkH w0 L' b tb cs] (hv : ldV S.tt t cs o = some v) (hpre : ops.toList.take (ops.toList.length - rest.length) ++ rest = ops.toList)
  (h : run S sz 400 (.ops true ops rest k ((d, v) :: env)) [] = (g', obl)) (hg : Holds S sz R (fun w' => Hp w0 w' L') w g') (ho : All obl := by ((repeat' apply And.intro) <;> first | exact trivial | omega | exact wi (by omega) | exact wu (by omega) | exact wb (by omega) | (refine Sl.nn (by assumption) ?_; omega) | (refine nn_of (by assumption) ?_; omega) | exact Option.some_ne_none _ | assumption | decide)) : Holds S sz R (fun w' => Hp w0 w' L') w (.act (.load t ⟨b, o, none⟩) ⟨true, ops, rest, some d, k, env⟩) :=
 D_load (fun w hp => ldV_blk hS.tt (hb.h w hp) hv) hpre h hg ho
theorem D_ldF {s1 : Nat} {L' : List Res} {α : Type} [Inhabited α] {enc : α → List Value} {X : List α} {a : Option Addr} {s : Nat} [he : EncOk enc s] {z : Int} {j : Nat} {t : TypeId} {v : Value} {d : Nat} [hS : S.Ok] [hr : RdH w0 L' a s enc X] (hs1 : s1 = s) (h0 : 0 ≤ z) (h1 : z < X.length) (hv : ldV S.tt t (enc (X.getD z.toNat default)) j = some v) (hpre : ops.toList.take (ops.toList.length - rest.length) ++ rest = ops.toList)
  (h : run S sz 400 (.ops true ops rest k ((d, v) :: env)) [] = (g', obl)) (hg : Holds S sz R (fun w' => Hp w0 w' L') w g') (ho : All obl := by ((repeat' apply And.intro) <;> first | exact trivial | omega | exact wi (by omega) | exact wu (by omega) | exact wb (by omega) | (refine Sl.nn (by assumption) ?_; omega) | (refine nn_of (by assumption) ?_; omega) | exact Option.some_ne_none _ | assumption | decide)) : Holds S sz R (fun w' => Hp w0 w' L') w (.act (.load t (addA (elemAddr a s1 z) j)) ⟨true, ops, rest, some d, k, env⟩) := by
 subst hs1
 exact D_load (fun w hp => ldV_el hS.tt he (hr.h w hp) h0 h1 hv) hpre h hg ho
theorem D_ldE {s1 : Nat} {L' : List Res} {α : Type} [Inhabited α] {enc : α → List Value} {X : List α} {a : Option Addr} {s : Nat} [he : EncOk enc s] {z : Int} {t : TypeId} {v : Value} {d : Nat} [hS : S.Ok] [hr : RdH w0 L' a s enc X] (hs1 : s1 = s) (h0 : 0 ≤ z) (h1 : z < X.length) (hv : ldV S.tt t (enc (X.getD z.toNat default)) 0 = some v) (hpre : ops.toList.take (ops.toList.length - rest.length) ++ rest = ops.toList)
  (h : run S sz 400 (.ops true ops rest k ((d, v) :: env)) [] = (g', obl)) (hg : Holds S sz R (fun w' => Hp w0 w' L') w g') (ho : All obl := by ((repeat' apply And.intro) <;> first | exact trivial | omega | exact wi (by omega) | exact wu (by omega) | exact wb (by omega) | (refine Sl.nn (by assumption) ?_; omega) | (refine nn_of (by assumption) ?_; omega) | exact Option.some_ne_none _ | assumption | decide)) : Holds S sz R (fun w' => Hp w0 w' L') w (.act (.load t (elemAddr a s1 z)) ⟨true, ops, rest, some d, k, env⟩) := by
 subst hs1
 exact D_load (fun w hp => ldV_el0 hS.tt he (hr.h w hp) h0 h1 hv) hpre h hg ho
end
class Upd (L : List Res) (R : Res) (f : outParam (Res → List Res)) : Prop where
 h : ∃ M, L.Perm (R :: M) ∧ ∀ R', (f R').Perm (R' :: M)
instance Upd.head {L : List Res} {R : Res} : Upd (R :: L) R (fun R' => R' :: L) := ⟨L, .refl _, fun _ => .refl _⟩
instance Upd.tail {L : List Res} {R A : Res} {f : Res → List Res} [h : Upd L R f] : Upd (A :: L) R (fun R' => A :: f R') := by
 obtain ⟨M, h1, h2⟩ := h.h
 exact ⟨A :: M, (h1.cons A).trans (.swap _ _ _), fun R' => ((h2 R').cons A).trans (.swap _ _ _)⟩
class UpdB (L : List Res) (b : Nat) (t : outParam TypeId) (cs : outParam (List Value)) (f : outParam (List Value → List Res)) : Prop where
 h : ∃ M, L.Perm (rB b t cs :: M) ∧ ∀ cs', (f cs').Perm (rB b t cs' :: M)
instance UpdB.head {L : List Res} {b : Nat} {t : TypeId} {cs : List Value} : UpdB (rB b t cs :: L) b t cs (fun cs' => rB b t cs' :: L) := ⟨L, .refl _, fun _ => .refl _⟩
instance UpdB.tail {L : List Res} {A : Res} {b : Nat} {t : TypeId} {cs : List Value} {f : List Value → List Res} [h : UpdB L b t cs f] : UpdB (A :: L) b t cs (fun cs' => A :: f cs') := by
 obtain ⟨M, h1, h2⟩ := h.h
 exact ⟨A :: M, (h1.cons A).trans (.swap _ _ _), fun R' => ((h2 R').cons A).trans (.swap _ _ _)⟩
class UpdO (L : List Res) (a : Option Addr) {α : outParam Type} (e : outParam TypeId) (s : outParam Nat) (enc : outParam (α → List Value)) (c : outParam Nat) (X : outParam (List α)) (f : outParam (Option Addr → Nat → List α → List Res)) : Prop where
 h : ∃ M, L.Perm (rO e s enc a c X :: M) ∧ ∀ a' c' X', (f a' c' X').Perm (rO e s enc a' c' X' :: M)
instance UpdO.head {L : List Res} {a : Option Addr} {α : Type} {e : TypeId} {s : Nat} {enc : α → List Value} {c : Nat} {X : List α} : UpdO (rO e s enc a c X :: L) a e s enc c X (fun a' c' X' => rO e s enc a' c' X' :: L) := ⟨L, .refl _, fun _ _ _ => .refl _⟩
instance UpdO.tail {L : List Res} {A : Res} {a : Option Addr} {α : Type} {e : TypeId} {s : Nat} {enc : α → List Value} {c : Nat} {X : List α} {f : Option Addr → Nat → List α → List Res} [h : UpdO L a e s enc c X f] : UpdO (A :: L) a e s enc c X (fun a' c' X' => A :: f a' c' X') := by
 obtain ⟨M, h1, h2⟩ := h.h
 exact ⟨A :: M, (h1.cons A).trans (.swap _ _ _), fun a' c' X' => ((h2 a' c' X').cons A).trans (.swap _ _ _)⟩
theorem Hp.at_ {w0 w : World} {L : List Res} (hp : Hp w0 w L) (R : Res) {f : Res → List Res} [h : Upd L R f] : ∃ M, Hp w0 w (R :: M) ∧ ∀ w' R', Hp w0 w' (R' :: M) → Hp w0 w' (f R') := by
 obtain ⟨M, h1, h2⟩ := h.h
 exact ⟨M, hp.perm h1, fun w' R' hp' => hp'.perm (h2 R').symm⟩
theorem Hp.take {w0 w : World} {L : List Res} (hp : Hp w0 w L) (R : Res) {f : Res → List Res} [h : Upd L R f] : R.P w := by
 obtain ⟨M, h1, _⟩ := h.h
 exact (hp.perm h1).g0
def intsOf : List Value → Option (List Int)
 | [] => some []
 | .int .i64 x :: r => match intsOf r with
  | some l => some (x :: l)
  | none => none
 | _ => none
theorem intsOf_eq : ∀ {cs : List Value} {M : List Int}, intsOf cs = some M → M.flatMap eI = cs
 | [], M, h => by injection h with h; subst h; rfl
 | v :: r, M, h => by
  unfold intsOf at h
  split at h
  ·rename_i h0; cases h0
  ·rename_i x r' heq
   injection heq with h1 h2
   subst h1; subst h2
   split at h
   ·rename_i l hl
    injection h with h
    subst h
    rw [List.flatMap_cons, intsOf_eq hl]
    rfl
   ·cases h
  ·cases h
section
variable {S : Setting} {sz : Nat} {R : Value → World → Prop} {C : World → Prop} {w : World} {g' : G} {obl : List Prop}
variable {ops : Array Oper} {rest : List Oper} {k : List Item} {env : Env} {w0 : World} {F : List Res}
theorem U_stB {b o : Nat} {tb t : TypeId} {cs : List Value} {f : List Value → List Res} {v : Value} {i : TI} [hS : S.Ok] (hp : Hp w0 w F) [hu : UpdB F b tb cs f] (hi : tl S.tt t = some i) (hs : i.size = 1) (ho : Nat.ble (o + 1) cs.length = true) (hv : v.oneCell' = true)
  (hk : ∀ w', Hp w0 w' (f (cs.set o v)) → Holds S sz R C w' (.ops false ops rest k env)) : Holds S sz R C w (.act (.store t ⟨b, o, none⟩ v) ⟨false, ops, rest, none, k, env⟩) := by
 obtain ⟨M, h1, h2⟩ := hu.h
 exact H_stB (hp.perm h1) hi hs (Nat.le_of_ble_eq_true ho) hv fun w' hp' => hk w' (hp'.perm (h2 _).symm)
theorem U_stBN {b : Nat} {tb t : TypeId} {cs vs : List Value} {f : List Value → List Res} {i : TI} [hS : S.Ok] (hp : Hp w0 w F) [hu : UpdB F b tb cs f] (hi : tl S.tt t = some i) (hs : i.size = vs.length) (hl : Nat.beq cs.length vs.length = true) (h1 : vs.all Value.oneCell' = true)
  (hk : ∀ w', Hp w0 w' (f vs) → Holds S sz R C w' (.ops false ops rest k env)) : Holds S sz R C w (.act (.store t ⟨b, 0, none⟩ (.agg ⟨vs⟩)) ⟨false, ops, rest, none, k, env⟩) := by
 obtain ⟨M, h3, h2⟩ := hu.h
 exact H_stBN (hp.perm h3) hi hs (Nat.eq_of_beq_eq_true hl) (fun v hv => List.all_eq_true.1 h1 v hv) fun w' hp' => hk w' (hp'.perm (h2 _).symm)
theorem U_st0 {s1 : Nat} {α : Type} [Inhabited α] {enc : α → List Value} {e t : TypeId} {a : Option Addr} {c s : Nat} {X : List α} {f : Option Addr → Nat → List α → List Res} (hp : Hp w0 w F) [hu : UpdO F a e s enc c X f] [he : EncOk enc s] {i : TI} [hS : S.Ok] (hs1 : s1 = s) (hi : tl S.tt t = some i) (hs : i.size = 1) {z : Int} (hz : z.toNat < X.length) {y : α} {v : Value} (hj : 0 < s) (hy : enc y = (enc (X.getD z.toNat default)).set 0 v) (hv : v.oneCell' = true)
  (hk : ∀ w', Hp w0 w' (f a c (X.set z.toNat y)) → Holds S sz R C w' (.ops false ops rest k env)) : Holds S sz R C w (.act (.store t (elemAddr a s1 z) v) ⟨false, ops, rest, none, k, env⟩) := by
 subst hs1
 obtain ⟨M, h1, h2⟩ := hu.h
 exact H_st0 (hp.perm h1) hi hs he (getD_some hz) hj hy hv fun w' hp' => hk w' (hp'.perm (h2 _ _ _).symm)
theorem U_st1 {s1 : Nat} {α : Type} [Inhabited α] {enc : α → List Value} {e t : TypeId} {a : Option Addr} {c s : Nat} {X : List α} {f : Option Addr → Nat → List α → List Res} (hp : Hp w0 w F) [hu : UpdO F a e s enc c X f] [he : EncOk enc s] {i : TI} [hS : S.Ok] (y : α) (hs1 : s1 = s) (hi : tl S.tt t = some i) (hs : i.size = 1) {z : Int} {j : Nat} (hz : z.toNat < X.length) {v : Value} (hj : j < s) (hy : enc y = (enc (X.getD z.toNat default)).set j v) (hv : v.oneCell' = true)
  (hk : ∀ w', Hp w0 w' (f a c (X.set z.toNat y)) → Holds S sz R C w' (.ops false ops rest k env)) : Holds S sz R C w (.act (.store t (addA (elemAddr a s1 z) j) v) ⟨false, ops, rest, none, k, env⟩) := by
 subst hs1
 obtain ⟨M, h1, h2⟩ := hu.h
 exact H_st1 (hp.perm h1) hi hs he (getD_some hz) hj hy hv fun w' hp' => hk w' (hp'.perm (h2 _ _ _).symm)
theorem U_stN {s1 : Nat} {α : Type} {enc : α → List Value} {e t : TypeId} {a : Option Addr} {c s : Nat} {X : List α} {f : Option Addr → Nat → List α → List Res} (hp : Hp w0 w F) [hu : UpdO F a e s enc c X f] [he : EncOk enc s] {i : TI} [hS : S.Ok] (y : α) (hs1 : s1 = s) (hi : tl S.tt t = some i) (hs : i.size = s) {z : Int} (h0 : 0 ≤ z) (h1 : z < X.length) {cs : List Value} (hy : enc y = cs)
  (hk : ∀ w', Hp w0 w' (f a c (X.set z.toNat y)) → Holds S sz R C w' (.ops false ops rest k env)) : Holds S sz R C w (.act (.store t (elemAddr a s1 z) (.agg ⟨cs⟩)) ⟨false, ops, rest, none, k, env⟩) := by
 subst hs1
 obtain ⟨M, h3, h2⟩ := hu.h
 exact H_stN (hp.perm h3) hi hs he h0 h1 y hy fun w' hp' => hk w' (hp'.perm (h2 _ _ _).symm)
theorem U_litI (hp : Hp w0 w F) {t e : TypeId} {i j : TI} {nn : Nat} {parts : List (Nat × Value)} {cs : List Value} {M : List Int} {d : Nat} [hS : S.Ok] (hi : tl S.tt t = some i) (hd : i.desc = .slice e) (hj : tl S.tt e = some j) (hz : (cellsV j.zero).length = j.size) (hs0 : j.size = 1) (_ : j.desc = .int .i64)
  (hc : litCells S.tt e nn parts = some cs) (hM : intsOf cs = some M) (hn : M.length = nn) (hb : Nat.ble (nn * 1) 16777216 = true)
  (hk : ∀ w' b, Ext w w' → Hp w0 w' (rO e 1 eI (some ⟨b, 0, none⟩) M.length M :: F) → Holds S sz R C w' (.ops false ops rest k ((d, .slice (some ⟨b, 0, none⟩) M.length M.length) :: env))) :
  Holds S sz R C w (.act (.buildSlice t nn parts) ⟨false, ops, rest, some d, k, env⟩) :=
 H_lit hp eI M hi hd hj hz hs0 (by decide) eI_ok hc (intsOf_eq hM) hn (Nat.le_of_ble_eq_true hb) hk
theorem U_append {α : Type} [Inhabited α] {enc : α → List Value} {X Y : List α} {t u e ty : TypeId} {a sa : Option Addr} {c sc n : Nat} {s : Nat} {f : Option Addr → Nat → List α → List Res} (hp : Hp w0 w F) [hq : UpdO F a e s enc c X f] [he : EncOk enc s] [hr : RdH w0 F sa s enc Y] {i j : TI} {m : Nat} (hn : X.length = n) (hM : Y.length = m) {d : Nat} [hS : S.Ok] (hi : tl S.tt t = some i) (hd : i.desc = .slice e) (hj : tl S.tt e = some j) (hz : (cellsV j.zero).length = j.size) (hs0 : j.size = s) (hsz : 0 < s)
  (hu : u = t) (hm : X.length + Y.length ≤ 1000000000) {bts : Nat} (hbt : j.bytes = bts) (hb2 : Nat.ble bts 1000 = true)
  (hk : ∀ a' c' w', Hp w0 w' (f a' c' (X ++ Y)) → (a' = none ↔ a = none ∧ Y = []) → Holds S sz R C w' (.ops false ops rest k ((d, .slice a' (X ++ Y).length c') :: env))) :
  Holds S sz R C w (.act (.append t u ty (.slice a n c) (.slice sa m sc)) ⟨false, ops, rest, some d, k, env⟩) := by
 obtain ⟨M, h1, h2⟩ := hq.h
 subst hn
 refine H_append Y (hp.perm h1) hM hi hd hj hz hs0 hsz hu he (hr.h w hp) (by unfold maxLen; omega) ?_ fun a' c' w' hp' _ h3 => hk a' c' w' (hp'.perm (h2 _ _ _).symm) h3
 have := Nat.le_of_ble_eq_true hb2
 rw [hbt]
 have := Nat.mul_le_mul hm this
 omega
theorem V_stB {b o : Nat} {tb t : TypeId} {cs : List Value} {f : List Value → List Res} {v : Value} {i : TI} [hS : S.Ok] (hp : Hp w0 w F) [hu : UpdB F b tb cs f] (hi : tl S.tt t = some i) (hs : i.size = 1) (ho : Nat.ble (o + 1) cs.length = true) (hv : v.oneCell' = true) (hfl : flagAt ops rest = false)
  (hk : ∀ w', Hp w0 w' (f (cs.set o v)) → Holds S sz R C w' (.ops true ops rest k env)) : Holds S sz R C w (.act (.store t ⟨b, o, none⟩ v) ⟨true, ops, rest, none, k, env⟩) := by
 obtain ⟨M, h1, h2⟩ := hu.h
 exact D_stB (hp.perm h1) hi hs (Nat.le_of_ble_eq_true ho) hv hfl fun w' hp' => hk w' (hp'.perm (h2 _).symm)
theorem V_stBN {b : Nat} {tb t : TypeId} {cs vs : List Value} {f : List Value → List Res} {i : TI} [hS : S.Ok] (hp : Hp w0 w F) [hu : UpdB F b tb cs f] (hi : tl S.tt t = some i) (hs : i.size = vs.length) (hl : Nat.beq cs.length vs.length = true) (h1 : vs.all Value.oneCell' = true) (hfl : flagAt ops rest = false)
  (hk : ∀ w', Hp w0 w' (f vs) → Holds S sz R C w' (.ops true ops rest k env)) : Holds S sz R C w (.act (.store t ⟨b, 0, none⟩ (.agg ⟨vs⟩)) ⟨true, ops, rest, none, k, env⟩) := by
 obtain ⟨M, h3, h2⟩ := hu.h
 exact D_stBN (hp.perm h3) hi hs (Nat.eq_of_beq_eq_true hl) (fun v hv => List.all_eq_true.1 h1 v hv) hfl fun w' hp' => hk w' (hp'.perm (h2 _).symm)
theorem V_st0 {s1 : Nat} {α : Type} [Inhabited α] {enc : α → List Value} {e t : TypeId} {a : Option Addr} {c s : Nat} {X : List α} {f : Option Addr → Nat → List α → List Res} (hp : Hp w0 w F) [hu : UpdO F a e s enc c X f] [he : EncOk enc s] {i : TI} [hS : S.Ok] (hs1 : s1 = s) (hi : tl S.tt t = some i) (hs : i.size = 1) {z : Int} (hz : z.toNat < X.length) {y : α} {v : Value} (hj : 0 < s) (hy : enc y = (enc (X.getD z.toNat default)).set 0 v) (hv : v.oneCell' = true) (hfl : flagAt ops rest = false)
  (hk : ∀ w', Hp w0 w' (f a c (X.set z.toNat y)) → Holds S sz R C w' (.ops true ops rest k env)) : Holds S sz R C w (.act (.store t (elemAddr a s1 z) v) ⟨true, ops, rest, none, k, env⟩) := by
 subst hs1
 obtain ⟨M, h1, h2⟩ := hu.h
 exact D_st0 (hp.perm h1) hi hs he (getD_some hz) hj hy hv hfl fun w' hp' => hk w' (hp'.perm (h2 _ _ _).symm)
theorem V_st1 {s1 : Nat} {α : Type} [Inhabited α] {enc : α → List Value} {e t : TypeId} {a : Option Addr} {c s : Nat} {X : List α} {f : Option Addr → Nat → List α → List Res} (hp : Hp w0 w F) [hu : UpdO F a e s enc c X f] [he : EncOk enc s] {i : TI} [hS : S.Ok] (y : α) (hs1 : s1 = s) (hi : tl S.tt t = some i) (hs : i.size = 1) {z : Int} {j : Nat} (hz : z.toNat < X.length) {v : Value} (hj : j < s) (hy : enc y = (enc (X.getD z.toNat default)).set j v) (hv : v.oneCell' = true) (hfl : flagAt ops rest = false)
  (hk : ∀ w', Hp w0 w' (f a c (X.set z.toNat y)) → Holds S sz R C w' (.ops true ops rest k env)) : Holds S sz R C w (.act (.store t (addA (elemAddr a s1 z) j) v) ⟨true, ops, rest, none, k, env⟩) := by
 subst hs1
 obtain ⟨M, h1, h2⟩ := hu.h
 exact D_st1 (hp.perm h1) hi hs he (getD_some hz) hj hy hv hfl fun w' hp' => hk w' (hp'.perm (h2 _ _ _).symm)
theorem V_litI (hC : ∀ w', Ext w w' → C w') (hp : Hp w0 w F) {t e : TypeId} {i j : TI} {nn : Nat} {parts : List (Nat × Value)} {cs : List Value} {M : List Int} {d : Nat} [hS : S.Ok] (hi : tl S.tt t = some i) (hd : i.desc = .slice e) (hj : tl S.tt e = some j) (hz : (cellsV j.zero).length = j.size) (hs0 : j.size = 1) (_ : j.desc = .int .i64)
  (hc : litCells S.tt e nn parts = some cs) (hM : intsOf cs = some M) (hn : M.length = nn) (hb : Nat.ble (nn * 1) 16777216 = true)
  (hk : ∀ w' b, Ext w w' → Hp w0 w' (rO e 1 eI (some ⟨b, 0, none⟩) M.length M :: F) → Holds S sz R C w' (.ops true ops rest k ((d, .slice (some ⟨b, 0, none⟩) M.length M.length) :: env))) :
  Holds S sz R C w (.act (.buildSlice t nn parts) ⟨true, ops, rest, some d, k, env⟩) :=
 D_lit hC hp eI M hi hd hj hz hs0 (by decide) eI_ok hc (intsOf_eq hM) hn (Nat.le_of_ble_eq_true hb) hk
theorem V_append {α : Type} [Inhabited α] {enc : α → List Value} {X Y : List α} {t u e ty : TypeId} {a sa : Option Addr} {c sc n : Nat} {s : Nat} {f : Option Addr → Nat → List α → List Res} (hp : Hp w0 w F) [hq : UpdO F a e s enc c X f] [he : EncOk enc s] [hr : RdH w0 F sa s enc Y] {i j : TI} {m : Nat} (hn : X.length = n) (hM : Y.length = m) {d : Nat} [hS : S.Ok] (hi : tl S.tt t = some i) (hd : i.desc = .slice e) (hj : tl S.tt e = some j) (hz : (cellsV j.zero).length = j.size) (hs0 : j.size = s) (hsz : 0 < s)
  (hu : u = t) (hm : X.length + Y.length ≤ 1000000000) {bts : Nat} (hbt : j.bytes = bts) (hb2 : Nat.ble bts 1000 = true) (hfl : flagAt ops rest = false)
  (hk : ∀ a' c' w', Hp w0 w' (f a' c' (X ++ Y)) → (a' = none ↔ a = none ∧ Y = []) → Holds S sz R C w' (.ops true ops rest k ((d, .slice a' (X ++ Y).length c') :: env))) :
  Holds S sz R C w (.act (.append t u ty (.slice a n c) (.slice sa m sc)) ⟨true, ops, rest, some d, k, env⟩) := by
 obtain ⟨M, h1, h2⟩ := hq.h
 subst hn
 refine D_append Y (hp.perm h1) (fun _ hq => absurd hq (by rw [hfl]; decide)) hM hi hd hj hz hs0 hsz hu he (hr.h w hp) (by unfold maxLen; omega) ?_ fun a' c' w' hp' _ h3 => hk a' c' w' (hp'.perm (h2 _ _ _).symm) h3
 have := Nat.le_of_ble_eq_true hb2
 rw [hbt]
 have := Nat.mul_le_mul hm this
 omega
theorem V_appendF {α : Type} [Inhabited α] {enc : α → List Value} {X Y : List α} {t u e ty : TypeId} {a sa : Option Addr} {c sc n : Nat} {s : Nat} {f : Option Addr → Nat → List α → List Res} (hp : Hp w0 w F) [hq : UpdO F a e s enc c X f] [he : EncOk enc s] [hr : RdH w0 F sa s enc Y] {i j : TI} {m : Nat} (hn : X.length = n) (hM : Y.length = m) {d : Nat} [hS : S.Ok] (hi : tl S.tt t = some i) (hd : i.desc = .slice e) (hj : tl S.tt e = some j) (hz : (cellsV j.zero).length = j.size) (hs0 : j.size = s) (hsz : 0 < s)
  (hu : u = t) (hm : X.length + Y.length ≤ 1000000000) {bts : Nat} (hbt : j.bytes = bts) (hb2 : Nat.ble bts 1000 = true) (hC : ∀ a' c' w', Hp w0 w' (f a' c' (X ++ Y)) → C w')
  (hk : ∀ a' c' w', Hp w0 w' (f a' c' (X ++ Y)) → (a' = none ↔ a = none ∧ Y = []) → Holds S sz R C w' (.ops true ops rest k ((d, .slice a' (X ++ Y).length c') :: env))) :
  Holds S sz R C w (.act (.append t u ty (.slice a n c) (.slice sa m sc)) ⟨true, ops, rest, some d, k, env⟩) := by
 obtain ⟨M, h1, h2⟩ := hq.h
 subst hn
 refine D_append Y (hp.perm h1) (fun w' _ a' c' hp' => hC a' c' w' (hp'.perm (h2 _ _ _).symm)) hM hi hd hj hz hs0 hsz hu he (hr.h w hp) (by unfold maxLen; omega) ?_ fun a' c' w' hp' _ h3 => hk a' c' w' (hp'.perm (h2 _ _ _).symm) h3
 have := Nat.le_of_ble_eq_true hb2
 rw [hbt]
 have := Nat.mul_le_mul hm this
 omega
end
section
variable {S : Setting} {sz : Nat} {R : Value → World → Prop} {C : World → Prop} {w : World} {g' : G} {obl : List Prop}
variable {ops : Array Oper} {rest : List Oper} {k : List Item} {env : Env} {w0 : World} {F : List Res}
theorem H_ldEN {s1 : Nat} {α : Type} [Inhabited α] {enc : α → List Value} {X : List α} {a : Option Addr} {s : Nat} [he : EncOk enc s] {i : Nat} {t : TypeId} {v : Value} {d : Nat} [hS : S.Ok] (hp : Hp w0 w F) [hr : RdH w0 F a s enc X] (hs1 : s1 = s) (h1 : i < X.length) (hv : ldV S.tt t (enc (X.getD i default)) 0 = some v)
  (h : run S sz 400 (.ops false ops rest k ((d, v) :: env)) [] = (g', obl)) (hg : Holds S sz R C w g') (ho : All obl := by ((repeat' apply And.intro) <;> first | exact trivial | omega | exact wi (by omega) | exact wu (by omega) | exact wb (by omega) | (refine Sl.nn (by assumption) ?_; omega) | (refine nn_of (by assumption) ?_; omega) | exact Option.some_ne_none _ | assumption | decide)) : Holds S sz R C w (.act (.load t (elemAddr a s1 ((i : Nat) : Int))) ⟨false, ops, rest, some d, k, env⟩) :=
 H_ldE hp hs1 (by omega) (by omega) hv h hg ho
theorem D_ldEN {s1 : Nat} {L' : List Res} {α : Type} [Inhabited α] {enc : α → List Value} {X : List α} {a : Option Addr} {s : Nat} [he : EncOk enc s] {i : Nat} {t : TypeId} {v : Value} {d : Nat} [hS : S.Ok] [hr : RdH w0 L' a s enc X] (hs1 : s1 = s) (h1 : i < X.length) (hv : ldV S.tt t (enc (X.getD i default)) 0 = some v) (hpre : ops.toList.take (ops.toList.length - rest.length) ++ rest = ops.toList)
  (h : run S sz 400 (.ops true ops rest k ((d, v) :: env)) [] = (g', obl)) (hg : Holds S sz R (fun w' => Hp w0 w' L') w g') (ho : All obl := by ((repeat' apply And.intro) <;> first | exact trivial | omega | exact wi (by omega) | exact wu (by omega) | exact wb (by omega) | (refine Sl.nn (by assumption) ?_; omega) | (refine nn_of (by assumption) ?_; omega) | exact Option.some_ne_none _ | assumption | decide)) : Holds S sz R (fun w' => Hp w0 w' L') w (.act (.load t (elemAddr a s1 ((i : Nat) : Int))) ⟨true, ops, rest, some d, k, env⟩) :=
 D_ldE hs1 (by omega) (by omega) hv hpre h hg ho
theorem H_ldFN {s1 : Nat} {α : Type} [Inhabited α] {enc : α → List Value} {X : List α} {a : Option Addr} {s : Nat} [he : EncOk enc s] {i : Nat} {j : Nat} {t : TypeId} {v : Value} {d : Nat} [hS : S.Ok] (hp : Hp w0 w F) [hr : RdH w0 F a s enc X] (hs1 : s1 = s) (h1 : i < X.length) (hv : ldV S.tt t (enc (X.getD i default)) j = some v)
  (h : run S sz 400 (.ops false ops rest k ((d, v) :: env)) [] = (g', obl)) (hg : Holds S sz R C w g') (ho : All obl := by ((repeat' apply And.intro) <;> first | exact trivial | omega | exact wi (by omega) | exact wu (by omega) | exact wb (by omega) | (refine Sl.nn (by assumption) ?_; omega) | (refine nn_of (by assumption) ?_; omega) | exact Option.some_ne_none _ | assumption | decide)) : Holds S sz R C w (.act (.load t (addA (elemAddr a s1 ((i : Nat) : Int)) j)) ⟨false, ops, rest, some d, k, env⟩) :=
 H_ldF hp hs1 (by omega) (by omega) hv h hg ho
theorem D_ldFN {s1 : Nat} {L' : List Res} {α : Type} [Inhabited α] {enc : α → List Value} {X : List α} {a : Option Addr} {s : Nat} [he : EncOk enc s] {i : Nat} {j : Nat} {t : TypeId} {v : Value} {d : Nat} [hS : S.Ok] [hr : RdH w0 L' a s enc X] (hs1 : s1 = s) (h1 : i < X.length) (hv : ldV S.tt t (enc (X.getD i default)) j = some v) (hpre : ops.toList.take (ops.toList.length - rest.length) ++ rest = ops.toList)
  (h : run S sz 400 (.ops true ops rest k ((d, v) :: env)) [] = (g', obl)) (hg : Holds S sz R (fun w' => Hp w0 w' L') w g') (ho : All obl := by ((repeat' apply And.intro) <;> first | exact trivial | omega | exact wi (by omega) | exact wu (by omega) | exact wb (by omega) | (refine Sl.nn (by assumption) ?_; omega) | (refine nn_of (by assumption) ?_; omega) | exact Option.some_ne_none _ | assumption | decide)) : Holds S sz R (fun w' => Hp w0 w' L') w (.act (.load t (addA (elemAddr a s1 ((i : Nat) : Int)) j)) ⟨true, ops, rest, some d, k, env⟩) :=
 D_ldF hs1 (by omega) (by omega) hv hpre h hg ho
theorem U_st0N {s1 : Nat} {α : Type} [Inhabited α] {enc : α → List Value} {e t : TypeId} {a : Option Addr} {c s : Nat} {X : List α} {f : Option Addr → Nat → List α → List Res} (hp : Hp w0 w F) [hu : UpdO F a e s enc c X f] [he : EncOk enc s] {i : TI} [hS : S.Ok] (hs1 : s1 = s) (hi : tl S.tt t = some i) (hs : i.size = 1) {z : Nat} (hz : z < X.length) {y : α} {v : Value} (hj : 0 < s) (hy : enc y = (enc (X.getD z default)).set 0 v) (hv : v.oneCell' = true)
  (hk : ∀ w', Hp w0 w' (f a c (X.set z y)) → Holds S sz R C w' (.ops false ops rest k env)) : Holds S sz R C w (.act (.store t (elemAddr a s1 ((z : Nat) : Int)) v) ⟨false, ops, rest, none, k, env⟩) :=
 U_st0 (z := ((z : Nat) : Int)) hp hs1 hi hs hz hj hy hv hk
theorem U_st1N {s1 : Nat} {α : Type} [Inhabited α] {enc : α → List Value} {e t : TypeId} {a : Option Addr} {c s : Nat} {X : List α} {f : Option Addr → Nat → List α → List Res} (hp : Hp w0 w F) [hu : UpdO F a e s enc c X f] [he : EncOk enc s] {i : TI} [hS : S.Ok] (y : α) (hs1 : s1 = s) (hi : tl S.tt t = some i) (hs : i.size = 1) {z j : Nat} (hz : z < X.length) {v : Value} (hj : j < s) (hy : enc y = (enc (X.getD z default)).set j v) (hv : v.oneCell' = true)
  (hk : ∀ w', Hp w0 w' (f a c (X.set z y)) → Holds S sz R C w' (.ops false ops rest k env)) : Holds S sz R C w (.act (.store t (addA (elemAddr a s1 ((z : Nat) : Int)) j) v) ⟨false, ops, rest, none, k, env⟩) :=
 U_st1 (z := ((z : Nat) : Int)) hp y hs1 hi hs hz hj hy hv hk
theorem U_stNN {s1 : Nat} {α : Type} {enc : α → List Value} {e t : TypeId} {a : Option Addr} {c s : Nat} {X : List α} {f : Option Addr → Nat → List α → List Res} (hp : Hp w0 w F) [hu : UpdO F a e s enc c X f] [he : EncOk enc s] {i : TI} [hS : S.Ok] (y : α) (hs1 : s1 = s) (hi : tl S.tt t = some i) (hs : i.size = s) {z : Nat} (h1 : z < X.length) {cs : List Value} (hy : enc y = cs)
  (hk : ∀ w', Hp w0 w' (f a c (X.set z y)) → Holds S sz R C w' (.ops false ops rest k env)) : Holds S sz R C w (.act (.store t (elemAddr a s1 ((z : Nat) : Int)) (.agg ⟨cs⟩)) ⟨false, ops, rest, none, k, env⟩) :=
 U_stN (z := ((z : Nat) : Int)) hp y hs1 hi hs (by omega) (by omega) hy hk
theorem V_st0N {s1 : Nat} {α : Type} [Inhabited α] {enc : α → List Value} {e t : TypeId} {a : Option Addr} {c s : Nat} {X : List α} {f : Option Addr → Nat → List α → List Res} (hp : Hp w0 w F) [hu : UpdO F a e s enc c X f] [he : EncOk enc s] {i : TI} [hS : S.Ok] (hs1 : s1 = s) (hi : tl S.tt t = some i) (hs : i.size = 1) {z : Nat} (hz : z < X.length) {y : α} {v : Value} (hj : 0 < s) (hy : enc y = (enc (X.getD z default)).set 0 v) (hv : v.oneCell' = true) (hfl : flagAt ops rest = false)
  (hk : ∀ w', Hp w0 w' (f a c (X.set z y)) → Holds S sz R C w' (.ops true ops rest k env)) : Holds S sz R C w (.act (.store t (elemAddr a s1 ((z : Nat) : Int)) v) ⟨true, ops, rest, none, k, env⟩) :=
 V_st0 (z := ((z : Nat) : Int)) hp hs1 hi hs hz hj hy hv hfl hk
theorem V_st1N {s1 : Nat} {α : Type} [Inhabited α] {enc : α → List Value} {e t : TypeId} {a : Option Addr} {c s : Nat} {X : List α} {f : Option Addr → Nat → List α → List Res} (hp : Hp w0 w F) [hu : UpdO F a e s enc c X f] [he : EncOk enc s] {i : TI} [hS : S.Ok] (y : α) (hs1 : s1 = s) (hi : tl S.tt t = some i) (hs : i.size = 1) {z j : Nat} (hz : z < X.length) {v : Value} (hj : j < s) (hy : enc y = (enc (X.getD z default)).set j v) (hv : v.oneCell' = true) (hfl : flagAt ops rest = false)
  (hk : ∀ w', Hp w0 w' (f a c (X.set z y)) → Holds S sz R C w' (.ops true ops rest k env)) : Holds S sz R C w (.act (.store t (addA (elemAddr a s1 ((z : Nat) : Int)) j) v) ⟨true, ops, rest, none, k, env⟩) :=
 V_st1 (z := ((z : Nat) : Int)) hp y hs1 hi hs hz hj hy hv hfl hk
end
section
variable {S : Setting} {sz : Nat} {R : Value → World → Prop} {C : World → Prop} {w w0 : World} {F : List Res}
theorem R_ret1 [hS : S.Ok] {b o : Nat} {t tb : TypeId} {cs : List Value} {v : Value} (hp : Hp w0 w F) [hb : BkH w0 F b tb cs] (hv : ldV S.tt t cs o = some v) (h : R v w) : Holds S sz R C w (.retc [.at_ t ⟨b, o, none⟩]) :=
 ⟨[v], ⟨ldV_blk hS.tt (hb.h w hp) hv, trivial⟩, h⟩
theorem R_ret2v [hS : S.Ok] {b o : Nat} {t tb : TypeId} {cs : List Value} {v u : Value} (hp : Hp w0 w F) [hb : BkH w0 F b tb cs] (hv : ldV S.tt t cs o = some v) (h : R (.tuple ⟨[v, u]⟩) w) : Holds S sz R C w (.retc [.at_ t ⟨b, o, none⟩, .val u]) :=
 ⟨[v, u], ⟨ldV_blk hS.tt (hb.h w hp) hv, rfl, trivial⟩, h⟩
end
section
variable {S : Setting} {sz : Nat} {R : Value → World → Prop} {C : World → Prop} {w : World} {c : Cont}
theorem gGuard {q b want : Bool} {ops : Array Oper} {o : Oper} {rest : List Oper} {k : List Item} {env : Env} (h : Holds S sz R C w (.guard q b want ops o rest k env)) : Holds S sz R C w (.guard q b want ops o rest k env) := h
theorem gLoad {t : TypeId} {ad : Addr} (h : Holds S sz R C w (.act (.load t ad) c)) : Holds S sz R C w (.act (.load t ad) c) := h
theorem gStore {t : TypeId} {ad : Addr} {v : Value} (h : Holds S sz R C w (.act (.store t ad v) c)) : Holds S sz R C w (.act (.store t ad v) c) := h
theorem gBuild {t : TypeId} {n : Nat} {ps : List (Nat × Value)} (h : Holds S sz R C w (.act (.buildSlice t n ps) c)) : Holds S sz R C w (.act (.buildSlice t n ps) c) := h
theorem gCall {f : FuncId} {args : List Value} (h : Holds S sz R C w (.act (.call f args) c)) : Holds S sz R C w (.act (.call f args) c) := h
theorem gRetc {l : List RV} (h : Holds S sz R C w (.retc l)) : Holds S sz R C w (.retc l) := h
end
theorem R_ret {S : Setting} {sz : Nat} {R : Value → World → Prop} {C : World → Prop} {w : World} {v : Value} (h : R v w) : Holds S sz R C w (.ret v) := h
theorem Ret.yes {P : Program} {f : FuncId} {args : List Value} {w : World} {p : Prop} {d : Decidable p} (h : Ret P f args w fun v w' => v = .bool (@decide p d) ∧ Ext w w') (hp : p) : Ret P f args w fun v w' => v = .bool true ∧ Ext w w' :=
 h.mono fun _ _ ⟨h1, h2⟩ => ⟨by rw [h1, decide_eq_true hp], h2⟩
theorem Ret.no {P : Program} {f : FuncId} {args : List Value} {w : World} {p : Prop} {d : Decidable p} (h : Ret P f args w fun v w' => v = .bool (@decide p d) ∧ Ext w w') (hp : ¬ p) : Ret P f args w fun v w' => v = .bool false ∧ Ext w w' :=
 h.mono fun _ _ ⟨h1, h2⟩ => ⟨by rw [h1, decide_eq_false hp], h2⟩
theorem Ret.tt {P : Program} {f : FuncId} {args : List Value} {w : World} {b : Bool} (h : Ret P f args w fun v w' => v = .bool b ∧ Ext w w') (hp : b = true) : Ret P f args w fun v w' => v = .bool true ∧ Ext w w' := by subst hp; exact h
theorem Ret.ff {P : Program} {f : FuncId} {args : List Value} {w : World} {b : Bool} (h : Ret P f args w fun v w' => v = .bool b ∧ Ext w w') (hp : b = false) : Ret P f args w fun v w' => v = .bool false ∧ Ext w w' := by subst hp; exact h
end Go.Xw
