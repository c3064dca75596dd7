/- The contracts of MergeCuts and of the functions behind it, on both sides; under the stated conditions. -/
import Derived.Test.YtbjgekllkfnjnaaBase
import Derived.Test.YtbjgekllkfnjnaaMergeLaw
set_option linter.all false
namespace Go.Proofs
open Go.Xw
set_option maxRecDepth 100000
noncomputable def ascB (xs : List Int) : Bool := @decide (∀ i, 1 ≤ i → i < xs.length → xs.getD (i - 1) default < xs.getD i default) (Classical.propDecidable _)
noncomputable def cutB (xs : List Int) : Bool := @decide ((∀ i, 1 ≤ i → i < xs.length → xs.getD (i - 1) default < xs.getD i default) ∧ ∀ i, i < xs.length → 0 ≤ xs.getD i default) (Classical.propDecidable _)
theorem ascB_iff {xs : List Int} : ascB xs = true ↔ ∀ i, 1 ≤ i → i < xs.length → xs.getD (i - 1) default < xs.getD i default := by simp [ascB]
theorem cutB_iff {xs : List Int} : cutB xs = true ↔ (∀ i, 1 ≤ i → i < xs.length → xs.getD (i - 1) default < xs.getD i default) ∧ ∀ i, i < xs.length → 0 ≤ xs.getD i default := by simp [cutB]
theorem ascB_no {xs : List Int} {i : Nat} (h1 : 1 ≤ i) (h2 : i < xs.length) (h : xs.getD i default ≤ xs.getD (i - 1) default) : ascB xs = false := by
 rw [Bool.eq_false_iff]
 intro ht
 have := ascB_iff.1 ht i h1 h2
 omega
theorem cutB_no {xs : List Int} {i : Nat} (h2 : i < xs.length) (h : xs.getD i default < 0 ∨ (1 ≤ i ∧ xs.getD i default ≤ xs.getD (i - 1) default)) : cutB xs = false := by
 rw [Bool.eq_false_iff]
 intro ht
 have h3 := cutB_iff.1 ht
 rcases h with h | ⟨h1, h⟩
 ·have := h3.2 i h2; omega
 ·have := h3.1 i h1 h2; omega
theorem cutB_asc {xs : List Int} : cutB xs = true ↔ ascB xs = true ∧ ¬ (0 < xs.length ∧ xs.getD 0 default < 0) := by
 rw [cutB_iff, ascB_iff]
 constructor
 ·exact fun ⟨h1, h2⟩ => ⟨h1, fun ⟨h3, h4⟩ => by have := h2 0 h3; omega⟩
 ·intro ⟨h1, h2⟩
  refine ⟨h1, fun i hi => ?_⟩
  induction i with
  | zero => exact Int.not_lt.1 fun h => h2 ⟨hi, h⟩
  | succ i ih =>
   have := ih (by omega)
   have := h1 (i + 1) (by omega) hi
   simp only [Nat.add_sub_cancel] at this
   omega
theorem strictlyAscending_ok (a : Option Addr) (c : Nat) (xs : List Int) (w : World) (ha : Sl w a xs.length 1 (fL eI xs)) (hl : xs.length < 1000000000) :
  Ret Try.prog 96 [.slice a xs.length c] w (fun v w' => v = .bool (ascB xs) ∧ Ext w w') := by
 refine enter Try.S96ok _ _ rfl rfl (by show _ ≤ _; simp only [List.length]; decide) (fun C => ?_); refine h_run rfl ?_; (repeat (first | refine h_guard_y rfl nopre rfl ?_ | refine h_guard_n rfl nopre rfl ?_))
 refine h_loop [0, 3] (fun i : Nat => [(0, .slice a xs.length c), (3, .int .i64 (i : Int))])
  (fun i w' => 1 ≤ i ∧ (∀ j, 1 ≤ j → j < i → j < xs.length → xs.getD (j - 1) default < xs.getD j default) ∧ Ext w w') (fun i => xs.length - i) 1 rfl ⟨by omega, fun j hj => by omega, Ext.refl _⟩ ?_
 rintro i w1 ⟨hi, hall, hx⟩ IH C
 have ha1 := ha.ext hx
 refine h_run rfl ?_; (repeat (first | refine h_guard_y rfl nopre rfl ?_ | refine h_guard_n rfl nopre rfl ?_))
 refine h_cond_dec (fun hlt => ?_) (fun hlt => ?_)
 ·have hlt' : i < xs.length := by omega
  refine h_cond_t rfl rfl ?_; (repeat (first | refine h_guard_y rfl nopre rfl ?_ | refine h_guard_n rfl nopre rfl ?_))
  refine h_drawE (by kernel_rfl) (by kernel_rfl) rfl rfl (fun w2 hd => ?_); (repeat (first | refine h_guard_yd rfl rfl rfl ?_ | refine h_guard_nd rfl rfl rfl ?_))
  refine h_loadd (fun wx hwx => ld_el Try.ttOk rfl (ha1.ext hwx) (by omega) (by omega) (by decide)) rfl rfl ?_; (repeat (first | refine h_guard_yd rfl rfl rfl ?_ | refine h_guard_nd rfl rfl rfl ?_))
  refine h_loadd (fun wx hwx => ld_elN Try.ttOk rfl (ha1.ext hwx) hlt' (by decide)) rfl rfl ?_; (repeat (first | refine h_guard_yd rfl rfl rfl ?_ | refine h_guard_nd rfl rfl rfl ?_))
  have e1 : ((i : Int) - 1).toNat = i - 1 := by omega
  refine h_cond_dec (fun hge => ?_) (fun hge => ?_)
  ·refine h_cond_t rfl rfl ?_; (repeat (first | refine h_guard_y rfl nopre rfl ?_ | refine h_guard_n rfl nopre rfl ?_))
   rw [e1] at hge
   exact ⟨by rw [ascB_no hi hlt' hge], hx.trans hd⟩
  ·refine h_cond_f rfl rfl ?_; (repeat (first | refine h_guard_y rfl nopre rfl ?_ | refine h_guard_n rfl nopre rfl ?_))
   rw [e1] at hge
   refine IH (i + 1) _ _ _ (by omega) rfl ⟨by omega, fun j h1 h2 h3 => ?_, hx.trans hd⟩
   by_cases h4 : j < i
   ·exact hall j h1 h4 h3
   ·obtain rfl : j = i := by omega
    omega
 ·refine h_cond_f rfl rfl ?_; (repeat (first | refine h_guard_y rfl nopre rfl ?_ | refine h_guard_n rfl nopre rfl ?_))
  refine ⟨?_, hx⟩
  rw [ascB_iff.2 fun j h1 h2 => hall j h1 (by omega) h2]
theorem copyInts_ok (a : Option Addr) (c : Nat) (xs : List Int) (w : World) (ha : Sl w a xs.length 1 (fL eI xs)) (hl : xs.length < 1000000000) :
  Ret Try.prog 100 [.slice a xs.length c] w (fun v w' => ∃ a' c', v = .slice a' xs.length c' ∧ Own w' w.heap.size 3 1 eI a' c' xs ∧ Ext w w') := by
 refine enter Try.S100ok _ _ rfl rfl (by show _ ≤ _; simp only [List.length]; decide) (fun C => ?_); refine h_run rfl ?_; (repeat (first | refine h_guard_y rfl nopre rfl ?_ | refine h_guard_n rfl nopre rfl ?_))
 refine h_lit eI [] rfl rfl rfl rfl (s := 1) rfl (by decide) eI_ok rfl rfl rfl (by decide) ?_; intro w1 b1 hb1 hx1 ho1
 refine ops_run nopre rfl ?_; (repeat (first | refine h_guard_y rfl nopre rfl ?_ | refine h_guard_n rfl nopre rfl ?_))
 have hs1 := hx1.size
 refine h_append (enc := eI) xs (rfl) rfl rfl rfl rfl (s := 1) rfl (by decide) rfl eI_ok ho1 ((ha.ext hx1)) (by unfold maxLen; simp only [List.length_cons, List.length_nil, List.length_append, List.length_take, List.length_drop]; omega) (by show _ * 8 ≤ _; simp only [List.length_cons, List.length_nil, List.length_append, List.length_take, List.length_drop]; omega) (by omega) ?_; intro a2 c2 w2 ho2 hg2 hn2
 refine ops_run nopre rfl ?_; (repeat (first | refine h_guard_y rfl nopre rfl ?_ | refine h_guard_n rfl nopre rfl ?_))
 exact ⟨a2, c2, rfl, ho2, hx1.own ho1 (Nat.le_refl _) hg2⟩
theorem insertInt_ok {B : Nat} (a : Option Addr) (c : Nat) (xs : List Int) (x : Int) (w : World) (ha : Own w B 3 1 eI a c xs) (hl : xs.length < 1000000000) (hB : B ≤ w.heap.size) :
  Ret Try.prog 155 [.slice a xs.length c, .int .i64 x] w (fun v w' => ∃ a' c', v = .slice a' (insL xs x).length c' ∧ Own w' B 3 1 eI a' c' (insL xs x) ∧ Ext w w') := by
 have hs := ha.sl eI_ok.len
 have hcap := ha.cap
 refine enter Try.S155ok _ _ rfl rfl (by show _ ≤ _; simp only [List.length]; decide) (fun C => ?_); refine h_run rfl ?_; (repeat (first | refine h_guard_y rfl nopre rfl ?_ | refine h_guard_n rfl nopre rfl ?_))
 refine h_loop [0, 1, 5] (fun i : Nat => [(0, .slice a xs.length c), (1, .int .i64 x), (5, .int .i64 (i : Int))])
  (fun i w' => i ≤ xs.length ∧ (∀ j, j < i → xs.getD j default < x) ∧ w' = w) (fun i => xs.length - i) 0 rfl ⟨by omega, fun j hj => by omega, rfl⟩ ?_
 rintro i w ⟨hi, hall, rfl⟩ IH C
 have hsz := hs
 refine h_run rfl ?_; (repeat (first | refine h_guard_y rfl nopre rfl ?_ | refine h_guard_n rfl nopre rfl ?_))
 refine h_guard_by (fun hlt => ?_) (fun hlt => ?_); all_goals (rw [hlt]; (first | replace hlt := of_decide_eq_true hlt | replace hlt := of_decide_eq_false hlt | skip); repeat (first | refine h_guard_y rfl nopre rfl ?_ | refine h_guard_n rfl nopre rfl ?_))
 ·have hlt' : i < xs.length := by omega
  refine h_load (ld_elN Try.ttOk rfl hs hlt' (by decide)) rfl ?_; (repeat (first | refine h_guard_y rfl nopre rfl ?_ | refine h_guard_n rfl nopre rfl ?_))
  refine h_cond_dec (fun hless => ?_) (fun hless => ?_)
  ·refine h_cond_t rfl rfl ?_; (repeat (first | refine h_guard_y rfl nopre rfl ?_ | refine h_guard_n rfl nopre rfl ?_))
   refine IH (i + 1) _ _ _ (by omega) rfl ⟨by omega, fun j hj => ?_, rfl⟩
   by_cases h : j < i
   ·exact hall j h
   ·obtain rfl : j = i := by omega
    exact hless
  ·refine h_cond_f rfl rfl ?_; (repeat (first | refine h_guard_y rfl nopre rfl ?_ | refine h_guard_n rfl nopre rfl ?_))
   have hat := insL_at hi hall (fun h => hless h.2)
   refine h_guard_by (fun hlt2 => ?_) (fun hlt2 => ?_); all_goals (rw [hlt2]; (first | replace hlt2 := of_decide_eq_true hlt2 | replace hlt2 := of_decide_eq_false hlt2 | skip); repeat (first | refine h_guard_y rfl nopre rfl ?_ | refine h_guard_n rfl nopre rfl ?_))
   ·refine h_load (ld_elN Try.ttOk rfl hs hlt' (by decide)) rfl ?_; (repeat (first | refine h_guard_y rfl nopre rfl ?_ | refine h_guard_n rfl nopre rfl ?_))
    refine h_cond_dec (fun heq => ?_) (fun heq => ?_)
    ·refine h_cond_t rfl rfl ?_; (repeat (first | refine h_guard_y rfl nopre rfl ?_ | refine h_guard_n rfl nopre rfl ?_))
     rw [if_pos ⟨hlt', heq⟩] at hat
     exact ⟨a, c, by rw [hat], by rw [hat]; exact ha, Ext.refl _⟩
    ·refine h_cond_f rfl rfl ?_; (repeat (first | refine h_guard_y rfl nopre rfl ?_ | refine h_guard_n rfl nopre rfl ?_))
     rw [if_neg (fun h => heq h.2)] at hat
     refine h_lit eI [] rfl rfl rfl rfl (s := 1) rfl (by decide) eI_ok rfl rfl rfl (by decide) ?_; intro w1 b1 hb1 hx1 ho1
     refine ops_run nopre rfl ?_; (repeat (first | refine h_guard_y rfl nopre rfl ?_ | refine h_guard_n rfl nopre rfl ?_))
     have hs1 := hx1.size
     refine h_append (enc := eI) (xs.take i) (by rw [List.length_take]; omega) rfl rfl rfl rfl (s := 1) rfl (by decide) rfl eI_ok ho1 ((((ha.ext hx1).sl eI_ok.len).takeL hi hcap)) (by unfold maxLen; simp only [List.length_cons, List.length_nil, List.length_append, List.length_take, List.length_drop]; omega) (by show _ * 8 ≤ _; simp only [List.length_cons, List.length_nil, List.length_append, List.length_take, List.length_drop]; omega) (by omega) ?_; intro a2 c2 w2 ho2 hg2 hn2
     have X := hx1.own ho1 (Nat.le_refl _) hg2
     have hs2 := X.size
     refine ops_run nopre rfl ?_; (repeat (first | refine h_guard_y rfl nopre rfl ?_ | refine h_guard_n rfl nopre rfl ?_))
     refine h_lit eI [x] rfl rfl rfl rfl (s := 1) rfl (by decide) eI_ok rfl rfl rfl (by decide) ?_; intro w3 b3 hb3 hx3 ho3
     have hs3 := hx3.size
     refine ops_run nopre rfl ?_; (repeat (first | refine h_guard_y rfl nopre rfl ?_ | refine h_guard_n rfl nopre rfl ?_))
     refine h_append (enc := eI) [x] (rfl) rfl rfl rfl rfl (s := 1) rfl (by decide) rfl eI_ok (ho2.ext hx3) ((ho3.sl eI_ok.len)) (by unfold maxLen; simp only [List.length_cons, List.length_nil, List.length_append, List.length_take, List.length_drop]; omega) (by show _ * 8 ≤ _; simp only [List.length_cons, List.length_nil, List.length_append, List.length_take, List.length_drop]; omega) (by omega) ?_; intro a4 c4 w4 ho4 hg4 hn4
     have X := (X.trans hx3).own (ho2.ext hx3) (Nat.le_refl _) hg4
     have hs4 := X.size
     refine ops_run nopre rfl ?_; (repeat (first | refine h_guard_y rfl nopre rfl ?_ | refine h_guard_n rfl nopre rfl ?_))
     refine h_append (enc := eI) (xs.drop i) (by rw [List.length_drop]; omega) rfl rfl rfl rfl (s := 1) rfl (by decide) rfl eI_ok ho4 ((((ha.ext X).sl eI_ok.len).dropL hi hcap)) (by unfold maxLen; simp only [List.length_cons, List.length_nil, List.length_append, List.length_take, List.length_drop]; omega) (by show _ * 8 ≤ _; simp only [List.length_cons, List.length_nil, List.length_append, List.length_take, List.length_drop]; omega) (by omega) ?_; intro a5 c5 w5 ho5 hg5 hn5
     have X := X.own ho4 (Nat.le_refl _) hg5
     refine ops_run nopre rfl ?_; (repeat (first | refine h_guard_y rfl nopre rfl ?_ | refine h_guard_n rfl nopre rfl ?_))
     have e5 : [] ++ xs.take i ++ [x] ++ xs.drop i = insL xs x := by rw [hat]; simp
     rw [e5] at ho5
     exact ⟨a5, c5, by rw [← e5], ho5.mono hB, X⟩
   ·exact absurd hlt hlt2
 ·obtain rfl : i = xs.length := by omega
  have hat := insL_at hi hall (fun h => by omega)
  rw [if_neg (by omega)] at hat
  refine h_cond_f rfl rfl ?_; (repeat (first | refine h_guard_y rfl nopre rfl ?_ | refine h_guard_n rfl nopre rfl ?_))
  refine h_guard_by (fun hlt2 => ?_) (fun hlt2 => ?_); all_goals (rw [hlt2]; (first | replace hlt2 := of_decide_eq_true hlt2 | replace hlt2 := of_decide_eq_false hlt2 | skip); repeat (first | refine h_guard_y rfl nopre rfl ?_ | refine h_guard_n rfl nopre rfl ?_))
  ·exact absurd hlt2 hlt
  ·refine h_cond_f rfl rfl ?_; (repeat (first | refine h_guard_y rfl nopre rfl ?_ | refine h_guard_n rfl nopre rfl ?_))
   refine h_lit eI [] rfl rfl rfl rfl (s := 1) rfl (by decide) eI_ok rfl rfl rfl (by decide) ?_; intro w1 b1 hb1 hx1 ho1
   refine ops_run nopre rfl ?_; (repeat (first | refine h_guard_y rfl nopre rfl ?_ | refine h_guard_n rfl nopre rfl ?_))
   have hs1 := hx1.size
   refine h_append (enc := eI) (xs.take xs.length) (by rw [List.length_take]; omega) rfl rfl rfl rfl (s := 1) rfl (by decide) rfl eI_ok ho1 ((((ha.ext hx1).sl eI_ok.len).takeL hi hcap)) (by unfold maxLen; simp only [List.length_cons, List.length_nil, List.length_append, List.length_take, List.length_drop]; omega) (by show _ * 8 ≤ _; simp only [List.length_cons, List.length_nil, List.length_append, List.length_take, List.length_drop]; omega) (by omega) ?_; intro a2 c2 w2 ho2 hg2 hn2
   have X := hx1.own ho1 (Nat.le_refl _) hg2
   have hs2 := X.size
   refine ops_run nopre rfl ?_; (repeat (first | refine h_guard_y rfl nopre rfl ?_ | refine h_guard_n rfl nopre rfl ?_))
   refine h_lit eI [x] rfl rfl rfl rfl (s := 1) rfl (by decide) eI_ok rfl rfl rfl (by decide) ?_; intro w3 b3 hb3 hx3 ho3
   have hs3 := hx3.size
   refine ops_run nopre rfl ?_; (repeat (first | refine h_guard_y rfl nopre rfl ?_ | refine h_guard_n rfl nopre rfl ?_))
   refine h_append (enc := eI) [x] (rfl) rfl rfl rfl rfl (s := 1) rfl (by decide) rfl eI_ok (ho2.ext hx3) ((ho3.sl eI_ok.len)) (by unfold maxLen; simp only [List.length_cons, List.length_nil, List.length_append, List.length_take, List.length_drop]; omega) (by show _ * 8 ≤ _; simp only [List.length_cons, List.length_nil, List.length_append, List.length_take, List.length_drop]; omega) (by omega) ?_; intro a4 c4 w4 ho4 hg4 hn4
   have X := (X.trans hx3).own (ho2.ext hx3) (Nat.le_refl _) hg4
   have hs4 := X.size
   refine ops_run nopre rfl ?_; (repeat (first | refine h_guard_y rfl nopre rfl ?_ | refine h_guard_n rfl nopre rfl ?_))
   refine h_append (enc := eI) (xs.drop xs.length) (by rw [List.length_drop]; omega) rfl rfl rfl rfl (s := 1) rfl (by decide) rfl eI_ok ho4 ((((ha.ext X).sl eI_ok.len).dropL hi hcap)) (by unfold maxLen; simp only [List.length_cons, List.length_nil, List.length_append, List.length_take, List.length_drop]; omega) (by show _ * 8 ≤ _; simp only [List.length_cons, List.length_nil, List.length_append, List.length_take, List.length_drop]; omega) (by omega) ?_; intro a5 c5 w5 ho5 hg5 hn5
   have X := X.own ho4 (Nat.le_refl _) hg5
   refine ops_run nopre rfl ?_; (repeat (first | refine h_guard_y rfl nopre rfl ?_ | refine h_guard_n rfl nopre rfl ?_))
   have e5 : [] ++ xs.take xs.length ++ [x] ++ xs.drop xs.length = insL xs x := by rw [hat]; simp
   rw [e5] at ho5
   exact ⟨a5, c5, by rw [← e5], ho5.mono hB, X⟩
def fi (xs ys : List Int) : Nat → List Int
 | 0 => xs
 | j + 1 => insL (fi xs ys j) (ys.getD j default)
theorem fi_len (xs ys : List Int) (j : Nat) : (fi xs ys j).length ≤ xs.length + j := by
 induction j with
 | zero => exact Nat.le_refl _
 | succ j ih =>
  have := insL_len (fi xs ys j) (ys.getD j default)
  simp only [fi]
  omega
theorem fi_take (xs ys : List Int) {j : Nat} (h : j ≤ ys.length) : fi xs ys j = (ys.take j).foldl insL xs := by
 induction j with
 | zero => rfl
 | succ j ih =>
  simp only [fi]
  rw [ih (by omega), List.take_succ_eq_append_getElem (by omega), List.foldl_append]
  simp [List.getD_eq_getElem?_getD, show j < ys.length by omega]
theorem fi_all {xs ys : List Int} (hx : cutB xs = true) (hy : cutB ys = true) : fi xs ys ys.length = mrg xs ys := by
 rw [fi_take xs ys (Nat.le_refl _), List.take_length]
 exact fold_mrg _ (Nat.le_refl _) (asc_get.1 (cutB_iff.1 hx).1) (asc_get.1 (cutB_iff.1 hy).1)
noncomputable def mergeOk (xs ys : List Int) : Bool := cutB xs && cutB ys && decide ((mrg xs ys).length ≤ 4)
noncomputable def mergeL (xs ys : List Int) : List Int := if mergeOk xs ys = true then mrg xs ys else []
theorem merge_no {xs ys : List Int} (h : mergeOk xs ys = false) : mergeL xs ys = [] := by unfold mergeL; rw [h]; rfl
theorem merge_yes {xs ys : List Int} (h : mergeOk xs ys = true) : mergeL xs ys = mrg xs ys := by unfold mergeL; rw [h]; rfl
theorem mergeL_len (xs ys : List Int) : (mergeL xs ys).length ≤ 4 := by
 cases h : mergeOk xs ys with
 | false => rw [merge_no h]; decide
 | true =>
  rw [merge_yes h]
  simp [mergeOk] at h
  exact h.2
def MergeQ (e : TypeId) (xs ys : List Int) (w : World) (v : Value) (w' : World) : Prop :=
 ∃ a' c', v = .tuple ⟨[.slice a' (mergeL xs ys).length c', .bool (mergeOk xs ys)]⟩ ∧ Own w' w.heap.size e 1 eI a' c' (mergeL xs ys) ∧ Ext w w'
theorem MergeQ.no {e : TypeId} {xs ys : List Int} {w w' : World} (h : mergeOk xs ys = false) (hx : Ext w w') : MergeQ e xs ys w (.tuple ⟨[.slice none 0 0, .bool false]⟩) w' :=
 ⟨none, 0, by rw [merge_no h, h]; rfl, by rw [merge_no h]; exact Own.nil _ _ _ _ _, hx⟩
theorem implMergeCuts_ok (a b : Option Addr) (ca cb : Nat) (xs ys : List Int) (w : World) (ha : Sl w a xs.length 1 (fL eI xs)) (hb : Sl w b ys.length 1 (fL eI ys)) (hl : xs.length < 100000000) (hl2 : ys.length < 100000000) :
  Ret Try.prog 143 [.slice a xs.length ca, .slice b ys.length cb] w (fun v w' => MergeQ 3 xs ys w v w') := by
 refine enter Try.S143ok _ _ rfl rfl (by show _ ≤ _; simp only [List.length]; decide) (fun C => ?_); refine h_run rfl ?_; (repeat (first | refine h_guard_y rfl nopre rfl ?_ | refine h_guard_n rfl nopre rfl ?_))
 refine h_call rfl Try.func96 (by kernel_rfl) rfl (strictlyAscending_ok _ _ _ _ ha (by omega)) ?_
 rintro _ w1 ⟨rfl, hx1⟩
 refine ops_run nopre rfl ?_; (repeat (first | refine h_guard_y rfl nopre rfl ?_ | refine h_guard_n rfl nopre rfl ?_))
 have X := hx1
 cases hA : ascB xs
 ·have hno : mergeOk xs ys = false := by
   have : cutB xs = false := by rw [Bool.eq_false_iff]; intro h; have := cutB_asc.1 h; simp [hA] at this
   simp [mergeOk, this]
  (repeat (first | refine h_guard_y rfl nopre rfl ?_ | refine h_guard_n rfl nopre rfl ?_))
  refine h_cond_t rfl rfl ?_; (repeat (first | refine h_guard_y rfl nopre rfl ?_ | refine h_guard_n rfl nopre rfl ?_))
  exact MergeQ.no hno X
 ·(repeat (first | refine h_guard_y rfl nopre rfl ?_ | refine h_guard_n rfl nopre rfl ?_))
  refine h_call rfl Try.func96 (by kernel_rfl) rfl (strictlyAscending_ok _ _ _ _ (hb.ext X) (by omega)) ?_
  rintro _ w2 ⟨rfl, hx2⟩
  refine ops_run nopre rfl ?_; (repeat (first | refine h_guard_y rfl nopre rfl ?_ | refine h_guard_n rfl nopre rfl ?_))
  have X := X.trans hx2
  cases hB : ascB ys
  ·have hno : mergeOk xs ys = false := by
    have : cutB ys = false := by rw [Bool.eq_false_iff]; intro h; have := cutB_asc.1 h; simp [hB] at this
    simp [mergeOk, this]
   (repeat (first | refine h_guard_y rfl nopre rfl ?_ | refine h_guard_n rfl nopre rfl ?_))
   refine h_cond_t rfl rfl ?_; (repeat (first | refine h_guard_y rfl nopre rfl ?_ | refine h_guard_n rfl nopre rfl ?_))
   exact MergeQ.no hno X
  ·(repeat (first | refine h_guard_y rfl nopre rfl ?_ | refine h_guard_n rfl nopre rfl ?_))
   refine h_guard_by (fun hla => ?_) (fun hla => ?_); all_goals (rw [hla]; (first | replace hla := of_decide_eq_true hla | replace hla := of_decide_eq_false hla | skip); repeat (first | refine h_guard_y rfl nopre rfl ?_ | refine h_guard_n rfl nopre rfl ?_))
   ·refine h_load (ld_el Try.ttOk rfl (ha.ext X) (by omega) (by omega) (by decide)) rfl ?_; (repeat (first | refine h_guard_y rfl nopre rfl ?_ | refine h_guard_n rfl nopre rfl ?_))
    refine h_guard_by (fun hnega => ?_) (fun hnega => ?_); all_goals (rw [hnega]; (first | replace hnega := of_decide_eq_true hnega | replace hnega := of_decide_eq_false hnega | skip); repeat (first | refine h_guard_y rfl nopre rfl ?_ | refine h_guard_n rfl nopre rfl ?_))
    ·have hno : mergeOk xs ys = false := by
      have : cutB xs = false := cutB_no (i := 0) (by omega) (.inl hnega)
      simp [mergeOk, this]
     refine h_cond_t rfl rfl ?_; (repeat (first | refine h_guard_y rfl nopre rfl ?_ | refine h_guard_n rfl nopre rfl ?_))
     exact MergeQ.no hno X
    ·have hna : ¬ (0 < xs.length ∧ xs.getD 0 default < 0) := fun h => hnega h.2
     refine h_guard_by (fun hlb => ?_) (fun hlb => ?_); all_goals (rw [hlb]; (first | replace hlb := of_decide_eq_true hlb | replace hlb := of_decide_eq_false hlb | skip); repeat (first | refine h_guard_y rfl nopre rfl ?_ | refine h_guard_n rfl nopre rfl ?_))
     ·refine h_load (ld_el Try.ttOk rfl (hb.ext X) (by omega) (by omega) (by decide)) rfl ?_; (repeat (first | refine h_guard_y rfl nopre rfl ?_ | refine h_guard_n rfl nopre rfl ?_))
      refine h_cond_dec (fun hnegb => ?_) (fun hnegb => ?_)
      ·have hno : mergeOk xs ys = false := by
        have : cutB ys = false := cutB_no (i := 0) (by omega) (.inl hnegb)
        simp [mergeOk, this]
       refine h_cond_t rfl rfl ?_; (repeat (first | refine h_guard_y rfl nopre rfl ?_ | refine h_guard_n rfl nopre rfl ?_))
       exact MergeQ.no hno X
      ·have hnb : ¬ (0 < ys.length ∧ ys.getD 0 default < 0) := fun h => hnegb h.2
       have hca : cutB xs = true := cutB_asc.2 ⟨hA, hna⟩
       have hcb : cutB ys = true := cutB_asc.2 ⟨hB, hnb⟩
       have hfi := fi_all hca hcb
       refine h_cond_f rfl rfl ?_; (repeat (first | refine h_guard_y rfl nopre rfl ?_ | refine h_guard_n rfl nopre rfl ?_))
       refine h_call rfl Try.func100 (by kernel_rfl) rfl (copyInts_ok _ _ _ _ (ha.ext X) (by omega)) ?_
       rintro _ w3 ⟨a3, c3, rfl, ho3, hx3⟩
       have hB0 := X.size
       have X := X.trans hx3
       refine ops_run nopre rfl ?_; (repeat (first | refine h_guard_y rfl nopre rfl ?_ | refine h_guard_n rfl nopre rfl ?_))
       refine h_loop3 [6, 41, 42, 43] (fun (j : Nat) (a6 : Option Addr) (c6 : Nat) => [(6, .slice a6 (fi xs ys j).length c6), (41, .slice b ys.length cb), (42, .int .i64 (ys.length : Int)), (43, .int .i64 (j : Int))])
        (fun j a6 c6 w' => j ≤ ys.length ∧ Own w' w.heap.size 3 1 eI a6 c6 (fi xs ys j) ∧ Ext w w') (fun j _ _ => ys.length - j) 0 a3 c3 rfl ⟨by omega, ho3.mono hB0, X⟩ ?_
       rintro j a6 c6 w4 ⟨hj, ho, X⟩ IH C
       have hb4 := hb.ext X
       have hfl := fi_len xs ys j
       have hsz := X.size
       refine h_run rfl ?_; (repeat (first | refine h_guard_y rfl nopre rfl ?_ | refine h_guard_n rfl nopre rfl ?_))
       refine h_cond_dec (fun hlt => ?_) (fun hlt => ?_)
       ·have hlt' : j < ys.length := by omega
        refine h_cond_t rfl rfl ?_; (repeat (first | refine h_guard_y rfl nopre rfl ?_ | refine h_guard_n rfl nopre rfl ?_))
        refine h_load (ld_elN Try.ttOk rfl hb4 hlt' (by decide)) rfl ?_; (repeat (first | refine h_guard_y rfl nopre rfl ?_ | refine h_guard_n rfl nopre rfl ?_))
        refine h_call rfl Try.func155 (by kernel_rfl) rfl (insertInt_ok _ _ _ _ _ ho (by omega) hsz) ?_
        rintro _ w5 ⟨a5, c5, rfl, ho5, hx5⟩
        refine ops_run nopre rfl ?_; (repeat (first | refine h_guard_y rfl nopre rfl ?_ | refine h_guard_n rfl nopre rfl ?_))
        exact IH (j + 1) a5 c5 _ _ _ (by omega) rfl ⟨by omega, ho5, X.trans hx5⟩
       ·obtain rfl : j = ys.length := by omega
        rw [hfi] at ho ⊢
        refine h_cond_f rfl rfl ?_; (repeat (first | refine h_guard_y rfl nopre rfl ?_ | refine h_guard_n rfl nopre rfl ?_))
        refine h_cond_dec (fun hbig => ?_) (fun hbig => ?_)
        ·refine h_cond_t rfl rfl ?_; (repeat (first | refine h_guard_y rfl nopre rfl ?_ | refine h_guard_n rfl nopre rfl ?_))
         exact MergeQ.no (by simp [mergeOk]; omega) X
        ·refine h_cond_f rfl rfl ?_; (repeat (first | refine h_guard_y rfl nopre rfl ?_ | refine h_guard_n rfl nopre rfl ?_))
         have hok : mergeOk xs ys = true := by simp [mergeOk, hca, hcb]; omega
         exact ⟨a6, c6, by rw [merge_yes hok, hok], by rw [merge_yes hok]; exact ho, X⟩
     ·have hnb : ¬ (0 < ys.length ∧ ys.getD 0 default < 0) := fun h => by omega
      have hca : cutB xs = true := cutB_asc.2 ⟨hA, hna⟩
      have hcb : cutB ys = true := cutB_asc.2 ⟨hB, hnb⟩
      have hfi := fi_all hca hcb
      refine h_cond_f rfl rfl ?_; (repeat (first | refine h_guard_y rfl nopre rfl ?_ | refine h_guard_n rfl nopre rfl ?_))
      refine h_call rfl Try.func100 (by kernel_rfl) rfl (copyInts_ok _ _ _ _ (ha.ext X) (by omega)) ?_
      rintro _ w3 ⟨a3, c3, rfl, ho3, hx3⟩
      have hB0 := X.size
      have X := X.trans hx3
      refine ops_run nopre rfl ?_; (repeat (first | refine h_guard_y rfl nopre rfl ?_ | refine h_guard_n rfl nopre rfl ?_))
      refine h_loop3 [6, 41, 42, 43] (fun (j : Nat) (a6 : Option Addr) (c6 : Nat) => [(6, .slice a6 (fi xs ys j).length c6), (41, .slice b ys.length cb), (42, .int .i64 (ys.length : Int)), (43, .int .i64 (j : Int))])
       (fun j a6 c6 w' => j ≤ ys.length ∧ Own w' w.heap.size 3 1 eI a6 c6 (fi xs ys j) ∧ Ext w w') (fun j _ _ => ys.length - j) 0 a3 c3 rfl ⟨by omega, ho3.mono hB0, X⟩ ?_
      rintro j a6 c6 w4 ⟨hj, ho, X⟩ IH C
      have hb4 := hb.ext X
      have hfl := fi_len xs ys j
      have hsz := X.size
      refine h_run rfl ?_; (repeat (first | refine h_guard_y rfl nopre rfl ?_ | refine h_guard_n rfl nopre rfl ?_))
      refine h_cond_dec (fun hlt => ?_) (fun hlt => ?_)
      ·have hlt' : j < ys.length := by omega
       refine h_cond_t rfl rfl ?_; (repeat (first | refine h_guard_y rfl nopre rfl ?_ | refine h_guard_n rfl nopre rfl ?_))
       refine h_load (ld_elN Try.ttOk rfl hb4 hlt' (by decide)) rfl ?_; (repeat (first | refine h_guard_y rfl nopre rfl ?_ | refine h_guard_n rfl nopre rfl ?_))
       refine h_call rfl Try.func155 (by kernel_rfl) rfl (insertInt_ok _ _ _ _ _ ho (by omega) hsz) ?_
       rintro _ w5 ⟨a5, c5, rfl, ho5, hx5⟩
       refine ops_run nopre rfl ?_; (repeat (first | refine h_guard_y rfl nopre rfl ?_ | refine h_guard_n rfl nopre rfl ?_))
       exact IH (j + 1) a5 c5 _ _ _ (by omega) rfl ⟨by omega, ho5, X.trans hx5⟩
      ·obtain rfl : j = ys.length := by omega
       rw [hfi] at ho ⊢
       refine h_cond_f rfl rfl ?_; (repeat (first | refine h_guard_y rfl nopre rfl ?_ | refine h_guard_n rfl nopre rfl ?_))
       refine h_cond_dec (fun hbig => ?_) (fun hbig => ?_)
       ·refine h_cond_t rfl rfl ?_; (repeat (first | refine h_guard_y rfl nopre rfl ?_ | refine h_guard_n rfl nopre rfl ?_))
        exact MergeQ.no (by simp [mergeOk]; omega) X
       ·refine h_cond_f rfl rfl ?_; (repeat (first | refine h_guard_y rfl nopre rfl ?_ | refine h_guard_n rfl nopre rfl ?_))
        have hok : mergeOk xs ys = true := by simp [mergeOk, hca, hcb]; omega
        exact ⟨a6, c6, by rw [merge_yes hok, hok], by rw [merge_yes hok]; exact ho, X⟩
   ·have hna : ¬ (0 < xs.length ∧ xs.getD 0 default < 0) := fun h => by omega
    refine h_guard_by (fun hlb => ?_) (fun hlb => ?_); all_goals (rw [hlb]; (first | replace hlb := of_decide_eq_true hlb | replace hlb := of_decide_eq_false hlb | skip); repeat (first | refine h_guard_y rfl nopre rfl ?_ | refine h_guard_n rfl nopre rfl ?_))
    ·refine h_load (ld_el Try.ttOk rfl (hb.ext X) (by omega) (by omega) (by decide)) rfl ?_; (repeat (first | refine h_guard_y rfl nopre rfl ?_ | refine h_guard_n rfl nopre rfl ?_))
     refine h_cond_dec (fun hnegb => ?_) (fun hnegb => ?_)
     ·have hno : mergeOk xs ys = false := by
       have : cutB ys = false := cutB_no (i := 0) (by omega) (.inl hnegb)
       simp [mergeOk, this]
      refine h_cond_t rfl rfl ?_; (repeat (first | refine h_guard_y rfl nopre rfl ?_ | refine h_guard_n rfl nopre rfl ?_))
      exact MergeQ.no hno X
     ·have hnb : ¬ (0 < ys.length ∧ ys.getD 0 default < 0) := fun h => hnegb h.2
      have hca : cutB xs = true := cutB_asc.2 ⟨hA, hna⟩
      have hcb : cutB ys = true := cutB_asc.2 ⟨hB, hnb⟩
      have hfi := fi_all hca hcb
      refine h_cond_f rfl rfl ?_; (repeat (first | refine h_guard_y rfl nopre rfl ?_ | refine h_guard_n rfl nopre rfl ?_))
      refine h_call rfl Try.func100 (by kernel_rfl) rfl (copyInts_ok _ _ _ _ (ha.ext X) (by omega)) ?_
      rintro _ w3 ⟨a3, c3, rfl, ho3, hx3⟩
      have hB0 := X.size
      have X := X.trans hx3
      refine ops_run nopre rfl ?_; (repeat (first | refine h_guard_y rfl nopre rfl ?_ | refine h_guard_n rfl nopre rfl ?_))
      refine h_loop3 [6, 41, 42, 43] (fun (j : Nat) (a6 : Option Addr) (c6 : Nat) => [(6, .slice a6 (fi xs ys j).length c6), (41, .slice b ys.length cb), (42, .int .i64 (ys.length : Int)), (43, .int .i64 (j : Int))])
       (fun j a6 c6 w' => j ≤ ys.length ∧ Own w' w.heap.size 3 1 eI a6 c6 (fi xs ys j) ∧ Ext w w') (fun j _ _ => ys.length - j) 0 a3 c3 rfl ⟨by omega, ho3.mono hB0, X⟩ ?_
      rintro j a6 c6 w4 ⟨hj, ho, X⟩ IH C
      have hb4 := hb.ext X
      have hfl := fi_len xs ys j
      have hsz := X.size
      refine h_run rfl ?_; (repeat (first | refine h_guard_y rfl nopre rfl ?_ | refine h_guard_n rfl nopre rfl ?_))
      refine h_cond_dec (fun hlt => ?_) (fun hlt => ?_)
      ·have hlt' : j < ys.length := by omega
       refine h_cond_t rfl rfl ?_; (repeat (first | refine h_guard_y rfl nopre rfl ?_ | refine h_guard_n rfl nopre rfl ?_))
       refine h_load (ld_elN Try.ttOk rfl hb4 hlt' (by decide)) rfl ?_; (repeat (first | refine h_guard_y rfl nopre rfl ?_ | refine h_guard_n rfl nopre rfl ?_))
       refine h_call rfl Try.func155 (by kernel_rfl) rfl (insertInt_ok _ _ _ _ _ ho (by omega) hsz) ?_
       rintro _ w5 ⟨a5, c5, rfl, ho5, hx5⟩
       refine ops_run nopre rfl ?_; (repeat (first | refine h_guard_y rfl nopre rfl ?_ | refine h_guard_n rfl nopre rfl ?_))
       exact IH (j + 1) a5 c5 _ _ _ (by omega) rfl ⟨by omega, ho5, X.trans hx5⟩
      ·obtain rfl : j = ys.length := by omega
       rw [hfi] at ho ⊢
       refine h_cond_f rfl rfl ?_; (repeat (first | refine h_guard_y rfl nopre rfl ?_ | refine h_guard_n rfl nopre rfl ?_))
       refine h_cond_dec (fun hbig => ?_) (fun hbig => ?_)
       ·refine h_cond_t rfl rfl ?_; (repeat (first | refine h_guard_y rfl nopre rfl ?_ | refine h_guard_n rfl nopre rfl ?_))
        exact MergeQ.no (by simp [mergeOk]; omega) X
       ·refine h_cond_f rfl rfl ?_; (repeat (first | refine h_guard_y rfl nopre rfl ?_ | refine h_guard_n rfl nopre rfl ?_))
        have hok : mergeOk xs ys = true := by simp [mergeOk, hca, hcb]; omega
        exact ⟨a6, c6, by rw [merge_yes hok, hok], by rw [merge_yes hok]; exact ho, X⟩
    ·have hnb : ¬ (0 < ys.length ∧ ys.getD 0 default < 0) := fun h => by omega
     have hca : cutB xs = true := cutB_asc.2 ⟨hA, hna⟩
     have hcb : cutB ys = true := cutB_asc.2 ⟨hB, hnb⟩
     have hfi := fi_all hca hcb
     refine h_cond_f rfl rfl ?_; (repeat (first | refine h_guard_y rfl nopre rfl ?_ | refine h_guard_n rfl nopre rfl ?_))
     refine h_call rfl Try.func100 (by kernel_rfl) rfl (copyInts_ok _ _ _ _ (ha.ext X) (by omega)) ?_
     rintro _ w3 ⟨a3, c3, rfl, ho3, hx3⟩
     have hB0 := X.size
     have X := X.trans hx3
     refine ops_run nopre rfl ?_; (repeat (first | refine h_guard_y rfl nopre rfl ?_ | refine h_guard_n rfl nopre rfl ?_))
     refine h_loop3 [6, 41, 42, 43] (fun (j : Nat) (a6 : Option Addr) (c6 : Nat) => [(6, .slice a6 (fi xs ys j).length c6), (41, .slice b ys.length cb), (42, .int .i64 (ys.length : Int)), (43, .int .i64 (j : Int))])
      (fun j a6 c6 w' => j ≤ ys.length ∧ Own w' w.heap.size 3 1 eI a6 c6 (fi xs ys j) ∧ Ext w w') (fun j _ _ => ys.length - j) 0 a3 c3 rfl ⟨by omega, ho3.mono hB0, X⟩ ?_
     rintro j a6 c6 w4 ⟨hj, ho, X⟩ IH C
     have hb4 := hb.ext X
     have hfl := fi_len xs ys j
     have hsz := X.size
     refine h_run rfl ?_; (repeat (first | refine h_guard_y rfl nopre rfl ?_ | refine h_guard_n rfl nopre rfl ?_))
     refine h_cond_dec (fun hlt => ?_) (fun hlt => ?_)
     ·have hlt' : j < ys.length := by omega
      refine h_cond_t rfl rfl ?_; (repeat (first | refine h_guard_y rfl nopre rfl ?_ | refine h_guard_n rfl nopre rfl ?_))
      refine h_load (ld_elN Try.ttOk rfl hb4 hlt' (by decide)) rfl ?_; (repeat (first | refine h_guard_y rfl nopre rfl ?_ | refine h_guard_n rfl nopre rfl ?_))
      refine h_call rfl Try.func155 (by kernel_rfl) rfl (insertInt_ok _ _ _ _ _ ho (by omega) hsz) ?_
      rintro _ w5 ⟨a5, c5, rfl, ho5, hx5⟩
      refine ops_run nopre rfl ?_; (repeat (first | refine h_guard_y rfl nopre rfl ?_ | refine h_guard_n rfl nopre rfl ?_))
      exact IH (j + 1) a5 c5 _ _ _ (by omega) rfl ⟨by omega, ho5, X.trans hx5⟩
     ·obtain rfl : j = ys.length := by omega
      rw [hfi] at ho ⊢
      refine h_cond_f rfl rfl ?_; (repeat (first | refine h_guard_y rfl nopre rfl ?_ | refine h_guard_n rfl nopre rfl ?_))
      refine h_cond_dec (fun hbig => ?_) (fun hbig => ?_)
      ·refine h_cond_t rfl rfl ?_; (repeat (first | refine h_guard_y rfl nopre rfl ?_ | refine h_guard_n rfl nopre rfl ?_))
       exact MergeQ.no (by simp [mergeOk]; omega) X
      ·refine h_cond_f rfl rfl ?_; (repeat (first | refine h_guard_y rfl nopre rfl ?_ | refine h_guard_n rfl nopre rfl ?_))
       have hok : mergeOk xs ys = true := by simp [mergeOk, hca, hcb]; omega
       exact ⟨a6, c6, by rw [merge_yes hok, hok], by rw [merge_yes hok]; exact ho, X⟩
end Go.Proofs
