/- The contracts of the balancer's methods and of neededNodes; each under its stated conditions. -/
import Derived.Test.YtfcafmbcmdeomaaBalA
import Derived.Test.YtfcafmbcmdeomaaConjI
set_option linter.all false
namespace Go.Xw
open Go.RowKit
/-- blocks of the call's own in which a slice reads as X -/
theorem sl_cell {w w' : World} {a : Option Addr} {X : List Int} (h : ∀ k, k ∈ (blk a).toList → w'.heap[k]? = w.heap[k]?) (hs : Sl w a X.length 1 (fL eI X)) : Sl w' a X.length 1 (fL eI X) := by
  refine ⟨hs.1, fun i j hi hj => ?_⟩
  have h1 := hs.2 i j hi hj
  cases a with
  | none => exact absurd rfl (hs.1 (by omega))
  | some ad =>
    have hb := h ad.block (by simp [blk])
    unfold World.cell? at h1 ⊢
    have e : ((elemAddr (some ad) 1 (i : Int)).add j).block = ad.block := by unfold elemAddr; rw [block_of_add, block_of_add]; rfl
    rw [e] at h1 ⊢
    rw [hb]
    exact h1
def rV (a : Option Addr) (X : List Int) : Res where
  ids := (blk a).toList
  P w := Sl w a X.length 1 (fL eI X) ∧ ∀ k, k ∈ (blk a).toList → k < w.heap.size
  st := fun h ⟨h1, h2⟩ => ⟨sl_cell h h1, fun k hk => by
    have h3 := h2 k hk
    have h4 := h k hk
    rw [Array.getElem?_eq_getElem h3] at h4
    exact (Array.getElem?_eq_some_iff.1 h4).1⟩
  lt := fun h => h.2
instance RdH.rV {w0 : World} {L : List Res} {a : Option Addr} {X : List Int} : RdH w0 (rV a X :: L) a 1 eI X := ⟨fun _ hp => hp.g0.1⟩
theorem Hp.toV {w0 w : World} {L : List Res} {e : TypeId} {a : Option Addr} {c : Nat} {X : List Int} (h : Hp w0 w (rO e 1 eI a c X :: L)) : Hp w0 w (Go.Xw.rV a X :: L) :=
  h.upd (R' := Go.Xw.rV a X) ⟨rfl, rfl, rfl, Nat.le_refl _, fun _ _ _ => rfl⟩ ⟨h.sl eI_ok, fun k hk => (Own.lt h.own (by simpa using hk)).2⟩ (fun k hk => .inl hk) (by cases hk : Go.Xw.blk a <;> simp [Go.Xw.rV, hk])
theorem Hp.nilV {w0 w : World} {L : List Res} (h : Hp w0 w L) : Hp w0 w (Go.Xw.rV none [] :: L) :=
  Hp.toV (e := 0) (c := 0) (h.ownN (Ext.refl _) (Own.nil _ _ _ _ _))
theorem sl_drop {w : World} {a : Option Addr} {c k : Nat} {X : List Int} (hc : X.length ≤ c) (hk : k ≤ X.length) (hs : Sl w a X.length 1 (fL eI X)) : Sl w (subA a c 1 k) (X.drop k).length 1 (fL eI (X.drop k)) := by
  unfold subA
  split
  · rename_i hck
    have e : X.drop k = [] := List.drop_eq_nil_of_le (by omega)
    rw [e]
    exact Sl.nil _ _ _ _
  · refine ⟨fun hp hn => ?_, fun i j hi hj => ?_⟩
    · rw [List.length_drop] at hp
      cases a with
      | none => exact hs.1 (by omega) rfl
      | some ad => cases hn
    · rw [List.length_drop] at hi
      have h1 := hs.2 (k + i) j (by omega) hj
      cases a with
      | none => exact absurd rfl (hs.1 (by omega))
      | some ad =>
        have e1 : (elemAddr (Option.map (·.add (k * 1)) (some ad)) 1 (i : Int)).add j = (elemAddr (some ad) 1 ((k + i : Nat) : Int)).add j := by
          unfold elemAddr
          show ((ad.add (k * 1)).add ((i : Int).toNat * 1)).add j = (ad.add (((k + i : Nat) : Int).toNat * 1)).add j
          rw [add_of_add, add_of_add, add_of_add]
          congr 1
          omega
        have e2 : fL eI (X.drop k) i j = fL eI X (k + i) j := by
          unfold fL
          rw [List.getD_eq_getElem?_getD, List.getElem?_drop, ← List.getD_eq_getElem?_getD]
        rw [e1, h1, e2]
theorem sl_take {w : World} {a : Option Addr} {c k : Nat} {X : List Int} (hk : k ≤ X.length) (hs : Sl w a X.length 1 (fL eI X)) : Sl w (subA a c 1 0) (X.take k).length 1 (fL eI (X.take k)) := by
  rw [subA_zero]
  refine ⟨fun hp => hs.1 (by rw [List.length_take] at hp; omega), fun i j hi hj => ?_⟩
  rw [List.length_take] at hi
  have e2 : fL eI (X.take k) i j = fL eI X i j := by
    unfold fL
    rw [List.getD_eq_getElem?_getD, List.getElem?_take, if_pos (by omega), ← List.getD_eq_getElem?_getD]
  rw [e2]
  exact hs.2 i j (by omega) hj
theorem Hp.bk {w0 w : World} {L : List Res} {b : Nat} {t : TypeId} {cs : List Value} (hp : Hp w0 w L) [h : BkH w0 L b t cs] : Bk w b t cs := ⟨h.h w hp⟩
/-- the rest of a slice -/
theorem Hp.dropV {w0 w : World} {L : List Res} {a : Option Addr} {c k : Nat} {X : List Int} (h : Hp w0 w (Go.Xw.rV a X :: L)) (hc : X.length ≤ c) (hk : k ≤ X.length) : Hp w0 w (Go.Xw.rV (subA a c 1 k) (X.drop k) :: L) := by
  have hb : Go.Xw.blk (subA a c 1 k) = Go.Xw.blk a := by
    unfold subA
    split
    · rfl
    · cases a with
      | none => rfl
      | some ad => show some (ad.add (k * 1)).block = some ad.block; rw [block_of_add]
  refine h.upd (R' := Go.Xw.rV (subA a c 1 k) (X.drop k)) ⟨rfl, rfl, rfl, Nat.le_refl _, fun _ _ _ => rfl⟩ ⟨?_, ?_⟩ (fun q hq => .inl (by simp only [Go.Xw.rV, hb] at hq ⊢; exact hq)) (by cases hq : Go.Xw.blk (subA a c 1 k) <;> simp [Go.Xw.rV, hq])
  · exact sl_drop hc hk h.g0.1
  · intro q hq
    rw [hb] at hq
    exact h.g0.2 q hq
end Go.Xw
namespace Go.Proofs
open Go.Xw
set_option maxRecDepth 100000
set_option maxHeartbeats 1000000
attribute [local irreducible] Holds elemAddr
theorem less_h (y : NetA) (B : Nat) (la : Option Addr) (lc m : Nat) (V : List Int) (hm : V.length = m) (x z : Int) (w0 : World) (hB : Bk w0 B 91 (y.cb (.slice la m lc))) (hV : Rd w0 la 1 eI V) (hx : 0 ≤ x ∧ x / 2 < m ∧ x ≤ 1000000) (hz : 0 ≤ z ∧ z / 2 < m ∧ z ≤ 1000000) :
    Ret Try.prog 156 [.pointer (some ⟨B, 0, none⟩), .int .i64 x, .int .i64 z] w0 (fun v w' => v = .bool (decide (ltB V x z)) ∧ Ext w0 w') := by
  subst hm
  have hne : la ≠ none := nn_of (Hp.nil w0) (X := V) (by omega)
  refine enter Try.S156ok _ _ rfl rfl (by show _ ≤ _; simp only [List.length]; decide) (fun C => ?_); have hp := Hp.nil w0; refine h_run rfl ?_; skip
  refine D_draw hp (by kernel_rfl) (by kernel_rfl) rfl rfl ?_; intro w hx hp; have hs := hp; (repeat (refine gLoad ?_; first | refine D_ldB rfl rfl rfl ?_ | refine D_ldE rfl (by omega) (by omega) rfl rfl rfl ?_))
  refine h_cond_dec (fun hne2 => ?_) (fun hne2 => ?_)
  · refine h_cond_t rfl rfl ?_; skip
    refine D_draw hp (by kernel_rfl) (by kernel_rfl) rfl rfl ?_; intro w hx hp; have hs := hp; (repeat (first | (refine gLoad ?_; first | refine D_ldB rfl rfl rfl ?_ | refine D_ldE rfl (by omega) (by omega) rfl rfl rfl ?_) | refine R_ret ?_))
    refine ⟨?_, hp.x⟩
    congr 1
    have hne2 : nl V x ≠ nl V z := hne2
    show decide (nl V x < nl V z) = _
    refine decide_eq_decide.2 ?_
    unfold ltB
    omega
  · refine h_cond_f rfl rfl ?_; (repeat (refine R_ret ?_))
    refine ⟨?_, hp.x⟩
    congr 1
    have hne2 : ¬ nl V x ≠ nl V z := hne2
    refine decide_eq_decide.2 ?_
    unfold ltB
    omega
theorem insert_h (y : NetA) (B : Nat) (la : Option Addr) (lc m : Nat) (V : List Int) (hm : V.length = m) (a : Option Addr) (c n : Nat) (X : List Int) (hn : X.length = n) (x : Int) (w0 : World) (hB : Bk w0 B 91 (y.cb (.slice la m lc))) (hV : Rd w0 la 1 eI V) (hX : Rd w0 a 1 eI X)
    (hx : 0 ≤ x ∧ x / 2 < m ∧ x ≤ 1000000) (hXb : ∀ l, l ∈ X → 0 ≤ l ∧ l / 2 < m ∧ l ≤ 1000000) (hs : SrtB V X) (hc : n ≤ c) (hnb : n ≤ 1000000) :
    Ret Try.prog 89 [.pointer (some ⟨B, 0, none⟩), .slice a n c, .int .i64 x] w0 (fun v w' => ∃ a' c', v = .slice a' (insB V X x).length c' ∧ (insB V X x).length ≤ c' ∧ ((a' = a ∧ insB V X x = X ∧ Ext w0 w') ∨ Hp w0 w' [rO 3 1 eI a' c' (insB V X x)])) := by
  subst hn
  refine enter Try.S89ok _ _ rfl rfl (by show _ ≤ _; simp only [List.length]; decide) (fun C => ?_); have hp := Hp.nil w0; refine h_run rfl ?_; skip
  refine h_loop [0, 1, 2, 7] (fun (i : Nat) => [(0, .pointer (some ⟨B, 0, none⟩)), (1, .slice a X.length c), (2, .int .i64 x), (7, .int .i64 (i : Int))])
    (fun i w' => i ≤ X.length ∧ (∀ j, j < i → ltB V (X.getD j default) x) ∧ Hp w0 w' []) (fun i => X.length - i) 0 rfl ⟨by omega, fun j hj => by omega, hp⟩ ?_
  clear hp
  rintro i w1 ⟨hi, hall, hp⟩ IH C
  have hpre : Rd w0 (subA a c Try.ti3.size 0) 1 eI (X.take i) := ⟨sl_take hi hX.h⟩
  have hsuf : Rd w0 (subA a c Try.ti3.size ((i : Int).toNat)) 1 eI (X.drop i) := ⟨by show Sl w0 (subA a c 1 i) (X.drop i).length 1 _; exact sl_drop hc hi hX.h⟩
  refine h_run rfl ?_; skip
  refine h_guard_by (fun hlt => ?_) (fun hlt => ?_); all_goals (rw [hlt]; (first | replace hlt := of_decide_eq_true hlt | replace hlt := of_decide_eq_false hlt | skip); (repeat (first | (refine gGuard ?_; first | refine h_guard_y rfl nopre rfl ?_ | refine h_guard_n rfl nopre rfl ?_) | (refine gLoad ?_; refine H_ldEN hp rfl (by omega) rfl rfl ?_))))
  · have hlt' : i < X.length := by omega
    have hxi := hXb _ (getD_mem hlt')
    refine h_call rfl Try.func156 (by kernel_rfl) rfl (less_h y B la lc m V hm (X.getD i default) x _ hp.bk hp.rd hxi hx) ?_; rintro _ w ⟨rfl, hx⟩; have hp := hp.ext hx; refine ops_run nopre rfl ?_; skip
    refine h_cond_dec (fun hl => ?_) (fun hl => ?_)
    · refine h_cond_t rfl rfl ?_; skip
      refine IH (i + 1) _ _ _ (by omega) rfl ⟨by omega, fun j hj => ?_, hp⟩
      by_cases hj2 : j < i
      · exact hall j hj2
      · obtain rfl : j = i := by omega
        exact hl
    · have hnl : i < X.length → ¬ ltB V (X.getD i default) x := fun _ => hl
      refine h_cond_f rfl rfl ?_; skip
      refine h_guard_by (fun h5 => ?_) (fun h5 => ?_); all_goals (rw [h5]; (first | replace h5 := of_decide_eq_true h5 | replace h5 := of_decide_eq_false h5 | skip); (repeat (first | (refine gGuard ?_; first | refine h_guard_y rfl nopre rfl ?_ | refine h_guard_n rfl nopre rfl ?_) | (refine gLoad ?_; refine H_ldEN hp rfl (by omega) rfl rfl ?_))))
      · refine h_cond_dec (fun h6 => ?_) (fun h6 => ?_)
        · refine h_cond_t rfl rfl ?_; (repeat (refine R_ret ?_))
          rw [insB_in hlt' h6]
          exact ⟨a, c, rfl, hc, .inl ⟨rfl, rfl, hp.x⟩⟩
        · have hnx : ¬ (i < X.length ∧ X.getD i default = x) := fun hh => h6 hh.2
          refine h_cond_f rfl rfl ?_; (repeat (refine U_litI hp rfl rfl rfl rfl rfl rfl rfl rfl rfl rfl ?_; intro w _ hx hp; refine ops_run nopre rfl ?_))
          refine U_append hp rfl (by rw [List.length_take]; omega) rfl rfl rfl rfl rfl (by decide) rfl (by first | omega | (simp only [List.length_append, List.length_cons, List.length_nil, List.length_take, List.length_drop, List.length_set, List.length_replicate, List.length_map]; omega)) rfl rfl ?_; intro a1 c1 w hp hnil; refine ops_run nopre rfl ?_; (repeat (refine U_litI hp rfl rfl rfl rfl rfl rfl rfl rfl rfl rfl ?_; intro w _ hx hp; refine ops_run nopre rfl ?_))
          refine U_append hp rfl rfl rfl rfl rfl rfl rfl (by decide) rfl (by first | omega | (simp only [List.length_append, List.length_cons, List.length_nil, List.length_take, List.length_drop, List.length_set, List.length_replicate, List.length_map]; omega)) rfl rfl ?_; intro a2 c2 w hp hnil; refine ops_run nopre rfl ?_; skip
          refine U_append hp rfl (by rw [List.length_drop]; omega) rfl rfl rfl rfl rfl (by decide) rfl (by first | omega | (simp only [List.length_append, List.length_cons, List.length_nil, List.length_take, List.length_drop, List.length_set, List.length_replicate, List.length_map]; omega)) rfl rfl ?_; intro a3 c3 w hp hnil; refine ops_run nopre rfl ?_; (repeat (refine R_ret ?_))
          have e : insB V X x = (([] ++ X.take i) ++ [x]) ++ X.drop i := by rw [insB_at hs hi hall (fun hh => hnl hh) hnx]; simp
          rw [e]
          have hcap := hp.f1.own.cap
          exact ⟨a3, c3, rfl, hcap, .inr (hp.f1.tk 1)⟩
      · exact absurd hlt h5
  · have hnl : i < X.length → ¬ ltB V (X.getD i default) x := fun h => by omega
    have hnx : ¬ (i < X.length ∧ X.getD i default = x) := fun hh => by omega
    refine h_cond_f rfl rfl ?_; skip
    refine h_guard_by (fun h5 => ?_) (fun h5 => ?_); all_goals (rw [h5]; (first | replace h5 := of_decide_eq_true h5 | replace h5 := of_decide_eq_false h5 | skip); (repeat (first | (refine gGuard ?_; first | refine h_guard_y rfl nopre rfl ?_ | refine h_guard_n rfl nopre rfl ?_) | (refine gLoad ?_; refine H_ldEN hp rfl (by omega) rfl rfl ?_))))
    · exact absurd h5 hlt
    · refine h_cond_f rfl rfl ?_; (repeat (refine U_litI hp rfl rfl rfl rfl rfl rfl rfl rfl rfl rfl ?_; intro w _ hx hp; refine ops_run nopre rfl ?_))
      refine U_append hp rfl (by rw [List.length_take]; omega) rfl rfl rfl rfl rfl (by decide) rfl (by first | omega | (simp only [List.length_append, List.length_cons, List.length_nil, List.length_take, List.length_drop, List.length_set, List.length_replicate, List.length_map]; omega)) rfl rfl ?_; intro a1 c1 w hp hnil; refine ops_run nopre rfl ?_; (repeat (refine U_litI hp rfl rfl rfl rfl rfl rfl rfl rfl rfl rfl ?_; intro w _ hx hp; refine ops_run nopre rfl ?_))
      refine U_append hp rfl rfl rfl rfl rfl rfl rfl (by decide) rfl (by first | omega | (simp only [List.length_append, List.length_cons, List.length_nil, List.length_take, List.length_drop, List.length_set, List.length_replicate, List.length_map]; omega)) rfl rfl ?_; intro a2 c2 w hp hnil; refine ops_run nopre rfl ?_; skip
      refine U_append hp rfl (by rw [List.length_drop]; omega) rfl rfl rfl rfl rfl (by decide) rfl (by first | omega | (simp only [List.length_append, List.length_cons, List.length_nil, List.length_take, List.length_drop, List.length_set, List.length_replicate, List.length_map]; omega)) rfl rfl ?_; intro a3 c3 w hp hnil; refine ops_run nopre rfl ?_; (repeat (refine R_ret ?_))
      have e : insB V X x = (([] ++ X.take i) ++ [x]) ++ X.drop i := by rw [insB_at hs hi hall (fun hh => hnl hh) hnx]; simp
      rw [e]
      have hcap := hp.f1.own.cap
      exact ⟨a3, c3, rfl, hcap, .inr (hp.f1.tk 1)⟩
end Go.Proofs
