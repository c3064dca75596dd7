/- The contracts of ClassesHold and RegisterClasses of the reference; each under its stated conditions. -/
import Derived.Test.YtbjgekllkfnjnaaClsI
set_option linter.all false
namespace Go.Proofs
open Go.Xw
set_option maxRecDepth 100000
set_option maxHeartbeats 1500000
attribute [local irreducible] Holds elemAddr
theorem l07Bit_c (b : Bool) (w : World) : Ret Try.prog 153 [.bool b] w (fun v w' => v = .int .i64 (if b = true then 1 else 0) ∧ Ext w w') := by
  have hp := Hp.nil w
  refine enter Try.S153ok _ _ rfl rfl (by show _ ≤ _; simp only [List.length]; decide) (fun C => ?_)
  cases b with
  | true =>
    refine h_run rfl ?_; skip
    refine h_cond_t rfl rfl ?_; (repeat (refine R_ret ?_))
    exact ⟨rfl, hp.x⟩
  | false =>
    refine h_run rfl ?_; skip
    refine h_cond_f rfl rfl ?_; (repeat (refine R_ret ?_))
    exact ⟨rfl, hp.x⟩
theorem l16Count_h (a : Option Addr) (c : Nat) (cl : List Int) (w0 : World) (hR : Rd w0 a 1 eI cl) (hL : cl.length ≤ 1048576) :
    Ret Try.prog 132 [.slice a cl.length c] w0 (fun v w => v = .int .i64 (clNL cl : Nat) ∧ Ext w0 w) := by
  refine enter Try.S132ok _ _ rfl rfl (by show _ ≤ _; simp only [List.length]; decide) (fun C => ?_); have hp := Hp.nil w0; refine h_run rfl ?_; skip
  refine h_loop [0, 3, 4] (fun (i : Nat) => [(0, .slice a cl.length c), (3, .int .i64 ((clNTo cl i : Nat) : Int)), (4, .int .i64 (i : Int))])
    (fun i w' => i ≤ cl.length ∧ Hp w0 w' []) (fun i => cl.length - i) 0 rfl ⟨by omega, hp⟩ ?_
  rintro i w1 ⟨hi, hp⟩ IH C
  have hle := clNTo_le cl i
  refine h_run rfl ?_; skip
  refine h_cond_dec (fun hlt => ?_) (fun hlt => ?_)
  · have hlt' : i < cl.length := by omega
    refine h_cond_t rfl rfl ?_; (repeat (refine H_ldEN hp rfl (by omega) rfl rfl ?_))
    refine h_call rfl Try.func153 (by kernel_rfl) rfl (l07Bit_c _ _) ?_; rintro _ w ⟨rfl, hx⟩; have hp := hp.ext hx; refine ops_run nopre rfl ?_; skip
    have e : ((clNTo cl i : Nat) : Int) + (if decide (cl.getD i default = (i : Int)) = true then 1 else 0) = ((clNTo cl (i + 1) : Nat) : Int) := by
      rw [clNTo]
      by_cases h : cl.getD i default = (i : Int)
      · rw [if_pos h, if_pos (by simpa using h)]; omega
      · rw [if_neg h, if_neg (by simpa using h)]; omega
    refine IH (i + 1) _ _ _ (by omega) (by rw [← e]; rfl) ⟨by omega, hp⟩
  · refine h_cond_f rfl rfl ?_; (repeat (refine R_ret ?_))
    obtain rfl : i = cl.length := by omega
    exact ⟨rfl, hp.x⟩
theorem l16Same_h (a b : Option Addr) (c d : Nat) (X Y : List Int) (w0 : World) (hA : Rd w0 a 1 eI X) (hB : Rd w0 b 1 eI Y) (hl : X.length ≤ 1000000) (hl2 : Y.length = X.length) :
    Ret Try.prog 134 [.slice a X.length c, .slice b Y.length d] w0 (fun v w => v = .bool (decide (X = Y)) ∧ Ext w0 w) := by
  refine enter Try.S134ok _ _ rfl rfl (by show _ ≤ _; simp only [List.length]; decide) (fun C => ?_); have hp := Hp.nil w0; refine h_run rfl ?_; skip
  refine h_loop [0, 1, 5] (fun (i : Nat) => [(0, .slice a X.length c), (1, .slice b Y.length d), (5, .int .i64 (i : Int))])
    (fun i w' => i ≤ X.length ∧ (∀ j, j < i → X.getD j default = Y.getD j default) ∧ Hp w0 w' []) (fun i => X.length - i) 0 rfl ⟨by omega, fun j hj => by omega, hp⟩ ?_
  rintro i w1 ⟨hi, hall, hp⟩ IH C
  refine h_run rfl ?_; skip
  refine h_cond_dec (fun hlt => ?_) (fun hlt => ?_)
  · have hlt' : i < X.length := by omega
    refine h_cond_t rfl rfl ?_; skip
    refine D_draw hp (by kernel_rfl) (by kernel_rfl) rfl rfl ?_; intro w hx hp; have hs := hp; (repeat (refine D_ldEN rfl (by omega) rfl rfl rfl ?_))
    refine h_cond_dec (fun hd => ?_) (fun hd => ?_)
    · refine h_cond_t rfl rfl ?_; (repeat (refine R_ret ?_))
      have : X ≠ Y := fun e => hd (by rw [e])
      exact ⟨by simp [this], hp.x⟩
    · refine h_cond_f rfl rfl ?_; skip
      refine IH (i + 1) _ _ _ (by omega) rfl ⟨by omega, fun j hj => ?_, hp⟩
      by_cases hj2 : j < i
      · exact hall j hj2
      · obtain rfl : j = i := by omega
        omega
  · refine h_cond_f rfl rfl ?_; (repeat (refine R_ret ?_))
    have : X = Y := getD_ext (by omega) fun j hj => hall j (by omega)
    exact ⟨by simp [this], hp.x⟩
theorem ite_eq_of {A B : Prop} [Decidable A] [Decidable B] (h : A ↔ B) (x y : Nat) : (if A then x else y) = if B then x else y := by
  by_cases hA : A
  · rw [if_pos hA, if_pos (h.1 hA)]
  · rw [if_neg hA, if_neg (fun hB => hA (h.2 hB))]
/-- two elements of one class differ in one of the first X cases -/
def dfP (n : NetL) (cl : List Int) (X : Nat) (i j : Nat) : Prop := cl.getD j default = cl.getD i default ∧ ∃ x : Nat, x < X ∧ kN n cl (x : Int) i ≠ kN n cl (x : Int) j
theorem dfP_succ {n : NetL} {cl : List Int} {X i j : Nat} : dfP n cl (X + 1) i j ↔ dfP n cl X i j ∨ (cl.getD j default = cl.getD i default ∧ kN n cl (X : Int) i ≠ kN n cl (X : Int) j) := by
  unfold dfP
  constructor
  · rintro ⟨h, x, h1, h2⟩
    by_cases hx : x < X
    · exact .inl ⟨h, x, hx, h2⟩
    · obtain rfl : x = X := by omega
      exact .inr ⟨h, h2⟩
  · rintro (⟨h, x, h1, h2⟩ | ⟨h, h2⟩)
    · exact ⟨h, x, by omega, h2⟩
    · exact ⟨h, X, by omega, h2⟩
theorem dfP_to {n : NetL} {cl : List Int} {i j : Nat} (hc : cl.getD j default = cl.getD i default) : ¬ dfP n cl (totC n cl) i j ↔ toJ n cl i j := by
  unfold dfP toJ sameK
  constructor
  · intro h
    exact ⟨hc, fun x hx => Classical.byContradiction fun hh => h ⟨hc, x, hx, hh⟩⟩
  · rintro ⟨_, h⟩ ⟨_, x, h1, h2⟩
    exact h2 (h x h1)
/-- the marks when the pairs before (i, j) have been seen in case X -/
def DfR (n : NetL) (cl : List Int) (m : Nat) (R : List (RowA Bool)) (X i j : Nat) : Prop :=
  R.length = m ∧ ∀ p, p < m → (R.getD p default).ins.length = m ∧ ∀ q, q < p → ((R.getD p default).ins.getD q default = true ↔ dfP n cl (if p < i ∨ (p = i ∧ q < j) then X + 1 else X) p q)
theorem DfR.next {n : NetL} {cl : List Int} {m : Nat} {R : List (RowA Bool)} {X i : Nat} (h : DfR n cl m R X i i) : DfR n cl m R X (i + 1) 0 :=
  ⟨h.1, fun p hp => ⟨(h.2 p hp).1, fun q hq => by
    rw [(h.2 p hp).2 q hq]
    have e : (p < i ∨ (p = i ∧ q < i)) ↔ (p < i + 1 ∨ (p = i + 1 ∧ q < 0)) := by omega
    rw [ite_eq_of e]⟩⟩
theorem DfR.case_ {n : NetL} {cl : List Int} {m : Nat} {R : List (RowA Bool)} {X : Nat} (h : DfR n cl m R X m 0) : DfR n cl m R (X + 1) 0 0 :=
  ⟨h.1, fun p hp => ⟨(h.2 p hp).1, fun q hq => by rw [(h.2 p hp).2 q hq, if_pos (.inl hp), if_neg (by omega)]⟩⟩
theorem DfR.same {n : NetL} {cl : List Int} {m : Nat} {R : List (RowA Bool)} {X i j : Nat} (h : DfR n cl m R X i j) (hs : ¬ (cl.getD j default = cl.getD i default ∧ kN n cl (X : Int) i ≠ kN n cl (X : Int) j)) : DfR n cl m R X i (j + 1) :=
  ⟨h.1, fun p hp => ⟨(h.2 p hp).1, fun q hq => by
    rw [(h.2 p hp).2 q hq]
    by_cases hpq : p = i ∧ q = j
    · obtain ⟨rfl, rfl⟩ := hpq
      rw [if_neg (by omega), if_pos (by omega), dfP_succ]
      exact ⟨.inl, fun h => h.resolve_right hs⟩
    · have e : (p < i ∨ (p = i ∧ q < j)) ↔ (p < i ∨ (p = i ∧ q < j + 1)) := by omega
      rw [ite_eq_of e]⟩⟩
theorem DfR.mark {n : NetL} {cl : List Int} {m : Nat} {R : List (RowA Bool)} {X i j : Nat} (h : DfR n cl m R X i j) (hi : i < m) (hj : j < i) (hs : cl.getD j default = cl.getD i default ∧ kN n cl (X : Int) i ≠ kN n cl (X : Int) j) {a : Option Addr} {c : Nat} :
    DfR n cl m (R.set i ⟨(R.getD i default).ins.set j true, a, c⟩) X i (j + 1) :=
  ⟨by rw [List.length_set]; exact h.1, fun p hp => by
    have hl := (h.2 i hi).1
    rw [set_get (by rw [h.1]; exact hi)]
    by_cases hpi : p = i
    · subst hpi
      rw [if_pos rfl]
      refine ⟨by rw [List.length_set]; exact hl, fun q hq => ?_⟩
      rw [set_get (by omega)]
      by_cases hqj : q = j
      · subst hqj
        rw [if_pos rfl, if_pos (by omega), dfP_succ]
        exact ⟨fun _ => .inr hs, fun _ => rfl⟩
      · rw [if_neg hqj, (h.2 p hp).2 q hq]
        have e : (p < p ∨ (p = p ∧ q < j)) ↔ (p < p ∨ (p = p ∧ q < j + 1)) := by omega
        rw [ite_eq_of e]
    · rw [if_neg hpi]
      refine ⟨(h.2 p hp).1, fun q hq => ?_⟩
      rw [(h.2 p hp).2 q hq]
      have e : (p < i ∨ (p = i ∧ q < j)) ↔ (p < i ∨ (p = i ∧ q < j + 1)) := by omega
      rw [ite_eq_of e]⟩
theorem specNodeValues_m (x : NetA) (a : Option Addr) (c : Nat) (st : List Int) (m : Nat) (hm : st.length = m) (inp : Int) (w0 : World) (hX : NetR w0 x) (hS : NetS x.n) (hW : NetW x.n) (hok : NetOkP x.n) (hP : stP x.n st) (hR : Rd w0 a 1 eI st) (hL : m ≤ 1048576) (hI : i64R inp) :
    Ret Try.prog 129 [x.v, .slice a m c, .int .i64 inp] w0 (fun v w => ∃ b c', v = .slice b (nds x.n) c' ∧ Hp w0 w [rO 3 1 eI b c' (valsL x.n st inp)]) := by
  subst hm
  have hV : ∀ i, i < st.length → i64R (st.getD i default) := fun i hi => by
    have := hP.2 i hi
    unfold i64R
    have h2 : seqMostL (x.n.seqs.getD i default).kind ≤ 1000 := by unfold seqMostL; repeat' split <;> omega
    omega
  refine (specNodeValues_x x a c st inp w0 hX hS hW hR hL hV hI).mono ?_
  rintro v w ⟨b, c', rfl, hp⟩
  rw [ifSt_yes ⟨hok, hP⟩] at hp ⊢
  exact ⟨b, c', by rw [valsL_len], hp⟩
theorem hdr_same {α : Type} {R : List (RowA α)} {i : Nat} {y : RowA α} (hi : i < R.length) (h : eRo y = eRo (R.getD i default)) : R.map eRo = (R.set i y).map eRo := by
  rw [List.map_set, h]
  refine (List.ext_getElem (by simp) fun k h1 h2 => ?_).symm
  rw [List.getElem_set]
  split
  · rename_i hik
    subst hik
    rw [List.getElem_map, List.getD_eq_getElem?_getD, List.getElem?_eq_getElem hi]
    rfl
  · rfl
set_option maxHeartbeats 2000000 in
theorem l16Refine_h (x : NetA) (a : Option Addr) (c : Nat) (cl : List Int) (w0 : World) (hX : NetR w0 x) (hS : NetS x.n) (hW : NetW x.n) (hok : NetOkP x.n) (hR : Rd w0 a 1 eI cl) (hcl : clP x.n cl) (ht : x.n.inputs + (clNL cl : Nat) ≤ 10) :
    Ret Try.prog 133 [x.v, .slice a cl.length c] w0 (fun v w => ∃ b c', v = .slice b (refL x.n cl).length c' ∧ Hp w0 w [rO 3 1 eI b c' (refL x.n cl)]) := by
  have hsz := hok.size'
  have hlen : cl.length = x.seqs.length := by rw [hcl.1, x.slen]
  have h64 : (IntKind.i64.bits : Int) = 64 := rfl
  have hin : x.n.inputs = x.inputs := rfl
  obtain ⟨t1, t2, t3⟩ := tot_eq (by omega) ht
  have hbk : x.inputs + ((clNL cl : Nat) : Int) ≤ ((IntKind.i64.bits : Nat) : Int) := by show _ ≤ (64 : Int); omega
  rw [hin] at t1 ht
  refine enter Try.S133ok _ _ rfl rfl (by show _ ≤ _; simp only [List.length]; decide) (fun C => ?_); have hp := Hp.nil w0; refine h_run rfl ?_; skip; (first | (refine H_box hp ?_; intro w b2 hx hp) | (refine H_alloc hp rfl ?_; intro w b2 hx hp)); refine ops_run nopre rfl ?_; skip
  refine h_call rfl Try.func132 (by kernel_rfl) rfl (l16Count_h a c cl _ hp.rd (by omega)) ?_; rintro _ w ⟨rfl, hx⟩; have hp := hp.ext hx; refine ops_run nopre rfl ?_; skip
  refine H_make hp (eRo (α := Bool)) (⟨[], none, 0⟩ : RowA Bool) rfl rfl rfl rfl (s := 1) rfl (by decide) rfl (by unfold maxLen; omega) (by show 24 * _ ≤ _; omega) ?_; intro w b6 hx hp; refine ops_run nopre rfl ?_; skip
  have hp := (rRows_nils (e := 4) (s := 1) (enc := eB) cl.length hp)
  refine h_loop [1, 2, 5, 6, 7] (fun (i : Nat) => [(1, .slice a cl.length c), (2, .pointer (some ⟨b2, 0, none⟩)), (5, .int .i64 ((clNL cl : Nat) : Int)), (6, .slice (some ⟨b6, 0, none⟩) cl.length cl.length), (7, .int .i64 (i : Int))])
    (fun i w' => i ≤ cl.length ∧ ∃ (R : List (RowA Bool)), R.length = cl.length ∧ (∀ p, p < i → (R.getD p default).ins = List.replicate cl.length false) ∧ (∀ p, i ≤ p → p < cl.length → R.getD p default = ⟨[], none, 0⟩) ∧
      Hp w0 w' [rRows 4 1 eB R, rO 98 1 eRo (some ⟨b6, 0, none⟩) cl.length R, rB b2 28 x.cs]) (fun i => cl.length - i) 0 rfl
    ⟨by omega, List.replicate cl.length ⟨[], none, 0⟩, by simp, fun p hp => by omega, fun p _ hp => by simp [List.getD_eq_getElem?_getD, hp], hp⟩ ?_
  clear hp
  rintro i w1 ⟨hi, R, hRl, hRd, hRn, hp⟩ IH C
  refine h_run rfl ?_; skip
  refine h_cond_dec (fun hlt => ?_) (fun hlt => ?_)
  · have hlt' : i < cl.length := by omega
    obtain ⟨Q, hp1, hback⟩ := rRows_at hp (show i < R.length by omega)
    have hRi := hRn i (Nat.le_refl _) hlt'
    clear hp
    have hp := hp1.drop
    refine h_cond_t rfl rfl ?_; skip
    refine H_make hp eB false rfl rfl rfl rfl (s := 1) rfl (by decide) rfl (by unfold maxLen; omega) (by show 1 * _ ≤ _; omega) ?_; intro w b8 hx hp; refine ops_run nopre rfl ?_; skip
    first | refine U_st0N hp (y := (⟨List.replicate cl.length false, some ⟨b8, 0, none⟩, cl.length⟩ : RowA Bool)) rfl rfl rfl (by omega) (by decide) (by simp [eRo]) rfl ?_ | refine U_st0 hp (y := (⟨List.replicate cl.length false, some ⟨b8, 0, none⟩, cl.length⟩ : RowA Bool)) rfl rfl rfl (by omega) (by decide) (by simp [eRo]) rfl ?_
    intro w hp; refine ops_run nopre rfl ?_; skip
    have hp := hback _ _ (⟨List.replicate cl.length false, some ⟨b8, 0, none⟩, cl.length⟩ : RowA Bool) hp
    refine IH (i + 1) _ _ _ (by omega) rfl ⟨by omega, _, by rw [List.length_set]; exact hRl, fun p hp2 => ?_, fun p h1 h2 => ?_, hp⟩
    · rw [set_get (by omega)]
      by_cases hpi : p = i
      · rw [if_pos hpi]
      · rw [if_neg hpi]; exact hRd p (by omega)
    · rw [set_get (by omega), if_neg (by omega)]; exact hRn p (by omega) h2
  · refine h_cond_f rfl rfl ?_; skip
    obtain rfl : i = cl.length := by omega
    have hD : DfR x.n cl cl.length R 0 0 0 := ⟨hRl, fun p hp2 => by
      rw [hRd p hp2]
      refine ⟨by simp, fun q hq => ?_⟩
      rw [if_neg (by omega)]
      constructor
      · intro hh; simp [List.getD_eq_getElem?_getD, List.getElem?_replicate] at hh; split at hh <;> simp at hh
      · rintro ⟨_, y, hy, _⟩; omega⟩
    clear hRd hRn hRl
    refine h_loop [1, 2, 5, 6, 8] (fun (X : Nat) => [(1, .slice a cl.length c), (2, .pointer (some ⟨b2, 0, none⟩)), (5, .int .i64 ((clNL cl : Nat) : Int)), (6, .slice (some ⟨b6, 0, none⟩) cl.length cl.length), (8, .int .i64 (X : Int))])
      (fun X w' => X ≤ totC x.n cl ∧ ∃ (R : List (RowA Bool)), DfR x.n cl cl.length R X 0 0 ∧
        Hp w0 w' [rRows 4 1 eB R, rO 98 1 eRo (some ⟨b6, 0, none⟩) cl.length R, rB b2 28 x.cs]) (fun X => totC x.n cl - X) 0 rfl ⟨Nat.zero_le _, R, hD, hp⟩ ?_
    clear hp
    rintro X w1 ⟨hX2, R, hD, hp⟩ IH C
    have hRl := hD.1
    refine h_run rfl ?_; (repeat (refine H_ldB hp rfl rfl ?_))
    refine h_cond_dec (fun hlt => ?_) (fun hlt => ?_)
    · have hlt' : X < totC x.n cl := by omega
      refine h_cond_t rfl rfl ?_; skip
      refine H_make hp eI 0 rfl rfl rfl rfl (s := 1) rfl (by decide) rfl (by unfold maxLen; omega) (by show 8 * _ ≤ _; omega) ?_; intro w b9 hx hp; refine ops_run nopre rfl ?_; (repeat (refine H_ldB hp rfl rfl ?_))
      refine h_loop [1, 2, 5, 6, 8, 9, 10, 11] (fun (i : Nat) => [(1, .slice a cl.length c), (2, .pointer (some ⟨b2, 0, none⟩)), (5, .int .i64 ((clNL cl : Nat) : Int)), (6, .slice (some ⟨b6, 0, none⟩) cl.length cl.length), (8, .int .i64 (X : Int)), (9, .slice (some ⟨b9, 0, none⟩) cl.length cl.length), (10, .int .i64 (x.inputs + ((clNTo cl i : Nat) : Int))), (11, .int .i64 (i : Int))])
        (fun i w' => i ≤ cl.length ∧ Hp w0 w' [rO 3 1 eI (some ⟨b9, 0, none⟩) cl.length (stCT x.n.inputs cl (X : Int) i ++ (List.replicate cl.length 0).drop i), rRows 4 1 eB R, rO 98 1 eRo (some ⟨b6, 0, none⟩) cl.length R, rB b2 28 x.cs]) (fun i => cl.length - i) 0 (by rw [show x.inputs + ((clNTo cl 0 : Nat) : Int) = x.inputs by show x.inputs + 0 = _; omega]; rfl) ⟨by omega, hp⟩ ?_
      clear hp
      rintro i w1 ⟨hi, hp⟩ IH2 C
      have hstl := stCT_len x.n.inputs cl (X : Int) i
      have hsl : (stCT x.n.inputs cl (X : Int) i ++ (List.replicate cl.length (0 : Int)).drop i).length = cl.length := by simp [hstl]; omega
      have hmono := clNTo_mono cl hi
      have hcn : clNTo cl cl.length = clNL cl := rfl
      have hbk2 : x.inputs + ((clNTo cl i : Nat) : Int) ≤ ((IntKind.i64.bits : Nat) : Int) := by show _ ≤ (64 : Int); omega
      have hrpl : (List.replicate cl.length (0 : Int)).length = cl.length := by simp
      refine h_run rfl ?_; skip
      refine h_cond_dec (fun hlt2 => ?_) (fun hlt2 => ?_)
      · have hlt2' : i < cl.length := by omega
        obtain ⟨cc, c1, c2, c3⟩ := hcl.rep hlt2'
        refine h_cond_t rfl rfl ?_; (repeat (refine H_ldEN hp rfl (by omega) rfl rfl ?_))
        refine h_cond_dec (fun h1 => ?_) (fun h1 => ?_)
        · refine h_cond_t rfl rfl ?_; (repeat (refine U_st0N hp rfl rfl rfl (by omega) (by decide) rfl rfl ?_; intro w hp; refine ops_run nopre rfl ?_))
          refine IH2 (i + 1) _ _ _ (by omega) (by rw [clNTo, if_pos h1, show x.inputs + ((clNTo cl i + 1 : Nat) : Int) = x.inputs + (clNTo cl i : Nat) + 1 by omega]; rfl) ⟨by omega, ?_⟩
          have e : stCT x.n.inputs cl (X : Int) (i + 1) = stCT x.n.inputs cl (X : Int) i ++ [bits .and .i64 ((X : Int) / 2 ^ (x.inputs + ((clNTo cl i : Nat) : Int)).toNat) 1] := by rw [stCT, if_pos h1]; rfl
          rw [e, ← app_set hstl (by omega)]
          exact hp
        · refine h_cond_f rfl rfl ?_; (repeat (first | (refine gLoad ?_; first | refine H_ldEN hp rfl (by omega) rfl rfl ?_ | refine H_ldE hp rfl (by omega) (by omega) rfl rfl ?_) | (refine gStore ?_; refine U_st0N hp rfl rfl rfl (by omega) (by decide) rfl rfl ?_; intro w hp; refine ops_run nopre rfl ?_)))
          refine IH2 (i + 1) _ _ _ (by omega) (by rw [clNTo, if_neg h1]; rfl) ⟨by omega, ?_⟩
          have e : stCT x.n.inputs cl (X : Int) (i + 1) = stCT x.n.inputs cl (X : Int) i ++ [(stCT x.n.inputs cl (X : Int) i ++ (List.replicate cl.length 0).drop i).getD (cl.getD i default).toNat default] := by rw [stCT, if_neg h1, app_get (by omega)]
          rw [e, ← app_set hstl (by omega)]
          exact hp
      · refine h_cond_f rfl rfl ?_; (repeat (refine H_ldB hp rfl rfl ?_))
        obtain rfl : i = cl.length := by omega
        have hst : stCT x.n.inputs cl (X : Int) cl.length ++ (List.replicate cl.length 0).drop cl.length = stC x.n cl (X : Int) := by
          rw [List.drop_eq_nil_of_le (by simp), List.append_nil]; rfl
        rw [hst] at hp
        have hsl2 : (stC x.n cl (X : Int)).length = cl.length := stC_len _ _ _
        have hnd := hok.nodes
        have hvl : (valsL x.n (stC x.n cl (X : Int)) (X : Int)).length = nds x.n := valsL_len _ _ _
        have hn2 := hok.nums.n2
        have hcnt := hok.count
        have hsP := stC_P hok hcl.1 (X : Int)
        refine h_call rfl Try.func129 (by kernel_rfl) rfl (specNodeValues_m x (some ⟨b9, 0, none⟩) _ (stC x.n cl (X : Int)) _ hsl2 (X : Int) _ hp.net hS hW hok hsP hp.rd (by omega) (by unfold i64R; omega)) ?_; rintro _ w ⟨b12, c12, rfl, hq⟩; have hx := hq.x; have hp := hp.call1 hq; refine ops_run nopre rfl ?_; skip
        refine h_loop [1, 2, 5, 6, 8, 12, 13] (fun (i : Nat) => [(1, .slice a cl.length c), (2, .pointer (some ⟨b2, 0, none⟩)), (5, .int .i64 ((clNL cl : Nat) : Int)), (6, .slice (some ⟨b6, 0, none⟩) cl.length cl.length), (8, .int .i64 (X : Int)), (12, .slice b12 (nds x.n) c12), (13, .int .i64 (i : Int))])
          (fun i w' => i ≤ cl.length ∧ ∃ (R : List (RowA Bool)), DfR x.n cl cl.length R X i 0 ∧
            Hp w0 w' [rRows 4 1 eB R, rO 3 1 eI b12 c12 (valsL x.n (stC x.n cl (X : Int)) (X : Int)), rO 98 1 eRo (some ⟨b6, 0, none⟩) cl.length R, rB b2 28 x.cs]) (fun i => cl.length - i) 0 rfl ⟨by omega, R, hD, (hp.f4.f4.f2.f4).tk 4⟩ ?_
        clear hp
        rintro i w1 ⟨hi2, R, hD, hp⟩ IH3 C
        refine h_run rfl ?_; skip
        refine h_cond_dec (fun hlt3 => ?_) (fun hlt3 => ?_)
        · have hlt3' : i < cl.length := by omega
          obtain ⟨l1, l2⟩ := in0_lit hok (show i < x.seqs.length by omega)
          have hxi : Rd w0 (x.seqs.getD i default).ia 1 eI (x.seqs.getD i default).ins := hX.seqs.at_ (by omega)
          have l1' := l1
          unfold litP at l1'
          refine h_cond_t rfl rfl ?_; skip
          refine h_loop [1, 2, 5, 6, 8, 12, 13, 14] (fun (j : Nat) => [(1, .slice a cl.length c), (2, .pointer (some ⟨b2, 0, none⟩)), (5, .int .i64 ((clNL cl : Nat) : Int)), (6, .slice (some ⟨b6, 0, none⟩) cl.length cl.length), (8, .int .i64 (X : Int)), (12, .slice b12 (nds x.n) c12), (13, .int .i64 (i : Int)), (14, .int .i64 (j : Int))])
            (fun j w' => j ≤ i ∧ ∃ (R : List (RowA Bool)), DfR x.n cl cl.length R X i j ∧
              Hp w0 w' [rRows 4 1 eB R, rO 3 1 eI b12 c12 (valsL x.n (stC x.n cl (X : Int)) (X : Int)), rO 98 1 eRo (some ⟨b6, 0, none⟩) cl.length R, rB b2 28 x.cs]) (fun j => i - j) 0 rfl ⟨by omega, R, hD, hp⟩ ?_
          clear hp
          rintro j w1 ⟨hj, R, hD, hp⟩ IH4 C
          have hRl := hD.1
          refine h_run rfl ?_; skip
          refine h_cond_dec (fun hlt4 => ?_) (fun hlt4 => ?_)
          · have hlt4' : j < i := by omega
            obtain ⟨m1, m2⟩ := in0_lit hok (show j < x.seqs.length by omega)
            have hxj : Rd w0 (x.seqs.getD j default).ia 1 eI (x.seqs.getD j default).ins := hX.seqs.at_ (by omega)
            have m1' := m1
            unfold litP at m1'
            have hki : kN x.n cl (X : Int) i = litV (valsL x.n (stC x.n cl (X : Int)) (X : Int)) ((x.seqs.getD i default).ins.getD 0 default) := by unfold kN; rw [x.sins]
            have hkj : kN x.n cl (X : Int) j = litV (valsL x.n (stC x.n cl (X : Int)) (X : Int)) ((x.seqs.getD j default).ins.getD 0 default) := by unfold kN; rw [x.sins]
            have hil := (hD.2 i hlt3').1
            refine h_cond_t rfl rfl ?_; skip
            refine D_draw hp (by kernel_rfl) (by kernel_rfl) rfl rfl ?_; intro w hx hp; have hs := hp; (repeat (refine D_ldEN rfl (by omega) rfl rfl rfl ?_))
            refine h_guard_by (fun h1 => ?_) (fun h1 => ?_); all_goals (rw [h1]; (first | replace h1 := of_decide_eq_true h1 | replace h1 := of_decide_eq_false h1 | skip); (repeat (first | (refine gGuard ?_; first | refine h_guard_yd rfl rfl rfl ?_ | refine h_guard_nd rfl rfl rfl ?_) | (refine gLoad ?_; first | refine D_ldB rfl rfl rfl ?_ | refine D_ldEN rfl (by omega) rfl rfl rfl ?_ | refine D_ldFN rfl (by omega) rfl rfl rfl ?_))))
            · refine h_callq rfl Try.func152 (by kernel_rfl) rfl (l09Bit_h b12 c12 (valsL x.n (stC x.n cl (X : Int)) (X : Int)) (nds x.n) hvl ((x.seqs.getD i default).ins.getD 0 default) _ hp.rd l1.1 (by omega) (by omega)) ?_; rintro _ w ⟨rfl, hx⟩; have hp := hp.ext hx; have hs := hs.ext hx; refine ⟨fun _ => hs, ?_⟩; refine D_ops rfl rfl ?_; (repeat (first | (refine gGuard ?_; refine h_guard_yd rfl rfl rfl ?_) | (refine gLoad ?_; first | refine D_ldB rfl rfl rfl ?_ | refine D_ldEN rfl (by omega) rfl rfl rfl ?_ | refine D_ldFN rfl (by omega) rfl rfl rfl ?_)))
              refine h_callq rfl Try.func152 (by kernel_rfl) rfl (l09Bit_h b12 c12 (valsL x.n (stC x.n cl (X : Int)) (X : Int)) (nds x.n) hvl ((x.seqs.getD j default).ins.getD 0 default) _ hp.rd m1.1 (by omega) (by omega)) ?_; rintro _ w ⟨rfl, hx⟩; have hp := hp.ext hx; have hs := hs.ext hx; refine ⟨fun _ => hs, ?_⟩; refine D_ops rfl rfl ?_; (repeat (refine h_guard_yd rfl rfl rfl ?_))
              refine h_cond_dec (fun hne => ?_) (fun hne => ?_)
              · have hs : cl.getD j default = cl.getD i default ∧ kN x.n cl (X : Int) i ≠ kN x.n cl (X : Int) j := ⟨h1.symm, by rw [hki, hkj]; exact hne⟩
                obtain ⟨Q, hp1, hback⟩ := rRows_at hp (show i < R.length by omega)
                clear hp
                have hp := hp1
                refine h_cond_t rfl rfl ?_; (repeat (first | (refine gLoad ?_; refine H_ldEN hp rfl (by omega) rfl rfl ?_) | (refine gStore ?_; refine U_st0N hp rfl rfl rfl (by omega) (by decide) rfl rfl ?_; intro w hp; refine ops_run nopre rfl ?_)))
                have hp := hback _ _ (⟨(R.getD i default).ins.set j true, (R.getD i default).ia, (R.getD i default).ic⟩ : RowA Bool) hp
                have hp := ((rO_congr (hp.f3.f2.f2.f3) (hdr_same (R := R) (i := i) (y := (⟨(R.getD i default).ins.set j true, (R.getD i default).ia, (R.getD i default).ic⟩ : RowA Bool)) (by omega) (by unfold eRo; rw [List.length_set])))).f3.f1.f3.f3
                exact IH4 (j + 1) _ _ _ (by omega) rfl ⟨by omega, _, hD.mark hlt3' hlt4' hs, hp⟩
              · refine h_cond_f rfl rfl ?_; skip
                exact IH4 (j + 1) _ _ _ (by omega) rfl ⟨by omega, R, hD.same (fun hh => hh.2 (by rw [hki, hkj]; omega)), hp⟩
            · refine h_cond_f rfl rfl ?_; skip
              exact IH4 (j + 1) _ _ _ (by omega) rfl ⟨by omega, R, hD.same (fun hh => h1 hh.1.symm), hp⟩
          · refine h_cond_f rfl rfl ?_; skip
            obtain rfl : j = i := by omega
            exact IH3 (j + 1) _ _ _ (by omega) rfl ⟨by omega, R, hD.next, hp⟩
        · refine h_cond_f rfl rfl ?_; skip
          obtain rfl : i = cl.length := by omega
          exact IH (X + 1) _ _ _ (by omega) rfl ⟨by omega, R, hD.case_, (hp.f3.f3.f2).tk 3⟩
    · obtain rfl : X = totC x.n cl := by omega
      have hrl := refL_len x.n cl
      refine h_cond_f rfl rfl ?_; (repeat (refine U_litI hp rfl rfl rfl rfl rfl rfl rfl rfl rfl rfl ?_; intro w _ hx hp; refine ops_run nopre rfl ?_))
      refine h_loop3 [1, 6, 15, 16] (fun (i : Nat) (b : Option Addr) (cc : Nat) => [(1, .slice a cl.length c), (6, .slice (some ⟨b6, 0, none⟩) cl.length cl.length), (15, .slice b ((refL x.n cl).take i).length cc), (16, .int .i64 (i : Int))])
        (fun i b cc w' => i ≤ cl.length ∧ Hp w0 w' [rO 3 1 eI b cc ((refL x.n cl).take i), rRows 4 1 eB R, rO 98 1 eRo (some ⟨b6, 0, none⟩) cl.length R]) (fun i _ _ => cl.length - i) 0 _ _ rfl ⟨by omega, hp.tk 3⟩ ?_
      clear hp
      rintro i b cc w1 ⟨hi, hp⟩ IH C
      have htl : ((refL x.n cl).take i).length = i := by simp; omega
      refine h_run rfl ?_; skip
      refine h_cond_dec (fun hlt2 => ?_) (fun hlt2 => ?_)
      · have hlt2' : i < cl.length := by omega
        have er : ∀ k : Nat, fstJ (toJ x.n cl i) i = k → (refL x.n cl).take (i + 1) = (refL x.n cl).take i ++ [(k : Int)] := fun k hk => by
          rw [take_snoc (by omega), refL_get x.n cl hlt2', hk]
        have hrow : RdH w0 [rO 3 1 eI b cc ((refL x.n cl).take i), rRows 4 1 eB R, rO 98 1 eRo (some ⟨b6, 0, none⟩) cl.length R] (R.getD i default).ia 1 eB (R.getD i default).ins := RowsH.at_ inferInstance (by omega)
        have hil := (hD.2 i hlt2').1
        refine h_cond_t rfl rfl ?_; skip
        refine h_loop2 [1, 6, 15, 16, 17, 18] (fun (q : Nat) (k : Nat) => [(1, .slice a cl.length c), (6, .slice (some ⟨b6, 0, none⟩) cl.length cl.length), (15, .slice b ((refL x.n cl).take i).length cc), (16, .int .i64 (i : Int)), (17, .int .i64 (k : Int)), (18, .int .i64 ((q : Int) - 1))])
          (fun q k w' => q ≤ i ∧ (k ≤ i ∧ (k < i → toJ x.n cl i k) ∧ ∀ p, q ≤ p → p < k → ¬ toJ x.n cl i p) ∧ Hp w0 w' [rO 3 1 eI b cc ((refL x.n cl).take i), rRows 4 1 eB R, rO 98 1 eRo (some ⟨b6, 0, none⟩) cl.length R]) (fun q _ => q) i i rfl ⟨Nat.le_refl _, ⟨Nat.le_refl _, fun h => by omega, fun p h1 h2 => by omega⟩, hp⟩ ?_
        clear hp
        rintro q k w1 ⟨hq, ⟨k1, k2, k3⟩, hp⟩ IH2 C
        refine h_run rfl ?_; skip
        refine h_cond_dec (fun hlt4 => ?_) (fun hlt4 => ?_)
        · obtain ⟨p, rfl⟩ : ∃ p, q = p + 1 := ⟨q - 1, by omega⟩
          have e2 : (((p + 1 : Nat) : Int) - 1).toNat = p := by omega
          have e3 : ((p + 1 : Nat) : Int) - 1 = (p : Int) := by omega
          have e4 : ((p + 1 : Nat) : Int) - 1 - 1 = (p : Int) - 1 := by omega
          have hdf := (hD.2 i hlt2').2 p (by omega)
          rw [if_neg (by omega)] at hdf
          have hno : ¬ toJ x.n cl i p → ∀ r, p ≤ r → r < k → ¬ toJ x.n cl i r := fun hf r h1 h2 => by
            by_cases hr : r = p
            · rw [hr]; exact hf
            · exact k3 r (by omega) h2
          refine h_cond_t rfl rfl ?_; skip
          refine D_draw hp (by kernel_rfl) (by kernel_rfl) rfl rfl ?_; intro w hx hp; have hs := hp; (repeat (refine gLoad ?_; first | refine D_ldEN rfl (by omega) rfl rfl rfl ?_ | refine D_ldE rfl (by omega) (by omega) rfl rfl rfl ?_))
          refine h_guard_by (fun h1 => ?_) (fun h1 => ?_); all_goals (rw [h1]; (first | replace h1 := of_decide_eq_true h1 | replace h1 := of_decide_eq_false h1 | skip); (repeat (first | (refine gGuard ?_; first | refine h_guard_yd rfl rfl rfl ?_ | refine h_guard_nd rfl rfl rfl ?_) | (refine gLoad ?_; first | refine D_ldEN rfl (by omega) rfl rfl rfl ?_ | refine D_ldE rfl (by omega) (by omega) rfl rfl rfl ?_))))
          · rw [e2] at h1
            by_cases hm : (R.getD i default).ins.getD p default = true
            · refine h_cond_f (by rw [e2, hm]; rfl) rfl ?_; skip
              refine IH2 p k _ _ _ (by omega) (by rw [e4]; rfl) ⟨by omega, ⟨k1, k2, hno fun ht => (dfP_to h1).2 ht (hdf.1 hm)⟩, hp⟩
            · refine h_cond_t (by rw [e2]; simp only [Bool.not_eq_true] at hm; rw [hm]; rfl) rfl ?_; skip
              have ht : toJ x.n cl i p := (dfP_to h1).1 fun hh => hm (hdf.2 hh)
              refine IH2 p p _ _ _ (by omega) (by rw [e4, e3]; rfl) ⟨by omega, ⟨by omega, fun _ => ht, fun r h1 h2 => by omega⟩, hp⟩
          · rw [e2] at h1
            refine h_cond_f rfl rfl ?_; skip
            refine IH2 p k _ _ _ (by omega) (by rw [e4]; rfl) ⟨by omega, ⟨k1, k2, hno fun ht => h1 ht.1⟩, hp⟩
        · have hk2 : fstJ (toJ x.n cl i) i = k := by
            by_cases hki : k < i
            · exact fstJ_at hki (k2 hki) fun r hr => k3 r (by omega) hr
            · obtain rfl : k = i := by omega
              exact fstJ_no fun r hr => k3 r (by omega) hr
          refine h_cond_f rfl rfl ?_; (repeat (refine U_litI hp rfl rfl rfl rfl rfl rfl rfl rfl rfl rfl ?_; intro w _ hx hp; refine ops_run nopre rfl ?_))
          refine U_append hp rfl rfl rfl rfl rfl rfl rfl (by decide) rfl (by first | omega | (simp only [List.length_append, List.length_cons, List.length_nil, List.length_take, List.length_drop, List.length_set, List.length_replicate, List.length_map]; omega)) rfl rfl ?_; intro b' c' w hp hnil; refine ops_run nopre rfl ?_; skip
          refine IH (i + 1) b' c' _ _ _ (by omega) (by rw [er k hk2]; rfl) ⟨by omega, ?_⟩
          rw [er k hk2]
          exact hp.drop
      · refine h_cond_f rfl rfl ?_; (repeat (refine R_ret ?_))
        obtain rfl : i = cl.length := by omega
        have hall : (refL x.n cl).take cl.length = refL x.n cl := List.take_of_length_le (by omega)
        rw [hall] at hp ⊢
        exact ⟨b, cc, rfl, hp.tk 1⟩
theorem lenReg (n : NetL) : (ifOk n (regL n)).length < 1000000000 := ifOk_len fun h => by
  have := okOf h
  rw [regL_len]; omega
theorem specRegisterClasses_x (x : NetA) (w0 : World) (hX : NetR w0 x) (hS : NetS x.n) (hW : NetW x.n) :
    Ret Try.prog 79 [x.v] w0 (fun v w => ∃ b c, v = .slice b (ifOk x.n (regL x.n)).length c ∧ Hp w0 w [rO 3 1 eI b c (ifOk x.n (regL x.n))]) := by
  have hxs := x.slen
  have hbl := begC_len x.n
  have hin : x.n.inputs = x.inputs := rfl
  have hol : ∀ m, (ownL m).length = m := fun m => by simp [ownL]
  refine enter Try.S79ok _ _ rfl rfl (by show _ ≤ _; simp only [List.length]; decide) (fun C => ?_); have hp := Hp.nil w0; refine h_run rfl ?_; skip; (first | (refine H_box hp ?_; intro w b1 hx hp) | (refine H_alloc hp rfl ?_; intro w b1 hx hp)); refine ops_run nopre rfl ?_; (repeat (first | (refine gLoad ?_; refine H_ldB hp rfl rfl ?_) | (refine gBuild ?_; refine U_litI hp rfl rfl rfl rfl rfl rfl rfl rfl rfl rfl ?_; intro w _ hx hp; refine ops_run nopre rfl ?_)))
  by_cases hok : NetOkP x.n
  · have hsz := hok.size'
    refine h_call rfl Try.func56 (by kernel_rfl) rfl ((specNetOk_h x _ hp.net hS hW).tt (netOkB_yes hok)) ?_; rintro _ w ⟨rfl, hx⟩; have hp := hp.ext hx; refine ops_run nopre rfl ?_; skip
    rw [ifOk_yes hok]
    refine h_cond_f rfl rfl ?_; (repeat (refine U_litI hp rfl rfl rfl rfl rfl rfl rfl rfl rfl rfl ?_; intro w _ hx hp; refine ops_run nopre rfl ?_))
    refine h_loop5 [1, 3, 4, 5] (fun (i : Nat) (b : Option Addr) (cc : Nat) (b' : Option Addr) (cc' : Nat) => [(1, .pointer (some ⟨b1, 0, none⟩)), (3, .slice b ((begC x.n).take i).length cc), (4, .slice b' (ownL i).length cc'), (5, .int .i64 (i : Int))])
      (fun i b cc b' cc' w' => i ≤ x.seqs.length ∧ Hp w0 w' [rO 3 1 eI b' cc' (ownL i), rO 3 1 eI b cc ((begC x.n).take i), rB b1 28 x.cs]) (fun i _ _ _ _ => x.seqs.length - i) 0 _ _ _ _ rfl ⟨by omega, hp⟩ ?_
    clear hp
    rintro i b cc b' cc' w1 ⟨hi, hp⟩ IH C
    have htl : ((begC x.n).take i).length = i := by simp; omega
    have hol2 := hol i
    have eo : ownL (i + 1) = ownL i ++ [(i : Int)] := by unfold ownL; rw [List.range_succ, List.map_append]; rfl
    refine h_run rfl ?_; (repeat (refine H_ldB hp rfl rfl ?_))
    refine h_cond_dec (fun hlt => ?_) (fun hlt => ?_)
    · have hlt' : i < x.seqs.length := by omega
      have er : ∀ k : Nat, fstJ (flP x.n i) i = k → (begC x.n).take (i + 1) = (begC x.n).take i ++ [(k : Int)] := fun k hk => by
        rw [take_snoc (by omega), begC_get x.n (by omega), hk]
      refine h_cond_t rfl rfl ?_; (repeat (refine U_litI hp rfl rfl rfl rfl rfl rfl rfl rfl rfl rfl ?_; intro w _ hx hp; refine ops_run nopre rfl ?_))
      refine U_append hp rfl rfl rfl rfl rfl rfl rfl (by decide) rfl (by first | omega | (simp only [List.length_append, List.length_cons, List.length_nil, List.length_take, List.length_drop, List.length_set, List.length_replicate, List.length_map]; omega)) rfl rfl ?_; intro b2 c2 w hp hnil; refine ops_run nopre rfl ?_; skip
      refine h_loop2 [1, 3, 4, 5, 6, 7] (fun (q : Nat) (k : Nat) => [(1, .pointer (some ⟨b1, 0, none⟩)), (3, .slice b ((begC x.n).take i).length cc), (4, .slice b2 (ownL i ++ [(i : Int)]).length c2), (5, .int .i64 (i : Int)), (6, .int .i64 (k : Int)), (7, .int .i64 ((q : Int) - 1))])
        (fun q k w' => q ≤ i ∧ (k ≤ i ∧ (k < i → flP x.n i k) ∧ ∀ p, q ≤ p → p < k → ¬ flP x.n i p) ∧ Hp w0 w' [rO 3 1 eI b2 c2 (ownL i ++ [(i : Int)]), rO 3 1 eI b cc ((begC x.n).take i), rB b1 28 x.cs]) (fun q _ => q) i i rfl ⟨Nat.le_refl _, ⟨Nat.le_refl _, fun h => by omega, fun p h1 h2 => by omega⟩, hp.drop⟩ ?_
      clear hp
      rintro q k w1 ⟨hq, ⟨k1, k2, k3⟩, hp⟩ IH2 C
      refine h_run rfl ?_; skip
      refine h_cond_dec (fun hlt4 => ?_) (fun hlt4 => ?_)
      · obtain ⟨p, rfl⟩ : ∃ p, q = p + 1 := ⟨q - 1, by omega⟩
        have e2 : (((p + 1 : Nat) : Int) - 1).toNat = p := by omega
        have e3 : ((p + 1 : Nat) : Int) - 1 = (p : Int) := by omega
        have e4 : ((p + 1 : Nat) : Int) - 1 - 1 = (p : Int) - 1 := by omega
        have hfl : flP x.n i p ↔ (x.seqs.getD i default).kind = 0 ∧ (x.seqs.getD p default).kind = 0 ∧ (x.seqs.getD p default).init = (x.seqs.getD i default).init := by
          unfold flP; rw [x.skind, x.skind, x.sinit, x.sinit]
        have hno : ¬ flP x.n i p → ∀ r, p ≤ r → r < k → ¬ flP x.n i r := fun hf r h1 h2 => by
          by_cases hr : r = p
          · rw [hr]; exact hf
          · exact k3 r (by omega) h2
        refine h_cond_t rfl rfl ?_; skip
        refine D_draw hp (by kernel_rfl) (by kernel_rfl) rfl rfl ?_; intro w hx hp; have hs := hp; (repeat (refine gLoad ?_; first | refine D_ldB rfl rfl rfl ?_ | refine D_ldFN rfl (by omega) rfl rfl rfl ?_))
        refine h_guard_by (fun h3 => ?_) (fun h3 => ?_); all_goals (rw [h3]; (first | replace h3 := of_decide_eq_true h3 | replace h3 := of_decide_eq_false h3 | skip); (repeat (first | (refine gGuard ?_; first | refine h_guard_yd rfl rfl rfl ?_ | refine h_guard_nd rfl rfl rfl ?_) | (refine gLoad ?_; first | refine D_ldB rfl rfl rfl ?_ | refine D_ldF rfl (by omega) (by omega) rfl rfl rfl ?_))))
        · refine h_guard_by (fun h4 => ?_) (fun h4 => ?_); all_goals (rw [h4]; (first | replace h4 := of_decide_eq_true h4 | replace h4 := of_decide_eq_false h4 | skip); (repeat (first | (refine gGuard ?_; first | refine h_guard_yd rfl rfl rfl ?_ | refine h_guard_nd rfl rfl rfl ?_) | (refine gLoad ?_; first | refine D_ldB rfl rfl rfl ?_ | refine D_ldFN rfl (by omega) rfl rfl rfl ?_ | refine D_ldF rfl (by omega) (by omega) rfl rfl rfl ?_))))
          · rw [e2] at h4
            refine h_cond_dec (fun h5 => ?_) (fun h5 => ?_)
            · rw [e2] at h5
              refine h_cond_t rfl rfl ?_; skip
              refine IH2 p p _ _ _ (by omega) (by rw [e4, e3]; rfl) ⟨by omega, ⟨by omega, fun _ => hfl.2 ⟨h3, h4, h5.symm⟩, fun r h1 h2 => by omega⟩, hp⟩
            · rw [e2] at h5
              refine h_cond_f rfl rfl ?_; skip
              refine IH2 p k _ _ _ (by omega) (by rw [e4]; rfl) ⟨by omega, ⟨k1, k2, hno fun hh => h5 (hfl.1 hh).2.2.symm⟩, hp⟩
          · rw [e2] at h4
            refine h_cond_f rfl rfl ?_; skip
            refine IH2 p k _ _ _ (by omega) (by rw [e4]; rfl) ⟨by omega, ⟨k1, k2, hno fun hh => h4 (hfl.1 hh).2.1⟩, hp⟩
        · refine h_cond_f rfl rfl ?_; skip
          refine IH2 p k _ _ _ (by omega) (by rw [e4]; rfl) ⟨by omega, ⟨k1, k2, hno fun hh => h3 (hfl.1 hh).1⟩, hp⟩
      · have hk2 : fstJ (flP x.n i) i = k := by
          by_cases hki : k < i
          · exact fstJ_at hki (k2 hki) fun r hr => k3 r (by omega) hr
          · obtain rfl : k = i := by omega
            exact fstJ_no fun r hr => k3 r (by omega) hr
        refine h_cond_f rfl rfl ?_; (repeat (refine U_litI hp rfl rfl rfl rfl rfl rfl rfl rfl rfl rfl ?_; intro w _ hx hp; refine ops_run nopre rfl ?_))
        refine U_append hp rfl rfl rfl rfl rfl rfl rfl (by decide) rfl (by first | omega | (simp only [List.length_append, List.length_cons, List.length_nil, List.length_take, List.length_drop, List.length_set, List.length_replicate, List.length_map]; omega)) rfl rfl ?_; intro b3 c3 w hp hnil; refine ops_run nopre rfl ?_; skip
        refine IH (i + 1) b3 c3 b2 c2 _ _ _ (by omega) (by rw [er k hk2, eo]; rfl) ⟨by omega, ?_⟩
        rw [er k hk2, eo]
        exact hp.drop
    · refine h_cond_f rfl rfl ?_; skip
      obtain rfl : i = x.seqs.length := by omega
      have hall : (begC x.n).take x.seqs.length = begC x.n := List.take_of_length_le (by omega)
      rw [hall] at hp ⊢
      refine h_loop3 [1, 3, 4] (fun (cl : List Int) (b : Option Addr) (cc : Nat) => [(1, .pointer (some ⟨b1, 0, none⟩)), (3, .slice b cl.length cc), (4, .slice b' (ownL x.seqs.length).length cc')])
        (fun cl b cc w' => clP x.n cl ∧ (∃ f, x.seqs.length - clNL cl < f ∧ regF x.n f cl = regL x.n) ∧ Hp w0 w' [rO 3 1 eI b cc cl, rO 3 1 eI b' cc' (ownL x.seqs.length), rB b1 28 x.cs]) (fun cl _ _ => x.seqs.length - clNL cl) (begC x.n) b cc rfl ⟨begC_P x.n, ⟨x.n.seqs.length + 1, by omega, rfl⟩, hp.f1⟩ ?_
      clear hp
      rintro cl b cc w1 ⟨hcl, ⟨f, hf, hreg⟩, hp⟩ IH C
      have hlen : cl.length = x.seqs.length := by rw [hcl.1, x.slen]
      have hcn := clNL_le cl
      obtain ⟨f, rfl⟩ : ∃ g, f = g + 1 := ⟨f - 1, by omega⟩
      rw [regF] at hreg
      refine h_run rfl ?_; skip
      refine D_draw hp (by kernel_rfl) (by kernel_rfl) rfl rfl ?_; intro w hx hp; have hs := hp; (repeat (refine D_ldB rfl rfl rfl ?_))
      refine h_callq rfl Try.func132 (by kernel_rfl) rfl (l16Count_h b cc cl _ hp.rd (by omega)) ?_; rintro _ w ⟨rfl, hx⟩; have hp := hp.ext hx; have hs := hs.ext hx; refine ⟨fun _ => hs, ?_⟩; refine D_ops rfl rfl ?_; skip
      refine h_cond_dec (fun hgt => ?_) (fun hgt => ?_)
      · rw [if_pos (by omega)] at hreg
        rw [← hreg, hxs]
        refine h_cond_t rfl rfl ?_; (repeat (refine R_ret ?_))
        exact ⟨b', cc', rfl, (hp.f2.f1.f2).tk 1⟩
      · rw [if_neg (by omega)] at hreg
        refine h_cond_f rfl rfl ?_; (repeat (refine H_ldB hp rfl rfl ?_))
        refine h_call rfl Try.func133 (by kernel_rfl) rfl (l16Refine_h x b cc cl _ hp.net hS hW hok hp.rd hcl (by omega)) ?_; rintro _ w ⟨b4, c4, rfl, hq⟩; have hx := hq.x; have hp := hp.call1 hq; refine ops_run nopre rfl ?_; skip
        have hrl := refL_len x.n cl
        by_cases he : refL x.n cl = cl
        · rw [if_pos he] at hreg
          refine h_call rfl Try.func134 (by kernel_rfl) rfl ((l16Same_h b b4 cc c4 cl (refL x.n cl) _ hp.rd hp.rd (by omega) (by omega)).yes he.symm) ?_; rintro _ w ⟨rfl, hx⟩; have hp := hp.ext hx; refine ops_run nopre rfl ?_; skip
          refine h_cond_t rfl rfl ?_; (repeat (refine R_ret ?_))
          rw [← hreg]
          exact ⟨b, cc, rfl, (hp.f1).tk 1⟩
        · rw [if_neg he] at hreg
          refine h_call rfl Try.func134 (by kernel_rfl) rfl ((l16Same_h b b4 cc c4 cl (refL x.n cl) _ hp.rd hp.rd (by omega) (by omega)).no (fun h => he h.symm)) ?_; rintro _ w ⟨rfl, hx⟩; have hp := hp.ext hx; refine ops_run nopre rfl ?_; skip
          refine h_cond_f rfl rfl ?_; skip
          have hm := ref_more hcl he
          have hle2 := clNL_le (refL x.n cl)
          exact IH (refL x.n cl) b4 c4 _ _ _ (by omega) rfl ⟨refL_P hcl, ⟨f, by omega, hreg⟩, (hp.f1.f3.f3.f3).tk 3⟩
  · refine h_call rfl Try.func56 (by kernel_rfl) rfl ((specNetOk_h x _ hp.net hS hW).ff (netOkB_no hok)) ?_; rintro _ w ⟨rfl, hx⟩; have hp := hp.ext hx; refine ops_run nopre rfl ?_; skip
    rw [ifOk_no hok]
    refine h_cond_t rfl rfl ?_; (repeat (refine R_ret ?_))
    exact ⟨_, _, rfl, hp.tk 1⟩
end Go.Proofs
