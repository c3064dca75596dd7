/- The reference's order of assignments and its check of flat modules; each under its stated conditions. -/
import Derived.Test.YtiepmliokblkjaaGreatFlatT
set_option linter.all false
namespace Go.Xw
def waitsB (ops : List OpL) (O : List Bool) : Bool := ops.any fun o => (decide (o.kind = 2) || decide (o.kind = 3)) && O.getD o.a.toNat default
theorem waitsB_iff {ops : List OpL} {O : List Bool} : waitsB ops O = true ↔ ∃ o, o ∈ ops ∧ (o.kind = 2 ∨ o.kind = 3) ∧ O.getD o.a.toNat default = true := by
 unfold waitsB
 rw [List.any_eq_true]
 constructor
 ·rintro ⟨o, h1, h2⟩
  simp only [Bool.and_eq_true, Bool.or_eq_true, decide_eq_true_eq] at h2
  exact ⟨o, h1, h2⟩
 ·rintro ⟨o, h1, h2⟩
  exact ⟨o, h1, by simp only [Bool.and_eq_true, Bool.or_eq_true, decide_eq_true_eq]; exact h2⟩
theorem waitsB_no {ops : List OpL} {O : List Bool} (h : ∀ j, j < ops.length → ¬ (((ops.getD j default).kind = 2 ∨ (ops.getD j default).kind = 3) ∧ O.getD (ops.getD j default).a.toNat default = true)) : waitsB ops O = false := by
 cases hr : waitsB ops O with
 | false => rfl
 | true =>
  obtain ⟨o, ho, h2⟩ := waitsB_iff.1 hr
  obtain ⟨j, hj, rfl⟩ := List.getElem_of_mem ho
  have := h j hj
  rw [List.getD_eq_getElem?_getD, List.getElem?_eq_getElem hj] at this
  exact absurd h2 this
def RdsP (ops : List OpL) (m : Int) : Prop := ∀ o, o ∈ ops → (o.kind = 2 ∨ o.kind = 3) → 0 ≤ o.a ∧ o.a < m
theorem OpsOkP.rds {ops : List OpL} {m : Int} (h : OpsOkP ops m) : RdsP ops m := fun o ho hk => by
 obtain ⟨i, hi, he⟩ := List.getElem_of_mem ho
 have h2 := (h.each i hi).2
 rw [List.getD_eq_getElem?_getD, List.getElem?_eq_getElem hi] at h2
 have h2 : opOkP ops[i] m := h2
 rw [he] at h2
 unfold opOkP at h2
 rcases hk with hk | hk
 ·rw [if_neg (by omega), if_pos hk] at h2; exact h2.1
 ·rw [if_neg (by omega), if_neg (by omega), if_pos hk] at h2; exact h2.1
theorem waitsB_open {n : ModL} {todo : List Nat} {i : Nat} (h : RdsP (opsL n i) n.sg.length) : waitsB (opsL n i) (opL n todo) = !freeB n todo i := by
 have key : waitsB (opsL n i) (opL n todo) = true ↔ waitsP n todo (opsL n i) := by
  rw [waitsB_iff]
  unfold waitsP
  constructor
  ·rintro ⟨o, h1, h2, h3⟩
   have hb := h o h1 h2
   have h4 := (opL_get (todo := todo) (s := o.a.toNat) (by omega)).1 h3
   rw [Int.toNat_of_nonneg hb.1] at h4
   exact ⟨o, h1, h2, h4⟩
  ·rintro ⟨o, h1, h2, h3⟩
   have hb := h o h1 h2
   refine ⟨o, h1, h2, (opL_get (todo := todo) (s := o.a.toNat) (by omega)).2 ?_⟩
   rw [Int.toNat_of_nonneg hb.1]
   exact h3
 have k2 := waits_iff (n := n) (todo := todo) (i := i)
 cases hf : freeB n todo i with
 | true =>
  cases hw : waitsB (opsL n i) (opL n todo) with
  | false => rfl
  | true => exact absurd (key.1 hw) (k2.1 hf)
 | false =>
  cases hw : waitsB (opsL n i) (opL n todo) with
  | true => rfl
  | false =>
   have : freeB n todo i = true := k2.2 fun hh => by rw [key.2 hh] at hw; exact Bool.noConfusion hw
   rw [hf] at this; exact Bool.noConfusion this
end Go.Xw
namespace Go.Proofs
open Go.Xw
set_option maxRecDepth 100000
set_option maxHeartbeats 2000000
attribute [local irreducible] Holds elemAddr
theorem specPortWidths_h (x : ModA) (k : Int) (w0 : World) (hM : ModR w0 x) (hl : x.sg.length ≤ 30) :
  Ret Tryz.prog 28 [x.v, .int .i64 k] w0 (fun v w => ∃ b c, v = .slice b (pwL x.n k).length c ∧ Hp w0 w [rO 3 1 eI b c (pwL x.n k)]) := by
 refine enter Tryz.S28ok _ _ rfl rfl (by show _ ≤ _; simp only [List.length]; decide) (fun C => ?_); have hp := Hp.nil w0; refine h_run rfl ?_; skip; (first | refine H_box hp ?_ | refine H_alloc hp rfl ?_); intro w b2 hx hp; refine ops_run nopre rfl ?_; (repeat (first | (refine gLoad ?_; refine H_ldB hp rfl rfl ?_) | (refine gBuild ?_; refine U_litI hp rfl rfl rfl rfl rfl rfl rfl rfl rfl rfl ?_; intro w _ hx hp; refine ops_run nopre rfl ?_)))
 refine h_cond_dec (fun hg => False.elim (by omega)) (fun _ => ?_); refine h_cond_f rfl rfl ?_; skip
 refine h_loop3 [1, 2, 5, 6] (fun (i : Nat) (b : Option Addr) (c : Nat) => [(1, .int .i64 k), (2, .pointer (some ⟨b2, 0, none⟩)), (5, .slice b (pwT (x.sg.take i) k).length c), (6, .int .i64 (i : Int))])
  (fun i b c w' => i ≤ x.sg.length ∧ Hp w0 w' [rO 3 1 eI b c (pwT (x.sg.take i) k), rB b2 41 x.cs]) (fun i _ _ => x.sg.length - i) 0 _ _ rfl ⟨by omega, hp⟩ ?_
 clear hp
 rintro i b c w1 ⟨hi, hp⟩ IH C
 have hPl := pwT_len (x.sg.take i) k
 rw [List.length_take] at hPl
 obtain ⟨P, hP⟩ : ∃ P, P = pwT (x.sg.take i) k := ⟨_, rfl⟩
 rw [← hP] at hp hPl ⊢
 refine h_run rfl ?_; (repeat (refine H_ldB hp rfl rfl ?_))
 refine h_cond_dec (fun hlt => ?_) (fun hlt => ?_)
 ·have hlt' : i < x.sg.length := by omega
  have eT := take_snocC hlt'
  refine h_cond_t rfl rfl ?_; (repeat (refine gLoad ?_; first | refine H_ldB hp rfl rfl ?_ | refine H_ldFN hp rfl (by omega) rfl rfl ?_))
  refine h_cond_dec (fun hk => ?_) (fun hk => ?_)
  ·have eN : pwT (x.sg.take (i + 1)) k = P ++ [(x.sg.getD i default).width] := by rw [eT, pwT_yes hk, ← hP]
   refine h_cond_t rfl rfl ?_; (repeat (first | (refine gLoad ?_; first | refine H_ldB hp rfl rfl ?_ | refine H_ldFN hp rfl (by omega) rfl rfl ?_) | (refine gBuild ?_; refine U_litI hp rfl rfl rfl rfl rfl rfl rfl rfl rfl rfl ?_; intro w _ hx hp; refine ops_run nopre rfl ?_)))
   refine U_append hp rfl rfl rfl rfl rfl rfl rfl (by decide) rfl (by first | omega | (simp only [List.length_append, List.length_cons, List.length_nil, List.length_take, List.length_drop, List.length_set, List.length_replicate, List.length_map]; omega)) rfl rfl ?_; intro b' c' w hp hnil; refine ops_run nopre rfl ?_; skip
   refine IH (i + 1) b' c' _ _ _ (by omega) (by rw [eN]; rfl) ⟨by omega, ?_⟩
   rw [eN]
   exact hp.drop
  ·have eN : pwT (x.sg.take (i + 1)) k = P := by rw [eT, pwT_no hk, ← hP]
   refine h_cond_f rfl rfl ?_; skip
   refine IH (i + 1) b c _ _ _ (by omega) (by rw [eN]; rfl) ⟨by omega, ?_⟩
   rw [eN]
   exact hp
 ·refine h_cond_f rfl rfl ?_; (repeat (refine R_ret ?_))
  obtain rfl : i = x.sg.length := by omega
  have eA : P = pwL x.n k := by rw [hP, List.take_length]; rfl
  rw [eA] at hp ⊢
  exact ⟨b, c, rfl, hp.tk 1⟩
theorem l06Waits_h (a : Option Addr) (c n : Nat) (ops : List OpL) (hn : ops.length = n) (b : Option Addr) (cb m : Nat) (O : List Bool) (hm : O.length = m) (w0 : World) (hR : Rd w0 a 3 eOp ops) (hB : Rd w0 b 1 eB O) (hl : ops.length ≤ 1048576) (hml : O.length ≤ 1048576) (hr : RdsP ops O.length) :
  Ret Tryz.prog 76 [.slice a n c, .slice b m cb] w0 (fun v w => v = .bool (waitsB ops O) ∧ Ext w0 w) := by
 subst hn
 subst hm
 refine enter Tryz.S76ok _ _ rfl rfl (by show _ ≤ _; simp only [List.length]; decide) (fun C => ?_); have hp := Hp.nil w0; refine h_run rfl ?_; skip
 refine h_loop [0, 1, 5] (fun (i : Nat) => [(0, .slice a ops.length c), (1, .slice b O.length cb), (5, .int .i64 (i : Int))])
  (fun i w' => (i ≤ ops.length ∧ ∀ j, j < i → ¬ (((ops.getD j default).kind = 2 ∨ (ops.getD j default).kind = 3) ∧ O.getD (ops.getD j default).a.toNat default = true)) ∧ Hp w0 w' []) (fun i => ops.length - i) 0 rfl ⟨⟨by omega, fun j hj => by omega⟩, hp⟩ ?_
 clear hp
 rintro i w1 ⟨⟨hi, hall⟩, hp⟩ IH C
 refine h_run rfl ?_; skip
 refine h_cond_dec (fun hlt => ?_) (fun hlt => ?_)
 ·have hlt' : i < ops.length := by omega
  have hri := hr _ (getD_mem hlt')
  refine h_cond_t rfl rfl ?_; (repeat (refine H_ldFN hp rfl (by omega) rfl rfl ?_))
  refine h_guard_by (fun h2 => ?_) (fun h2 => ?_); all_goals (rw [h2]; (first | replace h2 := of_decide_eq_true h2 | replace h2 := of_decide_eq_false h2 | skip); (repeat (first | (refine gGuard ?_; first | refine h_guard_y rfl nopre rfl ?_ | refine h_guard_n rfl nopre rfl ?_) | (refine gLoad ?_; first | refine H_ldFN hp rfl (by omega) rfl rfl ?_ | refine H_ldE hp rfl (by omega) (by omega) rfl rfl ?_))))
  ·have hb := hri (.inl h2)
   skip
   cases hv : O.getD (ops.getD i default).a.toNat default with
   | true =>
    refine h_cond_t rfl rfl ?_; (repeat (refine R_ret ?_))
    exact ⟨by rw [waitsB_iff.2 ⟨_, getD_mem hlt', .inl h2, hv⟩], hp.x⟩
   | false =>
    refine h_cond_f rfl rfl ?_; skip
    refine IH (i + 1) _ _ _ (by omega) rfl ⟨⟨by omega, fun j hj => ?_⟩, hp⟩
    by_cases hj2 : j < i
    ·exact hall j hj2
    ·obtain rfl : j = i := by omega
     exact fun h => by rw [hv] at h; exact Bool.noConfusion h.2
  ·refine h_guard_by (fun h3 => ?_) (fun h3 => ?_); all_goals (rw [h3]; (first | replace h3 := of_decide_eq_true h3 | replace h3 := of_decide_eq_false h3 | skip); (repeat (first | (refine gGuard ?_; first | refine h_guard_y rfl nopre rfl ?_ | refine h_guard_n rfl nopre rfl ?_) | (refine gLoad ?_; first | refine H_ldFN hp rfl (by omega) rfl rfl ?_ | refine H_ldE hp rfl (by omega) (by omega) rfl rfl ?_))))
   ·have hb := hri (.inr h3)
    skip
    cases hv : O.getD (ops.getD i default).a.toNat default with
    | true =>
     refine h_cond_t rfl rfl ?_; (repeat (refine R_ret ?_))
     exact ⟨by rw [waitsB_iff.2 ⟨_, getD_mem hlt', .inr h3, hv⟩], hp.x⟩
    | false =>
     refine h_cond_f rfl rfl ?_; skip
     refine IH (i + 1) _ _ _ (by omega) rfl ⟨⟨by omega, fun j hj => ?_⟩, hp⟩
     by_cases hj2 : j < i
     ·exact hall j hj2
     ·obtain rfl : j = i := by omega
      exact fun h => by rw [hv] at h; exact Bool.noConfusion h.2
   ·refine h_cond_f rfl rfl ?_; skip
    refine IH (i + 1) _ _ _ (by omega) rfl ⟨⟨by omega, fun j hj => ?_⟩, hp⟩
    by_cases hj2 : j < i
    ·exact hall j hj2
    ·obtain rfl : j = i := by omega
     exact fun h => by rcases h.1 with h | h; exact h2 h; exact h3 h
 ·refine h_cond_f rfl rfl ?_; (repeat (refine R_ret ?_))
  obtain rfl : i = ops.length := by omega
  exact ⟨by rw [waitsB_no hall], hp.x⟩
theorem l06Sum_h (a : Option Addr) (c n : Nat) (X : List Int) (hn : X.length = n) (w0 : World) (hR : Rd w0 a 1 eI X) (hl : X.length ≤ 30) (hb : ∀ i, i < X.length → 0 ≤ X.getD i default ∧ X.getD i default ≤ 4) :
  Ret Tryz.prog 27 [.slice a n c] w0 (fun v w => v = .int .i64 (sumL X) ∧ Ext w0 w) := by
 subst hn
 refine enter Tryz.S27ok _ _ rfl rfl (by show _ ≤ _; simp only [List.length]; decide) (fun C => ?_); have hp := Hp.nil w0; refine h_run rfl ?_; skip
 refine h_loop [0, 3, 4] (fun (i : Nat) => [(0, .slice a X.length c), (3, .int .i64 (sumL (X.take i))), (4, .int .i64 (i : Int))])
  (fun i w' => (i ≤ X.length ∧ 0 ≤ sumL (X.take i) ∧ sumL (X.take i) ≤ 4 * i) ∧ Hp w0 w' []) (fun i => X.length - i) 0 rfl ⟨⟨by omega, by simp [sumL], by simp [sumL]⟩, hp⟩ ?_
 clear hp
 rintro i w1 ⟨⟨hi, h0, h1⟩, hp⟩ IH C
 refine h_run rfl ?_; skip
 refine h_cond_dec (fun hlt => ?_) (fun hlt => ?_)
 ·have hlt' : i < X.length := by omega
  have hbi := hb i hlt'
  have eN : sumL (X.take (i + 1)) = sumL (X.take i) + X.getD i default := by rw [take_snocC hlt', sumL_snoc]
  refine h_cond_t rfl rfl ?_; (repeat (refine H_ldEN hp rfl (by omega) rfl rfl ?_))
  exact IH (i + 1) _ _ _ (by omega) (by rw [eN]; rfl) ⟨⟨by omega, by omega, by omega⟩, hp⟩
 ·refine h_cond_f rfl rfl ?_; (repeat (refine R_ret ?_))
  obtain rfl : i = X.length := by omega
  rw [List.take_length]
  exact ⟨rfl, hp.x⟩
theorem specEvalOrder_h (x : ModA) (w0 : World) (hM : ModR w0 x) (hS : ModS x.n) (hW : ModW x.n) :
  Ret Tryz.prog 29 [x.v] w0 (fun v w => ∃ b c, v = .tuple ⟨[.slice b (evR x.n).1.length c, .bool (evR x.n).2]⟩ ∧ Hp w0 w [rO 3 1 eI b c (natsI (evR x.n).1)]) := by
 have hin : x.n.ins = [] ↔ x.ins = [] := by show seqsOf x.ins = [] ↔ _; unfold seqsOf; rw [List.map_eq_nil_iff]
 have s4 : x.ins.length ≤ 1048576 := by have := hS.ins; rw [x.ilen] at this; exact this
 refine enter Tryz.S29ok _ _ rfl rfl (by show _ ≤ _; simp only [List.length]; decide) (fun C => ?_); have hp := Hp.nil w0; refine h_run rfl ?_; skip; (first | refine H_box hp ?_ | refine H_alloc hp rfl ?_); intro w b1 hx hp; refine ops_run nopre rfl ?_; (repeat (first | (refine gLoad ?_; refine H_ldB hp rfl rfl ?_) | (refine gBuild ?_; refine U_litI hp rfl rfl rfl rfl rfl rfl rfl rfl rfl rfl ?_; intro w _ hx hp; refine ops_run nopre rfl ?_)))
 by_cases hi0 : x.ins = []
 ·have hil : x.ins.length = 0 := by rw [hi0]; rfl
  refine h_guard_by (fun hg => False.elim (by have hg := of_decide_eq_true hg; omega)) (fun hg => ?_); rw [hg]; clear hg; (repeat (first | (refine gGuard ?_; refine h_guard_y rfl nopre rfl ?_) | (refine gLoad ?_; refine H_ldB hp rfl rfl ?_)))
  refine H_lit hp ModA.cs [x] rfl rfl rfl rfl (s := 4) rfl (by decide) (by infer_instance) (by rfl) (by rfl) (by rfl) (by decide) ?_; intro w bd hx hp; refine ops_run nopre rfl ?_; (repeat (refine h_guard_y rfl nopre rfl ?_))
  by_cases hm : ModOkP x.n
  ·refine h_call rfl Tryz.func75 (by kernel_rfl) rfl ((specDesignOk_h (some ⟨bd, 0, none⟩) 1 [x] rfl x rfl hi0 _ hp.rd hp.mod hS hW).tt (pB_iff.2 hm)) ?_; rintro _ w ⟨rfl, hx⟩; have hp := hp.ext hx; refine ops_run nopre rfl ?_; (repeat (refine h_guard_y rfl nopre rfl ?_))
   refine h_cond_f rfl rfl ?_; (repeat (refine H_ldB hp rfl rfl ?_))
   have hp := hp.drop
   have l1 : x.sg.length ≤ 30 := hm.l1
   have l2 : x.asg.length ≤ 30 := by have := hm.l2; rw [x.alen] at this; exact this
   have hol : ∀ T, (opL x.n T).length = x.sg.length := fun T => opL_len x.n T
   refine H_make hp eB false rfl rfl rfl rfl (s := 1) rfl (by decide) rfl (by unfold maxLen; omega) (by show 1 * _ ≤ _; omega) ?_; intro w b5 hx hp; refine ops_run nopre rfl ?_; skip
   have e1 : List.replicate x.sg.length false = opL x.n (tdT x.n 0) := (opL_nil x.n).symm
   rw [e1] at hp
   skip
   refine h_loop3 [1, 4, 5, 6, 7] (fun (i : Nat) (b : Option Addr) (c : Nat) => [(1, .pointer (some ⟨b1, 0, none⟩)), (4, .slice b 0 c), (5, .slice (some ⟨b5, 0, none⟩) x.sg.length x.sg.length), (6, .int .i64 ((tdT x.n i).length : Nat)), (7, .int .i64 (i : Int))])
    (fun i b c w' => i ≤ x.asg.length ∧ Hp w0 w' [rO 4 1 eB (some ⟨b5, 0, none⟩) x.sg.length (opL x.n (tdT x.n i)), rO 3 1 eI b c ([] : List Int), rB b1 41 x.cs]) (fun i _ _ => x.asg.length - i) 0 _ _ rfl ⟨by omega, hp⟩ ?_
   clear hp
   rintro i b c w1 ⟨hi, hp⟩ IH C
   have hTl := tdT_len x.n i
   have hO := hol (tdT x.n i)
   refine h_run rfl ?_; (repeat (refine H_ldB hp rfl rfl ?_))
   refine h_cond_dec (fun hlt => ?_) (fun hlt => ?_)
   ·have hlt' : i < x.asg.length := by omega
    have hai := hm.asg i (by rw [x.alen]; exact hlt')
    rw [asAt] at hai
    have hin1 : inL x.n (tgL x.n i) := by unfold tgL; rw [asAt]; exact hai.1
    have hin2 := hai.1
    unfold inL at hin2
    change 0 ≤ (x.asg.getD i default).tg ∧ (x.asg.getD i default).tg < x.sg.length at hin2
    have etg : tgL x.n i = (x.asg.getD i default).tg := by unfold tgL; rw [asAt]
    have ek : kindL x.n (tgL x.n i) = (x.sg.getD (x.asg.getD i default).tg.toNat default).kind := by rw [etg]; rfl
    refine h_cond_t rfl rfl ?_; skip
    refine D_draw hp (by kernel_rfl) (by kernel_rfl) rfl rfl ?_; intro w hx hp; have hs := hp; (repeat (refine gLoad ?_; first | refine D_ldB rfl rfl rfl ?_ | refine D_ldFN rfl (by omega) rfl rfl rfl ?_ | refine D_ldF rfl (by omega) (by omega) rfl rfl rfl ?_))
    skip
    refine h_cond_dec (fun hk => ?_) (fun hk => ?_)
    ·have eT : tdT x.n (i + 1) = tdT x.n i ++ [i] := tdT_yes (by rw [ek]; exact hk)
     have eN := opL_add (T := tdT x.n i) hin1
     rw [← eT, etg] at eN
     have hTl2 : (tdT x.n (i + 1)).length = (tdT x.n i).length + 1 := by rw [eT]; simp
     refine h_cond_t rfl rfl ?_; (repeat (first | (refine gLoad ?_; first | refine H_ldB hp rfl rfl ?_ | refine H_ldFN hp rfl (by omega) rfl rfl ?_) | (refine gStore ?_; refine U_st0 hp rfl rfl rfl (by omega) (by decide) rfl rfl ?_; intro w hp; refine ops_run nopre rfl ?_)))
     refine IH (i + 1) b c _ _ _ (by omega) (by rw [hTl2]; rfl) ⟨by omega, ?_⟩
     rw [← eN]
     exact hp
    ·have eT : tdT x.n (i + 1) = tdT x.n i := tdT_no (by rw [ek]; exact Decidable.not_not.1 hk)
     refine h_cond_f rfl rfl ?_; skip
     refine IH (i + 1) b c _ _ _ (by omega) (by rw [eT]; rfl) ⟨by omega, ?_⟩
     rw [eT]
     exact hp
   ·refine h_cond_f rfl rfl ?_; skip
    obtain rfl : i = x.asg.length := by omega
    clear IH
    have e0 : tdT x.n x.asg.length = todo0 x.n := by unfold tdT todo0; rw [x.alen]
    rw [e0] at hp hO hTl ⊢
    refine h_loop4 [1, 4, 5, 6] (fun (todo : List Nat) (out : List Nat) (oa : Option Addr) (oc : Nat) => [(1, .pointer (some ⟨b1, 0, none⟩)), (4, .slice oa (natsI out).length oc), (5, .slice (some ⟨b5, 0, none⟩) x.sg.length x.sg.length), (6, .int .i64 (todo.length : Nat))])
     (fun todo out oa oc w' => (TodoP x.n todo out ∧ evtL x.n todo.length todo out = evtO x.n) ∧ Hp w0 w' [rO 4 1 eB (some ⟨b5, 0, none⟩) x.sg.length (opL x.n todo), rO 3 1 eI oa oc (natsI out), rB b1 41 x.cs]) (fun todo _ _ _ => todo.length) (todo0 x.n) [] b c rfl ⟨⟨todo0_ok x.n, (evtO_yes (hin.2 hi0) hm).symm⟩, hp⟩ ?_
    clear hp
    rintro todo out oa oc w1 ⟨⟨hTd, hev⟩, hp⟩ IH C
    have htl : todo.length ≤ x.asg.length := by have := hTd.len; omega
    have hol2 : out.length ≤ x.asg.length := by have := hTd.len; omega
    have eo := natsI_len out
    have hO := hol todo
    refine h_run rfl ?_; skip
    refine h_cond_dec (fun hpos => ?_) (fun hpos => ?_)
    ·have htp : 0 < todo.length := by omega
     refine h_cond_t rfl rfl ?_; skip
     refine h_loop2 [1, 4, 5, 6, 8, 9] (fun (i : Nat) (nx : Int) => [(1, .pointer (some ⟨b1, 0, none⟩)), (4, .slice oa (natsI out).length oc), (5, .slice (some ⟨b5, 0, none⟩) x.sg.length x.sg.length), (6, .int .i64 (todo.length : Nat)), (8, .int .i64 nx), (9, .int .i64 (i : Int))])
      (fun i nx w' => (i ≤ x.asg.length ∧ ((nx = -1 ∧ ∀ j, j < i → ¬ (j ∈ todo ∧ freeB x.n todo j = true)) ∨ ∃ q : Nat, nx = q ∧ q ∈ todo ∧ freeB x.n todo q = true ∧ ∀ j, j < q → ¬ (j ∈ todo ∧ freeB x.n todo j = true))) ∧ Hp w0 w' [rO 4 1 eB (some ⟨b5, 0, none⟩) x.sg.length (opL x.n todo), rO 3 1 eI oa oc (natsI out), rB b1 41 x.cs]) (fun i _ => x.asg.length - i) 0 (-1) rfl ⟨⟨by omega, .inl ⟨rfl, fun j hj => by omega⟩⟩, hp⟩ ?_
     clear hp
     rintro i nx w1 ⟨⟨hi, hnx⟩, hp⟩ IH4 C
     refine h_run rfl ?_; (repeat (refine H_ldB hp rfl rfl ?_))
     refine h_guard_by (fun hlt => ?_) (fun hlt => ?_); all_goals (rw [hlt]; (first | replace hlt := of_decide_eq_true hlt | replace hlt := of_decide_eq_false hlt | skip); (repeat (refine gGuard ?_; first | refine h_guard_y rfl nopre rfl ?_ | refine h_guard_n rfl nopre rfl ?_)))
     ·have hlt' : i < x.asg.length := by omega
      rcases hnx with ⟨rfl, hnf⟩ | ⟨q, rfl, hq1, hq2, hq3⟩
      ·have hai := hm.asg i (by rw [x.alen]; exact hlt')
       rw [asAt] at hai
       have hin1 : inL x.n (tgL x.n i) := by unfold tgL; rw [asAt]; exact hai.1
       have hin2 := hai.1
       unfold inL at hin2
       change 0 ≤ (x.asg.getD i default).tg ∧ (x.asg.getD i default).tg < x.sg.length at hin2
       have etg : tgL x.n i = (x.asg.getD i default).tg := by unfold tgL; rw [asAt]
       have eop : opsL x.n i = (x.asg.getD i default).ops := by unfold opsL; rw [asAt]
       have hro := hM.asg.at_ hlt'
       have eol : (x.asg.getD i default).ops.length ≤ 1048576 := by have := hS.ops i (by rw [x.alen]; exact hlt'); rw [x.aops] at this; exact this
       have hrd : RdsP (x.asg.getD i default).ops (opL x.n todo).length := by rw [hO]; exact hai.2.2.rds
       have hog : (opL x.n todo).getD (x.asg.getD i default).tg.toNat default = true ↔ i ∈ todo := by
        rw [opL_get (by show _ < x.sg.length; omega), Int.toNat_of_nonneg hin2.1, ← etg]
        exact open_iff hm hTd (by rw [x.alen]; exact hlt')
       refine h_cond_t rfl rfl ?_; (repeat (refine gLoad ?_; first | refine H_ldB hp rfl rfl ?_ | refine H_ldFN hp rfl (by omega) rfl rfl ?_ | refine H_ldE hp rfl (by omega) (by omega) rfl rfl ?_))
       cases hv : (opL x.n todo).getD (x.asg.getD i default).tg.toNat default with
       | false =>
        (repeat (refine h_guard_n rfl nopre rfl ?_))
        refine h_cond_f rfl rfl ?_; skip
        refine IH4 (i + 1) (-1) _ _ _ (by omega) rfl ⟨⟨by omega, .inl ⟨rfl, fun j hj => ?_⟩⟩, hp⟩
        by_cases hj2 : j < i
        ·exact hnf j hj2
        ·obtain rfl : j = i := by omega
         exact fun h => by rw [hog.2 h.1] at hv; exact Bool.noConfusion hv
       | true =>
        have hmem := hog.1 hv
        (repeat (first | (refine gGuard ?_; refine h_guard_y rfl nopre rfl ?_) | (refine gLoad ?_; first | refine H_ldB hp rfl rfl ?_ | refine H_ldFN hp rfl (by omega) rfl rfl ?_)))
        refine h_call rfl Tryz.func76 (by kernel_rfl) rfl (l06Waits_h _ _ _ (x.asg.getD i default).ops rfl (some ⟨b5, 0, none⟩) x.sg.length x.sg.length (opL x.n todo) hO _ hp.rd hp.rd eol (by omega) hrd) ?_; rintro _ w ⟨rfl, hx⟩; have hp := hp.ext hx; refine ops_run nopre rfl ?_; (repeat (refine h_guard_y rfl nopre rfl ?_))
        rw [← eop, waitsB_open (by rw [eop]; exact hai.2.2.rds)]
        cases hf : freeB x.n todo i with
        | true =>
         refine h_cond_t rfl rfl ?_; skip
         exact IH4 (i + 1) (i : Int) _ _ _ (by omega) rfl ⟨⟨by omega, .inr ⟨i, rfl, hmem, hf, hnf⟩⟩, hp⟩
        | false =>
         refine h_cond_f rfl rfl ?_; skip
         refine IH4 (i + 1) (-1) _ _ _ (by omega) rfl ⟨⟨by omega, .inl ⟨rfl, fun j hj => ?_⟩⟩, hp⟩
         by_cases hj2 : j < i
         ·exact hnf j hj2
         ·obtain rfl : j = i := by omega
          exact fun h => by rw [hf] at h; exact Bool.noConfusion h.2
      ·refine h_cond_dec (fun hg => False.elim (by omega)) (fun _ => ?_); refine h_cond_f rfl rfl ?_; skip
       clear IH4
       have hqa := hTd.tin q hq1
       rw [x.alen] at hqa
       have hqa1 := hqa.1
       have hai := hm.asg q (by rw [x.alen]; exact hqa1)
       rw [asAt] at hai
       have hin2 := hai.1
       unfold inL at hin2
       change 0 ≤ (x.asg.getD q default).tg ∧ (x.asg.getD q default).tg < x.sg.length at hin2
       have etg : tgL x.n q = (x.asg.getD q default).tg := by unfold tgL; rw [asAt]
       obtain ⟨k, hkl, hfi, hke⟩ := find_some hTd hq1 hq2 hq3
       have hel : (todo.eraseIdx k).length = todo.length - 1 := List.length_eraseIdx_of_lt hkl
       have eN := opL_del hm hTd hkl
       rw [hke, etg] at eN
       refine h_cond_dec (fun hg => False.elim (by omega)) (fun _ => ?_); refine h_cond_f rfl rfl ?_; (repeat (refine U_litI hp rfl rfl rfl rfl rfl rfl rfl rfl rfl rfl ?_; intro w _ hx hp; refine ops_run nopre rfl ?_))
       refine U_append hp rfl rfl rfl rfl rfl rfl rfl (by decide) rfl (by first | omega | (simp only [List.length_append, List.length_cons, List.length_nil, List.length_take, List.length_drop, List.length_set, List.length_replicate, List.length_map]; omega)) rfl rfl ?_; intro oa' oc' w hp hnil; refine ops_run nopre rfl ?_; (repeat (first | (refine gLoad ?_; first | refine H_ldB hp rfl rfl ?_ | refine H_ldFN hp rfl (by omega) rfl rfl ?_) | (refine gStore ?_; refine U_st0 hp rfl rfl rfl (by omega) (by decide) rfl rfl ?_; intro w hp; refine ops_run nopre rfl ?_)))
       have eo2 : natsI out ++ [(q : Int)] = natsI (out ++ [todo.getD k 0]) := by rw [natsI_snoc, hke]
       rw [eo2] at hp ⊢
       rw [eN] at hp
       refine IH (todo.eraseIdx k) (out ++ [todo.getD k 0]) oa' oc' _ _ _ (by omega) ?_ ⟨⟨hTd.step hkl, ?_⟩, ?_⟩
       ·rw [hel, show ((todo.length - 1 : Nat) : Int) = (todo.length : Int) - 1 by omega]; rfl
       ·rw [← hev, show todo.length = (todo.length - 1) + 1 by omega, hel, evtL, hfi]
       ·exact hp.drop
     ·obtain rfl : i = x.asg.length := by omega
      refine h_cond_f rfl rfl ?_; skip
      rcases hnx with ⟨rfl, hnf⟩ | ⟨q, rfl, hq1, hq2, hq3⟩
      ·clear IH4 IH
       have hnone : todo.findIdx? (freeB x.n todo) = none := find_none hTd fun j hj => hnf j (by rw [x.alen] at hj; exact hj)
       have he : evtO x.n = none := by
        rw [← hev, show todo.length = (todo.length - 1) + 1 by omega, evtL, hnone]
       rw [evR_none he]
       refine h_cond_t rfl rfl ?_; (repeat (first | (refine gBuild ?_; refine U_litI hp rfl rfl rfl rfl rfl rfl rfl rfl rfl rfl ?_; intro w _ hx hp; refine ops_run nopre rfl ?_) | refine R_ret ?_))
       exact ⟨_, _, rfl, hp.tk 1⟩
      ·clear IH4
       have hqa := hTd.tin q hq1
       rw [x.alen] at hqa
       have hqa1 := hqa.1
       have hai := hm.asg q (by rw [x.alen]; exact hqa1)
       rw [asAt] at hai
       have hin2 := hai.1
       unfold inL at hin2
       change 0 ≤ (x.asg.getD q default).tg ∧ (x.asg.getD q default).tg < x.sg.length at hin2
       have etg : tgL x.n q = (x.asg.getD q default).tg := by unfold tgL; rw [asAt]
       obtain ⟨k, hkl, hfi, hke⟩ := find_some hTd hq1 hq2 hq3
       have hel : (todo.eraseIdx k).length = todo.length - 1 := List.length_eraseIdx_of_lt hkl
       have eN := opL_del hm hTd hkl
       rw [hke, etg] at eN
       refine h_cond_dec (fun hg => False.elim (by omega)) (fun _ => ?_); refine h_cond_f rfl rfl ?_; (repeat (refine U_litI hp rfl rfl rfl rfl rfl rfl rfl rfl rfl rfl ?_; intro w _ hx hp; refine ops_run nopre rfl ?_))
       refine U_append hp rfl rfl rfl rfl rfl rfl rfl (by decide) rfl (by first | omega | (simp only [List.length_append, List.length_cons, List.length_nil, List.length_take, List.length_drop, List.length_set, List.length_replicate, List.length_map]; omega)) rfl rfl ?_; intro oa' oc' w hp hnil; refine ops_run nopre rfl ?_; (repeat (first | (refine gLoad ?_; first | refine H_ldB hp rfl rfl ?_ | refine H_ldFN hp rfl (by omega) rfl rfl ?_) | (refine gStore ?_; refine U_st0 hp rfl rfl rfl (by omega) (by decide) rfl rfl ?_; intro w hp; refine ops_run nopre rfl ?_)))
       have eo2 : natsI out ++ [(q : Int)] = natsI (out ++ [todo.getD k 0]) := by rw [natsI_snoc, hke]
       rw [eo2] at hp ⊢
       rw [eN] at hp
       refine IH (todo.eraseIdx k) (out ++ [todo.getD k 0]) oa' oc' _ _ _ (by omega) ?_ ⟨⟨hTd.step hkl, ?_⟩, ?_⟩
       ·rw [hel, show ((todo.length - 1 : Nat) : Int) = (todo.length : Int) - 1 by omega]; rfl
       ·rw [← hev, show todo.length = (todo.length - 1) + 1 by omega, hel, evtL, hfi]
       ·exact hp.drop
    ·refine h_cond_f rfl rfl ?_; (repeat (refine R_ret ?_))
     obtain rfl : todo = [] := List.length_eq_zero_iff.1 (by omega)
     have he : evtO x.n = some out := by rw [← hev]; rfl
     rw [evR_some he]
     exact ⟨oa, oc, by rw [eo], hp.drop.tk 1⟩
  ·refine h_call rfl Tryz.func75 (by kernel_rfl) rfl ((specDesignOk_h (some ⟨bd, 0, none⟩) 1 [x] rfl x rfl hi0 _ hp.rd hp.mod hS hW).ff (pB_no' hm)) ?_; rintro _ w ⟨rfl, hx⟩; have hp := hp.ext hx; refine ops_run nopre rfl ?_; (repeat (refine h_guard_y rfl nopre rfl ?_))
   have he := evR_none (evtO_no (n := x.n) (fun h => hm h.2))
   rw [he]
   refine h_cond_t rfl rfl ?_; (repeat (refine R_ret ?_))
   exact ⟨_, _, rfl, hp.drop.tk 1⟩
 ·have hil : 0 < x.ins.length := List.length_pos_iff.2 hi0
  refine h_guard_by (fun hg => ?_) (fun hg => False.elim (by have hg := of_decide_eq_false hg; omega)); rw [hg]; clear hg; (repeat (refine h_guard_n rfl nopre rfl ?_))
  have he := evR_none (evtO_no (n := x.n) (fun h => hi0 (hin.1 h.1)))
  rw [he]
  refine h_cond_t rfl rfl ?_; (repeat (refine R_ret ?_))
  exact ⟨_, _, rfl, hp.tk 1⟩
theorem specFlatOk_h (x : ModA) (w0 : World) (hM : ModR w0 x) (hS : ModS x.n) (hW : ModW x.n) :
  Ret Tryz.prog 26 [x.v] w0 (fun v w => v = .bool (flatB x.n) ∧ Ext w0 w) := by
 refine enter Tryz.S26ok _ _ rfl rfl (by show _ ≤ _; simp only [List.length]; decide) (fun C => ?_); have hp := Hp.nil w0; refine h_run rfl ?_; skip; (first | refine H_box hp ?_ | refine H_alloc hp rfl ?_); intro w b1 hx hp; refine ops_run nopre rfl ?_; (repeat (refine H_ldB hp rfl rfl ?_))
 refine h_call rfl Tryz.func29 (by kernel_rfl) rfl (specEvalOrder_h x _ hp.mod hS hW) ?_; rintro _ w ⟨be, ce, rfl, hq⟩; have hx := hq.x; have hp := hp.call1 hq; refine ops_run nopre rfl ?_; skip
 cases hev : evtO x.n with
 | none =>
  rw [evR_none hev]
  have hbad : ¬ FlatP x.n := fun h => by have := h.ev; rw [hev] at this; exact Bool.noConfusion this
  refine h_cond_t rfl rfl ?_; (repeat (refine R_ret ?_))
  exact ⟨by unfold flatB; rw [pB_no' hbad], hp.x⟩
 | some l =>
  obtain ⟨⟨_, hm⟩, _, _⟩ := evtO_in hev
  rw [evR_some hev] at hp ⊢
  have l2 : x.asg.length ≤ 30 := by have := hm.l2; rw [x.alen] at this; exact this
  have l1 : x.sg.length ≤ 30 := hm.l1
  have l3 : x.ms.length ≤ 2 := hm.l3
  have hp : Hp w0 _ [rB b1 41 x.cs] := hp.drop
  refine h_cond_f rfl rfl ?_; skip
  refine h_loop [1, 5] (fun (i : Nat) => [(1, .pointer (some ⟨b1, 0, none⟩)), (5, .int .i64 (i : Int))])
   (fun i w' => (i ≤ x.sg.length ∧ ∀ j, j < i → (x.sg.getD j default).width ≠ 0) ∧ Hp w0 w' [rB b1 41 x.cs]) (fun i => x.sg.length - i) 0 rfl ⟨⟨by omega, fun j hj => by omega⟩, hp⟩ ?_
  clear hp
  rintro i w1 ⟨⟨hi, hwd⟩, hp⟩ IH C
  refine h_run rfl ?_; (repeat (refine H_ldB hp rfl rfl ?_))
  refine h_cond_dec (fun hlt => ?_) (fun hlt => ?_)
  ·have hlt' : i < x.sg.length := by omega
   refine h_cond_t rfl rfl ?_; (repeat (refine gLoad ?_; first | refine H_ldB hp rfl rfl ?_ | refine H_ldFN hp rfl (by omega) rfl rfl ?_))
   refine h_cond_dec (fun hz => ?_) (fun hz => ?_)
   ·have hbad : ¬ FlatP x.n := fun h => h.wid i hlt' hz
    refine h_cond_t rfl rfl ?_; (repeat (refine R_ret ?_))
    exact ⟨by unfold flatB; rw [pB_no' hbad], hp.x⟩
   ·refine h_cond_f rfl rfl ?_; skip
    refine IH (i + 1) _ _ _ (by omega) rfl ⟨⟨by omega, fun j hj => ?_⟩, hp⟩
    by_cases hj2 : j < i
    ·exact hwd j hj2
    ·obtain rfl : j = i := by omega
     exact hz
  ·refine h_cond_f rfl rfl ?_; skip
   obtain rfl : i = x.sg.length := by omega
   clear IH
   refine h_loop [1, 6] (fun (i : Nat) => [(1, .pointer (some ⟨b1, 0, none⟩)), (6, .int .i64 (i : Int))])
    (fun i w' => (i ≤ x.asg.length ∧ ∀ j, j < i → ¬ ∃ o, o ∈ (x.asg.getD j default).ops ∧ o.kind = 1) ∧ Hp w0 w' [rB b1 41 x.cs]) (fun i => x.asg.length - i) 0 rfl ⟨⟨by omega, fun j hj => by omega⟩, hp⟩ ?_
   clear hp
   rintro i w1 ⟨⟨hi, hpr⟩, hp⟩ IH C
   refine h_run rfl ?_; (repeat (refine H_ldB hp rfl rfl ?_))
   refine h_cond_dec (fun hlt => ?_) (fun hlt => ?_)
   ·have hlt' : i < x.asg.length := by omega
    have hro := hM.asg.at_ hlt'
    have eol : (x.asg.getD i default).ops.length ≤ 1048576 := by have := hS.ops i (by rw [x.alen]; exact hlt'); rw [x.aops] at this; exact this
    refine h_cond_t rfl rfl ?_; skip
    refine h_loop [1, 6, 7] (fun (q : Nat) => [(1, .pointer (some ⟨b1, 0, none⟩)), (6, .int .i64 (i : Int)), (7, .int .i64 (q : Int))])
     (fun q w' => (q ≤ (x.asg.getD i default).ops.length ∧ ∀ j, j < q → ((x.asg.getD i default).ops.getD j default).kind ≠ 1) ∧ Hp w0 w' [rB b1 41 x.cs]) (fun q => (x.asg.getD i default).ops.length - q) 0 rfl ⟨⟨by omega, fun j hj => by omega⟩, hp⟩ ?_
    clear hp
    rintro q w1 ⟨⟨hq, hpq⟩, hp⟩ IH2 C
    refine h_run rfl ?_; (repeat (refine gLoad ?_; first | refine H_ldB hp rfl rfl ?_ | refine H_ldFN hp rfl (by omega) rfl rfl ?_))
    refine h_cond_dec (fun hlt2 => ?_) (fun hlt2 => ?_)
    ·have hlt2' : q < (x.asg.getD i default).ops.length := by omega
     refine h_cond_t rfl rfl ?_; (repeat (refine gLoad ?_; first | refine H_ldB hp rfl rfl ?_ | refine H_ldFN hp rfl (by omega) rfl rfl ?_))
     refine h_cond_dec (fun hk1 => ?_) (fun hk1 => ?_)
     ·have hbad : ¬ FlatP x.n := fun h => h.par i (by rw [x.alen]; exact hlt') ⟨_, by rw [x.aops]; exact getD_mem hlt2', hk1⟩
      refine h_cond_t rfl rfl ?_; (repeat (refine R_ret ?_))
      exact ⟨by unfold flatB; rw [pB_no' hbad], hp.x⟩
     ·refine h_cond_f rfl rfl ?_; skip
      refine IH2 (q + 1) _ _ _ (by omega) rfl ⟨⟨by omega, fun j hj => ?_⟩, hp⟩
      by_cases hj2 : j < q
      ·exact hpq j hj2
      ·obtain rfl : j = q := by omega
       exact hk1
    ·obtain rfl : q = (x.asg.getD i default).ops.length := by omega
     clear IH2
     refine h_cond_f rfl rfl ?_; skip
     refine IH (i + 1) _ _ _ (by omega) rfl ⟨⟨by omega, fun j hj => ?_⟩, hp⟩
     by_cases hj2 : j < i
     ·exact hpr j hj2
     ·obtain rfl : j = i := by omega
      rintro ⟨o, ho, hk⟩
      obtain ⟨y, hy, rfl⟩ := List.getElem_of_mem ho
      have := hpq y hy
      rw [List.getD_eq_getElem?_getD, List.getElem?_eq_getElem hy] at this
      exact this hk
   ·refine h_cond_f rfl rfl ?_; (repeat (refine H_ldB hp rfl rfl ?_))
    obtain rfl : i = x.asg.length := by omega
    clear IH
    have p3 := pw_b hm 3
    have q3 := sumL_b _ p3.2 _ (Nat.le_refl _)
    rw [List.take_length] at q3
    refine h_call rfl Tryz.func28 (by kernel_rfl) rfl (specPortWidths_h x 3 _ hp.mod l1) ?_; rintro _ w ⟨bw, cw, rfl, hq⟩; have hx := hq.x; have hp := hp.call1 hq; refine ops_run nopre rfl ?_; skip
    refine h_call rfl Tryz.func27 (by kernel_rfl) rfl (l06Sum_h bw cw _ (pwL x.n 3) rfl _ hp.rd p3.1 p3.2) ?_; rintro _ w ⟨rfl, hx⟩; have hp := hp.ext hx; refine ops_run nopre rfl ?_; skip
    refine h_loop [1, 8, 9] (fun (i : Nat) => [(1, .pointer (some ⟨b1, 0, none⟩)), (8, .int .i64 (sumL (pwL x.n 3) + sumM x.n i)), (9, .int .i64 (i : Int))])
     (fun i w' => (i ≤ x.ms.length ∧ ∀ j, j < i → widL x.n (x.ms.getD j default).addr = 2 ∧ widL x.n (x.ms.getD j default).write = 1 ∧ widL x.n (x.ms.getD j default).data = widL x.n (x.ms.getD j default).out) ∧ Hp w0 w' [rB b1 41 x.cs]) (fun i => x.ms.length - i) 0 (by rw [show sumM x.n 0 = 0 from rfl, Int.add_zero]; rfl) ⟨⟨by omega, fun j hj => by omega⟩, hp.drop⟩ ?_
    clear hp
    rintro i w1 ⟨⟨hi, hms⟩, hp⟩ IH C
    have bM := sumM_b hm i hi
    refine h_run rfl ?_; (repeat (refine H_ldB hp rfl rfl ?_))
    refine h_cond_dec (fun hlt => ?_) (fun hlt => ?_)
    ·have hlt' : i < x.ms.length := by omega
     have hmi := hm.ms i hlt'
     obtain ⟨i1, i2, i3, i4, _⟩ := hmi
     change inL x.n (x.ms.getD i default).addr at i1
     change inL x.n (x.ms.getD i default).data at i2
     change inL x.n (x.ms.getD i default).write at i3
     change inL x.n (x.ms.getD i default).out at i4
     have bo := wid_b hm i4
     unfold inL at i1 i2 i3 i4
     change 0 ≤ (x.ms.getD i default).addr ∧ (x.ms.getD i default).addr < x.sg.length at i1
     change 0 ≤ (x.ms.getD i default).data ∧ (x.ms.getD i default).data < x.sg.length at i2
     change 0 ≤ (x.ms.getD i default).write ∧ (x.ms.getD i default).write < x.sg.length at i3
     change 0 ≤ (x.ms.getD i default).out ∧ (x.ms.getD i default).out < x.sg.length at i4
     change 0 ≤ (x.sg.getD (x.ms.getD i default).out.toNat default).width ∧ (x.sg.getD (x.ms.getD i default).out.toNat default).width ≤ 4 at bo
     refine h_cond_t rfl rfl ?_; (repeat (refine gLoad ?_; first | refine H_ldB hp rfl rfl ?_ | refine H_ldEN hp rfl (by omega) rfl rfl ?_))
     (first | refine H_box hp ?_ | refine H_alloc hp rfl ?_); intro w b10 hx hp; refine ops_run nopre rfl ?_; (repeat (refine U_stBN hp rfl rfl rfl rfl ?_; intro w hp; refine ops_run nopre rfl ?_))
     refine D_draw hp (by kernel_rfl) (by kernel_rfl) rfl rfl ?_; intro w hx hp; have hs := hp; (repeat (refine gLoad ?_; first | refine D_ldB rfl rfl rfl ?_ | refine D_ldF rfl (by omega) (by omega) rfl rfl rfl ?_))
     refine h_guard_by (fun h1 => ?_) (fun h1 => ?_); all_goals (rw [h1]; (first | replace h1 := of_decide_eq_true h1 | replace h1 := of_decide_eq_false h1 | skip); (repeat (first | (refine gGuard ?_; first | refine h_guard_yd rfl rfl rfl ?_ | refine h_guard_nd rfl rfl rfl ?_) | (refine gLoad ?_; first | refine D_ldB rfl rfl rfl ?_ | refine D_ldF rfl (by omega) (by omega) rfl rfl rfl ?_))))
     ·skip
      have hbad : ¬ FlatP x.n := fun h => h1 (h.ms i hlt').1
      refine h_cond_t rfl rfl ?_; (repeat (refine R_ret ?_))
      exact ⟨by unfold flatB; rw [pB_no' hbad], hp.x⟩
     ·refine h_guard_by (fun h2 => ?_) (fun h2 => ?_); all_goals (rw [h2]; (first | replace h2 := of_decide_eq_true h2 | replace h2 := of_decide_eq_false h2 | skip); (repeat (first | (refine gGuard ?_; first | refine h_guard_yd rfl rfl rfl ?_ | refine h_guard_nd rfl rfl rfl ?_) | (refine gLoad ?_; first | refine D_ldB rfl rfl rfl ?_ | refine D_ldF rfl (by omega) (by omega) rfl rfl rfl ?_))))
      ·skip
       have hbad : ¬ FlatP x.n := fun h => h2 (h.ms i hlt').2.1
       refine h_cond_t rfl rfl ?_; (repeat (refine R_ret ?_))
       exact ⟨by unfold flatB; rw [pB_no' hbad], hp.x⟩
      ·skip
       refine h_cond_dec (fun h3 => ?_) (fun h3 => ?_)
       ·have hbad : ¬ FlatP x.n := fun h => h3 (h.ms i hlt').2.2
        refine h_cond_t rfl rfl ?_; (repeat (refine R_ret ?_))
        exact ⟨by unfold flatB; rw [pB_no' hbad], hp.x⟩
       ·refine h_cond_f rfl rfl ?_; (repeat (refine gLoad ?_; first | refine H_ldB hp rfl rfl ?_ | refine H_ldF hp rfl (by omega) (by omega) rfl rfl ?_))
        refine IH (i + 1) _ _ _ (by omega) (by rw [sumM, ← Int.add_assoc]; rfl) ⟨⟨by omega, fun j hj => ?_⟩, hp.drop⟩
        by_cases hj2 : j < i
        ·exact hms j hj2
        ·obtain rfl : j = i := by omega
         exact ⟨Decidable.not_not.1 h1, Decidable.not_not.1 h2, Decidable.not_not.1 h3⟩
    ·refine h_cond_f rfl rfl ?_; (repeat (refine H_ldB hp rfl rfl ?_))
     obtain rfl : i = x.ms.length := by omega
     clear IH
     have p0 := pw_b hm 0
     have p1 := pw_b hm 1
     refine h_call rfl Tryz.func28 (by kernel_rfl) rfl (specPortWidths_h x 0 _ hp.mod l1) ?_; rintro _ w ⟨bw0, cw0, rfl, hq⟩; have hx := hq.x; have hp := hp.call1 hq; refine ops_run nopre rfl ?_; skip
     refine h_call rfl Tryz.func27 (by kernel_rfl) rfl (l06Sum_h bw0 cw0 _ (pwL x.n 0) rfl _ hp.rd p0.1 p0.2) ?_; rintro _ w ⟨rfl, hx⟩; have hp := hp.ext hx; refine ops_run nopre rfl ?_; skip
     refine h_guard_by (fun h0 => ?_) (fun h0 => ?_); all_goals (rw [h0]; (first | replace h0 := of_decide_eq_true h0 | replace h0 := of_decide_eq_false h0 | skip); (repeat (first | (refine gGuard ?_; first | refine h_guard_y rfl nopre rfl ?_ | refine h_guard_n rfl nopre rfl ?_) | (refine gLoad ?_; refine H_ldB hp rfl rfl ?_) | refine R_ret ?_)))
     ·refine h_call rfl Tryz.func28 (by kernel_rfl) rfl (specPortWidths_h x 1 _ hp.mod l1) ?_; rintro _ w ⟨bw1, cw1, rfl, hq⟩; have hx := hq.x; have hp := hp.call1 hq; refine ops_run nopre rfl ?_; (repeat (refine h_guard_y rfl nopre rfl ?_))
      refine h_call rfl Tryz.func27 (by kernel_rfl) rfl (l06Sum_h bw1 cw1 _ (pwL x.n 1) rfl _ hp.rd p1.1 p1.2) ?_; rintro _ w ⟨rfl, hx⟩; have hp := hp.ext hx; refine ops_run nopre rfl ?_; (repeat (refine h_guard_y rfl nopre rfl ?_))
      refine h_guard_by (fun h1 => ?_) (fun h1 => ?_); all_goals (rw [h1]; (first | replace h1 := of_decide_eq_true h1 | replace h1 := of_decide_eq_false h1 | skip); (repeat (first | (refine gGuard ?_; first | refine h_guard_y rfl nopre rfl ?_ | refine h_guard_n rfl nopre rfl ?_) | refine R_ret ?_)))
      ·refine ⟨?_, hp.x⟩
       by_cases h2 : sumL (pwL x.n 3) + sumM x.n x.ms.length ≤ 12
       ·have hok : FlatP x.n := ⟨by rw [hev]; rfl, hwd, fun j hj => by rw [x.aops]; exact hpr j (by rw [x.alen] at hj; exact hj), hms, h0, h1, h2⟩
        unfold flatB
        rw [pB_iff.2 hok, decide_eq_true h2]
       ·unfold flatB
        rw [pB_no' (fun h => h2 h.s3), decide_eq_false h2]
      ·exact ⟨by unfold flatB; rw [pB_no' (fun h => h1 h.s1)], hp.x⟩
     ·exact ⟨by unfold flatB; rw [pB_no' (fun h => h0 h.s0)], hp.x⟩
end Go.Proofs
