/- The program's order of assignments and its check of flat modules; each under its stated conditions. -/
import Derived.Test.YtiepmliokblkjaaGreatModI
import Derived.Test.YtiepmliokblkjaaGreatIns
set_option linter.all false
namespace Go.Xw
section
variable {S : Setting} {sz : Nat} {R : Value → World → Prop} {C : World → Prop} {w w0 : World} {F : List Res} {ops : Array Oper} {rest : List Oper} {kk : List Item} {env : Env}
set_option maxHeartbeats 2000000 in
theorem D_del {X : List Int} {t u ty e : TypeId} {a sa0 sa : Option Addr} {c c0 sc n0 m k : Nat} (hp : Hp w0 w (rO e 1 eI a c X :: F)) (hk : k < X.length) {i j : TI} {d : Nat} [hS : S.Ok] (hi : tl S.tt t = some i) (hd : i.desc = .slice e) (hj : tl S.tt e = some j) (hz : (cellsV j.zero).length = j.size) (hs0 : j.size = 1) (hu : u = t) (hb : j.bytes = 8) (hl : X.length ≤ 1000) (ha0 : sa0 = subA a c 1 0) (hn0 : n0 = k) (hc0 : c0 = c) (hsa : sa = subA a c 1 (k + 1)) (hm : m = X.length - (k + 1)) (hfl : flagAt ops rest = false)
  (hg : ∀ a' c' w', Hp w0 w' (rO e 1 eI a' c' (X.eraseIdx k) :: F) → Holds S sz R C w' (.ops true ops rest kk ((d, .slice a' (X.eraseIdx k).length c') :: env))) :
  Holds S sz R C w (.act (.append t u ty (.slice sa0 n0 c0) (.slice sa m sc)) ⟨true, ops, rest, some d, kk, env⟩) := by
 have e1 : sa0 = a := by rw [ha0, subA_zero]
 have hsl : Sl w (subA a c 1 (k + 1)) (X.drop (k + 1)).length 1 (fL eI (X.drop (k + 1))) := (own_drop (w0 := w0) (L := F) (e := e) (enc := eI) (s := 1) (by omega)).h w hp
 have hp1 : Hp w0 w (rO e 1 eI a c (X.take k) :: F) := Hp.ownP (Y := X.drop k) (by rw [List.take_append_drop]; exact hp) eI_ok.len
 have htl : (X.take k).length = n0 := by rw [List.length_take]; omega
 have hdl : (X.drop (k + 1)).length = m := by rw [List.length_drop]; omega
 have hee : X.eraseIdx k = X.take k ++ X.drop (k + 1) := List.eraseIdx_eq_take_drop_succ X k
 rw [hee] at hg
 rw [e1, hc0, hsa, ← htl]
 exact D_append (X.drop (k + 1)) hp1 (fun _ hq => absurd hq (by rw [hfl]; decide)) hdl hi hd hj hz hs0 (by decide) hu eI_ok hsl (by rw [htl, hdl]; unfold maxLen; omega) (by rw [htl, hdl, hb]; omega) fun a' c' w' hp' _ _ => hg a' c' w' hp'
end
theorem natsI_erase : ∀ (l : List Nat) (k : Nat), (natsI l).eraseIdx k = natsI (l.eraseIdx k)
 | [], k => by simp [natsI]
 | x :: l, 0 => by simp [natsI]
 | x :: l, k + 1 => by
  have := natsI_erase l k
  simp only [natsI] at this
  simp [natsI, this]
end Go.Xw
namespace Go.Proofs
open Go.Xw
set_option maxRecDepth 100000
set_option maxHeartbeats 2000000
attribute [local irreducible] Holds elemAddr
theorem readsSignal_h (a : Option Addr) (c n : Nat) (ops : List OpL) (hn : ops.length = n) (s : Int) (w0 : World) (hR : Rd w0 a 3 eOp ops) (hl : ops.length ≤ 1048576) :
  Ret Tryz.prog 94 [.slice a n c, .int .i64 s] w0 (fun v w => v = .bool (readsB ops s) ∧ Ext w0 w) := by
 subst hn
 refine enter Tryz.S94ok _ _ rfl rfl (by show _ ≤ _; simp only [List.length]; decide) (fun C => ?_); have hp := Hp.nil w0; refine h_run rfl ?_; skip
 refine h_loop [1, 7, 8, 9] (fun (i : Nat) => [(1, .int .i64 s), (7, .slice a ops.length c), (8, .int .i64 ops.length), (9, .int .i64 (i : Int))])
  (fun i w' => (i ≤ ops.length ∧ ∀ j, j < i → ¬ (((ops.getD j default).kind = 2 ∨ (ops.getD j default).kind = 3) ∧ (ops.getD j default).a = s)) ∧ Hp w0 w' []) (fun i => ops.length - i) 0 rfl ⟨⟨by omega, fun j hj => by omega⟩, hp⟩ ?_
 clear hp
 rintro i w1 ⟨⟨hi, hall⟩, hp⟩ IH C
 refine h_run rfl ?_; skip
 refine h_cond_dec (fun hlt => ?_) (fun hlt => ?_)
 ·have hlt' : i < ops.length := by omega
  refine h_cond_t rfl rfl ?_; (repeat (refine H_ldEN hp rfl (by omega) rfl rfl ?_))
  (first | refine H_box hp ?_ | refine H_alloc hp rfl ?_); intro w b6 hx hp; refine ops_run nopre rfl ?_; (repeat (first | (refine gLoad ?_; refine H_ldB hp rfl rfl ?_) | (refine gStore ?_; refine U_stBN hp rfl rfl rfl rfl ?_; intro w hp; refine ops_run nopre rfl ?_)))
  refine h_guard_by (fun h2 => ?_) (fun h2 => ?_); all_goals (rw [h2]; (first | replace h2 := of_decide_eq_true h2 | replace h2 := of_decide_eq_false h2 | skip); (repeat (first | (refine gGuard ?_; first | refine h_guard_y rfl nopre rfl ?_ | refine h_guard_n rfl nopre rfl ?_) | (refine gLoad ?_; refine H_ldB hp rfl rfl ?_))))
  ·refine h_cond_dec (fun h4 => ?_) (fun h4 => ?_)
   ·refine h_cond_t rfl rfl ?_; (repeat (refine R_ret ?_))
    exact ⟨by rw [readsB_iff.2 ⟨_, getD_mem hlt', .inl h2, h4⟩], hp.x⟩
   ·refine h_cond_f rfl rfl ?_; skip
    refine IH (i + 1) _ _ _ (by omega) rfl ⟨⟨by omega, fun j hj => ?_⟩, hp.drop⟩
    by_cases hj2 : j < i
    ·exact hall j hj2
    ·obtain rfl : j = i := by omega
     exact fun h => h4 h.2
  ·refine h_guard_by (fun h3 => ?_) (fun h3 => ?_); all_goals (rw [h3]; (first | replace h3 := of_decide_eq_true h3 | replace h3 := of_decide_eq_false h3 | skip); (repeat (first | (refine gGuard ?_; first | refine h_guard_y rfl nopre rfl ?_ | refine h_guard_n rfl nopre rfl ?_) | (refine gLoad ?_; refine H_ldB hp rfl rfl ?_))))
   ·refine h_cond_dec (fun h4 => ?_) (fun h4 => ?_)
    ·refine h_cond_t rfl rfl ?_; (repeat (refine R_ret ?_))
     exact ⟨by rw [readsB_iff.2 ⟨_, getD_mem hlt', .inr h3, h4⟩], hp.x⟩
    ·refine h_cond_f rfl rfl ?_; skip
     refine IH (i + 1) _ _ _ (by omega) rfl ⟨⟨by omega, fun j hj => ?_⟩, hp.drop⟩
     by_cases hj2 : j < i
     ·exact hall j hj2
     ·obtain rfl : j = i := by omega
      exact fun h => h4 h.2
   ·refine h_cond_f rfl rfl ?_; skip
    refine IH (i + 1) _ _ _ (by omega) rfl ⟨⟨by omega, fun j hj => ?_⟩, hp.drop⟩
    by_cases hj2 : j < i
    ·exact hall j hj2
    ·obtain rfl : j = i := by omega
     exact fun h => by rcases h.1 with h | h; exact h2 h; exact h3 h
 ·refine h_cond_f rfl rfl ?_; (repeat (refine R_ret ?_))
  obtain rfl : i = ops.length := by omega
  refine ⟨?_, hp.x⟩
  cases hr : readsB ops s with
  | false => rfl
  | true =>
   obtain ⟨o, ho, h⟩ := readsB_iff.1 hr
   obtain ⟨j, hj, rfl⟩ := List.getElem_of_mem ho
   have := hall j hj
   rw [List.getD_eq_getElem?_getD, List.getElem?_eq_getElem hj] at this
   exact absurd h this
theorem sumInts_h (a : Option Addr) (c n : Nat) (X : List Int) (hn : X.length = n) (w0 : World) (hR : Rd w0 a 1 eI X) (hl : X.length ≤ 30) (hb : ∀ i, i < X.length → 0 ≤ X.getD i default ∧ X.getD i default ≤ 4) :
  Ret Tryz.prog 37 [.slice a n c] w0 (fun v w => v = .int .i64 (sumL X) ∧ Ext w0 w) := by
 subst hn
 refine enter Tryz.S37ok _ _ rfl rfl (by show _ ≤ _; simp only [List.length]; decide) (fun C => ?_); have hp := Hp.nil w0; refine h_run rfl ?_; skip
 refine h_loop [3, 6, 7, 8] (fun (i : Nat) => [(3, .int .i64 (sumL (X.take i))), (6, .slice a X.length c), (7, .int .i64 X.length), (8, .int .i64 (i : Int))])
  (fun i w' => (i ≤ X.length ∧ 0 ≤ sumL (X.take i) ∧ sumL (X.take i) ≤ 4 * i) ∧ Hp w0 w' []) (fun i => X.length - i) 0 rfl ⟨⟨by omega, by simp [sumL], by simp [sumL]⟩, hp⟩ ?_
 clear hp
 rintro i w1 ⟨⟨hi, h0, h1⟩, hp⟩ IH C
 refine h_run rfl ?_; skip
 refine h_cond_dec (fun hlt => ?_) (fun hlt => ?_)
 ·have hlt' : i < X.length := by omega
  have hbi := hb i hlt'
  have eN : sumL (X.take (i + 1)) = sumL (X.take i) + X.getD i default := by rw [take_snocC hlt', sumL_snoc]
  refine h_cond_t rfl rfl ?_; (repeat (refine H_ldEN hp rfl (by omega) rfl rfl ?_))
  exact IH (i + 1) _ _ _ (by omega) (by rw [eN]; rfl) ⟨⟨by omega, by omega, by omega⟩, hp⟩
 ·refine h_cond_f rfl rfl ?_; (repeat (refine R_ret ?_))
  obtain rfl : i = X.length := by omega
  rw [List.take_length]
  exact ⟨rfl, hp.x⟩
theorem portWidths_h (x : ModA) (k : Int) (w0 : World) (hM : ModR w0 x) (hl : x.sg.length ≤ 30) :
  Ret Tryz.prog 18 [x.v, .int .i64 k] w0 (fun v w => ∃ b c, v = .slice b (pwL x.n k).length c ∧ Hp w0 w [rO 3 1 eI b c (pwL x.n k)]) := by
 refine enter Tryz.S18ok _ _ rfl rfl (by show _ ≤ _; simp only [List.length]; decide) (fun C => ?_); have hp := Hp.nil w0; refine h_run rfl ?_; skip; (first | refine H_box hp ?_ | refine H_alloc hp rfl ?_); intro w b2 hx hp; refine ops_run nopre rfl ?_; (repeat (refine H_ldB hp rfl rfl ?_))
 refine h_cond_dec (fun hg => False.elim (by omega)) (fun _ => ?_); refine h_cond_f rfl rfl ?_; (repeat (refine H_ldB hp rfl rfl ?_))
 refine h_loop3 [1, 5, 13, 14, 15] (fun (i : Nat) (b : Option Addr) (c : Nat) => [(1, .int .i64 k), (5, .slice b (pwT (x.sg.take i) k).length c), (13, .slice x.sa x.sg.length x.sc), (14, .int .i64 x.sg.length), (15, .int .i64 (i : Int))])
  (fun i b c w' => i ≤ x.sg.length ∧ Hp w0 w' [rO 3 1 eI b c (pwT (x.sg.take i) k)]) (fun i _ _ => x.sg.length - i) 0 none 0 rfl ⟨by omega, (Hp.tk hp 0).ownN (Ext.refl _) (Own.nil _ _ _ _ _)⟩ ?_
 clear hp
 rintro i b c w1 ⟨hi, hp⟩ IH C
 have hPl := pwT_len (x.sg.take i) k
 rw [List.length_take] at hPl
 obtain ⟨P, hP⟩ : ∃ P, P = pwT (x.sg.take i) k := ⟨_, rfl⟩
 rw [← hP] at hp hPl ⊢
 refine h_run rfl ?_; skip
 refine h_cond_dec (fun hlt => ?_) (fun hlt => ?_)
 ·have hlt' : i < x.sg.length := by omega
  have eT := take_snocC hlt'
  refine h_cond_t rfl rfl ?_; (repeat (refine H_ldEN hp rfl (by omega) rfl rfl ?_))
  (first | refine H_box hp ?_ | refine H_alloc hp rfl ?_); intro w b7 hx hp; refine ops_run nopre rfl ?_; (repeat (first | (refine gLoad ?_; refine H_ldB hp rfl rfl ?_) | (refine gStore ?_; refine U_stBN hp rfl rfl rfl rfl ?_; intro w hp; refine ops_run nopre rfl ?_)))
  refine h_cond_dec (fun hk => ?_) (fun hk => ?_)
  ·have eN : pwT (x.sg.take (i + 1)) k = P ++ [(x.sg.getD i default).width] := by rw [eT, pwT_yes hk, ← hP]
   refine h_cond_t rfl rfl ?_; (repeat (first | (refine gLoad ?_; refine H_ldB hp rfl rfl ?_) | (refine gBuild ?_; refine U_litI hp rfl rfl rfl rfl rfl rfl rfl rfl rfl rfl ?_; intro w _ hx hp; refine ops_run nopre rfl ?_)))
   refine U_append hp rfl rfl rfl rfl rfl rfl rfl (by decide) rfl (by first | omega | (simp only [List.length_append, List.length_cons, List.length_nil, List.length_take, List.length_drop, List.length_set, List.length_replicate, List.length_map]; omega)) rfl rfl ?_; intro b' c' w hp hnil; refine ops_run nopre rfl ?_; skip
   refine IH (i + 1) b' c' _ _ _ (by omega) (by rw [eN]; rfl) ⟨by omega, ?_⟩
   rw [eN]
   exact hp.drop.drop
  ·have eN : pwT (x.sg.take (i + 1)) k = P := by rw [eT, pwT_no hk, ← hP]
   refine h_cond_f rfl rfl ?_; skip
   refine IH (i + 1) b c _ _ _ (by omega) (by rw [eN]; rfl) ⟨by omega, ?_⟩
   rw [eN]
   exact hp.drop
 ·refine h_cond_f rfl rfl ?_; (repeat (refine R_ret ?_))
  obtain rfl : i = x.sg.length := by omega
  have eA : P = pwL x.n k := by rw [hP, List.take_length]; rfl
  rw [eA] at hp ⊢
  exact ⟨b, c, rfl, hp⟩
theorem natsI_snoc (l : List Nat) (i : Nat) : natsI (l ++ [i]) = natsI l ++ [(i : Int)] := by simp [natsI]
def tdT (n : ModL) (i : Nat) : List Nat := (List.range i).filter fun j => decide (kindL n (tgL n j) ≠ 3)
theorem tdT_yes {n : ModL} {i : Nat} (h : kindL n (tgL n i) ≠ 3) : tdT n (i + 1) = tdT n i ++ [i] := by
 unfold tdT
 rw [List.range_succ, List.filter_append, List.filter_cons_of_pos (by simp [h])]; rfl
theorem tdT_no {n : ModL} {i : Nat} (h : kindL n (tgL n i) = 3) : tdT n (i + 1) = tdT n i := by
 unfold tdT
 rw [List.range_succ, List.filter_append, List.filter_cons_of_neg (by simp [h])]; simp
theorem tdT_len (n : ModL) (i : Nat) : (tdT n i).length ≤ i := by
 have := List.length_filter_le (fun j => decide (kindL n (tgL n j) ≠ 3)) (List.range i)
 rw [List.length_range] at this
 exact this
theorem implEvalOrder_h (x : ModA) (w0 : World) (hM : ModR w0 x) (hS : ModS x.n) (hW : ModW x.n) :
  Ret Tryz.prog 39 [x.v] w0 (fun v w => ∃ b c, v = .tuple ⟨[.slice b (evR x.n).1.length c, .bool (evR x.n).2]⟩ ∧ Hp w0 w [rO 3 1 eI b c (natsI (evR x.n).1)]) := by
 have hin : x.n.ins = [] ↔ x.ins = [] := by show seqsOf x.ins = [] ↔ _; unfold seqsOf; rw [List.map_eq_nil_iff]
 have s4 : x.ins.length ≤ 1048576 := by have := hS.ins; rw [x.ilen] at this; exact this
 refine enter Tryz.S39ok _ _ rfl rfl (by show _ ≤ _; simp only [List.length]; decide) (fun C => ?_); have hp := Hp.nil w0; refine h_run rfl ?_; skip; (first | refine H_box hp ?_ | refine H_alloc hp rfl ?_); intro w b1 hx hp; refine ops_run nopre rfl ?_; (repeat (refine H_ldB hp rfl rfl ?_))
 by_cases hi0 : x.ins = []
 ·have hil : x.ins.length = 0 := by rw [hi0]; rfl
  refine h_guard_by (fun hg => False.elim (by have hg := of_decide_eq_true hg; omega)) (fun hg => ?_); rw [hg]; clear hg; (repeat (first | (refine gGuard ?_; refine h_guard_y rfl nopre rfl ?_) | (refine gLoad ?_; refine H_ldB hp rfl rfl ?_)))
  refine H_lit hp ModA.cs [x] rfl rfl rfl rfl (s := 4) rfl (by decide) (by infer_instance) (by rfl) (by rfl) (by rfl) (by decide) ?_; intro w bd hx hp; refine ops_run nopre rfl ?_; (repeat (refine h_guard_y rfl nopre rfl ?_))
  by_cases hm : ModOkP x.n
  ·refine h_call rfl Tryz.func93 (by kernel_rfl) rfl ((designOk_h (some ⟨bd, 0, none⟩) 1 [x] rfl x rfl hi0 _ hp.rd hp.mod hS hW).tt (pB_iff.2 hm)) ?_; rintro _ w ⟨rfl, hx⟩; have hp := hp.ext hx; refine ops_run nopre rfl ?_; (repeat (refine h_guard_y rfl nopre rfl ?_))
   refine h_cond_f rfl rfl ?_; (repeat (refine H_ldB hp rfl rfl ?_))
   have hp := hp.drop
   have l2 : x.asg.length ≤ 30 := by have := hm.l2; rw [x.alen] at this; exact this
   refine h_loop3 [1, 4, 5, 26, 27, 28] (fun (i : Nat) (b : Option Addr) (c : Nat) => [(1, .pointer (some ⟨b1, 0, none⟩)), (4, .slice b (natsI (tdT x.n i)).length c), (5, .slice none 0 0), (26, .slice x.aa x.asg.length x.ac), (27, .int .i64 x.asg.length), (28, .int .i64 (i : Int))])
    (fun i b c w' => i ≤ x.asg.length ∧ Hp w0 w' [rO 3 1 eI b c (natsI (tdT x.n i)), rB b1 41 x.cs]) (fun i _ _ => x.asg.length - i) 0 none 0 rfl ⟨by omega, hp.ownN (Ext.refl _) (Own.nil _ _ _ _ _)⟩ ?_
   clear hp
   rintro i b c w1 ⟨hi, hp⟩ IH C
   have hTl := tdT_len x.n i
   have hTn := natsI_len (tdT x.n i)
   obtain ⟨T, hT⟩ : ∃ T, T = natsI (tdT x.n i) := ⟨_, rfl⟩
   rw [← hT] at hp hTn ⊢
   refine h_run rfl ?_; skip
   refine h_cond_dec (fun hlt => ?_) (fun hlt => ?_)
   ·have hlt' : i < x.asg.length := by omega
    have hai := hm.asg i (by rw [x.alen]; exact hlt')
    rw [asAt] at hai
    have hin2 := hai.1
    unfold inL at hin2
    change 0 ≤ (x.asg.getD i default).tg ∧ (x.asg.getD i default).tg < x.sg.length at hin2
    have ek : kindL x.n (tgL x.n i) = (x.sg.getD (x.asg.getD i default).tg.toNat default).kind := by unfold tgL; rw [asAt]; rfl
    refine h_cond_t rfl rfl ?_; (repeat (refine H_ldEN hp rfl (by omega) rfl rfl ?_))
    (first | refine H_box hp ?_ | refine H_alloc hp rfl ?_); intro w b7 hx hp; refine ops_run nopre rfl ?_; (repeat (first | (refine gLoad ?_; first | refine H_ldB hp rfl rfl ?_ | refine H_ldF hp rfl (by omega) (by omega) rfl rfl ?_) | (refine gStore ?_; refine U_stBN hp rfl rfl rfl rfl ?_; intro w hp; refine ops_run nopre rfl ?_)))
    refine h_cond_dec (fun hk => ?_) (fun hk => ?_)
    ·have eN : natsI (tdT x.n (i + 1)) = T ++ [(i : Int)] := by rw [tdT_yes (by rw [ek]; exact hk), natsI_snoc, ← hT]
     refine h_cond_t rfl rfl ?_; (repeat (refine U_litI hp rfl rfl rfl rfl rfl rfl rfl rfl rfl rfl ?_; intro w _ hx hp; refine ops_run nopre rfl ?_))
     refine U_append hp rfl rfl rfl rfl rfl rfl rfl (by decide) rfl (by first | omega | (simp only [List.length_append, List.length_cons, List.length_nil, List.length_take, List.length_drop, List.length_set, List.length_replicate, List.length_map]; omega)) rfl rfl ?_; intro b' c' w hp hnil; refine ops_run nopre rfl ?_; skip
     refine IH (i + 1) b' c' _ _ _ (by omega) (by rw [eN]; rfl) ⟨by omega, ?_⟩
     rw [eN]
     exact hp.drop.drop
    ·have eN : natsI (tdT x.n (i + 1)) = T := by rw [tdT_no (by rw [ek]; exact Decidable.not_not.1 hk), ← hT]
     refine h_cond_f rfl rfl ?_; skip
     refine IH (i + 1) b c _ _ _ (by omega) (by rw [eN]; rfl) ⟨by omega, ?_⟩
     rw [eN]
     exact hp.drop
   ·refine h_cond_f rfl rfl ?_; skip
    obtain rfl : i = x.asg.length := by omega
    clear IH
    have e0 : tdT x.n x.asg.length = todo0 x.n := by unfold tdT todo0; rw [x.alen]
    rw [hT, e0] at hp ⊢
    clear hT T hTn
    rw [e0] at hTl
    refine h_loop6 [1, 4, 5] (fun (todo : List Nat) (out : List Nat) (ta : Option Addr) (tc : Nat) (oa : Option Addr) (oc : Nat) => [(1, .pointer (some ⟨b1, 0, none⟩)), (4, .slice ta (natsI todo).length tc), (5, .slice oa (natsI out).length oc)])
     (fun todo out ta tc oa oc w' => (TodoP x.n todo out ∧ evtL x.n todo.length todo out = evtO x.n) ∧ Hp w0 w' [rO 3 1 eI ta tc (natsI todo), rO 3 1 eI oa oc (natsI out), rB b1 41 x.cs]) (fun todo _ _ _ _ _ => todo.length) (todo0 x.n) [] b c none 0 rfl ⟨⟨todo0_ok x.n, (evtO_yes (hin.2 hi0) hm).symm⟩, (hp.ownN (Ext.refl _) (Own.nil _ _ _ _ _)).f1⟩ ?_
    clear hp
    rintro todo out ta tc oa oc w1 ⟨⟨hTd, hev⟩, hp⟩ IH C
    have htl : todo.length ≤ x.asg.length := by have := hTd.len; omega
    have hol : out.length ≤ x.asg.length := by have := hTd.len; omega
    have en := natsI_len todo
    have eo := natsI_len out
    refine h_run rfl ?_; skip
    refine h_cond_dec (fun hpos => ?_) (fun hpos => ?_)
    ·have htp : 0 < todo.length := by omega
     refine h_cond_t rfl rfl ?_; skip
     refine h_loop [1, 4, 5, 8, 49, 50, 51] (fun (k : Nat) => [(1, .pointer (some ⟨b1, 0, none⟩)), (4, .slice ta (natsI todo).length tc), (5, .slice oa (natsI out).length oc), (8, .int .i64 (-1)), (49, .slice ta (natsI todo).length tc), (50, .int .i64 (natsI todo).length), (51, .int .i64 (k : Int))])
      (fun k w' => (k ≤ todo.length ∧ ∀ j, j < k → freeB x.n todo (todo.getD j 0) = false) ∧ Hp w0 w' [rO 3 1 eI ta tc (natsI todo), rO 3 1 eI oa oc (natsI out), rB b1 41 x.cs]) (fun k => todo.length - k) 0 rfl ⟨⟨by omega, fun j hj => by omega⟩, hp⟩ ?_
     clear hp
     rintro k w1 ⟨⟨hk, hnf⟩, hp⟩ IH4 C
     refine h_run rfl ?_; skip
     refine h_cond_dec (fun hlt => ?_) (fun hlt => ?_)
     ·have hkl : k < todo.length := by omega
      have hmem : todo.getD k 0 ∈ todo := by
       rw [List.getD_eq_getElem?_getD, List.getElem?_eq_getElem hkl]; exact List.getElem_mem hkl
      obtain ⟨i, hi⟩ : ∃ i, i = todo.getD k 0 := ⟨_, rfl⟩
      have hia := hTd.tin _ hmem
      rw [x.alen, ← hi] at hia
      have : LtA i x.asg := ⟨hia.1⟩
      have hia1 := hia.1
      refine h_cond_t rfl rfl ?_; (repeat (refine H_ldEN hp rfl (by omega) rfl rfl ?_))
      rw [natsI_get, ← hi]
      refine h_loop2 [1, 4, 5, 8, 9, 10, 11, 49, 50, 51, 56, 57, 58] (fun (j : Nat) (fr : Bool) => [(1, .pointer (some ⟨b1, 0, none⟩)), (4, .slice ta (natsI todo).length tc), (5, .slice oa (natsI out).length oc), (8, .int .i64 (-1)), (9, .int .i64 (k : Int)), (10, .int .i64 (i : Int)), (11, .bool fr), (49, .slice ta (natsI todo).length tc), (50, .int .i64 (natsI todo).length), (51, .int .i64 (k : Int)), (56, .slice ta (natsI todo).length tc), (57, .int .i64 (natsI todo).length), (58, .int .i64 (j : Int))])
       (fun j fr w' => (j ≤ todo.length ∧ fr = (todo.take j).all fun q => !readsB (opsL x.n i) (tgL x.n q)) ∧ Hp w0 w' [rO 3 1 eI ta tc (natsI todo), rO 3 1 eI oa oc (natsI out), rB b1 41 x.cs]) (fun j _ => todo.length - j) 0 true rfl ⟨⟨by omega, rfl⟩, hp⟩ ?_
      clear hp
      rintro j fr w1 ⟨⟨hj, hfr⟩, hp⟩ IH6 C
      refine h_run rfl ?_; skip
      refine h_cond_dec (fun hlt2 => ?_) (fun hlt2 => ?_)
      ·have hjl : j < todo.length := by omega
       have hmem2 : todo.getD j 0 ∈ todo := by
        rw [List.getD_eq_getElem?_getD, List.getElem?_eq_getElem hjl]; exact List.getElem_mem hjl
       obtain ⟨q, hq⟩ : ∃ q, q = todo.getD j 0 := ⟨_, rfl⟩
       have hqa := hTd.tin _ hmem2
       rw [x.alen, ← hq] at hqa
       have hqa1 := hqa.1
       have eJ : ((todo.take (j + 1)).all fun q => !readsB (opsL x.n i) (tgL x.n q)) = (fr && !readsB (opsL x.n i) (tgL x.n q)) := by
        have h0 : todo.getD j default = todo.getD j 0 := rfl
        rw [take_snocC hjl, List.all_append, h0, ← hq, ← hfr]
        simp
       have eol : (x.asg.getD i default).ops.length ≤ 1048576 := by have := hS.ops i (by rw [x.alen]; exact hia1); rw [x.aops] at this; exact this
       refine h_cond_t rfl rfl ?_; (repeat (refine H_ldEN hp rfl (by omega) rfl rfl ?_))
       rw [natsI_get, ← hq]
       cases hb : fr with
       | true =>
        subst hb
        refine D_draw hp (by kernel_rfl) (by kernel_rfl) rfl rfl ?_; intro w hx hp; have hs := hp; (repeat (first | (refine gGuard ?_; refine h_guard_yd rfl rfl rfl ?_) | (refine gLoad ?_; first | refine D_ldB rfl rfl rfl ?_ | refine D_ldFN rfl (by omega) rfl rfl rfl ?_)))
        refine gCall ?_
        refine h_callq rfl Tryz.func94 (by kernel_rfl) rfl (readsSignal_h _ _ _ (x.asg.getD i default).ops rfl (x.asg.getD q default).tg _ hp.rd eol) ?_; rintro _ w ⟨rfl, hx⟩; have hp := hp.ext hx; have hs := hs.ext hx; refine ⟨fun _ => hs, ?_⟩; refine D_ops rfl rfl ?_; (repeat (refine h_guard_yd rfl rfl rfl ?_))
        skip
        refine IH6 (j + 1) _ _ _ _ (by omega) rfl ⟨⟨by omega, ?_⟩, hp⟩
        rw [eJ, Bool.true_and]
        unfold opsL tgL
        rw [asAt, asAt]
       | false =>
        subst hb
        refine D_draw hp (by kernel_rfl) (by kernel_rfl) rfl rfl ?_; intro w hx hp; have hs := hp; (repeat (refine h_guard_nd rfl rfl rfl ?_))
        skip
        refine IH6 (j + 1) _ _ _ _ (by omega) rfl ⟨⟨by omega, ?_⟩, hp⟩
        rw [eJ, Bool.false_and]
      ·obtain rfl : j = todo.length := by omega
       rw [List.take_length] at hfr
       have hfr : fr = freeB x.n todo i := hfr
       clear IH6
       refine h_cond_f rfl rfl ?_; skip
       cases hb : fr with
       | true =>
        refine h_cond_t rfl rfl ?_; skip
        refine h_cond_dec (fun hg => False.elim (by omega)) (fun _ => ?_); refine h_cond_f rfl rfl ?_; (repeat (first | (refine gLoad ?_; refine H_ldEN hp rfl (by omega) rfl rfl ?_) | (refine gBuild ?_; refine U_litI hp rfl rfl rfl rfl rfl rfl rfl rfl rfl rfl ?_; intro w _ hx hp; refine ops_run nopre rfl ?_)))
        refine U_append hp rfl rfl rfl rfl rfl rfl rfl (by decide) rfl (by first | omega | (simp only [List.length_append, List.length_cons, List.length_nil, List.length_take, List.length_drop, List.length_set, List.length_replicate, List.length_map]; omega)) rfl rfl ?_; intro oa' oc' w hp hnil; refine ops_run nopre rfl ?_; skip
        have eo2 : natsI out ++ [(natsI todo).getD k default] = natsI (out ++ [todo.getD k 0]) := by rw [natsI_snoc, natsI_get]
        rw [eo2] at hp ⊢
        have htc : (natsI todo).length ≤ tc := Own.cap hp.g1
        refine D_draw hp (by kernel_rfl) (by kernel_rfl) rfl rfl ?_; intro w hx hp; have hs := hp; skip
        refine D_del (k := k) hp.f1 (by omega) rfl rfl rfl rfl rfl rfl rfl (by omega) rfl rfl rfl rfl rfl (by kernel_rfl) ?_
        intro ta' tc' w hp
        rw [natsI_erase] at hp ⊢
        refine D_ops rfl rfl ?_; skip
        skip
        have hfi : todo.findIdx? (freeB x.n todo) = some k := by
         have g0 : ∀ j (hj : j < todo.length), todo.getD j 0 = todo[j] := fun j hj => by rw [List.getD_eq_getElem?_getD, List.getElem?_eq_getElem hj]; rfl
         refine List.findIdx?_eq_some_iff_getElem.2 ⟨hkl, ?_, fun j hj => ?_⟩
         ·rw [← g0 k hkl, ← hi, ← hfr]; exact hb
         ·have := hnf j hj
          rw [g0 j (by omega)] at this
          rw [this]; decide
        have hel : (todo.eraseIdx k).length = todo.length - 1 := List.length_eraseIdx_of_lt hkl
        refine IH (todo.eraseIdx k) (out ++ [todo.getD k 0]) ta' tc' oa' oc' _ _ _ (by omega) rfl ⟨⟨hTd.step hkl, ?_⟩, hp.f1.drop⟩
        rw [← hev, show todo.length = (todo.length - 1) + 1 by omega, hel, evtL, hfi]
       | false =>
        refine h_cond_f rfl rfl ?_; skip
        refine IH4 (k + 1) _ _ _ (by omega) rfl ⟨⟨by omega, fun j hj => ?_⟩, hp⟩
        by_cases hj2 : j < k
        ·exact hnf j hj2
        ·obtain rfl : j = k := by omega
         rw [← hi, ← hfr, hb]
     ·obtain rfl : k = todo.length := by omega
      clear IH4 IH
      refine h_cond_f rfl rfl ?_; skip
      have hnone : todo.findIdx? (freeB x.n todo) = none := find_none hTd fun j _ hh => by
       obtain ⟨q, hq, rfl⟩ := List.getElem_of_mem hh.1
       have := hnf q hq
       rw [List.getD_eq_getElem?_getD, List.getElem?_eq_getElem hq] at this
       have h2 := hh.2
       rw [show (some todo[q]).getD 0 = todo[q] from rfl] at this
       rw [this] at h2
       exact Bool.noConfusion h2
      have he : evtO x.n = none := by
       rw [← hev, show todo.length = (todo.length - 1) + 1 by omega, evtL, hnone]
      rw [evR_none he]
      refine h_cond_t rfl rfl ?_; (repeat (refine R_ret ?_))
      exact ⟨none, 0, rfl, (Hp.tk hp 0).ownN (Ext.refl _) (Own.nil _ _ _ _ _)⟩
    ·refine h_cond_f rfl rfl ?_; (repeat (refine R_ret ?_))
     obtain rfl : todo = [] := List.length_eq_zero_iff.1 (by omega)
     have he : evtO x.n = some out := by rw [← hev]; rfl
     rw [evR_some he]
     exact ⟨oa, oc, by rw [eo], hp.drop.tk 1⟩
  ·refine h_call rfl Tryz.func93 (by kernel_rfl) rfl ((designOk_h (some ⟨bd, 0, none⟩) 1 [x] rfl x rfl hi0 _ hp.rd hp.mod hS hW).ff (pB_no' hm)) ?_; rintro _ w ⟨rfl, hx⟩; have hp := hp.ext hx; refine ops_run nopre rfl ?_; (repeat (refine h_guard_y rfl nopre rfl ?_))
   have he := evR_none (evtO_no (n := x.n) (fun h => hm h.2))
   rw [he]
   refine h_cond_t rfl rfl ?_; (repeat (refine R_ret ?_))
   exact ⟨none, 0, rfl, (Hp.tk hp 0).ownN (Ext.refl _) (Own.nil _ _ _ _ _)⟩
 ·have hil : 0 < x.ins.length := List.length_pos_iff.2 hi0
  refine h_guard_by (fun hg => ?_) (fun hg => False.elim (by have hg := of_decide_eq_false hg; omega)); rw [hg]; clear hg; (repeat (refine h_guard_n rfl nopre rfl ?_))
  have he := evR_none (evtO_no (n := x.n) (fun h => hi0 (hin.1 h.1)))
  rw [he]
  refine h_cond_t rfl rfl ?_; (repeat (refine R_ret ?_))
  exact ⟨none, 0, rfl, (Hp.tk hp 0).ownN (Ext.refl _) (Own.nil _ _ _ _ _)⟩
theorem pw_b {x : ModA} (hm : ModOkP x.n) (k : Int) : (pwL x.n k).length ≤ 30 ∧ (∀ i, i < (pwL x.n k).length → 0 ≤ (pwL x.n k).getD i default ∧ (pwL x.n k).getD i default ≤ 4) := by
 refine ⟨Nat.le_trans (pwT_len _ _) hm.l1, fun i hi => ?_⟩
 obtain ⟨s, h1, _, h3⟩ := pwT_mem (getD_mem hi)
 obtain ⟨j, hj, rfl⟩ := List.getElem_of_mem h1
 have := (hm.sg j hj).2.1
 rw [List.getD_eq_getElem?_getD, List.getElem?_eq_getElem hj] at this
 show 0 ≤ (pwT x.n.sg k).getD i default ∧ (pwT x.n.sg k).getD i default ≤ 4
 rw [← h3]
 exact this
theorem sumL_b : ∀ (X : List Int), (∀ i, i < X.length → 0 ≤ X.getD i default ∧ X.getD i default ≤ 4) → ∀ i : Nat, i ≤ X.length → 0 ≤ sumL (X.take i) ∧ sumL (X.take i) ≤ 4 * i
 | X, h, 0, _ => by simp [sumL]
 | X, h, i + 1, hi => by
  have h1 := sumL_b X h i (by omega)
  have h2 := h i (by omega)
  rw [take_snocC (by omega), sumL_snoc]
  omega
theorem wid_b {n : ModL} (hm : ModOkP n) {s : Int} (h : inL n s) : 0 ≤ widL n s ∧ widL n s ≤ 4 := by
 unfold inL at h
 exact (hm.sg s.toNat (by omega)).2.1
theorem sumM_b {n : ModL} (hm : ModOkP n) : ∀ i : Nat, i ≤ n.ms.length → 0 ≤ sumM n i ∧ sumM n i ≤ 4 * i
 | 0, _ => by simp [sumM]
 | i + 1, hi => by
  have h1 := sumM_b hm i (by omega)
  have h2 := wid_b hm (hm.ms i (by omega)).2.2.2.1
  unfold sumM
  omega
theorem implFlatOk_h (x : ModA) (w0 : World) (hM : ModR w0 x) (hS : ModS x.n) (hW : ModW x.n) :
  Ret Tryz.prog 36 [x.v] w0 (fun v w => v = .bool (flatB x.n) ∧ Ext w0 w) := by
 refine enter Tryz.S36ok _ _ rfl rfl (by show _ ≤ _; simp only [List.length]; decide) (fun C => ?_); have hp := Hp.nil w0; refine h_run rfl ?_; skip; (first | refine H_box hp ?_ | refine H_alloc hp rfl ?_); intro w b1 hx hp; refine ops_run nopre rfl ?_; (repeat (refine H_ldB hp rfl rfl ?_))
 refine h_call rfl Tryz.func39 (by kernel_rfl) rfl (implEvalOrder_h x _ hp.mod hS hW) ?_; rintro _ w ⟨be, ce, rfl, hq⟩; have hx := hq.x; have hp := hp.call1 hq; refine ops_run nopre rfl ?_; skip
 cases hev : evtO x.n with
 | none =>
  rw [evR_none hev]
  have hbad : ¬ FlatP x.n := fun h => by have := h.ev; rw [hev] at this; exact Bool.noConfusion this
  refine h_cond_t rfl rfl ?_; (repeat (refine R_ret ?_))
  exact ⟨by unfold flatB; rw [pB_no' hbad], hp.x⟩
 | some l =>
  obtain ⟨⟨_, hm⟩, _, _⟩ := evtO_in hev
  rw [evR_some hev] at hp ⊢
  have l2 : x.asg.length ≤ 30 := by have := hm.l2; rw [x.alen] at this; exact this
  have l1 : x.sg.length ≤ 30 := hm.l1
  have l3 : x.ms.length ≤ 2 := hm.l3
  have hp : Hp w0 _ [rB b1 41 x.cs] := hp.drop
  refine h_cond_f rfl rfl ?_; (repeat (refine H_ldB hp rfl rfl ?_))
  refine h_loop [1, 20, 21, 22] (fun (i : Nat) => [(1, .pointer (some ⟨b1, 0, none⟩)), (20, .slice x.sa x.sg.length x.sc), (21, .int .i64 x.sg.length), (22, .int .i64 (i : Int))])
   (fun i w' => (i ≤ x.sg.length ∧ ∀ j, j < i → (x.sg.getD j default).width ≠ 0) ∧ Hp w0 w' [rB b1 41 x.cs]) (fun i => x.sg.length - i) 0 rfl ⟨⟨by omega, fun j hj => by omega⟩, hp⟩ ?_
  clear hp
  rintro i w1 ⟨⟨hi, hwd⟩, hp⟩ IH C
  refine h_run rfl ?_; skip
  refine h_cond_dec (fun hlt => ?_) (fun hlt => ?_)
  ·have hlt' : i < x.sg.length := by omega
   refine h_cond_t rfl rfl ?_; (repeat (refine H_ldEN hp rfl (by omega) rfl rfl ?_))
   (first | refine H_box hp ?_ | refine H_alloc hp rfl ?_); intro w b6 hx hp; refine ops_run nopre rfl ?_; (repeat (first | (refine gLoad ?_; refine H_ldB hp rfl rfl ?_) | (refine gStore ?_; refine U_stBN hp rfl rfl rfl rfl ?_; intro w hp; refine ops_run nopre rfl ?_)))
   refine h_cond_dec (fun hz => ?_) (fun hz => ?_)
   ·have hbad : ¬ FlatP x.n := fun h => h.wid i hlt' hz
    refine h_cond_t rfl rfl ?_; (repeat (refine R_ret ?_))
    exact ⟨by unfold flatB; rw [pB_no' hbad], hp.x⟩
   ·refine h_cond_f rfl rfl ?_; skip
    refine IH (i + 1) _ _ _ (by omega) rfl ⟨⟨by omega, fun j hj => ?_⟩, hp.drop⟩
    by_cases hj2 : j < i
    ·exact hwd j hj2
    ·obtain rfl : j = i := by omega
     exact hz
  ·refine h_cond_f rfl rfl ?_; (repeat (refine H_ldB hp rfl rfl ?_))
   obtain rfl : i = x.sg.length := by omega
   clear IH
   refine h_loop [1, 31, 32, 33] (fun (i : Nat) => [(1, .pointer (some ⟨b1, 0, none⟩)), (31, .slice x.aa x.asg.length x.ac), (32, .int .i64 x.asg.length), (33, .int .i64 (i : Int))])
    (fun i w' => (i ≤ x.asg.length ∧ ∀ j, j < i → ¬ ∃ o, o ∈ (x.asg.getD j default).ops ∧ o.kind = 1) ∧ Hp w0 w' [rB b1 41 x.cs]) (fun i => x.asg.length - i) 0 rfl ⟨⟨by omega, fun j hj => by omega⟩, hp⟩ ?_
   clear hp
   rintro i w1 ⟨⟨hi, hpr⟩, hp⟩ IH C
   refine h_run rfl ?_; skip
   refine h_cond_dec (fun hlt => ?_) (fun hlt => ?_)
   ·have hlt' : i < x.asg.length := by omega
    have hro := hM.asg.at_ hlt'
    have eol : (x.asg.getD i default).ops.length ≤ 1048576 := by have := hS.ops i (by rw [x.alen]; exact hlt'); rw [x.aops] at this; exact this
    refine h_cond_t rfl rfl ?_; (repeat (refine H_ldEN hp rfl (by omega) rfl rfl ?_))
    (first | refine H_box hp ?_ | refine H_alloc hp rfl ?_); intro w b8 hx hp; refine ops_run nopre rfl ?_; (repeat (first | (refine gLoad ?_; refine H_ldB hp rfl rfl ?_) | (refine gStore ?_; refine U_stBN hp rfl rfl rfl rfl ?_; intro w hp; refine ops_run nopre rfl ?_)))
    by_cases hpar : ∃ o, o ∈ (x.asg.getD i default).ops ∧ o.kind = 1
    ·refine h_call rfl Tryz.func92 (by kernel_rfl) rfl ((hasParam_h _ _ _ (x.asg.getD i default).ops rfl _ hp.rd eol).tt (parB_yes hpar)) ?_; rintro _ w ⟨rfl, hx⟩; have hp := hp.ext hx; refine ops_run nopre rfl ?_; skip
     have hbad : ¬ FlatP x.n := fun h => h.par i (by rw [x.alen]; exact hlt') (by rw [x.aops]; exact hpar)
     refine h_cond_t rfl rfl ?_; (repeat (refine R_ret ?_))
     exact ⟨by unfold flatB; rw [pB_no' hbad], hp.x⟩
    ·refine h_call rfl Tryz.func92 (by kernel_rfl) rfl ((hasParam_h _ _ _ (x.asg.getD i default).ops rfl _ hp.rd eol).ff (parB_no hpar)) ?_; rintro _ w ⟨rfl, hx⟩; have hp := hp.ext hx; refine ops_run nopre rfl ?_; skip
     refine h_cond_f rfl rfl ?_; skip
     refine IH (i + 1) _ _ _ (by omega) rfl ⟨⟨by omega, fun j hj => ?_⟩, hp.drop⟩
     by_cases hj2 : j < i
     ·exact hpr j hj2
     ·obtain rfl : j = i := by omega
      exact hpar
   ·refine h_cond_f rfl rfl ?_; (repeat (refine H_ldB hp rfl rfl ?_))
    obtain rfl : i = x.asg.length := by omega
    clear IH
    have p3 := pw_b hm 3
    have q3 := sumL_b _ p3.2 _ (Nat.le_refl _)
    rw [List.take_length] at q3
    refine h_call rfl Tryz.func18 (by kernel_rfl) rfl (portWidths_h x 3 _ hp.mod l1) ?_; rintro _ w ⟨bw, cw, rfl, hq⟩; have hx := hq.x; have hp := hp.call1 hq; refine ops_run nopre rfl ?_; skip
    refine h_call rfl Tryz.func37 (by kernel_rfl) rfl (sumInts_h bw cw _ (pwL x.n 3) rfl _ hp.rd p3.1 p3.2) ?_; rintro _ w ⟨rfl, hx⟩; have hp := hp.ext hx; refine ops_run nopre rfl ?_; (repeat (refine H_ldB hp rfl rfl ?_))
    refine h_loop [1, 9, 45, 46, 47] (fun (i : Nat) => [(1, .pointer (some ⟨b1, 0, none⟩)), (9, .int .i64 (sumL (pwL x.n 3) + sumM x.n i)), (45, .slice x.ma x.ms.length x.mc), (46, .int .i64 x.ms.length), (47, .int .i64 (i : Int))])
     (fun i w' => (i ≤ x.ms.length ∧ ∀ j, j < i → widL x.n (x.ms.getD j default).addr = 2 ∧ widL x.n (x.ms.getD j default).write = 1 ∧ widL x.n (x.ms.getD j default).data = widL x.n (x.ms.getD j default).out) ∧ Hp w0 w' [rB b1 41 x.cs]) (fun i => x.ms.length - i) 0 (by rw [show sumM x.n 0 = 0 from rfl, Int.add_zero]; rfl) ⟨⟨by omega, fun j hj => by omega⟩, hp.drop⟩ ?_
    clear hp
    rintro i w1 ⟨⟨hi, hms⟩, hp⟩ IH C
    have bM := sumM_b hm i hi
    refine h_run rfl ?_; skip
    refine h_cond_dec (fun hlt => ?_) (fun hlt => ?_)
    ·have hlt' : i < x.ms.length := by omega
     have hmi := hm.ms i hlt'
     obtain ⟨i1, i2, i3, i4, _⟩ := hmi
     change inL x.n (x.ms.getD i default).addr at i1
     change inL x.n (x.ms.getD i default).data at i2
     change inL x.n (x.ms.getD i default).write at i3
     change inL x.n (x.ms.getD i default).out at i4
     have bo := wid_b hm i4
     unfold inL at i1 i2 i3 i4
     change 0 ≤ (x.ms.getD i default).addr ∧ (x.ms.getD i default).addr < x.sg.length at i1
     change 0 ≤ (x.ms.getD i default).data ∧ (x.ms.getD i default).data < x.sg.length at i2
     change 0 ≤ (x.ms.getD i default).write ∧ (x.ms.getD i default).write < x.sg.length at i3
     change 0 ≤ (x.ms.getD i default).out ∧ (x.ms.getD i default).out < x.sg.length at i4
     change 0 ≤ (x.sg.getD (x.ms.getD i default).out.toNat default).width ∧ (x.sg.getD (x.ms.getD i default).out.toNat default).width ≤ 4 at bo
     refine h_cond_t rfl rfl ?_; (repeat (refine H_ldEN hp rfl (by omega) rfl rfl ?_))
     (first | refine H_box hp ?_ | refine H_alloc hp rfl ?_); intro w b11 hx hp; refine ops_run nopre rfl ?_; (repeat (refine U_stBN hp rfl rfl rfl rfl ?_; intro w hp; refine ops_run nopre rfl ?_))
     refine D_draw hp (by kernel_rfl) (by kernel_rfl) rfl rfl ?_; intro w hx hp; have hs := hp; (repeat (refine gLoad ?_; first | refine D_ldB rfl rfl rfl ?_ | refine D_ldF rfl (by omega) (by omega) rfl rfl rfl ?_))
     refine h_guard_by (fun h1 => ?_) (fun h1 => ?_); all_goals (rw [h1]; (first | replace h1 := of_decide_eq_true h1 | replace h1 := of_decide_eq_false h1 | skip); (repeat (first | (refine gGuard ?_; first | refine h_guard_yd rfl rfl rfl ?_ | refine h_guard_nd rfl rfl rfl ?_) | (refine gLoad ?_; first | refine D_ldB rfl rfl rfl ?_ | refine D_ldF rfl (by omega) (by omega) rfl rfl rfl ?_))))
     ·skip
      have hbad : ¬ FlatP x.n := fun h => h1 (h.ms i hlt').1
      refine h_cond_t rfl rfl ?_; (repeat (refine R_ret ?_))
      exact ⟨by unfold flatB; rw [pB_no' hbad], hp.x⟩
     ·refine h_guard_by (fun h2 => ?_) (fun h2 => ?_); all_goals (rw [h2]; (first | replace h2 := of_decide_eq_true h2 | replace h2 := of_decide_eq_false h2 | skip); (repeat (first | (refine gGuard ?_; first | refine h_guard_yd rfl rfl rfl ?_ | refine h_guard_nd rfl rfl rfl ?_) | (refine gLoad ?_; first | refine D_ldB rfl rfl rfl ?_ | refine D_ldF rfl (by omega) (by omega) rfl rfl rfl ?_))))
      ·skip
       have hbad : ¬ FlatP x.n := fun h => h2 (h.ms i hlt').2.1
       refine h_cond_t rfl rfl ?_; (repeat (refine R_ret ?_))
       exact ⟨by unfold flatB; rw [pB_no' hbad], hp.x⟩
      ·skip
       refine h_cond_dec (fun h3 => ?_) (fun h3 => ?_)
       ·have hbad : ¬ FlatP x.n := fun h => h3 (h.ms i hlt').2.2
        refine h_cond_t rfl rfl ?_; (repeat (refine R_ret ?_))
        exact ⟨by unfold flatB; rw [pB_no' hbad], hp.x⟩
       ·refine h_cond_f rfl rfl ?_; (repeat (refine gLoad ?_; first | refine H_ldB hp rfl rfl ?_ | refine H_ldF hp rfl (by omega) (by omega) rfl rfl ?_))
        refine IH (i + 1) _ _ _ (by omega) (by rw [sumM, ← Int.add_assoc]; rfl) ⟨⟨by omega, fun j hj => ?_⟩, hp.drop⟩
        by_cases hj2 : j < i
        ·exact hms j hj2
        ·obtain rfl : j = i := by omega
         exact ⟨Decidable.not_not.1 h1, Decidable.not_not.1 h2, Decidable.not_not.1 h3⟩
    ·refine h_cond_f rfl rfl ?_; (repeat (refine H_ldB hp rfl rfl ?_))
     obtain rfl : i = x.ms.length := by omega
     clear IH
     have p0 := pw_b hm 0
     have p1 := pw_b hm 1
     refine h_call rfl Tryz.func18 (by kernel_rfl) rfl (portWidths_h x 0 _ hp.mod l1) ?_; rintro _ w ⟨bw0, cw0, rfl, hq⟩; have hx := hq.x; have hp := hp.call1 hq; refine ops_run nopre rfl ?_; skip
     refine h_call rfl Tryz.func37 (by kernel_rfl) rfl (sumInts_h bw0 cw0 _ (pwL x.n 0) rfl _ hp.rd p0.1 p0.2) ?_; rintro _ w ⟨rfl, hx⟩; have hp := hp.ext hx; refine ops_run nopre rfl ?_; skip
     refine h_guard_by (fun h0 => ?_) (fun h0 => ?_); all_goals (rw [h0]; (first | replace h0 := of_decide_eq_true h0 | replace h0 := of_decide_eq_false h0 | skip); (repeat (first | (refine gGuard ?_; first | refine h_guard_y rfl nopre rfl ?_ | refine h_guard_n rfl nopre rfl ?_) | (refine gLoad ?_; refine H_ldB hp rfl rfl ?_) | refine R_ret ?_)))
     ·refine h_call rfl Tryz.func18 (by kernel_rfl) rfl (portWidths_h x 1 _ hp.mod l1) ?_; rintro _ w ⟨bw1, cw1, rfl, hq⟩; have hx := hq.x; have hp := hp.call1 hq; refine ops_run nopre rfl ?_; (repeat (refine h_guard_y rfl nopre rfl ?_))
      refine h_call rfl Tryz.func37 (by kernel_rfl) rfl (sumInts_h bw1 cw1 _ (pwL x.n 1) rfl _ hp.rd p1.1 p1.2) ?_; rintro _ w ⟨rfl, hx⟩; have hp := hp.ext hx; refine ops_run nopre rfl ?_; (repeat (refine h_guard_y rfl nopre rfl ?_))
      refine h_guard_by (fun h1 => ?_) (fun h1 => ?_); all_goals (rw [h1]; (first | replace h1 := of_decide_eq_true h1 | replace h1 := of_decide_eq_false h1 | skip); (repeat (first | (refine gGuard ?_; first | refine h_guard_y rfl nopre rfl ?_ | refine h_guard_n rfl nopre rfl ?_) | refine R_ret ?_)))
      ·refine ⟨?_, hp.x⟩
       by_cases h2 : sumL (pwL x.n 3) + sumM x.n x.ms.length ≤ 12
       ·have hok : FlatP x.n := ⟨by rw [hev]; rfl, hwd, fun j hj => by rw [x.aops]; exact hpr j (by rw [x.alen] at hj; exact hj), hms, h0, h1, h2⟩
        unfold flatB
        rw [pB_iff.2 hok, decide_eq_true h2]
       ·unfold flatB
        rw [pB_no' (fun h => h2 h.s3), decide_eq_false h2]
      ·exact ⟨by unfold flatB; rw [pB_no' (fun h => h1 h.s1)], hp.x⟩
     ·exact ⟨by unfold flatB; rw [pB_no' (fun h => h0 h.s0)], hp.x⟩
end Go.Proofs
