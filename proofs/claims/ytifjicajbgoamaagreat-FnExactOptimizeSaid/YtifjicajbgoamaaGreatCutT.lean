/- Texts that belong together; each under its stated conditions. -/
import Derived.Test.YtifjicajbgoamaaGreatCone
import Derived.Test.YtifjicajbgoamaaGreatFam
import Derived.Test.YtifjicajbgoamaaGreatTabLaw
import Derived.Test.YtifjicajbgoamaaGreatAdd
set_option linter.all false
section
namespace Go.Proofs
open Go.Xw
set_option maxRecDepth 100000
set_option maxHeartbeats 1000000
attribute [local irreducible] Holds elemAddr
theorem mem_getD_iff {xs : List Int} {x : Int} : x ∈ xs ↔ ∃ i, i < xs.length ∧ xs.getD i default = x := by
 constructor
 ·intro h
  obtain ⟨i, hi, rfl⟩ := List.mem_iff_getElem.1 h
  exact ⟨i, hi, by simp [List.getD_eq_getElem?_getD, hi]⟩
 ·rintro ⟨i, hi, rfl⟩; exact getD_mem hi
theorem hasInt_h (a : Option Addr) (c m : Nat) (xs : List Int) (hm : xs.length = m) (x : Int) (w0 : World) (hR : Rd w0 a 1 eI xs) (hl : m ≤ 1000000000) :
  Ret Tryz.prog 40 [.slice a m c, .int .i64 x] w0 (fun v w' => v = .bool (decide (x ∈ xs)) ∧ Ext w0 w') := by
 subst hm
 refine enter Tryz.S40ok _ _ rfl rfl (by show _ ≤ _; simp only [List.length]; decide) (fun C => ?_); have hp := Hp.nil w0; refine h_run rfl ?_; skip
 refine h_loop [1, 7, 8, 9] (fun i : Nat => [(1, .int .i64 x), (7, .slice a xs.length c), (8, .int .i64 xs.length), (9, .int .i64 (i : Int))])
  (fun i w' => i ≤ xs.length ∧ (∀ j, j < i → xs.getD j default ≠ x) ∧ Hp w0 w' []) (fun i => xs.length - i) 0 rfl ⟨by omega, fun j hj => by omega, hp⟩ ?_
 rintro i w1 ⟨hi, hne, hp⟩ IH C
 refine h_run rfl ?_; skip
 refine h_cond_dec (fun hlt => ?_) (fun hlt => ?_)
 ·have hlt' : i < xs.length := by omega
  refine h_cond_t rfl rfl ?_; (repeat (refine H_ldEN hp rfl (by omega) rfl rfl ?_))
  refine h_cond_dec (fun he => ?_) (fun he => ?_)
  ·refine h_cond_t rfl rfl ?_; (repeat (refine R_ret ?_))
   exact ⟨by rw [decide_eq_true (mem_getD_iff.2 ⟨i, hlt', by first | exact he | exact he.symm⟩)], hp.x⟩
  ·refine h_cond_f rfl rfl ?_; skip
   refine IH (i + 1) _ _ _ (by omega) rfl ⟨by omega, fun j hj => ?_, hp⟩
   by_cases hj2 : j < i
   ·exact hne j hj2
   ·obtain rfl : j = i := by omega
    first | exact he | exact fun h => he h.symm
 ·refine h_cond_f rfl rfl ?_; (repeat (refine R_ret ?_))
  exact ⟨by rw [decide_eq_false (fun h => by obtain ⟨j, h1, h2⟩ := mem_getD_iff.1 h; exact hne j (by omega) h2)], hp.x⟩
theorem l13Has_h (a : Option Addr) (c m : Nat) (xs : List Int) (hm : xs.length = m) (x : Int) (w0 : World) (hR : Rd w0 a 1 eI xs) (hl : m ≤ 1000000000) :
  Ret Tryz.prog 25 [.slice a m c, .int .i64 x] w0 (fun v w' => v = .bool (decide (x ∈ xs)) ∧ Ext w0 w') := by
 subst hm
 refine enter Tryz.S25ok _ _ rfl rfl (by show _ ≤ _; simp only [List.length]; decide) (fun C => ?_); have hp := Hp.nil w0; refine h_run rfl ?_; skip
 refine h_loop [0, 1, 5] (fun i : Nat => [(0, .slice a xs.length c), (1, .int .i64 x), (5, .int .i64 (i : Int))])
  (fun i w' => i ≤ xs.length ∧ (∀ j, j < i → xs.getD j default ≠ x) ∧ Hp w0 w' []) (fun i => xs.length - i) 0 rfl ⟨by omega, fun j hj => by omega, hp⟩ ?_
 rintro i w1 ⟨hi, hne, hp⟩ IH C
 refine h_run rfl ?_; skip
 refine h_cond_dec (fun hlt => ?_) (fun hlt => ?_)
 ·have hlt' : i < xs.length := by omega
  refine h_cond_t rfl rfl ?_; (repeat (refine H_ldEN hp rfl (by omega) rfl rfl ?_))
  refine h_cond_dec (fun he => ?_) (fun he => ?_)
  ·refine h_cond_t rfl rfl ?_; (repeat (refine R_ret ?_))
   exact ⟨by rw [decide_eq_true (mem_getD_iff.2 ⟨i, hlt', by first | exact he | exact he.symm⟩)], hp.x⟩
  ·refine h_cond_f rfl rfl ?_; skip
   refine IH (i + 1) _ _ _ (by omega) rfl ⟨by omega, fun j hj => ?_, hp⟩
   by_cases hj2 : j < i
   ·exact hne j hj2
   ·obtain rfl : j = i := by omega
    first | exact he | exact fun h => he h.symm
 ·refine h_cond_f rfl rfl ?_; (repeat (refine R_ret ?_))
  exact ⟨by rw [decide_eq_false (fun h => by obtain ⟨j, h1, h2⟩ := mem_getD_iff.1 h; exact hne j (by omega) h2)], hp.x⟩
theorem specCutOk_x (x : NetA) (k : Int) (a : Option Addr) (c : Nat) (cut : List Int) (w0 : World) (hX : NetR w0 x) (hS : NetS x.n) (hW : NetW x.n) (hK : i64R k) (hR : Rd w0 a 1 eI cut) (hL : cut.length ≤ 1048576) (hV : ∀ i, i < cut.length → i64R (cut.getD i default)) :
  Ret Tryz.prog 23 [x.v, .int .i64 k, .slice a cut.length c] w0 (fun v w => v = .bool (cutOkB x.n k cut) ∧ Ext w0 w) := by
 refine enter Tryz.S23ok _ _ rfl rfl (by show _ ≤ _; simp only [List.length]; decide) (fun C => ?_); have hp := Hp.nil w0; refine h_run rfl ?_; skip; (first | refine H_box hp ?_ | refine H_alloc hp rfl ?_); intro w b3 hx hp; refine ops_run nopre rfl ?_; (repeat (refine H_ldB hp rfl rfl ?_))
 by_cases hok : NetOkP x.n
 ·have hn := hok.nums
  obtain ⟨n1, n2, n3, n4, n5, n6⟩ := hn
  have hn := hok.nums
  have hnd := hok.nodes
  have hal : x.n.ands.length = x.ands.length := rfl
  have hcnt : nodeCountL x.n = nodesL x.n := if_pos hok.size
  refine h_call rfl Tryz.func50 (by kernel_rfl) rfl ((specNetOk_h x _ hp.net hS hW).tt (netOkB_yes hok)) ?_; rintro _ w ⟨rfl, hx⟩; have hp := hp.ext hx; refine ops_run nopre rfl ?_; (repeat (refine h_guard_y rfl nopre rfl ?_))
  refine h_guard_by (fun h1 => ?_) (fun h1 => ?_); all_goals (rw [h1]; (first | replace h1 := of_decide_eq_true h1 | replace h1 := of_decide_eq_false h1 | skip); (repeat (first | (refine gGuard ?_; first | refine h_guard_y rfl nopre rfl ?_ | refine h_guard_n rfl nopre rfl ?_) | (refine gLoad ?_; refine H_ldB hp rfl rfl ?_))))
  ·refine h_cond_t rfl rfl ?_; (repeat (refine R_ret ?_))
   have hno : ¬ (NetOkP x.n ∧ (0 ≤ k ∧ k < nodesL x.n) ∧ cutP x.n k.toNat cut) := fun h => by have := h.2.1; omega
   exact ⟨by rw [cutOkB_no hno], hp.x⟩
  ·refine h_call rfl Tryz.func62 (by kernel_rfl) rfl (specNodeCount_h x _) ?_; rintro _ w ⟨rfl, hx⟩; have hp := hp.ext hx; refine ops_run nopre rfl ?_; (repeat (refine h_guard_y rfl nopre rfl ?_))
   rw [hcnt]
   refine h_guard_by (fun h2 => ?_) (fun h2 => ?_); all_goals (rw [h2]; (first | replace h2 := of_decide_eq_true h2 | replace h2 := of_decide_eq_false h2 | skip); (repeat (refine gGuard ?_; first | refine h_guard_y rfl nopre rfl ?_ | refine h_guard_n rfl nopre rfl ?_)))
   ·refine h_cond_t rfl rfl ?_; (repeat (refine R_ret ?_))
    have hno : ¬ (NetOkP x.n ∧ (0 ≤ k ∧ k < nodesL x.n) ∧ cutP x.n k.toNat cut) := fun h => by have := h.2.1; omega
    exact ⟨by rw [cutOkB_no hno], hp.x⟩
   ·refine h_cond_dec (fun h3 => ?_) (fun h3 => ?_)
    ·refine h_cond_t rfl rfl ?_; (repeat (refine R_ret ?_))
     have hno : ¬ (NetOkP x.n ∧ (0 ≤ k ∧ k < nodesL x.n) ∧ cutP x.n k.toNat cut) := fun h => by have := h.2.2.1.1; omega
     exact ⟨by rw [cutOkB_no hno], hp.x⟩
    ·obtain ⟨k', rfl⟩ := Int.eq_ofNat_of_zero_le (show 0 ≤ k by omega)
     have hk : k' < nds x.n := by omega
     have hce : coneF x.n (k' : Int) = coneL x.n k' := coneF_yes ⟨hok, by omega, by omega⟩
     have hclen := coneL_len x.n k'
     refine h_cond_f rfl rfl ?_; (repeat (refine H_ldB hp rfl rfl ?_))
     refine h_call rfl Tryz.func63 (by kernel_rfl) rfl (specCone_x x (k' : Int) _ hp.net hS hW hK) ?_; rintro _ w ⟨b7, c7, rfl, hq⟩; have hx := hq.x; have hp := hp.call1 hq; refine ops_run nopre rfl ?_; skip
     rw [hce] at hp ⊢
     refine h_loop [1, 2, 3, 7, 8] (fun i : Nat => [(1, .int .i64 (k' : Int)), (2, .slice a cut.length c), (3, .pointer (some ⟨b3, 0, none⟩)), (7, .slice b7 (coneL x.n k').length c7), (8, .int .i64 (i : Int))])
      (fun i w' => i ≤ cut.length ∧ ((∀ j, j < i → cut.getD j default ∈ coneL x.n k') ∧ ∀ j, 1 ≤ j → j < i → cut.getD (j - 1) default < cut.getD j default) ∧ Hp w0 w' [rO 3 1 eI b7 c7 (coneL x.n k'), rB b3 31 x.cs]) (fun i => cut.length - i) 0 rfl ⟨by omega, ⟨fun j hj => by omega, fun j h1 hj => by omega⟩, hp⟩ ?_
     rintro i w1 ⟨hi, ⟨hall, hasc⟩, hp⟩ IH C
     have hz : ((i : Int) - 1).toNat = i - 1 := by omega
     refine h_run rfl ?_; skip
     refine h_cond_dec (fun hlt => ?_) (fun hlt => ?_)
     ·have hlt' : i < cut.length := by omega
      refine h_cond_t rfl rfl ?_; skip
      by_cases hm : cut.getD i default ∈ coneL x.n k'
      ·refine N_draw hp (by kernel_rfl) (by kernel_rfl) rfl rfl ?_; (repeat (refine N_ldEN rfl (by omega) rfl rfl rfl ?_))
       refine N_call Tryz.func25 (by kernel_rfl) rfl (fun F w hp => ?_); refine Ret.mono ((l13Has_h _ _ _ (coneL x.n k') rfl (cut.getD i default) _ hp.pre.rd (by omega)).yes hm) ?_; rintro _ w ⟨rfl, hx⟩; have hp := hp.ext hx; refine ⟨fun _ => hp.sub (by (repeat (first | exact List.sublist_append_left _ _ | apply List.Sublist.cons))), _, hp, ?_⟩; clear hp; refine N_ops rfl rfl ?_; (repeat (refine N_guard_y rfl rfl rfl ?_))
       refine N_guard_by (fun h4 => ?_) (fun h4 => ?_); all_goals (rw [h4]; (first | replace h4 := of_decide_eq_true h4 | replace h4 := of_decide_eq_false h4 | skip); (repeat (first | (refine nGuard ?_; first | refine N_guard_y rfl rfl rfl ?_ | refine N_guard_n rfl rfl rfl ?_) | (refine nLoad ?_; first | refine N_ldEN rfl (by omega) rfl rfl rfl ?_ | refine N_ldE rfl (by omega) (by omega) rfl rfl rfl ?_))))
       ·refine N_end ?_; intro w hp C; refine h_run rfl ?_; skip
        have hz2 : ((i : Int) - 1).toNat = i - 1 := by omega
        refine h_cond_dec (fun h5 => ?_) (fun h5 => ?_)
        ·rw [hz2] at h5
         refine h_cond_t rfl rfl ?_; (repeat (refine R_ret ?_))
         have hno : ¬ (NetOkP x.n ∧ (0 ≤ (k' : Int) ∧ (k' : Int) < nodesL x.n) ∧ cutP x.n (k' : Int).toNat cut) := fun h => by have := asc_get.2 h.2.2.1.2 i (by omega) hlt'; omega
         exact ⟨by rw [cutOkB_no hno], hp.x⟩
        ·rw [hz2] at h5
         refine h_cond_f rfl rfl ?_; skip
         refine IH (i + 1) _ _ _ (by omega) rfl ⟨by omega, ⟨fun j hj => ?_, fun j h1 hj => ?_⟩, hp⟩
         ·by_cases hj2 : j < i
          ·exact hall j hj2
          ·obtain rfl : j = i := by omega
           exact hm
         ·by_cases hj2 : j < i
          ·exact hasc j h1 hj2
          ·obtain rfl : j = i := by omega
           omega
       ·refine N_end ?_; intro w hp C; refine h_run rfl ?_; skip
        refine h_cond_f rfl rfl ?_; skip
        refine IH (i + 1) _ _ _ (by omega) rfl ⟨by omega, ⟨fun j hj => ?_, fun j h1 hj => by omega⟩, hp⟩
        by_cases hj2 : j < i
        ·exact hall j hj2
        ·obtain rfl : j = i := by omega
         exact hm
      ·refine N_draw hp (by kernel_rfl) (by kernel_rfl) rfl rfl ?_; (repeat (refine N_ldEN rfl (by omega) rfl rfl rfl ?_))
       refine N_call Tryz.func25 (by kernel_rfl) rfl (fun F w hp => ?_); refine Ret.mono ((l13Has_h _ _ _ (coneL x.n k') rfl (cut.getD i default) _ hp.pre.rd (by omega)).no hm) ?_; rintro _ w ⟨rfl, hx⟩; have hp := hp.ext hx; refine ⟨fun _ => hp.sub (by (repeat (first | exact List.sublist_append_left _ _ | apply List.Sublist.cons))), _, hp, ?_⟩; clear hp; refine N_ops rfl rfl ?_; (repeat (refine N_guard_n rfl rfl rfl ?_))
       refine N_end ?_; intro w hp C; refine h_run rfl ?_; skip
       refine h_cond_t rfl rfl ?_; (repeat (refine R_ret ?_))
       have hno : ¬ (NetOkP x.n ∧ (0 ≤ (k' : Int) ∧ (k' : Int) < nodesL x.n) ∧ cutP x.n (k' : Int).toNat cut) := fun h => hm (h.2.2.2.1 _ (getD_mem hlt'))
       exact ⟨by rw [cutOkB_no hno], hp.x⟩
     ·refine h_cond_f rfl rfl ?_; (repeat (refine H_ldB hp rfl rfl ?_))
      obtain rfl : i = cut.length := by omega
      have hall' : ∀ c, c ∈ cut → c ∈ coneL x.n k' := mem_iff_getD.2 hall
      have hAsc : Asc cut := asc_get.1 fun j h1 h2 => hasc j h1 h2
      have hrl : (List.replicate (nds x.n) false).length = nds x.n := by simp
      refine h_call rfl Tryz.func62 (by kernel_rfl) rfl (specNodeCount_h x _) ?_; rintro _ w ⟨rfl, hx⟩; have hp := hp.ext hx; refine ops_run nopre rfl ?_; skip
      rw [hcnt, ← n4]
      refine H_make hp eB false rfl rfl rfl rfl (s := 1) rfl (by decide) rfl (by unfold maxLen; omega) (by show 1 * _ ≤ _; omega) ?_; intro w b9 hx hp; refine ops_run nopre rfl ?_; (repeat (refine U_st0N hp rfl rfl rfl (by omega) (by decide) rfl rfl ?_; intro w hp; refine ops_run nopre rfl ?_))
      refine h_loop2 [2, 3, 9, 10] (fun (K : Nat) (_ : List Bool) => [(2, .slice a cut.length c), (3, .pointer (some ⟨b3, 0, none⟩)), (9, .slice (some ⟨b9, 0, none⟩) (nds x.n) (nds x.n)), (10, .int .i64 ((K : Int) - 1))])
       (fun K B w' => (1 ≤ K ∧ K ≤ k' + 1) ∧ OTop x.n cut k' B K ∧ Hp w0 w' [rO 4 1 eB (some ⟨b9, 0, none⟩) (nds x.n) B, rB b3 31 x.cs]) (fun K _ => K) (k' + 1) ((List.replicate (nds x.n) false).set k' true) (by rw [show (((k' + 1 : Nat) : Int)) - 1 = (k' : Int) by omega]; rfl)
       ⟨by omega, .start hk, (hp.f2.f1).f2.drop.f1 |> fun h => h.f1⟩ ?_
      clear hp IH hall hasc hi
      rintro K B w1 ⟨⟨hK1, hK2⟩, hO, hp⟩ IH C
      have hBl := hO.len
      have hz : ((K : Int) - 1).toNat = K - 1 := by omega
      have hOK : OTop x.n cut k' B (K - 1 + 1) := by rw [show K - 1 + 1 = K by omega]; exact hO
      refine h_run rfl ?_; skip
      refine h_cond_dec (fun hlt => ?_) (fun hlt => ?_)
      ·refine h_cond_t rfl rfl ?_; (repeat (refine H_ldE hp rfl (by omega) (by omega) rfl rfl ?_))
       refine h_guard_by (fun hb => ?_) (fun hb => ?_); all_goals (rw [hb]; (first | replace hb := of_decide_eq_true hb | replace hb := of_decide_eq_false hb | skip); (repeat (refine gGuard ?_; first | refine h_guard_y rfl nopre rfl ?_ | refine h_guard_n rfl nopre rfl ?_)))
       ·have hb' : ¬ B.getD (K - 1) default = true := by rw [hz] at hb; simpa using hb
        refine h_cond_t rfl rfl ?_; skip
        exact IH (K - 1) B _ _ _ (by omega) (by rw [show (((K - 1 : Nat) : Int)) - 1 = (K : Int) - 1 - 1 by omega]; rfl) ⟨by omega, hOK.skip (.inl hb'), hp⟩
       ·have hb' : B.getD (K - 1) default = true := by rw [hz] at hb; simpa using hb
        by_cases hm : ((K : Int) - 1) ∈ cut
        ·refine h_call rfl Tryz.func25 (by kernel_rfl) rfl ((l13Has_h _ _ _ cut rfl ((K : Int) - 1) _ hp.rd (by omega)).yes hm) ?_; rintro _ w ⟨rfl, hx⟩; have hp := hp.ext hx; refine ops_run nopre rfl ?_; skip
         refine h_cond_t rfl rfl ?_; skip
         exact IH (K - 1) B _ _ _ (by omega) (by rw [show (((K - 1 : Nat) : Int)) - 1 = (K : Int) - 1 - 1 by omega]; rfl) ⟨by omega, hOK.skip (.inr (by rw [show (((K - 1 : Nat) : Int)) = (K : Int) - 1 by omega]; exact hm)), hp⟩
        ·have hm' : (((K - 1 : Nat) : Int)) ∉ cut := by rw [show (((K - 1 : Nat) : Int)) = (K : Int) - 1 by omega]; exact hm
         refine h_call rfl Tryz.func25 (by kernel_rfl) rfl ((l13Has_h _ _ _ cut rfl ((K : Int) - 1) _ hp.rd (by omega)).no hm) ?_; rintro _ w ⟨rfl, hx⟩; have hp := hp.ext hx; refine ops_run nopre rfl ?_; skip
         refine h_cond_f rfl rfl ?_; (repeat (refine H_ldB hp rfl rfl ?_))
         refine h_call rfl Tryz.func24 (by kernel_rfl) rfl (l08First_h x _ hok.b) ?_; rintro _ w ⟨rfl, hx⟩; have hp := hp.ext hx; refine ops_run nopre rfl ?_; skip
         refine h_cond_dec (fun h6 => ?_) (fun h6 => ?_)
         ·refine h_cond_t rfl rfl ?_; (repeat (refine R_ret ?_))
          have hE := hOK.bad (by omega) hb' hm' (by omega) (by omega)
          have hno : ¬ (NetOkP x.n ∧ (0 ≤ (k' : Int) ∧ (k' : Int) < nodesL x.n) ∧ cutP x.n (k' : Int).toNat cut) := fun h => h.2.2.2.2 hE
          exact ⟨by rw [cutOkB_no hno], hp.x⟩
         ·have hi : K - 1 - fst_ x.n < x.ands.length := by omega
          have hki : fst_ x.n + (K - 1 - fst_ x.n) = K - 1 := by omega
          have hz3 : ((K : Int) - 1 - firstAndL x.n).toNat = K - 1 - fst_ x.n := by omega
          have Q := hok.and_ hi
          have Q' := Q
          rw [← hz3] at Q'
          obtain ⟨Q1, Q2, Q3, Q4⟩ := Q
          obtain ⟨Q1', Q2', Q3', Q4'⟩ := Q'
          have ka := n5 _ hi
          have kb := n6 _ hi
          have hl1 : (B.set ((x.ands.getD ((K : Int) - 1 - firstAndL x.n).toNat default).1 / 2).toNat true).length = B.length := by simp
          have hOd := OTop.down hn hi (by rw [hki]; exact hOK) (by rw [hki]; exact hb') (by rw [hki]; exact hm')
          rw [hki] at hOd
          refine h_cond_f rfl rfl ?_; skip
          refine N_draw hp (by kernel_rfl) (by kernel_rfl) rfl rfl ?_; (repeat (refine N_ldB rfl rfl rfl ?_))
          refine N_call Tryz.func24 (by kernel_rfl) rfl (fun F w hp => ?_); refine Ret.mono (l08First_h x _ hok.b) ?_; rintro _ w ⟨rfl, hx⟩; have hp := hp.ext hx; refine ⟨fun _ => hp.sub (by (repeat (first | exact List.sublist_append_left _ _ | apply List.Sublist.cons))), _, hp, ?_⟩; clear hp; refine N_ops rfl rfl ?_; (repeat (refine N_ldE rfl (by omega) (by omega) rfl rfl rfl ?_))
          (first | refine N_box ?_ | refine N_alloc rfl ?_); intro b11; refine N_ops rfl rfl ?_; (repeat (refine N_stBN rfl rfl rfl rfl (by kernel_rfl) ?_; refine N_ops rfl rfl ?_))
          refine N_end ?_; intro w hp C; refine h_run rfl ?_; (repeat (first | (refine gLoad ?_; refine H_ldB hp rfl rfl ?_) | (refine gStore ?_; refine U_st0 hp rfl rfl rfl (by omega) (by decide) rfl rfl ?_; intro w hp; refine ops_run nopre rfl ?_)))
          rw [hz3] at hp
          exact IH (K - 1) _ _ _ _ (by omega) (by rw [show (((K - 1 : Nat) : Int)) - 1 = (K : Int) - 1 - 1 by omega]; rfl) ⟨by omega, hOd, hp.drop⟩
      ·refine h_cond_f rfl rfl ?_; (repeat (refine R_ret ?_))
       obtain rfl : K = 1 := by omega
       have hcP : cutP x.n (k' : Int).toNat cut := ⟨⟨by omega, hAsc⟩, hall', hO.done hn hk⟩
       have hyes : cutOkB x.n (k' : Int) cut = true := cutOkB_yes ⟨hok, ⟨by omega, by omega⟩, hcP⟩
       exact ⟨by rw [hyes], hp.x⟩
 ·refine h_call rfl Tryz.func50 (by kernel_rfl) rfl ((specNetOk_h x _ hp.net hS hW).ff (netOkB_no hok)) ?_; rintro _ w ⟨rfl, hx⟩; have hp := hp.ext hx; refine ops_run nopre rfl ?_; (repeat (refine h_guard_n rfl nopre rfl ?_))
  refine h_cond_t rfl rfl ?_; (repeat (refine R_ret ?_))
  have hno : ¬ (NetOkP x.n ∧ (0 ≤ k ∧ k < nodesL x.n) ∧ cutP x.n k.toNat cut) := fun h => hok h.1
  exact ⟨by rw [cutOkB_no hno], hp.x⟩
end Go.Proofs
end
section
namespace Go.Proofs
open Go.Xw
set_option maxRecDepth 100000
set_option maxHeartbeats 4000000
attribute [local irreducible] Holds elemAddr
theorem cvL_cut {n : NetL} {cut : List Int} (hA : Asc cut) {k j : Nat} (hk : k < nds n) (hj : j < cut.length) (he : cut.getD j default = (k : Int)) (q : Nat) : cvL n cut k q = bitI q j := by
 unfold cvL
 rw [cvTo_get hk]
 unfold cvAt
 rw [if_pos (by rw [← he]; exact getD_mem hj), asc_idx hA hj he]
theorem cvL_leaf {n : NetL} {cut : List Int} {k : Nat} (hk : k < nds n) (hc : (k : Int) ∉ cut) (hf : k < fst_ n) (q : Nat) : cvL n cut k q = 0 := by
 unfold cvL
 rw [cvTo_get hk]
 unfold cvAt
 rw [if_neg hc, if_neg (by omega)]
theorem cvL_and {n : NetL} (hn : Nums n) {cut : List Int} {i : Nat} (hi : i < n.ands.length) (hc : ((fst_ n + i : Nat) : Int) ∉ cut) (q : Nat) :
  cvL n cut (fst_ n + i) q = bits .and .i64 (bits .xor .i64 (cvL n cut (kA n i) q) (bits .and .i64 (n.ands.getD i default).1 1)) (bits .xor .i64 (cvL n cut (kB n i) q) (bits .and .i64 (n.ands.getD i default).2 1)) := by
 have ka := hn.ka i hi
 have kb := hn.kb i hi
 have n1 := hn.n1
 have side : ∀ l : Int, (l / 2).toNat < fst_ n + i → litV (cvTo n cut q (fst_ n + i)) l = bits .xor .i64 (cvL n cut (l / 2).toNat q) (bits .and .i64 l 1) := fun l hl => by
  unfold litV cvL
  rw [cvTo_get hl, cvTo_get (show (l / 2).toNat < nds n by omega)]
 have e : cvL n cut (fst_ n + i) q = cvAt n cut q (cvTo n cut q (fst_ n + i)) (fst_ n + i) := by unfold cvL; rw [cvTo_get (by omega)]
 rw [e]
 unfold cvAt
 rw [if_neg hc, if_pos (by omega), show fst_ n + i - fst_ n = i by omega, side _ ka, side _ kb]
 rfl
structure MOk (n : NetL) (cut : List Int) (q : Nat) (M : List Int) : Prop where
 len : M.length = nds n
 get : ∀ j, j < nds n → fst_ n ≤ j → (j : Int) ∉ cut → M.getD j default = 0 ∨ M.getD j default = 1 + cvL n cut j q
theorem MOk.set {n : NetL} {cut : List Int} {q : Nat} {M : List Int} (h : MOk n cut q M) {k : Nat} (hk : k < nds n) {v : Int} (hv : v = 1 + cvL n cut k q) : MOk n cut q (M.set k v) := by
 refine ⟨by rw [List.length_set]; exact h.len, fun j hj hf hc => ?_⟩
 by_cases hjk : j = k
 ·subst hjk
  right
  simp only [List.getD_eq_getElem?_getD, List.getElem?_set_self (show j < M.length by rw [h.len]; exact hj), Option.getD_some]
  exact hv
 ·have := h.get j hj hf hc
  simp only [List.getD_eq_getElem?_getD, List.getElem?_set_ne (fun e => hjk e.symm)] at this ⊢
  exact this
theorem valueAbove_h (x : NetA) {w0 : World} (hX : NetR w0 x) (hok : NetOkP x.n) (ca : Option Addr) (cc : Nat) (cut : List Int) (hcl : cut.length ≤ 4) (hA : Asc cut) (hT : Rd w0 ca 1 eI cut) (q : Nat) (hq : q ≤ 65536) (a : Option Addr) (c : Nat) : ∀ (k : Nat), k < nds x.n → ∀ (w : World) (L : List Res) (M : List Int), Hp w0 w (rO 3 1 eI a c M :: L) → MOk x.n cut q M →
  Ret Tryz.prog 120 [x.v, .int .i64 (k : Int), .slice ca cut.length cc, .int .i64 (q : Int), .slice a (nds x.n) c] w (fun v w' => ∃ M', v = .int .i64 (cvL x.n cut k q) ∧ MOk x.n cut q M' ∧ Hp w0 w' (rO 3 1 eI a c M' :: L)) := by
 have hn := hok.nums
 obtain ⟨n1, n2, n3, n4, n5, n6⟩ := hn
 have hn := hok.nums
 have hnd := hok.nodes
 have hal : x.n.ands.length = x.ands.length := rfl
 intro k
 induction k using Nat.strongRecOn with
 | _ k ih =>
 have ihF : ∀ m, m < k → m < nds x.n → ∀ (w : World) (L F : List Res) (M : List Int), Hp w0 w ((rO 3 1 eI a c M :: L) ++ F) → MOk x.n cut q M →
   Ret Tryz.prog 120 [x.v, .int .i64 (m : Int), .slice ca cut.length cc, .int .i64 (q : Int), .slice a (nds x.n) c] w (fun v w' => ∃ M', v = .int .i64 (cvL x.n cut m q) ∧ MOk x.n cut q M' ∧ Hp w0 w' ((rO 3 1 eI a c M' :: L) ++ F)) :=
  fun m h1 h2 w L F M h3 h4 => ih m h1 h2 w (L ++ F) M h3 h4
 intro hk w L M hp hM
 refine enter Tryz.S120ok _ _ rfl rfl (by show _ ≤ _; simp only [List.length]; decide) (fun C => ?_); refine h_run rfl ?_; skip
 (first | refine H_box hp ?_ | refine H_alloc hp rfl ?_); intro w b5 hx hp; refine ops_run nopre rfl ?_; skip
 refine h_loop [1, 2, 3, 4, 5, 16, 17, 18] (fun (j : Nat) => [(1, .int .i64 (k : Int)), (2, .slice ca cut.length cc), (3, .int .i64 (q : Int)), (4, .slice a (nds x.n) c), (5, .pointer (some ⟨b5, 0, none⟩)), (16, .slice ca cut.length cc), (17, .int .i64 cut.length), (18, .int .i64 (j : Int))])
  (fun j w' => (j ≤ cut.length ∧ ∀ m, m < j → cut.getD m default ≠ (k : Int)) ∧ Hp w0 w' (rB b5 31 x.cs :: rO 3 1 eI a c M :: L)) (fun j => cut.length - j) 0 rfl ⟨⟨by omega, fun m hm => by omega⟩, hp⟩ ?_
 clear hp
 rintro j w1 ⟨⟨hj, hne⟩, hp⟩ IHL C
 have hbk : ((j : Nat) : Int) ≤ ((IntKind.i64.bits : Nat) : Int) := by show ((j : Nat) : Int) ≤ 64; omega
 refine h_run rfl ?_; skip
 refine h_cond_dec (fun hlt => ?_) (fun hlt => ?_)
 ·have hlt' : j < cut.length := by omega
  refine h_cond_t rfl rfl ?_; (repeat (refine H_ldEN hp rfl (by omega) rfl rfl ?_))
  refine h_cond_dec (fun he => ?_) (fun he => ?_)
  ·refine h_cond_t rfl rfl ?_; (repeat (refine R_ret ?_))
   exact ⟨M, by rw [cvL_cut hA hk hlt' he]; rfl, hM, hp.drop⟩
  ·refine h_cond_f rfl rfl ?_; skip
   refine IHL (j + 1) _ _ _ (by omega) rfl ⟨⟨by omega, fun m hm => ?_⟩, hp⟩
   by_cases hm2 : m < j
   ·exact hne m hm2
   ·obtain rfl : m = j := by omega
    exact he
 ·obtain rfl : j = cut.length := by omega
  have hc : (k : Int) ∉ cut := fun h => by
   obtain ⟨m, h1, h2⟩ := mem_getD_iff.1 h
   exact hne m h1 h2
  have hMl := hM.len
  refine h_cond_f rfl rfl ?_; (repeat (refine H_ldB hp rfl rfl ?_))
  refine h_call rfl Tryz.func39 (by kernel_rfl) rfl (isAnd_h x k _ hok.b) ?_; rintro _ w ⟨rfl, hx⟩; have hp := hp.ext hx; refine ops_run nopre rfl ?_; skip
  refine h_cond_ndec (fun hA2 => ?_) (fun hA2 => ?_)
  ·refine h_cond_t rfl rfl ?_; (repeat (refine R_ret ?_))
   exact ⟨M, by rw [cvL_leaf hk hc (by omega)], hM, hp.drop⟩
  ·have hi : k - fst_ x.n < x.ands.length := by omega
   have hki : fst_ x.n + (k - fst_ x.n) = k := by omega
   have hz : ((k : Int) - firstAndL x.n).toNat = k - fst_ x.n := by omega
   have Q := hok.and_ hi
   have Q' := Q
   rw [← hz] at Q'
   obtain ⟨Q1, Q2, Q3, Q4⟩ := Q
   obtain ⟨Q1', Q2', Q3', Q4'⟩ := Q'
   have ka := n5 _ hi
   have kb := n6 _ hi
   have eA : ((kA x.n (k - fst_ x.n) : Nat) : Int) = (x.ands.getD (k - fst_ x.n) default).1 / 2 := Int.toNat_of_nonneg (show 0 ≤ (x.ands.getD (k - fst_ x.n) default).1 / 2 by omega)
   have eB' : ((kB x.n (k - fst_ x.n) : Nat) : Int) = (x.ands.getD (k - fst_ x.n) default).2 / 2 := Int.toNat_of_nonneg (show 0 ≤ (x.ands.getD (k - fst_ x.n) default).2 / 2 by omega)
   have hcv := cvL_and hn hi (by rw [hki]; exact hc) (q := q) (cut := cut)
   rw [hki] at hcv
   have h01 := cvL_01 x.n cut k q
   unfold is01 at h01
   have hg := hM.get k hk (by omega) hc
   have hnea : a ≠ none := nn_of hp (X := M) (by omega)
   refine h_cond_f rfl rfl ?_; (repeat (refine H_ldEN hp rfl (by omega) rfl rfl ?_))
   refine h_cond_dec (fun h0 => ?_) (fun h0 => ?_)
   ·refine h_cond_t rfl rfl ?_; skip
    refine N_draw hp (by kernel_rfl) (by kernel_rfl) rfl rfl ?_; (repeat (refine N_ldB rfl rfl rfl ?_))
    refine N_call Tryz.func55 (by kernel_rfl) rfl (fun F w hp => ?_); refine Ret.mono (firstAnd_h x _ hok.b) ?_; rintro _ w ⟨rfl, hx⟩; have hp := hp.ext hx; refine ⟨fun _ => hp.sub (by (repeat (first | exact List.sublist_append_left _ _ | apply List.Sublist.cons))), _, hp, ?_⟩; clear hp; refine N_ops rfl rfl ?_; (repeat (refine N_ldE rfl (by omega) (by omega) rfl rfl rfl ?_))
    (first | refine N_box ?_ | refine N_alloc rfl ?_); intro b13; refine N_ops rfl rfl ?_; (repeat (refine N_stBN rfl rfl rfl rfl (by kernel_rfl) ?_; refine N_ops rfl rfl ?_))
    refine N_end ?_; intro w hp C; refine h_run rfl ?_; skip
    rw [hz] at hp
    refine N_draw0 hp (show Hp w0 w [rB b13 62 (eII (x.ands.getD (k - fst_ x.n) default)), rB b5 31 x.cs] from Hp.tk hp 2) (by kernel_rfl) (by kernel_rfl) rfl rfl ?_; (repeat (refine N_ldB rfl rfl rfl ?_))
    show HoldsF _ _ _ _ _ _ (G.act (.call _ [_, .int .i64 ((x.ands.getD (k - fst_ x.n) default).1 / 2), _, _, _]) _)
    rw [← eA]
    refine N_f1 ?_; refine N_f1 ?_; refine N_f2 ?_
    refine N_call Tryz.func120 (by kernel_rfl) rfl (fun F w hp => ?_); refine Ret.mono (ihF (kA x.n (k - fst_ x.n)) (by omega) (by omega) _ _ _ M hp hM) ?_; rintro _ w ⟨M1, rfl, hM1, hp⟩; refine ⟨fun _ => Hp.tk (Hp.drop hp.pre) 2, _, hp, ?_⟩; clear hp; refine N_ops rfl rfl ?_; (repeat (refine N_ldB rfl rfl rfl ?_))
    refine N_end ?_; intro w hp C; refine h_run rfl ?_; skip
    have hM1l := hM1.len
    have hp := hp.f2.f2
    refine N_draw0 hp (show Hp w0 w [rB b13 62 (eII (x.ands.getD (k - fst_ x.n) default)), rB b5 31 x.cs] from Hp.tk hp 2) (by kernel_rfl) (by kernel_rfl) rfl rfl ?_; (repeat (refine N_ldB rfl rfl rfl ?_))
    show HoldsF _ _ _ _ _ _ (G.act (.call _ [_, .int .i64 ((x.ands.getD (k - fst_ x.n) default).2 / 2), _, _, _]) _)
    rw [← eB']
    refine N_f1 ?_; refine N_f1 ?_; refine N_f2 ?_
    refine N_call Tryz.func120 (by kernel_rfl) rfl (fun F w hp => ?_); refine Ret.mono (ihF (kB x.n (k - fst_ x.n)) (by omega) (by omega) _ _ _ M1 hp hM1) ?_; rintro _ w ⟨M2, rfl, hM2, hp⟩; refine ⟨fun _ => Hp.tk (Hp.drop hp.pre) 2, _, hp, ?_⟩; clear hp; refine N_ops rfl rfl ?_; (repeat (refine N_ldB rfl rfl rfl ?_))
    have hM2l := hM2.len
    have hnea2 : a ≠ none := hnea
    obtain ⟨va, hva⟩ : ∃ va, va = bits .and .i64 (bits .xor .i64 (cvL x.n cut (kA x.n (k - fst_ x.n)) q) (bits .and .i64 (x.ands.getD (k - fst_ x.n) default).1 1)) (bits .xor .i64 (cvL x.n cut (kB x.n (k - fst_ x.n)) q) (bits .and .i64 (x.ands.getD (k - fst_ x.n) default).2 1)) := ⟨_, rfl⟩
    have hcv' : cvL x.n cut k q = va := by rw [hva]; exact hcv
    have hva1 : bits .and .i64 (bits .xor .i64 (cvL x.n cut (kA x.n (k - fst_ x.n)) q) (bits .and .i64 (x.ands.getD (k - fst_ x.n) default).1 1)) (bits .xor .i64 (cvL x.n cut (kB x.n (k - fst_ x.n)) q) (bits .and .i64 (x.ands.getD (k - fst_ x.n) default).2 1)) = 0 ∨ bits .and .i64 (bits .xor .i64 (cvL x.n cut (kA x.n (k - fst_ x.n)) q) (bits .and .i64 (x.ands.getD (k - fst_ x.n) default).1 1)) (bits .xor .i64 (cvL x.n cut (kB x.n (k - fst_ x.n)) q) (bits .and .i64 (x.ands.getD (k - fst_ x.n) default).2 1)) = 1 := by rw [← hva, ← hcv']; exact h01
    have hset : (M2.set k (1 + bits .and .i64 (bits .xor .i64 (cvL x.n cut (kA x.n (k - fst_ x.n)) q) (bits .and .i64 (x.ands.getD (k - fst_ x.n) default).1 1)) (bits .xor .i64 (cvL x.n cut (kB x.n (k - fst_ x.n)) q) (bits .and .i64 (x.ands.getD (k - fst_ x.n) default).2 1)))).getD k default = 1 + bits .and .i64 (bits .xor .i64 (cvL x.n cut (kA x.n (k - fst_ x.n)) q) (bits .and .i64 (x.ands.getD (k - fst_ x.n) default).1 1)) (bits .xor .i64 (cvL x.n cut (kB x.n (k - fst_ x.n)) q) (bits .and .i64 (x.ands.getD (k - fst_ x.n) default).2 1)) := by
     simp only [List.getD_eq_getElem?_getD, List.getElem?_set_self (show k < M2.length by omega), Option.getD_some]
    have hsl3 : (M2.set k (1 + bits .and .i64 (bits .xor .i64 (cvL x.n cut (kA x.n (k - fst_ x.n)) q) (bits .and .i64 (x.ands.getD (k - fst_ x.n) default).1 1)) (bits .xor .i64 (cvL x.n cut (kB x.n (k - fst_ x.n)) q) (bits .and .i64 (x.ands.getD (k - fst_ x.n) default).2 1)))).length = nds x.n := by rw [List.length_set]; exact hM2l
    refine N_end ?_; intro w hp C; refine h_run rfl ?_; (repeat (first | (refine gLoad ?_; refine H_ldEN hp rfl (by omega) rfl rfl ?_) | (refine gStore ?_; refine U_st0N hp rfl rfl rfl (by omega) (by decide) rfl rfl ?_; intro w hp; refine ops_run nopre rfl ?_) | refine R_ret ?_))
    skip
    refine ⟨_, ?_, hM2.set hk (by rw [hcv', hva]), hp.f1.drop.f1.drop⟩
    rw [hset, hcv', hva]
    congr 1
    omega
   ·have hg2 : M.getD k default = 1 + cvL x.n cut k q := hg.resolve_left h0
    refine h_cond_f rfl rfl ?_; (repeat (first | (refine gLoad ?_; refine H_ldEN hp rfl (by omega) rfl rfl ?_) | refine R_ret ?_))
    exact ⟨M, by rw [hg2]; congr 1; omega, hM, hp.drop⟩
theorem valueAbove_F (x : NetA) {w0 : World} (hX : NetR w0 x) (hok : NetOkP x.n) (ca : Option Addr) (cc : Nat) (cut : List Int) (hcl : cut.length ≤ 4) (hA : Asc cut) (hT : Rd w0 ca 1 eI cut) (q : Nat) (hq : q ≤ 65536) (a : Option Addr) (c : Nat) (k : Nat) (hk : k < nds x.n) {w : World} {L F : List Res} {M : List Int} (hp : Hp w0 w ((rO 3 1 eI a c M :: L) ++ F)) (hM : MOk x.n cut q M) :
  Ret Tryz.prog 120 [x.v, .int .i64 (k : Int), .slice ca cut.length cc, .int .i64 (q : Int), .slice a (nds x.n) c] w (fun v w' => ∃ M', v = .int .i64 (cvL x.n cut k q) ∧ MOk x.n cut q M' ∧ Hp w0 w' ((rO 3 1 eI a c M' :: L) ++ F)) :=
 valueAbove_h x hX hok ca cc cut hcl hA hT q hq a c k hk w (L ++ F) M hp hM
theorem cutTableC_h (x : NetA) (k : Nat) (ca : Option Addr) (cc : Nat) (cut : List Int) (hcl : cut.length ≤ 4) (hA : Asc cut) (hk : k < nds x.n) (hok : NetOkP x.n) (b3 b4 b5 : Nat) (q : Nat) (hq : q ≤ 65536) (w0 : World) (hX : NetR w0 x) (hT : Rd w0 ca 1 eI cut) (h3 : Bk w0 b3 31 x.cs) (h4 : Bk w0 b4 3 [.int .i64 (k : Int)]) (h5 : Bk w0 b5 24 [.slice ca cut.length cc]) :
  Ret Tryz.prog 119 [.int .i64 (q : Int), .pointer (some ⟨b3, 0, none⟩), .pointer (some ⟨b4, 0, none⟩), .pointer (some ⟨b5, 0, none⟩)] w0 (fun v w' => v = .bool (decide (cvL x.n cut k q = 1)) ∧ Ext w0 w') := by
 have hn := hok.nums
 have n4 := hn.n2
 have hnd := hok.nodes
 refine enter Tryz.S119ok _ _ rfl rfl (by show _ ≤ _; simp only [List.length]; decide) (fun C => ?_); have hp := Hp.nil w0; refine h_run rfl ?_; skip
 refine N_draw hp (by kernel_rfl) (by kernel_rfl) rfl rfl ?_; (repeat (refine N_ldB rfl rfl rfl ?_))
 refine N_call Tryz.func78 (by kernel_rfl) rfl (fun F w hp => ?_); refine Ret.mono (nodeCount_h x _ hok.b) ?_; rintro _ w ⟨rfl, hx⟩; have hp := hp.ext hx; refine ⟨fun _ => hp.sub (by (repeat (first | exact List.sublist_append_left _ _ | apply List.Sublist.cons))), _, hp, ?_⟩; clear hp; refine N_ops rfl rfl ?_; skip
 rw [← n4]
 refine N_make eI 0 rfl rfl rfl rfl (s := 1) rfl (by decide) (by infer_instance) rfl (by unfold maxLen; omega) (by show 8 * _ ≤ _; omega) ?_; intro b12; refine N_ops rfl rfl ?_; skip
 have hM0 : MOk x.n cut q (List.replicate (nds x.n) 0) := ⟨by simp, fun j hj _ _ => .inl (by simp only [List.getD_eq_getElem?_getD, List.getElem?_replicate]; split <;> rfl)⟩
 refine N_call Tryz.func120 (by kernel_rfl) rfl (fun F w hp => ?_); refine Ret.mono (valueAbove_F x hX hok ca cc cut hcl hA hT q hq (some ⟨b12, 0, none⟩) (nds x.n) k hk hp hM0) ?_; rintro _ w ⟨M, rfl, hM, hp⟩; refine ⟨fun hq => Bool.noConfusion (hq.symm.trans (by kernel_rfl : flagAt _ _ = false)), _, hp, ?_⟩; clear hp; refine N_ops rfl rfl ?_; skip
 refine N_end ?_; intro w hp C; refine h_run rfl ?_; (repeat (refine R_ret ?_))
 exact ⟨rfl, hp.x⟩
end Go.Proofs
end
