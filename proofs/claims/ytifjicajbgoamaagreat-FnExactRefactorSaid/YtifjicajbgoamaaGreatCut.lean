/- The contracts of the functions that tell whether a list is a cut of a node; each under its stated conditions. -/
import Derived.Test.YtifjicajbgoamaaGreatCone
import Derived.Test.YtifjicajbgoamaaGreatFam
import Derived.Test.YtifjicajbgoamaaGreatTabLaw
set_option linter.all false
namespace Go.Proofs
open Go.Xw
set_option maxRecDepth 100000
set_option maxHeartbeats 1000000
attribute [local irreducible] Holds elemAddr
theorem mem_getD_iff {xs : List Int} {x : Int} : x ∈ xs ↔ ∃ i, i < xs.length ∧ xs.getD i default = x := by
  constructor
  · intro h
    obtain ⟨i, hi, rfl⟩ := List.mem_iff_getElem.1 h
    exact ⟨i, hi, by simp [List.getD_eq_getElem?_getD, hi]⟩
  · rintro ⟨i, hi, rfl⟩; exact getD_mem hi
theorem hasInt_h (a : Option Addr) (c m : Nat) (xs : List Int) (hm : xs.length = m) (x : Int) (w0 : World) (hR : Rd w0 a 1 eI xs) (hl : m ≤ 1000000000) :
    Ret Tryz.prog 40 [.slice a m c, .int .i64 x] w0 (fun v w' => v = .bool (decide (x ∈ xs)) ∧ Ext w0 w') := by
  subst hm
  refine enter Tryz.S40ok _ _ rfl rfl (by show _ ≤ _; simp only [List.length]; decide) (fun C => ?_); have hp := Hp.nil w0; refine h_run rfl ?_; skip
  refine h_loop [1, 7, 8, 9] (fun i : Nat => [(1, .int .i64 x), (7, .slice a xs.length c), (8, .int .i64 xs.length), (9, .int .i64 (i : Int))])
    (fun i w' => i ≤ xs.length ∧ (∀ j, j < i → xs.getD j default ≠ x) ∧ Hp w0 w' []) (fun i => xs.length - i) 0 rfl ⟨by omega, fun j hj => by omega, hp⟩ ?_
  rintro i w1 ⟨hi, hne, hp⟩ IH C
  refine h_run rfl ?_; skip
  refine h_cond_dec (fun hlt => ?_) (fun hlt => ?_)
  · have hlt' : i < xs.length := by omega
    refine h_cond_t rfl rfl ?_; (repeat (refine H_ldEN hp rfl (by omega) rfl rfl ?_))
    refine h_cond_dec (fun he => ?_) (fun he => ?_)
    · refine h_cond_t rfl rfl ?_; (repeat (refine R_ret ?_))
      exact ⟨by rw [decide_eq_true (mem_getD_iff.2 ⟨i, hlt', by first | exact he | exact he.symm⟩)], hp.x⟩
    · refine h_cond_f rfl rfl ?_; skip
      refine IH (i + 1) _ _ _ (by omega) rfl ⟨by omega, fun j hj => ?_, hp⟩
      by_cases hj2 : j < i
      · exact hne j hj2
      · obtain rfl : j = i := by omega
        first | exact he | exact fun h => he h.symm
  · refine h_cond_f rfl rfl ?_; (repeat (refine R_ret ?_))
    exact ⟨by rw [decide_eq_false (fun h => by obtain ⟨j, h1, h2⟩ := mem_getD_iff.1 h; exact hne j (by omega) h2)], hp.x⟩
theorem l13Has_h (a : Option Addr) (c m : Nat) (xs : List Int) (hm : xs.length = m) (x : Int) (w0 : World) (hR : Rd w0 a 1 eI xs) (hl : m ≤ 1000000000) :
    Ret Tryz.prog 25 [.slice a m c, .int .i64 x] w0 (fun v w' => v = .bool (decide (x ∈ xs)) ∧ Ext w0 w') := by
  subst hm
  refine enter Tryz.S25ok _ _ rfl rfl (by show _ ≤ _; simp only [List.length]; decide) (fun C => ?_); have hp := Hp.nil w0; refine h_run rfl ?_; skip
  refine h_loop [0, 1, 5] (fun i : Nat => [(0, .slice a xs.length c), (1, .int .i64 x), (5, .int .i64 (i : Int))])
    (fun i w' => i ≤ xs.length ∧ (∀ j, j < i → xs.getD j default ≠ x) ∧ Hp w0 w' []) (fun i => xs.length - i) 0 rfl ⟨by omega, fun j hj => by omega, hp⟩ ?_
  rintro i w1 ⟨hi, hne, hp⟩ IH C
  refine h_run rfl ?_; skip
  refine h_cond_dec (fun hlt => ?_) (fun hlt => ?_)
  · have hlt' : i < xs.length := by omega
    refine h_cond_t rfl rfl ?_; (repeat (refine H_ldEN hp rfl (by omega) rfl rfl ?_))
    refine h_cond_dec (fun he => ?_) (fun he => ?_)
    · refine h_cond_t rfl rfl ?_; (repeat (refine R_ret ?_))
      exact ⟨by rw [decide_eq_true (mem_getD_iff.2 ⟨i, hlt', by first | exact he | exact he.symm⟩)], hp.x⟩
    · refine h_cond_f rfl rfl ?_; skip
      refine IH (i + 1) _ _ _ (by omega) rfl ⟨by omega, fun j hj => ?_, hp⟩
      by_cases hj2 : j < i
      · exact hne j hj2
      · obtain rfl : j = i := by omega
        first | exact he | exact fun h => he h.symm
  · refine h_cond_f rfl rfl ?_; (repeat (refine R_ret ?_))
    exact ⟨by rw [decide_eq_false (fun h => by obtain ⟨j, h1, h2⟩ := mem_getD_iff.1 h; exact hne j (by omega) h2)], hp.x⟩
theorem specCutOk_x (x : NetA) (k : Int) (a : Option Addr) (c : Nat) (cut : List Int) (w0 : World) (hX : NetR w0 x) (hS : NetS x.n) (hW : NetW x.n) (hK : i64R k) (hR : Rd w0 a 1 eI cut) (hL : cut.length ≤ 1048576) (hV : ∀ i, i < cut.length → i64R (cut.getD i default)) :
    Ret Tryz.prog 23 [x.v, .int .i64 k, .slice a cut.length c] w0 (fun v w => v = .bool (cutOkB x.n k cut) ∧ Ext w0 w) := by
  refine enter Tryz.S23ok _ _ rfl rfl (by show _ ≤ _; simp only [List.length]; decide) (fun C => ?_); have hp := Hp.nil w0; refine h_run rfl ?_; skip; (first | (refine H_box hp ?_; intro w b3 hx hp) | (refine H_alloc hp rfl ?_; intro w b3 hx hp)); refine ops_run nopre rfl ?_; (repeat (refine H_ldB hp rfl rfl ?_))
  by_cases hok : NetOkP x.n
  · have hn := hok.nums
    obtain ⟨n1, n2, n3, n4, n5, n6⟩ := hn
    have hn := hok.nums
    have hnd := hok.nodes
    have hal : x.n.ands.length = x.ands.length := rfl
    have hcnt : nodeCountL x.n = nodesL x.n := if_pos hok.size
    refine h_call rfl Tryz.func50 (by kernel_rfl) rfl ((specNetOk_h x _ hp.net hS hW).tt (netOkB_yes hok)) ?_; rintro _ w ⟨rfl, hx⟩; have hp := hp.ext hx; refine ops_run nopre rfl ?_; (repeat (refine h_guard_y rfl nopre rfl ?_))
    refine h_guard_by (fun h1 => ?_) (fun h1 => ?_); all_goals (rw [h1]; (first | replace h1 := of_decide_eq_true h1 | replace h1 := of_decide_eq_false h1 | skip); (repeat (first | (refine gGuard ?_; first | refine h_guard_y rfl nopre rfl ?_ | refine h_guard_n rfl nopre rfl ?_) | (refine gLoad ?_; refine H_ldB hp rfl rfl ?_))))
    · refine h_cond_t rfl rfl ?_; (repeat (refine R_ret ?_))
      have hno : ¬ (NetOkP x.n ∧ (0 ≤ k ∧ k < nodesL x.n) ∧ cutP x.n k.toNat cut) := fun h => by have := h.2.1; omega
      exact ⟨by rw [cutOkB_no hno], hp.x⟩
    · refine h_call rfl Tryz.func62 (by kernel_rfl) rfl (specNodeCount_h x _) ?_; rintro _ w ⟨rfl, hx⟩; have hp := hp.ext hx; refine ops_run nopre rfl ?_; (repeat (refine h_guard_y rfl nopre rfl ?_))
      rw [hcnt]
      refine h_guard_by (fun h2 => ?_) (fun h2 => ?_); all_goals (rw [h2]; (first | replace h2 := of_decide_eq_true h2 | replace h2 := of_decide_eq_false h2 | skip); (repeat (refine gGuard ?_; first | refine h_guard_y rfl nopre rfl ?_ | refine h_guard_n rfl nopre rfl ?_)))
      · refine h_cond_t rfl rfl ?_; (repeat (refine R_ret ?_))
        have hno : ¬ (NetOkP x.n ∧ (0 ≤ k ∧ k < nodesL x.n) ∧ cutP x.n k.toNat cut) := fun h => by have := h.2.1; omega
        exact ⟨by rw [cutOkB_no hno], hp.x⟩
      · refine h_cond_dec (fun h3 => ?_) (fun h3 => ?_)
        · refine h_cond_t rfl rfl ?_; (repeat (refine R_ret ?_))
          have hno : ¬ (NetOkP x.n ∧ (0 ≤ k ∧ k < nodesL x.n) ∧ cutP x.n k.toNat cut) := fun h => by have := h.2.2.1.1; omega
          exact ⟨by rw [cutOkB_no hno], hp.x⟩
        · obtain ⟨k', rfl⟩ := Int.eq_ofNat_of_zero_le (show 0 ≤ k by omega)
          have hk : k' < nds x.n := by omega
          have hce : coneF x.n (k' : Int) = coneL x.n k' := coneF_yes ⟨hok, by omega, by omega⟩
          have hclen := coneL_len x.n k'
          refine h_cond_f rfl rfl ?_; (repeat (refine H_ldB hp rfl rfl ?_))
          refine h_call rfl Tryz.func63 (by kernel_rfl) rfl (specCone_x x (k' : Int) _ hp.net hS hW hK) ?_; rintro _ w ⟨b7, c7, rfl, hq⟩; have hx := hq.x; have hp := hp.call1 hq; refine ops_run nopre rfl ?_; skip
          rw [hce] at hp ⊢
          refine h_loop [1, 2, 3, 7, 8] (fun i : Nat => [(1, .int .i64 (k' : Int)), (2, .slice a cut.length c), (3, .pointer (some ⟨b3, 0, none⟩)), (7, .slice b7 (coneL x.n k').length c7), (8, .int .i64 (i : Int))])
            (fun i w' => i ≤ cut.length ∧ ((∀ j, j < i → cut.getD j default ∈ coneL x.n k') ∧ ∀ j, 1 ≤ j → j < i → cut.getD (j - 1) default < cut.getD j default) ∧ Hp w0 w' [rO 3 1 eI b7 c7 (coneL x.n k'), rB b3 31 x.cs]) (fun i => cut.length - i) 0 rfl ⟨by omega, ⟨fun j hj => by omega, fun j h1 hj => by omega⟩, hp⟩ ?_
          rintro i w1 ⟨hi, ⟨hall, hasc⟩, hp⟩ IH C
          have hz : ((i : Int) - 1).toNat = i - 1 := by omega
          refine h_run rfl ?_; skip
          refine h_cond_dec (fun hlt => ?_) (fun hlt => ?_)
          · have hlt' : i < cut.length := by omega
            refine h_cond_t rfl rfl ?_; skip
            by_cases hm : cut.getD i default ∈ coneL x.n k'
            · refine N_draw hp (by kernel_rfl) (by kernel_rfl) rfl rfl ?_; (repeat (refine N_ldEN rfl (by omega) rfl rfl rfl ?_))
              refine N_call Tryz.func25 (by kernel_rfl) rfl (fun F w hp => ?_); refine Ret.mono ((l13Has_h _ _ _ (coneL x.n k') rfl (cut.getD i default) _ hp.pre.rd (by omega)).yes hm) ?_; rintro _ w ⟨rfl, hx⟩; have hp := hp.ext hx; refine ⟨fun _ => hp.sub (by (repeat (first | exact List.sublist_append_left _ _ | apply List.Sublist.cons))), _, hp, ?_⟩; clear hp; refine N_ops rfl rfl ?_; (repeat (refine N_guard_y rfl rfl rfl ?_))
              refine N_guard_by (fun h4 => ?_) (fun h4 => ?_); all_goals (rw [h4]; (first | replace h4 := of_decide_eq_true h4 | replace h4 := of_decide_eq_false h4 | skip); (repeat (first | (refine nGuard ?_; first | refine N_guard_y rfl rfl rfl ?_ | refine N_guard_n rfl rfl rfl ?_) | (refine nLoad ?_; first | refine N_ldEN rfl (by omega) rfl rfl rfl ?_ | refine N_ldE rfl (by omega) (by omega) rfl rfl rfl ?_))))
              · refine N_end ?_; intro w hp C; refine h_run rfl ?_; skip
                have hz2 : ((i : Int) - 1).toNat = i - 1 := by omega
                refine h_cond_dec (fun h5 => ?_) (fun h5 => ?_)
                · rw [hz2] at h5
                  refine h_cond_t rfl rfl ?_; (repeat (refine R_ret ?_))
                  have hno : ¬ (NetOkP x.n ∧ (0 ≤ (k' : Int) ∧ (k' : Int) < nodesL x.n) ∧ cutP x.n (k' : Int).toNat cut) := fun h => by have := asc_get.2 h.2.2.1.2 i (by omega) hlt'; omega
                  exact ⟨by rw [cutOkB_no hno], hp.x⟩
                · rw [hz2] at h5
                  refine h_cond_f rfl rfl ?_; skip
                  refine IH (i + 1) _ _ _ (by omega) rfl ⟨by omega, ⟨fun j hj => ?_, fun j h1 hj => ?_⟩, hp⟩
                  · by_cases hj2 : j < i
                    · exact hall j hj2
                    · obtain rfl : j = i := by omega
                      exact hm
                  · by_cases hj2 : j < i
                    · exact hasc j h1 hj2
                    · obtain rfl : j = i := by omega
                      omega
              · refine N_end ?_; intro w hp C; refine h_run rfl ?_; skip
                refine h_cond_f rfl rfl ?_; skip
                refine IH (i + 1) _ _ _ (by omega) rfl ⟨by omega, ⟨fun j hj => ?_, fun j h1 hj => by omega⟩, hp⟩
                by_cases hj2 : j < i
                · exact hall j hj2
                · obtain rfl : j = i := by omega
                  exact hm
            · refine N_draw hp (by kernel_rfl) (by kernel_rfl) rfl rfl ?_; (repeat (refine N_ldEN rfl (by omega) rfl rfl rfl ?_))
              refine N_call Tryz.func25 (by kernel_rfl) rfl (fun F w hp => ?_); refine Ret.mono ((l13Has_h _ _ _ (coneL x.n k') rfl (cut.getD i default) _ hp.pre.rd (by omega)).no hm) ?_; rintro _ w ⟨rfl, hx⟩; have hp := hp.ext hx; refine ⟨fun _ => hp.sub (by (repeat (first | exact List.sublist_append_left _ _ | apply List.Sublist.cons))), _, hp, ?_⟩; clear hp; refine N_ops rfl rfl ?_; (repeat (refine N_guard_n rfl rfl rfl ?_))
              refine N_end ?_; intro w hp C; refine h_run rfl ?_; skip
              refine h_cond_t rfl rfl ?_; (repeat (refine R_ret ?_))
              have hno : ¬ (NetOkP x.n ∧ (0 ≤ (k' : Int) ∧ (k' : Int) < nodesL x.n) ∧ cutP x.n (k' : Int).toNat cut) := fun h => hm (h.2.2.2.1 _ (getD_mem hlt'))
              exact ⟨by rw [cutOkB_no hno], hp.x⟩
          · refine h_cond_f rfl rfl ?_; (repeat (refine H_ldB hp rfl rfl ?_))
            obtain rfl : i = cut.length := by omega
            have hall' : ∀ c, c ∈ cut → c ∈ coneL x.n k' := mem_iff_getD.2 hall
            have hAsc : Asc cut := asc_get.1 fun j h1 h2 => hasc j h1 h2
            have hrl : (List.replicate (nds x.n) false).length = nds x.n := by simp
            refine h_call rfl Tryz.func62 (by kernel_rfl) rfl (specNodeCount_h x _) ?_; rintro _ w ⟨rfl, hx⟩; have hp := hp.ext hx; refine ops_run nopre rfl ?_; skip
            rw [hcnt, ← n4]
            refine H_make hp eB false rfl rfl rfl rfl (s := 1) rfl (by decide) rfl (by unfold maxLen; omega) (by show 1 * _ ≤ _; omega) ?_; intro w b9 hx hp; refine ops_run nopre rfl ?_; (repeat (refine U_st0N hp rfl rfl rfl (by omega) (by decide) rfl rfl ?_; intro w hp; refine ops_run nopre rfl ?_))
            refine h_loop2 [2, 3, 9, 10] (fun (K : Nat) (_ : List Bool) => [(2, .slice a cut.length c), (3, .pointer (some ⟨b3, 0, none⟩)), (9, .slice (some ⟨b9, 0, none⟩) (nds x.n) (nds x.n)), (10, .int .i64 ((K : Int) - 1))])
              (fun K B w' => (1 ≤ K ∧ K ≤ k' + 1) ∧ OTop x.n cut k' B K ∧ Hp w0 w' [rO 4 1 eB (some ⟨b9, 0, none⟩) (nds x.n) B, rB b3 31 x.cs]) (fun K _ => K) (k' + 1) ((List.replicate (nds x.n) false).set k' true) (by rw [show (((k' + 1 : Nat) : Int)) - 1 = (k' : Int) by omega]; rfl)
              ⟨by omega, .start hk, (hp.f2.f1).f2.drop.f1 |> fun h => h.f1⟩ ?_
            clear hp IH hall hasc hi
            rintro K B w1 ⟨⟨hK1, hK2⟩, hO, hp⟩ IH C
            have hBl := hO.len
            have hz : ((K : Int) - 1).toNat = K - 1 := by omega
            have hOK : OTop x.n cut k' B (K - 1 + 1) := by rw [show K - 1 + 1 = K by omega]; exact hO
            refine h_run rfl ?_; skip
            refine h_cond_dec (fun hlt => ?_) (fun hlt => ?_)
            · refine h_cond_t rfl rfl ?_; (repeat (refine H_ldE hp rfl (by omega) (by omega) rfl rfl ?_))
              refine h_guard_by (fun hb => ?_) (fun hb => ?_); all_goals (rw [hb]; (first | replace hb := of_decide_eq_true hb | replace hb := of_decide_eq_false hb | skip); (repeat (refine gGuard ?_; first | refine h_guard_y rfl nopre rfl ?_ | refine h_guard_n rfl nopre rfl ?_)))
              · have hb' : ¬ B.getD (K - 1) default = true := by rw [hz] at hb; simpa using hb
                refine h_cond_t rfl rfl ?_; skip
                exact IH (K - 1) B _ _ _ (by omega) (by rw [show (((K - 1 : Nat) : Int)) - 1 = (K : Int) - 1 - 1 by omega]; rfl) ⟨by omega, hOK.skip (.inl hb'), hp⟩
              · have hb' : B.getD (K - 1) default = true := by rw [hz] at hb; simpa using hb
                by_cases hm : ((K : Int) - 1) ∈ cut
                · refine h_call rfl Tryz.func25 (by kernel_rfl) rfl ((l13Has_h _ _ _ cut rfl ((K : Int) - 1) _ hp.rd (by omega)).yes hm) ?_; rintro _ w ⟨rfl, hx⟩; have hp := hp.ext hx; refine ops_run nopre rfl ?_; skip
                  refine h_cond_t rfl rfl ?_; skip
                  exact IH (K - 1) B _ _ _ (by omega) (by rw [show (((K - 1 : Nat) : Int)) - 1 = (K : Int) - 1 - 1 by omega]; rfl) ⟨by omega, hOK.skip (.inr (by rw [show (((K - 1 : Nat) : Int)) = (K : Int) - 1 by omega]; exact hm)), hp⟩
                · have hm' : (((K - 1 : Nat) : Int)) ∉ cut := by rw [show (((K - 1 : Nat) : Int)) = (K : Int) - 1 by omega]; exact hm
                  refine h_call rfl Tryz.func25 (by kernel_rfl) rfl ((l13Has_h _ _ _ cut rfl ((K : Int) - 1) _ hp.rd (by omega)).no hm) ?_; rintro _ w ⟨rfl, hx⟩; have hp := hp.ext hx; refine ops_run nopre rfl ?_; skip
                  refine h_cond_f rfl rfl ?_; (repeat (refine H_ldB hp rfl rfl ?_))
                  refine h_call rfl Tryz.func24 (by kernel_rfl) rfl (l08First_h x _ hok.b) ?_; rintro _ w ⟨rfl, hx⟩; have hp := hp.ext hx; refine ops_run nopre rfl ?_; skip
                  refine h_cond_dec (fun h6 => ?_) (fun h6 => ?_)
                  · refine h_cond_t rfl rfl ?_; (repeat (refine R_ret ?_))
                    have hE := hOK.bad (by omega) hb' hm' (by omega) (by omega)
                    have hno : ¬ (NetOkP x.n ∧ (0 ≤ (k' : Int) ∧ (k' : Int) < nodesL x.n) ∧ cutP x.n (k' : Int).toNat cut) := fun h => h.2.2.2.2 hE
                    exact ⟨by rw [cutOkB_no hno], hp.x⟩
                  · have hi : K - 1 - fst_ x.n < x.ands.length := by omega
                    have hki : fst_ x.n + (K - 1 - fst_ x.n) = K - 1 := by omega
                    have hz3 : ((K : Int) - 1 - firstAndL x.n).toNat = K - 1 - fst_ x.n := by omega
                    have Q := hok.and_ hi
                    have Q' := Q
                    rw [← hz3] at Q'
                    obtain ⟨Q1, Q2, Q3, Q4⟩ := Q
                    obtain ⟨Q1', Q2', Q3', Q4'⟩ := Q'
                    have ka := n5 _ hi
                    have kb := n6 _ hi
                    have hl1 : (B.set ((x.ands.getD ((K : Int) - 1 - firstAndL x.n).toNat default).1 / 2).toNat true).length = B.length := by simp
                    have hOd := OTop.down hn hi (by rw [hki]; exact hOK) (by rw [hki]; exact hb') (by rw [hki]; exact hm')
                    rw [hki] at hOd
                    refine h_cond_f rfl rfl ?_; skip
                    refine N_draw hp (by kernel_rfl) (by kernel_rfl) rfl rfl ?_; (repeat (refine N_ldB rfl rfl rfl ?_))
                    refine N_call Tryz.func24 (by kernel_rfl) rfl (fun F w hp => ?_); refine Ret.mono (l08First_h x _ hok.b) ?_; rintro _ w ⟨rfl, hx⟩; have hp := hp.ext hx; refine ⟨fun _ => hp.sub (by (repeat (first | exact List.sublist_append_left _ _ | apply List.Sublist.cons))), _, hp, ?_⟩; clear hp; refine N_ops rfl rfl ?_; (repeat (refine N_ldE rfl (by omega) (by omega) rfl rfl rfl ?_))
                    (first | refine N_box ?_ | refine N_alloc rfl ?_); intro b11; refine N_ops rfl rfl ?_; (repeat (refine N_stBN rfl rfl rfl rfl (by kernel_rfl) ?_; refine N_ops rfl rfl ?_))
                    refine N_end ?_; intro w hp C; refine h_run rfl ?_; (repeat (first | (refine gLoad ?_; refine H_ldB hp rfl rfl ?_) | (refine gStore ?_; refine U_st0 hp rfl rfl rfl (by omega) (by decide) rfl rfl ?_; intro w hp; refine ops_run nopre rfl ?_)))
                    rw [hz3] at hp
                    exact IH (K - 1) _ _ _ _ (by omega) (by rw [show (((K - 1 : Nat) : Int)) - 1 = (K : Int) - 1 - 1 by omega]; rfl) ⟨by omega, hOd, hp.drop⟩
            · refine h_cond_f rfl rfl ?_; (repeat (refine R_ret ?_))
              obtain rfl : K = 1 := by omega
              have hcP : cutP x.n (k' : Int).toNat cut := ⟨⟨by omega, hAsc⟩, hall', hO.done hn hk⟩
              have hyes : cutOkB x.n (k' : Int) cut = true := cutOkB_yes ⟨hok, ⟨by omega, by omega⟩, hcP⟩
              exact ⟨by rw [hyes], hp.x⟩
  · refine h_call rfl Tryz.func50 (by kernel_rfl) rfl ((specNetOk_h x _ hp.net hS hW).ff (netOkB_no hok)) ?_; rintro _ w ⟨rfl, hx⟩; have hp := hp.ext hx; refine ops_run nopre rfl ?_; (repeat (refine h_guard_n rfl nopre rfl ?_))
    refine h_cond_t rfl rfl ?_; (repeat (refine R_ret ?_))
    have hno : ¬ (NetOkP x.n ∧ (0 ≤ k ∧ k < nodesL x.n) ∧ cutP x.n k.toNat cut) := fun h => hok h.1
    exact ⟨by rw [cutOkB_no hno], hp.x⟩
end Go.Proofs
