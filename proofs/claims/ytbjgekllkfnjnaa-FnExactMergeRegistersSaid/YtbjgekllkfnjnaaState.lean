/- The contracts of the functions that check and begin a state, and of those that check classes; each under its stated conditions. -/
import Derived.Test.YtbjgekllkfnjnaaGraph4
import Derived.Test.YtbjgekllkfnjnaaSeq
set_option linter.all false
namespace Go.Xw
/-- the classes are right -/
def clP (n : NetL) (cl : List Int) : Prop := cl.length = n.seqs.length ∧ ∀ i, i < cl.length → (0 ≤ cl.getD i default ∧ cl.getD i default ≤ i) ∧ cl.getD (cl.getD i default).toNat default = cl.getD i default ∧
  (cl.getD i default = i ∨ ((n.seqs.getD i default).kind = 0 ∧ (n.seqs.getD (cl.getD i default).toNat default).kind = 0))
noncomputable def clOkB (n : NetL) (cl : List Int) : Bool := @decide (NetOkP n ∧ clP n cl) (Classical.propDecidable _)
theorem clOkB_yes {n : NetL} {cl : List Int} (h : NetOkP n ∧ clP n cl) : clOkB n cl = true := by simp [clOkB, h]
theorem clOkB_no {n : NetL} {cl : List Int} (h : ¬ (NetOkP n ∧ clP n cl)) : clOkB n cl = false := by simp only [clOkB, h, decide_false]
theorem clOkB_iff {n : NetL} {cl : List Int} : clOkB n cl = true ↔ NetOkP n ∧ clP n cl := by simp [clOkB]
end Go.Xw
namespace Go.Proofs
open Go.Xw
set_option maxRecDepth 100000
set_option maxHeartbeats 1000000
attribute [local irreducible] Holds elemAddr

/-- the state is right -/
def stP (n : NetL) (st : List Int) : Prop := st.length = n.seqs.length ∧ ∀ i, i < st.length → 0 ≤ st.getD i default ∧ st.getD i default ≤ seqMostL (n.seqs.getD i default).kind
noncomputable def stOkB (n : NetL) (st : List Int) : Bool := @decide (NetOkP n ∧ stP n st) (Classical.propDecidable _)
theorem stOkB_yes {n : NetL} {st : List Int} (h : NetOkP n ∧ stP n st) : stOkB n st = true := by simp [stOkB, h]
theorem stOkB_no {n : NetL} {st : List Int} (h : ¬ (NetOkP n ∧ stP n st)) : stOkB n st = false := by simp only [stOkB, h, decide_false]
theorem stOkB_iff {n : NetL} {st : List Int} : stOkB n st = true ↔ NetOkP n ∧ stP n st := by simp [stOkB]

theorem seqNext0 {k v : Int} : 0 ≤ seqNextL k v 0 ↔ 0 ≤ v ∧ v ≤ seqMostL k := by
  unfold seqNextL seqMostL
  by_cases h0 : k = 0
  · by_cases h1 : 0 ≤ v ∧ v ≤ 1
    · rw [if_pos ⟨h0, h1⟩, if_pos h0]; omega
    · rw [if_neg (by omega), if_neg (by omega), if_pos h0]; omega
  · rw [if_neg (by omega), if_neg h0]
    by_cases h1 : k = 1
    · by_cases h2 : 0 ≤ v ∧ v ≤ 31
      · rw [if_pos ⟨h1, h2⟩, if_pos h1]
        have := ram_is (i := 0) h2.1 h2.2
        unfold ramNext
        rw [if_neg (by decide)]
        omega
      · rw [if_neg (by omega), if_pos h1]; omega
    · rw [if_neg (by omega), if_neg h1]; omega

theorem seqMost_h (k : Int) (w : World) : Ret Try.prog 151 [.int .i64 k] w (fun v w' => v = .int .i64 (seqMostL k) ∧ Ext w w') :=
  (seqMost_ok k w).mono fun _ _ ⟨h1, h2⟩ => ⟨h1, by rw [h2]; exact Ext.refl _⟩
theorem specStateOk_x (x : NetA) (a : Option Addr) (c : Nat) (st : List Int) (w0 : World) (hX : NetR w0 x) (hS : NetS x.n) (hW : NetW x.n) (hR : Rd w0 a 1 eI st) (hL : st.length ≤ 1048576) (hV : ∀ i, i < st.length → i64R (st.getD i default)) :
    Ret Try.prog 128 [x.v, .slice a st.length c] w0 (fun v w => v = .bool (stOkB x.n st) ∧ Ext w0 w) := by
  refine enter Try.S128ok _ _ rfl rfl (by show _ ≤ _; simp only [List.length]; decide) (fun C => ?_); have hp := Hp.nil w0; refine h_run rfl ?_; skip; (first | (refine H_box hp ?_; intro w b1 hx hp) | (refine H_alloc hp rfl ?_; intro w b1 hx hp)); refine ops_run nopre rfl ?_; (repeat (refine H_ldB hp rfl rfl ?_))
  by_cases hok : NetOkP x.n
  · refine h_call rfl Try.func56 (by kernel_rfl) rfl ((specNetOk_h x _ hp.net hS hW).tt (netOkB_yes hok)) ?_; rintro _ w ⟨rfl, hx⟩; have hp := hp.ext hx; refine ops_run nopre rfl ?_; (repeat (first | (refine gGuard ?_; refine h_guard_y rfl nopre rfl ?_) | (refine gLoad ?_; refine H_ldB hp rfl rfl ?_)))
    refine h_cond_dec (fun hne => ?_) (fun hne => ?_)
    · refine h_cond_t rfl rfl ?_; (repeat (refine R_ret ?_))
      exact ⟨by rw [stOkB_no (fun h => by have := h.2.1; rw [x.slen] at this; omega)], hp.x⟩
    · have hlen : st.length = x.seqs.length := by omega
      have hsz := hok.size'
      refine h_cond_f rfl rfl ?_; skip
      refine h_loop [1, 2, 5] (fun (i : Nat) => [(1, .slice a st.length c), (2, .pointer (some ⟨b1, 0, none⟩)), (5, .int .i64 (i : Int))])
        (fun i w' => i ≤ st.length ∧ (∀ j, j < i → 0 ≤ st.getD j default ∧ st.getD j default ≤ seqMostL (x.seqs.getD j default).kind) ∧ Hp w0 w' [rB b1 28 x.cs]) (fun i => st.length - i) 0 rfl ⟨by omega, fun j hj => by omega, hp⟩ ?_
      rintro i w1 ⟨hi, hall, hp⟩ IH C
      refine h_run rfl ?_; skip
      refine h_cond_dec (fun hlt => ?_) (fun hlt => ?_)
      · have hlt' : i < st.length := by omega
        have h0 := @seqNext0 (x.seqs.getD i default).kind (st.getD i default)
        refine h_cond_t rfl rfl ?_; skip
        refine D_draw hp (by kernel_rfl) (by kernel_rfl) rfl rfl ?_; intro w hx hp; have hs := hp; (repeat (refine gLoad ?_; first | refine D_ldB rfl rfl rfl ?_ | refine D_ldEN rfl (by omega) rfl rfl rfl ?_ | refine D_ldFN rfl (by omega) rfl rfl rfl ?_))
        refine h_callq rfl Try.func130 (by kernel_rfl) rfl (specSeqNext_ok (x.seqs.getD i default).kind (st.getD i default) 0 _) ?_; rintro _ w ⟨rfl, hx⟩; have hp := hp.ext hx; have hs := hs.ext hx; refine ⟨fun _ => hs, ?_⟩; refine D_ops rfl rfl ?_; skip
        refine h_cond_dec (fun hin => ?_) (fun hin => ?_)
        · refine h_cond_t rfl rfl ?_; (repeat (refine R_ret ?_))
          exact ⟨by rw [stOkB_no (fun h => by have h2 := h.2.2 i hlt'; rw [x.skind] at h2; have := h0.2 h2; omega)], hp.x⟩
        · refine h_cond_f rfl rfl ?_; skip
          refine IH (i + 1) _ _ _ (by omega) rfl ⟨by omega, fun j hj => ?_, hp⟩
          by_cases hj2 : j < i
          · exact hall j hj2
          · obtain rfl : j = i := by omega
            exact h0.1 (by omega)
      · refine h_cond_f rfl rfl ?_; (repeat (refine R_ret ?_))
        obtain rfl : i = st.length := by omega
        exact ⟨by rw [stOkB_yes ⟨hok, by rw [x.slen]; exact hlen, fun j hj => by rw [x.skind]; exact hall j hj⟩], hp.x⟩
  · refine h_call rfl Try.func56 (by kernel_rfl) rfl ((specNetOk_h x _ hp.net hS hW).ff (netOkB_no hok)) ?_; rintro _ w ⟨rfl, hx⟩; have hp := hp.ext hx; refine ops_run nopre rfl ?_; (repeat (refine h_guard_n rfl nopre rfl ?_))
    refine h_cond_t rfl rfl ?_; (repeat (refine R_ret ?_))
    exact ⟨by rw [stOkB_no (fun h => hok h.1)], hp.x⟩

/-- the initial state -/
def startL (n : NetL) : List Int := n.seqs.map SeqL.init
theorem startL_eq (x : NetA) : startL x.n = x.seqs.map SeqA.init := by unfold startL NetA.n seqsOf; rw [List.map_map]; rfl
theorem map_snoc {α β : Type} [Inhabited α] (f : α → β) {X : List α} {i : Nat} (h : i < X.length) : (X.take (i + 1)).map f = (X.take i).map f ++ [f (X.getD i default)] := by rw [take_snoc h, List.map_append]; rfl
theorem lenStart (n : NetL) : (ifOk n (startL n)).length < 1000000000 := ifOk_len fun h => by have := okOf h; unfold startL; rw [List.length_map]; omega
theorem netStart_h (x : NetA) (w0 : World) (hX : NetR w0 x) (hok : NetOkP x.n) :
    Ret Try.prog 75 [x.v] w0 (fun v w => ∃ b c, v = .slice b (startL x.n).length c ∧ Hp w0 w [rO 3 1 eI b c (startL x.n)]) := by
  have hsz := hok.size'
  rw [startL_eq]
  refine enter Try.S75ok _ _ rfl rfl (by show _ ≤ _; simp only [List.length]; decide) (fun C => ?_); have hp := Hp.nil w0; refine h_run rfl ?_; skip; (first | (refine H_box hp ?_; intro w b1 hx hp) | (refine H_alloc hp rfl ?_; intro w b1 hx hp)); refine ops_run nopre rfl ?_; (repeat (refine H_ldB hp rfl rfl ?_))
  refine h_loop3 [3, 7, 8, 9] (fun (i : Nat) (b : Option Addr) (c : Nat) => [(3, .slice b ((x.seqs.take i).map SeqA.init).length c), (7, .slice x.sa x.seqs.length x.sc), (8, .int .i64 x.seqs.length), (9, .int .i64 (i : Int))])
    (fun i b c w' => i ≤ x.seqs.length ∧ Hp w0 w' [rO 3 1 eI b c ((x.seqs.take i).map SeqA.init)]) (fun i _ _ => x.seqs.length - i) 0 none 0 rfl ⟨by omega, (Hp.of_ext hp.x).ownN (Ext.refl _) (Own.nil _ _ _ _ _)⟩ ?_
  rintro i b c w1 ⟨hi, hp⟩ IH C
  have hlen : ((x.seqs.take i).map SeqA.init).length = i := by simp; omega
  refine h_run rfl ?_; skip
  refine h_cond_dec (fun hlt => ?_) (fun hlt => ?_)
  · have hlt' : i < x.seqs.length := by omega
    refine h_cond_t rfl rfl ?_; (repeat (refine H_ldEN hp rfl (by omega) rfl rfl ?_))
    (first | (refine H_box hp ?_; intro w b5 hx hp) | (refine H_alloc hp rfl ?_; intro w b5 hx hp)); refine ops_run nopre rfl ?_; (repeat (first | (refine gLoad ?_; refine H_ldB hp rfl rfl ?_) | (refine gStore ?_; refine U_stBN hp rfl rfl rfl rfl ?_; intro w hp; refine ops_run nopre rfl ?_) | (refine gBuild ?_; refine U_litI hp rfl rfl rfl rfl rfl rfl rfl rfl rfl rfl ?_; intro w _ hx hp; refine ops_run nopre rfl ?_)))
    refine U_append hp rfl rfl rfl rfl rfl rfl rfl (by decide) rfl (by first | omega | (simp only [List.length_append, List.length_cons, List.length_nil, List.length_take, List.length_drop, List.length_set, List.length_replicate, List.length_map]; omega)) rfl rfl ?_; intro b' c' w hp hnil; refine ops_run nopre rfl ?_; skip
    refine IH (i + 1) b' c' _ _ _ (by omega) (by rw [map_snoc _ hlt']; rfl) ⟨by omega, ?_⟩
    rw [map_snoc _ hlt']
    exact hp.sub (by simp)
  · refine h_cond_f rfl rfl ?_; (repeat (refine R_ret ?_))
    obtain rfl : i = x.seqs.length := by omega
    rw [List.take_length] at hp ⊢
    exact ⟨b, c, rfl, hp⟩
theorem specNetStart_x (x : NetA) (w0 : World) (hX : NetR w0 x) (hS : NetS x.n) (hW : NetW x.n) :
    Ret Try.prog 77 [x.v] w0 (fun v w => ∃ b c, v = .slice b (ifOk x.n (startL x.n)).length c ∧ Hp w0 w [rO 3 1 eI b c (ifOk x.n (startL x.n))]) := by
  refine enter Try.S77ok _ _ rfl rfl (by show _ ≤ _; simp only [List.length]; decide) (fun C => ?_); have hp := Hp.nil w0; refine h_run rfl ?_; skip; (first | (refine H_box hp ?_; intro w b1 hx hp) | (refine H_alloc hp rfl ?_; intro w b1 hx hp)); refine ops_run nopre rfl ?_; (repeat (first | (refine gLoad ?_; refine H_ldB hp rfl rfl ?_) | (refine gBuild ?_; refine U_litI hp rfl rfl rfl rfl rfl rfl rfl rfl rfl rfl ?_; intro w _ hx hp; refine ops_run nopre rfl ?_)))
  by_cases hok : NetOkP x.n
  · refine h_call rfl Try.func56 (by kernel_rfl) rfl ((specNetOk_h x _ hp.net hS hW).tt (netOkB_yes hok)) ?_; rintro _ w ⟨rfl, hx⟩; have hp := hp.ext hx; refine ops_run nopre rfl ?_; skip
    refine h_cond_f rfl rfl ?_; skip
    have hsz := hok.size'
    rw [ifOk_yes hok, startL_eq]
    refine h_loop3 [1, 3, 4] (fun (i : Nat) (b : Option Addr) (c : Nat) => [(1, .pointer (some ⟨b1, 0, none⟩)), (3, .slice b ((x.seqs.take i).map SeqA.init).length c), (4, .int .i64 (i : Int))])
      (fun i b c w' => i ≤ x.seqs.length ∧ Hp w0 w' [rO 3 1 eI b c ((x.seqs.take i).map SeqA.init), rB b1 28 x.cs]) (fun i _ _ => x.seqs.length - i) 0 _ 0 rfl ⟨by omega, hp⟩ ?_
    rintro i b c w1 ⟨hi, hp⟩ IH C
    have hlen : ((x.seqs.take i).map SeqA.init).length = i := by simp; omega
    refine h_run rfl ?_; (repeat (refine H_ldB hp rfl rfl ?_))
    refine h_cond_dec (fun hlt => ?_) (fun hlt => ?_)
    · have hlt' : i < x.seqs.length := by omega
      refine h_cond_t rfl rfl ?_; (repeat (first | (refine gLoad ?_; first | refine H_ldB hp rfl rfl ?_ | refine H_ldFN hp rfl (by omega) rfl rfl ?_) | (refine gBuild ?_; refine U_litI hp rfl rfl rfl rfl rfl rfl rfl rfl rfl rfl ?_; intro w _ hx hp; refine ops_run nopre rfl ?_)))
      refine U_append hp rfl rfl rfl rfl rfl rfl rfl (by decide) rfl (by first | omega | (simp only [List.length_append, List.length_cons, List.length_nil, List.length_take, List.length_drop, List.length_set, List.length_replicate, List.length_map]; omega)) rfl rfl ?_; intro b' c' w hp hnil; refine ops_run nopre rfl ?_; skip
      refine IH (i + 1) b' c' _ _ _ (by omega) (by rw [map_snoc _ hlt']; rfl) ⟨by omega, ?_⟩
      rw [map_snoc _ hlt']
      exact hp.sub (by simp)
    · refine h_cond_f rfl rfl ?_; (repeat (refine R_ret ?_))
      obtain rfl : i = x.seqs.length := by omega
      rw [List.take_length] at hp ⊢
      exact ⟨b, c, rfl, hp.sub (by simp)⟩
  · refine h_call rfl Try.func56 (by kernel_rfl) rfl ((specNetOk_h x _ hp.net hS hW).ff (netOkB_no hok)) ?_; rintro _ w ⟨rfl, hx⟩; have hp := hp.ext hx; refine ops_run nopre rfl ?_; skip
    refine h_cond_t rfl rfl ?_; (repeat (refine R_ret ?_))
    rw [ifOk_no hok]
    exact ⟨_, _, rfl, hp.sub (by simp)⟩

end Go.Proofs
