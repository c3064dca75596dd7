/- Texts that belong together; each under its stated conditions. -/
import Derived.Test.YtifjicajbgoamaaBase
import Derived.Test.YtifjicajbgoamaaBits
import Derived.Test.YtifjicajbgoamaaGraph4
set_option linter.all false
section
/- The contracts of SeqNext on both sides; no condition but the stated ones. -/
namespace Go.Proofs
open Go.Xw
set_option maxRecDepth 100000

def seqMostL (k : Int) : Int := if k = 0 then 1 else if k = 1 then 31 else -1

theorem seqMost_ok (k : Int) (w : World) : Ret Try.prog 103 [.int .i64 k] w (fun v w' => v = .int .i64 (seqMostL k) ∧ w' = w) := by
  refine enter Try.S103ok _ _ rfl rfl (by show _ ≤ _; simp only [List.length]; decide) (fun C => ?_); refine h_run rfl ?_; (repeat (first | refine h_guard_y rfl nopre rfl ?_ | refine h_guard_n rfl nopre rfl ?_))
  refine h_cond_dec (fun h => ?_) (fun h => ?_)
  · refine h_cond_t rfl rfl ?_; (repeat (first | refine h_guard_y rfl nopre rfl ?_ | refine h_guard_n rfl nopre rfl ?_))
    exact ⟨by unfold seqMostL; rw [if_pos h], rfl⟩
  · refine h_cond_f rfl rfl ?_; (repeat (first | refine h_guard_y rfl nopre rfl ?_ | refine h_guard_n rfl nopre rfl ?_))
    refine h_cond_dec (fun h2 => ?_) (fun h2 => ?_)
    · refine h_cond_t rfl rfl ?_; (repeat (first | refine h_guard_y rfl nopre rfl ?_ | refine h_guard_n rfl nopre rfl ?_))
      exact ⟨by unfold seqMostL; rw [if_neg h, if_pos h2], rfl⟩
    · refine h_cond_f rfl rfl ?_; (repeat (first | refine h_guard_y rfl nopre rfl ?_ | refine h_guard_n rfl nopre rfl ?_))
      exact ⟨by unfold seqMostL; rw [if_neg h, if_neg h2], rfl⟩

/-- the memory's next state: v the state, a the place, d the bit, e: is it written -/
def ramO (v : Int) (a : Nat) : Int := bits .or .i64 (bits .and .i64 (v / 2 ^ a) 1) (bits .andNot .i64 v 1)
def ramW (v : Int) (a : Nat) (d : Int) : Int := bits .or .i64 (bits .andNot .i64 (ramO v a) (2 ^ a)) (d * 2 ^ a)
def ramNext (v i : Int) : Int := if i / 8 % 2 = 1 then ramW v (i % 4 + 1).toNat (i / 4 % 2) else ramO v (i % 4 + 1).toNat

theorem ram_all : ∀ v : Fin 32, ∀ a : Fin 4, ∀ d : Fin 2, ramO v.val (a.val + 1) = bits .andNot .i64 (v.val : Int) 1 + bits .and .i64 ((v.val : Int) / 2 ^ (a.val + 1)) 1 ∧ 0 ≤ ramO v.val (a.val + 1) ∧ ramO v.val (a.val + 1) ≤ 31 ∧
    ramW v.val (a.val + 1) d.val = bits .andNot .i64 (ramO v.val (a.val + 1)) (2 ^ (a.val + 1)) + d.val * 2 ^ (a.val + 1) ∧ 0 ≤ ramW v.val (a.val + 1) d.val ∧ ramW v.val (a.val + 1) d.val ≤ 31 := by
  decide +kernel

theorem ram_is {v i : Int} (h0 : 0 ≤ v) (h1 : v ≤ 31) : ramO v (i % 4 + 1).toNat = bits .andNot .i64 v 1 + bits .and .i64 (v / 2 ^ (i % 4 + 1).toNat) 1 ∧ 0 ≤ ramO v (i % 4 + 1).toNat ∧ ramO v (i % 4 + 1).toNat ≤ 31 ∧
    ramW v (i % 4 + 1).toNat (i / 4 % 2) = bits .andNot .i64 (ramO v (i % 4 + 1).toNat) (2 ^ (i % 4 + 1).toNat) + (i / 4 % 2) * 2 ^ (i % 4 + 1).toNat ∧ 0 ≤ ramW v (i % 4 + 1).toNat (i / 4 % 2) ∧ ramW v (i % 4 + 1).toNat (i / 4 % 2) ≤ 31 := by
  have h := ram_all ⟨v.toNat, by omega⟩ ⟨(i % 4).toNat, by omega⟩ ⟨(i / 4 % 2).toNat, by omega⟩
  have e1 : ((v.toNat : Nat) : Int) = v := by omega
  have e2 : (i % 4).toNat + 1 = (i % 4 + 1).toNat := by omega
  have e3 : (((i / 4 % 2).toNat : Nat) : Int) = i / 4 % 2 := by omega
  simp only [e1, e2, e3] at h
  exact h

def seqNextL (k v i : Int) : Int :=
  if k = 0 ∧ 0 ≤ v ∧ v ≤ 1 then i % 2 else if k = 1 ∧ 0 ≤ v ∧ v ≤ 31 then ramNext v i else -1

theorem pow_a (i : Int) : 2 ≤ (2 : Int) ^ (i % 4 + 1).toNat ∧ (2 : Int) ^ (i % 4 + 1).toNat ≤ 16 := by
  have h : i % 4 = 0 ∨ i % 4 = 1 ∨ i % 4 = 2 ∨ i % 4 = 3 := by omega
  rcases h with h | h | h | h <;> rw [h] <;> decide
theorem implSeqNext_ok (k v i : Int) (w : World) :
    Ret Try.prog 74 [.int .i64 k, .int .i64 v, .int .i64 i] w (fun r w' => r = .int .i64 (seqNextL k v i) ∧ w' = w) := by
  refine enter Try.S74ok _ _ rfl rfl (by show _ ≤ _; simp only [List.length]; decide) (fun C => ?_); refine h_run rfl ?_; (repeat (first | refine h_guard_y rfl nopre rfl ?_ | refine h_guard_n rfl nopre rfl ?_))
  refine h_call rfl Try.func103 (by kernel_rfl) rfl (seqMost_ok _ _) ?_
  rintro _ w' ⟨rfl, rfl⟩
  refine ops_run nopre rfl ?_; (repeat (first | refine h_guard_y rfl nopre rfl ?_ | refine h_guard_n rfl nopre rfl ?_))
  refine h_call rfl Try.func55 (by kernel_rfl) rfl (inRange_ok _ _ _ _) ?_
  rintro _ w' ⟨rfl, rfl⟩
  refine ops_run nopre rfl ?_; (repeat (first | refine h_guard_y rfl nopre rfl ?_ | refine h_guard_n rfl nopre rfl ?_))
  refine h_cond_ndec (fun h3 => ?_) (fun h3 => ?_)
  · refine h_cond_t rfl rfl ?_; (repeat (first | refine h_guard_y rfl nopre rfl ?_ | refine h_guard_n rfl nopre rfl ?_))
    exact ⟨by unfold seqNextL seqMostL at *; rw [if_neg (by split at h3 <;> omega), if_neg (by split at h3 <;> (try split at h3) <;> omega)], rfl⟩
  · refine h_cond_f rfl rfl ?_; (repeat (first | refine h_guard_y rfl nopre rfl ?_ | refine h_guard_n rfl nopre rfl ?_))
    refine h_cond_dec (fun h4 => ?_) (fun h4 => ?_)
    · refine h_cond_t rfl rfl ?_; (repeat (first | refine h_guard_y rfl nopre rfl ?_ | refine h_guard_n rfl nopre rfl ?_))
      exact ⟨by unfold seqNextL seqMostL at *; rw [if_pos (by simp [h4] at h3 ⊢; omega), bits_and_one], rfl⟩
    · have hk : k = 1 ∧ v ≤ 31 := by unfold seqMostL at h3; split at h3 <;> (try split at h3) <;> omega
      have e3 := bits_and_three i
      have e4 := bits_and_one (i / 4)
      have e8 := bits_and_one (i / 8)
      have hp := pow_a i
      have hr := ram_is (i := i) h3.1 hk.2
      have h64 : (IntKind.i64.bits : Int) = 64 := rfl
      have c8 : i / 2 ^ Int.toNat 3 = i / 8 := rfl
      have c4 : i / 2 ^ Int.toNat 2 = i / 4 := rfl
      rw [← e3] at hp hr
      refine h_cond_f rfl rfl ?_; (repeat (first | refine h_guard_y rfl nopre rfl ?_ | refine h_guard_n rfl nopre rfl ?_))
      have hns : seqNextL k v i = ramNext v i := by unfold seqNextL; rw [if_neg (by omega), if_pos (by omega)]
      refine h_cond_dec (fun h5 => ?_) (fun h5 => ?_)
      · rw [c8, e8] at h5
        have hd : 0 ≤ i / 4 % 2 * 2 ^ (bits .and .i64 i 3 + 1).toNat ∧ i / 4 % 2 * 2 ^ (bits .and .i64 i 3 + 1).toNat ≤ 16 := by
          have : i / 4 % 2 = 0 ∨ i / 4 % 2 = 1 := by omega
          rcases this with h | h <;> rw [h] <;> omega
        rw [← e4, ← c4] at hd
        refine h_cond_t rfl rfl ?_; (repeat (first | refine h_guard_y rfl nopre rfl ?_ | refine h_guard_n rfl nopre rfl ?_))
        refine ⟨?_, rfl⟩
        rw [hns]; unfold ramNext
        rw [if_pos h5, c4, e4, Int.one_mul, ← e3]
        rfl
      · rw [c8, e8] at h5
        refine h_cond_f rfl rfl ?_; (repeat (first | refine h_guard_y rfl nopre rfl ?_ | refine h_guard_n rfl nopre rfl ?_))
        refine ⟨?_, rfl⟩
        rw [hns]; unfold ramNext
        rw [if_neg h5, ← e3]
        rfl

theorem specSeqNext_ok (k v i : Int) (w : World) :
    Ret Try.prog 52 [.int .i64 k, .int .i64 v, .int .i64 i] w (fun r w' => r = .int .i64 (seqNextL k v i) ∧ Ext w w') := by
  have e3 := bits_and_three i
  have e4 := bits_and_one (i / 4)
  have e8 := bits_and_one (i / 8)
  have hp := pow_a i
  have h64 : (IntKind.i64.bits : Int) = 64 := rfl
  have c8 : i / 2 ^ Int.toNat 3 = i / 8 := rfl
  have c4 : i / 2 ^ Int.toNat 2 = i / 4 := rfl
  rw [← e3] at hp
  refine enter Try.S52ok _ _ rfl rfl (by show _ ≤ _; simp only [List.length]; decide) (fun C => ?_); refine h_run rfl ?_; (repeat (first | refine h_guard_y rfl nopre rfl ?_ | refine h_guard_n rfl nopre rfl ?_))
  refine h_guard_by (fun h1 => ?_) (fun h1 => ?_); all_goals (rw [h1]; (first | replace h1 := of_decide_eq_true h1 | replace h1 := of_decide_eq_false h1 | skip); repeat (first | refine h_guard_y rfl nopre rfl ?_ | refine h_guard_n rfl nopre rfl ?_))
  · refine h_call rfl Try.func45 (by kernel_rfl) rfl (l01In_ok _ _ _ _) ?_
    rintro _ w' ⟨rfl, rfl⟩
    refine ops_run nopre rfl ?_; (repeat (first | refine h_guard_y rfl nopre rfl ?_ | refine h_guard_n rfl nopre rfl ?_))
    refine h_cond_dec (fun h2 => ?_) (fun h2 => ?_)
    · refine h_cond_t rfl rfl ?_; (repeat (first | refine h_guard_y rfl nopre rfl ?_ | refine h_guard_n rfl nopre rfl ?_))
      exact ⟨by unfold seqNextL; rw [if_pos ⟨h1, h2⟩, bits_and_one], Ext.refl _⟩
    · refine h_cond_f rfl rfl ?_; (repeat (first | refine h_guard_y rfl nopre rfl ?_ | refine h_guard_n rfl nopre rfl ?_))
      refine h_guard_by (fun h3 => ?_) (fun h3 => ?_); all_goals (rw [h3]; (first | replace h3 := of_decide_eq_true h3 | replace h3 := of_decide_eq_false h3 | skip); repeat (first | refine h_guard_y rfl nopre rfl ?_ | refine h_guard_n rfl nopre rfl ?_))
      · refine h_cond_t rfl rfl ?_; (repeat (first | refine h_guard_y rfl nopre rfl ?_ | refine h_guard_n rfl nopre rfl ?_))
        exact ⟨by unfold seqNextL; rw [if_neg (by omega), if_neg (by omega)], Ext.refl _⟩
      · exact absurd h1 (by omega)
  · refine h_cond_f rfl rfl ?_; (repeat (first | refine h_guard_y rfl nopre rfl ?_ | refine h_guard_n rfl nopre rfl ?_))
    refine h_guard_by (fun h3 => ?_) (fun h3 => ?_); all_goals (rw [h3]; (first | replace h3 := of_decide_eq_true h3 | replace h3 := of_decide_eq_false h3 | skip); repeat (first | refine h_guard_y rfl nopre rfl ?_ | refine h_guard_n rfl nopre rfl ?_))
    · refine h_cond_t rfl rfl ?_; (repeat (first | refine h_guard_y rfl nopre rfl ?_ | refine h_guard_n rfl nopre rfl ?_))
      exact ⟨by unfold seqNextL; rw [if_neg (by omega), if_neg (by omega)], Ext.refl _⟩
    · have hk : k = 1 := by omega
      refine h_call rfl Try.func45 (by kernel_rfl) rfl (l01In_ok _ _ _ _) ?_
      rintro _ w' ⟨rfl, rfl⟩
      refine ops_run nopre rfl ?_; (repeat (first | refine h_guard_y rfl nopre rfl ?_ | refine h_guard_n rfl nopre rfl ?_))
      refine h_cond_ndec (fun h4 => ?_) (fun h4 => ?_)
      · refine h_cond_t rfl rfl ?_; (repeat (first | refine h_guard_y rfl nopre rfl ?_ | refine h_guard_n rfl nopre rfl ?_))
        exact ⟨by unfold seqNextL; rw [if_neg (by omega), if_neg (by omega)], Ext.refl _⟩
      · have hr := ram_is (i := i) h4.1 h4.2
        rw [← e3] at hr
        have hns : seqNextL k v i = ramNext v i := by unfold seqNextL; rw [if_neg (by omega), if_pos (by omega)]
        refine h_cond_f rfl rfl ?_; (repeat (first | refine h_guard_y rfl nopre rfl ?_ | refine h_guard_n rfl nopre rfl ?_))
        have hd : 0 ≤ i / 4 % 2 * 2 ^ (bits .and .i64 i 3 + 1).toNat ∧ i / 4 % 2 * 2 ^ (bits .and .i64 i 3 + 1).toNat ≤ 16 := by
          have : i / 4 % 2 = 0 ∨ i / 4 % 2 = 1 := by omega
          rcases this with h | h <;> rw [h] <;> omega
        rw [← e4, ← c4] at hd
        have hW : bits .andNot .i64 (bits .andNot .i64 v 1 + bits .and .i64 (v / 2 ^ (bits .and .i64 i 3 + 1).toNat) 1) (1 * 2 ^ (bits .and .i64 i 3 + 1).toNat) + bits .and .i64 (i / 2 ^ Int.toNat 2) 1 * 2 ^ (bits .and .i64 i 3 + 1).toNat = ramW v (bits .and .i64 i 3 + 1).toNat (i / 4 % 2) := by
          rw [Int.one_mul, c4, e4, ← hr.1, hr.2.2.2.1]
        refine h_cond_dec (fun h5 => ?_) (fun h5 => ?_)
        · refine h_cond_t rfl rfl ?_; (repeat (first | refine h_guard_y rfl nopre rfl ?_ | refine h_guard_n rfl nopre rfl ?_))
          refine h_drawE (by kernel_rfl) (by kernel_rfl) rfl rfl (fun w1 hx => ?_); (repeat (first | refine h_guard_yd rfl rfl rfl ?_ | refine h_guard_nd rfl rfl rfl ?_))
          refine ⟨?_, hx⟩
          rw [c8, e8] at h5
          rw [hns]; unfold ramNext
          rw [if_pos h5, ← e3, ← hW]
        · rw [c8, e8] at h5
          refine h_cond_f rfl rfl ?_; (repeat (first | refine h_guard_y rfl nopre rfl ?_ | refine h_guard_n rfl nopre rfl ?_))
          refine ⟨?_, Ext.refl _⟩
          rw [hns]; unfold ramNext
          rw [if_neg h5, ← e3, hr.1]

end Go.Proofs
end
section
/- The contracts of the functions that check and begin a state, and of those that check classes; each under its stated conditions. -/
namespace Go.Xw
end Go.Xw
namespace Go.Proofs
open Go.Xw
set_option maxRecDepth 100000
set_option maxHeartbeats 1000000
attribute [local irreducible] Holds elemAddr

/-- the state is right -/
def stP (n : NetL) (st : List Int) : Prop := st.length = n.seqs.length ∧ ∀ i, i < st.length → 0 ≤ st.getD i default ∧ st.getD i default ≤ seqMostL (n.seqs.getD i default).kind
noncomputable def stOkB (n : NetL) (st : List Int) : Bool := @decide (NetOkP n ∧ stP n st) (Classical.propDecidable _)
theorem stOkB_yes {n : NetL} {st : List Int} (h : NetOkP n ∧ stP n st) : stOkB n st = true := by simp [stOkB, h]
theorem stOkB_no {n : NetL} {st : List Int} (h : ¬ (NetOkP n ∧ stP n st)) : stOkB n st = false := by simp only [stOkB, h, decide_false]
theorem seqNext0 {k v : Int} : 0 ≤ seqNextL k v 0 ↔ 0 ≤ v ∧ v ≤ seqMostL k := by
  unfold seqNextL seqMostL
  by_cases h0 : k = 0
  · by_cases h1 : 0 ≤ v ∧ v ≤ 1
    · rw [if_pos ⟨h0, h1⟩, if_pos h0]; omega
    · rw [if_neg (by omega), if_neg (by omega), if_pos h0]; omega
  · rw [if_neg (by omega), if_neg h0]
    by_cases h1 : k = 1
    · by_cases h2 : 0 ≤ v ∧ v ≤ 31
      · rw [if_pos ⟨h1, h2⟩, if_pos h1]
        have := ram_is (i := 0) h2.1 h2.2
        unfold ramNext
        rw [if_neg (by decide)]
        omega
      · rw [if_neg (by omega), if_pos h1]; omega
    · rw [if_neg (by omega), if_neg h1]; omega

theorem specStateOk_x (x : NetA) (a : Option Addr) (c : Nat) (st : List Int) (w0 : World) (hX : NetR w0 x) (hS : NetS x.n) (hW : NetW x.n) (hR : Rd w0 a 1 eI st) (hL : st.length ≤ 1048576) (hV : ∀ i, i < st.length → i64R (st.getD i default)) :
    Ret Try.prog 50 [x.v, .slice a st.length c] w0 (fun v w => v = .bool (stOkB x.n st) ∧ Ext w0 w) := by
  refine enter Try.S50ok _ _ rfl rfl (by show _ ≤ _; simp only [List.length]; decide) (fun C => ?_); have hp := Hp.nil w0; refine h_run rfl ?_; skip; (first | (refine H_box hp ?_; intro w b1 hx hp) | (refine H_alloc hp rfl ?_; intro w b1 hx hp)); refine ops_run nopre rfl ?_; (repeat (refine H_ldB hp rfl rfl ?_))
  by_cases hok : NetOkP x.n
  · refine h_call rfl Try.func23 (by kernel_rfl) rfl ((specNetOk_h x _ hp.net hS hW).tt (netOkB_yes hok)) ?_; rintro _ w ⟨rfl, hx⟩; have hp := hp.ext hx; refine ops_run nopre rfl ?_; (repeat (first | (refine gGuard ?_; refine h_guard_y rfl nopre rfl ?_) | (refine gLoad ?_; refine H_ldB hp rfl rfl ?_)))
    refine h_cond_dec (fun hne => ?_) (fun hne => ?_)
    · refine h_cond_t rfl rfl ?_; (repeat (refine R_ret ?_))
      exact ⟨by rw [stOkB_no (fun h => by have := h.2.1; rw [x.slen] at this; omega)], hp.x⟩
    · have hlen : st.length = x.seqs.length := by omega
      have hsz := hok.size'
      refine h_cond_f rfl rfl ?_; skip
      refine h_loop [1, 2, 5] (fun (i : Nat) => [(1, .slice a st.length c), (2, .pointer (some ⟨b1, 0, none⟩)), (5, .int .i64 (i : Int))])
        (fun i w' => i ≤ st.length ∧ (∀ j, j < i → 0 ≤ st.getD j default ∧ st.getD j default ≤ seqMostL (x.seqs.getD j default).kind) ∧ Hp w0 w' [rB b1 28 x.cs]) (fun i => st.length - i) 0 rfl ⟨by omega, fun j hj => by omega, hp⟩ ?_
      rintro i w1 ⟨hi, hall, hp⟩ IH C
      refine h_run rfl ?_; skip
      refine h_cond_dec (fun hlt => ?_) (fun hlt => ?_)
      · have hlt' : i < st.length := by omega
        have h0 := @seqNext0 (x.seqs.getD i default).kind (st.getD i default)
        refine h_cond_t rfl rfl ?_; skip
        refine D_draw hp (by kernel_rfl) (by kernel_rfl) rfl rfl ?_; intro w hx hp; have hs := hp; (repeat (refine gLoad ?_; first | refine D_ldB rfl rfl rfl ?_ | refine D_ldEN rfl (by omega) rfl rfl rfl ?_ | refine D_ldFN rfl (by omega) rfl rfl rfl ?_))
        refine h_callq rfl Try.func52 (by kernel_rfl) rfl (specSeqNext_ok (x.seqs.getD i default).kind (st.getD i default) 0 _) ?_; rintro _ w ⟨rfl, hx⟩; have hp := hp.ext hx; have hs := hs.ext hx; refine ⟨fun _ => hs, ?_⟩; refine D_ops rfl rfl ?_; skip
        refine h_cond_dec (fun hin => ?_) (fun hin => ?_)
        · refine h_cond_t rfl rfl ?_; (repeat (refine R_ret ?_))
          exact ⟨by rw [stOkB_no (fun h => by have h2 := h.2.2 i hlt'; rw [x.skind] at h2; have := h0.2 h2; omega)], hp.x⟩
        · refine h_cond_f rfl rfl ?_; skip
          refine IH (i + 1) _ _ _ (by omega) rfl ⟨by omega, fun j hj => ?_, hp⟩
          by_cases hj2 : j < i
          · exact hall j hj2
          · obtain rfl : j = i := by omega
            exact h0.1 (by omega)
      · refine h_cond_f rfl rfl ?_; (repeat (refine R_ret ?_))
        obtain rfl : i = st.length := by omega
        exact ⟨by rw [stOkB_yes ⟨hok, by rw [x.slen]; exact hlen, fun j hj => by rw [x.skind]; exact hall j hj⟩], hp.x⟩
  · refine h_call rfl Try.func23 (by kernel_rfl) rfl ((specNetOk_h x _ hp.net hS hW).ff (netOkB_no hok)) ?_; rintro _ w ⟨rfl, hx⟩; have hp := hp.ext hx; refine ops_run nopre rfl ?_; (repeat (refine h_guard_n rfl nopre rfl ?_))
    refine h_cond_t rfl rfl ?_; (repeat (refine R_ret ?_))
    exact ⟨by rw [stOkB_no (fun h => hok h.1)], hp.x⟩

/-- the initial state -/
def startL (n : NetL) : List Int := n.seqs.map SeqL.init
theorem startL_eq (x : NetA) : startL x.n = x.seqs.map SeqA.init := by unfold startL NetA.n seqsOf; rw [List.map_map]; rfl
theorem map_snoc {α β : Type} [Inhabited α] (f : α → β) {X : List α} {i : Nat} (h : i < X.length) : (X.take (i + 1)).map f = (X.take i).map f ++ [f (X.getD i default)] := by rw [take_snoc h, List.map_append]; rfl
theorem netStart_h (x : NetA) (w0 : World) (hX : NetR w0 x) (hok : NetOkP x.n) :
    Ret Try.prog 33 [x.v] w0 (fun v w => ∃ b c, v = .slice b (startL x.n).length c ∧ Hp w0 w [rO 3 1 eI b c (startL x.n)]) := by
  have hsz := hok.size'
  rw [startL_eq]
  refine enter Try.S33ok _ _ rfl rfl (by show _ ≤ _; simp only [List.length]; decide) (fun C => ?_); have hp := Hp.nil w0; refine h_run rfl ?_; skip; (first | (refine H_box hp ?_; intro w b1 hx hp) | (refine H_alloc hp rfl ?_; intro w b1 hx hp)); refine ops_run nopre rfl ?_; (repeat (refine H_ldB hp rfl rfl ?_))
  refine h_loop3 [3, 7, 8, 9] (fun (i : Nat) (b : Option Addr) (c : Nat) => [(3, .slice b ((x.seqs.take i).map SeqA.init).length c), (7, .slice x.sa x.seqs.length x.sc), (8, .int .i64 x.seqs.length), (9, .int .i64 (i : Int))])
    (fun i b c w' => i ≤ x.seqs.length ∧ Hp w0 w' [rO 3 1 eI b c ((x.seqs.take i).map SeqA.init)]) (fun i _ _ => x.seqs.length - i) 0 none 0 rfl ⟨by omega, (Hp.of_ext hp.x).ownN (Ext.refl _) (Own.nil _ _ _ _ _)⟩ ?_
  rintro i b c w1 ⟨hi, hp⟩ IH C
  have hlen : ((x.seqs.take i).map SeqA.init).length = i := by simp; omega
  refine h_run rfl ?_; skip
  refine h_cond_dec (fun hlt => ?_) (fun hlt => ?_)
  · have hlt' : i < x.seqs.length := by omega
    refine h_cond_t rfl rfl ?_; (repeat (refine H_ldEN hp rfl (by omega) rfl rfl ?_))
    (first | (refine H_box hp ?_; intro w b5 hx hp) | (refine H_alloc hp rfl ?_; intro w b5 hx hp)); refine ops_run nopre rfl ?_; (repeat (first | (refine gLoad ?_; refine H_ldB hp rfl rfl ?_) | (refine gStore ?_; refine U_stBN hp rfl rfl rfl rfl ?_; intro w hp; refine ops_run nopre rfl ?_) | (refine gBuild ?_; refine U_litI hp rfl rfl rfl rfl rfl rfl rfl rfl rfl rfl ?_; intro w _ hx hp; refine ops_run nopre rfl ?_)))
    refine U_append hp rfl rfl rfl rfl rfl rfl rfl (by decide) rfl (by first | omega | (simp only [List.length_append, List.length_cons, List.length_nil, List.length_take, List.length_drop, List.length_set, List.length_replicate, List.length_map]; omega)) rfl rfl ?_; intro b' c' w hp hnil; refine ops_run nopre rfl ?_; skip
    refine IH (i + 1) b' c' _ _ _ (by omega) (by rw [map_snoc _ hlt']; rfl) ⟨by omega, ?_⟩
    rw [map_snoc _ hlt']
    exact hp.sub (by simp)
  · refine h_cond_f rfl rfl ?_; (repeat (refine R_ret ?_))
    obtain rfl : i = x.seqs.length := by omega
    rw [List.take_length] at hp ⊢
    exact ⟨b, c, rfl, hp⟩
theorem specNetStart_x (x : NetA) (w0 : World) (hX : NetR w0 x) (hS : NetS x.n) (hW : NetW x.n) :
    Ret Try.prog 24 [x.v] w0 (fun v w => ∃ b c, v = .slice b (ifOk x.n (startL x.n)).length c ∧ Hp w0 w [rO 3 1 eI b c (ifOk x.n (startL x.n))]) := by
  refine enter Try.S24ok _ _ rfl rfl (by show _ ≤ _; simp only [List.length]; decide) (fun C => ?_); have hp := Hp.nil w0; refine h_run rfl ?_; skip; (first | (refine H_box hp ?_; intro w b1 hx hp) | (refine H_alloc hp rfl ?_; intro w b1 hx hp)); refine ops_run nopre rfl ?_; (repeat (first | (refine gLoad ?_; refine H_ldB hp rfl rfl ?_) | (refine gBuild ?_; refine U_litI hp rfl rfl rfl rfl rfl rfl rfl rfl rfl rfl ?_; intro w _ hx hp; refine ops_run nopre rfl ?_)))
  by_cases hok : NetOkP x.n
  · refine h_call rfl Try.func23 (by kernel_rfl) rfl ((specNetOk_h x _ hp.net hS hW).tt (netOkB_yes hok)) ?_; rintro _ w ⟨rfl, hx⟩; have hp := hp.ext hx; refine ops_run nopre rfl ?_; skip
    refine h_cond_f rfl rfl ?_; skip
    have hsz := hok.size'
    rw [ifOk_yes hok, startL_eq]
    refine h_loop3 [1, 3, 4] (fun (i : Nat) (b : Option Addr) (c : Nat) => [(1, .pointer (some ⟨b1, 0, none⟩)), (3, .slice b ((x.seqs.take i).map SeqA.init).length c), (4, .int .i64 (i : Int))])
      (fun i b c w' => i ≤ x.seqs.length ∧ Hp w0 w' [rO 3 1 eI b c ((x.seqs.take i).map SeqA.init), rB b1 28 x.cs]) (fun i _ _ => x.seqs.length - i) 0 _ 0 rfl ⟨by omega, hp⟩ ?_
    rintro i b c w1 ⟨hi, hp⟩ IH C
    have hlen : ((x.seqs.take i).map SeqA.init).length = i := by simp; omega
    refine h_run rfl ?_; (repeat (refine H_ldB hp rfl rfl ?_))
    refine h_cond_dec (fun hlt => ?_) (fun hlt => ?_)
    · have hlt' : i < x.seqs.length := by omega
      refine h_cond_t rfl rfl ?_; (repeat (first | (refine gLoad ?_; first | refine H_ldB hp rfl rfl ?_ | refine H_ldFN hp rfl (by omega) rfl rfl ?_) | (refine gBuild ?_; refine U_litI hp rfl rfl rfl rfl rfl rfl rfl rfl rfl rfl ?_; intro w _ hx hp; refine ops_run nopre rfl ?_)))
      refine U_append hp rfl rfl rfl rfl rfl rfl rfl (by decide) rfl (by first | omega | (simp only [List.length_append, List.length_cons, List.length_nil, List.length_take, List.length_drop, List.length_set, List.length_replicate, List.length_map]; omega)) rfl rfl ?_; intro b' c' w hp hnil; refine ops_run nopre rfl ?_; skip
      refine IH (i + 1) b' c' _ _ _ (by omega) (by rw [map_snoc _ hlt']; rfl) ⟨by omega, ?_⟩
      rw [map_snoc _ hlt']
      exact hp.sub (by simp)
    · refine h_cond_f rfl rfl ?_; (repeat (refine R_ret ?_))
      obtain rfl : i = x.seqs.length := by omega
      rw [List.take_length] at hp ⊢
      exact ⟨b, c, rfl, hp.sub (by simp)⟩
  · refine h_call rfl Try.func23 (by kernel_rfl) rfl ((specNetOk_h x _ hp.net hS hW).ff (netOkB_no hok)) ?_; rintro _ w ⟨rfl, hx⟩; have hp := hp.ext hx; refine ops_run nopre rfl ?_; skip
    refine h_cond_t rfl rfl ?_; (repeat (refine R_ret ?_))
    rw [ifOk_no hok]
    exact ⟨_, _, rfl, hp.sub (by simp)⟩

end Go.Proofs
end
