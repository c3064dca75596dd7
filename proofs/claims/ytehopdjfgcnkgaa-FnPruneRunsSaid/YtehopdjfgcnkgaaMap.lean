/- The contracts of the functions that map literals and build nets anew; each under its stated conditions. -/
import Derived.Test.YtehopdjfgcnkgaaAdd
import Derived.Test.YtehopdjfgcnkgaaMapLaw
set_option linter.all false
namespace Go.Proofs
open Go.Xw
set_option maxRecDepth 100000
set_option maxHeartbeats 1000000
attribute [local irreducible] Holds elemAddr

theorem mapLit_h (a : Option Addr) (c : Nat) (V : List Int) (m : Nat) (hm : V.length = m) (l : Int) (w0 : World) (hR : Rd w0 a 1 eI V) (h0 : 0 ≤ l) (h1 : l / 2 < m) (hb : m ≤ 1000000000) :
    Ret Try.prog 139 [.slice a m c, .int .i64 l] w0 (fun v w => v = .int .i64 (litV V l) ∧ Ext w0 w) := by
  subst hm
  refine enter Try.S139ok _ _ rfl rfl (by show _ ≤ _; simp only [List.length]; decide) (fun C => ?_); have hp := Hp.nil w0; refine h_run rfl ?_; (repeat (first | (refine gLoad ?_; refine H_ldE hp rfl (by omega) (by omega) rfl rfl ?_) | refine R_ret ?_))
  exact ⟨rfl, hp.x⟩
theorem mapLits_h (a b : Option Addr) (c d : Nat) (to lits : List Int) (m n : Nat) (hm : to.length = m) (hn : lits.length = n) (w0 : World) (hR : Rd w0 a 1 eI to) (hQ : Rd w0 b 1 eI lits) (hl : ∀ i, i < n → 0 ≤ lits.getD i default ∧ lits.getD i default / 2 < m) (hb : m ≤ 1000000) (hnb : n ≤ 1000000) :
    Ret Try.prog 140 [.slice a m c, .slice b n d] w0 (fun v w => ∃ r e, v = .slice r (mapL to lits).length e ∧ Hp w0 w [rO 3 1 eI r e (mapL to lits)]) := by
  subst hm hn
  have hml := mapL_len to lits
  refine enter Try.S140ok _ _ rfl rfl (by show _ ≤ _; simp only [List.length]; decide) (fun C => ?_); have hp := Hp.nil w0; refine h_run rfl ?_; skip
  refine h_loop3 [0, 5, 8, 9, 10] (fun (i : Nat) (r : Option Addr) (e : Nat) => [(0, .slice a to.length c), (5, .slice r ((mapL to lits).take i).length e), (8, .slice b lits.length d), (9, .int .i64 lits.length), (10, .int .i64 (i : Int))])
    (fun i r e w' => i ≤ lits.length ∧ Hp w0 w' [rO 3 1 eI r e ((mapL to lits).take i)]) (fun i _ _ => lits.length - i) 0 none 0 rfl ⟨by omega, hp.ownN (Ext.refl _) (Own.nil _ _ _ _ _)⟩ ?_
  rintro i r e w1 ⟨hi, hp⟩ IH C
  refine h_run rfl ?_; skip
  refine h_cond_dec (fun hlt => ?_) (fun hlt => ?_)
  · have hlt' : i < lits.length := by omega
    obtain ⟨q1, q2⟩ := hl i hlt'
    refine h_cond_t rfl rfl ?_; (repeat (refine H_ldEN hp rfl (by omega) rfl rfl ?_))
    refine h_call rfl Try.func139 (by kernel_rfl) rfl (mapLit_h _ _ to _ rfl (lits.getD i default) _ hp.rd q1 q2 (by omega)) ?_; rintro _ w ⟨rfl, hx⟩; have hp := hp.ext hx; refine ops_run nopre rfl ?_; (repeat (refine U_litI hp rfl rfl rfl rfl rfl rfl rfl rfl rfl rfl ?_; intro w _ hx hp; refine ops_run nopre rfl ?_))
    refine U_append hp rfl rfl rfl rfl rfl rfl rfl (by decide) rfl (by first | omega | (simp only [List.length_append, List.length_cons, List.length_nil, List.length_take, List.length_drop, List.length_set, List.length_replicate, List.length_map]; omega)) rfl rfl ?_; intro r' e' w hp hnil; refine ops_run nopre rfl ?_; skip
    have hs : (mapL to lits).take (i + 1) = (mapL to lits).take i ++ [litV to (lits.getD i default)] := by
      rw [take_snoc (by omega), mapL, map_getD hlt']
    refine IH (i + 1) r' e' _ _ _ (by omega) (by rw [hs]; rfl) ⟨by omega, ?_⟩
    rw [hs]
    exact hp.drop
  · refine h_cond_f rfl rfl ?_; (repeat (refine R_ret ?_))
    obtain rfl : i = lits.length := by omega
    rw [← hml, List.take_length] at hp ⊢
    exact ⟨r, e, rfl, hp⟩

/-- what a sequential element becomes when the roots are copied -/
def crF (S : List SeqL) (n : NetL) (to : List Int) (i : Nat) : SeqL := ⟨(S.getD i default).kind, (S.getD i default).init, mapL to (n.seqs.getD i default).ins⟩
theorem seqsOf_set (R : List SeqA) (i : Nat) (y : SeqA) : seqsOf (R.set i y) = (seqsOf R).set i y.s := by simp [seqsOf, List.map_set]

theorem two_in {p : Int → Prop} {a b : Int} (ha : p a) (hb : p b) : ∀ j, j < [a, b].length → p ([a, b].getD j default)
  | 0, _ => ha
  | 1, _ => hb
  | j + 2, h => by simp at h; omega
theorem cr_all {n : NetL} {to : List Int} {S : List SeqL} (hl : S.length = n.seqs.length) (h : ∀ i, i < n.seqs.length → (S.getD i default).kind = (n.seqs.getD i default).kind ∧ (S.getD i default).init = (n.seqs.getD i default).init) :
    upTo (crF S n to) n.seqs.length S = n.seqs.map fun s => ⟨s.kind, s.init, mapL to s.ins⟩ := by
  have e := upTo_all (crF S n to) S
  rw [hl] at e
  rw [e]
  refine list_eq (by simp) fun i hi => ?_
  simp at hi
  rw [range_get hi, map_getD hi]
  unfold crF
  rw [(h i hi).1, (h i hi).2]
theorem beg_at {n : NetL} {A : List (Int × Int)} : (begL n A).seqs.length = n.seqs.length ∧ ∀ i, i < n.seqs.length → ((begL n A).seqs.getD i default).kind = (n.seqs.getD i default).kind ∧ ((begL n A).seqs.getD i default).init = (n.seqs.getD i default).init :=
  ⟨by simp [begL], fun i hi => by unfold begL; rw [map_getD hi]; exact ⟨rfl, rfl⟩⟩
theorem zer_at {n : NetL} {A : List (Int × Int)} : (zerL n A).seqs.length = n.seqs.length ∧ ∀ i, i < n.seqs.length → ((zerL n A).seqs.getD i default).kind = (n.seqs.getD i default).kind ∧ ((zerL n A).seqs.getD i default).init = (n.seqs.getD i default).init :=
  ⟨by simp [zerL], fun i hi => by unfold zerL; rw [map_getD hi]; exact ⟨rfl, rfl⟩⟩
/-- the net without anything -/
def nilA : NetA := ⟨0, [], none, 0, [], none, 0, [], none, 0⟩
theorem nilA_n : nilA.n = nilN := rfl
theorem hpNil {w0 w : World} {L : List Res} (h : Hp w0 w L) : Hp w0 w (rNet nilA :: L) := by
  have h1 : Hp w0 w (rO 3 1 eI none 0 ([] : List Int) :: L) := h.ownN (Ext.refl _) (Own.nil _ _ _ _ _)
  have h2 : Hp w0 w (rO 79 2 eII none 0 ([] : List (Int × Int)) :: rO 3 1 eI none 0 ([] : List Int) :: L) := h1.ownN (Ext.refl _) (Own.nil _ _ _ _ _)
  have h3 : Hp w0 w (rO 85 3 eSq none 0 ([] : List SeqA) :: rIns [] :: rO 79 2 eII none 0 ([] : List (Int × Int)) :: rO 3 1 eI none 0 ([] : List Int) :: L) := (rIns_nil h2).ownN (Ext.refl _) (Own.nil _ _ _ _ _)
  exact rNet_shut (x := nilA) (rSq_shut h3)
end Go.Proofs
