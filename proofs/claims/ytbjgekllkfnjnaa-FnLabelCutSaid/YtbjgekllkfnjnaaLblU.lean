/- Texts that belong together; each under its stated conditions. -/
import Derived.Test.YtbjgekllkfnjnaaReach
import Derived.Test.YtbjgekllkfnjnaaFam
import Derived.Test.YtbjgekllkfnjnaaConjLaw
set_option linter.all false
section
namespace Go.Proofs
open Go.Xw
set_option maxRecDepth 100000
set_option maxHeartbeats 1000000
attribute [local irreducible] Holds elemAddr
theorem coneL_len (n : NetL) (k : Nat) : (coneL n k).length ≤ nds n := by
 unfold coneL markedL
 have := markedTo_len (listB (nds n) (InCone n k)) (listB (nds n) (InCone n k)).length
 rw [listB_len] at this ⊢
 exact this
theorem marked_h (a : Option Addr) (c : Nat) (B : List Bool) (m : Nat) (hm : B.length = m) (w0 : World) (hR : Rd w0 a 1 eB B) (hb : m ≤ 1000000) :
  Ret Try.prog 142 [.slice a m c] w0 (fun v w => ∃ b c', v = .slice b (markedL B).length c' ∧ Hp w0 w [rO 3 1 eI b c' (markedL B)]) := by
 subst hm
 refine enter Try.S142ok _ _ rfl rfl (by show _ ≤ _; simp only [List.length]; decide) (fun C => ?_); have hp := Hp.nil w0; refine h_run rfl ?_; skip
 refine h_loop3 [3, 6, 7, 8] (fun (i : Nat) (b : Option Addr) (c' : Nat) => [(3, .slice b (markedTo B i).length c'), (6, .slice a B.length c), (7, .int .i64 B.length), (8, .int .i64 (i : Int))])
  (fun i b c' w' => i ≤ B.length ∧ Hp w0 w' [rO 3 1 eI b c' (markedTo B i)]) (fun i _ _ => B.length - i) 0 none 0 rfl ⟨by omega, hp.ownN (Ext.refl _) (Own.nil _ _ _ _ _)⟩ ?_
 rintro i b c' w1 ⟨hi, hp⟩ IH C
 have hml := markedTo_len B i
 refine h_run rfl ?_; skip
 refine h_cond_dec (fun hlt => ?_) (fun hlt => ?_)
 ·refine h_cond_t rfl rfl ?_; (repeat (refine H_ldEN hp rfl (by omega) rfl rfl ?_))
  refine h_cond_b (fun hb2 => ?_) (fun hb2 => ?_)
  ·refine h_cond_t rfl rfl ?_; (repeat (refine U_litI hp rfl rfl rfl rfl rfl rfl rfl rfl rfl rfl ?_; intro w _ hx hp; refine ops_run nopre rfl ?_))
   refine U_append hp rfl rfl rfl rfl rfl rfl rfl (by decide) rfl (by first | omega | (simp only [List.length_append, List.length_cons, List.length_nil, List.length_take, List.length_drop, List.length_set, List.length_replicate, List.length_map]; omega)) rfl rfl ?_; intro b' c'' w hp hnil; refine ops_run nopre rfl ?_; skip
   have e : markedTo B (i + 1) = markedTo B i ++ [(i : Int)] := by rw [markedTo, if_pos hb2]
   refine IH (i + 1) b' c'' _ _ _ (by omega) (by rw [e]; rfl) ⟨by omega, ?_⟩
   rw [e]
   exact hp.drop
  ·refine h_cond_f rfl rfl ?_; skip
   have e : markedTo B (i + 1) = markedTo B i := by rw [markedTo, if_neg (by rw [hb2]; decide)]
   refine IH (i + 1) b c' _ _ _ (by omega) (by rw [e]; rfl) ⟨by omega, ?_⟩
   rw [e]
   exact hp
 ·refine h_cond_f rfl rfl ?_; (repeat (refine R_ret ?_))
  obtain rfl : i = B.length := by omega
  exact ⟨b, c', rfl, hp⟩
theorem cone_h (x : NetA) (k : Nat) (w0 : World) (hX : NetR w0 x) (hok : NetOkP x.n) (hk : k < nds x.n) :
  Ret Try.prog 97 [x.v, .int .i64 (k : Int)] w0 (fun v w => ∃ b c, v = .slice b (coneL x.n k).length c ∧ Hp w0 w [rO 3 1 eI b c (coneL x.n k)]) := by
 have n4 := hok.nums.n2
 have hnd := hok.nodes
 refine enter Try.S97ok _ _ rfl rfl (by show _ ≤ _; simp only [List.length]; decide) (fun C => ?_); have hp := Hp.nil w0; refine h_run rfl ?_; skip; (first | refine H_box hp ?_ | refine H_alloc hp rfl ?_); intro w b2 hx hp; refine ops_run nopre rfl ?_; (repeat (refine H_ldB hp rfl rfl ?_))
 refine h_call rfl Try.func49 (by kernel_rfl) rfl (nodeCount_h x _ hok.b) ?_; rintro _ w ⟨rfl, hx⟩; have hp := hp.ext hx; refine ops_run nopre rfl ?_; skip
 rw [← n4]
 refine H_make hp eB false rfl rfl rfl rfl (s := 1) rfl (by decide) rfl (by unfold maxLen; omega) (by show 1 * _ ≤ _; omega) ?_; intro w b5 hx hp; refine ops_run nopre rfl ?_; (repeat (refine H_ldB hp rfl rfl ?_))
 refine h_call rfl Try.func93 (by kernel_rfl) rfl (markCone_h x hX hok _ _ k hk _ _ _ hp (by simp) (fun i hi _ h => by simp [List.getD_eq_getElem?_getD, List.getElem?_replicate] at h; split at h <;> simp at h)) ?_; rintro _ w ⟨B', rfl, hm, hp⟩; refine ops_run nopre rfl ?_; skip
 have hBl : B'.length = nds x.n := by rw [hm.len]; simp
 have e : B' = listB (nds x.n) (InCone x.n k) := listB_eq hBl fun j hj => by
  rw [hm.iff j (by simpa using hj)]
  simp [List.getD_eq_getElem?_getD, List.getElem?_replicate, hj]
 subst e
 refine h_call rfl Try.func142 (by kernel_rfl) rfl (marked_h _ _ _ (nds x.n) hBl _ hp.rd (by omega)) ?_; rintro _ w ⟨b, c, rfl, hq⟩; have hx := hq.x; have hp := hp.call1 hq; refine ops_run nopre rfl ?_; (repeat (refine R_ret ?_))
 exact ⟨b, c, rfl, hp.sub (by simp; exact .inl rfl)⟩
end Go.Proofs
end
section
namespace Go.Xw
set_option maxHeartbeats 1000000
end Go.Xw
namespace Go.Proofs
open Go.Xw
set_option maxRecDepth 100000
set_option maxHeartbeats 2000000
attribute [local irreducible] Holds elemAddr
end Go.Proofs
end
section
namespace Go.Xw
set_option maxHeartbeats 1000000
end Go.Xw
end
section
namespace Go.Xw
theorem pB_no {p : Prop} (h : ¬ p) : pB p = false := by simp [pB, h]
theorem pB_yes {p : Prop} (h : p) : pB p = true := by simp [pB, h]
end Go.Xw
namespace Go.Proofs
open Go.Xw
set_option maxRecDepth 100000
set_option maxHeartbeats 1000000
attribute [local irreducible] Holds elemAddr
end Go.Proofs
end
section
namespace Go.Xw
set_option maxHeartbeats 1000000
noncomputable def hcO (n : NetL) (k0 : Nat) (L : List Int) (h : Int) : List Int := @ite _ (hcP n k0 L h) (Classical.propDecidable _) (hcL n k0 L h) []
theorem hcO_yes {n : NetL} {k0 : Nat} {L : List Int} {h : Int} (hp : hcP n k0 L h) : hcO n k0 L h = hcL n k0 L h := by unfold hcO; rw [if_pos hp]
theorem hcO_no {n : NetL} {k0 : Nat} {L : List Int} {h : Int} (hp : ¬ hcP n k0 L h) : hcO n k0 L h = [] := by unfold hcO; rw [if_neg hp]
theorem hcB_yes {n : NetL} {k0 : Nat} {L : List Int} {h : Int} (hp : hcP n k0 L h) : hcB n k0 L h = true := pB_yes hp
theorem hcB_no {n : NetL} {k0 : Nat} {L : List Int} {h : Int} (hp : ¬ hcP n k0 L h) : hcB n k0 L h = false := pB_no hp
theorem hcL_to (n : NetL) (k0 : Nat) (L : List Int) (h : Int) : hcL n k0 L h = markedTo (listB (nds n) (hcN n k0 L h)) (nds n) := by
 unfold hcL markedL
 rw [listB_len]
end Go.Xw
namespace Go.Proofs
open Go.Xw
set_option maxRecDepth 100000
set_option maxHeartbeats 2000000
attribute [local irreducible] Holds elemAddr
end Go.Proofs
end
section
namespace Go.Xw
set_option maxHeartbeats 1000000
theorem lb_len (n : NetL) : (lblL n).length = nds n := lbTo_len n _
theorem lb_i64 {n : NetL} (hok : NetOkP n) (k : Nat) : 0 ≤ (lblL n).getD k default ∧ (lblL n).getD k default ≤ 301 := by
 have h := lb_b hok.nums n.ands.length (Nat.le_refl _) k
 have hs := hok.size
 unfold sizeOk at hs
 unfold lblL
 omega
def lcP (n : NetL) (k : Int) : Prop := NetOkP n ∧ (fst_ n : Int) ≤ k ∧ k < (nds n : Int)
noncomputable def lctF (n : NetL) (k : Int) : List Int := @ite _ (lcP n k) (Classical.propDecidable _) (hcO n k.toNat (lblL n) ((lblL n).getD k.toNat default)) []
theorem lct_yes {n : NetL} {k : Int} (hc : lcP n k) : lctF n k = hcO n k.toNat (lblL n) ((lblL n).getD k.toNat default) := by unfold lctF; rw [if_pos hc]
theorem lct_no {n : NetL} {k : Int} (hc : ¬ lcP n k) : lctF n k = [] := by unfold lctF; rw [if_neg hc]
def mxL (L : List Int) (X : List Int) : Nat → Int
 | 0 => 0
 | i + 1 => max (mxL L X i) (L.getD (X.getD i default).toNat default)
noncomputable def chtF (n : NetL) (X : List Int) : Int := @ite _ (NetOkP n ∧ ∀ i, i < X.length → 0 ≤ X.getD i default ∧ X.getD i default < (nds n : Int)) (Classical.propDecidable _) (mxL (lblL n) X X.length + 1) (-1)
theorem cht_yes {n : NetL} {X : List Int} (h : NetOkP n ∧ ∀ i, i < X.length → 0 ≤ X.getD i default ∧ X.getD i default < (nds n : Int)) : chtF n X = mxL (lblL n) X X.length + 1 := by unfold chtF; rw [if_pos h]
theorem cht_no {n : NetL} {X : List Int} (h : ¬ (NetOkP n ∧ ∀ i, i < X.length → 0 ≤ X.getD i default ∧ X.getD i default < (nds n : Int))) : chtF n X = -1 := by unfold chtF; rw [if_neg h]
theorem mxL_b {n : NetL} (hok : NetOkP n) (X : List Int) : ∀ i, 0 ≤ mxL (lblL n) X i ∧ mxL (lblL n) X i ≤ 301
 | 0 => by unfold mxL; omega
 | i + 1 => by
  have h1 := mxL_b hok X i
  have h2 := lb_i64 hok (X.getD i default).toNat
  unfold mxL
  omega
end Go.Xw
namespace Go.Proofs
open Go.Xw
set_option maxRecDepth 100000
set_option maxHeartbeats 2000000
attribute [local irreducible] Holds elemAddr
end Go.Proofs
end
