/- Texts that belong together; each under its stated conditions. -/
import Derived.Test.YtbjgekllkfnjnaaGraph4
import Derived.Test.YtbjgekllkfnjnaaReachLaw
import Derived.Test.YtbjgekllkfnjnaaLblSp
import Derived.Test.YtbjgekllkfnjnaaFam
set_option linter.all false
section
namespace Go.Proofs
open Go.Xw
set_option maxRecDepth 100000
set_option maxHeartbeats 1000000
attribute [local irreducible] Holds elemAddr
theorem markCone_h (x : NetA) {w0 : World} (hX : NetR w0 x) (hok : NetOkP x.n) (a : Option Addr) (c : Nat) : ∀ (k : Nat), k < nds x.n → ∀ (w : World) (L : List Res) (B : List Bool), Hp w0 w (rO 4 1 eB a c B :: L) → B.length = nds x.n → ClosedTo x.n B k →
  Ret Try.prog 93 [x.v, .int .i64 (k : Int), .slice a (nds x.n) c] w (fun v w' => ∃ B', v = .tuple ⟨[]⟩ ∧ Marked x.n B k B' ∧ Hp w0 w' (rO 4 1 eB a c B' :: L)) := by
 have hn := hok.nums
 obtain ⟨n1, n2, n3, n4, n5, n6⟩ := hn
 have hn := hok.nums
 have hnd := hok.nodes
 have hal : x.n.ands.length = x.ands.length := rfl
 intro k
 induction k using Nat.strongRecOn with
 | _ k ih =>
 intro hk w L B hp hBl hcl
 refine enter Try.S93ok _ _ rfl rfl (by show _ ≤ _; simp only [List.length]; decide) (fun C => ?_); refine h_run rfl ?_
 (first | refine H_box hp ?_ | refine H_alloc hp rfl ?_); intro w b3 hx hp; refine ops_run nopre rfl ?_; (repeat (refine H_ldEN hp rfl (by omega) rfl rfl ?_))
 refine h_cond_b (fun hseen => ?_) (fun hseen => ?_)
 ·refine h_cond_t rfl rfl ?_; (repeat (refine R_ret ?_))
  refine ⟨B, rfl, ⟨rfl, fun j hj => ⟨.inl, fun h => ?_⟩⟩, hp.drop⟩
  rcases h with h | h
  ·exact h
  ·exact hcl.cone hn h (Nat.le_refl _) hseen
 ·refine h_cond_f rfl rfl ?_; (repeat (first | (refine gLoad ?_; refine H_ldB hp rfl rfl ?_) | (refine gStore ?_; refine U_st0N hp rfl rfl rfl (by omega) (by decide) rfl rfl ?_; intro w hp; refine ops_run nopre rfl ?_)))
  refine h_call rfl Try.func91 (by kernel_rfl) rfl (firstAnd_h x _ hok.b) ?_; rintro _ w ⟨rfl, hx⟩; have hp := hp.ext hx; refine ops_run nopre rfl ?_; skip
  have hset : ∀ j, (B.set k true).getD j default = true ↔ j = k ∨ B.getD j default = true := fun j => bget_set (by omega)
  refine h_cond_dec (fun hge => ?_) (fun hge => ?_)
  ·have hi : k - fst_ x.n < x.ands.length := by omega
   have hki : fst_ x.n + (k - fst_ x.n) = k := by omega
   have hz : ((k : Int) - firstAndL x.n).toNat = k - fst_ x.n := by omega
   obtain ⟨q1, q2, q3, q4⟩ := hok.and_ hi
   have Q := hok.and_ hi
   rw [← hz] at Q
   obtain ⟨Q1, Q2, Q3, Q4⟩ := Q
   have ka := n5 _ hi
   have kb := n6 _ hi
   have eA : ((kA x.n (k - fst_ x.n) : Nat) : Int) = (x.ands.getD (k - fst_ x.n) default).1 / 2 := Int.toNat_of_nonneg (show 0 ≤ (x.ands.getD (k - fst_ x.n) default).1 / 2 by omega)
   have eB' : ((kB x.n (k - fst_ x.n) : Nat) : Int) = (x.ands.getD (k - fst_ x.n) default).2 / 2 := Int.toNat_of_nonneg (show 0 ≤ (x.ands.getD (k - fst_ x.n) default).2 / 2 by omega)
   have hcl1 : ClosedTo x.n (B.set k true) (kA x.n (k - fst_ x.n)) := fun j hj hjm hB => by
    rw [hset] at hB
    have h1 := hcl j hj (by omega) (hB.resolve_left (by omega))
    exact ⟨(hset _).2 (.inr h1.1), (hset _).2 (.inr h1.2)⟩
   refine h_cond_t rfl rfl ?_; skip
   refine D_draw hp (by kernel_rfl) (by kernel_rfl) rfl rfl ?_; intro w hx hp; have hs := hp; (repeat (refine gLoad ?_; first | refine D_ldB rfl rfl rfl ?_ | refine D_ldF rfl (by omega) (by omega) rfl rfl rfl ?_))
   refine gCall ?_
   rw [hz, ← eA]
   refine h_callq rfl Try.func93 (by kernel_rfl) rfl (ih (kA x.n (k - fst_ x.n)) (by omega) (by omega) _ _ _ hp.f1 (by simp; omega) hcl1) ?_; rintro _ w ⟨B1, rfl, hm1, hp⟩; refine ⟨fun hq => Bool.noConfusion (hq.symm.trans (by kernel_rfl : flagAt _ _ = false)), ?_⟩; refine D_ops rfl rfl ?_; skip
   have hp := hp.f1
   have hB1l : B1.length = nds x.n := by rw [hm1.len]; simp; omega
   have hcl2 : ClosedTo x.n B1 (kB x.n (k - fst_ x.n)) := by
    refine hm1.closed hn (by simp; omega) fun j hj hjm hB => ?_
    rw [hset] at hB
    have h1 := hcl j hj (by omega) (hB.resolve_left (by omega))
    exact ⟨(hset _).2 (.inr h1.1), (hset _).2 (.inr h1.2)⟩
   refine D_draw hp (by kernel_rfl) (by kernel_rfl) rfl rfl ?_; intro w hx hp; have hs := hp; (repeat (refine gLoad ?_; first | refine D_ldB rfl rfl rfl ?_ | refine D_ldF rfl (by omega) (by omega) rfl rfl rfl ?_))
   refine gCall ?_
   rw [hz, ← eB']
   refine h_callq rfl Try.func93 (by kernel_rfl) rfl (ih (kB x.n (k - fst_ x.n)) (by omega) (by omega) _ _ _ hp.f1 hB1l hcl2) ?_; rintro _ w ⟨B2, rfl, hm2, hp⟩; refine ⟨fun hq => Bool.noConfusion (hq.symm.trans (by kernel_rfl : flagAt _ _ = false)), ?_⟩; refine D_ops rfl rfl ?_; (repeat (refine R_ret ?_))
   refine ⟨B2, rfl, ⟨by rw [hm2.len, hm1.len]; simp, fun j hj => ?_⟩, hp.f1.drop⟩
   rw [hm2.iff j (by omega), hm1.iff j (by simp; omega), hset]
   have h3 := InCone.and_ (n := x.n) (b := j) hi
   rw [hki] at h3
   rw [h3]
   constructor
   ·rintro (((h | h) | h) | h)
    ·exact .inr (.inl h)
    ·exact .inl h
    ·exact .inr (.inr (.inl h))
    ·exact .inr (.inr (.inr h))
   ·rintro (h | h | h | h)
    ·exact .inl (.inl (.inr h))
    ·exact .inl (.inl (.inl h))
    ·exact .inl (.inr h)
    ·exact .inr h
  ·refine h_cond_f rfl rfl ?_; (repeat (refine R_ret ?_))
   refine ⟨B.set k true, rfl, ⟨by simp, fun j hj => ?_⟩, hp.drop⟩
   rw [hset]
   constructor
   ·rintro (rfl | h)
    ·exact .inr (.refl _)
    ·exact .inl h
   ·rintro (h | h)
    ·exact .inr h
    ·exact .inl (h.leaf (by omega))
end Go.Proofs
end
section
namespace Go.Proofs
open Go.Xw
set_option maxRecDepth 100000
set_option maxHeartbeats 1000000
attribute [local irreducible] Holds elemAddr
theorem coneL_len (n : NetL) (k : Nat) : (coneL n k).length ≤ nds n := by
 unfold coneL markedL
 have := markedTo_len (listB (nds n) (InCone n k)) (listB (nds n) (InCone n k)).length
 rw [listB_len] at this ⊢
 exact this
theorem marked_h (a : Option Addr) (c : Nat) (B : List Bool) (m : Nat) (hm : B.length = m) (w0 : World) (hR : Rd w0 a 1 eB B) (hb : m ≤ 1000000) :
  Ret Try.prog 142 [.slice a m c] w0 (fun v w => ∃ b c', v = .slice b (markedL B).length c' ∧ Hp w0 w [rO 3 1 eI b c' (markedL B)]) := by
 subst hm
 refine enter Try.S142ok _ _ rfl rfl (by show _ ≤ _; simp only [List.length]; decide) (fun C => ?_); have hp := Hp.nil w0; refine h_run rfl ?_; skip
 refine h_loop3 [3, 6, 7, 8] (fun (i : Nat) (b : Option Addr) (c' : Nat) => [(3, .slice b (markedTo B i).length c'), (6, .slice a B.length c), (7, .int .i64 B.length), (8, .int .i64 (i : Int))])
  (fun i b c' w' => i ≤ B.length ∧ Hp w0 w' [rO 3 1 eI b c' (markedTo B i)]) (fun i _ _ => B.length - i) 0 none 0 rfl ⟨by omega, hp.ownN (Ext.refl _) (Own.nil _ _ _ _ _)⟩ ?_
 rintro i b c' w1 ⟨hi, hp⟩ IH C
 have hml := markedTo_len B i
 refine h_run rfl ?_; skip
 refine h_cond_dec (fun hlt => ?_) (fun hlt => ?_)
 ·refine h_cond_t rfl rfl ?_; (repeat (refine H_ldEN hp rfl (by omega) rfl rfl ?_))
  refine h_cond_b (fun hb2 => ?_) (fun hb2 => ?_)
  ·refine h_cond_t rfl rfl ?_; (repeat (refine U_litI hp rfl rfl rfl rfl rfl rfl rfl rfl rfl rfl ?_; intro w _ hx hp; refine ops_run nopre rfl ?_))
   refine U_append hp rfl rfl rfl rfl rfl rfl rfl (by decide) rfl (by first | omega | (simp only [List.length_append, List.length_cons, List.length_nil, List.length_take, List.length_drop, List.length_set, List.length_replicate, List.length_map]; omega)) rfl rfl ?_; intro b' c'' w hp hnil; refine ops_run nopre rfl ?_; skip
   have e : markedTo B (i + 1) = markedTo B i ++ [(i : Int)] := by rw [markedTo, if_pos hb2]
   refine IH (i + 1) b' c'' _ _ _ (by omega) (by rw [e]; rfl) ⟨by omega, ?_⟩
   rw [e]
   exact hp.drop
  ·refine h_cond_f rfl rfl ?_; skip
   have e : markedTo B (i + 1) = markedTo B i := by rw [markedTo, if_neg (by rw [hb2]; decide)]
   refine IH (i + 1) b c' _ _ _ (by omega) (by rw [e]; rfl) ⟨by omega, ?_⟩
   rw [e]
   exact hp
 ·refine h_cond_f rfl rfl ?_; (repeat (refine R_ret ?_))
  obtain rfl : i = B.length := by omega
  exact ⟨b, c', rfl, hp⟩
theorem cone_h (x : NetA) (k : Nat) (w0 : World) (hX : NetR w0 x) (hok : NetOkP x.n) (hk : k < nds x.n) :
  Ret Try.prog 97 [x.v, .int .i64 (k : Int)] w0 (fun v w => ∃ b c, v = .slice b (coneL x.n k).length c ∧ Hp w0 w [rO 3 1 eI b c (coneL x.n k)]) := by
 have n4 := hok.nums.n2
 have hnd := hok.nodes
 refine enter Try.S97ok _ _ rfl rfl (by show _ ≤ _; simp only [List.length]; decide) (fun C => ?_); have hp := Hp.nil w0; refine h_run rfl ?_; skip; (first | refine H_box hp ?_ | refine H_alloc hp rfl ?_); intro w b2 hx hp; refine ops_run nopre rfl ?_; (repeat (refine H_ldB hp rfl rfl ?_))
 refine h_call rfl Try.func49 (by kernel_rfl) rfl (nodeCount_h x _ hok.b) ?_; rintro _ w ⟨rfl, hx⟩; have hp := hp.ext hx; refine ops_run nopre rfl ?_; skip
 rw [← n4]
 refine H_make hp eB false rfl rfl rfl rfl (s := 1) rfl (by decide) rfl (by unfold maxLen; omega) (by show 1 * _ ≤ _; omega) ?_; intro w b5 hx hp; refine ops_run nopre rfl ?_; (repeat (refine H_ldB hp rfl rfl ?_))
 refine h_call rfl Try.func93 (by kernel_rfl) rfl (markCone_h x hX hok _ _ k hk _ _ _ hp (by simp) (fun i hi _ h => by simp [List.getD_eq_getElem?_getD, List.getElem?_replicate] at h; split at h <;> simp at h)) ?_; rintro _ w ⟨B', rfl, hm, hp⟩; refine ops_run nopre rfl ?_; skip
 have hBl : B'.length = nds x.n := by rw [hm.len]; simp
 have e : B' = listB (nds x.n) (InCone x.n k) := listB_eq hBl fun j hj => by
  rw [hm.iff j (by simpa using hj)]
  simp [List.getD_eq_getElem?_getD, List.getElem?_replicate, hj]
 subst e
 refine h_call rfl Try.func142 (by kernel_rfl) rfl (marked_h _ _ _ (nds x.n) hBl _ hp.rd (by omega)) ?_; rintro _ w ⟨b, c, rfl, hq⟩; have hx := hq.x; have hp := hp.call1 hq; refine ops_run nopre rfl ?_; (repeat (refine R_ret ?_))
 exact ⟨b, c, rfl, hp.sub (by simp; exact .inl rfl)⟩
end Go.Proofs
end
section
namespace Go.Xw
set_option maxHeartbeats 1000000
theorem mem_getD {α : Type} [Inhabited α] {X : List α} {y : α} (h : y ∈ X) : ∃ i, i < X.length ∧ X.getD i default = y := by
 obtain ⟨i, hi, he⟩ := List.getElem_of_mem h
 exact ⟨i, hi, by rw [List.getD_eq_getElem?_getD, List.getElem?_eq_getElem hi]; exact he⟩
theorem SIn.zero (G : GrF) (f : Flo) : SIn G f (List.replicate (2 * G.N) (-2)) [] 0 := by
 have hB : ∀ z, z < 2 * G.N → (List.replicate (2 * G.N) (-2 : Int)).getD z default = -2 := fun z hz => by
  rw [List.getD_eq_getElem?_getD, List.getElem?_replicate, if_pos hz]; rfl
 refine ⟨by simp, Nat.le_refl _, fun j hj => ?_, fun i j hi => ?_, fun z hz hb => absurd (hB z hz) hb, fun j z hj => ?_, fun j z hj => ?_, fun j z hj => ?_⟩
 ·cases hj
 ·cases hi
 ·cases hj
 ·cases hj
 ·cases hj
end Go.Xw
namespace Go.Proofs
open Go.Xw
set_option maxRecDepth 100000
set_option maxHeartbeats 2000000
attribute [local irreducible] Holds elemAddr
end Go.Proofs
end
section
namespace Go.Xw
set_option maxHeartbeats 1000000
structure PushS (G : GrF) (f : Flo) (Q : List Int) (U : List Bool) (V : List Int) (j z : Nat) (par : Nat → Nat) (f' : Flo) : Prop where
 j0 : 0 < j
 jq : j ≤ Q.length
 at_ : Q.getD (j - 1) default = (z : Int)
 pin : ∃ seen, PIn G f f' (cv z) seen ∧ ∀ s, seen s → ∃ i, j - 1 ≤ i ∧ i < Q.length ∧ Q.getD i default = (vc s : Int)
 rep : RepM G U V par f' (if z % 2 = 0 then some (z / 2) else none)
theorem PushS.start {G : GrF} {f : Flo} (hf : FlP G f) {U : List Bool} {V : List Int} {par : Nat → Nat} (hr : RepM G U V par f none) {B Q : List Int} {q : Nat} (hS : SIn G f B Q q) {z : Nat} (hq : q < Q.length) (hz : Q.getD q default = (z : Int)) (h2 : z % 2 = 1) (hl : G.leaf (z / 2)) : PushS G f Q U V (q + 1) z par f where
 j0 := by omega
 jq := by omega
 at_ := hz
 pin := by
  obtain ⟨z', h3, _, _, h4⟩ := hS.qn q hq
  obtain rfl : z' = z := by omega
  refine ⟨_, by rw [show cv z' = (z' / 2, false) from by unfold cv; rw [decide_eq_false (by omega)]]; exact PIn.start hf hl h4, fun s hs => ⟨q, by omega, hq, ?_⟩⟩
  rw [hz, hs]
  show (z' : Int) = ((2 * (z' / 2) + 1 : Nat) : Int)
  omega
 rep := by rw [if_neg (by omega)]; exact hr
end Go.Xw
end
section
namespace Go.Xw
theorem pB_no {p : Prop} (h : ¬ p) : pB p = false := by simp [pB, h]
theorem pB_yes {p : Prop} (h : p) : pB p = true := by simp [pB, h]
end Go.Xw
namespace Go.Proofs
open Go.Xw
set_option maxRecDepth 100000
set_option maxHeartbeats 1000000
attribute [local irreducible] Holds elemAddr
end Go.Proofs
end
