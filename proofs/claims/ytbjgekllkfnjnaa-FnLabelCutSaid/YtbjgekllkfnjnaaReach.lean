/- Texts that belong together; each under its stated conditions. -/
import Derived.Test.YtbjgekllkfnjnaaLblLaw
import Derived.Test.YtbjgekllkfnjnaaGraph4
import Derived.Test.YtbjgekllkfnjnaaMap
set_option linter.all false
section
namespace Go.Xw
set_option maxHeartbeats 1000000
theorem nodup_ltX : ∀ (N : Nat) (L : List Nat), L.Nodup → (∀ x, x ∈ L → x < N) → L.length ≤ N
 | 0, L, _, h => by
  cases L with
  | nil => exact Nat.le_refl _
  | cons x L => exact absurd (h x (by simp)) (by omega)
 | N + 1, L, hn, h => by
  by_cases hm : N ∈ L
  ·have h1 := nodup_ltX N (L.erase N) (hn.erase N) fun x hx => by
    have h2 := h x (List.mem_of_mem_erase hx)
    have h3 : x ≠ N := fun he => by subst he; exact (List.Nodup.not_mem_erase hn) hx
    omega
   rw [List.length_erase_of_mem hm] at h1
   omega
  ·have h1 := nodup_ltX N L hn fun x hx => by
    have h2 := h x hx
    have h3 : x ≠ N := fun he => hm (he ▸ hx)
    omega
   omega
end Go.Xw
end
section
namespace Go.Proofs
open Go.Xw
set_option maxRecDepth 100000
set_option maxHeartbeats 1000000
attribute [local irreducible] Holds elemAddr
theorem markCone_h (x : NetA) {w0 : World} (hX : NetR w0 x) (hok : NetOkP x.n) (a : Option Addr) (c : Nat) : ∀ (k : Nat), k < nds x.n → ∀ (w : World) (L : List Res) (B : List Bool), Hp w0 w (rO 4 1 eB a c B :: L) → B.length = nds x.n → ClosedTo x.n B k →
  Ret Try.prog 93 [x.v, .int .i64 (k : Int), .slice a (nds x.n) c] w (fun v w' => ∃ B', v = .tuple ⟨[]⟩ ∧ Marked x.n B k B' ∧ Hp w0 w' (rO 4 1 eB a c B' :: L)) := by
 have hn := hok.nums
 obtain ⟨n1, n2, n3, n4, n5, n6⟩ := hn
 have hn := hok.nums
 have hnd := hok.nodes
 have hal : x.n.ands.length = x.ands.length := rfl
 intro k
 induction k using Nat.strongRecOn with
 | _ k ih =>
 intro hk w L B hp hBl hcl
 refine enter Try.S93ok _ _ rfl rfl (by show _ ≤ _; simp only [List.length]; decide) (fun C => ?_); refine h_run rfl ?_
 (first | refine H_box hp ?_ | refine H_alloc hp rfl ?_); intro w b3 hx hp; refine ops_run nopre rfl ?_; (repeat (refine H_ldEN hp rfl (by omega) rfl rfl ?_))
 refine h_cond_b (fun hseen => ?_) (fun hseen => ?_)
 ·refine h_cond_t rfl rfl ?_; (repeat (refine R_ret ?_))
  refine ⟨B, rfl, ⟨rfl, fun j hj => ⟨.inl, fun h => ?_⟩⟩, hp.drop⟩
  rcases h with h | h
  ·exact h
  ·exact hcl.cone hn h (Nat.le_refl _) hseen
 ·refine h_cond_f rfl rfl ?_; (repeat (first | (refine gLoad ?_; refine H_ldB hp rfl rfl ?_) | (refine gStore ?_; refine U_st0N hp rfl rfl rfl (by omega) (by decide) rfl rfl ?_; intro w hp; refine ops_run nopre rfl ?_)))
  refine h_call rfl Try.func91 (by kernel_rfl) rfl (firstAnd_h x _ hok.b) ?_; rintro _ w ⟨rfl, hx⟩; have hp := hp.ext hx; refine ops_run nopre rfl ?_; skip
  have hset : ∀ j, (B.set k true).getD j default = true ↔ j = k ∨ B.getD j default = true := fun j => bget_set (by omega)
  refine h_cond_dec (fun hge => ?_) (fun hge => ?_)
  ·have hi : k - fst_ x.n < x.ands.length := by omega
   have hki : fst_ x.n + (k - fst_ x.n) = k := by omega
   have hz : ((k : Int) - firstAndL x.n).toNat = k - fst_ x.n := by omega
   obtain ⟨q1, q2, q3, q4⟩ := hok.and_ hi
   have Q := hok.and_ hi
   rw [← hz] at Q
   obtain ⟨Q1, Q2, Q3, Q4⟩ := Q
   have ka := n5 _ hi
   have kb := n6 _ hi
   have eA : ((kA x.n (k - fst_ x.n) : Nat) : Int) = (x.ands.getD (k - fst_ x.n) default).1 / 2 := Int.toNat_of_nonneg (show 0 ≤ (x.ands.getD (k - fst_ x.n) default).1 / 2 by omega)
   have eB' : ((kB x.n (k - fst_ x.n) : Nat) : Int) = (x.ands.getD (k - fst_ x.n) default).2 / 2 := Int.toNat_of_nonneg (show 0 ≤ (x.ands.getD (k - fst_ x.n) default).2 / 2 by omega)
   have hcl1 : ClosedTo x.n (B.set k true) (kA x.n (k - fst_ x.n)) := fun j hj hjm hB => by
    rw [hset] at hB
    have h1 := hcl j hj (by omega) (hB.resolve_left (by omega))
    exact ⟨(hset _).2 (.inr h1.1), (hset _).2 (.inr h1.2)⟩
   refine h_cond_t rfl rfl ?_; skip
   refine D_draw hp (by kernel_rfl) (by kernel_rfl) rfl rfl ?_; intro w hx hp; have hs := hp; (repeat (refine gLoad ?_; first | refine D_ldB rfl rfl rfl ?_ | refine D_ldF rfl (by omega) (by omega) rfl rfl rfl ?_))
   refine gCall ?_
   rw [hz, ← eA]
   refine h_callq rfl Try.func93 (by kernel_rfl) rfl (ih (kA x.n (k - fst_ x.n)) (by omega) (by omega) _ _ _ hp.f1 (by simp; omega) hcl1) ?_; rintro _ w ⟨B1, rfl, hm1, hp⟩; refine ⟨fun hq => Bool.noConfusion (hq.symm.trans (by kernel_rfl : flagAt _ _ = false)), ?_⟩; refine D_ops rfl rfl ?_; skip
   have hp := hp.f1
   have hB1l : B1.length = nds x.n := by rw [hm1.len]; simp; omega
   have hcl2 : ClosedTo x.n B1 (kB x.n (k - fst_ x.n)) := by
    refine hm1.closed hn (by simp; omega) fun j hj hjm hB => ?_
    rw [hset] at hB
    have h1 := hcl j hj (by omega) (hB.resolve_left (by omega))
    exact ⟨(hset _).2 (.inr h1.1), (hset _).2 (.inr h1.2)⟩
   refine D_draw hp (by kernel_rfl) (by kernel_rfl) rfl rfl ?_; intro w hx hp; have hs := hp; (repeat (refine gLoad ?_; first | refine D_ldB rfl rfl rfl ?_ | refine D_ldF rfl (by omega) (by omega) rfl rfl rfl ?_))
   refine gCall ?_
   rw [hz, ← eB']
   refine h_callq rfl Try.func93 (by kernel_rfl) rfl (ih (kB x.n (k - fst_ x.n)) (by omega) (by omega) _ _ _ hp.f1 hB1l hcl2) ?_; rintro _ w ⟨B2, rfl, hm2, hp⟩; refine ⟨fun hq => Bool.noConfusion (hq.symm.trans (by kernel_rfl : flagAt _ _ = false)), ?_⟩; refine D_ops rfl rfl ?_; (repeat (refine R_ret ?_))
   refine ⟨B2, rfl, ⟨by rw [hm2.len, hm1.len]; simp, fun j hj => ?_⟩, hp.f1.drop⟩
   rw [hm2.iff j (by omega), hm1.iff j (by simp; omega), hset]
   have h3 := InCone.and_ (n := x.n) (b := j) hi
   rw [hki] at h3
   rw [h3]
   constructor
   ·rintro (((h | h) | h) | h)
    ·exact .inr (.inl h)
    ·exact .inl h
    ·exact .inr (.inr (.inl h))
    ·exact .inr (.inr (.inr h))
   ·rintro (h | h | h | h)
    ·exact .inl (.inl (.inr h))
    ·exact .inl (.inl (.inl h))
    ·exact .inl (.inr h)
    ·exact .inr h
  ·refine h_cond_f rfl rfl ?_; (repeat (refine R_ret ?_))
   refine ⟨B.set k true, rfl, ⟨by simp, fun j hj => ?_⟩, hp.drop⟩
   rw [hset]
   constructor
   ·rintro (rfl | h)
    ·exact .inr (.refl _)
    ·exact .inl h
   ·rintro (h | h)
    ·exact .inr h
    ·exact .inl (h.leaf (by omega))
end Go.Proofs
end
