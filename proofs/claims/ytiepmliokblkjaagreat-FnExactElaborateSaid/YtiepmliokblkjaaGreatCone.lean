/- Texts that belong together; each under its stated conditions. -/
import Derived.Test.YtiepmliokblkjaaGreatGraph4
import Derived.Test.YtiepmliokblkjaaGreatAddLaw
set_option linter.all false
section
namespace Go.Proofs
open Go.Xw
set_option maxRecDepth 100000
set_option maxHeartbeats 1000000
attribute [local irreducible] Holds elemAddr
theorem markCone_h (x : NetA) {w0 : World} (hX : NetR w0 x) (hok : NetOkP x.n) (a : Option Addr) (c : Nat) : ∀ (k : Nat), k < nds x.n → ∀ (w : World) (L : List Res) (B : List Bool), Hp w0 w (rO 4 1 eB a c B :: L) → B.length = nds x.n → ClosedTo x.n B k →
  Ret Tryz.prog 129 [x.v, .int .i64 (k : Int), .slice a (nds x.n) c] w (fun v w' => ∃ B', v = .tuple ⟨[]⟩ ∧ Marked x.n B k B' ∧ Hp w0 w' (rO 4 1 eB a c B' :: L)) := by
 have hn := hok.nums
 obtain ⟨n1, n2, n3, n4, n5, n6⟩ := hn
 have hn := hok.nums
 have hnd := hok.nodes
 have hal : x.n.ands.length = x.ands.length := rfl
 intro k
 induction k using Nat.strongRecOn with
 | _ k ih =>
 intro hk w L B hp hBl hcl
 refine enter Tryz.S129ok _ _ rfl rfl (by show _ ≤ _; simp only [List.length]; decide) (fun C => ?_); refine h_run rfl ?_
 (first | refine H_box hp ?_ | refine H_alloc hp rfl ?_); intro w b3 hx hp; refine ops_run nopre rfl ?_; (repeat (refine H_ldEN hp rfl (by omega) rfl rfl ?_))
 refine h_cond_b (fun hseen => ?_) (fun hseen => ?_)
 ·refine h_cond_t rfl rfl ?_; (repeat (refine R_ret ?_))
  refine ⟨B, rfl, ⟨rfl, fun j hj => ⟨.inl, fun h => ?_⟩⟩, hp.drop⟩
  rcases h with h | h
  ·exact h
  ·exact hcl.cone hn h (Nat.le_refl _) hseen
 ·refine h_cond_f rfl rfl ?_; (repeat (first | (refine gLoad ?_; refine H_ldB hp rfl rfl ?_) | (refine gStore ?_; refine U_st0N hp rfl rfl rfl (by omega) (by decide) rfl rfl ?_; intro w hp; refine ops_run nopre rfl ?_)))
  refine h_call rfl Tryz.func70 (by kernel_rfl) rfl (firstAnd_h x _ hok.b) ?_; rintro _ w ⟨rfl, hx⟩; have hp := hp.ext hx; refine ops_run nopre rfl ?_; skip
  have hset : ∀ j, (B.set k true).getD j default = true ↔ j = k ∨ B.getD j default = true := fun j => bget_set (by omega)
  refine h_cond_dec (fun hge => ?_) (fun hge => ?_)
  ·have hi : k - fst_ x.n < x.ands.length := by omega
   have hki : fst_ x.n + (k - fst_ x.n) = k := by omega
   have hz : ((k : Int) - firstAndL x.n).toNat = k - fst_ x.n := by omega
   obtain ⟨q1, q2, q3, q4⟩ := hok.and_ hi
   have Q := hok.and_ hi
   rw [← hz] at Q
   obtain ⟨Q1, Q2, Q3, Q4⟩ := Q
   have ka := n5 _ hi
   have kb := n6 _ hi
   have eA : ((kA x.n (k - fst_ x.n) : Nat) : Int) = (x.ands.getD (k - fst_ x.n) default).1 / 2 := Int.toNat_of_nonneg (show 0 ≤ (x.ands.getD (k - fst_ x.n) default).1 / 2 by omega)
   have eB' : ((kB x.n (k - fst_ x.n) : Nat) : Int) = (x.ands.getD (k - fst_ x.n) default).2 / 2 := Int.toNat_of_nonneg (show 0 ≤ (x.ands.getD (k - fst_ x.n) default).2 / 2 by omega)
   have hcl1 : ClosedTo x.n (B.set k true) (kA x.n (k - fst_ x.n)) := fun j hj hjm hB => by
    rw [hset] at hB
    have h1 := hcl j hj (by omega) (hB.resolve_left (by omega))
    exact ⟨(hset _).2 (.inr h1.1), (hset _).2 (.inr h1.2)⟩
   refine h_cond_t rfl rfl ?_; skip
   refine D_draw hp (by kernel_rfl) (by kernel_rfl) rfl rfl ?_; intro w hx hp; have hs := hp; (repeat (refine gLoad ?_; first | refine D_ldB rfl rfl rfl ?_ | refine D_ldF rfl (by omega) (by omega) rfl rfl rfl ?_))
   refine gCall ?_
   rw [hz, ← eA]
   refine h_callq rfl Tryz.func129 (by kernel_rfl) rfl (ih (kA x.n (k - fst_ x.n)) (by omega) (by omega) _ _ _ hp.f1 (by simp; omega) hcl1) ?_; rintro _ w ⟨B1, rfl, hm1, hp⟩; refine ⟨fun hq => Bool.noConfusion (hq.symm.trans (by kernel_rfl : flagAt _ _ = false)), ?_⟩; refine D_ops rfl rfl ?_; skip
   have hp := hp.f1
   have hB1l : B1.length = nds x.n := by rw [hm1.len]; simp; omega
   have hcl2 : ClosedTo x.n B1 (kB x.n (k - fst_ x.n)) := by
    refine hm1.closed hn (by simp; omega) fun j hj hjm hB => ?_
    rw [hset] at hB
    have h1 := hcl j hj (by omega) (hB.resolve_left (by omega))
    exact ⟨(hset _).2 (.inr h1.1), (hset _).2 (.inr h1.2)⟩
   refine D_draw hp (by kernel_rfl) (by kernel_rfl) rfl rfl ?_; intro w hx hp; have hs := hp; (repeat (refine gLoad ?_; first | refine D_ldB rfl rfl rfl ?_ | refine D_ldF rfl (by omega) (by omega) rfl rfl rfl ?_))
   refine gCall ?_
   rw [hz, ← eB']
   refine h_callq rfl Tryz.func129 (by kernel_rfl) rfl (ih (kB x.n (k - fst_ x.n)) (by omega) (by omega) _ _ _ hp.f1 hB1l hcl2) ?_; rintro _ w ⟨B2, rfl, hm2, hp⟩; refine ⟨fun hq => Bool.noConfusion (hq.symm.trans (by kernel_rfl : flagAt _ _ = false)), ?_⟩; refine D_ops rfl rfl ?_; (repeat (refine R_ret ?_))
   refine ⟨B2, rfl, ⟨by rw [hm2.len, hm1.len]; simp, fun j hj => ?_⟩, hp.f1.drop⟩
   rw [hm2.iff j (by omega), hm1.iff j (by simp; omega), hset]
   have h3 := InCone.and_ (n := x.n) (b := j) hi
   rw [hki] at h3
   rw [h3]
   constructor
   ·rintro (((h | h) | h) | h)
    ·exact .inr (.inl h)
    ·exact .inl h
    ·exact .inr (.inr (.inl h))
    ·exact .inr (.inr (.inr h))
   ·rintro (h | h | h | h)
    ·exact .inl (.inl (.inr h))
    ·exact .inl (.inl (.inl h))
    ·exact .inl (.inr h)
    ·exact .inr h
  ·refine h_cond_f rfl rfl ?_; (repeat (refine R_ret ?_))
   refine ⟨B.set k true, rfl, ⟨by simp, fun j hj => ?_⟩, hp.drop⟩
   rw [hset]
   constructor
   ·rintro (rfl | h)
    ·exact .inr (.refl _)
    ·exact .inl h
   ·rintro (h | h)
    ·exact .inr h
    ·exact .inl (h.leaf (by omega))
theorem implReached_h (x : NetA) (w0 : World) (hX : NetR w0 x) (hok : NetOkP x.n) :
  Ret Tryz.prog 69 [x.v] w0 (fun v w => ∃ b c, v = .slice b (nds x.n) c ∧ Hp w0 w [rO 4 1 eB b c (reachedL x.n)]) := by
 have hn := hok.nums
 obtain ⟨n1, n2, n3, n4, n5, n6⟩ := hn
 have hn := hok.nums
 have hnd := hok.nodes
 have hrB := rootsB hok
 refine enter Tryz.S69ok _ _ rfl rfl (by show _ ≤ _; simp only [List.length]; decide) (fun C => ?_); have hp := Hp.nil w0; refine h_run rfl ?_; skip; (first | refine H_box hp ?_ | refine H_alloc hp rfl ?_); intro w b1 hx hp; refine ops_run nopre rfl ?_; (repeat (refine H_ldB hp rfl rfl ?_))
 refine h_call rfl Tryz.func128 (by kernel_rfl) rfl (nodeCount_h x _ hok.b) ?_; rintro _ w ⟨rfl, hx⟩; have hp := hp.ext hx; refine ops_run nopre rfl ?_; skip
 rw [← n4]
 refine H_make hp eB false rfl rfl rfl rfl (s := 1) rfl (by decide) rfl (by unfold maxLen; omega) (by show 1 * _ ≤ _; omega) ?_; intro w b3 hx hp; refine ops_run nopre rfl ?_; (repeat (refine H_ldB hp rfl rfl ?_))
 refine h_call rfl Tryz.func127 (by kernel_rfl) rfl (implRoots_ok x _ hp.net hok) ?_; rintro _ w ⟨b2, c2, rfl, hq⟩; have hx := hq.x; have hp := hp.call1 hq; refine ops_run nopre rfl ?_; skip
 refine h_loop2 [1, 3, 10, 11, 12] (fun (i : Nat) (_ : List Bool) => [(1, .pointer (some ⟨b1, 0, none⟩)), (3, .slice (some ⟨b3, 0, none⟩) (nds x.n) (nds x.n)), (10, .slice b2 (rootsL x.n).length c2), (11, .int .i64 (rootsL x.n).length), (12, .int .i64 (i : Int))])
  (fun i B w' => i ≤ (rootsL x.n).length ∧ (B.length = nds x.n ∧ ClosedTo x.n B (nds x.n) ∧ ∀ k, k < nds x.n → (B.getD k default = true ↔ ∃ j, j < i ∧ InCone x.n ((rootsL x.n).getD j default / 2).toNat k)) ∧ Hp w0 w' [rO 4 1 eB (some ⟨b3, 0, none⟩) (nds x.n) B, rO 3 1 eI b2 c2 (rootsL x.n), rB b1 33 x.cs]) (fun i _ => (rootsL x.n).length - i) 0 _ rfl ⟨by omega, ⟨by simp, ?_, ?_⟩, hp.f1⟩ ?_
 ·intro i hi _ h
  simp [List.getD_eq_getElem?_getD, List.getElem?_replicate] at h
  split at h <;> simp at h
 ·intro k hk
  simp [List.getD_eq_getElem?_getD, List.getElem?_replicate, hk]
 rintro i B w1 ⟨hi, ⟨hBl, hcl, hB⟩, hp⟩ IH C
 refine h_run rfl ?_; skip
 refine h_cond_dec (fun hlt => ?_) (fun hlt => ?_)
 ·have hlt' : i < (rootsL x.n).length := by omega
  have hr := rootsP hok hlt'
  have eR : ((((rootsL x.n).getD i default / 2).toNat : Nat) : Int) = (rootsL x.n).getD i default / 2 := Int.toNat_of_nonneg (by omega)
  refine h_cond_t rfl rfl ?_; (repeat (refine gLoad ?_; first | refine H_ldB hp rfl rfl ?_ | refine H_ldEN hp rfl (by omega) rfl rfl ?_))
  refine gCall ?_
  rw [← eR]
  refine h_call rfl Tryz.func129 (by kernel_rfl) rfl (markCone_h x hX hok _ _ ((rootsL x.n).getD i default / 2).toNat (by omega) _ _ _ hp hBl (fun j hj hjm => hcl j hj (by omega))) ?_; rintro _ w ⟨B', rfl, hm, hp⟩; refine ops_run nopre rfl ?_; skip
  refine IH (i + 1) B' _ _ _ (by omega) rfl ⟨by omega, ⟨by rw [hm.len]; exact hBl, hm.closed hn hBl hcl, fun k hk => ?_⟩, hp⟩
  rw [hm.iff k (by omega), hB k hk]
  constructor
  ·rintro (⟨j, h1, h2⟩ | h)
   ·exact ⟨j, by omega, h2⟩
   ·exact ⟨i, by omega, h⟩
  ·rintro ⟨j, h1, h2⟩
   by_cases hj : j < i
   ·exact .inl ⟨j, hj, h2⟩
   ·obtain rfl : j = i := by omega
    exact .inr h2
 ·refine h_cond_f rfl rfl ?_; (repeat (refine R_ret ?_))
  obtain rfl : i = (rootsL x.n).length := by omega
  refine ⟨some ⟨b3, 0, none⟩, nds x.n, rfl, ?_⟩
  rw [show B = reachedL x.n from listB_eq hBl hB] at hp
  exact hp.sub (by simp)
def MarkAll (n : NetL) (B B' : List Bool) : Prop := B'.length = nds n ∧ ∀ k, k < nds n → (B'.getD k default = true ↔ ∃ j, j < nds n ∧ B.getD j default = true ∧ InCone n j k)
theorem l08Mark_h (x : NetA) (a : Option Addr) (c : Nat) (B : List Bool) (w0 : World) (hX : NetR w0 x) (hok : NetOkP x.n) (hR : Rd w0 a 1 eB B) (hl : B.length = nds x.n) :
  Ret Tryz.prog 190 [x.v, .slice a (nds x.n) c] w0 (fun v w => ∃ b c' B', v = .slice b (nds x.n) c' ∧ MarkAll x.n B B' ∧ Hp w0 w [rO 4 1 eB b c' B']) := by
 have hn := hok.nums
 obtain ⟨n1, n2, n3, n4, n5, n6⟩ := hn
 have hn := hok.nums
 have hnd := hok.nodes
 have hal : x.n.ands.length = x.ands.length := rfl
 rw [← hl]
 refine enter Tryz.S190ok _ _ rfl rfl (by show _ ≤ _; simp only [List.length]; decide) (fun C => ?_); have hp := Hp.nil w0; refine h_run rfl ?_; skip; (first | refine H_box hp ?_ | refine H_alloc hp rfl ?_); intro w b2 hx hp; refine ops_run nopre rfl ?_; skip
 refine H_lit hp eB ([] : List Bool) rfl rfl rfl rfl (s := 1) rfl (by decide) (by infer_instance) (by rfl) (by rfl) (by rfl) (by decide) ?_; intro w b7 hx hp; refine ops_run nopre rfl ?_; skip
 refine U_append hp rfl rfl rfl rfl rfl rfl rfl (by decide) rfl (by first | omega | (simp only [List.length_append, List.length_cons, List.length_nil, List.length_take, List.length_drop, List.length_set, List.length_replicate, List.length_map]; omega)) rfl rfl ?_; intro b5 c5 w hp hnil; refine ops_run nopre rfl ?_; (repeat (refine H_ldB hp rfl rfl ?_))
 refine h_loop2 [2, 5, 6] (fun (i : Nat) (_ : List Bool) => [(2, .pointer (some ⟨b2, 0, none⟩)), (5, .slice b5 B.length c5), (6, .int .i64 ((i : Int) - 1))])
  (fun i B1 w' => i ≤ x.ands.length ∧ (B1.length = nds x.n ∧ (∀ k, k < nds x.n → B1.getD k default = true → ∃ j, j < nds x.n ∧ B.getD j default = true ∧ InCone x.n j k) ∧ (∀ k, B.getD k default = true → B1.getD k default = true) ∧
   ∀ j, i ≤ j → j < x.ands.length → B1.getD (fst_ x.n + j) default = true → B1.getD (kA x.n j) default = true ∧ B1.getD (kB x.n j) default = true) ∧ Hp w0 w' [rO 4 1 eB b5 c5 B1, rB b2 33 x.cs]) (fun i _ => i) x.ands.length B rfl
   ⟨by omega, ⟨hl, fun k hk h => ⟨k, hk, h, .refl _⟩, fun k h => h, fun j h1 h2 => by omega⟩, hp⟩ ?_
 rintro i B1 w1 ⟨hi, ⟨hBl, hsd, hsup, hcl⟩, hp⟩ IH C
 refine h_run rfl ?_; skip
 refine h_cond_dec (fun hlt => ?_) (fun hlt => ?_)
 ·have hlt' : i - 1 < x.ands.length := by omega
  have hz : ((i : Int) - 1).toNat = i - 1 := by omega
  have hz2 : (firstAndL x.n + ((i : Int) - 1)).toNat = fst_ x.n + (i - 1) := by omega
  have Q := hok.and_ hlt'
  rw [← hz] at Q
  obtain ⟨Q1, Q2, Q3, Q4⟩ := Q
  have ka := n5 _ hlt'
  have kb := n6 _ hlt'
  have eA : (kA x.n (i - 1)) = ((x.ands.getD ((i : Int) - 1).toNat default).1 / 2).toNat := by rw [hz]; rfl
  have eB' : (kB x.n (i - 1)) = ((x.ands.getD ((i : Int) - 1).toNat default).2 / 2).toNat := by rw [hz]; rfl
  refine h_cond_t rfl rfl ?_; (repeat (refine H_ldB hp rfl rfl ?_))
  refine h_call rfl Tryz.func137 (by kernel_rfl) rfl (l08First_h x _ hok.b) ?_; rintro _ w ⟨rfl, hx⟩; have hp := hp.ext hx; refine ops_run nopre rfl ?_; (repeat (refine H_ldE hp rfl (by omega) (by omega) rfl rfl ?_))
  refine h_cond_b (fun hm => ?_) (fun hm => ?_)
  ·rw [hz2] at hm
   have hl1 : (B1.set ((x.ands.getD ((i : Int) - 1).toNat default).1 / 2).toNat true).length = B1.length := by simp
   refine h_cond_t rfl rfl ?_; (repeat (first | (refine gLoad ?_; first | refine H_ldB hp rfl rfl ?_ | refine H_ldF hp rfl (by omega) (by omega) rfl rfl ?_) | (refine gStore ?_; refine U_st0 hp rfl rfl rfl (by omega) (by decide) rfl rfl ?_; intro w hp; refine ops_run nopre rfl ?_)))
   rw [← eA, ← eB'] at hp
   have s1 : ∀ k, ((B1.set (kA x.n (i - 1)) true).set (kB x.n (i - 1)) true).getD k default = true ↔ k = kB x.n (i - 1) ∨ k = kA x.n (i - 1) ∨ B1.getD k default = true := fun k => by
    rw [bget_set (by simp; omega), bget_set (by omega)]
   refine IH (i - 1) ((B1.set (kA x.n (i - 1)) true).set (kB x.n (i - 1)) true) _ _ _ (by omega) (by rw [show (((i - 1 : Nat) : Int)) - 1 = (i : Int) - 1 - 1 by omega]; rfl) ⟨by omega, ⟨by simp; exact hBl, fun k hk h => ?_, fun k h => (s1 k).2 (.inr (.inr (hsup k h))), fun j h1 h2 h => ?_⟩, hp⟩
   ·rw [s1] at h
    obtain ⟨j0, g1, g2, g3⟩ := hsd _ (by omega) hm
    rcases h with rfl | rfl | h
    ·exact ⟨j0, g1, g2, g3.trans (.right hlt' (.refl _))⟩
    ·exact ⟨j0, g1, g2, g3.trans (.left hlt' (.refl _))⟩
    ·exact hsd k hk h
   ·by_cases hj : j = i - 1
    ·subst hj
     exact ⟨(s1 _).2 (.inr (.inl rfl)), (s1 _).2 (.inl rfl)⟩
    ·have hkb : fst_ x.n + j ≠ kB x.n (i - 1) := by omega
     have hka : fst_ x.n + j ≠ kA x.n (i - 1) := by omega
     have h3 := hcl j (by omega) h2 ((((s1 _).1 h).resolve_left hkb).resolve_left hka)
     exact ⟨(s1 _).2 (.inr (.inr h3.1)), (s1 _).2 (.inr (.inr h3.2))⟩
  ·rw [hz2] at hm
   refine h_cond_f rfl rfl ?_; skip
   refine IH (i - 1) B1 _ _ _ (by omega) (by rw [show (((i - 1 : Nat) : Int)) - 1 = (i : Int) - 1 - 1 by omega]; rfl) ⟨by omega, ⟨hBl, hsd, hsup, fun j h1 h2 h => ?_⟩, hp⟩
   by_cases hj : j = i - 1
   ·subst hj
    rw [hm] at h; cases h
   ·exact hcl j (by omega) h2 h
 ·refine h_cond_f rfl rfl ?_; (repeat (refine R_ret ?_))
  obtain rfl : i = 0 := by omega
  refine ⟨b5, c5, B1, rfl, ⟨hBl, fun k hk => ⟨hsd k hk, ?_⟩⟩, hp.sub (by simp)⟩
  rintro ⟨j, hj, h1, h2⟩
  exact ClosedTo.cone (m := nds x.n) hn (fun i hi _ h => hcl i (by omega) hi h) h2 (by omega) (hsup j h1)
theorem specReached_h (x : NetA) (w0 : World) (hX : NetR w0 x) (hS : NetS x.n) (hW : NetW x.n) (hok : NetOkP x.n) :
  Ret Tryz.prog 176 [x.v] w0 (fun v w => ∃ b c, v = .slice b (nds x.n) c ∧ Hp w0 w [rO 4 1 eB b c (reachedL x.n)]) := by
 have hn := hok.nums
 obtain ⟨n1, n2, n3, n4, n5, n6⟩ := hn
 have hnd := hok.nodes
 have hrB := rootsB hok
 refine enter Tryz.S176ok _ _ rfl rfl (by show _ ≤ _; simp only [List.length]; decide) (fun C => ?_); have hp := Hp.nil w0; refine h_run rfl ?_; skip; (first | refine H_box hp ?_ | refine H_alloc hp rfl ?_); intro w b1 hx hp; refine ops_run nopre rfl ?_; (repeat (refine H_ldB hp rfl rfl ?_))
 refine h_call rfl Tryz.func77 (by kernel_rfl) rfl ((specNetOk_h x _ hp.net hS hW).tt (netOkB_yes hok)) ?_; rintro _ w ⟨rfl, hx⟩; have hp := hp.ext hx; refine ops_run nopre rfl ?_; skip
 refine h_cond_f rfl rfl ?_; (repeat (refine H_ldB hp rfl rfl ?_))
 refine h_call rfl Tryz.func82 (by kernel_rfl) rfl (specNodeCount_h x _) ?_; rintro _ w ⟨rfl, hx⟩; have hp := hp.ext hx; refine ops_run nopre rfl ?_; skip
 rw [show nodeCountL x.n = nodesL x.n from if_pos hok.size, ← n4]
 refine H_make hp eB false rfl rfl rfl rfl (s := 1) rfl (by decide) rfl (by unfold maxLen; omega) (by show 1 * _ ≤ _; omega) ?_; intro w b3 hx hp; refine ops_run nopre rfl ?_; (repeat (refine H_ldB hp rfl rfl ?_))
 refine h_call rfl Tryz.func136 (by kernel_rfl) rfl (specRoots_ok x _ hp.net hok) ?_; rintro _ w ⟨b2, c2, rfl, hq⟩; have hx := hq.x; have hp := hp.call1 hq; refine ops_run nopre rfl ?_; skip
 refine h_loop2 [1, 3, 4, 5] (fun (i : Nat) (_ : List Bool) => [(1, .pointer (some ⟨b1, 0, none⟩)), (3, .slice (some ⟨b3, 0, none⟩) (nds x.n) (nds x.n)), (4, .slice b2 (rootsL x.n).length c2), (5, .int .i64 (i : Int))])
  (fun i B w' => i ≤ (rootsL x.n).length ∧ (B.length = nds x.n ∧ ∀ k, k < nds x.n → (B.getD k default = true ↔ ∃ j, j < i ∧ ((rootsL x.n).getD j default / 2).toNat = k)) ∧ Hp w0 w' [rO 3 1 eI b2 c2 (rootsL x.n), rO 4 1 eB (some ⟨b3, 0, none⟩) (nds x.n) B, rB b1 33 x.cs]) (fun i _ => (rootsL x.n).length - i) 0 _ rfl ⟨by omega, ⟨by simp, ?_⟩, hp⟩ ?_
 ·intro k hk
  simp [List.getD_eq_getElem?_getD, List.getElem?_replicate, hk]
 rintro i B w1 ⟨hi, ⟨hBl, hB⟩, hp⟩ IH C
 refine h_run rfl ?_; skip
 refine h_cond_dec (fun hlt => ?_) (fun hlt => ?_)
 ·have hlt' : i < (rootsL x.n).length := by omega
  have hr := rootsP hok hlt'
  refine h_cond_t rfl rfl ?_; (repeat (first | (refine gLoad ?_; refine H_ldEN hp rfl (by omega) rfl rfl ?_) | (refine gStore ?_; refine U_st0 hp rfl rfl rfl (by omega) (by decide) rfl rfl ?_; intro w hp; refine ops_run nopre rfl ?_)))
  refine IH (i + 1) (B.set ((rootsL x.n).getD i default / 2).toNat true) _ _ _ (by omega) rfl ⟨by omega, ⟨by simp; exact hBl, fun k hk => ?_⟩, hp⟩
  rw [bget_set (by omega), hB k hk]
  constructor
  ·rintro (rfl | ⟨j, h1, h2⟩)
   ·exact ⟨i, by omega, rfl⟩
   ·exact ⟨j, by omega, h2⟩
  ·rintro ⟨j, h1, h2⟩
   by_cases hj : j < i
   ·exact .inr ⟨j, hj, h2⟩
   ·obtain rfl : j = i := by omega
    exact .inl h2.symm
 ·refine h_cond_f rfl rfl ?_; (repeat (refine H_ldB hp rfl rfl ?_))
  obtain rfl : i = (rootsL x.n).length := by omega
  refine h_call rfl Tryz.func190 (by kernel_rfl) rfl (l08Mark_h x _ _ B _ hp.net hok hp.rd hBl) ?_; rintro _ w ⟨b9, c9, B', rfl, hm, hq⟩; refine ops_run nopre rfl ?_; (repeat (refine R_ret ?_))
  have hp := hp.call1 hq
  skip
  refine ⟨b9, c9, rfl, ?_⟩
  rw [show B' = reachedL x.n from listB_eq hm.1 fun k hk => by
   rw [hm.2 k hk]
   constructor
   ·rintro ⟨j, h1, h2, h3⟩
    obtain ⟨i, h4, h5⟩ := (hB j h1).1 h2
    exact ⟨i, h4, by rw [h5]; exact h3⟩
   ·rintro ⟨i, h4, h5⟩
    have hr := rootsP hok h4
    exact ⟨_, by omega, (hB _ (by omega)).2 ⟨i, h4, rfl⟩, h5⟩] at hp
  exact hp.sub (by simp)
end Go.Proofs
end
section
namespace Go.Proofs
open Go.Xw
set_option maxRecDepth 100000
set_option maxHeartbeats 1000000
attribute [local irreducible] Holds elemAddr
theorem reachedL_len' (n : NetL) : (reachedL n).length = nds n := listB_len _ _
end Go.Proofs
end
