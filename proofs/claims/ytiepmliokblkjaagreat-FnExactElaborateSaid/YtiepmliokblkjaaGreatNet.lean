/- The contracts of the laws' helpers on nets: sizes, copies, comparisons, marks; each under its stated conditions. -/
import Derived.Test.YtiepmliokblkjaaGreatBase
import Derived.Test.YtiepmliokblkjaaGreatNetR
set_option linter.all false
namespace Go.Proofs
open Go.Xw
set_option maxRecDepth 100000
set_option maxHeartbeats 1000000
attribute [local irreducible] Holds elemAddr
theorem toIntS_h (a : Option Addr) (c : Nat) (xs : List Int) (w0 : World) (ha : Rd w0 a 1 eI xs) (hl : xs.length < 1000000000) :
  Ret Tryz.prog 149 [.slice a xs.length c] w0 (fun v w => ∃ b, v = .slice (some ⟨b, 0, none⟩) xs.length xs.length ∧ Hp w0 w [rO 3 1 eI (some ⟨b, 0, none⟩) xs.length xs]) :=
 (toIntS_ok a c xs w0 ha.h hl).mono fun _ _ ⟨b, h1, h2, h3⟩ => ⟨b, h1, (Hp.nil w0).ownN h3 h2⟩
theorem eqIntS_h (a b : Option Addr) (ca cb : Nat) (xs ys : List Int) (w : World) (ha : Rd w a 1 eI xs) (hb : Rd w b 1 eI ys) (hl : xs.length < 1000000000) (hl2 : ys.length < 1000000000) :
  Ret Tryz.prog 44 [.slice a xs.length ca, .slice b ys.length cb] w (fun v w' => v = .bool (decide (xs = ys)) ∧ Ext w w') := eqIntS_ok a b ca cb xs ys w ha.h hb.h hl hl2
theorem markIntS_h {w0 w : World} {L : List Res} {a : Option Addr} {c : Nat} {xs : List Int} {f : Option Addr → Nat → List Int → List Res} (hp : Hp w0 w L) [hu : UpdO L a 3 1 eI c xs f] (k : Int) (hl : xs.length < 1000000000) (hk : 0 ≤ k) (hk2 : k < 1000000000000000) :
  Ret Tryz.prog 55 [.slice a xs.length c, .int .i64 k] w (fun v w' => v = .int .i64 (k + xs.length) ∧ Hp w0 w' (f a c (marks k xs.length))) := by
 obtain ⟨M, h1, h2⟩ := hu.h
 have hp1 := hp.perm h1
 exact (markIntS_ok a c xs k w hp1.own hl hk hk2).mono fun _ _ ⟨q1, q2, q3⟩ => ⟨q1, (hp1.ownS q2 q3).perm (h2 _ _ _).symm⟩
theorem heldIntS_h (a : Option Addr) (c n : Nat) (k : Int) (w : World) (ha : Rd w a 1 eI (marks k n)) (hl : n < 1000000000) (hk : 0 ≤ k) (hk2 : k < 1000000000000000) :
  Ret Tryz.prog 58 [.slice a n c, .int .i64 k] w (fun v w' => v = .int .i64 (k + n) ∧ Ext w w') := heldIntS_ok a c n k w (by have h := ha.h; rw [marks_len] at h; exact h) hl hk hk2
theorem inRange_h (x a b : Int) (w : World) : Ret Tryz.prog 124 [.int .i64 x, .int .i64 a, .int .i64 b] w (fun v w' => v = .bool (decide (a ≤ x ∧ x ≤ b)) ∧ Ext w w') :=
 (inRange_ok x a b w).mono fun _ _ ⟨h1, h2⟩ => ⟨h1, by rw [h2]; exact Ext.refl _⟩
theorem l01In_h (x a b : Int) (w : World) : Ret Tryz.prog 79 [.int .i64 x, .int .i64 a, .int .i64 b] w (fun v w' => v = .bool (decide (a ≤ x ∧ x ≤ b)) ∧ Ext w w') :=
 (l01In_ok x a b w).mono fun _ _ ⟨h1, h2⟩ => ⟨h1, by rw [h2]; exact Ext.refl _⟩
theorem szIntS_h (a : Option Addr) (c n : Nat) (left : Int) (w0 : World) (h0 : 0 ≤ left) (h1 : left ≤ 1048576) (hn : (n : Int) ≤ 9223372036854775807) :
  Ret Tryz.prog 134 [.slice a n c, .int .i64 left] w0 (fun v w' => v = .int .i64 (if left < n then -1 else left - n) ∧ Ext w0 w') := by
 refine enter Tryz.S134ok _ _ rfl rfl (by show _ ≤ _; simp only [List.length]; decide) (fun C => ?_); have hp := Hp.nil w0; refine h_run rfl ?_; skip
 refine h_cond_dec (fun h => ?_) (fun h => ?_)
 ·refine h_cond_t rfl rfl ?_; (repeat (refine R_ret ?_))
  exact ⟨by rw [if_pos (by omega)], hp.x⟩
 ·refine h_cond_f rfl rfl ?_; (repeat (refine R_ret ?_))
  exact ⟨by rw [if_neg (by omega)], hp.x⟩
theorem eqSeq_h (s t : SeqA) (w0 : World) (hs : Rd w0 s.ia 1 eI s.ins) (ht : Rd w0 t.ia 1 eI t.ins) (hl : s.ins.length < 1000000000) (hl2 : t.ins.length < 1000000000) :
  Ret Tryz.prog 110 [.agg ⟨eSq s⟩, .agg ⟨eSq t⟩] w0 (fun v w' => v = .bool (decide (s.s = t.s)) ∧ Ext w0 w') := by
 have key : s.s = t.s ↔ s.kind = t.kind ∧ s.init = t.init ∧ s.ins = t.ins := by simp [SeqA.s]
 refine enter Tryz.S110ok _ _ rfl rfl (by show _ ≤ _; simp only [List.length]; decide) (fun C => ?_); have hp := Hp.nil w0; refine h_run rfl ?_; skip; (first | refine H_box hp ?_ | refine H_alloc hp rfl ?_); intro w b1 hx hp; refine ops_run nopre rfl ?_; skip; (first | refine H_box hp ?_ | refine H_alloc hp rfl ?_); intro w b2 hx hp; refine ops_run nopre rfl ?_; (repeat (refine H_ldB hp rfl rfl ?_))
 refine h_cond_dec (fun h => ?_) (fun h => ?_)
 ·refine h_cond_t rfl rfl ?_; (repeat (refine R_ret ?_))
  exact ⟨by simp [key, h], hp.x⟩
 ·refine h_cond_f rfl rfl ?_; (repeat (refine H_ldB hp rfl rfl ?_))
  refine h_cond_dec (fun h2 => ?_) (fun h2 => ?_)
  ·refine h_cond_t rfl rfl ?_; (repeat (refine R_ret ?_))
   exact ⟨by simp [key, h2], hp.x⟩
  ·refine h_cond_f rfl rfl ?_; (repeat (refine H_ldB hp rfl rfl ?_))
   refine h_call rfl Tryz.func44 (by kernel_rfl) rfl (eqIntS_h _ _ _ _ s.ins t.ins _ hp.rd hp.rd hl hl2) ?_; rintro _ w ⟨rfl, hx⟩; have hp := hp.ext hx; refine ops_run nopre rfl ?_; skip
   refine h_cond_ndec (fun h3 => ?_) (fun h3 => ?_)
   ·refine h_cond_t rfl rfl ?_; (repeat (refine R_ret ?_))
    exact ⟨by simp [key, h3], hp.x⟩
   ·refine h_cond_f rfl rfl ?_; (repeat (refine R_ret ?_))
    have h := Decidable.not_not.1 h
    have h2 := Decidable.not_not.1 h2
    exact ⟨by simp [key, h, h2, h3], hp.x⟩
theorem eqAnd_h (p q : Int × Int) (w0 : World) :
  Ret Tryz.prog 111 [.agg ⟨eII p⟩, .agg ⟨eII q⟩] w0 (fun v w' => v = .bool (decide (p = q)) ∧ Ext w0 w') := by
 have key : p = q ↔ p.1 = q.1 ∧ p.2 = q.2 := Prod.ext_iff
 refine enter Tryz.S111ok _ _ rfl rfl (by show _ ≤ _; simp only [List.length]; decide) (fun C => ?_); have hp := Hp.nil w0; refine h_run rfl ?_; skip; (first | refine H_box hp ?_ | refine H_alloc hp rfl ?_); intro w b1 hx hp; refine ops_run nopre rfl ?_; skip; (first | refine H_box hp ?_ | refine H_alloc hp rfl ?_); intro w b2 hx hp; refine ops_run nopre rfl ?_; (repeat (refine H_ldB hp rfl rfl ?_))
 refine h_cond_dec (fun h => ?_) (fun h => ?_)
 ·refine h_cond_t rfl rfl ?_; (repeat (refine R_ret ?_))
  exact ⟨by simp [key, h], hp.x⟩
 ·refine h_cond_f rfl rfl ?_; (repeat (refine H_ldB hp rfl rfl ?_))
  refine h_cond_dec (fun h2 => ?_) (fun h2 => ?_)
  ·refine h_cond_t rfl rfl ?_; (repeat (refine R_ret ?_))
   exact ⟨by simp [key, h2], hp.x⟩
  ·refine h_cond_f rfl rfl ?_; (repeat (refine R_ret ?_))
   exact ⟨by simp [key, Decidable.not_not.1 h, Decidable.not_not.1 h2], hp.x⟩
theorem list_eq {α : Type} [Inhabited α] {xs ys : List α} (hl : xs.length = ys.length) (h : ∀ i, i < xs.length → xs.getD i default = ys.getD i default) : xs = ys :=
 List.ext_getElem hl fun j h1 h2 => by
  have := h j (by omega)
  simpa [List.getD_eq_getElem?_getD, h1, h2] using this
theorem eqAndS_h (a b : Option Addr) (ca cb : Nat) (xs ys : List (Int × Int)) (w0 : World) (ha : Rd w0 a 2 eII xs) (hb : Rd w0 b 2 eII ys) (hl : xs.length < 1000000000) (hl2 : ys.length < 1000000000) :
  Ret Tryz.prog 43 [.slice a xs.length ca, .slice b ys.length cb] w0 (fun v w' => v = .bool (decide (xs = ys)) ∧ Ext w0 w') := by
 refine enter Tryz.S43ok _ _ rfl rfl (by show _ ≤ _; simp only [List.length]; decide) (fun C => ?_); have hp := Hp.nil w0; refine h_run rfl ?_; skip
 refine h_cond_dec (fun h => ?_) (fun h => ?_)
 ·refine h_cond_t rfl rfl ?_; (repeat (refine R_ret ?_))
  have hne : xs ≠ ys := fun e => h (by rw [e])
  exact ⟨by simp [hne], hp.x⟩
 ·refine h_cond_f rfl rfl ?_; skip
  have hlen : xs.length = ys.length := by omega
  refine h_loop [0, 1, 5] (fun i : Nat => [(0, .slice a xs.length ca), (1, .slice b ys.length cb), (5, .int .i64 (i : Int))])
   (fun i w' => i ≤ xs.length ∧ (∀ j, j < i → xs.getD j default = ys.getD j default) ∧ Hp w0 w' []) (fun i => xs.length - i) 0 rfl ⟨by omega, fun j hj => by omega, hp⟩ ?_
  rintro i w1 ⟨hi, hall, hp⟩ IH C
  refine h_run rfl ?_; skip
  refine h_cond_dec (fun hlt => ?_) (fun hlt => ?_)
  ·refine h_cond_t rfl rfl ?_; skip
   refine D_draw hp (by kernel_rfl) (by kernel_rfl) rfl rfl ?_; intro w hx hp; have hs := hp; (repeat (refine D_ldEN rfl (by omega) rfl rfl rfl ?_))
   refine h_callq rfl Tryz.func111 (by kernel_rfl) rfl (eqAnd_h (xs.getD i default) (ys.getD i default) _) ?_; rintro _ w ⟨rfl, hx⟩; have hp := hp.ext hx; have hs := hs.ext hx; refine ⟨fun _ => hs, ?_⟩; refine D_ops rfl rfl ?_; skip
   refine h_cond_ndec (fun hne => ?_) (fun hne => ?_)
   ·refine h_cond_t rfl rfl ?_; (repeat (refine R_ret ?_))
    have : xs ≠ ys := fun e => hne (by subst e; rfl)
    exact ⟨by simp [this], hp.x⟩
   ·refine h_cond_f rfl rfl ?_; skip
    refine IH (i + 1) _ _ _ (by omega) rfl ⟨by omega, fun j hj => ?_, hp⟩
    by_cases hj2 : j < i
    ·exact hall j hj2
    ·obtain rfl : j = i := by omega
     exact hne
  ·refine h_cond_f rfl rfl ?_; (repeat (refine R_ret ?_))
   have : xs = ys := list_eq hlen fun j h1 => hall j (by omega)
   exact ⟨by simp [this], hp.x⟩
theorem eqSeqS_h (a b : Option Addr) (ca cb : Nat) (xs ys : List SeqA) (w0 : World) (ha : SeqsR w0 a xs) (hb : SeqsR w0 b ys) (hl : xs.length < 1000000000) (hl2 : ys.length < 1000000000)
  (hi1 : ∀ i, i < xs.length → (xs.getD i default).ins.length < 1000000000) (hi2 : ∀ i, i < ys.length → (ys.getD i default).ins.length < 1000000000) :
  Ret Tryz.prog 42 [.slice a xs.length ca, .slice b ys.length cb] w0 (fun v w' => v = .bool (decide (seqsOf xs = seqsOf ys)) ∧ Ext w0 w') := by
 have hr1 := ha.row
 have hr2 := hb.row
 refine enter Tryz.S42ok _ _ rfl rfl (by show _ ≤ _; simp only [List.length]; decide) (fun C => ?_); have hp := Hp.nil w0; refine h_run rfl ?_; skip
 refine h_cond_dec (fun h => ?_) (fun h => ?_)
 ·refine h_cond_t rfl rfl ?_; (repeat (refine R_ret ?_))
  have hne : seqsOf xs ≠ seqsOf ys := fun e => h (by have e := congrArg List.length e; rw [seqsOf_len, seqsOf_len] at e; rw [e])
  exact ⟨by simp [hne], hp.x⟩
 ·refine h_cond_f rfl rfl ?_; skip
  have hlen : xs.length = ys.length := by omega
  refine h_loop [0, 1, 5] (fun i : Nat => [(0, .slice a xs.length ca), (1, .slice b ys.length cb), (5, .int .i64 (i : Int))])
   (fun i w' => i ≤ xs.length ∧ (∀ j, j < i → (xs.getD j default).s = (ys.getD j default).s) ∧ Hp w0 w' []) (fun i => xs.length - i) 0 rfl ⟨by omega, fun j hj => by omega, hp⟩ ?_
  rintro i w1 ⟨hi, hall, hp⟩ IH C
  refine h_run rfl ?_; skip
  refine h_cond_dec (fun hlt => ?_) (fun hlt => ?_)
  ·have hlt' : i < xs.length := by omega
   refine h_cond_t rfl rfl ?_; skip
   refine D_draw hp (by kernel_rfl) (by kernel_rfl) rfl rfl ?_; intro w hx hp; have hs := hp; (repeat (refine D_ldEN rfl (by omega) rfl rfl rfl ?_))
   refine h_callq rfl Tryz.func110 (by kernel_rfl) rfl (eqSeq_h (xs.getD i default) (ys.getD i default) _ ((ha.at_ hlt').ext hp.x) ((hb.at_ (by omega)).ext hp.x) (hi1 i hlt') (hi2 i (by omega))) ?_; rintro _ w ⟨rfl, hx⟩; have hp := hp.ext hx; have hs := hs.ext hx; refine ⟨fun _ => hs, ?_⟩; refine D_ops rfl rfl ?_; skip
   refine h_cond_ndec (fun hne => ?_) (fun hne => ?_)
   ·refine h_cond_t rfl rfl ?_; (repeat (refine R_ret ?_))
    have : seqsOf xs ≠ seqsOf ys := fun e => hne (by rw [← seqsOf_get, ← seqsOf_get, e])
    exact ⟨by simp [this], hp.x⟩
   ·refine h_cond_f rfl rfl ?_; skip
    refine IH (i + 1) _ _ _ (by omega) rfl ⟨by omega, fun j hj => ?_, hp⟩
    by_cases hj2 : j < i
    ·exact hall j hj2
    ·obtain rfl : j = i := by omega
     exact hne
  ·refine h_cond_f rfl rfl ?_; (repeat (refine R_ret ?_))
   have : seqsOf xs = seqsOf ys := list_eq (by simp [seqsOf_len, hlen]) fun j h1 => by
    rw [seqsOf_get, seqsOf_get]
    rw [seqsOf_len] at h1
    exact hall j (by omega)
   exact ⟨by simp [this], hp.x⟩
theorem eqNet_h (x y : NetA) (w0 : World) (hx : NetR w0 x) (hy : NetR w0 y) (sx : NetS x.n) (sy : NetS y.n) :
  Ret Tryz.prog 9 [x.v, y.v] w0 (fun v w' => v = .bool (decide (x.n = y.n)) ∧ Ext w0 w') := by
 have key : x.n = y.n ↔ x.inputs = y.inputs ∧ seqsOf x.seqs = seqsOf y.seqs ∧ x.ands = y.ands ∧ x.outs = y.outs := by simp [NetA.n]
 obtain ⟨s1, s2, s3, s4⟩ := sx
 rw [x.slen] at s1 s2
 simp only [x.sins] at s2
 have s3 : x.ands.length ≤ 1048576 := s3
 have s4 : x.outs.length ≤ 1048576 := s4
 obtain ⟨t1, t2, t3, t4⟩ := sy
 rw [y.slen] at t1 t2
 simp only [y.sins] at t2
 have t3 : y.ands.length ≤ 1048576 := t3
 have t4 : y.outs.length ≤ 1048576 := t4
 refine enter Tryz.S9ok _ _ rfl rfl (by show _ ≤ _; simp only [List.length]; decide) (fun C => ?_); have hp := Hp.nil w0; refine h_run rfl ?_; skip; (first | refine H_box hp ?_ | refine H_alloc hp rfl ?_); intro w b1 hx hp; refine ops_run nopre rfl ?_; skip; (first | refine H_box hp ?_ | refine H_alloc hp rfl ?_); intro w b2 hx hp; refine ops_run nopre rfl ?_; (repeat (refine H_ldB hp rfl rfl ?_))
 refine h_cond_dec (fun h => ?_) (fun h => ?_)
 ·refine h_cond_t rfl rfl ?_; (repeat (refine R_ret ?_))
  exact ⟨by simp [key, h], hp.x⟩
 ·refine h_cond_f rfl rfl ?_; (repeat (refine H_ldB hp rfl rfl ?_))
  have h := Decidable.not_not.1 h
  refine h_call rfl Tryz.func42 (by kernel_rfl) rfl (eqSeqS_h _ _ _ _ x.seqs y.seqs _ hp.net.seqs hp.net.seqs (by omega) (by omega) (fun i hi => by have := s2 i hi; omega) (fun i hi => by have := t2 i hi; omega)) ?_; rintro _ w ⟨rfl, hx⟩; have hp := hp.ext hx; refine ops_run nopre rfl ?_; skip
  refine h_cond_ndec (fun h2 => ?_) (fun h2 => ?_)
  ·refine h_cond_t rfl rfl ?_; (repeat (refine R_ret ?_))
   exact ⟨by simp [key, h2], hp.x⟩
  ·refine h_cond_f rfl rfl ?_; (repeat (refine H_ldB hp rfl rfl ?_))
   refine h_call rfl Tryz.func43 (by kernel_rfl) rfl (eqAndS_h _ _ _ _ x.ands y.ands _ hp.rd hp.rd (by omega) (by omega)) ?_; rintro _ w ⟨rfl, hx⟩; have hp := hp.ext hx; refine ops_run nopre rfl ?_; skip
   refine h_cond_ndec (fun h3 => ?_) (fun h3 => ?_)
   ·refine h_cond_t rfl rfl ?_; (repeat (refine R_ret ?_))
    exact ⟨by simp [key, h3], hp.x⟩
   ·refine h_cond_f rfl rfl ?_; (repeat (refine H_ldB hp rfl rfl ?_))
    refine h_call rfl Tryz.func44 (by kernel_rfl) rfl (eqIntS_h _ _ _ _ x.outs y.outs _ hp.rd hp.rd (by omega) (by omega)) ?_; rintro _ w ⟨rfl, hx⟩; have hp := hp.ext hx; refine ops_run nopre rfl ?_; skip
    refine h_cond_ndec (fun h4 => ?_) (fun h4 => ?_)
    ·refine h_cond_t rfl rfl ?_; (repeat (refine R_ret ?_))
     exact ⟨by simp [key, h4], hp.x⟩
    ·refine h_cond_f rfl rfl ?_; (repeat (refine R_ret ?_))
     exact ⟨by simp [key, h, h2, h3, h4], hp.x⟩
theorem markAndS_h {w0 w : World} {L : List Res} {a : Option Addr} {c : Nat} {X : List (Int × Int)} (hp : Hp w0 w (rO 120 2 eII a c X :: L)) (k : Int) (hl : X.length < 1000000000) (hk : 0 ≤ k) (hk2 : k < 100000000000000) :
  Ret Tryz.prog 54 [.slice a X.length c, .int .i64 k] w (fun v w' => v = .int .i64 (k + 2 * X.length) ∧ Hp w0 w' (rO 120 2 eII a c ((List.range X.length).map fun (i : Nat) => (k + 2 * (i : Int), k + 2 * (i : Int) + 1)) :: L)) := by
 refine enter Tryz.S54ok _ _ rfl rfl (by show _ ≤ _; simp only [List.length]; decide) (fun C => ?_); refine h_run rfl ?_
 refine h_loop [0, 1, 5] (fun i : Nat => [(0, .slice a X.length c), (1, .int .i64 (k + 2 * (i : Int))), (5, .int .i64 (i : Int))])
  (fun i w' => i ≤ X.length ∧ Hp w0 w' (rO 120 2 eII a c (upTo (fun (i : Nat) => (k + 2 * (i : Int), k + 2 * (i : Int) + 1)) i X) :: L)) (fun i => X.length - i) 0 (by rw [show k + 2 * ((0 : Nat) : Int) = k by omega]; rfl) ⟨by omega, by rw [upTo_zero]; exact hp⟩ ?_
 rintro i w1 ⟨hi, hp⟩ IH C
 have hlen := upTo_len (f := fun (i : Nat) => (k + 2 * (i : Int), k + 2 * (i : Int) + 1)) hi
 refine h_run rfl ?_; skip
 refine h_cond_dec (fun hlt => ?_) (fun hlt => ?_)
 ·have hlt' : i < X.length := by omega
  have hne : a ≠ none := nn_of hp (by omega)
  refine h_cond_t rfl rfl ?_; skip
  refine U_st1N hp (k + 2 * (i : Int), (X.getD i default).2) rfl rfl rfl (by omega) (by decide) (by rw [upTo_at (Nat.le_refl _) hi]; rfl) rfl ?_; intro w hp; refine ops_run nopre rfl ?_; skip
  have hlen2 : ((upTo (fun (i : Nat) => (k + 2 * (i : Int), k + 2 * (i : Int) + 1)) i X).set i (k + 2 * (i : Int), (X.getD i default).2)).length = X.length := by rw [List.length_set, hlen]
  refine U_st1N hp (k + 2 * (i : Int), k + 2 * (i : Int) + 1) rfl rfl rfl (by rw [hlen2]; omega) (by decide) (by rw [List.getD_eq_getElem?_getD, List.getElem?_set_self (by omega)]; rfl) rfl ?_; intro w hp; refine ops_run nopre rfl ?_; skip
  refine IH (i + 1) _ _ _ (by omega) (by rw [show k + 2 * ((i + 1 : Nat) : Int) = k + 2 * (i : Int) + 1 + 1 by omega]; rfl) ⟨by omega, ?_⟩
  rw [List.set_set] at hp
  rw [← upTo_set (f := fun (i : Nat) => (k + 2 * (i : Int), k + 2 * (i : Int) + 1)) hlt']
  exact hp
 ·refine h_cond_f rfl rfl ?_; (repeat (refine R_ret ?_))
  obtain rfl : i = X.length := by omega
  rw [upTo_all] at hp
  exact ⟨rfl, hp⟩
def kSq (k : Int) (R : List SeqA) : Nat → Int
 | 0 => k
 | i + 1 => kSq k R i + 1 + 1 + (R.getD i default).ins.length
def mSq (k : Int) (R : List SeqA) (i : Nat) : SeqA := ⟨kSq k R i, kSq k R i + 1, marks (kSq k R i + 1 + 1) (R.getD i default).ins.length, (R.getD i default).ia, (R.getD i default).ic⟩
theorem kSq_le {k : Int} {R : List SeqA} (h : ∀ i, i < R.length → (R.getD i default).ins.length ≤ 1048576) : ∀ i : Nat, i ≤ R.length → k ≤ kSq k R i ∧ kSq k R i ≤ k + 1048578 * i
 | 0, _ => by simp [kSq]
 | i + 1, hi => by
  have h1 := kSq_le (k := k) h i (by omega)
  have h2 := h i (by omega)
  simp only [kSq]
  omega
theorem markSeqS_h {w0 w : World} {L : List Res} {a : Option Addr} {c : Nat} {R : List SeqA} (hp : Hp w0 w (rSq a c R :: L)) (k : Int) (hl : R.length ≤ 1048576) (hl2 : ∀ i, i < R.length → (R.getD i default).ins.length ≤ 1048576) (hk : 0 ≤ k) (hk2 : k < 10000000000000) :
  Ret Tryz.prog 53 [.slice a R.length c, .int .i64 k] w (fun v w' => v = .int .i64 (kSq k R R.length) ∧ Hp w0 w' (rSq a c ((List.range R.length).map (mSq k R)) :: L)) := by
 refine enter Tryz.S53ok _ _ rfl rfl (by show _ ≤ _; simp only [List.length]; decide) (fun C => ?_); refine h_run rfl ?_
 refine h_loop [0, 1, 5] (fun i : Nat => [(0, .slice a R.length c), (1, .int .i64 (kSq k R i)), (5, .int .i64 (i : Int))])
  (fun i w' => i ≤ R.length ∧ Hp w0 w' (rO 68 3 eSq a c (upTo (mSq k R) i R) :: rIns (upTo (mSq k R) i R) :: L)) (fun i => R.length - i) 0 rfl ⟨by omega, by rw [upTo_zero]; exact rSq_open hp⟩ ?_
 rintro i w1 ⟨hi, hp⟩ IH C
 have hlen := upTo_len (f := mSq k R) hi
 have hkb := kSq_le (k := k) hl2 i hi
 refine h_run rfl ?_; skip
 refine h_cond_dec (fun hlt => ?_) (fun hlt => ?_)
 ·have hlt' : i < R.length := by omega
  have hat := upTo_at (f := mSq k R) (Nat.le_refl i) hi
  have hne : a ≠ none := nn_of hp (by omega)
  obtain ⟨Q, hq, hback⟩ := rIns_at hp.f1 (i := i) (by omega)
  rw [hat] at hq
  have hp := hq.f2
  have hl3 := hl2 i hlt'
  refine h_cond_t rfl rfl ?_; skip
  refine U_st1N hp ({ R.getD i default with kind := kSq k R i }) rfl rfl rfl (by omega) (by decide) (by rw [hat]; rfl) rfl ?_; intro w hp; refine ops_run nopre rfl ?_; skip
  have hlen2 : ((upTo (mSq k R) i R).set i { R.getD i default with kind := kSq k R i }).length = R.length := by rw [List.length_set, hlen]
  have hat2 : ((upTo (mSq k R) i R).set i { R.getD i default with kind := kSq k R i }).getD i default = { R.getD i default with kind := kSq k R i } := by rw [List.getD_eq_getElem?_getD, List.getElem?_set_self (by omega)]; rfl
  refine U_st1N hp ({ R.getD i default with kind := kSq k R i, init := kSq k R i + 1 }) rfl rfl rfl (by omega) (by decide) (by rw [hat2]; rfl) rfl ?_; intro w hp; refine ops_run nopre rfl ?_; skip
  rw [List.set_set] at hp
  have hlen3 : ((upTo (mSq k R) i R).set i { R.getD i default with kind := kSq k R i, init := kSq k R i + 1 }).length = R.length := by rw [List.length_set, hlen]
  have hat3 : ((upTo (mSq k R) i R).set i { R.getD i default with kind := kSq k R i, init := kSq k R i + 1 }).getD i default = { R.getD i default with kind := kSq k R i, init := kSq k R i + 1 } := by rw [List.getD_eq_getElem?_getD, List.getElem?_set_self (by omega)]; rfl
  refine H_ldFN hp rfl (by omega) (by rw [hat3]; rfl) rfl ?_; skip
  refine h_call rfl Tryz.func55 (by kernel_rfl) rfl (markIntS_h (xs := (R.getD i default).ins) hp (kSq k R i + 1 + 1) (by omega) (by omega) (by omega)) ?_; rintro _ w ⟨rfl, hp⟩; refine ops_run nopre rfl ?_; skip
  have hp := (hback _ _ (mSq k R i) hp.b2).f1
  refine IH (i + 1) _ _ _ (by omega) rfl ⟨by omega, ?_⟩
  rw [← upTo_set (f := mSq k R) hlt']
  exact rO_set hp (by show _ = [_, _, Value.slice _ (marks _ _).length _]; rw [marks_len]; rfl)
 ·refine h_cond_f rfl rfl ?_; (repeat (refine R_ret ?_))
  obtain rfl : i = R.length := by omega
  rw [upTo_all] at hp
  exact ⟨rfl, rSq_shut hp⟩
def kNet (k : Int) (x : NetA) : Int := kSq k x.seqs x.seqs.length + 2 * x.ands.length + x.outs.length
def mNet (k : Int) (x : NetA) : NetA :=
 { x with seqs := (List.range x.seqs.length).map (mSq k x.seqs), ands := (List.range x.ands.length).map fun (i : Nat) => (kSq k x.seqs x.seqs.length + 2 * (i : Int), kSq k x.seqs x.seqs.length + 2 * (i : Int) + 1), outs := marks (kSq k x.seqs x.seqs.length + 2 * x.ands.length) x.outs.length }
theorem kNet_le {k : Int} {x : NetA} (hs : NetS x.n) : k ≤ kNet k x ∧ kNet k x ≤ k + 2000000000000 := by
 obtain ⟨s1, s2, s3, s4⟩ := hs
 rw [x.slen] at s1 s2
 simp only [x.sins] at s2
 have s3 : x.ands.length ≤ 1048576 := s3
 have s4 : x.outs.length ≤ 1048576 := s4
 have := kSq_le (k := k) s2 _ (Nat.le_refl _)
 unfold kNet
 omega
theorem markNet_h {w0 w : World} {L : List Res} {x : NetA} (hp : Hp w0 w (rNet x :: L)) (k : Int) (hs : NetS x.n) (hk : 0 ≤ k) (hk2 : k < 1000000000000) :
  Ret Tryz.prog 12 [x.v, .int .i64 k] w (fun v w' => v = .int .i64 (kNet k x) ∧ Hp w0 w' (rNet (mNet k x) :: L)) := by
 have hb := kNet_le (k := k) hs
 obtain ⟨s1, s2, s3, s4⟩ := hs
 rw [x.slen] at s1 s2
 simp only [x.sins] at s2
 have s3 : x.ands.length ≤ 1048576 := s3
 have s4 : x.outs.length ≤ 1048576 := s4
 have h1 := kSq_le (k := k) s2 _ (Nat.le_refl _)
 refine enter Tryz.S12ok _ _ rfl rfl (by show _ ≤ _; simp only [List.length]; decide) (fun C => ?_); refine h_run rfl ?_
 (first | refine H_box hp ?_ | refine H_alloc hp rfl ?_); intro w b1 hx hp; refine ops_run nopre rfl ?_; (repeat (refine H_ldB hp rfl rfl ?_))
 refine h_call rfl Tryz.func53 (by kernel_rfl) rfl (markSeqS_h (rNet_open hp.f1) k s1 s2 hk (by omega)) ?_; rintro _ w ⟨rfl, hp⟩; refine ops_run nopre rfl ?_; (repeat (refine H_ldB hp rfl rfl ?_))
 have hp := hp.f3
 skip
 refine h_call rfl Tryz.func54 (by kernel_rfl) rfl (markAndS_h hp.f2 (kSq k x.seqs x.seqs.length) (by omega) (by omega) (by omega)) ?_; rintro _ w ⟨rfl, hp⟩; refine ops_run nopre rfl ?_; (repeat (refine H_ldB hp rfl rfl ?_))
 have hp := hp.f1
 skip
 refine h_call rfl Tryz.func55 (by kernel_rfl) rfl (markIntS_h hp (kSq k x.seqs x.seqs.length + 2 * x.ands.length) (by omega) (by omega) (by omega)) ?_; rintro _ w ⟨rfl, hp⟩; refine ops_run nopre rfl ?_; (repeat (refine R_ret ?_))
 have hn : ((List.range x.seqs.length).map (mSq k x.seqs)).length = x.seqs.length := by simp
 exact ⟨rfl, rNet_shut (x := mNet k x) (hp.drop.perm ((List.Perm.swap _ _ _).trans (.refl _)))⟩
end Go.Proofs
