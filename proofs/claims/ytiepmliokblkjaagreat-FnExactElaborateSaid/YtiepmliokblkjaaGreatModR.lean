/- Texts that belong together; each under its stated conditions. -/
import Derived.Test.YtiepmliokblkjaaGreatExprSim
import Derived.Test.YtiepmliokblkjaaGreatNet
import Derived.Test.YtiepmliokblkjaaGreatExprLaw
set_option linter.all false
section
namespace Go.Xw
open Go.Proofs
set_option maxHeartbeats 1000000
noncomputable def treeOf (ops : List OpL) (m : Int) : ExT := @dite _ (∃ t : ExT, ops = t.ser ∧ t.ok m) (Classical.propDecidable _) (fun h => Classical.choose h) (fun _ => .leaf default)
theorem treeOf_ok {ops : List OpL} {m : Int} (h : OpsOkP ops m) (hp : ∀ o, o ∈ ops → o.kind ≠ 1) : ops = (treeOf ops m).ser ∧ (treeOf ops m).ok m := by
 have h2 := h.tree hp
 unfold treeOf
 rw [dif_pos h2]
 exact Classical.choose_spec h2
structure AxP (n : NetL) (sig : List (List Int)) (ops : List OpL) (w : Int) : Prop where
 net : NetOkP n
 cnt : sig.length ≤ 30
 okp : OpsOkP ops sig.length
 par : ∀ o, o ∈ ops → o.kind ≠ 1
 wid : 1 ≤ w ∧ w ≤ 4
 sg : ∀ l, l ∈ sig → l.length ≤ 4 ∧ ∀ z, z ∈ l → litP z (nodesL n)
def axR (sig : List (List Int)) (w : Int) (t : ExT) (n : NetL) : (NetL × Bool) × List Int := evA adP sig w.toNat t (n, false)
noncomputable def axF (n : NetL) (sig : List (List Int)) (ops : List OpL) (w : Int) : NetL × List Int :=
 @ite _ (AxP n sig ops w ∧ (axR sig w (treeOf ops sig.length) n).1.2 = false) (Classical.propDecidable _) ((axR sig w (treeOf ops sig.length) n).1.1, (axR sig w (treeOf ops sig.length) n).2) (n, [])
theorem axF_yes {n : NetL} {sig : List (List Int)} {ops : List OpL} {w : Int} (h : AxP n sig ops w) (h2 : (axR sig w (treeOf ops sig.length) n).1.2 = false) : axF n sig ops w = ((axR sig w (treeOf ops sig.length) n).1.1, (axR sig w (treeOf ops sig.length) n).2) := by unfold axF; rw [if_pos ⟨h, h2⟩]
theorem axF_bad {n : NetL} {sig : List (List Int)} {ops : List OpL} {w : Int} (h2 : (axR sig w (treeOf ops sig.length) n).1.2 = true) : axF n sig ops w = (n, []) := by unfold axF; rw [if_neg (fun hh => by rw [h2] at hh; exact Bool.noConfusion hh.2)]
theorem axF_no {n : NetL} {sig : List (List Int)} {ops : List OpL} {w : Int} (h : ¬ AxP n sig ops w) : axF n sig ops w = (n, []) := by unfold axF; rw [if_neg (fun hh => h hh.1)]
theorem axR_ref {n : NetL} {sig : List (List Int)} {ops : List OpL} {w : Int} (h : AxP n sig ops w) (t : ExT) :
  ((axR sig w t n).1.2 = false ∧ evA adR sig w.toNat t n = ((axR sig w t n).1.1, (axR sig w t n).2) ∧ ∀ z, z ∈ (axR sig w t n).2 → 0 ≤ z) ∨ ((axR sig w t n).1.2 = true ∧ negL (evA adR sig w.toNat t n).2) := by
 have hw := h.wid
 rcases SimS.ev (sig := sig) (w := w.toNat) (by omega) t h.net (fun l hl z hz => (h.sg l hl).2 z hz) with ⟨m, l, e1, e2, h1, h2⟩ | h3
 ·left
  unfold axR
  rw [e1, e2]
  exact ⟨rfl, rfl, fun z hz => (h2 z hz).1⟩
 ·exact .inr h3
end Go.Xw
end
section
namespace Go.Xw
def eOp (o : OpL) : List Value := [.int .i64 o.kind, .int .i64 o.a, .int .i64 o.b]
instance eOp_ok : EncOk eOp 3 := ⟨fun _ => rfl, fun x u hu => by simp [eOp] at hu; rcases hu with rfl | rfl | rfl <;> rfl⟩
theorem set_at2 {α : Type} [Inhabited α] {X : List α} {i : Nat} {y : α} (h : i < X.length) : (X.set i y).getD i default = y := by
 rw [List.getD_eq_getElem?_getD, List.getElem?_set_self h]; rfl
theorem OpL.ext_ {p q : OpL} : p = q ↔ p.kind = q.kind ∧ p.a = q.a ∧ p.b = q.b := by
 cases p; cases q; simp
end Go.Xw
namespace Go.Proofs
open Go.Xw
set_option maxRecDepth 100000
set_option maxHeartbeats 1000000
attribute [local irreducible] Holds elemAddr
theorem szOpS_h (a : Option Addr) (c n : Nat) (left : Int) (w0 : World) (h0 : 0 ≤ left) (h1 : left ≤ 1048576) (hn : (n : Int) ≤ 9223372036854775807) :
  Ret Tryz.prog 133 [.slice a n c, .int .i64 left] w0 (fun v w' => v = .int .i64 (if left < n then -1 else left - n) ∧ Ext w0 w') := by
 refine enter Tryz.S133ok _ _ rfl rfl (by show _ ≤ _; simp only [List.length]; decide) (fun C => ?_); have hp := Hp.nil w0; refine h_run rfl ?_; skip
 refine h_cond_dec (fun h => ?_) (fun h => ?_)
 ·refine h_cond_t rfl rfl ?_; (repeat (refine R_ret ?_))
  exact ⟨by rw [if_pos (by omega)], hp.x⟩
 ·refine h_cond_f rfl rfl ?_; (repeat (refine R_ret ?_))
  exact ⟨by rw [if_neg (by omega)], hp.x⟩
theorem toOp_h (p : OpL) (w0 : World) : Ret Tryz.prog 177 [.agg ⟨eOp p⟩] w0 (fun v w' => v = .agg ⟨eOp p⟩ ∧ Ext w0 w') := by
 refine enter Tryz.S177ok _ _ rfl rfl (by show _ ≤ _; simp only [List.length]; decide) (fun C => ?_); have hp := Hp.nil w0; refine h_run rfl ?_; skip; (first | refine H_box hp ?_ | refine H_alloc hp rfl ?_); intro w b1 hx hp; refine ops_run nopre rfl ?_; skip; (first | refine H_box hp ?_ | refine H_alloc hp rfl ?_); intro w b2 hx hp; refine ops_run nopre rfl ?_; skip; (first | refine H_box hp ?_ | refine H_alloc hp rfl ?_); intro w b3 hx hp; refine ops_run nopre rfl ?_; (repeat (first | (refine gLoad ?_; refine H_ldB hp rfl rfl ?_) | (refine gStore ?_; (first | refine U_stB hp rfl rfl rfl rfl ?_ | refine U_stBN hp rfl rfl rfl rfl ?_); intro w hp; refine ops_run nopre rfl ?_) | (refine gRetc ?_; refine R_ret1 hp rfl ?_)))
 exact ⟨rfl, hp.x⟩
theorem toOpS_h (a : Option Addr) (c : Nat) (xs : List OpL) (w0 : World) (ha : Rd w0 a 3 eOp xs) (hl : xs.length < 1000000000) :
  Ret Tryz.prog 148 [.slice a xs.length c] w0 (fun v w => ∃ b, v = .slice (some ⟨b, 0, none⟩) xs.length xs.length ∧ Hp w0 w [rO 132 3 eOp (some ⟨b, 0, none⟩) xs.length xs]) := by
 refine enter Tryz.S148ok _ _ rfl rfl (by show _ ≤ _; simp only [List.length]; decide) (fun C => ?_); have hp := Hp.nil w0; refine h_run rfl ?_; skip
 refine H_make hp eOp ⟨0, 0, 0⟩ rfl rfl rfl rfl (s := 3) rfl (by decide) rfl (by unfold maxLen; omega) (by show 24 * _ ≤ _; omega) ?_; intro w b hx hp; refine ops_run nopre rfl ?_; skip
 refine h_loop [0, 3, 4] (fun i : Nat => [(0, .slice a xs.length c), (3, .slice (some ⟨b, 0, none⟩) xs.length xs.length), (4, .int .i64 (i : Int))])
  (fun i w' => i ≤ xs.length ∧ Hp w0 w' [rO 132 3 eOp (some ⟨b, 0, none⟩) xs.length (fillUp ⟨0, 0, 0⟩ xs i)]) (fun i => xs.length - i) 0 rfl ⟨by omega, by rw [fillUp_zero]; exact hp⟩ ?_
 rintro i w2 ⟨hi, hp⟩ IH C
 refine h_run rfl ?_; skip
 refine h_cond_dec (fun hlt => ?_) (fun hlt => ?_)
 ·have hlt' : i < xs.length := by omega
  refine h_cond_t rfl rfl ?_; (repeat (refine H_ldEN hp rfl (by omega) rfl rfl ?_))
  have hfl := fillUp_len ⟨0, 0, 0⟩ xs hi
  refine h_call rfl Tryz.func177 (by kernel_rfl) rfl (toOp_h (xs.getD i default) _) ?_; rintro _ w ⟨rfl, hx⟩; have hp := hp.ext hx; refine ops_run nopre rfl ?_; skip
  first | refine U_stNN hp (xs.getD i default) rfl rfl rfl (by omega) rfl ?_ | refine U_stN hp (xs.getD i default) rfl rfl rfl (by omega) (by omega) rfl ?_
  intro w hp; refine ops_run nopre rfl ?_; skip
  refine IH (i + 1) _ _ _ (by omega) rfl ⟨by omega, ?_⟩
  rw [fillUp_set ⟨0, 0, 0⟩ xs hlt' (getD_some hlt')] at hp
  exact hp
 ·refine h_cond_f rfl rfl ?_; (repeat (refine R_ret ?_))
  obtain rfl : i = xs.length := by omega
  rw [fillUp_all] at hp
  exact ⟨b, rfl, hp⟩
theorem eqOp_h (p q : OpL) (w0 : World) :
  Ret Tryz.prog 186 [.agg ⟨eOp p⟩, .agg ⟨eOp q⟩] w0 (fun v w' => v = .bool (decide (p = q)) ∧ Ext w0 w') := by
 have key : p = q ↔ p.kind = q.kind ∧ p.a = q.a ∧ p.b = q.b := OpL.ext_
 refine enter Tryz.S186ok _ _ rfl rfl (by show _ ≤ _; simp only [List.length]; decide) (fun C => ?_); have hp := Hp.nil w0; refine h_run rfl ?_; skip; (first | refine H_box hp ?_ | refine H_alloc hp rfl ?_); intro w b1 hx hp; refine ops_run nopre rfl ?_; skip; (first | refine H_box hp ?_ | refine H_alloc hp rfl ?_); intro w b2 hx hp; refine ops_run nopre rfl ?_; (repeat (refine H_ldB hp rfl rfl ?_))
 refine h_cond_dec (fun h => ?_) (fun h => ?_)
 ·refine h_cond_t rfl rfl ?_; (repeat (refine R_ret ?_))
  exact ⟨by simp [key, h], hp.x⟩
 ·refine h_cond_f rfl rfl ?_; (repeat (refine H_ldB hp rfl rfl ?_))
  refine h_cond_dec (fun h2 => ?_) (fun h2 => ?_)
  ·refine h_cond_t rfl rfl ?_; (repeat (refine R_ret ?_))
   exact ⟨by simp [key, h2], hp.x⟩
  ·refine h_cond_f rfl rfl ?_; (repeat (refine H_ldB hp rfl rfl ?_))
   refine h_cond_dec (fun h3 => ?_) (fun h3 => ?_)
   ·refine h_cond_t rfl rfl ?_; (repeat (refine R_ret ?_))
    exact ⟨by simp [key, h3], hp.x⟩
   ·refine h_cond_f rfl rfl ?_; (repeat (refine R_ret ?_))
    exact ⟨by simp [key, Decidable.not_not.1 h, Decidable.not_not.1 h2, Decidable.not_not.1 h3], hp.x⟩
theorem eqOpS_h (a b : Option Addr) (ca cb : Nat) (xs ys : List OpL) (w0 : World) (ha : Rd w0 a 3 eOp xs) (hb : Rd w0 b 3 eOp ys) (hl : xs.length < 1000000000) (hl2 : ys.length < 1000000000) :
  Ret Tryz.prog 158 [.slice a xs.length ca, .slice b ys.length cb] w0 (fun v w' => v = .bool (decide (xs = ys)) ∧ Ext w0 w') := by
 refine enter Tryz.S158ok _ _ rfl rfl (by show _ ≤ _; simp only [List.length]; decide) (fun C => ?_); have hp := Hp.nil w0; refine h_run rfl ?_; skip
 refine h_cond_dec (fun h => ?_) (fun h => ?_)
 ·refine h_cond_t rfl rfl ?_; (repeat (refine R_ret ?_))
  have hne : xs ≠ ys := fun e => h (by rw [e])
  exact ⟨by simp [hne], hp.x⟩
 ·refine h_cond_f rfl rfl ?_; skip
  have hlen : xs.length = ys.length := by omega
  refine h_loop [0, 1, 5] (fun i : Nat => [(0, .slice a xs.length ca), (1, .slice b ys.length cb), (5, .int .i64 (i : Int))])
   (fun i w' => i ≤ xs.length ∧ (∀ j, j < i → xs.getD j default = ys.getD j default) ∧ Hp w0 w' []) (fun i => xs.length - i) 0 rfl ⟨by omega, fun j hj => by omega, hp⟩ ?_
  rintro i w1 ⟨hi, hall, hp⟩ IH C
  refine h_run rfl ?_; skip
  refine h_cond_dec (fun hlt => ?_) (fun hlt => ?_)
  ·refine h_cond_t rfl rfl ?_; skip
   refine D_draw hp (by kernel_rfl) (by kernel_rfl) rfl rfl ?_; intro w hx hp; have hs := hp; (repeat (refine D_ldEN rfl (by omega) rfl rfl rfl ?_))
   refine h_callq rfl Tryz.func186 (by kernel_rfl) rfl (eqOp_h (xs.getD i default) (ys.getD i default) _) ?_; rintro _ w ⟨rfl, hx⟩; have hp := hp.ext hx; have hs := hs.ext hx; refine ⟨fun _ => hs, ?_⟩; refine D_ops rfl rfl ?_; skip
   refine h_cond_ndec (fun hne => ?_) (fun hne => ?_)
   ·refine h_cond_t rfl rfl ?_; (repeat (refine R_ret ?_))
    have : xs ≠ ys := fun e => hne (by subst e; rfl)
    exact ⟨by simp [this], hp.x⟩
   ·refine h_cond_f rfl rfl ?_; skip
    refine IH (i + 1) _ _ _ (by omega) rfl ⟨by omega, fun j hj => ?_, hp⟩
    by_cases hj2 : j < i
    ·exact hall j hj2
    ·obtain rfl : j = i := by omega
     exact hne
  ·refine h_cond_f rfl rfl ?_; (repeat (refine R_ret ?_))
   have : xs = ys := list_eq hlen fun j h1 => hall j (by omega)
   exact ⟨by simp [this], hp.x⟩
theorem markOpS_h {w0 w : World} {L : List Res} {a : Option Addr} {c : Nat} {X : List OpL} (hp : Hp w0 w (rO 132 3 eOp a c X :: L)) (k : Int) (hl : X.length < 1000000000) (hk : 0 ≤ k) (hk2 : k < 100000000000000) :
  Ret Tryz.prog 116 [.slice a X.length c, .int .i64 k] w (fun v w' => v = .int .i64 (k + 3 * X.length) ∧ Hp w0 w' (rO 132 3 eOp a c ((List.range X.length).map (fun (i : Nat) => (⟨k + 3 * (i : Int), k + 3 * (i : Int) + 1, k + 3 * (i : Int) + 2⟩ : OpL))) :: L)) := by
 refine enter Tryz.S116ok _ _ rfl rfl (by show _ ≤ _; simp only [List.length]; decide) (fun C => ?_); refine h_run rfl ?_
 refine h_loop [0, 1, 5] (fun i : Nat => [(0, .slice a X.length c), (1, .int .i64 (k + 3 * (i : Int))), (5, .int .i64 (i : Int))])
  (fun i w' => i ≤ X.length ∧ Hp w0 w' (rO 132 3 eOp a c (upTo (fun (i : Nat) => (⟨k + 3 * (i : Int), k + 3 * (i : Int) + 1, k + 3 * (i : Int) + 2⟩ : OpL)) i X) :: L)) (fun i => X.length - i) 0 (by rw [show k + 3 * ((0 : Nat) : Int) = k by omega]; rfl) ⟨by omega, by rw [upTo_zero]; exact hp⟩ ?_
 rintro i w1 ⟨hi, hp⟩ IH C
 have hlen := upTo_len (f := (fun (i : Nat) => (⟨k + 3 * (i : Int), k + 3 * (i : Int) + 1, k + 3 * (i : Int) + 2⟩ : OpL))) hi
 refine h_run rfl ?_; skip
 refine h_cond_dec (fun hlt => ?_) (fun hlt => ?_)
 ·have hlt' : i < X.length := by omega
  have hne : a ≠ none := nn_of hp (by omega)
  refine h_cond_t rfl rfl ?_; skip
  refine U_st1N hp (⟨k + 3 * (i : Int), (X.getD i default).a, (X.getD i default).b⟩ : OpL) rfl rfl rfl (by omega) (by decide) (by rw [upTo_at (Nat.le_refl _) hi]; rfl) rfl ?_; intro w hp; refine ops_run nopre rfl ?_; skip
  have hlen2 : ((upTo (fun (i : Nat) => (⟨k + 3 * (i : Int), k + 3 * (i : Int) + 1, k + 3 * (i : Int) + 2⟩ : OpL)) i X).set i (⟨k + 3 * (i : Int), (X.getD i default).a, (X.getD i default).b⟩ : OpL)).length = X.length := by rw [List.length_set, hlen]
  have hs1 : ((upTo (fun (i : Nat) => (⟨k + 3 * (i : Int), k + 3 * (i : Int) + 1, k + 3 * (i : Int) + 2⟩ : OpL)) i X).set i (⟨k + 3 * (i : Int), (X.getD i default).a, (X.getD i default).b⟩ : OpL)).getD i default = (⟨k + 3 * (i : Int), (X.getD i default).a, (X.getD i default).b⟩ : OpL) := set_at2 (by omega)
  refine U_st1N hp (⟨k + 3 * (i : Int), k + 3 * (i : Int) + 1, (X.getD i default).b⟩ : OpL) rfl rfl rfl (by rw [hlen2]; omega) (by decide) (by rw [hs1]; rfl) rfl ?_; intro w hp; refine ops_run nopre rfl ?_; skip
  have hlen3 : (((upTo (fun (i : Nat) => (⟨k + 3 * (i : Int), k + 3 * (i : Int) + 1, k + 3 * (i : Int) + 2⟩ : OpL)) i X).set i (⟨k + 3 * (i : Int), (X.getD i default).a, (X.getD i default).b⟩ : OpL)).set i (⟨k + 3 * (i : Int), k + 3 * (i : Int) + 1, (X.getD i default).b⟩ : OpL)).length = X.length := by rw [List.length_set, hlen2]
  have hs2 : (((upTo (fun (i : Nat) => (⟨k + 3 * (i : Int), k + 3 * (i : Int) + 1, k + 3 * (i : Int) + 2⟩ : OpL)) i X).set i (⟨k + 3 * (i : Int), (X.getD i default).a, (X.getD i default).b⟩ : OpL)).set i (⟨k + 3 * (i : Int), k + 3 * (i : Int) + 1, (X.getD i default).b⟩ : OpL)).getD i default = (⟨k + 3 * (i : Int), k + 3 * (i : Int) + 1, (X.getD i default).b⟩ : OpL) := set_at2 (by omega)
  refine U_st1N hp (⟨k + 3 * (i : Int), k + 3 * (i : Int) + 1, k + 3 * (i : Int) + 2⟩ : OpL) rfl rfl rfl (by rw [hlen3]; omega) (by decide) (by rw [hs2, show k + 3 * (i : Int) + 2 = k + 3 * (i : Int) + 1 + 1 by omega]; rfl) rfl ?_; intro w hp; refine ops_run nopre rfl ?_; skip
  refine IH (i + 1) _ _ _ (by omega) (by rw [show k + 3 * ((i + 1 : Nat) : Int) = k + 3 * (i : Int) + 1 + 1 + 1 by omega]; rfl) ⟨by omega, ?_⟩
  rw [List.set_set, List.set_set] at hp
  rw [← upTo_set (f := (fun (i : Nat) => (⟨k + 3 * (i : Int), k + 3 * (i : Int) + 1, k + 3 * (i : Int) + 2⟩ : OpL))) hlt']
  exact hp
 ·refine h_cond_f rfl rfl ?_; (repeat (refine R_ret ?_))
  obtain rfl : i = X.length := by omega
  rw [upTo_all] at hp
  exact ⟨rfl, hp⟩
theorem markOpS_u {w0 w : World} {L : List Res} {a : Option Addr} {c : Nat} {X : List OpL} {f : Option Addr → Nat → List OpL → List Res} (hp : Hp w0 w L) [hu : UpdO L a 132 3 eOp c X f] (k : Int) (hl : X.length < 1000000000) (hk : 0 ≤ k) (hk2 : k < 100000000000000) :
  Ret Tryz.prog 116 [.slice a X.length c, .int .i64 k] w (fun v w' => v = .int .i64 (k + 3 * X.length) ∧ Hp w0 w' (f a c ((List.range X.length).map (fun (i : Nat) => (⟨k + 3 * (i : Int), k + 3 * (i : Int) + 1, k + 3 * (i : Int) + 2⟩ : OpL))))) := by
 obtain ⟨M, h1, h2⟩ := hu.h
 exact (markOpS_h (hp.perm h1) k hl hk hk2).mono fun _ _ ⟨q1, q2⟩ => ⟨q1, q2.perm (h2 _ _ _).symm⟩
end Go.Proofs
end
section
namespace Go.Xw
open Go.Proofs
structure SgL where
 kind : Int
 width : Int
 init : Int
deriving Inhabited, DecidableEq
structure AsL where
 tg : Int
 ops : List OpL
deriving Inhabited, DecidableEq
structure MmL where
 addr : Int
 data : Int
 write : Int
 out : Int
deriving Inhabited, DecidableEq
structure ModL where
 sg : List SgL
 asg : List AsL
 ins : List SeqL
 ms : List MmL
deriving DecidableEq
structure AsA where
 tg : Int
 ops : List OpL
 oa : Option Addr
 oc : Nat
instance : Inhabited AsA := ⟨⟨0, [], none, 0⟩⟩
def AsA.s (x : AsA) : AsL := ⟨x.tg, x.ops⟩
def eSg (x : SgL) : List Value := [.int .i64 x.kind, .int .i64 x.width, .int .i64 x.init]
def eAs (x : AsA) : List Value := [.int .i64 x.tg, .slice x.oa x.ops.length x.oc]
def eMm (x : MmL) : List Value := [.int .i64 x.addr, .int .i64 x.data, .int .i64 x.write, .int .i64 x.out]
instance eSg_ok : EncOk eSg 3 := ⟨fun _ => rfl, fun x u hu => by simp [eSg] at hu; rcases hu with rfl | rfl | rfl <;> rfl⟩
instance eAs_ok : EncOk eAs 2 := ⟨fun _ => rfl, fun x u hu => by simp [eAs] at hu; rcases hu with rfl | rfl <;> rfl⟩
instance eMm_ok : EncOk eMm 4 := ⟨fun _ => rfl, fun x u hu => by simp [eMm] at hu; rcases hu with rfl | rfl | rfl | rfl <;> rfl⟩
theorem SgL.ext_ {p q : SgL} : p = q ↔ p.kind = q.kind ∧ p.width = q.width ∧ p.init = q.init := by
 cases p; cases q; simp
theorem MmL.ext_ {p q : MmL} : p = q ↔ p.addr = q.addr ∧ p.data = q.data ∧ p.write = q.write ∧ p.out = q.out := by
 cases p; cases q; simp
structure ModA where
 sg : List SgL
 sa : Option Addr
 sc : Nat
 asg : List AsA
 aa : Option Addr
 ac : Nat
 ins : List SeqA
 ia : Option Addr
 ic : Nat
 ms : List MmL
 ma : Option Addr
 mc : Nat
instance : Inhabited ModA := ⟨⟨[], none, 0, [], none, 0, [], none, 0, [], none, 0⟩⟩
def asOf (R : List AsA) : List AsL := R.map AsA.s
theorem asOf_get (R : List AsA) (i : Nat) : (asOf R).getD i default = (R.getD i default).s := by
 simp only [asOf, List.getD_eq_getElem?_getD, List.getElem?_map]
 cases R[i]? <;> rfl
theorem asOf_len (R : List AsA) : (asOf R).length = R.length := by simp [asOf]
def ModA.n (x : ModA) : ModL := ⟨x.sg, asOf x.asg, seqsOf x.ins, x.ms⟩
def ModA.cs (x : ModA) : List Value := [.slice x.sa x.sg.length x.sc, .slice x.aa x.asg.length x.ac, .slice x.ia x.ins.length x.ic, .slice x.ma x.ms.length x.mc]
def ModA.v (x : ModA) : Value := .agg ⟨x.cs⟩
instance eMd_ok : EncOk ModA.cs 4 := ⟨fun _ => rfl, fun x u hu => by simp [ModA.cs] at hu; rcases hu with rfl | rfl | rfl | rfl <;> rfl⟩
theorem ModA.alen (x : ModA) : x.n.asg.length = x.asg.length := asOf_len _
theorem ModA.aget (x : ModA) (i : Nat) : x.n.asg.getD i default = (x.asg.getD i default).s := asOf_get _ _
theorem ModA.atg (x : ModA) (i : Nat) : (x.n.asg.getD i default).tg = (x.asg.getD i default).tg := by rw [x.aget]; rfl
theorem ModA.aops (x : ModA) (i : Nat) : (x.n.asg.getD i default).ops = (x.asg.getD i default).ops := by rw [x.aget]; rfl
theorem ModA.ilen (x : ModA) : x.n.ins.length = x.ins.length := seqsOf_len _
theorem ModA.iins (x : ModA) (i : Nat) : (x.n.ins.getD i default).ins = (x.ins.getD i default).ins := by
 show ((seqsOf x.ins).getD i default).ins = _
 rw [seqsOf_get]; rfl
class AsR (w : World) (a : Option Addr) (R : List AsA) : Prop where
 row : Rd w a 2 eAs R
 ops : ∀ s, s ∈ R → Rd w s.oa 3 eOp s.ops
class ModR (w : World) (x : ModA) : Prop where
 sg : Rd w x.sa 3 eSg x.sg
 asg : AsR w x.aa x.asg
 ins : SeqsR w x.ia x.ins
 ms : Rd w x.ma 4 eMm x.ms
theorem AsR.ext {w w' : World} {a : Option Addr} {R : List AsA} (h : AsR w a R) (hx : Ext w w') : AsR w' a R := ⟨h.row.ext hx, fun s hs => (h.ops s hs).ext hx⟩
theorem ModR.ext {w w' : World} {x : ModA} (h : ModR w x) (hx : Ext w w') : ModR w' x := ⟨h.sg.ext hx, h.asg.ext hx, h.ins.ext hx, h.ms.ext hx⟩
theorem AsR.at_ {w : World} {a : Option Addr} {R : List AsA} (h : AsR w a R) {i : Nat} (hi : i < R.length) : Rd w (R.getD i default).oa 3 eOp (R.getD i default).ops := h.ops _ (getD_mem hi)
def rOps (R : List AsA) : Res := rAll (R.map fun s => rO 132 3 eOp s.oa s.oc s.ops)
def rAs (a : Option Addr) (c : Nat) (R : List AsA) : Res := rAll [rO 75 2 eAs a c R, rOps R]
def rInS (a : Option Addr) (c : Nat) (R : List SeqA) : Res := rAll [rO 150 3 eSq a c R, rIns R]
def rMod (x : ModA) : Res := rAll [rO 66 3 eSg x.sa x.sc x.sg, rAs x.aa x.ac x.asg, rInS x.ia x.ic x.ins, rO 70 4 eMm x.ma x.mc x.ms]
theorem rAs_r {w : World} {a : Option Addr} {c : Nat} {R : List AsA} (h : (rAs a c R).P w) : AsR w a R := by
 have h1 := h (rO 75 2 eAs a c R) (by simp)
 have h2 := h (rOps R) (by simp)
 exact ⟨⟨Own.sl h1 eAs_ok.len⟩, fun s hs => ⟨Own.sl (h2 _ (List.mem_map.2 ⟨s, hs, rfl⟩)) eOp_ok.len⟩⟩
theorem rInS_r {w : World} {a : Option Addr} {c : Nat} {R : List SeqA} (h : (rInS a c R).P w) : SeqsR w a R := by
 have h1 := h (rO 150 3 eSq a c R) (by simp)
 have h2 := h (rIns R) (by simp)
 exact ⟨⟨Own.sl h1 eSq_ok.len⟩, fun s hs => ⟨Own.sl (h2 _ (List.mem_map.2 ⟨s, hs, rfl⟩)) eI_ok.len⟩⟩
theorem rMod_r {w : World} {x : ModA} (h : (rMod x).P w) : ModR w x :=
 ⟨⟨Own.sl (h (rO 66 3 eSg x.sa x.sc x.sg) (by simp)) eSg_ok.len⟩, rAs_r (c := x.ac) (h (rAs x.aa x.ac x.asg) (by simp)), rInS_r (c := x.ic) (h (rInS x.ia x.ic x.ins) (by simp)), ⟨Own.sl (h (rO 70 4 eMm x.ma x.mc x.ms) (by simp)) eMm_ok.len⟩⟩
class ModH (w0 : World) (L : List Res) (x : ModA) : Prop where
 h : ∀ w, Hp w0 w L → ModR w x
instance (priority := low) ModH.base {w0 : World} {L : List Res} {x : ModA} [h : ModR w0 x] : ModH w0 L x := ⟨fun _ hp => h.ext hp.x⟩
instance ModH.head {w0 : World} {L : List Res} {x : ModA} : ModH w0 (rMod x :: L) x := ⟨fun _ hp => rMod_r hp.g0⟩
instance ModH.tail {w0 : World} {L : List Res} {R : Res} {x : ModA} [h : ModH w0 L x] : ModH w0 (R :: L) x := ⟨fun w hp => h.h w hp.drop⟩
theorem Hp.mod {w0 w : World} {L : List Res} (hp : Hp w0 w L) {x : ModA} [h : ModH w0 L x] : ModR w x := h.h w hp
instance (priority := low) RdH.ofMod1 {w0 : World} {L : List Res} {x : ModA} [h : ModH w0 L x] : RdH w0 L x.sa 3 eSg x.sg := ⟨fun w hp => (h.h w hp).sg.h⟩
instance (priority := low) RdH.ofMod2 {w0 : World} {L : List Res} {x : ModA} [h : ModH w0 L x] : RdH w0 L x.aa 2 eAs x.asg := ⟨fun w hp => (h.h w hp).asg.row.h⟩
instance (priority := low) RdH.ofMod3 {w0 : World} {L : List Res} {x : ModA} [h : ModH w0 L x] : RdH w0 L x.ia 3 eSq x.ins := ⟨fun w hp => (h.h w hp).ins.row.h⟩
instance (priority := low) RdH.ofMod4 {w0 : World} {L : List Res} {x : ModA} [h : ModH w0 L x] : RdH w0 L x.ma 4 eMm x.ms := ⟨fun w hp => (h.h w hp).ms.h⟩
class LtA (i : Nat) (R : List AsA) : Prop where
 h : i < R.length
instance RdH.ofMod5 {w0 : World} {L : List Res} {x : ModA} {i : Nat} [h : ModH w0 L x] [k : LtA i x.asg] : RdH w0 L (x.asg.getD i default).oa 3 eOp (x.asg.getD i default).ops := ⟨fun w hp => ((h.h w hp).asg.at_ k.h).h⟩
theorem rOps_snoc {w0 w w' : World} {L : List Res} {R : List AsA} {y : AsA} (h : Hp w0 w (rOps R :: L)) (hy : Hp w w' [rO 132 3 eOp y.oa y.oc y.ops]) : Hp w0 w' (rOps (R ++ [y]) :: L) := by
 have h1 := (h.unpack).call1 hy
 refine Hp.pack (Hp.perm h1 ?_)
 simp only [List.map_append, List.map_cons, List.map_nil, List.append_assoc]
 exact (List.perm_middle (l₁ := R.map _)).symm
theorem rOps_nil {w0 w : World} {L : List Res} (h : Hp w0 w L) : Hp w0 w (rOps [] :: L) := Hp.pack (Rs := []) h
theorem rOps_at {w0 w : World} {L : List Res} {R : List AsA} (h : Hp w0 w (rOps R :: L)) {i : Nat} (hi : i < R.length) :
  ∃ Q, Hp w0 w (rO 132 3 eOp (R.getD i default).oa (R.getD i default).oc (R.getD i default).ops :: Q :: L) ∧ ∀ w' L' y, Hp w0 w' (rO 132 3 eOp y.oa y.oc y.ops :: Q :: L') → Hp w0 w' (rOps (R.set i y) :: L') := by
 obtain ⟨Q, h1, h2⟩ := Hp.allAt (i := i) (R := rO 132 3 eOp (R.getD i default).oa (R.getD i default).oc (R.getD i default).ops) h (by
  rw [List.getElem?_map, List.getElem?_eq_getElem hi, List.getD_eq_getElem?_getD, List.getElem?_eq_getElem hi]; rfl)
 refine ⟨Q, h1, fun w' L' y hy => ?_⟩
 have h3 := h2 w' _ _ hy
 unfold rOps
 rw [List.map_set]
 exact h3
theorem rAs_open {w0 w : World} {L : List Res} {a : Option Addr} {c : Nat} {R : List AsA} (h : Hp w0 w (rAs a c R :: L)) : Hp w0 w (rO 75 2 eAs a c R :: rOps R :: L) := h.unpack
theorem rAs_shut {w0 w : World} {L : List Res} {a : Option Addr} {c : Nat} {R : List AsA} (h : Hp w0 w (rO 75 2 eAs a c R :: rOps R :: L)) : Hp w0 w (rAs a c R :: L) := Hp.pack (Rs := [_, _]) h
theorem rInS_open {w0 w : World} {L : List Res} {a : Option Addr} {c : Nat} {R : List SeqA} (h : Hp w0 w (rInS a c R :: L)) : Hp w0 w (rO 150 3 eSq a c R :: rIns R :: L) := h.unpack
theorem rInS_shut {w0 w : World} {L : List Res} {a : Option Addr} {c : Nat} {R : List SeqA} (h : Hp w0 w (rO 150 3 eSq a c R :: rIns R :: L)) : Hp w0 w (rInS a c R :: L) := Hp.pack (Rs := [_, _]) h
theorem rMod_open {w0 w : World} {L : List Res} {x : ModA} (h : Hp w0 w (rMod x :: L)) : Hp w0 w (rO 66 3 eSg x.sa x.sc x.sg :: rAs x.aa x.ac x.asg :: rInS x.ia x.ic x.ins :: rO 70 4 eMm x.ma x.mc x.ms :: L) := h.unpack
theorem rMod_shut {w0 w : World} {L : List Res} {x : ModA} (h : Hp w0 w (rO 66 3 eSg x.sa x.sc x.sg :: rAs x.aa x.ac x.asg :: rInS x.ia x.ic x.ins :: rO 70 4 eMm x.ma x.mc x.ms :: L)) : Hp w0 w (rMod x :: L) := Hp.pack (Rs := [_, _, _, _]) h
def i64G (s : SgL) : Prop := i64R s.kind ∧ i64R s.width ∧ i64R s.init
def i64M (s : MmL) : Prop := i64R s.addr ∧ i64R s.data ∧ i64R s.write ∧ i64R s.out
def i64P (o : OpL) : Prop := i64R o.kind ∧ i64R o.a ∧ i64R o.b
structure ModM (n : ModL) : Prop where
 sg : (n.sg.length : Int) ≤ 9223372036854775807
 asg : (n.asg.length : Int) ≤ 9223372036854775807
 ops : ∀ i, i < n.asg.length → ((n.asg.getD i default).ops.length : Int) ≤ 9223372036854775807
 ins : (n.ins.length : Int) ≤ 9223372036854775807
 prt : ∀ i, i < n.ins.length → ((n.ins.getD i default).ins.length : Int) ≤ 9223372036854775807
 ms : (n.ms.length : Int) ≤ 9223372036854775807
structure ModS (n : ModL) : Prop where
 sg : n.sg.length ≤ 1048576
 asg : n.asg.length ≤ 1048576
 ops : ∀ i, i < n.asg.length → (n.asg.getD i default).ops.length ≤ 1048576
 ins : n.ins.length ≤ 1048576
 prt : ∀ i, i < n.ins.length → (n.ins.getD i default).ins.length ≤ 1048576
 ms : n.ms.length ≤ 1048576
structure ModW (n : ModL) : Prop where
 sg : ∀ i, i < n.sg.length → i64G (n.sg.getD i default)
 tg : ∀ i, i < n.asg.length → i64R (n.asg.getD i default).tg
 ops : ∀ i, i < n.asg.length → ∀ j, j < (n.asg.getD i default).ops.length → i64P ((n.asg.getD i default).ops.getD j default)
 ms : ∀ i, i < n.ms.length → i64M (n.ms.getD i default)
end Go.Xw
end
