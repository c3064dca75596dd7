/- The contract of the reference's expressions; under its stated conditions. -/
import Derived.Test.YtiepmliokblkjaaGreatAxT
import Derived.Test.YtiepmliokblkjaaGreatAdder3
import Derived.Test.YtiepmliokblkjaaGreatExprW
set_option linter.all false
namespace Go.Xw
section
variable {S : Setting} {sz : Nat} {R : Value → World → Prop} {C : World → Prop} {w w0 : World} {F : List Res}
theorem R_ret3v [hS : S.Ok] {b o : Nat} {t tb : TypeId} {cs : List Value} {v u u' : Value} (hp : Hp w0 w F) [hb : BkH w0 F b tb cs] (hv : ldV S.tt t cs o = some v) (h : R (.tuple ⟨[v, u, u']⟩) w) : Holds S sz R C w (.retc [.at_ t ⟨b, o, none⟩, .val u, .val u']) :=
 ⟨[v, u, u'], ⟨ldV_blk hS.tt (hb.h w hp) hv, rfl, rfl, trivial⟩, h⟩
end
theorem Hp.nextN {w0 w w' : World} {K L : List Res} {x y : NetA} {r : Res} (h : Hp w0 w (K ++ L)) [hN : NetH w0 L x] (hq : (y = x ∧ Hp w w' [r]) ∨ Hp w w' [r, rNet y]) : ∃ L', Hp w0 w' (r :: K ++ L') ∧ NetH w0 L' y ∧ ((y = x ∧ L' = L) ∨ L' = [rNet y]) := by
 rcases hq with ⟨rfl, hq⟩ | hq
 ·exact ⟨L, h.call1 hq, hN, .inl ⟨rfl, rfl⟩⟩
 ·refine ⟨[rNet y], ?_, inferInstance, .inr rfl⟩
  have h1 : Hp w0 w' (r :: rNet y :: (K ++ L)) := h.call2 hq
  refine (h1.sub (L' := r :: rNet y :: K) ?_).perm ?_
  ·exact List.Sublist.cons₂ _ (List.Sublist.cons₂ _ (List.sublist_append_left _ _))
  ·exact List.Perm.cons _ (List.perm_append_comm (l₁ := [rNet y]))
theorem Hp.finN {w0 w : World} {K L : List Res} {x y : NetA} {r : Res} (h : Hp w0 w (r :: K ++ L)) (hd : (y = x ∧ L = []) ∨ L = [rNet y]) : (y = x ∧ Hp w0 w [r]) ∨ Hp w0 w [r, rNet y] := by
 rcases hd with ⟨rfl, rfl⟩ | rfl
 ·exact .inl ⟨rfl, h.tk 1⟩
 ·exact .inr (h.sub (List.Sublist.cons₂ _ (List.sublist_append_right _ _)))
theorem nextD {x y z : NetA} {L L' : List Res} (h1 : (y = x ∧ L = []) ∨ L = [rNet y]) (h2 : (z = y ∧ L' = L) ∨ L' = [rNet z]) : (z = x ∧ L' = []) ∨ L' = [rNet z] := by
 rcases h2 with ⟨rfl, rfl⟩ | h2
 ·exact h1
 ·exact .inr h2
end Go.Xw
namespace Go.Proofs
open Go.Xw
set_option maxRecDepth 100000
set_option maxHeartbeats 800000
attribute [local irreducible] Holds elemAddr
def ExprS (R : List (RowA Int)) (sa : Option Addr) (sc wd : Nat) (ops : List OpL) (oa : Option Addr) (oc : Nat) (t : ExT) : Prop :=
 ∀ (pre post : List OpL), ops = pre ++ t.ser ++ post → t.ok R.length → ∀ (x : NetA) (w0 : World), NetR w0 x → NetOkP x.n → (∀ l, l ∈ insOf R → ∀ z, z ∈ l → litP z (nodesL x.n)) → Rd w0 sa 1 eRo R → RsR w0 R → Rd w0 oa 3 eOp ops →
  Ret Tryz.prog 83 [x.v, .slice sa R.length sc, .slice oa ops.length oc, .int .i64 (pre.length : Int), .int .i64 (wd : Int)] w0 (fun v w => ∃ y b c, (y.n = (evA adR (insOf R) wd t x.n).1 ∧ v = .tuple ⟨[y.v, .slice b wd c, .int .i64 ((pre.length + t.ser.length : Nat) : Int)]⟩) ∧
   ((y = x ∧ Hp w0 w [rO 3 1 eI b c (evA adR (insOf R) wd t x.n).2]) ∨ Hp w0 w [rO 3 1 eI b c (evA adR (insOf R) wd t x.n).2, rNet y]))
theorem l11Leaf (R : List (RowA Int)) (sa : Option Addr) (sc wd : Nat) (hw : 1 ≤ wd ∧ wd ≤ 4) (ops : List OpL) (oa : Option Addr) (oc : Nat) (hol : ops.length ≤ 15) (hRl : R.length ≤ 1000) (hRg : ∀ i, i < R.length → (R.getD i default).ins.length ≤ 1000) (o : OpL) : ExprS R sa sc wd ops oa oc (.leaf o) := by
 have hfl := leafE_len (insOf R) wd o
 intro pre post hops ht x w0 hX hok hsig hS hQ hO
 have hlen : ops.length = pre.length + (ExT.leaf o).ser.length + post.length := by rw [hops]; simp only [List.length_append]
 have hpos := ExT.pos (ExT.leaf o)
 have hat : ops.getD pre.length default = o := by
  rw [hops, List.append_assoc, List.getD_eq_getElem?_getD, List.getElem?_append_right (Nat.le_refl _), Nat.sub_self]; rfl
 refine enter Tryz.S83ok _ _ rfl rfl (by show _ ≤ _; simp only [List.length]; decide) (fun C => ?_); have hp := Hp.nil w0; refine h_run rfl ?_; skip; (first | refine H_box hp ?_ | refine H_alloc hp rfl ?_); intro w b5 hx hp; refine ops_run nopre rfl ?_; skip; (first | refine H_box hp ?_ | refine H_alloc hp rfl ?_); intro w b10 hx hp; refine ops_run nopre rfl ?_; (repeat (refine H_ldEN hp rfl (by omega) rfl rfl ?_))
 (first | refine H_box hp ?_ | refine H_alloc hp rfl ?_); intro w b13 hx hp; refine ops_run nopre rfl ?_; (repeat (first | (refine gLoad ?_; refine H_ldB hp rfl rfl ?_) | (refine gStore ?_; refine U_stBN hp rfl rfl rfl rfl ?_; intro w hp; refine ops_run nopre rfl ?_) | (refine gBuild ?_; refine U_litI hp rfl rfl rfl rfl rfl rfl rfl rfl rfl rfl ?_; intro w _ hx hp; refine ops_run nopre rfl ?_)))
 rw [hat] at hp ⊢
 refine h_call rfl Tryz.func139 (by kernel_rfl) rfl (specOpArity_h o.kind _) ?_; rintro _ w ⟨rfl, hx⟩; have hp := hp.ext hx; refine ops_run nopre rfl ?_; skip
 rw [ht.1]
 refine h_cond_t rfl rfl ?_; skip
 have hko := ht.2.1
 have hkd : o.kind = 0 ∨ o.kind = 2 ∨ o.kind = 3 := by
  have h1 := ht.1
  have h2 := ht.2.2
  have : 0 ≤ o.kind ∧ o.kind ≤ 3 := Classical.byContradiction fun hh => by
   unfold arL at h1; rw [if_neg hh] at h1
   split at h1
   ·omega
   split at h1
   ·omega
   split at h1 <;> omega
  omega
 have hp : Hp w0 _ [rO 3 1 eI _ _ ([] : List Int), rB b13 132 [.int .i64 o.kind, .int .i64 o.a, .int .i64 o.b], rB b10 33 (cellsV Tryz.ti33.zero), rB b5 33 x.cs] := hp
 refine h_loop3 [1, 3, 4, 5, 10, 13, 14, 15] (fun (k : Nat) (b : Option Addr) (c : Nat) => [(1, .slice sa R.length sc), (3, .int .i64 ((pre.length : Int) + 1)), (4, .int .i64 (wd : Int)), (5, .pointer (some ⟨b5, 0, none⟩)), (10, .pointer (some ⟨b10, 0, none⟩)), (13, .pointer (some ⟨b13, 0, none⟩)), (14, .slice b ((List.range k).map (leafB (insOf R) o)).length c), (15, .int .i64 (k : Int))])
  (fun k b c w' => k ≤ wd ∧ Hp w0 w' [rO 3 1 eI b c ((List.range k).map (leafB (insOf R) o)), rB b13 132 [.int .i64 o.kind, .int .i64 o.a, .int .i64 o.b], rB b10 33 (cellsV Tryz.ti33.zero), rB b5 33 x.cs]) (fun k _ _ => wd - k) 0 _ _ rfl ⟨by omega, hp⟩ ?_
 clear hp
 rintro k b c w1 ⟨hk, hp⟩ IH C
 have hrl : ((List.range k).map (leafB (insOf R) o)).length = k := by simp
 have hrr : (List.range k).length = k := by simp
 have eK : (List.range (k + 1)).map (leafB (insOf R) o) = (List.range k).map (leafB (insOf R) o) ++ [leafB (insOf R) o k] := by rw [List.range_succ, List.map_append]; rfl
 refine h_run rfl ?_; skip
 refine h_cond_dec (fun hlt => ?_) (fun hlt => ?_)
 ·have hkw : k < wd := by omega
  have hbk : ((k : Nat) : Int) ≤ ((IntKind.i64.bits : Nat) : Int) := by show ((k : Nat) : Int) ≤ 64; omega
  refine h_cond_t rfl rfl ?_; (repeat (refine H_ldB hp rfl rfl ?_))
  rcases hkd with h0 | h2 | h3
  ·have hoa := (opOk_0 h0).1 hko
   have ef : leafB (insOf R) o k = bits .and .i64 (o.a / 2 ^ k) 1 := by rw [bits_and_one]; unfold leafB; rw [if_pos h0]
   refine h_cond_dec (fun _ => ?_) (fun hg => False.elim (by omega)); refine h_cond_t rfl rfl ?_; (repeat (first | (refine gLoad ?_; refine H_ldB hp rfl rfl ?_) | (refine gBuild ?_; refine U_litI hp rfl rfl rfl rfl rfl rfl rfl rfl rfl rfl ?_; intro w _ hx hp; refine ops_run nopre rfl ?_)))
   refine U_append hp rfl rfl rfl rfl rfl rfl rfl (by decide) rfl (by first | omega | (simp only [List.length_append, List.length_cons, List.length_nil, List.length_take, List.length_drop, List.length_set, List.length_replicate, List.length_map]; omega)) rfl rfl ?_; intro b' c' w hp hnil; refine ops_run nopre rfl ?_; skip
   refine IH (k + 1) b' c' _ _ _ (by omega) (by rw [eK, ef]; rfl) ⟨by omega, ?_⟩
   rw [eK, ef]
   exact hp.drop
  ·obtain ⟨hoa, hob⟩ := (opOk_2 h2).1 hko
   have hri := hQ.at_ (show o.a.toNat < R.length by omega)
   have hgi := hRg o.a.toNat (by omega)
   have ef : leafB (insOf R) o k = pickL (R.getD o.a.toNat default).ins k := by
    unfold leafB; rw [if_neg (by omega), if_pos h2, insOf_get]
   refine h_cond_dec (fun hg => False.elim (by omega)) (fun _ => ?_); refine h_cond_f rfl rfl ?_; (repeat (refine H_ldB hp rfl rfl ?_))
   refine h_cond_dec (fun _ => ?_) (fun hg => False.elim (by omega)); refine h_cond_t rfl rfl ?_; (repeat (refine gLoad ?_; first | refine H_ldB hp rfl rfl ?_ | refine H_ldE hp rfl (by omega) (by omega) rfl rfl ?_))
   refine h_call rfl Tryz.func141 (by kernel_rfl) rfl (l11Pick_h _ _ _ (R.getD o.a.toNat default).ins rfl k (by omega) _ hp.rd (by omega)) ?_; rintro _ w ⟨rfl, hx⟩; have hp := hp.ext hx; refine ops_run nopre rfl ?_; (repeat (refine U_litI hp rfl rfl rfl rfl rfl rfl rfl rfl rfl rfl ?_; intro w _ hx hp; refine ops_run nopre rfl ?_))
   refine U_append hp rfl rfl rfl rfl rfl rfl rfl (by decide) rfl (by first | omega | (simp only [List.length_append, List.length_cons, List.length_nil, List.length_take, List.length_drop, List.length_set, List.length_replicate, List.length_map]; omega)) rfl rfl ?_; intro b' c' w hp hnil; refine ops_run nopre rfl ?_; skip
   refine IH (k + 1) b' c' _ _ _ (by omega) (by rw [eK, ef]; rfl) ⟨by omega, ?_⟩
   rw [eK, ef]
   exact hp.drop
  ·obtain ⟨hoa, hob⟩ := (opOk_3 h3).1 hko
   obtain ⟨ib, hib⟩ := Int.eq_ofNat_of_zero_le hob.1
   have hri := hQ.at_ (show o.a.toNat < R.length by omega)
   have hgi := hRg o.a.toNat (by omega)
   refine h_cond_dec (fun hg => False.elim (by omega)) (fun _ => ?_); refine h_cond_f rfl rfl ?_; (repeat (refine H_ldB hp rfl rfl ?_))
   refine h_cond_dec (fun hg => False.elim (by omega)) (fun _ => ?_); refine h_cond_f rfl rfl ?_; skip
   by_cases hk0 : k = 0
   ·have ef : leafB (insOf R) o k = pickL (R.getD o.a.toNat default).ins ib := by
     unfold leafB; rw [if_neg (by omega), if_neg (by omega), if_pos hk0, hib, Int.toNat_natCast, insOf_get]
    refine h_cond_dec (fun _ => ?_) (fun hg => False.elim (by omega)); refine h_cond_t rfl rfl ?_; skip
    refine N_draw hp (by kernel_rfl) (by kernel_rfl) rfl rfl ?_; (repeat (refine nLoad ?_; first | refine N_ldB rfl rfl rfl ?_ | refine N_ldE rfl (by omega) (by omega) rfl rfl rfl ?_))
    rw [hib]
    refine N_call Tryz.func141 (by kernel_rfl) rfl (fun F w hp => ?_); refine Ret.mono (l11Pick_h _ _ _ (R.getD o.a.toNat default).ins rfl ib (by omega) _ hp.pre.rd (by omega)) ?_; rintro _ w ⟨rfl, hx⟩; have hp := hp.ext hx; refine ⟨fun _ => hp.sub (by (repeat (first | exact List.sublist_append_left _ _ | apply List.Sublist.cons))), _, hp, ?_⟩; clear hp; refine N_ops rfl rfl ?_; (repeat (refine N_litI rfl rfl rfl rfl rfl rfl rfl rfl rfl rfl ?_; intro _; refine N_ops rfl rfl ?_))
    refine N_append rfl rfl rfl rfl rfl rfl rfl (by decide) rfl (by first | omega | (simp only [List.length_append, List.length_cons, List.length_nil, List.length_take, List.length_drop, List.length_set, List.length_replicate, List.length_map]; omega)) rfl rfl (fun hq => Bool.noConfusion (hq.symm.trans (by kernel_rfl : flagAt _ _ = false))) ?_; intro b' c' hnil; refine N_ops rfl rfl ?_; skip
    refine N_end ?_; intro w hp C; refine h_run rfl ?_; skip
    refine IH (k + 1) b' c' _ _ _ (by omega) (by rw [eK, ef]; rfl) ⟨by omega, ?_⟩
    rw [eK, ef]
    rw [← hib] at hp
    exact hp.drop
   ·have ef : leafB (insOf R) o k = 0 := by unfold leafB; rw [if_neg (by omega), if_neg (by omega), if_neg hk0]
    refine h_cond_dec (fun hg => False.elim (by omega)) (fun _ => ?_); refine h_cond_f rfl rfl ?_; (repeat (refine U_litI hp rfl rfl rfl rfl rfl rfl rfl rfl rfl rfl ?_; intro w _ hx hp; refine ops_run nopre rfl ?_))
    refine U_append hp rfl rfl rfl rfl rfl rfl rfl (by decide) rfl (by first | omega | (simp only [List.length_append, List.length_cons, List.length_nil, List.length_take, List.length_drop, List.length_set, List.length_replicate, List.length_map]; omega)) rfl rfl ?_; intro b' c' w hp hnil; refine ops_run nopre rfl ?_; skip
    refine IH (k + 1) b' c' _ _ _ (by omega) (by rw [eK, ef]; rfl) ⟨by omega, ?_⟩
    rw [eK, ef]
    exact hp.drop
 ·obtain rfl : k = wd := by omega
  clear IH
  refine h_cond_f rfl rfl ?_; (repeat (first | (refine gLoad ?_; refine H_ldB hp rfl rfl ?_) | (refine gStore ?_; refine U_stBN hp rfl rfl rfl rfl ?_; intro w hp; refine ops_run nopre rfl ?_)))
  refine R_ret3v hp rfl ?_
  refine ⟨x, b, c, ⟨rfl, ?_⟩, .inl ⟨rfl, hp.tk 1⟩⟩
  rw [hrl, show ((pre.length + (ExT.leaf o).ser.length : Nat) : Int) = (pre.length : Int) + 1 by simp [ExT.ser]]
  rfl
theorem l11Un (R : List (RowA Int)) (sa : Option Addr) (sc wd : Nat) (hw : 1 ≤ wd ∧ wd ≤ 4) (ops : List OpL) (oa : Option Addr) (oc : Nat) (hol : ops.length ≤ 15) (hRl : R.length ≤ 1000) (hRg : ∀ i, i < R.length → (R.getD i default).ins.length ≤ 1000) (o : OpL) (u : ExT) (ih : ExprS R sa sc wd ops oa oc u) : ExprS R sa sc wd ops oa oc (.un o u) := by
 intro pre post hops ht x w0 hX hok hsig hS hQ hO
 have hlen : ops.length = pre.length + (ExT.un o u).ser.length + post.length := by rw [hops]; simp only [List.length_append]
 have hpos := ExT.pos (ExT.un o u)
 have hat : ops.getD pre.length default = o := by
  rw [hops, List.append_assoc, List.getD_eq_getElem?_getD, List.getElem?_append_right (Nat.le_refl _), Nat.sub_self]; rfl
 refine enter Tryz.S83ok _ _ rfl rfl (by show _ ≤ _; simp only [List.length]; decide) (fun C => ?_); have hp := Hp.nil w0; refine h_run rfl ?_; skip; (first | refine H_box hp ?_ | refine H_alloc hp rfl ?_); intro w b5 hx hp; refine ops_run nopre rfl ?_; skip; (first | refine H_box hp ?_ | refine H_alloc hp rfl ?_); intro w b10 hx hp; refine ops_run nopre rfl ?_; (repeat (refine H_ldEN hp rfl (by omega) rfl rfl ?_))
 (first | refine H_box hp ?_ | refine H_alloc hp rfl ?_); intro w b13 hx hp; refine ops_run nopre rfl ?_; (repeat (first | (refine gLoad ?_; refine H_ldB hp rfl rfl ?_) | (refine gStore ?_; refine U_stBN hp rfl rfl rfl rfl ?_; intro w hp; refine ops_run nopre rfl ?_) | (refine gBuild ?_; refine U_litI hp rfl rfl rfl rfl rfl rfl rfl rfl rfl rfl ?_; intro w _ hx hp; refine ops_run nopre rfl ?_)))
 rw [hat] at hp ⊢
 refine h_call rfl Tryz.func139 (by kernel_rfl) rfl (specOpArity_h o.kind _) ?_; rintro _ w ⟨rfl, hx⟩; have hp := hp.ext hx; refine ops_run nopre rfl ?_; skip
 have hk4 : o.kind = 4 := by
  have h1 : arL o.kind = 1 := ht.1
  unfold arL at h1
  repeat' split at h1
  all_goals omega
 rw [ht.1]
 refine h_cond_f rfl rfl ?_; (repeat (refine H_ldB hp rfl rfl ?_))
 have hp : Hp w0 _ [rO 3 1 eI _ _ ([] : List Int), rB b13 132 [.int .i64 o.kind, .int .i64 o.a, .int .i64 o.b], rB b10 33 (cellsV Tryz.ti33.zero), rB b5 33 x.cs] := hp
 have hpl1 : (pre ++ [o]).length = pre.length + 1 := by simp [ExT.ser] <;> omega
 have hcall1 := ih (pre ++ [o]) (post) (by rw [hops]; simp [ExT.ser]) ht.2 x _ hp.net hok hsig hp.rd hp.rs hp.rd
 rw [hpl1] at hcall1
 rw [show ((pre.length + 1 : Nat) : Int) = (pre.length : Int) + 1 from by simp] at hcall1
 have g1 := ev_good adR_ok (sig := insOf R) wd u hok (fun l hl z hz => .inl (hsig l hl z hz))
 have hl1 := evA_len adR (insOf R) wd u x.n
 obtain ⟨r1, hr1⟩ : ∃ r, r = evA adR (insOf R) wd u x.n := ⟨_, rfl⟩
 rw [← hr1] at hcall1 g1 hl1
 refine h_call rfl Tryz.func83 (by kernel_rfl) rfl hcall1 ?_
 rintro _ w ⟨y1, ba1, ca1, ⟨hy1, rfl⟩, hq⟩
 obtain ⟨L1, hp, hN1, hd1⟩ := Hp.nextN (K := [_, _, _, _]) (L := []) hp hq
 have hp : Hp w0 _ (_ :: _ :: _ :: _ :: _ :: L1) := hp
 have hd1 := nextD (x := x) (L := []) (.inl ⟨rfl, rfl⟩) hd1
 clear hq hcall1
 have ok1 : NetOkP y1.n := by rw [hy1]; exact g1.i
 have v1 : ∀ z, z ∈ r1.2 → litR y1.n z := by rw [hy1]; exact g1.v
 have le1 : leN x.n y1.n := by rw [hy1]; exact g1.le_
 have sg1 : ∀ l, l ∈ insOf R → ∀ z, z ∈ l → litP z (nodesL y1.n) := fun l hl z hz => (hsig l hl z hz).mono le1.1
 refine ops_run nopre rfl ?_; (repeat (first | (refine gLoad ?_; refine H_ldB hp rfl rfl ?_) | (refine gStore ?_; refine U_stBN hp rfl rfl rfl rfl ?_; intro w hp; refine ops_run nopre rfl ?_)))
 refine h_cond_dec (fun _ => ?_) (fun hg => False.elim (by omega)); refine h_cond_t rfl rfl ?_; skip
 refine N_draw hp (by kernel_rfl) (by kernel_rfl) rfl rfl ?_; (repeat (refine N_ldB rfl rfl rfl ?_))
 refine N_call Tryz.func142 (by kernel_rfl) rfl (fun F w hp => ?_); refine Ret.mono (l11Not_h ba1 ca1 wd r1.2 hl1 _ hp.pre.rd (by omega) (fun i hi => (v1 _ (getD_mem hi)).i64 ok1)) ?_; rintro _ w ⟨bn, cn, rfl, hq⟩; have hp := hp.callF1 hq; refine ⟨fun _ => hp.sub (by (repeat (first | exact List.sublist_append_left _ _ | apply List.Sublist.cons))), _, hp, ?_⟩; clear hp; refine N_ops rfl rfl ?_; (repeat (refine N_stBN rfl rfl rfl rfl (by kernel_rfl) ?_; refine N_ops rfl rfl ?_))
 refine N_end ?_; intro w hp C; refine h_run rfl ?_; skip
 refine R_ret3v hp rfl ?_
 have hfin : evA adR (insOf R) wd (ExT.un o u) x.n = (r1.1, r1.2.map lNot) := by rw [hr1]; rfl
 rw [hfin, show pre.length + (ExT.un o u).ser.length = pre.length + 1 + u.ser.length by simp [ExT.ser]; omega]
 exact ⟨y1, bn, cn, ⟨hy1, rfl⟩, Hp.finN (K := [_, _, _, _, _]) hp hd1⟩
theorem l11Bin (R : List (RowA Int)) (sa : Option Addr) (sc wd : Nat) (hw : 1 ≤ wd ∧ wd ≤ 4) (ops : List OpL) (oa : Option Addr) (oc : Nat) (hol : ops.length ≤ 15) (hRl : R.length ≤ 1000) (hRg : ∀ i, i < R.length → (R.getD i default).ins.length ≤ 1000) (o : OpL) (u v : ExT) (ihu : ExprS R sa sc wd ops oa oc u) (ihv : ExprS R sa sc wd ops oa oc v) : ExprS R sa sc wd ops oa oc (.bin o u v) := by
 intro pre post hops ht x w0 hX hok hsig hS hQ hO
 have hlen : ops.length = pre.length + (ExT.bin o u v).ser.length + post.length := by rw [hops]; simp only [List.length_append]
 have hpos := ExT.pos (ExT.bin o u v)
 have hat : ops.getD pre.length default = o := by
  rw [hops, List.append_assoc, List.getD_eq_getElem?_getD, List.getElem?_append_right (Nat.le_refl _), Nat.sub_self]; rfl
 refine enter Tryz.S83ok _ _ rfl rfl (by show _ ≤ _; simp only [List.length]; decide) (fun C => ?_); have hp := Hp.nil w0; refine h_run rfl ?_; skip; (first | refine H_box hp ?_ | refine H_alloc hp rfl ?_); intro w b5 hx hp; refine ops_run nopre rfl ?_; skip; (first | refine H_box hp ?_ | refine H_alloc hp rfl ?_); intro w b10 hx hp; refine ops_run nopre rfl ?_; (repeat (refine H_ldEN hp rfl (by omega) rfl rfl ?_))
 (first | refine H_box hp ?_ | refine H_alloc hp rfl ?_); intro w b13 hx hp; refine ops_run nopre rfl ?_; (repeat (first | (refine gLoad ?_; refine H_ldB hp rfl rfl ?_) | (refine gStore ?_; refine U_stBN hp rfl rfl rfl rfl ?_; intro w hp; refine ops_run nopre rfl ?_) | (refine gBuild ?_; refine U_litI hp rfl rfl rfl rfl rfl rfl rfl rfl rfl rfl ?_; intro w _ hx hp; refine ops_run nopre rfl ?_)))
 rw [hat] at hp ⊢
 refine h_call rfl Tryz.func139 (by kernel_rfl) rfl (specOpArity_h o.kind _) ?_; rintro _ w ⟨rfl, hx⟩; have hp := hp.ext hx; refine ops_run nopre rfl ?_; skip
 have hk5 : 5 ≤ o.kind ∧ o.kind ≤ 11 := by
  have h1 : arL o.kind = 2 := ht.1
  unfold arL at h1
  repeat' split at h1
  all_goals omega
 rw [ht.1]
 refine h_cond_f rfl rfl ?_; (repeat (refine H_ldB hp rfl rfl ?_))
 have hp : Hp w0 _ [rO 3 1 eI _ _ ([] : List Int), rB b13 132 [.int .i64 o.kind, .int .i64 o.a, .int .i64 o.b], rB b10 33 (cellsV Tryz.ti33.zero), rB b5 33 x.cs] := hp
 have hpl1 : (pre ++ [o]).length = pre.length + 1 := by simp [ExT.ser] <;> omega
 have hcall1 := ihu (pre ++ [o]) (v.ser ++ post) (by rw [hops]; simp [ExT.ser]) ht.2.1 x _ hp.net hok hsig hp.rd hp.rs hp.rd
 rw [hpl1] at hcall1
 rw [show ((pre.length + 1 : Nat) : Int) = (pre.length : Int) + 1 from by simp] at hcall1
 have g1 := ev_good adR_ok (sig := insOf R) wd u hok (fun l hl z hz => .inl (hsig l hl z hz))
 have hl1 := evA_len adR (insOf R) wd u x.n
 obtain ⟨r1, hr1⟩ : ∃ r, r = evA adR (insOf R) wd u x.n := ⟨_, rfl⟩
 rw [← hr1] at hcall1 g1 hl1
 refine h_call rfl Tryz.func83 (by kernel_rfl) rfl hcall1 ?_
 rintro _ w ⟨y1, ba1, ca1, ⟨hy1, rfl⟩, hq⟩
 obtain ⟨L1, hp, hN1, hd1⟩ := Hp.nextN (K := [_, _, _, _]) (L := []) hp hq
 have hp : Hp w0 _ (_ :: _ :: _ :: _ :: _ :: L1) := hp
 have hd1 := nextD (x := x) (L := []) (.inl ⟨rfl, rfl⟩) hd1
 clear hq hcall1
 have ok1 : NetOkP y1.n := by rw [hy1]; exact g1.i
 have v1 : ∀ z, z ∈ r1.2 → litR y1.n z := by rw [hy1]; exact g1.v
 have le1 : leN x.n y1.n := by rw [hy1]; exact g1.le_
 have sg1 : ∀ l, l ∈ insOf R → ∀ z, z ∈ l → litP z (nodesL y1.n) := fun l hl z hz => (hsig l hl z hz).mono le1.1
 refine ops_run nopre rfl ?_; (repeat (first | (refine gLoad ?_; refine H_ldB hp rfl rfl ?_) | (refine gStore ?_; refine U_stBN hp rfl rfl rfl rfl ?_; intro w hp; refine ops_run nopre rfl ?_)))
 refine h_cond_dec (fun hg => False.elim (by omega)) (fun _ => ?_); refine h_cond_f rfl rfl ?_; (repeat (refine H_ldB hp rfl rfl ?_))
 have hpl2 : (pre ++ o :: u.ser).length = pre.length + 1 + u.ser.length := by simp [ExT.ser] <;> omega
 have hcall2 := ihv (pre ++ o :: u.ser) (post) (by rw [hops]; simp [ExT.ser]) ht.2.2 y1 _ hp.net ok1 sg1 hp.rd hp.rs hp.rd
 rw [hpl2] at hcall2
 have g2 := ev_good adR_ok (sig := insOf R) wd v ok1 (fun l hl z hz => .inl (sg1 l hl z hz))
 have hl2 := evA_len adR (insOf R) wd v y1.n
 obtain ⟨r2, hr2⟩ : ∃ r, r = evA adR (insOf R) wd v y1.n := ⟨_, rfl⟩
 rw [← hr2] at hcall2 g2 hl2
 refine h_call rfl Tryz.func83 (by kernel_rfl) rfl hcall2 ?_
 rintro _ w ⟨y2, ba2, ca2, ⟨hy2, rfl⟩, hq⟩
 obtain ⟨L2, hp, hN2, hd2⟩ := Hp.nextN (K := [_, _, _, _, _]) (L := L1) hp hq
 have hp : Hp w0 _ (_ :: _ :: _ :: _ :: _ :: _ :: L2) := hp
 have hd2 := nextD (x := x) (L := L1) hd1 hd2
 clear hq hcall2
 have ok2 : NetOkP y2.n := by rw [hy2]; exact g2.i
 have v2 : ∀ z, z ∈ r2.2 → litR y2.n z := by rw [hy2]; exact g2.v
 have le2 : leN y1.n y2.n := by rw [hy2]; exact g2.le_
 have sg2 : ∀ l, l ∈ insOf R → ∀ z, z ∈ l → litP z (nodesL y2.n) := fun l hl z hz => (sg1 l hl z hz).mono le2.1
 refine ops_run nopre rfl ?_; (repeat (first | (refine gLoad ?_; refine H_ldB hp rfl rfl ?_) | (refine gStore ?_; refine U_stBN hp rfl rfl rfl rfl ?_; intro w hp; refine ops_run nopre rfl ?_)))
 refine h_cond_dec (fun _ => ?_) (fun hg => False.elim (by omega)); refine h_cond_t rfl rfl ?_; (repeat (refine H_ldB hp rfl rfl ?_))
 have v12 : ∀ z, z ∈ r1.2 → litR y2.n z := fun z hz => adR_ok.mono le2 (v1 z hz)
 refine h_call rfl Tryz.func143 (by kernel_rfl) rfl (l11Two_h y2 o.kind hk5 ba1 ba2 ca1 ca2 wd hw r1.2 r2.2 hl1 hl2 _ hp.net ok2 hp.rd hp.rd v12 v2) ?_
 rintro _ w ⟨z, bz, cz, ⟨ez, rfl⟩, hq⟩
 have hp := hp.call2 hq
 clear hq
 refine ops_run nopre rfl ?_; (repeat (first | (refine gLoad ?_; refine H_ldB hp rfl rfl ?_) | (refine gStore ?_; refine U_stBN hp rfl rfl rfl rfl ?_; intro w hp; refine ops_run nopre rfl ?_)))
 refine R_ret3v hp rfl ?_
 have hfin : evA adR (insOf R) wd (ExT.bin o u v) x.n = twoA adR wd o.kind y2.n r1.2 r2.2 := by rw [hy2, hr2, hy1, hr1]; rfl
 rw [hfin, show pre.length + (ExT.bin o u v).ser.length = pre.length + 1 + u.ser.length + v.ser.length by simp [ExT.ser]; omega]
 exact ⟨z, bz, cz, ⟨ez, rfl⟩, .inr ((hp.f1).tk 2)⟩
theorem l11Tri (R : List (RowA Int)) (sa : Option Addr) (sc wd : Nat) (hw : 1 ≤ wd ∧ wd ≤ 4) (ops : List OpL) (oa : Option Addr) (oc : Nat) (hol : ops.length ≤ 15) (hRl : R.length ≤ 1000) (hRg : ∀ i, i < R.length → (R.getD i default).ins.length ≤ 1000) (o : OpL) (u v q : ExT) (ihu : ExprS R sa sc wd ops oa oc u) (ihv : ExprS R sa sc wd ops oa oc v) (ihq : ExprS R sa sc wd ops oa oc q) : ExprS R sa sc wd ops oa oc (.tri o u v q) := by
 intro pre post hops ht x w0 hX hok hsig hS hQ hO
 have hlen : ops.length = pre.length + (ExT.tri o u v q).ser.length + post.length := by rw [hops]; simp only [List.length_append]
 have hpos := ExT.pos (ExT.tri o u v q)
 have hat : ops.getD pre.length default = o := by
  rw [hops, List.append_assoc, List.getD_eq_getElem?_getD, List.getElem?_append_right (Nat.le_refl _), Nat.sub_self]; rfl
 refine enter Tryz.S83ok _ _ rfl rfl (by show _ ≤ _; simp only [List.length]; decide) (fun C => ?_); have hp := Hp.nil w0; refine h_run rfl ?_; skip; (first | refine H_box hp ?_ | refine H_alloc hp rfl ?_); intro w b5 hx hp; refine ops_run nopre rfl ?_; skip; (first | refine H_box hp ?_ | refine H_alloc hp rfl ?_); intro w b10 hx hp; refine ops_run nopre rfl ?_; (repeat (refine H_ldEN hp rfl (by omega) rfl rfl ?_))
 (first | refine H_box hp ?_ | refine H_alloc hp rfl ?_); intro w b13 hx hp; refine ops_run nopre rfl ?_; (repeat (first | (refine gLoad ?_; refine H_ldB hp rfl rfl ?_) | (refine gStore ?_; refine U_stBN hp rfl rfl rfl rfl ?_; intro w hp; refine ops_run nopre rfl ?_) | (refine gBuild ?_; refine U_litI hp rfl rfl rfl rfl rfl rfl rfl rfl rfl rfl ?_; intro w _ hx hp; refine ops_run nopre rfl ?_)))
 rw [hat] at hp ⊢
 refine h_call rfl Tryz.func139 (by kernel_rfl) rfl (specOpArity_h o.kind _) ?_; rintro _ w ⟨rfl, hx⟩; have hp := hp.ext hx; refine ops_run nopre rfl ?_; skip
 have hk12 : o.kind = 12 := by
  have h1 : arL o.kind = 3 := ht.1
  unfold arL at h1
  repeat' split at h1
  all_goals omega
 rw [ht.1]
 refine h_cond_f rfl rfl ?_; (repeat (refine H_ldB hp rfl rfl ?_))
 have hp : Hp w0 _ [rO 3 1 eI _ _ ([] : List Int), rB b13 132 [.int .i64 o.kind, .int .i64 o.a, .int .i64 o.b], rB b10 33 (cellsV Tryz.ti33.zero), rB b5 33 x.cs] := hp
 have hpl1 : (pre ++ [o]).length = pre.length + 1 := by simp [ExT.ser] <;> omega
 have hcall1 := ihu (pre ++ [o]) (v.ser ++ q.ser ++ post) (by rw [hops]; simp [ExT.ser]) ht.2.1 x _ hp.net hok hsig hp.rd hp.rs hp.rd
 rw [hpl1] at hcall1
 rw [show ((pre.length + 1 : Nat) : Int) = (pre.length : Int) + 1 from by simp] at hcall1
 have g1 := ev_good adR_ok (sig := insOf R) wd u hok (fun l hl z hz => .inl (hsig l hl z hz))
 have hl1 := evA_len adR (insOf R) wd u x.n
 obtain ⟨r1, hr1⟩ : ∃ r, r = evA adR (insOf R) wd u x.n := ⟨_, rfl⟩
 rw [← hr1] at hcall1 g1 hl1
 refine h_call rfl Tryz.func83 (by kernel_rfl) rfl hcall1 ?_
 rintro _ w ⟨y1, ba1, ca1, ⟨hy1, rfl⟩, hq⟩
 obtain ⟨L1, hp, hN1, hd1⟩ := Hp.nextN (K := [_, _, _, _]) (L := []) hp hq
 have hp : Hp w0 _ (_ :: _ :: _ :: _ :: _ :: L1) := hp
 have hd1 := nextD (x := x) (L := []) (.inl ⟨rfl, rfl⟩) hd1
 clear hq hcall1
 have ok1 : NetOkP y1.n := by rw [hy1]; exact g1.i
 have v1 : ∀ z, z ∈ r1.2 → litR y1.n z := by rw [hy1]; exact g1.v
 have le1 : leN x.n y1.n := by rw [hy1]; exact g1.le_
 have sg1 : ∀ l, l ∈ insOf R → ∀ z, z ∈ l → litP z (nodesL y1.n) := fun l hl z hz => (hsig l hl z hz).mono le1.1
 refine ops_run nopre rfl ?_; (repeat (first | (refine gLoad ?_; refine H_ldB hp rfl rfl ?_) | (refine gStore ?_; refine U_stBN hp rfl rfl rfl rfl ?_; intro w hp; refine ops_run nopre rfl ?_)))
 refine h_cond_dec (fun hg => False.elim (by omega)) (fun _ => ?_); refine h_cond_f rfl rfl ?_; (repeat (refine H_ldB hp rfl rfl ?_))
 have hpl2 : (pre ++ o :: u.ser).length = pre.length + 1 + u.ser.length := by simp [ExT.ser] <;> omega
 have hcall2 := ihv (pre ++ o :: u.ser) (q.ser ++ post) (by rw [hops]; simp [ExT.ser]) ht.2.2.1 y1 _ hp.net ok1 sg1 hp.rd hp.rs hp.rd
 rw [hpl2] at hcall2
 have g2 := ev_good adR_ok (sig := insOf R) wd v ok1 (fun l hl z hz => .inl (sg1 l hl z hz))
 have hl2 := evA_len adR (insOf R) wd v y1.n
 obtain ⟨r2, hr2⟩ : ∃ r, r = evA adR (insOf R) wd v y1.n := ⟨_, rfl⟩
 rw [← hr2] at hcall2 g2 hl2
 refine h_call rfl Tryz.func83 (by kernel_rfl) rfl hcall2 ?_
 rintro _ w ⟨y2, ba2, ca2, ⟨hy2, rfl⟩, hq⟩
 obtain ⟨L2, hp, hN2, hd2⟩ := Hp.nextN (K := [_, _, _, _, _]) (L := L1) hp hq
 have hp : Hp w0 _ (_ :: _ :: _ :: _ :: _ :: _ :: L2) := hp
 have hd2 := nextD (x := x) (L := L1) hd1 hd2
 clear hq hcall2
 have ok2 : NetOkP y2.n := by rw [hy2]; exact g2.i
 have v2 : ∀ z, z ∈ r2.2 → litR y2.n z := by rw [hy2]; exact g2.v
 have le2 : leN y1.n y2.n := by rw [hy2]; exact g2.le_
 have sg2 : ∀ l, l ∈ insOf R → ∀ z, z ∈ l → litP z (nodesL y2.n) := fun l hl z hz => (sg1 l hl z hz).mono le2.1
 refine ops_run nopre rfl ?_; (repeat (first | (refine gLoad ?_; refine H_ldB hp rfl rfl ?_) | (refine gStore ?_; refine U_stBN hp rfl rfl rfl rfl ?_; intro w hp; refine ops_run nopre rfl ?_)))
 refine h_cond_dec (fun hg => False.elim (by omega)) (fun _ => ?_); refine h_cond_f rfl rfl ?_; (repeat (refine H_ldB hp rfl rfl ?_))
 have hpl3 : (pre ++ o :: (u.ser ++ v.ser)).length = pre.length + 1 + u.ser.length + v.ser.length := by simp [ExT.ser] <;> omega
 have hcall3 := ihq (pre ++ o :: (u.ser ++ v.ser)) (post) (by rw [hops]; simp [ExT.ser]) ht.2.2.2 y2 _ hp.net ok2 sg2 hp.rd hp.rs hp.rd
 rw [hpl3] at hcall3
 have g3 := ev_good adR_ok (sig := insOf R) wd q ok2 (fun l hl z hz => .inl (sg2 l hl z hz))
 have hl3 := evA_len adR (insOf R) wd q y2.n
 obtain ⟨r3, hr3⟩ : ∃ r, r = evA adR (insOf R) wd q y2.n := ⟨_, rfl⟩
 rw [← hr3] at hcall3 g3 hl3
 refine h_call rfl Tryz.func83 (by kernel_rfl) rfl hcall3 ?_
 rintro _ w ⟨y3, ba3, ca3, ⟨hy3, rfl⟩, hq⟩
 obtain ⟨L3, hp, hN3, hd3⟩ := Hp.nextN (K := [_, _, _, _, _, _]) (L := L2) hp hq
 have hp : Hp w0 _ (_ :: _ :: _ :: _ :: _ :: _ :: _ :: L3) := hp
 have hd3 := nextD (x := x) (L := L2) hd2 hd3
 clear hq hcall3
 have ok3 : NetOkP y3.n := by rw [hy3]; exact g3.i
 have v3 : ∀ z, z ∈ r3.2 → litR y3.n z := by rw [hy3]; exact g3.v
 have le3 : leN y2.n y3.n := by rw [hy3]; exact g3.le_
 have sg3 : ∀ l, l ∈ insOf R → ∀ z, z ∈ l → litP z (nodesL y3.n) := fun l hl z hz => (sg2 l hl z hz).mono le3.1
 refine ops_run nopre rfl ?_; (repeat (refine U_stBN hp rfl rfl rfl rfl ?_; intro w hp; refine ops_run nopre rfl ?_))
 have v13 : ∀ z, z ∈ r1.2 → litR y3.n z := fun z hz => adR_ok.mono (leN.trans le2 le3) (v1 z hz)
 have v23 : ∀ z, z ∈ r2.2 → litR y3.n z := fun z hz => adR_ok.mono le3 (v2 z hz)
 refine h_loop6 [3, 4, 5, 10, 14, 16, 17, 18, 19, 20] (fun (k : Nat) (_ : NetA) (_ : List Res) (bo : Option Addr) (co : Nat) (_ : Unit) => [(3, .int .i64 ((pre.length + 1 + u.ser.length + v.ser.length + q.ser.length : Nat) : Int)), (4, .int .i64 (wd : Int)), (5, .pointer (some ⟨b5, 0, none⟩)), (10, .pointer (some ⟨b10, 0, none⟩)), (14, .slice bo 0 co), (16, .slice ba1 wd ca1), (17, .slice ba2 wd ca2), (18, .slice ba3 wd ca3), (19, .int .i64 (anyTo adR y3.n r1.2 k).2), (20, .int .i64 (k : Int))])
  (fun k y N bo co _ w' => (k ≤ wd ∧ y.n = (anyTo adR y3.n r1.2 k).1 ∧ NetH w0 N y) ∧ Hp w0 w' (rO 3 1 eI ba3 ca3 r3.2 :: rO 3 1 eI ba2 ca2 r2.2 :: rO 3 1 eI ba1 ca1 r1.2 :: rO 3 1 eI bo co ([] : List Int) :: rB b13 132 [.int .i64 o.kind, .int .i64 o.a, .int .i64 o.b] :: rB b10 33 (cellsV Tryz.ti33.zero) :: rB b5 33 y.cs :: N)) (fun k _ _ _ _ _ => wd - k) 0 y3 L3 _ _ () rfl ⟨⟨by omega, rfl, hN3⟩, hp⟩ ?_
 clear hp
 rintro k y N bo co _ w1 ⟨⟨hk, hy, hN⟩, hp⟩ IH C
 obtain ⟨hi, hve, hle⟩ := any_good adR_ok ok3 v13 k
 obtain ⟨r, hr⟩ : ∃ r, r = anyTo adR y3.n r1.2 k := ⟨_, rfl⟩
 rw [← hr] at hi hve hle hy ⊢
 have hiy : NetOkP y.n := by rw [hy]; exact hi
 have va := adR_ok.mono hle (getD_V adR_ok ok3 v13 k)
 refine h_run rfl ?_; skip
 refine h_cond_dec (fun hlt => ?_) (fun hlt => ?_)
 ·have hkw : k < wd := by omega
  have eK : anyTo adR y3.n r1.2 (k + 1) = adR.or r.1 r.2 (r1.2.getD k default) := by rw [anyTo, ← hr]
  have eX : addF y.n [r.2, r1.2.getD k default] (addOrL y.n r.2 (r1.2.getD k default)) = anyTo adR y3.n r1.2 (k + 1) := by rw [hy, eK]; rfl
  refine h_cond_t rfl rfl ?_; skip
  refine N_draw hp (by kernel_rfl) (by kernel_rfl) rfl rfl ?_; (repeat (refine nLoad ?_; first | refine N_ldB rfl rfl rfl ?_ | refine N_ldEN rfl (by omega) rfl rfl rfl ?_))
  refine N_call Tryz.func144 (by kernel_rfl) rfl (fun F w hp => ?_); refine Ret.mono (specAddOr_x y r.2 (r1.2.getD k default) _ hp.pre.net hiy.S' hiy.W (hve.i64 hi) (va.i64 hi)) ?_; rintro _ w ⟨z1, ⟨ez1, rfl⟩, hq⟩; have hp := hp.callF1 hq; refine ⟨fun _ => hp.sub (by (repeat (first | exact List.sublist_append_left _ _ | apply List.Sublist.cons))), _, hp, ?_⟩; clear hp; refine N_ops rfl rfl ?_; (repeat (refine N_stBN rfl rfl rfl rfl (by kernel_rfl) ?_; refine N_ops rfl rfl ?_))
  rw [eX] at ez1 ⊢
  refine N_end ?_; intro w hp C; refine h_run rfl ?_; skip
  have hp := (hp.f7.f7.f7.f7.f7.f7.f7).tk 8
  exact IH (k + 1) z1 [rNet z1] bo co () _ _ _ (by omega) rfl ⟨⟨by omega, ez1, inferInstance⟩, hp⟩
 ·obtain rfl : k = wd := by omega
  clear IH
  have v2e : ∀ z, z ∈ r2.2 → litR y.n z := fun z hz => by rw [hy]; exact adR_ok.mono hle (v23 z hz)
  have v3e : ∀ z, z ∈ r3.2 → litR y.n z := fun z hz => by rw [hy]; exact adR_ok.mono hle (v3 z hz)
  have vee : litR y.n r.2 := by rw [hy]; exact hve
  have hfin : evA adR (insOf R) k (ExT.tri o u v q) x.n = bitTo (fun s' a b => adR.mux s' r.2 a b) y.n r2.2 r3.2 k := by
   have h1 : evA adR (insOf R) k (ExT.tri o u v q) x.n = muxA adR y3.n r1.2 r2.2 r3.2 := by rw [hy3, hr3, hy2, hr2, hy1, hr1]; rfl
   rw [h1]; unfold muxA; rw [hl1, hl2, ← hr, hy]
  obtain ⟨e, he⟩ : ∃ e, e = r.2 := ⟨_, rfl⟩
  rw [← he] at vee hve hfin ⊢
  obtain ⟨y4, hy4⟩ : ∃ y4, y4 = y := ⟨_, rfl⟩
  rw [← hy4] at hy hiy v2e v3e vee hN hp hfin
  clear hy4
  refine h_cond_f rfl rfl ?_; skip
  refine h_loop6 [3, 4, 5, 10, 14, 17, 18, 19, 21] (fun (j : Nat) (_ : NetA) (_ : List Res) (ob : Option Addr) (oc' : Nat) (_ : Unit) => [(3, .int .i64 ((pre.length + 1 + u.ser.length + v.ser.length + q.ser.length : Nat) : Int)), (4, .int .i64 (k : Int)), (5, .pointer (some ⟨b5, 0, none⟩)), (10, .pointer (some ⟨b10, 0, none⟩)), (14, .slice ob (bitTo (fun s' a b => adR.mux s' e a b) y4.n r2.2 r3.2 j).2.length oc'), (17, .slice ba2 k ca2), (18, .slice ba3 k ca3), (19, .int .i64 e), (21, .int .i64 (j : Int))])
   (fun j y N ob oc' _ w' => (j ≤ k ∧ y.n = (bitTo (fun s' a b => adR.mux s' e a b) y4.n r2.2 r3.2 j).1 ∧ NetH w0 N y ∧ (0 < j → N = [rNet y])) ∧ Hp w0 w' (rO 3 1 eI ba3 ca3 r3.2 :: rO 3 1 eI ba2 ca2 r2.2 :: rO 3 1 eI ba1 ca1 r1.2 :: rO 3 1 eI ob oc' (bitTo (fun s' a b => adR.mux s' e a b) y4.n r2.2 r3.2 j).2 :: rB b13 132 [.int .i64 o.kind, .int .i64 o.a, .int .i64 o.b] :: rB b10 33 (cellsV Tryz.ti33.zero) :: rB b5 33 y.cs :: N)) (fun j _ _ _ _ _ => k - j) 0 y4 N bo co () rfl ⟨⟨by omega, rfl, hN, fun h => by omega⟩, hp⟩ ?_
  clear hp
  rintro j y N ob oc' _ w1 ⟨⟨hj, hyj, hNj, hN2⟩, hp⟩ IH C
  have g := bit_good adR_ok (s := y4.n) (f := fun s' a b => adR.mux s' e a b) (fun s' a b h0 h1 h2 h3 => adR_ok.mux h1 (adR_ok.mono h0 vee) h2 h3) hiy v2e v3e j
  have hbl := bitTo_len (fun s' a b => adR.mux s' e a b) y4.n r2.2 r3.2 j
  obtain ⟨s, hs⟩ : ∃ s, s = (bitTo (fun s' a b => adR.mux s' e a b) y4.n r2.2 r3.2 j) := ⟨_, rfl⟩
  rw [← hs] at g hp hbl hyj ⊢
  have hi2 : NetOkP s.1 := g.i
  have hiy2 : NetOkP y.n := by rw [hyj]; exact hi2
  have va := adR_ok.mono g.le_ (getD_V adR_ok hiy v2e j)
  have vb := adR_ok.mono g.le_ (getD_V adR_ok hiy v3e j)
  have ve := adR_ok.mono g.le_ vee
  refine h_run rfl ?_; skip
  refine h_cond_dec (fun hlt2 => ?_) (fun hlt2 => ?_)
  ·have hjw : j < k := by omega
   have eK : (bitTo (fun s' a b => adR.mux s' e a b) y4.n r2.2 r3.2 (j + 1)) = ((adR.mux s.1 e (r2.2.getD j default) (r3.2.getD j default)).1, s.2 ++ [(adR.mux s.1 e (r2.2.getD j default) (r3.2.getD j default)).2]) := by rw [bitTo, ← hs]
   have eX : addF y.n [e, r2.2.getD j default, r3.2.getD j default] (addMuxL y.n e (r2.2.getD j default) (r3.2.getD j default)) = adR.mux s.1 e (r2.2.getD j default) (r3.2.getD j default) := by rw [hyj]; rfl
   refine h_cond_t rfl rfl ?_; skip
   refine N_draw hp (by kernel_rfl) (by kernel_rfl) rfl rfl ?_; (repeat (refine nLoad ?_; first | refine N_ldB rfl rfl rfl ?_ | refine N_ldEN rfl (by omega) rfl rfl rfl ?_))
   refine N_call Tryz.func145 (by kernel_rfl) rfl (fun F w hp => ?_); refine Ret.mono (specAddMux_x y e (r2.2.getD j default) (r3.2.getD j default) _ hp.pre.net hiy2.S' hiy2.W (ve.i64 hi2) (va.i64 hi2) (vb.i64 hi2)) ?_; rintro _ w ⟨z1, ⟨ez1, rfl⟩, hq⟩; have hp := hp.callF1 hq; refine ⟨fun _ => hp.sub (by (repeat (first | exact List.sublist_append_left _ _ | apply List.Sublist.cons))), _, hp, ?_⟩; clear hp; refine N_ops rfl rfl ?_; skip
   rw [eX] at ez1 ⊢
   (first | refine N_box ?_ | refine N_alloc rfl ?_); intro b22; refine N_ops rfl rfl ?_; (repeat (refine N_stBN rfl rfl rfl rfl (by kernel_rfl) ?_; refine N_ops rfl rfl ?_))
   refine N_end ?_; intro w hp C; refine h_run rfl ?_; (repeat (first | (refine gLoad ?_; refine H_ldB hp rfl rfl ?_) | (refine gStore ?_; refine U_stBN hp rfl rfl rfl rfl ?_; intro w hp; refine ops_run nopre rfl ?_) | (refine gBuild ?_; refine U_litI hp rfl rfl rfl rfl rfl rfl rfl rfl rfl rfl ?_; intro w _ hx hp; refine ops_run nopre rfl ?_)))
   refine U_append hp rfl rfl rfl rfl rfl rfl rfl (by decide) rfl (by first | omega | (simp only [List.length_append, List.length_cons, List.length_nil, List.length_take, List.length_drop, List.length_set, List.length_replicate, List.length_map]; omega)) rfl rfl ?_; intro o' c' w hp hnil; refine ops_run nopre rfl ?_; skip
   have hp := hp.drop.drop
   have hp := (hp.f7.f7.f7.f7.f7.f7.f7).tk 8
   refine IH (j + 1) z1 [rNet z1] o' c' () _ _ _ (by omega) (by rw [eK]; rfl) ⟨⟨by omega, by rw [eK]; exact ez1, inferInstance, fun _ => rfl⟩, ?_⟩
   rw [eK]
   exact hp
  ·obtain rfl : j = k := by omega
   have hNN := hN2 (by omega)
   subst hNN
   clear IH
   refine h_cond_f rfl rfl ?_; (repeat (first | (refine gLoad ?_; refine H_ldB hp rfl rfl ?_) | (refine gStore ?_; refine U_stBN hp rfl rfl rfl rfl ?_; intro w hp; refine ops_run nopre rfl ?_)))
   refine R_ret3v hp rfl ?_
   rw [hfin, ← hs, show pre.length + (ExT.tri o u v q).ser.length = pre.length + 1 + u.ser.length + v.ser.length + q.ser.length by simp [ExT.ser]; omega]
   exact ⟨y, ob, oc', ⟨hyj, by rw [hbl]; rfl⟩, .inr ((hp.f7.f4).tk 2)⟩
theorem l11Expr_h (R : List (RowA Int)) (sa : Option Addr) (sc wd : Nat) (hw : 1 ≤ wd ∧ wd ≤ 4) (ops : List OpL) (oa : Option Addr) (oc : Nat) (hol : ops.length ≤ 15) (hRl : R.length ≤ 1000) (hRg : ∀ i, i < R.length → (R.getD i default).ins.length ≤ 1000) : ∀ t : ExT, ExprS R sa sc wd ops oa oc t
 | .leaf o => l11Leaf R sa sc wd hw ops oa oc hol hRl hRg o
 | .un o u => l11Un R sa sc wd hw ops oa oc hol hRl hRg o u (l11Expr_h R sa sc wd hw ops oa oc hol hRl hRg u)
 | .bin o u v => l11Bin R sa sc wd hw ops oa oc hol hRl hRg o u v (l11Expr_h R sa sc wd hw ops oa oc hol hRl hRg u) (l11Expr_h R sa sc wd hw ops oa oc hol hRl hRg v)
 | .tri o u v q => l11Tri R sa sc wd hw ops oa oc hol hRl hRg o u v q (l11Expr_h R sa sc wd hw ops oa oc hol hRl hRg u) (l11Expr_h R sa sc wd hw ops oa oc hol hRl hRg v) (l11Expr_h R sa sc wd hw ops oa oc hol hRl hRg q)
end Go.Proofs
