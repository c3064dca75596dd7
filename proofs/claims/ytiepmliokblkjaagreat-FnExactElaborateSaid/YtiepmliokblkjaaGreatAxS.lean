/- Texts that belong together; each under its stated conditions. -/
import Derived.Test.YtiepmliokblkjaaGreatProg
import Derived.Test.YtiepmliokblkjaaGreatNetR
import Derived.KernelRfl
import Derived.ProofKit
import Derived.Deep.Slices
import Derived.Deep.Fields
import Derived.ChangeSame
import Derived.ChangeArms
import Derived.ChangeShapes
import Derived.Test.YtiepmliokblkjaaGreatMapLaw
import Derived.Test.YtiepmliokblkjaaGreatNet
import Derived.Test.YtiepmliokblkjaaGreatModR
import Derived.Test.YtiepmliokblkjaaGreatOpsOk
import Derived.Test.YtiepmliokblkjaaGreatAdder
import Derived.Test.YtiepmliokblkjaaGreatAddLaw
set_option linter.all false
section
namespace Go.Proofs
open Go.Xw Go.Deep Go.ChangeShapes Go.WideShapes
set_option maxRecDepth 100000
theorem dec_int {H : Type} {enc : TypeId × Value → H} {P : Program} {w : World} {base : Nat} {spare : Nat → Bool} {held : Bool} {t : TypeId} {fuel : Nat} {cs : List Value} {y : DataW H × List MemPlace}
  (ht : P.underlying t = some (.int .i64)) (h : DataW.trod enc P w base spare held fuel t cs = some y) : ∃ x : Int, cs = eI x ∧ i64R x := by
 obtain ⟨n, h1, _, h2⟩ := DataW.trod_int ht h
 refine ⟨n, h1, ?_⟩
 have e1 : IntKind.i64.min = -9223372036854775808 := rfl
 have e2 : IntKind.i64.max = 9223372036854775807 := rfl
 simp only [Lit.wf, Bool.and_eq_true, decide_eq_true_eq] at h2
 unfold i64R
 omega
theorem dec_slice {H : Type} {enc : TypeId × Value → H} {P : Program} {w : World} {base : Nat} {spare : Nat → Bool} {held : Bool} {t e : TypeId} {fuel s : Nat} {cs : List Value} {y : DataW H × List MemPlace} {α : Type} [Inhabited α] {en : α → List Value} {Q : α → Prop}
  (ht : P.underlying t = some (.slice e)) (hs : P.cellsOf e = s) (he : EncOk en s) (hd : ∀ (n : Nat) (cs : List Value) (z : DataW H × List MemPlace), DataW.trod enc P w base spare held n e cs = some z → ∃ x, cs = en x ∧ Q x)
  (h : DataW.trod enc P w base spare held fuel t cs = some y) : ∃ (a : Option Addr) (X : List α) (c : Nat), cs = [.slice a X.length c] ∧ Sl w a X.length s (fL en X) ∧ X.length ≤ c ∧ X.length ≤ maxLen ∧ ∀ i, i < X.length → Q (X.getD i default) := by
 rcases open_slice ht h with ⟨h1, _⟩ | ⟨a, len, cap, m, n, D, Pl, hcs, hb, hl, hm, hmm, hx, hi⟩
 ·exact ⟨none, [], 0, h1, Sl.nil _ _ _ _, by simp, by simp, fun i hi => absurd hi (by simp)⟩
 ·have hlm : len ≤ m := by
   rw [hmm]
   by_cases h2 : spare a.block = true
   ·rw [if_pos h2]; exact hl
   ·rw [if_neg h2]; exact Nat.le_refl _
  rw [hs] at hi
  have key : ∀ i, ∃ x : α, i < m → (∀ j, j < s → w.cell? ((a.add (i * s)).add j) = (en x)[j]?) ∧ Q x := fun i => by
   by_cases him : i < m
   ·obtain ⟨cs', hc, ht'⟩ := hi i him
    obtain ⟨_, hcl, hat⟩ := World.cells?_some hc
    obtain ⟨x, hx, hq⟩ := hd _ _ _ ht'
    exact ⟨x, fun _ => ⟨fun j hj => by rw [hat j hj, hx], hq⟩⟩
   ·exact ⟨default, fun h => absurd h him⟩
  have hget : ∀ i, i < len → ((List.range len).map fun i => Classical.choose (key i)).getD i default = Classical.choose (key i) := fun i hi => by
   simp [List.getD_eq_getElem?_getD, hi]
  have hlen : ((List.range len).map fun i => Classical.choose (key i)).length = len := by simp
  refine ⟨some a, (List.range len).map fun i => Classical.choose (key i), cap, by rw [hlen]; exact hcs, ?_, by rw [hlen]; omega, by rw [hlen]; omega, fun i hi => ?_⟩
  ·rw [hlen]
   refine ⟨fun _ => by simp, fun i j hi hj => ?_⟩
   have h3 := (Classical.choose_spec (key i) (by omega)).1 j hj
   simp only [elemAddr, Option.getD_some, Int.toNat_natCast]
   rw [h3]
   have h4 : j < (en (Classical.choose (key i))).length := by rw [he.len]; exact hj
   simp only [fL, nthL_eq]
   rw [hget i hi, List.getElem?_eq_getElem h4]
  ·rw [hlen] at hi
   rw [hget i hi]
   exact (Classical.choose_spec (key i) (by omega)).2
theorem dec_fields {H : Type} {enc : TypeId × Value → H} {P : Program} {w : World} {base : Nat} {spare : Nat → Bool} {held : Bool} {t : TypeId} {fuel : Nat} {cs : List Value} {y : DataW H × List MemPlace} {fs : Array Field}
  (ht : P.underlying t = some (.struct fs)) (hone : oneCellFields P fs = true) (hC : P.cellsOf t = fs.size) (h : DataW.trod enc P w base spare held fuel t cs = some y) :
  cs.length = fs.size ∧ ∀ (i : Nat) (f : Field), fs[i]? = some f → ∃ (n : Nat) (v : Value) (z : DataW H × List MemPlace), cs[i]? = some v ∧ DataW.trod enc P w base spare held n f.type [v] = some z := by
 obtain ⟨ys, n', _, _, hlen, hyl, hf⟩ := DataW.trod_struct ht h
 rw [hC] at hlen
 refine ⟨hlen, fun i f hi => ?_⟩
 obtain ⟨ho, hk⟩ := hone_of hone i f hi
 have hil : i < fs.size := (Array.getElem?_eq_some_iff.1 hi).1
 have h1 := hf i f hi
 rw [ho, hk] at h1
 have hone' : (cs.drop i).take 1 = [cs[i]'(by omega)] := by
  rw [List.drop_eq_getElem_cons (by omega)]
  rfl
 rw [hone'] at h1
 have hys : ys[i]? = some (ys[i]'(by omega)) := List.getElem?_eq_getElem (by omega)
 exact ⟨n', _, _, List.getElem?_eq_getElem (by omega), h1.trans hys⟩
theorem dec_ints {H : Type} {enc : TypeId × Value → H} {w : World} {base : Nat} {spare : Nat → Bool} {held : Bool} {fuel : Nat} {cs : List Value} {y : DataW H × List MemPlace}
  (h : DataW.trod enc Tryz.prog w base spare held fuel 31 cs = some y) : ∃ (a : Option Addr) (X : List Int) (c : Nat), cs = [.slice a X.length c] ∧ Sl w a X.length 1 (fL eI X) ∧ X.length ≤ maxLen ∧ ∀ i, i < X.length → i64R (X.getD i default) := by
 obtain ⟨a, X, c, h1, h2, _, h3, h4⟩ := dec_slice Tryz.underlying31 (by kernel_rfl) eI_ok (fun _ _ _ hz => dec_int Tryz.underlying3 hz) h
 exact ⟨a, X, c, h1, h2, h3, h4⟩
end Go.Proofs
end
section
namespace Go.Xw
class RsR (w : World) (R : List (RowA Int)) : Prop where
 h : ∀ r, r ∈ R → Rd w r.ia 1 eI r.ins
theorem RsR.ext {w w' : World} {R : List (RowA Int)} (h : RsR w R) (hx : Ext w w') : RsR w' R := ⟨fun r hr => (h.h r hr).ext hx⟩
theorem RsR.at_ {w : World} {R : List (RowA Int)} (h : RsR w R) {i : Nat} (hi : i < R.length) : Rd w (R.getD i default).ia 1 eI (R.getD i default).ins := h.h _ (getD_memR hi)
theorem Hp.rs {w0 w : World} {L : List Res} (hp : Hp w0 w L) {R : List (RowA Int)} [h : RowsH w0 L 1 eI R] : RsR w R := ⟨fun r hr => ⟨h.h w hp r hr⟩⟩
instance (priority := low) RowsH.base {w0 : World} {L : List Res} {R : List (RowA Int)} [h : RsR w0 R] : RowsH w0 L 1 eI R := ⟨fun w hp r hr => ((h.h r hr).ext hp.x).h⟩
end Go.Xw
namespace Go.Proofs
open Go.Xw Go.Deep Go.ChangeShapes Go.WideShapes
set_option maxRecDepth 100000
set_option maxHeartbeats 2000000
attribute [local irreducible] Holds elemAddr
end Go.Proofs
end
section
namespace Go.Xw
theorem litR.i64 {n : NetL} (h : NetOkP n) {z : Int} (hz : litR n z) : i64R z := by
 have := NetOkP.count h
 unfold i64R
 rcases hz with hz | hz | hz
 ·unfold litP at hz; omega
 ·omega
 ·omega
end Go.Xw
namespace Go.Proofs
open Go.Xw
set_option maxRecDepth 100000
set_option maxHeartbeats 2000000
attribute [local irreducible] Holds elemAddr
theorem l11Pick_h (a : Option Addr) (c n : Nat) (X : List Int) (hn : X.length = n) (k : Nat) (hk : k ≤ 1000) (w0 : World) (hR : Rd w0 a 1 eI X) (hl : X.length ≤ 1048576) :
  Ret Tryz.prog 141 [.slice a n c, .int .i64 (k : Int)] w0 (fun v w => v = .int .i64 (pickL X k) ∧ Ext w0 w) := by
 subst hn
 refine enter Tryz.S141ok _ _ rfl rfl (by show _ ≤ _; simp only [List.length]; decide) (fun C => ?_); have hp := Hp.nil w0; refine h_run rfl ?_; skip
 refine h_cond_dec (fun h => ?_) (fun h => ?_)
 ·refine h_cond_t rfl rfl ?_; (repeat (first | (refine gLoad ?_; refine H_ldEN hp rfl (by omega) rfl rfl ?_) | refine R_ret ?_))
  exact ⟨rfl, hp.x⟩
 ·refine h_cond_f rfl rfl ?_; (repeat (refine R_ret ?_))
  refine ⟨?_, hp.x⟩
  unfold pickL
  rw [List.getD_eq_getElem?_getD, List.getElem?_eq_none (by omega)]
  rfl
theorem l11Not_h (a : Option Addr) (c n : Nat) (X : List Int) (hn : X.length = n) (w0 : World) (hR : Rd w0 a 1 eI X) (hl : X.length ≤ 1000) (hxv : ∀ i, i < X.length → i64R (X.getD i default)) :
  Ret Tryz.prog 142 [.slice a n c] w0 (fun v w => ∃ b c', v = .slice b n c' ∧ Hp w0 w [rO 3 1 eI b c' (X.map lNot)]) := by
 subst hn
 refine enter Tryz.S142ok _ _ rfl rfl (by show _ ≤ _; simp only [List.length]; decide) (fun C => ?_); have hp := Hp.nil w0; refine h_run rfl ?_; (repeat (refine U_litI hp rfl rfl rfl rfl rfl rfl rfl rfl rfl rfl ?_; intro w _ hx hp; refine ops_run nopre rfl ?_))
 refine h_loop3 [0, 3, 4] (fun (i : Nat) (b : Option Addr) (c' : Nat) => [(0, .slice a X.length c), (3, .slice b ((X.take i).map lNot).length c'), (4, .int .i64 (i : Int))])
  (fun i b c' w' => i ≤ X.length ∧ Hp w0 w' [rO 3 1 eI b c' ((X.take i).map lNot)]) (fun i _ _ => X.length - i) 0 _ _ rfl ⟨by omega, hp⟩ ?_
 clear hp
 rintro i b c' w1 ⟨hi, hp⟩ IH C
 have hml : ((X.take i).map lNot).length = i := by simp; omega
 refine h_run rfl ?_; skip
 refine h_cond_dec (fun hlt => ?_) (fun hlt => ?_)
 ·have hlt' : i < X.length := by omega
  have hxi := hxv i hlt'
  have e : (X.take (i + 1)).map lNot = (X.take i).map lNot ++ [lNot (X.getD i default)] := by rw [take_snocC hlt', List.map_append]; rfl
  refine h_cond_t rfl rfl ?_; (repeat (refine H_ldEN hp rfl (by omega) rfl rfl ?_))
  refine h_call rfl Tryz.func172 (by kernel_rfl) rfl (l10Not_h (X.getD i default) _) ?_; rintro _ w ⟨rfl, hx⟩; have hp := hp.ext hx; refine ops_run nopre rfl ?_; (repeat (refine U_litI hp rfl rfl rfl rfl rfl rfl rfl rfl rfl rfl ?_; intro w _ hx hp; refine ops_run nopre rfl ?_))
  refine U_append hp rfl rfl rfl rfl rfl rfl rfl (by decide) rfl (by first | omega | (simp only [List.length_append, List.length_cons, List.length_nil, List.length_take, List.length_drop, List.length_set, List.length_replicate, List.length_map]; omega)) rfl rfl ?_; intro b' c'' w hp hnil; refine ops_run nopre rfl ?_; skip
  refine IH (i + 1) b' c'' _ _ _ (by omega) (by rw [e]; rfl) ⟨by omega, ?_⟩
  rw [e]
  exact hp.drop
 ·refine h_cond_f rfl rfl ?_; (repeat (refine R_ret ?_))
  obtain rfl : i = X.length := by omega
  rw [List.take_length] at hp
  exact ⟨b, c', by rw [hml], hp⟩
theorem l11Right_h (a : Option Addr) (c n : Nat) (X : List Int) (hn : X.length = n) (w0 : World) (hR : Rd w0 a 1 eI X) (hl : X.length ≤ 1000) :
  Ret Tryz.prog 84 [.slice a n c] w0 (fun v w => v = .bool (decide (∀ z, z ∈ X → 0 ≤ z)) ∧ Ext w0 w) := by
 subst hn
 refine enter Tryz.S84ok _ _ rfl rfl (by show _ ≤ _; simp only [List.length]; decide) (fun C => ?_); have hp := Hp.nil w0; refine h_run rfl ?_; skip
 refine h_loop [0, 3] (fun (i : Nat) => [(0, .slice a X.length c), (3, .int .i64 (i : Int))])
  (fun i w' => (i ≤ X.length ∧ ∀ j, j < i → 0 ≤ X.getD j default) ∧ Hp w0 w' []) (fun i => X.length - i) 0 rfl ⟨⟨by omega, fun j hj => by omega⟩, hp⟩ ?_
 clear hp
 rintro i w1 ⟨⟨hi, hall⟩, hp⟩ IH C
 refine h_run rfl ?_; skip
 refine h_cond_dec (fun hlt => ?_) (fun hlt => ?_)
 ·have hlt' : i < X.length := by omega
  refine h_cond_t rfl rfl ?_; (repeat (refine H_ldEN hp rfl (by omega) rfl rfl ?_))
  refine h_cond_dec (fun h0 => ?_) (fun h0 => ?_)
  ·refine h_cond_t rfl rfl ?_; (repeat (refine R_ret ?_))
   rw [decide_eq_false (fun h => by have := h _ (getD_mem hlt'); omega)]
   exact ⟨rfl, hp.x⟩
  ·refine h_cond_f rfl rfl ?_; skip
   refine IH (i + 1) _ _ _ (by omega) rfl ⟨⟨by omega, fun j hj => ?_⟩, hp⟩
   by_cases hji : j = i
   ·subst hji; omega
   ·exact hall j (by omega)
 ·refine h_cond_f rfl rfl ?_; (repeat (refine R_ret ?_))
  obtain rfl : i = X.length := by omega
  rw [decide_eq_true (mem_iff_getD.2 hall)]
  exact ⟨rfl, hp.x⟩
theorem l11Sum_h (x : NetA) (aA bA : Option Addr) (cA cB wd : Nat) (hw : 1 ≤ wd ∧ wd ≤ 4) (a b : List Int) (ci : Int) (hla : a.length = wd) (hlb : b.length = wd) (w0 : World) (hX : NetR w0 x) (hok : NetOkP x.n) (hA : Rd w0 aA 1 eI a) (hB : Rd w0 bA 1 eI b) (ha : ∀ z, z ∈ a → litR x.n z) (hb : ∀ z, z ∈ b → litR x.n z) (hc : litR x.n ci) :
  Ret Tryz.prog 173 [x.v, .slice aA wd cA, .slice bA wd cB, .int .i64 ci] w0 (fun v w => ∃ y b' c', (y.n = (sumA adR x.n a b ci).1 ∧ v = .tuple ⟨[y.v, .slice b' wd c']⟩) ∧ Hp w0 w [rNet y, rO 3 1 eI b' c' (sumA adR x.n a b ci).2]) := by
 have hfin : sumA adR x.n a b ci = ((sumTo adR x.n a b ci wd).1, (sumTo adR x.n a b ci wd).2.1) := by unfold sumA; rw [hla]
 refine enter Tryz.S173ok _ _ rfl rfl (by show _ ≤ _; simp only [List.length]; decide) (fun C => ?_); have hp := Hp.nil w0; refine h_run rfl ?_; skip; (first | refine H_box hp ?_ | refine H_alloc hp rfl ?_); intro w b4 hx hp; refine ops_run nopre rfl ?_; skip; (first | refine H_box hp ?_ | refine H_alloc hp rfl ?_); intro w b8 hx hp; refine ops_run nopre rfl ?_; (repeat (refine U_litI hp rfl rfl rfl rfl rfl rfl rfl rfl rfl rfl ?_; intro w _ hx hp; refine ops_run nopre rfl ?_))
 refine h_loop6 [1, 2, 3, 4, 8, 10, 11] (fun (k : Nat) (_ : NetA) (_ : List Res) (o : Option Addr) (oc : Nat) (_ : Unit) => [(1, .slice aA wd cA), (2, .slice bA wd cB), (3, .int .i64 (sumTo adR x.n a b ci k).2.2), (4, .pointer (some ⟨b4, 0, none⟩)), (8, .pointer (some ⟨b8, 0, none⟩)), (10, .slice o (sumTo adR x.n a b ci k).2.1.length oc), (11, .int .i64 (k : Int))])
  (fun k y N o oc _ w' => (k < wd ∧ y.n = (sumTo adR x.n a b ci k).1 ∧ NetH w0 N y) ∧ Hp w0 w' (rO 3 1 eI o oc (sumTo adR x.n a b ci k).2.1 :: rB b8 33 (cellsV Tryz.ti33.zero) :: rB b4 33 y.cs :: N)) (fun k _ _ _ _ _ => wd - k) 0 x [] _ _ () rfl ⟨⟨by omega, rfl, inferInstance⟩, hp⟩ ?_
 clear hp
 rintro k y N o oc _ w1 ⟨⟨hk, hy, hN⟩, hp⟩ IH C
 obtain ⟨g, gc⟩ := sum_good adR_ok hok ha hb hc k
 have hlo := sumTo_len adR x.n a b ci k
 obtain ⟨r, hr⟩ : ∃ r, r = sumTo adR x.n a b ci k := ⟨_, rfl⟩
 rw [← hr] at g gc hlo hp hy ⊢
 have hi : NetOkP r.1 := g.i
 have hiy : NetOkP y.n := by rw [hy]; exact hi
 have va := adR_ok.mono g.le_ (getD_V adR_ok hok ha k)
 have vb := adR_ok.mono g.le_ (getD_V adR_ok hok hb k)
 obtain ⟨u, hu⟩ : ∃ u, u = a.getD k default := ⟨_, rfl⟩
 obtain ⟨v, hv⟩ : ∃ v, v = b.getD k default := ⟨_, rfl⟩
 rw [← hu] at va
 rw [← hv] at vb
 obtain ⟨x1, x2, x3⟩ := adR_ok.xor hi va vb
 obtain ⟨y1, y2, y3⟩ := adR_ok.xor x1 x2 (adR_ok.mono x3 gc)
 have l1 := adR_ok.trans x3 y3
 have hX' : sumX adR r u v = adR.xor r.1 u v := rfl
 have hY' : sumY adR r u v = adR.xor (adR.xor r.1 u v).1 (adR.xor r.1 u v).2 r.2.2 := rfl
 refine h_run rfl ?_; skip
 refine h_cond_dec (fun _ => ?_) (fun hg => False.elim (by omega)); refine h_cond_t rfl rfl ?_; skip
 refine N_draw hp (by kernel_rfl) (by kernel_rfl) rfl rfl ?_; (repeat (refine nLoad ?_; first | refine N_ldB rfl rfl rfl ?_ | refine N_ldEN rfl (by omega) rfl rfl rfl ?_))
 rw [← hu, ← hv]
 refine N_call Tryz.func174 (by kernel_rfl) rfl (fun F w hp => ?_); refine Ret.mono (specAddXor_x y u v _ hp.pre.net hiy.S' hiy.W (va.i64 hi) (vb.i64 hi)) ?_; rintro _ w ⟨z1, ⟨ez1, rfl⟩, hq⟩; have hp := hp.callF1 hq; refine ⟨fun _ => hp.sub (by (repeat (first | exact List.sublist_append_left _ _ | apply List.Sublist.cons))), _, hp, ?_⟩; clear hp; refine N_ops rfl rfl ?_; skip
 (first | refine N_box ?_ | refine N_alloc rfl ?_); intro b12; refine N_ops rfl rfl ?_; (repeat (refine N_stBN rfl rfl rfl rfl (by kernel_rfl) ?_; refine N_ops rfl rfl ?_))
 refine N_end ?_; intro w hp C; refine h_run rfl ?_; (repeat (refine H_ldB hp rfl rfl ?_))
 have eX : addF y.n [u, v] (addXorL y.n u v) = adR.xor r.1 u v := by rw [hy]; rfl
 rw [eX] at ez1 ⊢
 have hz1 : NetOkP z1.n := by rw [ez1]; exact x1
 refine h_call rfl Tryz.func174 (by kernel_rfl) rfl (specAddXor_x z1 (adR.xor r.1 u v).2 r.2.2 _ hp.net hz1.S' hz1.W (x2.i64 x1) ((adR_ok.mono x3 gc).i64 x1)) ?_; rintro _ w ⟨z2, ⟨ez2, rfl⟩, hq⟩; have hx := hq.x; have hp := hp.call1 hq; refine ops_run nopre rfl ?_; (repeat (first | (refine gStore ?_; refine U_stBN hp rfl rfl rfl rfl ?_; intro w hp; refine ops_run nopre rfl ?_) | (refine gBuild ?_; refine U_litI hp rfl rfl rfl rfl rfl rfl rfl rfl rfl rfl ?_; intro w _ hx hp; refine ops_run nopre rfl ?_)))
 have eY : addF z1.n [(adR.xor r.1 u v).2, r.2.2] (addXorL z1.n (adR.xor r.1 u v).2 r.2.2) = sumY adR r u v := by rw [ez1]; rfl
 rw [eY] at ez2 hp ⊢
 rw [← hY'] at y1 y2 y3 l1
 have hz2 : NetOkP z2.n := by rw [ez2]; exact y1
 refine U_append hp rfl rfl rfl rfl rfl rfl rfl (by decide) rfl (by first | omega | (simp only [List.length_append, List.length_cons, List.length_nil, List.length_take, List.length_drop, List.length_set, List.length_replicate, List.length_map]; omega)) rfl rfl ?_; intro o' oc' w hp hnil; refine ops_run nopre rfl ?_; (repeat (first | (refine gLoad ?_; refine H_ldB hp rfl rfl ?_) | (refine gStore ?_; refine U_stBN hp rfl rfl rfl rfl ?_; intro w hp; refine ops_run nopre rfl ?_)))
 have hp := hp.drop
 refine h_cond_dec (fun hk1 => ?_) (fun hk1 => ?_)
 ·have eK : sumTo adR x.n a b ci wd = ((sumY adR r u v).1, r.2.1 ++ [(sumY adR r u v).2], r.2.2) := by
   rw [show wd = k + 1 by omega, sumTo, if_neg (by omega), ← hr, ← hu, ← hv]
  have hlen : (r.2.1 ++ [(sumY adR r u v).2]).length = wd := by rw [List.length_append, hlo]; show k + 1 = wd; omega
  refine h_cond_t rfl rfl ?_; (repeat (first | (refine gLoad ?_; refine H_ldB hp rfl rfl ?_) | (refine gStore ?_; refine U_stBN hp rfl rfl rfl rfl ?_; intro w hp; refine ops_run nopre rfl ?_) | (refine gRetc ?_; refine R_ret2v hp rfl ?_)))
  rw [hfin, eK]
  exact ⟨z2, o', oc', ⟨ez2, by rw [hlen]; rfl⟩, (hp.f3.f1).tk 2⟩
 ·have hk2 : k + 1 < wd := by omega
  have eK : sumTo adR x.n a b ci (k + 1) = ((sumC adR r u v).1, r.2.1 ++ [(sumY adR r u v).2], (sumC adR r u v).2) := by
   rw [sumTo, if_pos (by omega), ← hr, ← hu, ← hv]
  obtain ⟨p1, p2, p3⟩ := adR_ok.and y1 (adR_ok.mono l1 va) (adR_ok.mono l1 vb)
  have l2 := adR_ok.trans l1 p3
  obtain ⟨q1, q2, q3⟩ := adR_ok.and p1 (adR_ok.mono (adR_ok.trans y3 p3) x2) (adR_ok.mono l2 gc)
  obtain ⟨z1', z2', z3'⟩ := adR_ok.or q1 (adR_ok.mono q3 p2) q2
  refine h_cond_f rfl rfl ?_; skip
  refine N_draw hp (by kernel_rfl) (by kernel_rfl) rfl rfl ?_; (repeat (refine nLoad ?_; first | refine N_ldB rfl rfl rfl ?_ | refine N_ldEN rfl (by omega) rfl rfl rfl ?_))
  rw [← hu, ← hv]
  refine N_call Tryz.func86 (by kernel_rfl) rfl (fun F w hp => ?_); refine Ret.mono (specAddAnd_x z2 u v _ hp.pre.net hz2.S' hz2.W (va.i64 hi) (vb.i64 hi)) ?_; rintro _ w ⟨z3, ⟨ez3, rfl⟩, hq⟩; have hp := hp.callF1 hq; refine ⟨fun _ => hp.sub (by (repeat (first | exact List.sublist_append_left _ _ | apply List.Sublist.cons))), _, hp, ?_⟩; clear hp; refine N_ops rfl rfl ?_; (repeat (refine N_stBN rfl rfl rfl rfl (by kernel_rfl) ?_; refine N_ops rfl rfl ?_))
  refine N_end ?_; intro w hp C; refine h_run rfl ?_; (repeat (refine H_ldB hp rfl rfl ?_))
  have eP : addF z2.n [u, v] (addAndL z2.n u v) = sumP adR r u v := by rw [ez2]; rfl
  rw [eP] at ez3 ⊢
  have p1 : NetOkP (sumP adR r u v).1 := p1
  have hz3 : NetOkP z3.n := by rw [ez3]; exact p1
  refine h_call rfl Tryz.func86 (by kernel_rfl) rfl (specAddAnd_x z3 (adR.xor r.1 u v).2 r.2.2 _ hp.net hz3.S' hz3.W (x2.i64 x1) ((adR_ok.mono x3 gc).i64 x1)) ?_; rintro _ w ⟨z4, ⟨ez4, rfl⟩, hq⟩; have hx := hq.x; have hp := hp.call1 hq; refine ops_run nopre rfl ?_; (repeat (first | (refine gLoad ?_; refine H_ldB hp rfl rfl ?_) | (refine gStore ?_; refine U_stBN hp rfl rfl rfl rfl ?_; intro w hp; refine ops_run nopre rfl ?_)))
  have eQ : addF z3.n [(adR.xor r.1 u v).2, r.2.2] (addAndL z3.n (adR.xor r.1 u v).2 r.2.2) = sumQ adR r u v := by rw [ez3]; rfl
  rw [eQ] at ez4 ⊢
  have q1 : NetOkP (sumQ adR r u v).1 := q1
  have hz4 : NetOkP z4.n := by rw [ez4]; exact q1
  refine h_call rfl Tryz.func144 (by kernel_rfl) rfl (specAddOr_x z4 (sumP adR r u v).2 (sumQ adR r u v).2 _ hp.net hz4.S' hz4.W (litR.i64 p1 p2) (litR.i64 q1 q2)) ?_; rintro _ w ⟨z5, ⟨ez5, rfl⟩, hq⟩; have hx := hq.x; have hp := hp.call1 hq; refine ops_run nopre rfl ?_; (repeat (refine U_stBN hp rfl rfl rfl rfl ?_; intro w hp; refine ops_run nopre rfl ?_))
  have eC : addF z4.n [(sumP adR r u v).2, (sumQ adR r u v).2] (addOrL z4.n (sumP adR r u v).2 (sumQ adR r u v).2) = sumC adR r u v := by rw [ez4]; rfl
  rw [eC] at ez5 ⊢
  have hp := (hp.f3.f3.f3).drop.drop.drop
  have hp := (hp.f5.f5.f5).tk 4
  refine IH (k + 1) z5 [rNet z5] o' oc' () _ _ _ (by omega) (by rw [eK]; rfl) ⟨⟨hk2, by rw [eK]; exact ez5, inferInstance⟩, ?_⟩
  rw [eK]
  exact hp
end Go.Proofs
end
