/- The contract of the reference's operators with two operands; under its stated conditions. -/
import Derived.Test.YtiepmliokblkjaaGreatAxS
set_option linter.all false
namespace Go.Xw
theorem Hp.callF2 {w0 w w' : World} {L F : List Res} {R1 R2 : Res} (h : Hp w0 w (L ++ F)) (hc : Hp w w' [R1, R2]) : Hp w0 w' ((R1 :: R2 :: L) ++ F) := h.call2 hc
end Go.Xw
namespace Go.Proofs
open Go.Xw
set_option maxRecDepth 100000
set_option maxHeartbeats 2000000
attribute [local irreducible] Holds elemAddr
theorem l07Bit_h (b : Bool) (w0 : World) : Ret Tryz.prog 162 [.bool b] w0 (fun v w => v = .int .i64 (if b then 1 else 0) ∧ Ext w0 w) := by
 refine enter Tryz.S162ok _ _ rfl rfl (by show _ ≤ _; simp only [List.length]; decide) (fun C => ?_); have hp := Hp.nil w0; refine h_run rfl ?_; skip
 cases b
 ·refine h_cond_f rfl rfl ?_; (repeat (refine R_ret ?_))
  exact ⟨rfl, hp.x⟩
 ·refine h_cond_t rfl rfl ?_; (repeat (refine R_ret ?_))
  exact ⟨rfl, hp.x⟩
theorem l11Two_h (x : NetA) (kind : Int) (hkd : 5 ≤ kind ∧ kind ≤ 11) (aA bA : Option Addr) (cA cB wd : Nat) (hw : 1 ≤ wd ∧ wd ≤ 4) (a b : List Int) (hla : a.length = wd) (hlb : b.length = wd) (w0 : World) (hX : NetR w0 x) (hok : NetOkP x.n) (hA : Rd w0 aA 1 eI a) (hB : Rd w0 bA 1 eI b) (ha : ∀ z, z ∈ a → litR x.n z) (hb : ∀ z, z ∈ b → litR x.n z) :
  Ret Tryz.prog 143 [x.v, .int .i64 kind, .slice aA wd cA, .slice bA wd cB] w0 (fun v w => ∃ y b' c', (y.n = (twoA adR wd kind x.n a b).1 ∧ v = .tuple ⟨[y.v, .slice b' wd c']⟩) ∧ Hp w0 w [rNet y, rO 3 1 eI b' c' (twoA adR wd kind x.n a b).2]) := by
 have hkc : kind = 5 ∨ kind = 6 ∨ kind = 7 ∨ kind = 8 ∨ kind = 9 ∨ kind = 10 ∨ kind = 11 := by omega
 refine enter Tryz.S143ok _ _ rfl rfl (by show _ ≤ _; simp only [List.length]; decide) (fun C => ?_); have hp := Hp.nil w0; refine h_run rfl ?_; skip; (first | refine H_box hp ?_ | refine H_alloc hp rfl ?_); intro w b4 hx hp; refine ops_run nopre rfl ?_; skip; (first | refine H_box hp ?_ | refine H_alloc hp rfl ?_); intro w b8 hx hp; refine ops_run nopre rfl ?_; skip
 rcases hkc with rfl | rfl | rfl | rfl | rfl | rfl | rfl
 ·have hfin : twoA adR wd 5 x.n a b = bitTo adR.and x.n a b wd := by unfold twoA; rw [if_neg (by decide), if_neg (by decide), if_neg (by decide), if_neg (by decide), if_pos rfl, hla]
  refine h_cond_f rfl rfl ?_; skip
  refine h_cond_f rfl rfl ?_; (repeat (first | (refine gGuard ?_; refine h_guard_y rfl nopre rfl ?_) | (refine gBuild ?_; refine U_litI hp rfl rfl rfl rfl rfl rfl rfl rfl rfl rfl ?_; intro w _ hx hp; refine ops_run nopre rfl ?_)))
  refine h_cond_f rfl rfl ?_; skip
  refine h_loop6 [1, 2, 3, 4, 8, 10, 15] (fun (k : Nat) (_ : NetA) (_ : List Res) (o : Option Addr) (oc : Nat) (_ : Unit) => [(1, .int .i64 5), (2, .slice aA wd cA), (3, .slice bA wd cB), (4, .pointer (some ⟨b4, 0, none⟩)), (8, .pointer (some ⟨b8, 0, none⟩)), (10, .slice o (bitTo adR.and x.n a b k).2.length oc), (15, .int .i64 (k : Int))])
   (fun k y N o oc _ w' => (k ≤ wd ∧ y.n = (bitTo adR.and x.n a b k).1 ∧ NetH w0 N y ∧ (0 < k → N = [rNet y])) ∧ Hp w0 w' (rO 3 1 eI o oc (bitTo adR.and x.n a b k).2 :: rB b8 33 (cellsV Tryz.ti33.zero) :: rB b4 33 y.cs :: N)) (fun k _ _ _ _ _ => wd - k) 0 x [] _ _ () rfl ⟨⟨by omega, rfl, inferInstance, fun h => by omega⟩, hp⟩ ?_
  clear hp
  rintro k y N o oc _ w1 ⟨⟨hk, hy, hN, hN2⟩, hp⟩ IH C
  have g := bit_good adR_ok (s := x.n) (f := adR.and) (fun _ _ _ _ h1 h2 h3 => adR_ok.and h1 h2 h3) hok ha hb k
  have hbl := bitTo_len adR.and x.n a b k
  obtain ⟨r, hr⟩ : ∃ r, r = bitTo adR.and x.n a b k := ⟨_, rfl⟩
  rw [← hr] at g hp hy hbl ⊢
  have hi : NetOkP r.1 := g.i
  have hiy : NetOkP y.n := by rw [hy]; exact hi
  have va := adR_ok.mono g.le_ (getD_V adR_ok hok ha k)
  have vb := adR_ok.mono g.le_ (getD_V adR_ok hok hb k)
  refine h_run rfl ?_; skip
  refine h_cond_dec (fun hlt => ?_) (fun hlt => ?_)
  ·have hkw : k < wd := by omega
   have eK : bitTo adR.and x.n a b (k + 1) = ((adR.and r.1 (a.getD k default) (b.getD k default)).1, r.2 ++ [(adR.and r.1 (a.getD k default) (b.getD k default)).2]) := by rw [bitTo, ← hr]
   have eX : addF y.n [a.getD k default, b.getD k default] (addAndL y.n (a.getD k default) (b.getD k default)) = adR.and r.1 (a.getD k default) (b.getD k default) := by rw [hy]; rfl
   refine h_cond_t rfl rfl ?_; (repeat (refine H_ldB hp rfl rfl ?_))
   (first | refine H_box hp ?_ | refine H_alloc hp rfl ?_); intro w b17 hx hp; refine ops_run nopre rfl ?_; (repeat (refine U_stBN hp rfl rfl rfl rfl ?_; intro w hp; refine ops_run nopre rfl ?_))
   refine h_cond_t rfl rfl ?_; skip
   refine N_draw hp (by kernel_rfl) (by kernel_rfl) rfl rfl ?_; (repeat (refine nLoad ?_; first | refine N_ldB rfl rfl rfl ?_ | refine N_ldEN rfl (by omega) rfl rfl rfl ?_))
   refine N_call Tryz.func86 (by kernel_rfl) rfl (fun F w hp => ?_); refine Ret.mono (specAddAnd_x y (a.getD k default) (b.getD k default) _ hp.pre.net hiy.S' hiy.W (va.i64 hi) (vb.i64 hi)) ?_; rintro _ w ⟨z1, ⟨ez1, rfl⟩, hq⟩; have hp := hp.callF1 hq; refine ⟨fun _ => hp.sub (by (repeat (first | exact List.sublist_append_left _ _ | apply List.Sublist.cons))), _, hp, ?_⟩; clear hp; refine N_ops rfl rfl ?_; (repeat (refine N_stBN rfl rfl rfl rfl (by kernel_rfl) ?_; refine N_ops rfl rfl ?_))
   refine N_end ?_; intro w hp C; refine h_run rfl ?_; (repeat (first | (refine gLoad ?_; refine H_ldB hp rfl rfl ?_) | (refine gStore ?_; refine U_stBN hp rfl rfl rfl rfl ?_; intro w hp; refine ops_run nopre rfl ?_) | (refine gBuild ?_; refine U_litI hp rfl rfl rfl rfl rfl rfl rfl rfl rfl rfl ?_; intro w _ hx hp; refine ops_run nopre rfl ?_)))
   rw [eX] at ez1 hp ⊢
   refine U_append hp rfl rfl rfl rfl rfl rfl rfl (by decide) rfl (by first | omega | (simp only [List.length_append, List.length_cons, List.length_nil, List.length_take, List.length_drop, List.length_set, List.length_replicate, List.length_map]; omega)) rfl rfl ?_; intro o' oc' w hp hnil; refine ops_run nopre rfl ?_; skip
   have hp := hp.drop
   have hp := (hp.f4.f4.f4).tk 4
   refine IH (k + 1) z1 [rNet z1] o' oc' () _ _ _ (by omega) (by rw [eK]; rfl) ⟨⟨by omega, by rw [eK]; exact ez1, inferInstance, fun _ => rfl⟩, ?_⟩
   rw [eK]
   exact hp
  ·obtain rfl : k = wd := by omega
   have hNN := hN2 (by omega)
   subst hNN
   refine h_cond_f rfl rfl ?_; (repeat (first | (refine gLoad ?_; refine H_ldB hp rfl rfl ?_) | (refine gStore ?_; refine U_stBN hp rfl rfl rfl rfl ?_; intro w hp; refine ops_run nopre rfl ?_) | (refine gRetc ?_; refine R_ret2v hp rfl ?_)))
   rw [hfin, ← hr]
   exact ⟨y, o, oc, ⟨hy, by rw [hbl]; rfl⟩, (hp.f3).tk 2⟩
 ·have hfin : twoA adR wd 6 x.n a b = bitTo adR.or x.n a b wd := by unfold twoA; rw [if_neg (by decide), if_neg (by decide), if_neg (by decide), if_neg (by decide), if_neg (by decide), if_pos rfl, hla]
  refine h_cond_f rfl rfl ?_; skip
  refine h_cond_f rfl rfl ?_; (repeat (first | (refine gGuard ?_; refine h_guard_y rfl nopre rfl ?_) | (refine gBuild ?_; refine U_litI hp rfl rfl rfl rfl rfl rfl rfl rfl rfl rfl ?_; intro w _ hx hp; refine ops_run nopre rfl ?_)))
  refine h_cond_f rfl rfl ?_; skip
  refine h_loop6 [1, 2, 3, 4, 8, 10, 15] (fun (k : Nat) (_ : NetA) (_ : List Res) (o : Option Addr) (oc : Nat) (_ : Unit) => [(1, .int .i64 6), (2, .slice aA wd cA), (3, .slice bA wd cB), (4, .pointer (some ⟨b4, 0, none⟩)), (8, .pointer (some ⟨b8, 0, none⟩)), (10, .slice o (bitTo adR.or x.n a b k).2.length oc), (15, .int .i64 (k : Int))])
   (fun k y N o oc _ w' => (k ≤ wd ∧ y.n = (bitTo adR.or x.n a b k).1 ∧ NetH w0 N y ∧ (0 < k → N = [rNet y])) ∧ Hp w0 w' (rO 3 1 eI o oc (bitTo adR.or x.n a b k).2 :: rB b8 33 (cellsV Tryz.ti33.zero) :: rB b4 33 y.cs :: N)) (fun k _ _ _ _ _ => wd - k) 0 x [] _ _ () rfl ⟨⟨by omega, rfl, inferInstance, fun h => by omega⟩, hp⟩ ?_
  clear hp
  rintro k y N o oc _ w1 ⟨⟨hk, hy, hN, hN2⟩, hp⟩ IH C
  have g := bit_good adR_ok (s := x.n) (f := adR.or) (fun _ _ _ _ h1 h2 h3 => adR_ok.or h1 h2 h3) hok ha hb k
  have hbl := bitTo_len adR.or x.n a b k
  obtain ⟨r, hr⟩ : ∃ r, r = bitTo adR.or x.n a b k := ⟨_, rfl⟩
  rw [← hr] at g hp hy hbl ⊢
  have hi : NetOkP r.1 := g.i
  have hiy : NetOkP y.n := by rw [hy]; exact hi
  have va := adR_ok.mono g.le_ (getD_V adR_ok hok ha k)
  have vb := adR_ok.mono g.le_ (getD_V adR_ok hok hb k)
  refine h_run rfl ?_; skip
  refine h_cond_dec (fun hlt => ?_) (fun hlt => ?_)
  ·have hkw : k < wd := by omega
   have eK : bitTo adR.or x.n a b (k + 1) = ((adR.or r.1 (a.getD k default) (b.getD k default)).1, r.2 ++ [(adR.or r.1 (a.getD k default) (b.getD k default)).2]) := by rw [bitTo, ← hr]
   have eX : addF y.n [a.getD k default, b.getD k default] (addOrL y.n (a.getD k default) (b.getD k default)) = adR.or r.1 (a.getD k default) (b.getD k default) := by rw [hy]; rfl
   refine h_cond_t rfl rfl ?_; (repeat (refine H_ldB hp rfl rfl ?_))
   (first | refine H_box hp ?_ | refine H_alloc hp rfl ?_); intro w b17 hx hp; refine ops_run nopre rfl ?_; (repeat (refine U_stBN hp rfl rfl rfl rfl ?_; intro w hp; refine ops_run nopre rfl ?_))
   refine h_cond_f rfl rfl ?_; skip
   refine h_cond_t rfl rfl ?_; skip
   refine N_draw hp (by kernel_rfl) (by kernel_rfl) rfl rfl ?_; (repeat (refine nLoad ?_; first | refine N_ldB rfl rfl rfl ?_ | refine N_ldEN rfl (by omega) rfl rfl rfl ?_))
   refine N_call Tryz.func144 (by kernel_rfl) rfl (fun F w hp => ?_); refine Ret.mono (specAddOr_x y (a.getD k default) (b.getD k default) _ hp.pre.net hiy.S' hiy.W (va.i64 hi) (vb.i64 hi)) ?_; rintro _ w ⟨z1, ⟨ez1, rfl⟩, hq⟩; have hp := hp.callF1 hq; refine ⟨fun _ => hp.sub (by (repeat (first | exact List.sublist_append_left _ _ | apply List.Sublist.cons))), _, hp, ?_⟩; clear hp; refine N_ops rfl rfl ?_; (repeat (refine N_stBN rfl rfl rfl rfl (by kernel_rfl) ?_; refine N_ops rfl rfl ?_))
   refine N_end ?_; intro w hp C; refine h_run rfl ?_; (repeat (first | (refine gLoad ?_; refine H_ldB hp rfl rfl ?_) | (refine gStore ?_; refine U_stBN hp rfl rfl rfl rfl ?_; intro w hp; refine ops_run nopre rfl ?_) | (refine gBuild ?_; refine U_litI hp rfl rfl rfl rfl rfl rfl rfl rfl rfl rfl ?_; intro w _ hx hp; refine ops_run nopre rfl ?_)))
   rw [eX] at ez1 hp ⊢
   refine U_append hp rfl rfl rfl rfl rfl rfl rfl (by decide) rfl (by first | omega | (simp only [List.length_append, List.length_cons, List.length_nil, List.length_take, List.length_drop, List.length_set, List.length_replicate, List.length_map]; omega)) rfl rfl ?_; intro o' oc' w hp hnil; refine ops_run nopre rfl ?_; skip
   have hp := hp.drop
   have hp := (hp.f4.f4.f4).tk 4
   refine IH (k + 1) z1 [rNet z1] o' oc' () _ _ _ (by omega) (by rw [eK]; rfl) ⟨⟨by omega, by rw [eK]; exact ez1, inferInstance, fun _ => rfl⟩, ?_⟩
   rw [eK]
   exact hp
  ·obtain rfl : k = wd := by omega
   have hNN := hN2 (by omega)
   subst hNN
   refine h_cond_f rfl rfl ?_; (repeat (first | (refine gLoad ?_; refine H_ldB hp rfl rfl ?_) | (refine gStore ?_; refine U_stBN hp rfl rfl rfl rfl ?_; intro w hp; refine ops_run nopre rfl ?_) | (refine gRetc ?_; refine R_ret2v hp rfl ?_)))
   rw [hfin, ← hr]
   exact ⟨y, o, oc, ⟨hy, by rw [hbl]; rfl⟩, (hp.f3).tk 2⟩
 ·have hfin : twoA adR wd 7 x.n a b = bitTo adR.xor x.n a b wd := by unfold twoA; rw [if_neg (by decide), if_neg (by decide), if_neg (by decide), if_neg (by decide), if_neg (by decide), if_neg (by decide), hla]
  refine h_cond_f rfl rfl ?_; skip
  refine h_cond_f rfl rfl ?_; (repeat (first | (refine gGuard ?_; refine h_guard_y rfl nopre rfl ?_) | (refine gBuild ?_; refine U_litI hp rfl rfl rfl rfl rfl rfl rfl rfl rfl rfl ?_; intro w _ hx hp; refine ops_run nopre rfl ?_)))
  refine h_cond_f rfl rfl ?_; skip
  refine h_loop6 [1, 2, 3, 4, 8, 10, 15] (fun (k : Nat) (_ : NetA) (_ : List Res) (o : Option Addr) (oc : Nat) (_ : Unit) => [(1, .int .i64 7), (2, .slice aA wd cA), (3, .slice bA wd cB), (4, .pointer (some ⟨b4, 0, none⟩)), (8, .pointer (some ⟨b8, 0, none⟩)), (10, .slice o (bitTo adR.xor x.n a b k).2.length oc), (15, .int .i64 (k : Int))])
   (fun k y N o oc _ w' => (k ≤ wd ∧ y.n = (bitTo adR.xor x.n a b k).1 ∧ NetH w0 N y ∧ (0 < k → N = [rNet y])) ∧ Hp w0 w' (rO 3 1 eI o oc (bitTo adR.xor x.n a b k).2 :: rB b8 33 (cellsV Tryz.ti33.zero) :: rB b4 33 y.cs :: N)) (fun k _ _ _ _ _ => wd - k) 0 x [] _ _ () rfl ⟨⟨by omega, rfl, inferInstance, fun h => by omega⟩, hp⟩ ?_
  clear hp
  rintro k y N o oc _ w1 ⟨⟨hk, hy, hN, hN2⟩, hp⟩ IH C
  have g := bit_good adR_ok (s := x.n) (f := adR.xor) (fun _ _ _ _ h1 h2 h3 => adR_ok.xor h1 h2 h3) hok ha hb k
  have hbl := bitTo_len adR.xor x.n a b k
  obtain ⟨r, hr⟩ : ∃ r, r = bitTo adR.xor x.n a b k := ⟨_, rfl⟩
  rw [← hr] at g hp hy hbl ⊢
  have hi : NetOkP r.1 := g.i
  have hiy : NetOkP y.n := by rw [hy]; exact hi
  have va := adR_ok.mono g.le_ (getD_V adR_ok hok ha k)
  have vb := adR_ok.mono g.le_ (getD_V adR_ok hok hb k)
  refine h_run rfl ?_; skip
  refine h_cond_dec (fun hlt => ?_) (fun hlt => ?_)
  ·have hkw : k < wd := by omega
   have eK : bitTo adR.xor x.n a b (k + 1) = ((adR.xor r.1 (a.getD k default) (b.getD k default)).1, r.2 ++ [(adR.xor r.1 (a.getD k default) (b.getD k default)).2]) := by rw [bitTo, ← hr]
   have eX : addF y.n [a.getD k default, b.getD k default] (addXorL y.n (a.getD k default) (b.getD k default)) = adR.xor r.1 (a.getD k default) (b.getD k default) := by rw [hy]; rfl
   refine h_cond_t rfl rfl ?_; (repeat (refine H_ldB hp rfl rfl ?_))
   (first | refine H_box hp ?_ | refine H_alloc hp rfl ?_); intro w b17 hx hp; refine ops_run nopre rfl ?_; (repeat (refine U_stBN hp rfl rfl rfl rfl ?_; intro w hp; refine ops_run nopre rfl ?_))
   refine h_cond_f rfl rfl ?_; skip
   refine h_cond_f rfl rfl ?_; skip
   refine N_draw hp (by kernel_rfl) (by kernel_rfl) rfl rfl ?_; (repeat (refine nLoad ?_; first | refine N_ldB rfl rfl rfl ?_ | refine N_ldEN rfl (by omega) rfl rfl rfl ?_))
   refine N_call Tryz.func174 (by kernel_rfl) rfl (fun F w hp => ?_); refine Ret.mono (specAddXor_x y (a.getD k default) (b.getD k default) _ hp.pre.net hiy.S' hiy.W (va.i64 hi) (vb.i64 hi)) ?_; rintro _ w ⟨z1, ⟨ez1, rfl⟩, hq⟩; have hp := hp.callF1 hq; refine ⟨fun _ => hp.sub (by (repeat (first | exact List.sublist_append_left _ _ | apply List.Sublist.cons))), _, hp, ?_⟩; clear hp; refine N_ops rfl rfl ?_; (repeat (refine N_stBN rfl rfl rfl rfl (by kernel_rfl) ?_; refine N_ops rfl rfl ?_))
   refine N_end ?_; intro w hp C; refine h_run rfl ?_; (repeat (first | (refine gLoad ?_; refine H_ldB hp rfl rfl ?_) | (refine gStore ?_; refine U_stBN hp rfl rfl rfl rfl ?_; intro w hp; refine ops_run nopre rfl ?_) | (refine gBuild ?_; refine U_litI hp rfl rfl rfl rfl rfl rfl rfl rfl rfl rfl ?_; intro w _ hx hp; refine ops_run nopre rfl ?_)))
   rw [eX] at ez1 hp ⊢
   refine U_append hp rfl rfl rfl rfl rfl rfl rfl (by decide) rfl (by first | omega | (simp only [List.length_append, List.length_cons, List.length_nil, List.length_take, List.length_drop, List.length_set, List.length_replicate, List.length_map]; omega)) rfl rfl ?_; intro o' oc' w hp hnil; refine ops_run nopre rfl ?_; skip
   have hp := hp.drop
   have hp := (hp.f4.f4.f4).tk 4
   refine IH (k + 1) z1 [rNet z1] o' oc' () _ _ _ (by omega) (by rw [eK]; rfl) ⟨⟨by omega, by rw [eK]; exact ez1, inferInstance, fun _ => rfl⟩, ?_⟩
   rw [eK]
   exact hp
  ·obtain rfl : k = wd := by omega
   have hNN := hN2 (by omega)
   subst hNN
   refine h_cond_f rfl rfl ?_; (repeat (first | (refine gLoad ?_; refine H_ldB hp rfl rfl ?_) | (refine gStore ?_; refine U_stBN hp rfl rfl rfl rfl ?_; intro w hp; refine ops_run nopre rfl ?_) | (refine gRetc ?_; refine R_ret2v hp rfl ?_)))
   rw [hfin, ← hr]
   exact ⟨y, o, oc, ⟨hy, by rw [hbl]; rfl⟩, (hp.f3).tk 2⟩
 ·have hfin : twoA adR wd 8 x.n a b = sumA adR x.n a b 0 := by unfold twoA; rw [if_pos rfl]
  rw [hfin]
  refine h_cond_t rfl rfl ?_; (repeat (refine H_ldB hp rfl rfl ?_))
  refine h_call rfl Tryz.func173 (by kernel_rfl) rfl (l11Sum_h x aA bA cA cB wd hw a b 0 hla hlb _ hp.net hok hp.rd hp.rd ha hb (.inl (litP0 hok).1)) ?_
  rintro _ w ⟨z, bz, cz, ⟨ez, rfl⟩, hq⟩
  have hp := hp.call2 hq
  refine ops_run nopre rfl ?_; (repeat (first | (refine gStore ?_; refine U_stBN hp rfl rfl rfl rfl ?_; intro w hp; refine ops_run nopre rfl ?_) | (refine gRetc ?_; refine R_ret2v hp rfl ?_)))
  exact ⟨z, bz, cz, ⟨ez, rfl⟩, hp.tk 2⟩
 ·have hfin : twoA adR wd 9 x.n a b = sumA adR x.n a (b.map lNot) 1 := by unfold twoA; rw [if_neg (by decide), if_pos rfl]; rfl
  rw [hfin]
  have hnb : ∀ z, z ∈ b.map lNot → litR x.n z := fun z hz => by
   obtain ⟨z', hz', rfl⟩ := List.mem_map.1 hz
   exact adR_ok.not hok (hb z' hz')
  refine h_cond_f rfl rfl ?_; skip
  refine h_cond_t rfl rfl ?_; skip
  refine N_draw hp (by kernel_rfl) (by kernel_rfl) rfl rfl ?_; (repeat (refine N_ldB rfl rfl rfl ?_))
  refine N_call Tryz.func142 (by kernel_rfl) rfl (fun F w hp => ?_); refine Ret.mono (l11Not_h bA cB wd b hlb _ hp.pre.rd (by omega) (fun i hi => (hb _ (getD_mem hi)).i64 hok)) ?_; rintro _ w ⟨bn, cn, rfl, hq⟩; have hp := hp.callF1 hq; refine ⟨fun _ => hp.sub (by (repeat (first | exact List.sublist_append_left _ _ | apply List.Sublist.cons))), _, hp, ?_⟩; clear hp; refine N_ops rfl rfl ?_; skip
  refine N_call Tryz.func173 (by kernel_rfl) rfl (fun F w hp => ?_)
  refine Ret.mono (l11Sum_h x aA bn cA cn wd hw a (b.map lNot) 1 hla (by rw [List.length_map]; exact hlb) w hp.pre.net hok hp.pre.rd hp.pre.rd ha hnb (.inl (litP0 hok).2)) ?_
  rintro _ w ⟨z, bz, cz, ⟨ez, rfl⟩, hq⟩
  have hp := Hp.callF2 hp hq
  refine ⟨fun hq => Bool.noConfusion (hq.symm.trans (by kernel_rfl : flagAt _ _ = false)), _, hp, ?_⟩
  clear hp
  refine N_ops rfl rfl ?_; (repeat (refine N_stBN rfl rfl rfl rfl (by kernel_rfl) ?_; refine N_ops rfl rfl ?_))
  refine N_end ?_; intro w hp C; refine h_run rfl ?_; (repeat (refine R_ret2v hp rfl ?_))
  exact ⟨z, bz, cz, ⟨ez, rfl⟩, hp.tk 2⟩
 ·have hfin : twoA adR wd 10 x.n a b = ((cmpTo adR true x.n a b wd).1, loneL wd (cmpTo adR true x.n a b wd).2) := by unfold twoA; rw [if_neg (by decide), if_neg (by decide), if_pos rfl, hla]
  refine h_cond_f rfl rfl ?_; skip
  refine h_cond_f rfl rfl ?_; (repeat (first | (refine gGuard ?_; refine h_guard_n rfl nopre rfl ?_) | (refine gBuild ?_; refine U_litI hp rfl rfl rfl rfl rfl rfl rfl rfl rfl rfl ?_; intro w _ hx hp; refine ops_run nopre rfl ?_)))
  refine h_cond_t rfl rfl ?_; skip
  refine h_call rfl Tryz.func162 (by kernel_rfl) rfl (l07Bit_h true _) ?_; rintro _ w ⟨rfl, hx⟩; have hp := hp.ext hx; refine ops_run nopre rfl ?_; skip
  refine h_loop6 [1, 2, 3, 4, 8, 10, 11, 12] (fun (k : Nat) (_ : NetA) (_ : List Res) (o : Option Addr) (oc : Nat) (_ : Unit) => [(1, .int .i64 10), (2, .slice aA wd cA), (3, .slice bA wd cB), (4, .pointer (some ⟨b4, 0, none⟩)), (8, .pointer (some ⟨b8, 0, none⟩)), (10, .slice o (List.replicate k (0 : Int)).length oc), (11, .int .i64 (cmpTo adR true x.n a b k).2), (12, .int .i64 (k : Int))])
   (fun k y N o oc _ w' => (k ≤ wd ∧ y.n = (cmpTo adR true x.n a b k).1 ∧ NetH w0 N y ∧ (0 < k → N = [rNet y])) ∧ Hp w0 w' (rO 3 1 eI o oc (List.replicate k (0 : Int)) :: rB b8 33 (cellsV Tryz.ti33.zero) :: rB b4 33 y.cs :: N)) (fun k _ _ _ _ _ => wd - k) 0 x [] _ _ () rfl ⟨⟨by omega, rfl, inferInstance, fun h => by omega⟩, hp⟩ ?_
  clear hp
  rintro k y N o oc _ w1 ⟨⟨hk, hy, hN, hN2⟩, hp⟩ IH C
  obtain ⟨hi, hve, hle⟩ := cmp_good adR_ok true hok ha hb k
  obtain ⟨r, hr⟩ : ∃ r, r = cmpTo adR true x.n a b k := ⟨_, rfl⟩
  rw [← hr] at hi hve hle hy ⊢
  have hiy : NetOkP y.n := by rw [hy]; exact hi
  have va := adR_ok.mono hle (getD_V adR_ok hok ha k)
  have vb := adR_ok.mono hle (getD_V adR_ok hok hb k)
  obtain ⟨x1, x2, x3⟩ := adR_ok.xor hi va vb
  have ve1 := adR_ok.mono x3 hve
  have hrl : (List.replicate k (0 : Int)).length = k := by simp
  refine h_run rfl ?_; skip
  refine h_cond_dec (fun hlt => ?_) (fun hlt => ?_)
  ·have hkw : k < wd := by omega
   have eX : addF y.n [a.getD k default, b.getD k default] (addXorL y.n (a.getD k default) (b.getD k default)) = adR.xor r.1 (a.getD k default) (b.getD k default) := by rw [hy]; rfl
   refine h_cond_t rfl rfl ?_; skip
   refine N_draw hp (by kernel_rfl) (by kernel_rfl) rfl rfl ?_; (repeat (refine nLoad ?_; first | refine N_ldB rfl rfl rfl ?_ | refine N_ldEN rfl (by omega) rfl rfl rfl ?_))
   refine N_call Tryz.func174 (by kernel_rfl) rfl (fun F w hp => ?_); refine Ret.mono (specAddXor_x y (a.getD k default) (b.getD k default) _ hp.pre.net hiy.S' hiy.W (va.i64 hi) (vb.i64 hi)) ?_; rintro _ w ⟨z1, ⟨ez1, rfl⟩, hq⟩; have hp := hp.callF1 hq; refine ⟨fun _ => hp.sub (by (repeat (first | exact List.sublist_append_left _ _ | apply List.Sublist.cons))), _, hp, ?_⟩; clear hp; refine N_ops rfl rfl ?_; skip
   (first | refine N_box ?_ | refine N_alloc rfl ?_); intro b13; refine N_ops rfl rfl ?_; (repeat (refine N_stBN rfl rfl rfl rfl (by kernel_rfl) ?_; refine N_ops rfl rfl ?_))
   refine N_end ?_; intro w hp C; refine h_run rfl ?_; skip
   rw [eX] at ez1 ⊢
   have hz1 : NetOkP z1.n := by rw [ez1]; exact x1
   refine h_cond_t rfl rfl ?_; skip
   have eN : lNot (adR.xor r.1 (a.getD k default) (b.getD k default)).2 = adR.not (adR.xor r.1 (a.getD k default) (b.getD k default)).2 := rfl
   have nx := adR_ok.not x1 x2
   refine N_draw hp (by kernel_rfl) (by kernel_rfl) rfl rfl ?_; (repeat (refine N_ldB rfl rfl rfl ?_))
   refine N_call Tryz.func172 (by kernel_rfl) rfl (fun F w hp => ?_); refine Ret.mono (l10Not_h (adR.xor r.1 (a.getD k default) (b.getD k default)).2 _) ?_; rintro _ w ⟨rfl, hx⟩; have hp := hp.ext hx; refine ⟨fun _ => hp.sub (by (repeat (first | exact List.sublist_append_left _ _ | apply List.Sublist.cons))), _, hp, ?_⟩; clear hp; refine N_ops rfl rfl ?_; skip
   rw [eN]
   refine N_call Tryz.func86 (by kernel_rfl) rfl (fun F w hp => ?_); refine Ret.mono (specAddAnd_x z1 r.2 (adR.not (adR.xor r.1 (a.getD k default) (b.getD k default)).2) _ hp.pre.net hz1.S' hz1.W (ve1.i64 x1) (nx.i64 x1)) ?_; rintro _ w ⟨z2, ⟨ez2, rfl⟩, hq⟩; have hp := hp.callF1 hq; refine ⟨fun _ => hp.sub (by (repeat (first | exact List.sublist_append_left _ _ | apply List.Sublist.cons))), _, hp, ?_⟩; clear hp; refine N_ops rfl rfl ?_; (repeat (refine N_stBN rfl rfl rfl rfl (by kernel_rfl) ?_; refine N_ops rfl rfl ?_))
   refine N_end ?_; intro w hp C; refine h_run rfl ?_; (repeat (first | (refine gLoad ?_; refine H_ldB hp rfl rfl ?_) | (refine gStore ?_; refine U_stBN hp rfl rfl rfl rfl ?_; intro w hp; refine ops_run nopre rfl ?_) | (refine gBuild ?_; refine U_litI hp rfl rfl rfl rfl rfl rfl rfl rfl rfl rfl ?_; intro w _ hx hp; refine ops_run nopre rfl ?_)))
   have eK : cmpTo adR true x.n a b (k + 1) = adR.and (adR.xor r.1 (a.getD k default) (b.getD k default)).1 r.2 (adR.not (adR.xor r.1 (a.getD k default) (b.getD k default)).2) := by rw [cmpTo, if_pos rfl, ← hr]
   have eY : addF z1.n [r.2, adR.not (adR.xor r.1 (a.getD k default) (b.getD k default)).2] (addAndL z1.n r.2 (adR.not (adR.xor r.1 (a.getD k default) (b.getD k default)).2)) = cmpTo adR true x.n a b (k + 1) := by rw [ez1, eK]; rfl
   rw [eY] at ez2 ⊢
   refine U_append hp rfl rfl rfl rfl rfl rfl rfl (by decide) rfl (by first | omega | (simp only [List.length_append, List.length_cons, List.length_nil, List.length_take, List.length_drop, List.length_set, List.length_replicate, List.length_map]; omega)) rfl rfl ?_; intro o' oc' w hp hnil; refine ops_run nopre rfl ?_; skip
   have hp := hp.drop
   have hp := (hp.f2.f2).drop.drop
   have hp := (hp.f3.f3.f3).tk 4
   have er : List.replicate k (0 : Int) ++ [0] = List.replicate (k + 1) (0 : Int) := by rw [List.replicate_succ']
   refine IH (k + 1) z2 [rNet z2] o' oc' () _ _ _ (by omega) (by rw [← er]; rfl) ⟨⟨by omega, ez2, inferInstance, fun _ => rfl⟩, ?_⟩
   rw [← er]
   exact hp
  ·obtain rfl : k = wd := by omega
   have hNN := hN2 (by omega)
   subst hNN
   clear IH
   refine h_cond_f rfl rfl ?_; (repeat (first | (refine gLoad ?_; refine H_ldB hp rfl rfl ?_) | (refine gStore ?_; (first | refine U_stBN hp rfl rfl rfl rfl ?_ | refine U_st0 hp rfl rfl rfl (by omega) (by decide) rfl rfl ?_); intro w hp; refine ops_run nopre rfl ?_) | (refine gRetc ?_; refine R_ret2v hp rfl ?_)))
   rw [hfin, ← hr]
   exact ⟨y, o, oc, ⟨hy, by simp; rfl⟩, (hp.f3).tk 2⟩
 ·have hfin : twoA adR wd 11 x.n a b = ((cmpTo adR false x.n a b wd).1, loneL wd (cmpTo adR false x.n a b wd).2) := by unfold twoA; rw [if_neg (by decide), if_neg (by decide), if_neg (by decide), if_pos rfl, hla]
  refine h_cond_f rfl rfl ?_; skip
  refine h_cond_f rfl rfl ?_; (repeat (first | (refine gGuard ?_; refine h_guard_y rfl nopre rfl ?_) | (refine gBuild ?_; refine U_litI hp rfl rfl rfl rfl rfl rfl rfl rfl rfl rfl ?_; intro w _ hx hp; refine ops_run nopre rfl ?_)))
  refine h_cond_t rfl rfl ?_; skip
  refine h_call rfl Tryz.func162 (by kernel_rfl) rfl (l07Bit_h false _) ?_; rintro _ w ⟨rfl, hx⟩; have hp := hp.ext hx; refine ops_run nopre rfl ?_; skip
  refine h_loop6 [1, 2, 3, 4, 8, 10, 11, 12] (fun (k : Nat) (_ : NetA) (_ : List Res) (o : Option Addr) (oc : Nat) (_ : Unit) => [(1, .int .i64 11), (2, .slice aA wd cA), (3, .slice bA wd cB), (4, .pointer (some ⟨b4, 0, none⟩)), (8, .pointer (some ⟨b8, 0, none⟩)), (10, .slice o (List.replicate k (0 : Int)).length oc), (11, .int .i64 (cmpTo adR false x.n a b k).2), (12, .int .i64 (k : Int))])
   (fun k y N o oc _ w' => (k ≤ wd ∧ y.n = (cmpTo adR false x.n a b k).1 ∧ NetH w0 N y ∧ (0 < k → N = [rNet y])) ∧ Hp w0 w' (rO 3 1 eI o oc (List.replicate k (0 : Int)) :: rB b8 33 (cellsV Tryz.ti33.zero) :: rB b4 33 y.cs :: N)) (fun k _ _ _ _ _ => wd - k) 0 x [] _ _ () rfl ⟨⟨by omega, rfl, inferInstance, fun h => by omega⟩, hp⟩ ?_
  clear hp
  rintro k y N o oc _ w1 ⟨⟨hk, hy, hN, hN2⟩, hp⟩ IH C
  obtain ⟨hi, hve, hle⟩ := cmp_good adR_ok false hok ha hb k
  obtain ⟨r, hr⟩ : ∃ r, r = cmpTo adR false x.n a b k := ⟨_, rfl⟩
  rw [← hr] at hi hve hle hy ⊢
  have hiy : NetOkP y.n := by rw [hy]; exact hi
  have va := adR_ok.mono hle (getD_V adR_ok hok ha k)
  have vb := adR_ok.mono hle (getD_V adR_ok hok hb k)
  obtain ⟨x1, x2, x3⟩ := adR_ok.xor hi va vb
  have ve1 := adR_ok.mono x3 hve
  have hrl : (List.replicate k (0 : Int)).length = k := by simp
  refine h_run rfl ?_; skip
  refine h_cond_dec (fun hlt => ?_) (fun hlt => ?_)
  ·have hkw : k < wd := by omega
   have eX : addF y.n [a.getD k default, b.getD k default] (addXorL y.n (a.getD k default) (b.getD k default)) = adR.xor r.1 (a.getD k default) (b.getD k default) := by rw [hy]; rfl
   refine h_cond_t rfl rfl ?_; skip
   refine N_draw hp (by kernel_rfl) (by kernel_rfl) rfl rfl ?_; (repeat (refine nLoad ?_; first | refine N_ldB rfl rfl rfl ?_ | refine N_ldEN rfl (by omega) rfl rfl rfl ?_))
   refine N_call Tryz.func174 (by kernel_rfl) rfl (fun F w hp => ?_); refine Ret.mono (specAddXor_x y (a.getD k default) (b.getD k default) _ hp.pre.net hiy.S' hiy.W (va.i64 hi) (vb.i64 hi)) ?_; rintro _ w ⟨z1, ⟨ez1, rfl⟩, hq⟩; have hp := hp.callF1 hq; refine ⟨fun _ => hp.sub (by (repeat (first | exact List.sublist_append_left _ _ | apply List.Sublist.cons))), _, hp, ?_⟩; clear hp; refine N_ops rfl rfl ?_; skip
   (first | refine N_box ?_ | refine N_alloc rfl ?_); intro b13; refine N_ops rfl rfl ?_; (repeat (refine N_stBN rfl rfl rfl rfl (by kernel_rfl) ?_; refine N_ops rfl rfl ?_))
   refine N_end ?_; intro w hp C; refine h_run rfl ?_; skip
   rw [eX] at ez1 ⊢
   have hz1 : NetOkP z1.n := by rw [ez1]; exact x1
   refine h_cond_f rfl rfl ?_; skip
   have vb1 := adR_ok.mono x3 vb
   refine N_draw hp (by kernel_rfl) (by kernel_rfl) rfl rfl ?_; (repeat (refine nLoad ?_; first | refine N_ldB rfl rfl rfl ?_ | refine N_ldEN rfl (by omega) rfl rfl rfl ?_))
   refine N_call Tryz.func145 (by kernel_rfl) rfl (fun F w hp => ?_); refine Ret.mono (specAddMux_x z1 (adR.xor r.1 (a.getD k default) (b.getD k default)).2 (b.getD k default) r.2 _ hp.pre.net hz1.S' hz1.W (x2.i64 x1) (vb1.i64 x1) (ve1.i64 x1)) ?_; rintro _ w ⟨z2, ⟨ez2, rfl⟩, hq⟩; have hp := hp.callF1 hq; refine ⟨fun _ => hp.sub (by (repeat (first | exact List.sublist_append_left _ _ | apply List.Sublist.cons))), _, hp, ?_⟩; clear hp; refine N_ops rfl rfl ?_; (repeat (refine N_stBN rfl rfl rfl rfl (by kernel_rfl) ?_; refine N_ops rfl rfl ?_))
   refine N_end ?_; intro w hp C; refine h_run rfl ?_; (repeat (first | (refine gLoad ?_; refine H_ldB hp rfl rfl ?_) | (refine gStore ?_; refine U_stBN hp rfl rfl rfl rfl ?_; intro w hp; refine ops_run nopre rfl ?_) | (refine gBuild ?_; refine U_litI hp rfl rfl rfl rfl rfl rfl rfl rfl rfl rfl ?_; intro w _ hx hp; refine ops_run nopre rfl ?_)))
   have eK : cmpTo adR false x.n a b (k + 1) = adR.mux (adR.xor r.1 (a.getD k default) (b.getD k default)).1 (adR.xor r.1 (a.getD k default) (b.getD k default)).2 (b.getD k default) r.2 := by rw [cmpTo, if_neg (by decide), ← hr]
   have eY : addF z1.n [(adR.xor r.1 (a.getD k default) (b.getD k default)).2, b.getD k default, r.2] (addMuxL z1.n (adR.xor r.1 (a.getD k default) (b.getD k default)).2 (b.getD k default) r.2) = cmpTo adR false x.n a b (k + 1) := by rw [ez1, eK]; rfl
   rw [eY] at ez2 ⊢
   refine U_append hp rfl rfl rfl rfl rfl rfl rfl (by decide) rfl (by first | omega | (simp only [List.length_append, List.length_cons, List.length_nil, List.length_take, List.length_drop, List.length_set, List.length_replicate, List.length_map]; omega)) rfl rfl ?_; intro o' oc' w hp hnil; refine ops_run nopre rfl ?_; skip
   have hp := hp.drop
   have hp := (hp.f2.f2).drop.drop
   have hp := (hp.f3.f3.f3).tk 4
   have er : List.replicate k (0 : Int) ++ [0] = List.replicate (k + 1) (0 : Int) := by rw [List.replicate_succ']
   refine IH (k + 1) z2 [rNet z2] o' oc' () _ _ _ (by omega) (by rw [← er]; rfl) ⟨⟨by omega, ez2, inferInstance, fun _ => rfl⟩, ?_⟩
   rw [← er]
   exact hp
  ·obtain rfl : k = wd := by omega
   have hNN := hN2 (by omega)
   subst hNN
   clear IH
   refine h_cond_f rfl rfl ?_; (repeat (first | (refine gLoad ?_; refine H_ldB hp rfl rfl ?_) | (refine gStore ?_; (first | refine U_stBN hp rfl rfl rfl rfl ?_ | refine U_st0 hp rfl rfl rfl (by omega) (by decide) rfl rfl ?_); intro w hp; refine ops_run nopre rfl ?_) | (refine gRetc ?_; refine R_ret2v hp rfl ?_)))
   rw [hfin, ← hr]
   exact ⟨y, o, oc, ⟨hy, by simp; rfl⟩, (hp.f3).tk 2⟩
end Go.Proofs
