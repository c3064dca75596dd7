/- The contracts of the program's Balance; each under its stated conditions. -/
import Derived.Test.YtifjicajbgoamaaGreatBalB
set_option linter.all false
namespace Go.Proofs
open Go.Xw
set_option maxRecDepth 100000
set_option maxHeartbeats 1000000
attribute [local irreducible] Holds elemAddr
theorem levA_le : ∀ (A : List (Int × Int)) {U : List Int} {c : Int}, 0 ≤ c → (∀ j, U.getD j default ≤ c) → ∀ j, (levA U A).getD j default ≤ c + A.length
 | [], U, c, _, h, j => by have := h j; show U.getD j default ≤ _; simp; exact this
 | x :: A, U, c, h0, h, j => by
  have h2 := levA_le A (U := U ++ [1 + max (nl U x.1) (nl U x.2)]) (c := c + 1) (by omega) (fun j => by
   have a1 := h (x.1 / 2).toNat
   have a2 := h (x.2 / 2).toNat
   by_cases hj : j < U.length
   ·rw [snoc_lt hj]; have := h j; omega
   ·by_cases hj2 : j = U.length
    ·subst hj2; rw [snoc_eq]; unfold nl; omega
    ·rw [List.getD_eq_getElem?_getD, List.getElem?_eq_none (by simp; omega)]; show (0 : Int) ≤ _; omega) j
  show (levA (U ++ [1 + max (nl U x.1) (nl U x.2)]) A).getD j default ≤ _
  rw [List.length_cons]; omega
theorem levR_le (m : Nat) (A : List (Int × Int)) (j : Nat) : (levA (List.replicate m 0) A).getD j default ≤ A.length := by
 have := levA_le A (U := List.replicate m 0) (c := 0) (by omega) (fun j => by rw [rep_get]; exact Int.le_refl _) j
 omega
theorem Hp.insV {w0 w w' : World} {L : List Res} {e : TypeId} {a a' : Option Addr} {c' : Nat} {X Y : List Int} (hp : Hp w0 w (Go.Xw.rV a X :: L)) (h : (a' = a ∧ Y = X ∧ Ext w w') ∨ Hp w w' [rO e 1 eI a' c' Y]) : Hp w0 w' (Go.Xw.rV a' Y :: L) := by
 rcases h with ⟨rfl, rfl, hx⟩ | h
 ·exact hp.ext hx
 ·exact (Hp.toV (hp.call1 h)).f1.drop
theorem balAnd_h (y : NetA) (B : Nat) (la : Option Addr) (lc : Nat) (U : List Int) (a b : Int) {w0 w : World} {L : List Res} (hp : Hp w0 w (rB B 108 (y.cb (.slice la (levA U y.ands).length lc)) :: rO 62 2 eII y.aa y.ac y.ands :: rO 3 1 eI la lc (levA U y.ands) :: L))
  (hb : NetB y) (hl : y.ands.length ≤ 1000) (hU : U.length ≤ 1000) (hU0 : AllN U) (hUb : ∀ j, (levA U y.ands).getD j default ≤ 100000) (ha : 0 ≤ a ∧ a ≤ 1000000 ∧ (a / 2).toNat < (levA U y.ands).length) (hb2 : 0 ≤ b ∧ b ≤ 1000000 ∧ (b / 2).toNat < (levA U y.ands).length) :
  Ret Tryz.prog 108 [.pointer (some ⟨B, 0, none⟩), .int .i64 a, .int .i64 b] w (fun v w' => ∃ aa ac la' lc', v = .int .i64 (addAndL y.n a b).2 ∧
   Hp w0 w' (rB B 108 ((y.wA aa ac (addAndL y.n a b).1.ands).cb (.slice la' (levA U (addAndL y.n a b).1.ands).length lc')) :: rO 62 2 eII aa ac (addAndL y.n a b).1.ands :: rO 3 1 eI la' lc' (levA U (addAndL y.n a b).1.ands) :: L)) := by
 have hln := levA_len U y.ands
 have hne : la ≠ none := nn_of (hp.f2) (X := levA U y.ands) (by omega)
 have hya : y.n.ands = y.ands := rfl
 refine enter Tryz.S108ok _ _ rfl rfl (by show _ ≤ _; simp only [List.length]; decide) (fun C => ?_); refine h_run rfl ?_; (repeat (refine H_ldB hp rfl rfl ?_))
 refine h_call rfl Tryz.func89 (by kernel_rfl) rfl (addAndW_h y _ B a b hp hb (by omega) (by omega) (by omega)) ?_; rintro _ w ⟨aa, ac, rfl, hp⟩; refine ops_run nopre rfl ?_; (repeat (refine H_ldB hp rfl rfl ?_))
 rcases addAndL_ands y.n a b with e | ⟨e, _, e3⟩
 ·rw [e, hya] at hp ⊢
  refine h_cond_f (decide_eq_false (by show ¬ (y.ands.length : Int) < (y.ands.length : Nat); omega)) rfl ?_; (repeat (refine R_ret ?_))
  exact ⟨aa, ac, la, lc, rfl, hp⟩
 ·have hsn := levA_snoc U y.ands (min a b, max a b)
  have hmm : max (nl (levA U y.ands) (min a b)) (nl (levA U y.ands) (max a b)) = max (nl (levA U y.ands) a) (nl (levA U y.ands) b) := by
   by_cases hab : a ≤ b
   ·rw [Int.min_eq_left hab, Int.max_eq_right hab]
   ·rw [Int.min_eq_right (by omega), Int.max_eq_left (show b ≤ a by omega)]
    omega
  dsimp only at hsn
  rw [hmm] at hsn
  have g1 : 0 ≤ (levA U y.ands).getD (a / 2).toNat default := levA_nn _ hU0 _
  have g2 : 0 ≤ (levA U y.ands).getD (b / 2).toNat default := levA_nn _ hU0 _
  have g3 := hUb (a / 2).toNat
  have g4 := hUb (b / 2).toNat
  rw [e, hya] at hp ⊢
  refine h_cond_t (decide_eq_true (by show (y.ands.length : Int) < ((y.ands ++ [(min a b, max a b)]).length : Nat); rw [List.length_append, List.length_cons, List.length_nil]; omega)) rfl ?_; skip
  refine D_draw hp (by kernel_rfl) (by kernel_rfl) rfl rfl ?_; intro w hx hp; have hs := hp; (repeat (first | (refine gLoad ?_; first | refine D_ldB rfl rfl rfl ?_ | refine D_ldE rfl (by omega) (by omega) rfl rfl rfl ?_) | (refine gBuild ?_; refine V_litI (fun _ hx => hs.ext hx) hp rfl rfl rfl rfl rfl rfl rfl rfl rfl rfl ?_; intro w _ hx hp; have hs := hs.ext hx; refine D_ops rfl rfl ?_)))
  refine V_append hp rfl rfl rfl rfl rfl rfl rfl (by decide) rfl (by first | omega | (simp only [List.length_append, List.length_cons, List.length_nil, List.length_take, List.length_drop, List.length_set, List.length_replicate, List.length_map]; omega)) rfl rfl (by kernel_rfl) ?_; intro la' lc' w hp hnil; refine D_ops rfl rfl ?_; (repeat (first | (refine gStore ?_; refine V_stB hp rfl rfl rfl rfl (by kernel_rfl) ?_; intro w hp; refine D_ops rfl rfl ?_) | refine R_ret ?_))
  skip
  rw [hsn]
  exact ⟨aa, ac, la', lc', rfl, hp.drop⟩
theorem conjuncts_z (x : NetA) (w0 : World) (hX : NetR w0 x) (hok : NetOkP x.n) (z : Int) (k : Nat) (hz : z = (k : Int)) (h1 : fst_ x.n ≤ k) (h2 : k < nds x.n) :
  Ret Tryz.prog 106 [x.v, .int .i64 z] w0 (fun v w => ∃ b c, v = .slice b (conjL x.n k).length c ∧ Hp w0 w [rO 3 1 eI b c (conjL x.n k)]) := by
 have n3 := hok.nums.n1
 have hal : x.n.ands.length = x.ands.length := rfl
 have h := conjuncts_h x w0 hX hok (k - fst_ x.n) (by omega)
 rw [show fst_ x.n + (k - fst_ x.n) = k by omega] at h
 rw [hz]
 exact h
theorem neededNodes_h (x : NetA) (w0 : World) (hX : NetR w0 x) (hok : NetOkP x.n) :
  Ret Tryz.prog 105 [x.v] w0 (fun v w => ∃ b c, v = .slice b (nds x.n) c ∧ Hp w0 w [rO 4 1 eB b c (needL x.n)]) := by
 have hn := hok.nums
 obtain ⟨n1, n2, n3, n4, n5, n6⟩ := hn
 have hnd := hok.nodes
 have hsz := hok.size'
 have hf := NetOkP.fst' hok
 have hal : x.n.ands.length = x.ands.length := rfl
 have hrb := hok.bound x.seqs.length (Nat.le_refl _)
 have hrl : (rootsL x.n).length ≤ 100 := by have : rootsL x.n = rootsTo x.n x.n.seqs.length := rfl; rw [this, x.slen]; exact hrb
 refine enter Tryz.S105ok _ _ rfl rfl (by show _ ≤ _; simp only [List.length]; decide) (fun C => ?_); have hp := Hp.nil w0; refine h_run rfl ?_; skip; (first | refine H_box hp ?_ | refine H_alloc hp rfl ?_); intro w b1 hx hp; refine ops_run nopre rfl ?_; (repeat (refine H_ldB hp rfl rfl ?_))
 refine h_call rfl Tryz.func78 (by kernel_rfl) rfl (nodeCount_h x _ hok.b) ?_; rintro _ w ⟨rfl, hx⟩; have hp := hp.ext hx; refine ops_run nopre rfl ?_; skip
 rw [← n4]
 refine H_make hp eB false rfl rfl rfl rfl (s := 1) rfl (by decide) rfl (by unfold maxLen; omega) (by show 1 * _ ≤ _; omega) ?_; intro w b3 hx hp; refine ops_run nopre rfl ?_; (repeat (refine H_ldB hp rfl rfl ?_))
 refine h_call rfl Tryz.func100 (by kernel_rfl) rfl (implRoots_ok x _ hp.net hok) ?_; rintro _ w ⟨br, cr, rfl, hq⟩; have hx := hq.x; have hp := hp.call1 hq; refine ops_run nopre rfl ?_; skip
 have hB0 : (List.replicate (nds x.n) false).length = nds x.n := by simp
 have hrt : ∀ l, l ∈ rootsL x.n → (l / 2).toNat < nds x.n ∧ 0 ≤ l ∧ l ≤ 1000000 := fun l hl => by
  have h1 := hok.root l hl
  have h2 := h1.nat hok.nums
  unfold litP at h1
  omega
 refine h_loop [1, 3, 13, 14, 15] (fun (i : Nat) => [(1, .pointer (some ⟨b1, 0, none⟩)), (3, .slice (some ⟨b3, 0, none⟩) (nds x.n) (nds x.n)), (13, .slice br (rootsL x.n).length cr), (14, .int .i64 (rootsL x.n).length), (15, .int .i64 (i : Int))])
  (fun i w' => i ≤ (rootsL x.n).length ∧ Hp w0 w' [rO 3 1 eI br cr (rootsL x.n), rO 4 1 eB (some ⟨b3, 0, none⟩) (nds x.n) (markL (List.replicate (nds x.n) false) ((rootsL x.n).take i)), rB b1 31 x.cs]) (fun i => (rootsL x.n).length - i) 0 rfl ⟨by omega, hp⟩ ?_
 clear hp
 rintro i w1 ⟨hi, hp⟩ IH C
 have hml : (markL (List.replicate (nds x.n) false) ((rootsL x.n).take i)).length = nds x.n := by rw [markL_len, hB0]
 refine h_run rfl ?_; skip
 refine h_cond_dec (fun hlt => ?_) (fun hlt => ?_)
 ·have hlt' : i < (rootsL x.n).length := by omega
  obtain ⟨r1, r2, r3⟩ := hrt _ (getD_mem hlt')
  refine h_cond_t rfl rfl ?_; (repeat (first | (refine gLoad ?_; refine H_ldEN hp rfl (by omega) rfl rfl ?_) | (refine gStore ?_; refine U_st0 hp rfl rfl rfl (by omega) (by decide) rfl rfl ?_; intro w hp; refine ops_run nopre rfl ?_)))
  refine IH (i + 1) _ _ _ (by omega) rfl ⟨by omega, ?_⟩
  rw [take_snoc hlt', markL_snoc]
  exact hp
 ·refine h_cond_f rfl rfl ?_; (repeat (refine H_ldB hp rfl rfl ?_))
  obtain rfl : i = (rootsL x.n).length := by omega
  rw [List.take_length] at hp
  have hnt : ∀ d, (needTo x.n d).length = nds x.n := needTo_len x.n
  refine h_call rfl Tryz.func78 (by kernel_rfl) rfl (nodeCount_h x _ hok.b) ?_; rintro _ w ⟨rfl, hx⟩; have hp := hp.ext hx; refine ops_run nopre rfl ?_; skip
  rw [← n4]
  refine h_loop [1, 3, 6] (fun (d : Nat) => [(1, .pointer (some ⟨b1, 0, none⟩)), (3, .slice (some ⟨b3, 0, none⟩) (nds x.n) (nds x.n)), (6, .int .i64 ((nds x.n : Int) - 1 - (d : Int)))])
   (fun d w' => d ≤ x.ands.length ∧ Hp w0 w' [rO 4 1 eB (some ⟨b3, 0, none⟩) (nds x.n) (needTo x.n d), rB b1 31 x.cs]) (fun d => x.ands.length - d) 0 (by rw [show (nds x.n : Int) - 1 - ((0 : Nat) : Int) = (nds x.n : Int) - 1 by omega]; rfl) ⟨by omega, hp.drop⟩ ?_
  clear hp
  rintro d w1 ⟨hd, hp⟩ IH2 C
  have hdl := hnt d
  refine h_run rfl ?_; (repeat (refine H_ldB hp rfl rfl ?_))
  refine h_call rfl Tryz.func55 (by kernel_rfl) rfl (firstAnd_h x _ hok.b) ?_; rintro _ w ⟨rfl, hx⟩; have hp := hp.ext hx; refine ops_run nopre rfl ?_; skip
  refine h_cond_dec (fun hge => ?_) (fun hge => ?_)
  ·have hd2 : d < x.ands.length := by omega
   have ek : ((nds x.n : Int) - 1 - (d : Int)).toNat = nds x.n - 1 - d := by omega
   have ek2 : nds x.n - 1 - d = fst_ x.n + (x.ands.length - 1 - d) := by omega
   have ek3 : (nds x.n : Int) - 1 - (d : Int) = ((fst_ x.n + (x.ands.length - 1 - d) : Nat) : Int) := by omega
   have estep : (nds x.n : Int) - 1 - (d : Int) - 1 = (nds x.n : Int) - 1 - ((d + 1 : Nat) : Int) := by omega
   refine h_cond_t rfl rfl ?_; (repeat (refine H_ldE hp rfl (by omega) (by omega) rfl rfl ?_))
   by_cases hm : (needTo x.n d).getD (nds x.n - 1 - d) default = true
   ·have es : needTo x.n (d + 1) = markL (needTo x.n d) (conjL x.n (nds x.n - 1 - d)) := by rw [needTo, if_pos hm]
    refine h_cond_f (by rw [ek, hm]; rfl) rfl ?_; (repeat (refine H_ldB hp rfl rfl ?_))
    refine h_call rfl Tryz.func106 (by kernel_rfl) rfl (conjuncts_z x _ hp.net hok _ (nds x.n - 1 - d) (by omega) (by omega) (by omega)) ?_; rintro _ w ⟨bj, cj, rfl, hq⟩; have hx := hq.x; have hp := hp.call1 hq; refine ops_run nopre rfl ?_; skip
    have hcl := conjL_len x.n (nds x.n - 1 - d)
    have hlt2 : ∀ l, l ∈ conjL x.n (nds x.n - 1 - d) → (l / 2).toNat < nds x.n ∧ 0 ≤ l ∧ l ≤ 1000000 := fun l hl => by
     rw [ek2] at hl
     obtain ⟨h1, h2⟩ := conjL_lit hok (by omega) hl
     unfold litP at h1
     omega
    refine h_loop [1, 3, 6, 40, 41, 42] (fun (j : Nat) => [(1, .pointer (some ⟨b1, 0, none⟩)), (3, .slice (some ⟨b3, 0, none⟩) (nds x.n) (nds x.n)), (6, .int .i64 ((nds x.n : Int) - 1 - (d : Int))), (40, .slice bj (conjL x.n (nds x.n - 1 - d)).length cj), (41, .int .i64 (conjL x.n (nds x.n - 1 - d)).length), (42, .int .i64 (j : Int))])
     (fun j w' => j ≤ (conjL x.n (nds x.n - 1 - d)).length ∧ Hp w0 w' [rO 3 1 eI bj cj (conjL x.n (nds x.n - 1 - d)), rO 4 1 eB (some ⟨b3, 0, none⟩) (nds x.n) (markL (needTo x.n d) ((conjL x.n (nds x.n - 1 - d)).take j)), rB b1 31 x.cs]) (fun j => (conjL x.n (nds x.n - 1 - d)).length - j) 0 rfl ⟨by omega, hp⟩ ?_
    clear hp
    rintro j w1 ⟨hj, hp⟩ IH3 C
    have hml2 : (markL (needTo x.n d) ((conjL x.n (nds x.n - 1 - d)).take j)).length = nds x.n := by rw [markL_len, hdl]
    refine h_run rfl ?_; skip
    refine h_cond_dec (fun hlt3 => ?_) (fun hlt3 => ?_)
    ·have hlt3' : j < (conjL x.n (nds x.n - 1 - d)).length := by omega
     obtain ⟨r1, r2, r3⟩ := hlt2 _ (getD_mem hlt3')
     refine h_cond_t rfl rfl ?_; (repeat (first | (refine gLoad ?_; refine H_ldEN hp rfl (by omega) rfl rfl ?_) | (refine gStore ?_; refine U_st0 hp rfl rfl rfl (by omega) (by decide) rfl rfl ?_; intro w hp; refine ops_run nopre rfl ?_)))
     refine IH3 (j + 1) _ _ _ (by omega) rfl ⟨by omega, ?_⟩
     rw [take_snoc hlt3', markL_snoc]
     exact hp
    ·refine h_cond_f rfl rfl ?_; skip
     obtain rfl : j = (conjL x.n (nds x.n - 1 - d)).length := by omega
     rw [List.take_length] at hp
     refine IH2 (d + 1) _ _ _ (by omega) (by rw [← estep]; rfl) ⟨by omega, ?_⟩
     rw [es]
     exact hp.drop
   ·have es : needTo x.n (d + 1) = needTo x.n d := by rw [needTo, if_neg hm]
    refine h_cond_t (by rw [ek]; simp only [Bool.not_eq_true] at hm; rw [hm]; rfl) rfl ?_; skip
    refine IH2 (d + 1) _ _ _ (by omega) (by rw [← estep]; rfl) ⟨by omega, ?_⟩
    rw [es]
    exact hp
  ·refine h_cond_f rfl rfl ?_; (repeat (refine R_ret ?_))
   obtain rfl : d = x.n.ands.length := by omega
   exact ⟨some ⟨b3, 0, none⟩, nds x.n, rfl, hp.tk 1⟩
set_option maxHeartbeats 2000000 in
theorem implBalance_x (x : NetA) (w0 : World) (hX : NetR w0 x) (hS : NetS x.n) (hW : NetW x.n) :
  Ret Tryz.prog 59 [x.v] w0 (fun v w => ∃ y, (y.n = ifNet x.n (balanceL x.n) ∧ v = y.v) ∧ Hp w0 w [rNet y]) := by
 refine enter Tryz.S59ok _ _ rfl rfl (by show _ ≤ _; simp only [List.length]; decide) (fun C => ?_); have hp := Hp.nil w0; refine h_run rfl ?_; skip; (first | refine H_box hp ?_ | refine H_alloc hp rfl ?_); intro w b1 hx hp; refine ops_run nopre rfl ?_; skip; (first | refine H_box hp ?_ | refine H_alloc hp rfl ?_); intro w b2 hx hp; refine ops_run nopre rfl ?_; (repeat (refine H_ldB hp rfl rfl ?_))
 by_cases hok : NetOkP x.n
 ·rw [ifNet_yes hok]
  refine h_call rfl Tryz.func53 (by kernel_rfl) rfl ((implNetOk_h x _ hp.net hS).tt (netOkB_yes hok)) ?_; rintro _ w ⟨rfl, hx⟩; have hp := hp.ext hx; refine ops_run nopre rfl ?_; skip
  refine h_cond_f rfl rfl ?_; (repeat (refine H_ldB hp rfl rfl ?_))
  refine h_call rfl Tryz.func54 (by kernel_rfl) rfl (hashed_h x _ hp.net hok) ?_; rintro _ w ⟨h, ⟨hh, rfl⟩, hq⟩; have hx := hq.x; have hp := hp.call1 hq; refine ops_run nopre rfl ?_; skip
  (first | refine H_box hp ?_ | refine H_alloc hp rfl ?_); intro w b3 hx hp; refine ops_run nopre rfl ?_; (repeat (first | (refine gLoad ?_; refine H_ldB hp rfl rfl ?_) | (refine gStore ?_; refine U_stBN hp rfl rfl rfl rfl ?_; intro w hp; refine ops_run nopre rfl ?_)))
  have hhok : NetOkP h.n := by rw [hh]; exact hashL_ok hok
  have hbal : balanceL x.n = balL h.n := by unfold balanceL; rw [hh]
  have hn := hhok.nums
  have n1 := hn.n1
  have n4 := hn.n2
  have f2 := hn.f2
  have hnd := hhok.nodes
  have hsz := hhok.size'
  have hal : h.n.ands.length = h.ands.length := rfl
  refine h_call rfl Tryz.func105 (by kernel_rfl) rfl (neededNodes_h h _ hp.net hhok) ?_; rintro _ w ⟨bn, cn, rfl, hq⟩; have hx := hq.x; have hp := hp.call1 hq; refine ops_run nopre rfl ?_; skip
  refine N_draw hp (by kernel_rfl) (by kernel_rfl) rfl rfl ?_; (repeat (refine N_ldB rfl rfl rfl ?_))
  refine N_call Tryz.func86 (by kernel_rfl) rfl (fun F w hp => ?_); refine Ret.mono (emptyCopy_h h _ (rNet_r (hp.pre.take (rNet h))) hhok) ?_; rintro _ w ⟨y0, ⟨hy0, rfl⟩, hq⟩; have hp := hp.callF1 hq; refine ⟨fun _ => hp.sub (by (repeat (first | exact List.sublist_append_left _ _ | apply List.Sublist.cons))), _, hp, ?_⟩; clear hp; refine N_ops rfl rfl ?_; (repeat (refine N_ldB rfl rfl rfl ?_))
  refine N_call Tryz.func55 (by kernel_rfl) rfl (fun F w hp => ?_); refine Ret.mono (firstAnd_h h _ hhok.b) ?_; rintro _ w ⟨rfl, hx⟩; have hp := hp.ext hx; refine ⟨fun _ => hp.sub (by (repeat (first | exact List.sublist_append_left _ _ | apply List.Sublist.cons))), _, hp, ?_⟩; clear hp; refine N_ops rfl rfl ?_; skip
  rw [← f2]
  refine N_make eI 0 rfl rfl rfl rfl (s := 1) rfl (by decide) (by infer_instance) rfl (by unfold maxLen; omega) (by show 8 * _ ≤ _; omega) ?_; intro b24; refine N_ops rfl rfl ?_; skip
  (first | refine N_box ?_ | refine N_alloc rfl ?_); intro b5; refine N_ops rfl rfl ?_; skip
  refine N_end ?_; intro w hp C; refine h_run rfl ?_; (repeat (refine H_ldB hp rfl rfl ?_))
  refine h_call rfl Tryz.func87 (by kernel_rfl) rfl (leafLits_h h _ hhok) ?_; rintro _ w ⟨b6, c6, rfl, hq⟩; have hx := hq.x; have hp := hp.call1 hq; refine ops_run nopre rfl ?_; (repeat (refine H_ldB hp rfl rfl ?_))
  refine h_call rfl Tryz.func55 (by kernel_rfl) rfl (firstAnd_h h _ hhok.b) ?_; rintro _ w ⟨rfl, hx⟩; have hp := hp.ext hx; refine ops_run nopre rfl ?_; skip
  have hya : y0.ands = [] := congrArg NetL.ands hy0
  have hyi : y0.inputs = h.inputs := congrArg NetL.inputs hy0
  have hys : seqsOf y0.seqs = (begL h.n []).seqs := congrArg NetL.seqs hy0
  have hyl : y0.seqs.length = h.seqs.length := by rw [← seqsOf_len y0.seqs, hys, beg_at.1, h.slen]
  obtain ⟨U, hU⟩ : ∃ U, U = List.replicate (fst_ h.n) (0 : Int) := ⟨_, rfl⟩
  have hUl : U.length = fst_ h.n := by rw [hU]; simp
  have hU0 : AllN U := by rw [hU]; exact rep_nn _
  have hp := (rNet_open hp.f3).f2.f1.f3.f5.f4.f5
  rw [hya, ← hU] at hp
  refine h_loop [2, 3, 4, 5, 6, 7] (fun (i : Nat) => [(2, .pointer (some ⟨b2, 0, none⟩)), (3, .pointer (some ⟨b3, 0, none⟩)), (4, .slice bn (nds h.n) cn), (5, .pointer (some ⟨b5, 0, none⟩)), (6, .slice b6 (nds h.n) c6), (7, .int .i64 (firstAndL h.n + (i : Int)))])
   (fun i w' => i ≤ h.ands.length ∧ ∃ S aa ac la lc, balTo h.n (needL h.n) i = some S ∧ Hp w0 w' [rB b5 108 ((y0.wA aa ac S.1).cb (.slice la (levA U S.1).length lc)), rO 62 2 eII aa ac S.1, rO 3 1 eI la lc (levA U S.1), rO 3 1 eI b6 c6 (S.2 ++ List.replicate (h.ands.length - i) 0), rSq y0.sa y0.sc y0.seqs, rO 3 1 eI y0.oa y0.oc y0.outs, rO 4 1 eB bn cn (needL h.n), rB b3 31 h.cs, rNet h, rB b2 31 (cellsV Tryz.ti31.zero)]) (fun i => h.ands.length - i) 0 (by rw [show firstAndL h.n + ((0 : Nat) : Int) = firstAndL h.n by omega]; rfl)
   ⟨by omega, ([], leafL h.n), y0.aa, y0.ac, some ⟨b24, 0, none⟩, fst_ h.n, rfl, ?_⟩ ?_
  ·have hcs : cellsV (.agg ⟨[.int .i64 y0.inputs, .slice y0.sa y0.seqs.length y0.sc, .slice y0.aa y0.ands.length y0.ac, .slice y0.oa y0.outs.length y0.oc, .slice (some ⟨b24, 0, none⟩) (fst_ h.n) (fst_ h.n)]⟩) = (y0.wA y0.aa y0.ac []).cb (.slice (some ⟨b24, 0, none⟩) (levA U []).length (fst_ h.n)) := by
    unfold NetA.cb NetA.wA
    rw [show levA U [] = U from rfl, hUl, hya]
    rfl
   rw [hya] at hcs
   exact (Hp.cgB hp hcs).tk 10
  clear hp
  rintro i w1 ⟨hi, S, aa, ac, la, lc, hS, hp⟩ IH C
  have hB := balTo_ok hhok i hi S hS
  have hsl := hB.len
  have f1 := hB.b.f1
  have hSl := hB.b.alen
  have hpl : (S.2 ++ List.replicate (h.ands.length - i) (0 : Int)).length = nds h.n := by simp; omega
  have hvl : (levA U S.1).length = fst_ h.n + S.1.length := by rw [levA_len, hUl]
  have hnl : (needL h.n).length = nds h.n := needTo_len _ _
  refine h_run rfl ?_; (repeat (refine H_ldB hp rfl rfl ?_))
  refine h_call rfl Tryz.func78 (by kernel_rfl) rfl (nodeCount_h h _ hhok.b) ?_; rintro _ w ⟨rfl, hx⟩; have hp := hp.ext hx; refine ops_run nopre rfl ?_; skip
  refine h_cond_dec (fun hlt => ?_) (fun hlt => ?_)
  ·have hi2 : i < h.ands.length := by omega
   have ek : (firstAndL h.n + (i : Int)).toNat = fst_ h.n + i := by omega
   have estep : firstAndL h.n + (i : Int) + 1 = firstAndL h.n + ((i + 1 : Nat) : Int) := by omega
   have hrep : List.replicate (h.ands.length - i) (0 : Int) = List.replicate (h.ands.length - (i + 1) + 1) 0 := by rw [show h.ands.length - i = h.ands.length - (i + 1) + 1 by omega]
   refine h_cond_t rfl rfl ?_; (repeat (refine H_ldE hp rfl (by omega) (by omega) rfl rfl ?_))
   by_cases hm : (needL h.n).getD (fst_ h.n + i) default = true
   ·refine h_cond_f (by rw [ek, hm]; rfl) rfl ?_; (repeat (refine H_ldB hp rfl rfl ?_))
    refine h_call rfl Tryz.func106 (by kernel_rfl) rfl (conjuncts_z h _ hp.net hhok _ (fst_ h.n + i) (by omega) (by omega) (by omega)) ?_; rintro _ w ⟨bj, cj, rfl, hq⟩; have hx := hq.x; have hp := hp.call1 hq; refine ops_run nopre rfl ?_; skip
    have hcl := conjL_len h.n (fst_ h.n + i)
    have hlc : ∀ m, m ∈ conjL h.n (fst_ h.n + i) → (m / 2).toNat < fst_ h.n + i ∧ 0 ≤ m ∧ m / 2 < nds h.n ∧ litP (litV S.2 m) (firstAndL h.n + S.1.length) := fun m hm => by
     obtain ⟨h1, h2⟩ := conjL_lit hhok hi2 hm
     have h3 := hB.b.lit (l := m) (by rw [hsl]; exact h2)
     unfold litP at h1
     exact ⟨h2, h1.1, by omega, h3⟩
    refine h_loop3 [2, 3, 4, 5, 6, 7, 8, 44, 45, 46] (fun (j : Nat) (a : Option Addr) (c : Nat) => [(2, .pointer (some ⟨b2, 0, none⟩)), (3, .pointer (some ⟨b3, 0, none⟩)), (4, .slice bn (nds h.n) cn), (5, .pointer (some ⟨b5, 0, none⟩)), (6, .slice b6 (nds h.n) c6), (7, .int .i64 (firstAndL h.n + (i : Int))), (8, .slice a (insAll (levA U S.1) [] (mapL S.2 ((conjL h.n (fst_ h.n + i)).take j))).length c), (44, .slice bj (conjL h.n (fst_ h.n + i)).length cj), (45, .int .i64 (conjL h.n (fst_ h.n + i)).length), (46, .int .i64 (j : Int))])
     (fun j a c w' => (j ≤ (conjL h.n (fst_ h.n + i)).length ∧ (insAll (levA U S.1) [] (mapL S.2 ((conjL h.n (fst_ h.n + i)).take j))).length ≤ c) ∧ Hp w0 w' [rV a (insAll (levA U S.1) [] (mapL S.2 ((conjL h.n (fst_ h.n + i)).take j))), rO 3 1 eI bj cj (conjL h.n (fst_ h.n + i)), rB b5 108 ((y0.wA aa ac S.1).cb (.slice la (levA U S.1).length lc)), rO 62 2 eII aa ac S.1, rO 3 1 eI la lc (levA U S.1), rO 3 1 eI b6 c6 (S.2 ++ List.replicate (h.ands.length - i) 0), rSq y0.sa y0.sc y0.seqs, rO 3 1 eI y0.oa y0.oc y0.outs, rO 4 1 eB bn cn (needL h.n), rB b3 31 h.cs, rNet h, rB b2 31 (cellsV Tryz.ti31.zero)]) (fun j _ _ => (conjL h.n (fst_ h.n + i)).length - j) 0 none 0 rfl ⟨⟨by omega, by simp [insAll, mapL]⟩, hp.nilV⟩ ?_
    clear hp
    rintro j a c w1 ⟨⟨hj, hcap⟩, hp⟩ IH2 C
    have hil := insAll_len (V := levA U S.1) (xs := mapL S.2 ((conjL h.n (fst_ h.n + i)).take j)) (L := [])
    rw [mapL_len, List.length_take, List.length_nil] at hil
    refine h_run rfl ?_; skip
    refine h_cond_dec (fun hlt2 => ?_) (fun hlt2 => ?_)
    ·have hlt2' : j < (conjL h.n (fst_ h.n + i)).length := by omega
     obtain ⟨m1, m2, m3, m4⟩ := hlc _ (getD_mem hlt2')
     have m4' := m4
     unfold litP at m4'
     refine h_cond_t rfl rfl ?_; (repeat (refine H_ldEN hp rfl (by omega) rfl rfl ?_))
     refine h_call rfl Tryz.func90 (by kernel_rfl) rfl (mapLit_h b6 c6 _ (nds h.n) hpl ((conjL h.n (fst_ h.n + i)).getD j default) _ hp.rd m2 m3 (by omega)) ?_; rintro _ w ⟨rfl, hx⟩; have hp := hp.ext hx; refine ops_run nopre rfl ?_; skip
     rw [litV_pad]
     have hXb : ∀ l, l ∈ insAll (levA U S.1) [] (mapL S.2 ((conjL h.n (fst_ h.n + i)).take j)) → 0 ≤ l ∧ l / 2 < (levA U S.1).length ∧ l ≤ 1000000 := fun l hl => by
      rcases mem_insAll.1 hl with hl | hl
      ·simp at hl
      ·obtain ⟨q, hq, rfl⟩ := List.mem_map.1 hl
       have := (hlc q (List.mem_of_mem_take hq)).2.2.2
       unfold litP at this
       omega
     refine h_call rfl Tryz.func107 (by kernel_rfl) rfl (insert_h (y0.wA aa ac S.1) b5 la lc _ (levA U S.1) rfl a c _ (insAll (levA U S.1) [] (mapL S.2 ((conjL h.n (fst_ h.n + i)).take j))) rfl (litV S.2 ((conjL h.n (fst_ h.n + i)).getD j default)) _ hp.bk hp.rd hp.rd ⟨by omega, by omega, by omega⟩ hXb (srt_insAll List.Pairwise.nil) hcap (by omega)) ?_; rintro _ w ⟨a', c', rfl, hcap', hq⟩; refine ops_run nopre rfl ?_; skip
     have hp := Go.Proofs.Hp.insV hp hq
     have e : insAll (levA U S.1) [] (mapL S.2 ((conjL h.n (fst_ h.n + i)).take (j + 1))) = insB (levA U S.1) (insAll (levA U S.1) [] (mapL S.2 ((conjL h.n (fst_ h.n + i)).take j))) (litV S.2 ((conjL h.n (fst_ h.n + i)).getD j default)) := by
      rw [take_snoc hlt2', ← insAll_snoc]
      unfold mapL
      rw [List.map_append]
      rfl
     refine IH2 (j + 1) a' c' _ _ _ (by omega) (by rw [e]; rfl) ⟨⟨by omega, by rw [e]; exact hcap'⟩, ?_⟩
     rw [e]
     exact hp
    ·obtain rfl : j = (conjL h.n (fst_ h.n + i)).length := by omega
     rw [List.take_length] at hp hcap hil ⊢
     have hRS : RedS (firstAndL h.n) U S.1 (balLeaves h.n S (fst_ h.n + i)) := by rw [hU]; exact hB.leaves hhok hi2
     have hbl : balLeaves h.n S (fst_ h.n + i) = insAll (levA U S.1) [] (mapL S.2 (conjL h.n (fst_ h.n + i))) := by rw [hU]; rfl
     rw [← hbl] at hp hcap hil ⊢
     have hfU : U.length = (firstAndL h.n).toNat := by omega
     refine h_cond_f rfl rfl ?_; skip
     refine h_loop3 [2, 3, 4, 5, 6, 7, 8] (fun (X : List Int) (a : Option Addr) (c : Nat) => [(2, .pointer (some ⟨b2, 0, none⟩)), (3, .pointer (some ⟨b3, 0, none⟩)), (4, .slice bn (nds h.n) cn), (5, .pointer (some ⟨b5, 0, none⟩)), (6, .slice b6 (nds h.n) c6), (7, .int .i64 (firstAndL h.n + (i : Int))), (8, .slice a X.length c)])
      (fun X a c w' => (X.length ≤ c ∧ X.length ≤ 700) ∧ ∃ A aa ac la lc, (RedS (firstAndL h.n) U A X ∧ balRed (firstAndL h.n) U A X = balRed (firstAndL h.n) U S.1 (balLeaves h.n S (fst_ h.n + i))) ∧ Hp w0 w' [rV a X, rB b5 108 ((y0.wA aa ac A).cb (.slice la (levA U A).length lc)), rO 62 2 eII aa ac A, rO 3 1 eI la lc (levA U A), rO 3 1 eI b6 c6 (S.2 ++ List.replicate (h.ands.length - i) 0), rSq y0.sa y0.sc y0.seqs, rO 3 1 eI y0.oa y0.oc y0.outs, rO 4 1 eB bn cn (needL h.n), rB b3 31 h.cs, rNet h, rB b2 31 (cellsV Tryz.ti31.zero)]) (fun X _ _ => X.length) (balLeaves h.n S (fst_ h.n + i)) a c rfl ⟨⟨hcap, by omega⟩, S.1, aa, ac, la, lc, ⟨hRS, rfl⟩, hp.f1.drop⟩ ?_
     clear hp
     rintro X a c w1 ⟨⟨hXc, hXl⟩, A, aa, ac, la, lc, ⟨hR, hbr⟩, hp⟩ IH3 C
     have hAl := hR.b.alen
     have hvl2 : (levA U A).length = fst_ h.n + A.length := by rw [levA_len, hUl]
     have hlA : ∀ l, l ∈ X → 0 ≤ l ∧ l / 2 < firstAndL h.n + A.length := fun l hl => by have := hR.b.mem hl; unfold litP at this; exact this
     have hne0 := hR.ne
     refine h_run rfl ?_; skip
     refine h_cond_dec (fun hgt => ?_) (fun hgt => ?_)
     ·have hgt' : 1 < X.length := by omega
      have hst := balRed_step (f := firstAndL h.n) (U := U) (A := A) hgt'
      obtain ⟨l1, l2⟩ := hR.two hgt'
      have l1' := l1
      have l2' := l2
      unfold litP at l1' l2'
      have hyb : NetB (y0.wA aa ac A) := ⟨by show _ ≤ y0.inputs ∧ y0.inputs ≤ _; omega, by show y0.seqs.length ≤ _; omega, by show A.length ≤ _; omega⟩
      have hfd : firstAndL (y0.wA aa ac A).n = firstAndL h.n := by rw [firstAndL_eq, firstAndL_eq]; show 1 + y0.inputs + (y0.seqs.length : Nat) = _; omega
      have hC : addAndL (y0.wA aa ac A).n (X.getD 0 default) (X.getD 1 default) = ({ (y0.wA aa ac A).n with ands := (addC (firstAndL h.n) A (X.getD 0 default) (X.getD 1 default)).1 }, (addC (firstAndL h.n) A (X.getD 0 default) (X.getD 1 default)).2) := by
       rw [addAndL_C, hfd]; rfl
      have hUb : ∀ j, (levA U (y0.wA aa ac A).ands).getD j default ≤ 100000 := fun j => by
       have h1 := levR_le (fst_ h.n) A j
       rw [← hU] at h1
       show (levA U A).getD j default ≤ _
       omega
      have hb1 : 0 ≤ X.getD 0 default ∧ X.getD 0 default ≤ 1000000 ∧ (X.getD 0 default / 2).toNat < (levA U (y0.wA aa ac A).ands).length := ⟨by omega, by omega, by show _ < (levA U A).length; omega⟩
      have hb2 : 0 ≤ X.getD 1 default ∧ X.getD 1 default ≤ 1000000 ∧ (X.getD 1 default / 2).toNat < (levA U (y0.wA aa ac A).ands).length := ⟨by omega, by omega, by show _ < (levA U A).length; omega⟩
      refine h_cond_t rfl rfl ?_; skip
      refine D_draw hp (by kernel_rfl) (by kernel_rfl) rfl rfl ?_; intro w hx hp; have hs := hp; (repeat (refine D_ldEN rfl (by omega) rfl rfl rfl ?_))
      refine h_callq rfl Tryz.func108 (by kernel_rfl) rfl (balAnd_h (y0.wA aa ac A) b5 la lc U (X.getD 0 default) (X.getD 1 default) (hp.f3.f3.f3) hyb (by show A.length ≤ _; omega) (by omega) hU0 hUb hb1 hb2) ?_; rintro _ w ⟨aa', ac', la', lc', rfl, hp⟩; refine ⟨fun hq => Bool.noConfusion (hq.symm.trans (by kernel_rfl : flagAt _ _ = false)), ?_⟩; refine D_ops rfl rfl ?_; skip
      skip
      rw [hC] at hp ⊢
      dsimp only at hp
      refine h_cond_dec (fun hneg => ?_) (fun hneg => ?_)
      ·refine h_cond_t rfl rfl ?_; (repeat (first | (refine gLoad ?_; refine H_ldB hp rfl rfl ?_) | (refine gStore ?_; refine U_stBN hp rfl rfl rfl rfl ?_; intro w hp; refine ops_run nopre rfl ?_) | (refine gRetc ?_; refine R_ret1 hp rfl ?_)))
       have hnone : balRed (firstAndL h.n) (List.replicate (fst_ h.n) 0) S.1 (balLeaves h.n S (fst_ h.n + i)) = none := by rw [← hU, ← hbr, hst, if_pos hneg]
       exact ⟨h, ⟨by rw [hbal, balL_none (by omega) (balTo_fail hS hm hnone)], rfl⟩, hp.sub (by simp)⟩
      ·obtain ⟨Bp, hBp⟩ := addC_pre (f := firstAndL h.n) (A := A) (a := X.getD 0 default) (b := X.getD 1 default)
       have hR2 := hR.step hfU hgt' hneg
       have hst2 : balRed (firstAndL h.n) U (addC (firstAndL h.n) A (X.getD 0 default) (X.getD 1 default)).1 (insB (levA U (addC (firstAndL h.n) A (X.getD 0 default) (X.getD 1 default)).1) (X.drop 2) (addC (firstAndL h.n) A (X.getD 0 default) (X.getD 1 default)).2) = balRed (firstAndL h.n) U S.1 (balLeaves h.n S (fst_ h.n + i)) := by rw [← hbr, hst, if_neg hneg]
       have hlz : litP (addC (firstAndL h.n) A (X.getD 0 default) (X.getD 1 default)).2 (firstAndL h.n + (addC (firstAndL h.n) A (X.getD 0 default) (X.getD 1 default)).1.length) := hR2.b.mem (mem_insB.2 (.inl rfl))
       have hal2 := hR2.b.alen
       have hsd : SrtB (levA U (addC (firstAndL h.n) A (X.getD 0 default) (X.getD 1 default)).1) (X.drop 2) := by
        rw [hBp]
        exact srt_grow hfU (hR.b.sub fun x hx => List.mem_of_mem_drop hx) (List.Pairwise.sublist (List.drop_sublist _ _) hR.s)
       have hge := (addC_len (firstAndL h.n) A (X.getD 0 default) (X.getD 1 default)).1
       have hib := insB_len (V := levA U (addC (firstAndL h.n) A (X.getD 0 default) (X.getD 1 default)).1) (L := X.drop 2) (x := (addC (firstAndL h.n) A (X.getD 0 default) (X.getD 1 default)).2)
       clear hU0 hUb hb1 hb2 hC
       generalize (addC (firstAndL h.n) A (X.getD 0 default) (X.getD 1 default)).1 = A2 at *
       generalize (addC (firstAndL h.n) A (X.getD 0 default) (X.getD 1 default)).2 = z2 at *
       have hv2 : (levA U A2).length = fst_ h.n + A2.length := by rw [levA_len, hUl]
       unfold litP at hlz
       rw [List.length_drop] at hib
       have hXb : ∀ l, l ∈ X.drop 2 → 0 ≤ l ∧ l / 2 < (levA U A2).length ∧ l ≤ 1000000 := fun l hl => by
        have := hlA l (List.mem_of_mem_drop hl)
        omega
       refine h_cond_f rfl rfl ?_; skip
       have hp := (hp.f2.f2.f2.f3).dropV hXc (k := 2) (by omega)
       refine h_call rfl Tryz.func107 (by kernel_rfl) rfl (insert_h (y0.wA aa' ac' A2) b5 la' lc' _ (levA U A2) rfl (subA a c 1 2) (c - 2) _ (X.drop 2) (by rw [List.length_drop]; rfl) z2 _ hp.bk hp.rd hp.rd ⟨by omega, by omega, by omega⟩ hXb hsd (by show X.length - 2 ≤ c - 2; omega) (by show X.length - 2 ≤ _; omega)) ?_; rintro _ w ⟨a2, c2, rfl, hcap2, hq⟩; refine ops_run nopre rfl ?_; skip
       have hp := Go.Proofs.Hp.insV hp hq
       exact IH3 (insB (levA U A2) (X.drop 2) z2) a2 c2 _ _ _ (by omega) rfl ⟨⟨hcap2, by omega⟩, A2, aa', ac', la', lc', ⟨hR2, hst2⟩, hp⟩
     ·have hT : balRed (firstAndL h.n) U S.1 (balLeaves h.n S (fst_ h.n + i)) = some (A, X.getD 0 default) := by rw [← hbr, balRed_one (by omega)]
      have hS2 : balTo h.n (needL h.n) (i + 1) = some (A, S.2 ++ [X.getD 0 default]) := balTo_yes hS hm (T := (A, X.getD 0 default)) (by rw [← hU]; exact hT)
      refine h_cond_f rfl rfl ?_; (repeat (first | (refine gLoad ?_; refine H_ldEN hp rfl (by omega) rfl rfl ?_) | (refine gStore ?_; refine U_st0 hp rfl rfl rfl (by omega) (by decide) rfl rfl ?_; intro w hp; refine ops_run nopre rfl ?_)))
      refine IH (i + 1) _ _ _ (by omega) (by rw [← estep]; rfl) ⟨by omega, _, aa, ac, la, lc, hS2, ?_⟩
      rw [ek, hrep, show fst_ h.n + i = S.2.length by omega, pad_set] at hp
      exact hp.drop
   ·refine h_cond_t (by rw [ek]; simp only [Bool.not_eq_true] at hm; rw [hm]; rfl) rfl ?_; skip
    refine IH (i + 1) _ _ _ (by omega) (by rw [← estep]; rfl) ⟨by omega, _, aa, ac, la, lc, balTo_skip hS hm, ?_⟩
    rw [hrep] at hp
    dsimp only
    rw [List.append_assoc]
    exact hp
  ·obtain rfl : i = h.ands.length := by omega
   rw [Nat.sub_self, List.replicate_zero, List.append_nil] at hp hpl
   refine h_cond_f rfl rfl ?_; skip
   refine D_draw hp (by kernel_rfl) (by kernel_rfl) rfl rfl ?_; intro w hx hp; have hs := hp; (repeat (refine D_ldB rfl rfl rfl ?_))
   refine h_callq rfl Tryz.func91 (by kernel_rfl) rfl (copyRootsW_h _ b5 (y0.wA aa ac S.1) h b6 c6 (nds h.n) S.2 hpl (hp.f3.f3.f3.f5.f5.f5) hhok (Nat.le_refl _) (by omega) (by show _ ≤ y0.seqs.length; omega) (by show y0.seqs.length ≤ _; omega)) ?_; rintro _ w ⟨R, oa, oc, rfl, ⟨hR, hRs⟩, hp⟩; refine ⟨fun hq => Bool.noConfusion (hq.symm.trans (by kernel_rfl : flagAt _ _ = false)), ?_⟩; refine D_ops rfl rfl ?_; skip
   (repeat (refine H_ldB hp rfl rfl ?_))
   have hRl : R.length = y0.seqs.length := hR
   have hRs2 : seqsOf R = h.n.seqs.map fun s => ⟨s.kind, s.init, mapL S.2 s.ins⟩ := by
    rw [hRs]
    show upTo (crF (seqsOf y0.seqs) h.n _) h.seqs.length (seqsOf y0.seqs) = _
    rw [hys, ← h.slen]
    exact cr_all beg_at.1 beg_at.2
   have hpre : (NetA.mk y0.inputs R y0.sa y0.sc S.1 aa ac (mapL S.2 h.outs) oa oc).n = finN h.n S.1 S.2 := by
    unfold NetA.n
    rw [hRs2, hyi]
    rfl
   have hp := rNet_shut (x := ⟨y0.inputs, R, y0.sa, y0.sc, S.1, aa, ac, mapL S.2 h.outs, oa, oc⟩) (hp.f2.f3.f3)
   refine gCall ?_
   show Holds _ _ _ _ _ (.act (.call _ [.agg ⟨[.int .i64 y0.inputs, .slice y0.sa y0.seqs.length y0.sc, .slice aa S.1.length ac, .slice oa (mapL S.2 h.outs).length oc]⟩]) _)
   rw [← hRl]
   refine h_call rfl Tryz.func92 (by kernel_rfl) rfl (sweep_h ⟨y0.inputs, R, y0.sa, y0.sc, S.1, aa, ac, mapL S.2 h.outs, oa, oc⟩ _ hp.net (by rw [hpre]; exact balF_ok hhok hS)) ?_; rintro _ w ⟨z, ⟨hz, rfl⟩, hq⟩; have hx := hq.x; have hp := hp.call1 hq; refine ops_run nopre rfl ?_; (repeat (first | (refine gStore ?_; refine U_stBN hp rfl rfl rfl rfl ?_; intro w hp; refine ops_run nopre rfl ?_) | (refine gRetc ?_; refine R_ret1 hp rfl ?_)))
   rw [hpre] at hz
   exact ⟨z, ⟨by rw [hz, hbal, balL_some hS], rfl⟩, Hp.tk hp 1⟩
 ·rw [ifNet_no hok]
  refine h_call rfl Tryz.func53 (by kernel_rfl) rfl ((implNetOk_h x _ hp.net hS).ff (netOkB_no hok)) ?_; rintro _ w ⟨rfl, hx⟩; have hp := hp.ext hx; refine ops_run nopre rfl ?_; skip
  refine h_cond_t rfl rfl ?_; (repeat (first | (refine gStore ?_; refine U_stBN hp rfl rfl rfl rfl ?_; intro w hp; refine ops_run nopre rfl ?_) | (refine gRetc ?_; refine R_ret1 hp rfl ?_)))
  exact ⟨nilA, ⟨rfl, rfl⟩, Hp.tk (hpNil hp) 1⟩
end Go.Proofs
