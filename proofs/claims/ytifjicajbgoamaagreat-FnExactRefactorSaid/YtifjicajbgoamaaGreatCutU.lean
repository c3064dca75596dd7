/- Texts that belong together; each under its stated conditions. -/
import Derived.Test.YtifjicajbgoamaaGreatCut
import Derived.Test.YtifjicajbgoamaaGreatTabLaw
import Derived.Test.YtifjicajbgoamaaGreatAdd
set_option linter.all false
section
/- The contracts of the program's functions that give a node's table over a cut; each under its stated conditions. -/
namespace Go.Proofs
open Go.Xw
set_option maxRecDepth 100000
set_option maxHeartbeats 4000000
attribute [local irreducible] Holds elemAddr
theorem cvL_cut {n : NetL} {cut : List Int} (hA : Asc cut) {k j : Nat} (hk : k < nds n) (hj : j < cut.length) (he : cut.getD j default = (k : Int)) (q : Nat) : cvL n cut k q = bitI q j := by
  unfold cvL
  rw [cvTo_get hk]
  unfold cvAt
  rw [if_pos (by rw [← he]; exact getD_mem hj), asc_idx hA hj he]
theorem cvL_leaf {n : NetL} {cut : List Int} {k : Nat} (hk : k < nds n) (hc : (k : Int) ∉ cut) (hf : k < fst_ n) (q : Nat) : cvL n cut k q = 0 := by
  unfold cvL
  rw [cvTo_get hk]
  unfold cvAt
  rw [if_neg hc, if_neg (by omega)]
theorem cvL_and {n : NetL} (hn : Nums n) {cut : List Int} {i : Nat} (hi : i < n.ands.length) (hc : ((fst_ n + i : Nat) : Int) ∉ cut) (q : Nat) :
    cvL n cut (fst_ n + i) q = bits .and .i64 (bits .xor .i64 (cvL n cut (kA n i) q) (bits .and .i64 (n.ands.getD i default).1 1)) (bits .xor .i64 (cvL n cut (kB n i) q) (bits .and .i64 (n.ands.getD i default).2 1)) := by
  have ka := hn.ka i hi
  have kb := hn.kb i hi
  have n1 := hn.n1
  have side : ∀ l : Int, (l / 2).toNat < fst_ n + i → litV (cvTo n cut q (fst_ n + i)) l = bits .xor .i64 (cvL n cut (l / 2).toNat q) (bits .and .i64 l 1) := fun l hl => by
    unfold litV cvL
    rw [cvTo_get hl, cvTo_get (show (l / 2).toNat < nds n by omega)]
  have e : cvL n cut (fst_ n + i) q = cvAt n cut q (cvTo n cut q (fst_ n + i)) (fst_ n + i) := by unfold cvL; rw [cvTo_get (by omega)]
  rw [e]
  unfold cvAt
  rw [if_neg hc, if_pos (by omega), show fst_ n + i - fst_ n = i by omega, side _ ka, side _ kb]
  rfl
structure MOk (n : NetL) (cut : List Int) (q : Nat) (M : List Int) : Prop where
  len : M.length = nds n
  get : ∀ j, j < nds n → fst_ n ≤ j → (j : Int) ∉ cut → M.getD j default = 0 ∨ M.getD j default = 1 + cvL n cut j q
theorem MOk.set {n : NetL} {cut : List Int} {q : Nat} {M : List Int} (h : MOk n cut q M) {k : Nat} (hk : k < nds n) {v : Int} (hv : v = 1 + cvL n cut k q) : MOk n cut q (M.set k v) := by
  refine ⟨by rw [List.length_set]; exact h.len, fun j hj hf hc => ?_⟩
  by_cases hjk : j = k
  · subst hjk
    right
    simp only [List.getD_eq_getElem?_getD, List.getElem?_set_self (show j < M.length by rw [h.len]; exact hj), Option.getD_some]
    exact hv
  · have := h.get j hj hf hc
    simp only [List.getD_eq_getElem?_getD, List.getElem?_set_ne (fun e => hjk e.symm)] at this ⊢
    exact this
theorem valueAbove_h (x : NetA) {w0 : World} (hX : NetR w0 x) (hok : NetOkP x.n) (ca : Option Addr) (cc : Nat) (cut : List Int) (hcl : cut.length ≤ 4) (hA : Asc cut) (hT : Rd w0 ca 1 eI cut) (q : Nat) (hq : q ≤ 65536) (a : Option Addr) (c : Nat) : ∀ (k : Nat), k < nds x.n → ∀ (w : World) (L : List Res) (M : List Int), Hp w0 w (rO 3 1 eI a c M :: L) → MOk x.n cut q M →
    Ret Tryz.prog 120 [x.v, .int .i64 (k : Int), .slice ca cut.length cc, .int .i64 (q : Int), .slice a (nds x.n) c] w (fun v w' => ∃ M', v = .int .i64 (cvL x.n cut k q) ∧ MOk x.n cut q M' ∧ Hp w0 w' (rO 3 1 eI a c M' :: L)) := by
  have hn := hok.nums
  obtain ⟨n1, n2, n3, n4, n5, n6⟩ := hn
  have hn := hok.nums
  have hnd := hok.nodes
  have hal : x.n.ands.length = x.ands.length := rfl
  intro k
  induction k using Nat.strongRecOn with
  | _ k ih =>
  have ihF : ∀ m, m < k → m < nds x.n → ∀ (w : World) (L F : List Res) (M : List Int), Hp w0 w ((rO 3 1 eI a c M :: L) ++ F) → MOk x.n cut q M →
      Ret Tryz.prog 120 [x.v, .int .i64 (m : Int), .slice ca cut.length cc, .int .i64 (q : Int), .slice a (nds x.n) c] w (fun v w' => ∃ M', v = .int .i64 (cvL x.n cut m q) ∧ MOk x.n cut q M' ∧ Hp w0 w' ((rO 3 1 eI a c M' :: L) ++ F)) :=
    fun m h1 h2 w L F M h3 h4 => ih m h1 h2 w (L ++ F) M h3 h4
  intro hk w L M hp hM
  refine enter Tryz.S120ok _ _ rfl rfl (by show _ ≤ _; simp only [List.length]; decide) (fun C => ?_); refine h_run rfl ?_; skip
  (first | (refine H_box hp ?_; intro w b5 hx hp) | (refine H_alloc hp rfl ?_; intro w b5 hx hp)); refine ops_run nopre rfl ?_; skip
  refine h_loop [1, 2, 3, 4, 5, 16, 17, 18] (fun (j : Nat) => [(1, .int .i64 (k : Int)), (2, .slice ca cut.length cc), (3, .int .i64 (q : Int)), (4, .slice a (nds x.n) c), (5, .pointer (some ⟨b5, 0, none⟩)), (16, .slice ca cut.length cc), (17, .int .i64 cut.length), (18, .int .i64 (j : Int))])
    (fun j w' => (j ≤ cut.length ∧ ∀ m, m < j → cut.getD m default ≠ (k : Int)) ∧ Hp w0 w' (rB b5 31 x.cs :: rO 3 1 eI a c M :: L)) (fun j => cut.length - j) 0 rfl ⟨⟨by omega, fun m hm => by omega⟩, hp⟩ ?_
  clear hp
  rintro j w1 ⟨⟨hj, hne⟩, hp⟩ IHL C
  have hbk : ((j : Nat) : Int) ≤ ((IntKind.i64.bits : Nat) : Int) := by show ((j : Nat) : Int) ≤ 64; omega
  refine h_run rfl ?_; skip
  refine h_cond_dec (fun hlt => ?_) (fun hlt => ?_)
  · have hlt' : j < cut.length := by omega
    refine h_cond_t rfl rfl ?_; (repeat (refine H_ldEN hp rfl (by omega) rfl rfl ?_))
    refine h_cond_dec (fun he => ?_) (fun he => ?_)
    · refine h_cond_t rfl rfl ?_; (repeat (refine R_ret ?_))
      exact ⟨M, by rw [cvL_cut hA hk hlt' he]; rfl, hM, hp.drop⟩
    · refine h_cond_f rfl rfl ?_; skip
      refine IHL (j + 1) _ _ _ (by omega) rfl ⟨⟨by omega, fun m hm => ?_⟩, hp⟩
      by_cases hm2 : m < j
      · exact hne m hm2
      · obtain rfl : m = j := by omega
        exact he
  · obtain rfl : j = cut.length := by omega
    have hc : (k : Int) ∉ cut := fun h => by
      obtain ⟨m, h1, h2⟩ := mem_getD_iff.1 h
      exact hne m h1 h2
    have hMl := hM.len
    refine h_cond_f rfl rfl ?_; (repeat (refine H_ldB hp rfl rfl ?_))
    refine h_call rfl Tryz.func39 (by kernel_rfl) rfl (isAnd_h x k _ hok.b) ?_; rintro _ w ⟨rfl, hx⟩; have hp := hp.ext hx; refine ops_run nopre rfl ?_; skip
    refine h_cond_ndec (fun hA2 => ?_) (fun hA2 => ?_)
    · refine h_cond_t rfl rfl ?_; (repeat (refine R_ret ?_))
      exact ⟨M, by rw [cvL_leaf hk hc (by omega)], hM, hp.drop⟩
    · have hi : k - fst_ x.n < x.ands.length := by omega
      have hki : fst_ x.n + (k - fst_ x.n) = k := by omega
      have hz : ((k : Int) - firstAndL x.n).toNat = k - fst_ x.n := by omega
      have Q := hok.and_ hi
      have Q' := Q
      rw [← hz] at Q'
      obtain ⟨Q1, Q2, Q3, Q4⟩ := Q
      obtain ⟨Q1', Q2', Q3', Q4'⟩ := Q'
      have ka := n5 _ hi
      have kb := n6 _ hi
      have eA : ((kA x.n (k - fst_ x.n) : Nat) : Int) = (x.ands.getD (k - fst_ x.n) default).1 / 2 := Int.toNat_of_nonneg (show 0 ≤ (x.ands.getD (k - fst_ x.n) default).1 / 2 by omega)
      have eB' : ((kB x.n (k - fst_ x.n) : Nat) : Int) = (x.ands.getD (k - fst_ x.n) default).2 / 2 := Int.toNat_of_nonneg (show 0 ≤ (x.ands.getD (k - fst_ x.n) default).2 / 2 by omega)
      have hcv := cvL_and hn hi (by rw [hki]; exact hc) (q := q) (cut := cut)
      rw [hki] at hcv
      have h01 := cvL_01 x.n cut k q
      unfold is01 at h01
      have hg := hM.get k hk (by omega) hc
      have hnea : a ≠ none := nn_of hp (X := M) (by omega)
      refine h_cond_f rfl rfl ?_; (repeat (refine H_ldEN hp rfl (by omega) rfl rfl ?_))
      refine h_cond_dec (fun h0 => ?_) (fun h0 => ?_)
      · refine h_cond_t rfl rfl ?_; skip
        refine N_draw hp (by kernel_rfl) (by kernel_rfl) rfl rfl ?_; (repeat (refine N_ldB rfl rfl rfl ?_))
        refine N_call Tryz.func55 (by kernel_rfl) rfl (fun F w hp => ?_); refine Ret.mono (firstAnd_h x _ hok.b) ?_; rintro _ w ⟨rfl, hx⟩; have hp := hp.ext hx; refine ⟨fun _ => hp.sub (by (repeat (first | exact List.sublist_append_left _ _ | apply List.Sublist.cons))), _, hp, ?_⟩; clear hp; refine N_ops rfl rfl ?_; (repeat (refine N_ldE rfl (by omega) (by omega) rfl rfl rfl ?_))
        (first | refine N_box ?_ | refine N_alloc rfl ?_); intro b13; refine N_ops rfl rfl ?_; (repeat (refine N_stBN rfl rfl rfl rfl (by kernel_rfl) ?_; refine N_ops rfl rfl ?_))
        refine N_end ?_; intro w hp C; refine h_run rfl ?_; skip
        rw [hz] at hp
        refine N_draw0 hp (show Hp w0 w [rB b13 62 (eII (x.ands.getD (k - fst_ x.n) default)), rB b5 31 x.cs] from Hp.tk hp 2) (by kernel_rfl) (by kernel_rfl) rfl rfl ?_; (repeat (refine N_ldB rfl rfl rfl ?_))
        show HoldsF _ _ _ _ _ _ (G.act (.call _ [_, .int .i64 ((x.ands.getD (k - fst_ x.n) default).1 / 2), _, _, _]) _)
        rw [← eA]
        refine N_f1 ?_; refine N_f1 ?_; refine N_f2 ?_
        refine N_call Tryz.func120 (by kernel_rfl) rfl (fun F w hp => ?_); refine Ret.mono (ihF (kA x.n (k - fst_ x.n)) (by omega) (by omega) _ _ _ M hp hM) ?_; rintro _ w ⟨M1, rfl, hM1, hp⟩; refine ⟨fun _ => Hp.tk (Hp.drop hp.pre) 2, _, hp, ?_⟩; clear hp; refine N_ops rfl rfl ?_; (repeat (refine N_ldB rfl rfl rfl ?_))
        refine N_end ?_; intro w hp C; refine h_run rfl ?_; skip
        have hM1l := hM1.len
        have hp := hp.f2.f2
        refine N_draw0 hp (show Hp w0 w [rB b13 62 (eII (x.ands.getD (k - fst_ x.n) default)), rB b5 31 x.cs] from Hp.tk hp 2) (by kernel_rfl) (by kernel_rfl) rfl rfl ?_; (repeat (refine N_ldB rfl rfl rfl ?_))
        show HoldsF _ _ _ _ _ _ (G.act (.call _ [_, .int .i64 ((x.ands.getD (k - fst_ x.n) default).2 / 2), _, _, _]) _)
        rw [← eB']
        refine N_f1 ?_; refine N_f1 ?_; refine N_f2 ?_
        refine N_call Tryz.func120 (by kernel_rfl) rfl (fun F w hp => ?_); refine Ret.mono (ihF (kB x.n (k - fst_ x.n)) (by omega) (by omega) _ _ _ M1 hp hM1) ?_; rintro _ w ⟨M2, rfl, hM2, hp⟩; refine ⟨fun _ => Hp.tk (Hp.drop hp.pre) 2, _, hp, ?_⟩; clear hp; refine N_ops rfl rfl ?_; (repeat (refine N_ldB rfl rfl rfl ?_))
        have hM2l := hM2.len
        have hnea2 : a ≠ none := hnea
        obtain ⟨va, hva⟩ : ∃ va, va = bits .and .i64 (bits .xor .i64 (cvL x.n cut (kA x.n (k - fst_ x.n)) q) (bits .and .i64 (x.ands.getD (k - fst_ x.n) default).1 1)) (bits .xor .i64 (cvL x.n cut (kB x.n (k - fst_ x.n)) q) (bits .and .i64 (x.ands.getD (k - fst_ x.n) default).2 1)) := ⟨_, rfl⟩
        have hcv' : cvL x.n cut k q = va := by rw [hva]; exact hcv
        have hva1 : bits .and .i64 (bits .xor .i64 (cvL x.n cut (kA x.n (k - fst_ x.n)) q) (bits .and .i64 (x.ands.getD (k - fst_ x.n) default).1 1)) (bits .xor .i64 (cvL x.n cut (kB x.n (k - fst_ x.n)) q) (bits .and .i64 (x.ands.getD (k - fst_ x.n) default).2 1)) = 0 ∨ bits .and .i64 (bits .xor .i64 (cvL x.n cut (kA x.n (k - fst_ x.n)) q) (bits .and .i64 (x.ands.getD (k - fst_ x.n) default).1 1)) (bits .xor .i64 (cvL x.n cut (kB x.n (k - fst_ x.n)) q) (bits .and .i64 (x.ands.getD (k - fst_ x.n) default).2 1)) = 1 := by rw [← hva, ← hcv']; exact h01
        have hset : (M2.set k (1 + bits .and .i64 (bits .xor .i64 (cvL x.n cut (kA x.n (k - fst_ x.n)) q) (bits .and .i64 (x.ands.getD (k - fst_ x.n) default).1 1)) (bits .xor .i64 (cvL x.n cut (kB x.n (k - fst_ x.n)) q) (bits .and .i64 (x.ands.getD (k - fst_ x.n) default).2 1)))).getD k default = 1 + bits .and .i64 (bits .xor .i64 (cvL x.n cut (kA x.n (k - fst_ x.n)) q) (bits .and .i64 (x.ands.getD (k - fst_ x.n) default).1 1)) (bits .xor .i64 (cvL x.n cut (kB x.n (k - fst_ x.n)) q) (bits .and .i64 (x.ands.getD (k - fst_ x.n) default).2 1)) := by
          simp only [List.getD_eq_getElem?_getD, List.getElem?_set_self (show k < M2.length by omega), Option.getD_some]
        have hsl3 : (M2.set k (1 + bits .and .i64 (bits .xor .i64 (cvL x.n cut (kA x.n (k - fst_ x.n)) q) (bits .and .i64 (x.ands.getD (k - fst_ x.n) default).1 1)) (bits .xor .i64 (cvL x.n cut (kB x.n (k - fst_ x.n)) q) (bits .and .i64 (x.ands.getD (k - fst_ x.n) default).2 1)))).length = nds x.n := by rw [List.length_set]; exact hM2l
        refine N_end ?_; intro w hp C; refine h_run rfl ?_; (repeat (first | (refine gLoad ?_; refine H_ldEN hp rfl (by omega) rfl rfl ?_) | (refine gStore ?_; refine U_st0N hp rfl rfl rfl (by omega) (by decide) rfl rfl ?_; intro w hp; refine ops_run nopre rfl ?_) | refine R_ret ?_))
        skip
        refine ⟨_, ?_, hM2.set hk (by rw [hcv', hva]), hp.f1.drop.f1.drop⟩
        rw [hset, hcv', hva]
        congr 1
        omega
      · have hg2 : M.getD k default = 1 + cvL x.n cut k q := hg.resolve_left h0
        refine h_cond_f rfl rfl ?_; (repeat (first | (refine gLoad ?_; refine H_ldEN hp rfl (by omega) rfl rfl ?_) | refine R_ret ?_))
        exact ⟨M, by rw [hg2]; congr 1; omega, hM, hp.drop⟩
theorem valueAbove_F (x : NetA) {w0 : World} (hX : NetR w0 x) (hok : NetOkP x.n) (ca : Option Addr) (cc : Nat) (cut : List Int) (hcl : cut.length ≤ 4) (hA : Asc cut) (hT : Rd w0 ca 1 eI cut) (q : Nat) (hq : q ≤ 65536) (a : Option Addr) (c : Nat) (k : Nat) (hk : k < nds x.n) {w : World} {L F : List Res} {M : List Int} (hp : Hp w0 w ((rO 3 1 eI a c M :: L) ++ F)) (hM : MOk x.n cut q M) :
    Ret Tryz.prog 120 [x.v, .int .i64 (k : Int), .slice ca cut.length cc, .int .i64 (q : Int), .slice a (nds x.n) c] w (fun v w' => ∃ M', v = .int .i64 (cvL x.n cut k q) ∧ MOk x.n cut q M' ∧ Hp w0 w' ((rO 3 1 eI a c M' :: L) ++ F)) :=
  valueAbove_h x hX hok ca cc cut hcl hA hT q hq a c k hk w (L ++ F) M hp hM
theorem cutTableC_h (x : NetA) (k : Nat) (ca : Option Addr) (cc : Nat) (cut : List Int) (hcl : cut.length ≤ 4) (hA : Asc cut) (hk : k < nds x.n) (hok : NetOkP x.n) (b3 b4 b5 : Nat) (q : Nat) (hq : q ≤ 65536) (w0 : World) (hX : NetR w0 x) (hT : Rd w0 ca 1 eI cut) (h3 : Bk w0 b3 31 x.cs) (h4 : Bk w0 b4 3 [.int .i64 (k : Int)]) (h5 : Bk w0 b5 24 [.slice ca cut.length cc]) :
    Ret Tryz.prog 119 [.int .i64 (q : Int), .pointer (some ⟨b3, 0, none⟩), .pointer (some ⟨b4, 0, none⟩), .pointer (some ⟨b5, 0, none⟩)] w0 (fun v w' => v = .bool (decide (cvL x.n cut k q = 1)) ∧ Ext w0 w') := by
  have hn := hok.nums
  have n4 := hn.n2
  have hnd := hok.nodes
  refine enter Tryz.S119ok _ _ rfl rfl (by show _ ≤ _; simp only [List.length]; decide) (fun C => ?_); have hp := Hp.nil w0; refine h_run rfl ?_; skip
  refine N_draw hp (by kernel_rfl) (by kernel_rfl) rfl rfl ?_; (repeat (refine N_ldB rfl rfl rfl ?_))
  refine N_call Tryz.func78 (by kernel_rfl) rfl (fun F w hp => ?_); refine Ret.mono (nodeCount_h x _ hok.b) ?_; rintro _ w ⟨rfl, hx⟩; have hp := hp.ext hx; refine ⟨fun _ => hp.sub (by (repeat (first | exact List.sublist_append_left _ _ | apply List.Sublist.cons))), _, hp, ?_⟩; clear hp; refine N_ops rfl rfl ?_; skip
  rw [← n4]
  refine N_make eI 0 rfl rfl rfl rfl (s := 1) rfl (by decide) (by infer_instance) rfl (by unfold maxLen; omega) (by show 8 * _ ≤ _; omega) ?_; intro b12; refine N_ops rfl rfl ?_; skip
  have hM0 : MOk x.n cut q (List.replicate (nds x.n) 0) := ⟨by simp, fun j hj _ _ => .inl (by simp only [List.getD_eq_getElem?_getD, List.getElem?_replicate]; split <;> rfl)⟩
  refine N_call Tryz.func120 (by kernel_rfl) rfl (fun F w hp => ?_); refine Ret.mono (valueAbove_F x hX hok ca cc cut hcl hA hT q hq (some ⟨b12, 0, none⟩) (nds x.n) k hk hp hM0) ?_; rintro _ w ⟨M, rfl, hM, hp⟩; refine ⟨fun hq => Bool.noConfusion (hq.symm.trans (by kernel_rfl : flagAt _ _ = false)), _, hp, ?_⟩; clear hp; refine N_ops rfl rfl ?_; skip
  refine N_end ?_; intro w hp C; refine h_run rfl ?_; (repeat (refine R_ret ?_))
  exact ⟨rfl, hp.x⟩
end Go.Proofs
end
section
/- The contracts of CutTable on both sides; each under its stated conditions. -/
namespace Go.Proofs
open Go.Xw
set_option maxRecDepth 100000
set_option maxHeartbeats 400000
attribute [local irreducible] Holds elemAddr
theorem pow_nat (m : Nat) : (2 : Int) ^ m = ((2 ^ m : Nat) : Int) := by
  induction m with
  | zero => rfl
  | succ m ih => rw [Int.pow_succ, Nat.pow_succ, ih]; rfl
theorem pow_4 {m : Nat} (h : m ≤ 4) : 2 ^ m ≤ 16 := by
  have := Nat.pow_le_pow_right (show 0 < 2 by decide) h
  exact this
theorem pow_16 {i : Nat} (h : i < 16) : (1 : Int) ≤ 2 ^ i ∧ (2 : Int) ^ i ≤ 65536 := by
  have h1 := Nat.pow_le_pow_right (show 0 < 2 by decide) (show i ≤ 16 by omega)
  have h2 := Nat.pow_pos (n := i) (show 0 < 2 by decide)
  have h3 : 2 ^ 16 = 65536 := by decide
  rw [pow_nat]
  omega
theorem tbTo_b (n : NetL) (cut : List Int) (r : Nat) {i : Nat} (h : i ≤ 16) : 0 ≤ tbTo n cut r i ∧ tbTo n cut r i ≤ 65536 := by
  have h1 := tbTo_lt n cut r i
  have h2 : (2 : Int) ^ i ≤ 65536 := by
    rw [pow_nat]
    have h1 := Nat.pow_le_pow_right (show 0 < 2 by decide) h
    have h3 : 2 ^ 16 = 65536 := by decide
    omega
  omega
theorem tableOf_h (n : NetL) (cut : List Int) (r m : Nat) (hm : m ≤ 4) (f : Nat) (cap : List Value) (fn : Func) (hf : Tryz.prog.funcs[f]? = some fn) (hne : (fn.name == "runtime.NumGoroutine") = false) (hbn : fn.body.isNone = false) (w0 : World)
    (hcl : ∀ (i : Nat), i < 2 ^ m → ∀ w, Ext w0 w → Ret Tryz.prog f (.int .i64 (i : Int) :: cap) w (fun v w' => v = .bool (decide (cvL n cut r i = 1)) ∧ Ext w w')) :
    Ret Tryz.prog 118 [.int .i64 (m : Int), .func (.func f) ⟨[]⟩ ⟨cap⟩] w0 (fun v w => v = .agg ⟨eII ((m : Int), tbTo n cut r (2 ^ m))⟩ ∧ Ext w0 w) := by
  have h16 := pow_4 hm
  have hpm := pow_nat m
  have hpm' : (2 : Int) ^ ((m : Nat) : Int).toNat = ((2 ^ m : Nat) : Int) := by rw [Int.toNat_natCast]; exact hpm
  have hbkm : ((m : Nat) : Int) ≤ ((IntKind.i64.bits : Nat) : Int) := by show ((m : Nat) : Int) ≤ 64; omega
  refine enter Tryz.S118ok _ _ rfl rfl (by show _ ≤ _; simp only [List.length]; decide) (fun C => ?_); have hp := Hp.nil w0; refine h_run rfl ?_; skip; (first | (refine H_box hp ?_; intro w b4 hx hp) | (refine H_alloc hp rfl ?_; intro w b4 hx hp)); refine ops_run nopre rfl ?_; skip; (first | (refine H_box hp ?_; intro w b5 hx hp) | (refine H_alloc hp rfl ?_; intro w b5 hx hp)); refine ops_run nopre rfl ?_; (repeat (refine U_stBN hp rfl rfl rfl rfl ?_; intro w hp; refine ops_run nopre rfl ?_))
  refine h_loop [0, 1, 4, 5, 6] (fun (i : Nat) => [(0, .int .i64 (m : Int)), (1, .func (.func f) ⟨[]⟩ ⟨cap⟩), (4, .pointer (some ⟨b4, 0, none⟩)), (5, .pointer (some ⟨b5, 0, none⟩)), (6, .int .i64 (i : Int))])
    (fun i w' => i ≤ 2 ^ m ∧ Hp w0 w' [rB b5 49 [.int .i64 (m : Int), .int .i64 (tbTo n cut r i)], rB b4 49 (cellsV Tryz.ti49.zero)]) (fun i => 2 ^ m - i) 0 rfl ⟨Nat.zero_le _, hp⟩ ?_
  clear hp
  rintro i w1 ⟨hi, hp⟩ IH C
  refine h_run rfl ?_; skip
  refine h_cond_dec (fun hlt => ?_) (fun hlt => ?_)
  · have hlt' : i < 2 ^ m := by omega
    have hpi := pow_16 (show i < 16 by omega)
    have hpi' : (2 : Int) ^ ((i : Nat) : Int).toNat = 2 ^ i := by rw [Int.toNat_natCast]
    have hbki : ((i : Nat) : Int) ≤ ((IntKind.i64.bits : Nat) : Int) := by show ((i : Nat) : Int) ≤ 64; omega
    have h01 := cvL_01 n cut r i
    have htl := tbTo_lt n cut r i
    refine h_cond_t rfl rfl ?_; skip
    refine h_call rfl hf hne hbn (hcl i hlt' _ hp.x) ?_; rintro _ w ⟨rfl, hx⟩; have hp := hp.ext hx; refine ops_run nopre rfl ?_; skip
    refine h_cond_dec (fun h1 => ?_) (fun h1 => ?_)
    · refine h_cond_t rfl rfl ?_; (repeat (first | (refine gLoad ?_; refine H_ldB hp rfl rfl ?_) | (refine gStore ?_; refine U_stB hp rfl rfl rfl rfl ?_; intro w hp; refine ops_run nopre rfl ?_)))
      have e : bits .or .i64 (tbTo n cut r i) (1 * 2 ^ ((i : Nat) : Int).toNat) = tbTo n cut r (i + 1) := by
        rw [hpi', or_bit htl.1 htl.2 (.inr rfl) (by omega), tbTo, h1]
      have hp : Hp w0 w [rB b5 49 [.int .i64 (m : Int), .int .i64 (bits .or .i64 (tbTo n cut r i) (1 * 2 ^ ((i : Nat) : Int).toNat))], rB b4 49 (cellsV Tryz.ti49.zero)] := hp
      rw [e] at hp
      exact IH (i + 1) _ _ _ (by omega) rfl ⟨by omega, hp⟩
    · have h2 : cvL n cut r i = 0 := h01.resolve_right h1
      refine h_cond_f rfl rfl ?_; skip
      refine IH (i + 1) _ _ _ (by omega) rfl ⟨by omega, ?_⟩
      rw [tbTo, h2, Int.zero_mul, Int.add_zero]
      exact hp
  · obtain rfl : i = 2 ^ m := by omega
    refine h_cond_f rfl rfl ?_; (repeat (first | (refine gLoad ?_; refine H_ldB hp rfl rfl ?_) | (refine gStore ?_; refine U_stBN hp rfl rfl rfl rfl ?_; intro w hp; refine ops_run nopre rfl ?_) | (refine gRetc ?_; refine R_ret1 hp rfl ?_)))
    exact ⟨rfl, hp.x⟩
theorem cutTable_h (x : NetA) (k : Nat) (ca : Option Addr) (cc : Nat) (cut : List Int) (hcl : cut.length ≤ 4) (hA : Asc cut) (hk : k < nds x.n) (hok : NetOkP x.n) (w0 : World) (hX : NetR w0 x) (hT : Rd w0 ca 1 eI cut) :
    Ret Tryz.prog 82 [x.v, .int .i64 (k : Int), .slice ca cut.length cc] w0 (fun v w => v = .agg ⟨eII (tabL x.n cut k)⟩ ∧ Ext w0 w) := by
  have h16 := pow_4 hcl
  refine enter Tryz.S82ok _ _ rfl rfl (by show _ ≤ _; simp only [List.length]; decide) (fun C => ?_); have hp := Hp.nil w0; refine h_run rfl ?_; skip; (first | (refine H_box hp ?_; intro w b3 hx hp) | (refine H_alloc hp rfl ?_; intro w b3 hx hp)); refine ops_run nopre rfl ?_; skip; (first | (refine H_box hp ?_; intro w b4 hx hp) | (refine H_alloc hp rfl ?_; intro w b4 hx hp)); refine ops_run nopre rfl ?_; skip; (first | (refine H_box hp ?_; intro w b5 hx hp) | (refine H_alloc hp rfl ?_; intro w b5 hx hp)); refine ops_run nopre rfl ?_; skip; (first | (refine H_box hp ?_; intro w b6 hx hp) | (refine H_alloc hp rfl ?_; intro w b6 hx hp)); refine ops_run nopre rfl ?_; (repeat (refine H_ldB hp rfl rfl ?_))
  have h3 := hp.g3
  have h4 := hp.g2
  have h5 := hp.g1
  have hx0 := hp.x
  refine h_call rfl Tryz.func118 (by kernel_rfl) rfl (tableOf_h x.n cut k cut.length hcl 119 [.pointer (some ⟨b3, 0, none⟩), .pointer (some ⟨b4, 0, none⟩), .pointer (some ⟨b5, 0, none⟩)] _ Tryz.func119 (by kernel_rfl) rfl _ (fun (i : Nat) hi w' hx => cutTableC_h x k ca cc cut hcl hA hk hok b3 b4 b5 i (by omega) w' (hX.ext (hx0.trans hx)) (hT.ext (hx0.trans hx)) ⟨Blk.ext h3 hx⟩ ⟨Blk.ext h4 hx⟩ ⟨Blk.ext h5 hx⟩)) ?_; rintro _ w ⟨rfl, hx⟩; have hp := hp.ext hx; refine ops_run nopre rfl ?_; (repeat (first | (refine gStore ?_; refine U_stBN hp rfl rfl rfl rfl ?_; intro w hp; refine ops_run nopre rfl ?_) | (refine gRetc ?_; refine R_ret1 hp rfl ?_)))
  exact ⟨rfl, hp.x⟩
end Go.Proofs
end
