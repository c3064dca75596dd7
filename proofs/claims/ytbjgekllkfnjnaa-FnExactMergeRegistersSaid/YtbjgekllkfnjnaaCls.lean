/- The contracts of the program's functions on classes of sequential elements; each under its stated conditions. -/
import Derived.Test.YtbjgekllkfnjnaaClsLaw
import Derived.Test.YtbjgekllkfnjnaaLists
import Derived.Test.YtbjgekllkfnjnaaSame
import Derived.Test.YtbjgekllkfnjnaaVal
set_option linter.all false
namespace Go.Proofs
open Go.Xw
set_option maxRecDepth 100000
set_option maxHeartbeats 1000000
attribute [local irreducible] Holds elemAddr
theorem pow_natC (m : Nat) : (2 : Int) ^ m = ((2 ^ m : Nat) : Int) := by
  induction m with
  | zero => rfl
  | succ m ih => rw [Int.pow_succ, Nat.pow_succ, ih]; rfl
theorem pow_10 {m : Nat} (h : m ≤ 10) : 0 < 2 ^ m ∧ 2 ^ m ≤ 1024 := ⟨Nat.pow_pos (by decide), by
  have := Nat.pow_le_pow_right (show 0 < 2 by decide) h
  exact this⟩
theorem app_set {P S : List Int} {i : Nat} {y : Int} (hl : P.length = i) (h : i < S.length) : (P ++ S.drop i).set i y = (P ++ [y]) ++ S.drop (i + 1) := by
  subst hl
  rw [List.set_append_right _ _ (Nat.le_refl _), Nat.sub_self, List.drop_eq_getElem_cons h, List.set_cons_zero, List.append_assoc]
  rfl
theorem app_get {P S : List Int} {j : Nat} (h : j < P.length) : (P ++ S).getD j default = P.getD j default := by
  simp [List.getD_eq_getElem?_getD, List.getElem?_append_left h]
/-- what is true of partitions over which all cases are few enough -/
theorem tot_eq {n : NetL} {cl : List Int} (h0 : 0 ≤ n.inputs) (ht : n.inputs + (clNL cl : Nat) ≤ 10) : (2 : Int) ^ (n.inputs + (clNL cl : Nat)).toNat = ((totC n cl : Nat) : Int) ∧ 0 < totC n cl ∧ totC n cl ≤ 1024 := by
  unfold totC
  rw [show (n.inputs + ((clNL cl : Nat) : Int)).toNat = n.inputs.toNat + clNL cl by omega]
  exact ⟨pow_natC _, (pow_10 (by omega)).1, (pow_10 (by omega)).2⟩
/-- the first input of an element is a literal of the net -/
theorem in0_lit {x : NetA} (hok : NetOkP x.n) {i : Nat} (hi : i < x.seqs.length) : litP ((x.seqs.getD i default).ins.getD 0 default) (nodesL x.n) ∧ 0 < (x.seqs.getD i default).ins.length := by
  have h1 := hok.ins hi
  refine ⟨?_, by omega⟩
  have := hok.inp (getD_mem (X := x.n.seqs) (i := i) (by rw [x.slen]; exact hi)) ((x.n.seqs.getD i default).ins.getD 0 default) (getD_mem (by rw [x.sins]; omega))
  rwa [x.sins] at this

theorem set_get {α : Type} [Inhabited α] {X : List α} {i j : Nat} {y : α} (hi : i < X.length) : (X.set i y).getD j default = if j = i then y else X.getD j default := by
  simp only [List.getD_eq_getElem?_getD, List.getElem?_set]
  by_cases h : i = j
  · subst h; simp [hi]
  · rw [if_neg h, if_neg (fun e => h e.symm)]
theorem classCount_h (a : Option Addr) (c : Nat) (cl : List Int) (w0 : World) (hR : Rd w0 a 1 eI cl) (hL : cl.length ≤ 1048576) :
    Ret Try.prog 115 [.slice a cl.length c] w0 (fun v w => v = .int .i64 (clNL cl : Nat) ∧ Ext w0 w) := by
  refine enter Try.S115ok _ _ rfl rfl (by show _ ≤ _; simp only [List.length]; decide) (fun C => ?_); have hp := Hp.nil w0; refine h_run rfl ?_; skip
  refine h_loop [3, 6, 7, 8] (fun (i : Nat) => [(3, .int .i64 ((clNTo cl i : Nat) : Int)), (6, .slice a cl.length c), (7, .int .i64 cl.length), (8, .int .i64 (i : Int))])
    (fun i w' => i ≤ cl.length ∧ Hp w0 w' []) (fun i => cl.length - i) 0 rfl ⟨by omega, hp⟩ ?_
  rintro i w1 ⟨hi, hp⟩ IH C
  have hle := clNTo_le cl i
  refine h_run rfl ?_; skip
  refine h_cond_dec (fun hlt => ?_) (fun hlt => ?_)
  · have hlt' : i < cl.length := by omega
    refine h_cond_t rfl rfl ?_; (repeat (refine H_ldEN hp rfl (by omega) rfl rfl ?_))
    refine h_cond_dec (fun h1 => ?_) (fun h1 => ?_)
    · refine h_cond_t rfl rfl ?_; skip
      refine IH (i + 1) _ _ _ (by omega) (by rw [clNTo, if_pos h1]; rfl) ⟨by omega, hp⟩
    · refine h_cond_f rfl rfl ?_; skip
      refine IH (i + 1) _ _ _ (by omega) (by rw [clNTo, if_neg h1]; rfl) ⟨by omega, hp⟩
  · refine h_cond_f rfl rfl ?_; (repeat (refine R_ret ?_))
    obtain rfl : i = cl.length := by omega
    exact ⟨rfl, hp.x⟩
/-- the next values of an element in all cases, as text -/
def bitsK (n : NetL) (cl : List Int) (X : Nat) (i : Nat) : List Int := (List.range X).map fun x => kN n cl ((x : Nat) : Int) i
def keyK (n : NetL) (cl : List Int) (i : Nat) : ByteArray := strOf (bitsK n cl (totC n cl) i)
def keysL (n : NetL) (cl : List Int) : List ByteArray := (List.range n.seqs.length).map (keyK n cl)
theorem keysL_len (n : NetL) (cl : List Int) : (keysL n cl).length = n.seqs.length := by simp [keysL]
theorem keysL_get (n : NetL) (cl : List Int) {i : Nat} (h : i < n.seqs.length) : (keysL n cl).getD i default = keyK n cl i := range_get (f := keyK n cl) h
theorem keyK_iff {n : NetL} {cl : List Int} {i j : Nat} : keyK n cl i = keyK n cl j ↔ sameK n cl i j := by
  have hb : ∀ i, ∀ x, x ∈ bitsK n cl (totC n cl) i → 0 ≤ x ∧ x ≤ 255 := fun i x hx => by
    obtain ⟨y, _, rfl⟩ := List.mem_map.1 hx
    have := kN_01 n cl (y : Int) i
    unfold is01 at this
    omega
  constructor
  · intro h x hx
    have h1 := strOf_inj (hb i) (hb j) h
    have e1 := range_get (f := fun x => kN n cl ((x : Nat) : Int) i) hx
    have e2 := range_get (f := fun x => kN n cl ((x : Nat) : Int) j) hx
    rw [← e1, ← e2]
    exact congrArg (fun l : List Int => l.getD x default) h1
  · intro h
    unfold keyK bitsK
    rw [List.map_congr_left fun x hx => h x (List.mem_range.1 hx)]
theorem bitsK_snoc (n : NetL) (cl : List Int) (X i : Nat) : bitsK n cl (X + 1) i = bitsK n cl X i ++ [kN n cl (X : Int) i] := by
  unfold bitsK
  rw [List.range_succ, List.map_append]
  rfl
theorem nodeValues_m (x : NetA) (a : Option Addr) (c : Nat) (st : List Int) (m : Nat) (hm : st.length = m) (inp : Int) (w0 : World) (hX : NetR w0 x) (hok : NetOkP x.n) (hR : Rd w0 a 1 eI st) (hl : m = x.seqs.length) :
    Ret Try.prog 125 [x.v, .slice a m c, .int .i64 inp] w0 (fun v w => ∃ b c', v = .slice b (nds x.n) c' ∧ Hp w0 w [rO 3 1 eI b c' (valsL x.n st inp)]) := by
  subst hm; exact nodeValues_h x a c st inp w0 hX hok hR hl
set_option maxHeartbeats 1500000 in
theorem inBits_h (x : NetA) (a : Option Addr) (c : Nat) (cl : List Int) (w0 : World) (hX : NetR w0 x) (hok : NetOkP x.n) (hR : Rd w0 a 1 eI cl) (hcl : clP x.n cl) (ht : x.n.inputs + (clNL cl : Nat) ≤ 10) :
    Ret Try.prog 118 [x.v, .slice a cl.length c] w0 (fun v w => ∃ b c', v = .slice b (keysL x.n cl).length c' ∧ Hp w0 w [rO 9 1 eStr b c' (keysL x.n cl)]) := by
  have hsz := hok.size'
  have hlen : cl.length = x.seqs.length := by rw [hcl.1, x.slen]
  have h64 : (IntKind.i64.bits : Int) = 64 := rfl
  have hin : x.n.inputs = x.inputs := rfl
  obtain ⟨t1, t2, t3⟩ := tot_eq (by omega) ht
  have hbk : x.inputs + ((clNL cl : Nat) : Int) ≤ ((IntKind.i64.bits : Nat) : Int) := by show _ ≤ (64 : Int); omega
  rw [hin] at t1 ht
  refine enter Try.S118ok _ _ rfl rfl (by show _ ≤ _; simp only [List.length]; decide) (fun C => ?_); have hp := Hp.nil w0; refine h_run rfl ?_; skip; (first | (refine H_box hp ?_; intro w b2 hx hp) | (refine H_alloc hp rfl ?_; intro w b2 hx hp)); refine ops_run nopre rfl ?_; skip
  refine D_draw hp (by kernel_rfl) (by kernel_rfl) rfl rfl ?_; intro w hx hp; have hs := hp; (repeat (refine D_ldB rfl rfl rfl ?_))
  refine h_callq rfl Try.func115 (by kernel_rfl) rfl (classCount_h a c cl _ hp.rd (by omega)) ?_; rintro _ w ⟨rfl, hx⟩; have hp := hp.ext hx; have hs := hs.ext hx; refine ⟨fun _ => hs, ?_⟩; refine D_ops rfl rfl ?_; skip
  (repeat (refine H_ldB hp rfl rfl ?_))
  refine H_make hp (eRo (α := Int)) (⟨[], none, 0⟩ : RowA Int) rfl rfl rfl rfl (s := 1) rfl (by decide) rfl (by unfold maxLen; omega) (by show 24 * _ ≤ _; omega) ?_; intro w b6 hx hp; refine ops_run nopre rfl ?_; (repeat (refine H_ldB hp rfl rfl ?_))
  refine H_make hp eI 0 rfl rfl rfl rfl (s := 1) rfl (by decide) rfl (by unfold maxLen; omega) (by show 8 * _ ≤ _; omega) ?_; intro w b7 hx hp; refine ops_run nopre rfl ?_; skip
  have hp := (rRows_nils (e := 5) (s := 1) (enc := eU8) x.seqs.length hp)
  refine h_loop [1, 2, 5, 6, 7, 8] (fun (X : Nat) => [(1, .slice a cl.length c), (2, .pointer (some ⟨b2, 0, none⟩)), (5, .int .i64 (x.inputs + ((clNL cl : Nat) : Int))), (6, .slice (some ⟨b6, 0, none⟩) x.seqs.length x.seqs.length), (7, .slice (some ⟨b7, 0, none⟩) x.seqs.length x.seqs.length), (8, .int .i64 (X : Int))])
    (fun X w' => X ≤ totC x.n cl ∧ ∃ (R : List (RowA Int)) (S : List Int), R.length = x.seqs.length ∧ S.length = x.seqs.length ∧ (∀ i, i < x.seqs.length → (R.getD i default).ins = bitsK x.n cl X i) ∧
      Hp w0 w' [rRows 5 1 eU8 R, rO 3 1 eI (some ⟨b7, 0, none⟩) x.seqs.length S, rO 22 1 eRo (some ⟨b6, 0, none⟩) x.seqs.length R, rB b2 28 x.cs]) (fun X => totC x.n cl - X) 0 rfl
    ⟨Nat.zero_le _, List.replicate x.seqs.length ⟨[], none, 0⟩, List.replicate x.seqs.length 0, by simp, by simp, fun i hi => by simp [List.getD_eq_getElem?_getD, hi, bitsK], hp⟩ ?_
  clear hp
  rintro X w1 ⟨hX2, R, S, hRl, hSl, hRi, hp⟩ IH C
  refine h_run rfl ?_; skip
  refine h_cond_dec (fun hlt => ?_) (fun hlt => ?_)
  · have hlt' : X < totC x.n cl := by omega
    refine h_cond_t rfl rfl ?_; (repeat (refine H_ldB hp rfl rfl ?_))
    refine h_loop [1, 2, 5, 6, 7, 8, 9, 40, 41, 42] (fun (i : Nat) => [(1, .slice a cl.length c), (2, .pointer (some ⟨b2, 0, none⟩)), (5, .int .i64 (x.inputs + ((clNL cl : Nat) : Int))), (6, .slice (some ⟨b6, 0, none⟩) x.seqs.length x.seqs.length), (7, .slice (some ⟨b7, 0, none⟩) x.seqs.length x.seqs.length), (8, .int .i64 (X : Int)), (9, .int .i64 (x.inputs + ((clNTo cl i : Nat) : Int))), (40, .slice a cl.length c), (41, .int .i64 cl.length), (42, .int .i64 (i : Int))])
      (fun i w' => i ≤ cl.length ∧ Hp w0 w' [rRows 5 1 eU8 R, rO 3 1 eI (some ⟨b7, 0, none⟩) x.seqs.length (stCT x.n.inputs cl (X : Int) i ++ S.drop i), rO 22 1 eRo (some ⟨b6, 0, none⟩) x.seqs.length R, rB b2 28 x.cs]) (fun i => cl.length - i) 0 (by rw [show x.inputs + ((clNTo cl 0 : Nat) : Int) = x.inputs by show x.inputs + 0 = _; omega]; rfl) ⟨by omega, hp⟩ ?_
    clear hp
    rintro i w1 ⟨hi, hp⟩ IH2 C
    have hstl := stCT_len x.n.inputs cl (X : Int) i
    have hsl : (stCT x.n.inputs cl (X : Int) i ++ S.drop i).length = x.seqs.length := by simp [hstl]; omega
    have hmono := clNTo_mono cl hi
    have hcn : clNTo cl cl.length = clNL cl := rfl
    have hbk2 : x.inputs + ((clNTo cl i : Nat) : Int) ≤ ((IntKind.i64.bits : Nat) : Int) := by show _ ≤ (64 : Int); omega
    refine h_run rfl ?_; skip
    refine h_cond_dec (fun hlt2 => ?_) (fun hlt2 => ?_)
    · have hlt2' : i < cl.length := by omega
      obtain ⟨cc, c1, c2, c3⟩ := hcl.rep hlt2'
      refine h_cond_t rfl rfl ?_; (repeat (refine H_ldEN hp rfl (by omega) rfl rfl ?_))
      refine h_cond_dec (fun h1 => ?_) (fun h1 => ?_)
      · refine h_cond_t rfl rfl ?_; (repeat (refine U_st0N hp rfl rfl rfl (by omega) (by decide) rfl rfl ?_; intro w hp; refine ops_run nopre rfl ?_))
        refine IH2 (i + 1) _ _ _ (by omega) (by rw [clNTo, if_pos h1, show x.inputs + ((clNTo cl i + 1 : Nat) : Int) = x.inputs + (clNTo cl i : Nat) + 1 by omega]; rfl) ⟨by omega, ?_⟩
        have e : stCT x.n.inputs cl (X : Int) (i + 1) = stCT x.n.inputs cl (X : Int) i ++ [bits .and .i64 ((X : Int) / 2 ^ (x.inputs + ((clNTo cl i : Nat) : Int)).toNat) 1] := by rw [stCT, if_pos h1]; rfl
        rw [e, ← app_set hstl (by omega)]
        exact hp
      · refine h_cond_f rfl rfl ?_; (repeat (first | (refine gLoad ?_; refine H_ldE hp rfl (by omega) (by omega) rfl rfl ?_) | (refine gStore ?_; refine U_st0N hp rfl rfl rfl (by omega) (by decide) rfl rfl ?_; intro w hp; refine ops_run nopre rfl ?_)))
        refine IH2 (i + 1) _ _ _ (by omega) (by rw [clNTo, if_neg h1]; rfl) ⟨by omega, ?_⟩
        have e : stCT x.n.inputs cl (X : Int) (i + 1) = stCT x.n.inputs cl (X : Int) i ++ [(stCT x.n.inputs cl (X : Int) i ++ S.drop i).getD (cl.getD i default).toNat default] := by rw [stCT, if_neg h1, app_get (by omega)]
        rw [e, ← app_set hstl (by omega)]
        exact hp
    · refine h_cond_f rfl rfl ?_; (repeat (refine H_ldB hp rfl rfl ?_))
      obtain rfl : i = cl.length := by omega
      have hst : stCT x.n.inputs cl (X : Int) cl.length ++ S.drop cl.length = stC x.n cl (X : Int) := by
        rw [List.drop_eq_nil_of_le (by omega), List.append_nil]; rfl
      rw [hst] at hp
      have hsl2 : (stC x.n cl (X : Int)).length = x.seqs.length := by rw [stC_len]; omega
      have hnd := hok.nodes
      have hvl : (valsL x.n (stC x.n cl (X : Int)) (X : Int)).length = nds x.n := valsL_len _ _ _
      have hn2 := hok.nums.n2
      have hc := hok.count
      refine h_call rfl Try.func125 (by kernel_rfl) rfl (nodeValues_m x (some ⟨b7, 0, none⟩) _ (stC x.n cl (X : Int)) _ hsl2 (X : Int) _ hp.net hok hp.rd rfl) ?_; rintro _ w ⟨b12, c12, rfl, hq⟩; have hx := hq.x; have hp := hp.call1 hq; refine ops_run nopre rfl ?_; (repeat (refine H_ldB hp rfl rfl ?_))
      refine h_loop [1, 2, 5, 6, 7, 8, 12, 73, 74, 75] (fun (i : Nat) => [(1, .slice a cl.length c), (2, .pointer (some ⟨b2, 0, none⟩)), (5, .int .i64 (x.inputs + ((clNL cl : Nat) : Int))), (6, .slice (some ⟨b6, 0, none⟩) x.seqs.length x.seqs.length), (7, .slice (some ⟨b7, 0, none⟩) x.seqs.length x.seqs.length), (8, .int .i64 (X : Int)), (12, .slice b12 (nds x.n) c12), (73, .slice x.sa x.seqs.length x.sc), (74, .int .i64 x.seqs.length), (75, .int .i64 (i : Int))])
        (fun i w' => i ≤ x.seqs.length ∧ ∃ (R : List (RowA Int)), R.length = x.seqs.length ∧ (∀ j, j < x.seqs.length → (R.getD j default).ins = bitsK x.n cl (if j < i then X + 1 else X) j) ∧
          Hp w0 w' [rRows 5 1 eU8 R, rO 3 1 eI b12 c12 (valsL x.n (stC x.n cl (X : Int)) (X : Int)), rO 3 1 eI (some ⟨b7, 0, none⟩) x.seqs.length (stC x.n cl (X : Int)), rO 22 1 eRo (some ⟨b6, 0, none⟩) x.seqs.length R, rB b2 28 x.cs]) (fun i => x.seqs.length - i) 0 rfl ⟨by omega, R, hRl, fun j hj => by rw [if_neg (by omega)]; exact hRi j hj, hp.f1⟩ ?_
      clear hp hRl hRi
      rintro i w1 ⟨hi2, R, hRl, hRi, hp⟩ IH3 C
      refine h_run rfl ?_; skip
      refine h_cond_dec (fun hlt3 => ?_) (fun hlt3 => ?_)
      · have hlt3' : i < x.seqs.length := by omega
        obtain ⟨l1, l2⟩ := in0_lit hok hlt3'
        have hxin := (inferInstance : NetH w0 [] x).in_ hlt3'
        refine h_cond_t rfl rfl ?_; (repeat (refine H_ldEN hp rfl (by omega) rfl rfl ?_))
        (first | (refine H_box hp ?_; intro w b14 hx hp) | (refine H_alloc hp rfl ?_; intro w b14 hx hp)); refine ops_run nopre rfl ?_; (repeat (refine U_stBN hp rfl rfl rfl rfl ?_; intro w hp; refine ops_run nopre rfl ?_))
        have hrl : (R.getD i default).ins.length = X := by rw [hRi i hlt3', if_neg (by omega)]; simp [bitsK]
        obtain ⟨Q, hp1, hback⟩ := rRows_at hp.f1 (show i < R.length by omega)
        clear hp
        have hp := hp1
        have hxr : Rd w0 (x.seqs.getD i default).ia 1 eI (x.seqs.getD i default).ins := hX.seqs.at_ hlt3'
        have l1' := l1
        unfold litP at l1'
        have hv01 : 0 ≤ litV (valsL x.n (stC x.n cl (X : Int)) (X : Int)) ((x.seqs.getD i default).ins.getD 0 default) ∧ litV (valsL x.n (stC x.n cl (X : Int)) (X : Int)) ((x.seqs.getD i default).ins.getD 0 default) ≤ 1 := by
          have := litV_01 (valsL_01 x.n (stC x.n cl (X : Int)) (X : Int)) ((x.seqs.getD i default).ins.getD 0 default)
          unfold is01 at this
          omega
        refine N_draw hp (by kernel_rfl) (by kernel_rfl) rfl rfl ?_; (repeat (refine nLoad ?_; first | refine N_ldB rfl rfl rfl ?_ | refine N_ldEN rfl (by omega) rfl rfl rfl ?_))
        refine N_call Try.func148 (by kernel_rfl) rfl (fun F w hp => ?_); refine Ret.mono (litValue_h b12 c12 (valsL x.n (stC x.n cl (X : Int)) (X : Int)) (nds x.n) hvl ((x.seqs.getD i default).ins.getD 0 default) _ hp.pre.rd l1.1 (by omega) (by omega)) ?_; rintro _ w ⟨rfl, hx⟩; have hp := hp.ext hx; refine ⟨fun _ => hp.sub (by (repeat (first | exact List.sublist_append_left _ _ | apply List.Sublist.cons))), _, hp, ?_⟩; clear hp; refine N_ops rfl rfl ?_; skip
        refine N_lit eU8 [litV (valsL x.n (stC x.n cl (X : Int)) (X : Int)) ((x.seqs.getD i default).ins.getD 0 default)] rfl rfl rfl rfl (s := 1) rfl (by decide) (by infer_instance) (by rfl) (by rfl) (by rfl) (by decide) ?_; intro b15; refine N_ops rfl rfl ?_; skip
        refine N_append rfl rfl rfl rfl rfl rfl rfl (by decide) rfl (by first | omega | (simp only [List.length_append, List.length_cons, List.length_nil, List.length_take, List.length_drop, List.length_set, List.length_replicate, List.length_map]; omega)) rfl rfl (fun hq => Bool.noConfusion (hq.symm.trans (by kernel_rfl : flagAt _ _ = false))) ?_; intro a' c' hnil; refine N_ops rfl rfl ?_; skip
        first | refine N_st0N (y := (⟨(R.getD i default).ins ++ [litV (valsL x.n (stC x.n cl (X : Int)) (X : Int)) ((x.seqs.getD i default).ins.getD 0 default)], a', c'⟩ : RowA Int)) rfl rfl rfl (by omega) (by decide) (rfl) rfl (by kernel_rfl) ?_ | refine N_st0 (y := (⟨(R.getD i default).ins ++ [litV (valsL x.n (stC x.n cl (X : Int)) (X : Int)) ((x.seqs.getD i default).ins.getD 0 default)], a', c'⟩ : RowA Int)) rfl rfl rfl (by omega) (by decide) (rfl) rfl (by kernel_rfl) ?_
        refine N_ops rfl rfl ?_; skip
        refine N_end ?_; intro w hp C; refine h_run rfl ?_; skip
        have hp := (hback _ _ (⟨(R.getD i default).ins ++ [litV (valsL x.n (stC x.n cl (X : Int)) (X : Int)) ((x.seqs.getD i default).ins.getD 0 default)], a', c'⟩ : RowA Int) hp.drop).f1.drop
        refine IH3 (i + 1) _ _ _ (by omega) rfl ⟨by omega, _, by rw [List.length_set]; exact hRl, fun j hj => ?_, hp⟩
        by_cases hji : j = i
        · subst hji
          rw [set_get (by omega), if_pos rfl, if_pos (by omega), hRi j hj, if_neg (by omega), bitsK_snoc]
          unfold kN
          rw [x.sins]
        · rw [set_get (by omega), if_neg hji, hRi j hj]
          by_cases hj2 : j < i
          · rw [if_pos hj2, if_pos (by omega)]
          · rw [if_neg hj2, if_neg (by omega)]
      · refine h_cond_f rfl rfl ?_; skip
        obtain rfl : i = x.seqs.length := by omega
        refine IH (X + 1) _ _ _ (by omega) rfl ⟨by omega, R, stC x.n cl (X : Int), hRl, hsl2, fun j hj => by rw [hRi j hj, if_pos hj], ?_⟩
        exact hp.f1.drop
  · refine h_cond_f rfl rfl ?_; skip
    obtain rfl : X = totC x.n cl := by omega
    have hkl := keysL_len x.n cl
    have hxs := x.slen
    refine h_loop3 [15, 97, 98, 99] (fun (i : Nat) (b : Option Addr) (cc : Nat) => [(15, .slice b ((keysL x.n cl).take i).length cc), (97, .slice (some ⟨b6, 0, none⟩) x.seqs.length x.seqs.length), (98, .int .i64 x.seqs.length), (99, .int .i64 (i : Int))])
      (fun i b cc w' => i ≤ x.seqs.length ∧ Hp w0 w' [rO 9 1 eStr b cc ((keysL x.n cl).take i), rRows 5 1 eU8 R, rO 22 1 eRo (some ⟨b6, 0, none⟩) x.seqs.length R]) (fun i _ _ => x.seqs.length - i) 0 none 0 rfl
      ⟨by omega, (show Hp w0 _ [rRows 5 1 eU8 R, rO 22 1 eRo (some ⟨b6, 0, none⟩) x.seqs.length R] from (hp.f1.drop.f2.f2.f2).tk 2).ownN (Ext.refl _) (Own.nil _ _ _ _ _)⟩ ?_
    clear hp
    rintro i b cc w1 ⟨hi, hp⟩ IH C
    have htl : ((keysL x.n cl).take i).length = i := by simp; omega
    refine h_run rfl ?_; skip
    refine h_cond_dec (fun hlt2 => ?_) (fun hlt2 => ?_)
    · have hlt2' : i < x.seqs.length := by omega
      have hrow : RdH w0 [rO 9 1 eStr b cc ((keysL x.n cl).take i), rRows 5 1 eU8 R, rO 22 1 eRo (some ⟨b6, 0, none⟩) x.seqs.length R] (R.getD i default).ia 1 eU8 (R.getD i default).ins := RowsH.at_ inferInstance (by omega)
      refine h_cond_t rfl rfl ?_; (repeat (refine H_ldEN hp rfl (by omega) rfl rfl ?_))
      refine H_b2s hp rfl rfl rfl rfl rfl rfl rfl rfl rfl rfl rfl ?_; refine ops_run nopre rfl ?_; skip
      refine H_lit hp eStr [strOf (R.getD i default).ins] rfl rfl rfl rfl (s := 1) rfl (by decide) (by infer_instance) (by rfl) (by rfl) (by rfl) (by decide) ?_; intro w b16 hx hp; refine ops_run nopre rfl ?_; skip
      refine U_append hp rfl rfl rfl rfl rfl rfl rfl (by decide) rfl (by first | omega | (simp only [List.length_append, List.length_cons, List.length_nil, List.length_take, List.length_drop, List.length_set, List.length_replicate, List.length_map]; omega)) rfl rfl ?_; intro b' c' w hp hnil; refine ops_run nopre rfl ?_; skip
      have ek : (keysL x.n cl).take (i + 1) = (keysL x.n cl).take i ++ [strOf (R.getD i default).ins] := by
        rw [take_snoc (show i < (keysL x.n cl).length by omega), keysL_get x.n cl (by omega), hRi i hlt2']; rfl
      refine IH (i + 1) b' c' _ _ _ (by omega) (by rw [ek]; rfl) ⟨by omega, ?_⟩
      rw [ek]
      exact hp.drop
    · refine h_cond_f rfl rfl ?_; (repeat (refine R_ret ?_))
      obtain rfl : i = x.seqs.length := by omega
      have hall : (keysL x.n cl).take x.seqs.length = keysL x.n cl := List.take_of_length_le (by omega)
      rw [hall] at hp ⊢
      exact ⟨b, cc, rfl, hp.tk 1⟩
end Go.Proofs
