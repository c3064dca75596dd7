/- Texts that belong together; each under its stated conditions. -/
import Derived.Test.YtbjgekllkfnjnaaClsLaw
import Derived.Test.YtbjgekllkfnjnaaPruneLaw
set_option linter.all false
section
/- The net in which flip-flops of a class are one, as plain data; no condition but the stated ones. -/
namespace Go.Xw
open Go.Proofs
set_option maxHeartbeats 1000000

/-- the literals of the nodes, those of the first i elements through their classes -/
def plTo (n : NetL) (cl : List Int) (i : Nat) : List Int := (List.range (nds n)).map fun k => if fsq n ≤ k ∧ k < fsq n + i then 2 * ((fsq n : Int) + cl.getD (k - fsq n) default) else 2 * ((k : Nat) : Int)
theorem plTo_len (n : NetL) (cl : List Int) (i : Nat) : (plTo n cl i).length = nds n := by simp [plTo]
theorem plTo_get {n : NetL} {cl : List Int} {i k : Nat} (h : k < nds n) : (plTo n cl i).getD k default = if fsq n ≤ k ∧ k < fsq n + i then 2 * ((fsq n : Int) + cl.getD (k - fsq n) default) else 2 * ((k : Nat) : Int) :=
  range_get (f := fun k => if fsq n ≤ k ∧ k < fsq n + i then 2 * ((fsq n : Int) + cl.getD (k - fsq n) default) else 2 * ((k : Nat) : Int)) h
theorem plTo_zero (n : NetL) (cl : List Int) : plTo n cl 0 = (List.range (nds n)).map fun k => 2 * ((k : Nat) : Int) := by
  unfold plTo
  exact List.map_congr_left fun k _ => if_neg (by omega)
theorem plTo_set {n : NetL} {cl : List Int} {i : Nat} (h : fsq n + i < nds n) : (plTo n cl i).set (fsq n + i) (2 * ((fsq n : Int) + cl.getD i default)) = plTo n cl (i + 1) := by
  refine list_eq (by rw [List.length_set, plTo_len, plTo_len]) fun k hk => ?_
  rw [List.length_set, plTo_len] at hk
  rw [plTo_get hk]
  by_cases hki : k = fsq n + i
  · subst hki
    rw [List.getD_eq_getElem?_getD, List.getElem?_set_self (by rw [plTo_len]; exact h), Option.getD_some, if_pos ⟨by omega, by omega⟩, show fsq n + i - fsq n = i by omega]
  · rw [List.getD_eq_getElem?_getD, List.getElem?_set_ne (by omega), ← List.getD_eq_getElem?_getD, plTo_get hk]
    by_cases h1 : fsq n ≤ k ∧ k < fsq n + i
    · rw [if_pos h1, if_pos ⟨h1.1, by omega⟩]
    · rw [if_neg h1, if_neg (by omega)]
def placeL (n : NetL) (cl : List Int) : List Int := plTo n cl cl.length
theorem placeL_len (n : NetL) (cl : List Int) : (placeL n cl).length = nds n := plTo_len _ _ _
/-- the node that stands for node k -/
def repN (n : NetL) (cl : List Int) (k : Nat) : Nat := if fsq n ≤ k ∧ k < fsq n + cl.length then fsq n + (cl.getD (k - fsq n) default).toNat else k
theorem repN_le {n : NetL} {cl : List Int} (h : clP n cl) (k : Nat) : repN n cl k ≤ k := by
  unfold repN
  split
  · rename_i hk
    have := (h.2 (k - fsq n) (by omega)).1
    omega
  · exact Nat.le_refl _
theorem placeL_get {n : NetL} {cl : List Int} (h : clP n cl) {k : Nat} (hk : k < nds n) : (placeL n cl).getD k default = 2 * ((repN n cl k : Nat) : Int) := by
  unfold placeL repN
  rw [plTo_get hk]
  split
  · rename_i hk
    have := (h.2 (k - fsq n) (by omega)).1
    omega
  · rfl
def mapA (to : List Int) (A : List (Int × Int)) : List (Int × Int) := A.map fun q => (litV to q.1, litV to q.2)
theorem mapA_len (to : List Int) (A : List (Int × Int)) : (mapA to A).length = A.length := by simp [mapA]
theorem mapA_get {to : List Int} {A : List (Int × Int)} {i : Nat} (h : i < A.length) : (mapA to A).getD i default = (litV to (A.getD i default).1, litV to (A.getD i default).2) := map_getD (f := fun q : Int × Int => (litV to q.1, litV to q.2)) h
theorem mapA_snoc {to : List Int} {A : List (Int × Int)} {i : Nat} (h : i < A.length) : mapA to (A.take (i + 1)) = mapA to (A.take i) ++ [(litV to (A.getD i default).1, litV to (A.getD i default).2)] := by
  unfold mapA
  rw [take_snoc h, List.map_append]
  rfl
theorem mrg_lit {n : NetL} (hok : NetOkP n) {cl : List Int} (h : clP n cl) {l m : Int} (hl : litP l m) (hm : m ≤ nodesL n) : litP (litV (placeL n cl) l) m := by
  have hlt := (hl.mono hm).nat hok.nums
  have hc := hok.count
  have hr := repN_le h (l / 2).toNat
  unfold litP at hl
  refine litV_litP ?_ (by omega)
  rw [placeL_get h hlt]
  unfold litP
  omega
theorem mrg_bld {n : NetL} (hok : NetOkP n) {cl : List Int} (h : clP n cl) : Bld (firstAndL n) (mapA (placeL n cl) n.ands) (placeL n cl) := by
  have hc := hok.count
  have hs := hok.size
  have h2 := hok.nums.f2
  have hn := hok.nums.n2
  have hnd : nodesL n = firstAndL n + n.ands.length := rfl
  have hfa : firstAndL n = 1 + n.inputs + n.seqs.length := rfl
  unfold sizeOk at hs
  refine ⟨⟨hc.1, by omega⟩, by rw [mapA_len]; omega, fun i hi => ?_, fun k hk => ?_⟩
  · rw [mapA_len] at hi
    rw [mapA_get hi]
    obtain ⟨q1, q2⟩ := hok.andP hi
    exact ⟨mrg_lit hok h q1 (by omega), mrg_lit hok h q2 (by omega)⟩
  · rw [placeL_len] at hk
    have hr := repN_le h k
    rw [placeL_get h hk, mapA_len]
    unfold litP
    omega
noncomputable def mrgN (n : NetL) : NetL := finN n (mapA (placeL n (regL n)) n.ands) (placeL n (regL n))
theorem mrgN_ok {n : NetL} (hok : NetOkP n) : NetOkP (mrgN n) := finN_ok hok (mrg_bld hok (regL_P n)) (by rw [placeL_len]; exact Nat.le_refl _)
noncomputable def mrgR (n : NetL) : NetL := pruneL (hashL (mrgN n))
theorem mrgR_ok {n : NetL} (hok : NetOkP n) : NetOkP (mrgR n) := pruneL_ok (hashL_ok (mrgN_ok hok))
theorem sMrg {n : NetL} (_ : NetS n) : NetS (ifNet n (mrgR n)) := ifNet_S mrgR_ok
end Go.Xw
end
section
/- The classes that are found hold, and no partition that holds is coarser; plain data, no condition but the stated ones. -/
namespace Go.Xw
open Go.Proofs
set_option maxHeartbeats 1000000

/-! ### bits of numbers -/
theorem pow_nat2 (m : Nat) : (2 : Int) ^ m = ((2 ^ m : Nat) : Int) := by
  induction m with
  | zero => rfl
  | succ m ih => rw [Int.pow_succ, Nat.pow_succ, ih]; rfl
theorem bitI_nat (y k : Nat) : bitI (y : Int) k = if y.testBit k = true then 1 else 0 := by
  unfold bitI
  rw [bits_and_one, pow_nat2, ← Int.natCast_ediv, Nat.testBit_eq_decide_div_mod_eq]
  by_cases h : y / 2 ^ k % 2 = 1
  · rw [if_pos (by simpa using h)]; omega
  · rw [if_neg (by simpa using h)]; omega
theorem bitI_eq {y z k : Nat} (h : y.testBit k = z.testBit k) : bitI (y : Int) k = bitI (z : Int) k := by rw [bitI_nat, bitI_nat, h]
theorem valsL_low {n : NetL} (hok : NetOkP n) {st : List Int} (hs : st.length = n.seqs.length) {x y : Int} (h : ∀ k, k < n.inputs.toNat → bitI x k = bitI y k) : valsL n st x = valsL n st y := by
  rw [valsL_eq hok hs, valsL_eq hok hs]
  unfold leafV
  rw [List.map_congr_left fun k hk => h k (List.mem_range.1 hk)]
theorem stCT_low {n : NetL} (h0 : 0 ≤ n.inputs) {cl : List Int} {x y : Nat} : ∀ j, (∀ s, s < n.inputs.toNat + clNTo cl j → x.testBit s = y.testBit s) → stCT n.inputs cl (x : Int) j = stCT n.inputs cl (y : Int) j
  | 0, _ => rfl
  | j + 1, h => by
    have hle : clNTo cl j ≤ clNTo cl (j + 1) := clNTo_mono cl (by omega)
    have ih := stCT_low h0 (cl := cl) (x := x) (y := y) j fun s hs => h s (by omega)
    rw [stCT, stCT, ih]
    by_cases hr : cl.getD j default = (j : Int)
    · rw [if_pos hr, if_pos hr]
      have e : clNTo cl (j + 1) = clNTo cl j + 1 := by rw [clNTo, if_pos hr]
      have hb := bitI_eq (h (n.inputs + ((clNTo cl j : Nat) : Int)).toNat (by omega))
      unfold bitI at hb
      rw [hb]
    · rw [if_neg hr, if_neg hr]

/-! ### every state that is alike within the classes is the state of a case -/
theorem case_of {n : NetL} (h0 : 0 ≤ n.inputs) {cl : List Int} (hcl : clP n cl) {st : List Int} (h1 : All01 st) (hc : ∀ i, i < cl.length → st.getD i default = st.getD (cl.getD i default).toNat default) (x : Nat) :
    ∀ j, j ≤ cl.length → ∃ y : Nat, y < 2 ^ (n.inputs.toNat + clNTo cl j) ∧ (∀ k, k < n.inputs.toNat → y.testBit k = x.testBit k) ∧ ∀ i, i < j → (stCT n.inputs cl (y : Int) j).getD i default = st.getD i default
  | 0, _ => ⟨x % 2 ^ n.inputs.toNat, Nat.mod_lt _ (Nat.pow_pos (by decide)), fun k hk => by rw [Nat.testBit_mod_two_pow]; simp [hk], fun i hi => by omega⟩
  | j + 1, hj => by
    obtain ⟨y, y1, y2, y3⟩ := case_of h0 hcl h1 hc x j (by omega)
    have hl := stCT_len n.inputs cl (y : Int) j
    by_cases hr : cl.getD j default = (j : Int)
    · have e : clNTo cl (j + 1) = clNTo cl j + 1 := by rw [clNTo, if_pos hr]
      have hp : 2 ^ (n.inputs.toNat + clNTo cl (j + 1)) = 2 * 2 ^ (n.inputs.toNat + clNTo cl j) := by rw [e, ← Nat.add_assoc, Nat.pow_succ, Nat.mul_comm]
      have hb := h1 j
      unfold is01 at hb
      have hex : ∃ z : Nat, z < 2 ^ (n.inputs.toNat + clNTo cl (j + 1)) ∧ (∀ s, s < n.inputs.toNat + clNTo cl j → z.testBit s = y.testBit s) ∧ bitI (z : Int) (n.inputs.toNat + clNTo cl j) = st.getD j default := by
        rcases hb with hb | hb
        · refine ⟨y, by omega, fun _ _ => rfl, ?_⟩
          rw [bitI_nat, Nat.testBit_lt_two_pow y1, hb]; rfl
        · refine ⟨2 ^ (n.inputs.toNat + clNTo cl j) + y, by omega, fun s hs => Nat.testBit_two_pow_add_gt hs y, ?_⟩
          rw [bitI_nat, Nat.testBit_two_pow_add_eq, Nat.testBit_lt_two_pow y1, hb]; rfl
      obtain ⟨z, z1, z2, z3⟩ := hex
      refine ⟨z, z1, fun k hk => by rw [z2 k (by omega), y2 k hk], fun i hi => ?_⟩
      have es := stCT_low h0 (cl := cl) (x := z) (y := y) j z2
      rw [stCT, es, if_pos hr]
      by_cases hi2 : i < j
      · rw [snoc_lt (by rw [hl]; exact hi2)]; exact y3 i hi2
      · obtain rfl : i = j := by omega
        have h2 := snoc_eq (R := stCT n.inputs cl (y : Int) i) (y := bits .and .i64 ((z : Int) / 2 ^ (n.inputs + ((clNTo cl i : Nat) : Int)).toNat) 1)
        rw [hl] at h2
        rw [h2, ← z3]
        unfold bitI
        rw [show (n.inputs + ((clNTo cl i : Nat) : Int)).toNat = n.inputs.toNat + clNTo cl i by omega]
    · have e : clNTo cl (j + 1) = clNTo cl j := by rw [clNTo, if_neg hr]
      obtain ⟨d, d1, d2, d3⟩ := hcl.rep (show j < cl.length by omega)
      refine ⟨y, by rw [e]; exact y1, y2, fun i hi => ?_⟩
      rw [stCT, if_neg hr]
      by_cases hi2 : i < j
      · rw [snoc_lt (by rw [hl]; exact hi2)]; exact y3 i hi2
      · obtain rfl : i = j := by omega
        have h2 := snoc_eq (R := stCT n.inputs cl (y : Int) i) (y := (stCT n.inputs cl (y : Int) i).getD (cl.getD i default).toNat default)
        rw [hl] at h2
        have hdi : d ≠ i := fun hh => hr (by rw [d1, hh])
        rw [h2, hc i (by omega), d1, Int.toNat_natCast]
        exact y3 d (by omega)
theorem stC_rep {n : NetL} {cl : List Int} (hcl : clP n cl) (x : Int) {i : Nat} (hi : i < cl.length) : (stC n cl x).getD i default = (stC n cl x).getD (cl.getD i default).toNat default := by
  obtain ⟨d, d1, d2, d3⟩ := hcl.rep hi
  rw [d1, Int.toNat_natCast]
  by_cases hdi : d = i
  · rw [hdi]
  · have e1 : (stC n cl x).getD i default = (stCT n.inputs cl x cl.length).getD i default := rfl
    have e2 : (stC n cl x).getD d default = (stCT n.inputs cl x cl.length).getD d default := rfl
    rw [e1, stCT_get _ _ _ hi, if_neg (by rw [d1]; omega), d1, Int.toNat_natCast, e2]
    exact stCT_pre _ _ _ (by omega) (by omega)
/-- what a partition that holds says of all states that are alike within its classes -/
theorem hld_any {n : NetL} {D : List Int} (hD : hldP n D) {st : List Int} (hl : st.length = n.seqs.length) (h1 : All01 st) (hc : ∀ i, i < D.length → st.getD i default = st.getD (D.getD i default).toNat default) (x : Nat) {i : Nat} (hi : i < D.length) :
    litV (valsL n st (x : Int)) ((n.seqs.getD i default).ins.getD 0 default) = litV (valsL n st (x : Int)) ((n.seqs.getD (D.getD i default).toNat default).ins.getD 0 default) := by
  obtain ⟨⟨hok, hcl⟩, _, _, hs⟩ := hD
  have h0 := hok.size.1.1
  obtain ⟨y, y1, y2, y3⟩ := case_of h0 hcl h1 hc x D.length (Nat.le_refl _)
  have est : stC n D (y : Int) = st := by
    refine List.ext_getElem (by rw [stC_len, hcl.1, hl]) fun j a b => ?_
    rw [stC_len] at a
    have h3 := y3 j a
    have e1 : (stCT n.inputs D (y : Int) D.length).getD j default = (stC n D (y : Int)).getD j default := rfl
    rw [e1, List.getD_eq_getElem?_getD, List.getD_eq_getElem?_getD, List.getElem?_eq_getElem (by rw [stC_len]; exact a), List.getElem?_eq_getElem b] at h3
    exact h3
  have ev := valsL_low hok hl (x := (y : Int)) (y := (x : Int)) fun k hk => bitI_eq (y2 k hk)
  have := hs i hi y y1
  unfold kN at this
  rw [est, ev] at this
  exact this

/-! ### the refinement stays coarser -/
def crsP (D cl : List Int) : Prop := ∀ i, i < D.length → cl.getD i default = cl.getD (D.getD i default).toNat default
theorem fst_same {p q : Nat → Prop} {i d : Nat} (hd : d < i) (hpd : p d) (h : ∀ k, k < d → (p k ↔ q k)) : fstJ p i = fstJ q d := by
  rcases fstJ_or q d with ⟨h1, h2⟩ | ⟨h1, h2, h3⟩
  · rw [h1]
    exact fstJ_at hd hpd fun k hk hp => h2 k hk ((h k hk).1 hp)
  · exact fstJ_at (by omega) ((h _ h1).2 h2) fun k hk hp => h3 k hk ((h k (by omega)).1 hp)
theorem crs_beg {n : NetL} {D : List Int} (hD : hldP n D) : crsP D (begC n) := fun i hi => by
  obtain ⟨⟨hok, hcl⟩, _, hin, _⟩ := hD
  obtain ⟨d, d1, d2, d3⟩ := hcl.rep hi
  have hl := hcl.1
  have hin := hin i hi
  rw [d1, Int.toNat_natCast] at hin ⊢
  by_cases hdi : d = i
  · rw [hdi]
  · rw [begC_get n (by omega), begC_get n (by omega)]
    have hk := ((hcl.2 i hi).2.2).resolve_left (fun hh => by omega)
    rw [d1, Int.toNat_natCast] at hk
    congr 1
    refine fst_same (by omega) ⟨hk.1, hk.2, hin.symm⟩ fun k hk2 => ?_
    unfold flP
    rw [hin]
    exact ⟨fun h => ⟨hk.2, h.2⟩, fun h => ⟨hk.1, h.2⟩⟩
theorem crs_ref {n : NetL} {D cl : List Int} (hD : hldP n D) (hcl : clP n cl) (h : crsP D cl) : crsP D (refL n cl) := fun i hi => by
  have hDc := hD.1.2
  obtain ⟨d, d1, d2, d3⟩ := hDc.rep hi
  have hl := hDc.1
  have hl2 := hcl.1
  have h2 := h i hi
  rw [d1, Int.toNat_natCast] at h2 ⊢
  by_cases hdi : d = i
  · rw [hdi]
  · rw [refL_get n cl (by omega), refL_get n cl (by omega)]
    have hs : sameK n cl i d := fun x _ => by
      have hst := stC_P hD.1.1 hl2 (x : Int)
      have := hld_any hD (st := stC n cl (x : Int)) (by rw [stC_len, hl2]) (stCT_01 _ _ _ _) (fun j hj => by
        rw [stC_rep hcl _ (show j < cl.length by omega), h j hj]
        obtain ⟨e, e1, e2, e3⟩ := hDc.rep hj
        rw [e1, Int.toNat_natCast, ← stC_rep hcl _ (show e < cl.length by omega)]) x hi
      rw [d1, Int.toNat_natCast] at this
      exact this
    congr 1
    refine fst_same (by omega) ⟨h2.symm, hs⟩ fun k hk2 => ?_
    unfold toJ
    rw [h2]
    exact ⟨fun q => ⟨q.1, fun x hx => (hs x hx).symm.trans (q.2 x hx)⟩, fun q => ⟨q.1, fun x hx => (hs x hx).trans (q.2 x hx)⟩⟩
/-- elements of a class have one initial value -/
def iniP (n : NetL) (cl : List Int) : Prop := ∀ i, i < cl.length → (n.seqs.getD i default).init = (n.seqs.getD (cl.getD i default).toNat default).init
theorem ini_beg (n : NetL) : iniP n (begC n) := fun i hi => by
  rw [begC_len] at hi
  rw [begC_get n hi, Int.toNat_natCast]
  rcases fstJ_or (flP n i) i with ⟨h1, _⟩ | ⟨_, h1, _⟩
  · rw [h1]
  · exact h1.2.2.symm
theorem ini_ref {n : NetL} {cl : List Int} (h : iniP n cl) : iniP n (refL n cl) := fun i hi => by
  rw [refL_len] at hi
  rw [refL_get n cl hi, Int.toNat_natCast]
  have hle := refAt_le n cl i
  obtain ⟨h1, _⟩ := refAt_to n cl i
  rw [h i hi, ← h1, ← h (fstJ (toJ n cl i) i) (by omega)]
theorem regF_fix {n : NetL} (hn : n.inputs + n.seqs.length ≤ 10) : ∀ (f : Nat) {cl : List Int}, clP n cl → iniP n cl → n.seqs.length - clNL cl < f → clP n (regF n f cl) ∧ iniP n (regF n f cl) ∧ refL n (regF n f cl) = regF n f cl ∧ ∀ D, hldP n D → crsP D cl → crsP D (regF n f cl)
  | 0, _, _, _, h => by omega
  | f + 1, cl, h1, h2, h3 => by
    have hcn := clNL_le cl
    have hl := h1.1
    rw [regF, if_neg (by omega)]
    split
    · rename_i he
      exact ⟨h1, h2, he, fun D _ h => h⟩
    · rename_i he
      have hm := ref_more h1 he
      have hcn2 := clNL_le (refL n cl)
      have hl2 := refL_len n cl
      obtain ⟨a, b, c, d⟩ := regF_fix hn f (refL_P h1) (ini_ref h2) (by omega)
      exact ⟨a, b, c, fun D hD hc => d D hD (crs_ref hD h1 hc)⟩
theorem regL_hld {n : NetL} (hok : NetOkP n) (hn : n.inputs + n.seqs.length ≤ 10) : hldP n (regL n) ∧ ∀ D, hldP n D → crsP D (regL n) := by
  obtain ⟨a, b, c, d⟩ := regF_fix hn (n.seqs.length + 1) (begC_P n) (ini_beg n) (by omega)
  have hcn := clNL_le (regL n)
  have hl := a.1
  have e : regL n = regF n (n.seqs.length + 1) (begC n) := rfl
  refine ⟨⟨⟨hok, a⟩, ?_, b, (hld_ref a).2 c⟩, fun D hD => d D hD (crs_beg hD)⟩
  rw [e] at hcn ⊢
  omega
end Go.Xw
end
