/- The label of a node is the height of its cut, and no cut is lower: plain data, no condition but the stated ones. -/
import Derived.Test.YtbjgekllkfnjnaaCutLess
import Derived.Test.YtbjgekllkfnjnaaOrdLaw
import Derived.Test.YtbjgekllkfnjnaaLblPr
set_option linter.all false
namespace Go.Xw
open Go.Proofs
set_option maxHeartbeats 1000000
theorem lgG_below {n : NetL} (hn : Nums n) {k0 : Nat} {L L' : List Int} {h : Int} (he : ∀ k, k < k0 → L.getD k default = L'.getD k default) : lgG n k0 L h = lgG n k0 L' h := by
 have : lgFree n k0 L h = lgFree n k0 L' h := by
  funext k
  unfold lgFree
  apply propext
  by_cases hk : k = k0
  ·simp [hk]
  ·constructor
   ·rintro (h1 | ⟨h1, h2⟩)
    ·exact .inl h1
    ·have := h1.le hn
     exact .inr ⟨h1, by rw [← he k (by omega)]; exact h2⟩
   ·rintro (h1 | ⟨h1, h2⟩)
    ·exact .inl h1
    ·have := h1.le hn
     exact .inr ⟨h1, by rw [he k (by omega)]; exact h2⟩
 unfold lgG
 rw [this]
theorem hcP_below {n : NetL} (hn : Nums n) {k0 : Nat} {L L' : List Int} {h : Int} (he : ∀ k, k < k0 → L.getD k default = L'.getD k default) : hcP n k0 L h ↔ hcP n k0 L' h := by
 unfold hcP
 rw [lgG_below hn he]
theorem lbl_at {n : NetL} (hn : Nums n) {i : Nat} (hi : i < n.ands.length) : (lblL n).getD (fst_ n + i) default = lbV n (lbTo n i) i := by
 have n1 := hn.n1
 unfold lblL
 rw [lb_pre hn (i := i + 1) (j := n.ands.length) (by omega) (Nat.le_refl _) (by omega), lb_set (by omega), if_pos rfl]
theorem lbl_below {n : NetL} (hn : Nums n) {i : Nat} (hi : i < n.ands.length) {k : Nat} (hk : k < fst_ n + i) : (lblL n).getD k default = (lbTo n i).getD k default := lb_pre hn (by omega) (Nat.le_refl _) hk
theorem one_cnt (z m : Nat) : sumN (fun k => ind (k = z)) m ≤ 1 := by
 have h := sumN_upd (f := fun _ => 0) (g := fun k => ind (k = z)) (j := z) (d := 1) m (fun k hk => ind_no hk) (ind_yes rfl)
 rw [sumN_zero] at h
 rw [h]; split <;> omega
theorem hc_kids2 {n : NetL} (hn : Nums n) {i : Nat} (hi : i < n.ands.length) {L : List Int} {g : Int} (hL : LblOk n L (fst_ n + i)) (hg : 1 ≤ g) (ha : L.getD (kA n i) default < g) (hb : L.getD (kB n i) default < g) : hcP n (fst_ n + i) L g := by
 have n1 := hn.n1
 have ka := hn.ka i hi
 have kb := hn.kb i hi
 refine hc_cut hn hL (by omega) (by omega) hg (A := fun k => k = fst_ n + i) (Y := fun k => (k = kA n i ∨ k = kB n i) ∧ k ≠ 0) ⟨fun p c hp har => ?_, fun k hk hy => ?_, fun k hf => ?_, fun k hk hl => ?_, fun k hy => ?_⟩ ?_
 ·obtain ⟨_, h2, j, hj, hpj, hc⟩ := har
  obtain rfl : j = i := by omega
  exact .inr ⟨hc, h2⟩
 ·have hk : k = fst_ n + i := hk
  rcases hy.1 with h | h <;> omega
 ·rcases hf with h | ⟨h1, h2⟩
  ·exact h
  ·rcases (InCone.and_ hi).1 h1 with h | h | h
   ·exact h
   ·have := cone_lb hn hL h (by omega); omega
   ·have := cone_lb hn hL h (by omega); omega
 ·have hk : k = fst_ n + i := hk
  have := hl.2; omega
 ·show k < nds n
  rcases hy.1 with h | h <;> omega
 ·have hle : cntN (fun k => (k = kA n i ∨ k = kB n i) ∧ k ≠ 0) (nds n) ≤ sumN (fun k => ind (k = kA n i) + ind (k = kB n i)) (nds n) := sumN_le _ fun k _ => by
   by_cases h : (k = kA n i ∨ k = kB n i) ∧ k ≠ 0
   ·rw [ind_yes h]
    rcases h.1 with h1 | h1
    ·rw [ind_yes h1]; rcases ind_01 (k = kB n i) with h2 | h2 <;> omega
    ·rw [ind_yes h1]; rcases ind_01 (k = kA n i) with h2 | h2 <;> omega
   ·rw [ind_no h]
    rcases ind_01 (k = kA n i) with h1 | h1 <;> rcases ind_01 (k = kB n i) with h2 | h2 <;> omega
  rw [sumN_add] at hle
  have h1 := one_cnt (kA n i) (nds n)
  have h2 := one_cnt (kB n i) (nds n)
  omega
theorem lbl_hc {n : NetL} (hn : Nums n) {i : Nat} (hi : i < n.ands.length) : hcP n (fst_ n + i) (lblL n) ((lblL n).getD (fst_ n + i) default) := by
 rw [lbl_at hn hi, hcP_below hn (fun k hk => lbl_below hn hi hk)]
 by_cases h : hcP n (fst_ n + i) (lbTo n i) (lbH n (lbTo n i) i)
 ·rw [lbV_yes h]; exact h
 ·rw [lbV_no h]
  have hh := lbH_1 n (lbTo n i) i
  exact hc_kids2 hn hi (lb_ok hn (by omega) (Nat.le_refl _)) (by omega) (by omega) (by omega)
theorem lbl_min {n : NetL} (hn : Nums n) : ∀ m i (g : Int), fst_ n + i < m → i < n.ands.length → 1 ≤ g → hcP n (fst_ n + i) (lblL n) g → (lblL n).getD (fst_ n + i) default ≤ g
 | 0, _, _, h, _, _, _ => by omega
 | m + 1, i, g, him, hi, hg, hP => by
  have n1 := hn.n1
  have ka := hn.ka i hi
  have kb := hn.kb i hi
  have hb := lbV_b n (lbTo n i) i
  rw [lbl_at hn hi]
  by_cases h1 : lbH n (lbTo n i) i + 1 ≤ g
  ·omega
  by_cases h2 : g = lbH n (lbTo n i) i
  ·rw [hcP_below hn (fun k hk => lbl_below hn hi hk)] at hP
   rw [lbV_yes (by rw [← h2]; exact hP)]; omega
  ·exfalso
   have e : lbH n (lbTo n i) i = max 1 (max ((lbTo n i).getD (kA n i) default) ((lbTo n i).getD (kB n i) default)) := rfl
   have hkid : ∃ c, (c = kA n i ∨ c = kB n i) ∧ g < (lblL n).getD c default := by
    by_cases h3 : g < (lbTo n i).getD (kA n i) default
    ·exact ⟨_, .inl rfl, by rw [lbl_below hn hi ka]; exact h3⟩
    ·exact ⟨_, .inr rfl, by rw [lbl_below hn hi kb]; omega⟩
   obtain ⟨c, hc, hgc⟩ := hkid
   have hcl : c < fst_ n + i := by rcases hc with rfl | rfl <;> omega
   have hLm := lbl_ok hn (k0 := fst_ n + i) (by omega)
   have hLc := lbl_ok hn (k0 := c) (by omega)
   have hcf : fst_ n ≤ c := Nat.le_of_not_lt fun hlt => by rw [hLm.leaf c hlt] at hgc; omega
   have hic : InCone n (fst_ n + i) c := by
    rcases hc with rfl | rfl
    ·exact .left hi (.refl _)
    ·exact .right hi (.refl _)
   obtain ⟨f, hf, ht, h4⟩ := hP
   have hG := lgG_ok (h := g) hn hLm (by omega)
   have hfr : ∀ k, (lgG n (fst_ n + i) (lblL n) g).free k → k < (lgG n (fst_ n + i) (lblL n) g).N := fun k hk => lgFree_lt hn (by omega) hk
   have hcut := near_cut hG hf hfr ht
   have hcnt := near_cnt hG hf hfr ht
   have hfree : ∀ k, lgFree n c (lblL n) g k → lgFree n (fst_ n + i) (lblL n) g k := by
    rintro k (rfl | ⟨h5, h6⟩)
    ·exact .inr ⟨hic, by omega⟩
    ·exact .inr ⟨hic.trans h5, h6⟩
   have hPc : hcP n c (lblL n) g := by
    refine hc_cut hn hLc (by omega) hcf hg (A := fun k => Rch (lgG n (fst_ n + i) (lblL n) g) f k false) (Y := fun k => NrC (lgG n (fst_ n + i) (lblL n) g) f k ∧ InCone n c k) ⟨fun p c' hp har => ?_, fun k hk hy => hy.1.2 hk, fun k hk => hcut.free k (hfree k hk), fun k hk => hcut.leaf k hk, fun k hy => hcut.yn k hy.1⟩ ?_
    ·have har2 : lgArc n (fst_ n + i) p c' := ⟨hic.trans har.1, har.2⟩
     rcases hcut.down p c' hp har2 with h5 | h5
     ·exact .inl h5
     ·exact .inr ⟨h5, lgArc.cone har⟩
    ·have hle : cntN (fun k => NrC (lgG n (fst_ n + i) (lblL n) g) f k ∧ InCone n c k) (nds n) ≤ cntN (NrC (lgG n (fst_ n + i) (lblL n) g) f) (nds n) := sumN_le _ fun k _ => by
      by_cases h5 : NrC (lgG n (fst_ n + i) (lblL n) g) f k ∧ InCone n c k
      ·rw [ind_yes h5, ind_yes h5.1]; exact Int.le_refl _
      ·rw [ind_no h5]; rcases ind_01 (NrC (lgG n (fst_ n + i) (lblL n) g) f k) with h6 | h6 <;> omega
     have e2 : cntN (NrC (lgG n (fst_ n + i) (lblL n) g) f) (lgG n (fst_ n + i) (lblL n) g).N = cntN (NrC (lgG n (fst_ n + i) (lblL n) g) f) (nds n) := rfl
     omega
   obtain ⟨i', rfl⟩ : ∃ i', c = fst_ n + i' := ⟨c - fst_ n, by omega⟩
   have := lbl_min hn m i' g (by omega) (by omega) hg hPc
   omega
theorem cnt_list : ∀ (Y : List Int) (N : Nat), cntN (fun k => (k : Int) ∈ Y) N ≤ Y.length
 | [], N => by
  have : cntN (fun k => (k : Int) ∈ ([] : List Int)) N = sumN (fun _ => 0) N := sumN_congr N fun k _ => ind_no (by simp)
  rw [this, sumN_zero]; simp
 | z :: T, N => by
  have ih := cnt_list T N
  have hz : sumN (fun k => ind ((k : Int) = z)) N ≤ 1 := by
   by_cases h0 : 0 ≤ z
   ·obtain ⟨j, rfl⟩ := Int.eq_ofNat_of_zero_le h0
    have e : sumN (fun k => ind ((k : Int) = (j : Int))) N = sumN (fun k => ind (k = j)) N := sumN_congr N fun k _ => ind_iff (by omega)
    rw [e]; exact one_cnt j N
   ·have e : sumN (fun k => ind ((k : Int) = z)) N = sumN (fun _ => 0) N := sumN_congr N fun k _ => ind_no (by omega)
    rw [e, sumN_zero]; decide
  have hle : cntN (fun k => (k : Int) ∈ z :: T) N ≤ sumN (fun k => ind ((k : Int) = z) + ind ((k : Int) ∈ T)) N := sumN_le _ fun k _ => by
   by_cases h : (k : Int) ∈ z :: T
   ·rw [ind_yes h]
    rcases List.mem_cons.1 h with h1 | h1
    ·rw [ind_yes h1]; rcases ind_01 ((k : Int) ∈ T) with h2 | h2 <;> omega
    ·rw [ind_yes h1]; rcases ind_01 ((k : Int) = z) with h2 | h2 <;> omega
   ·rw [ind_no h]
    rcases ind_01 ((k : Int) = z) with h1 | h1 <;> rcases ind_01 ((k : Int) ∈ T) with h2 | h2 <;> omega
  rw [sumN_add] at hle
  have e : sumN (fun k => ind ((k : Int) ∈ T)) N = cntN (fun k => (k : Int) ∈ T) N := rfl
  rw [List.length_cons]
  omega
theorem cut_hc {n : NetL} (hok : NetOkP n) {i : Nat} (hi : i < n.ands.length) {Y : List Int} (hP : cutP n (fst_ n + i) Y) (hm : ((fst_ n + i : Nat) : Int) ∉ Y) {g : Int} (hg : 1 ≤ g) (hl : ∀ z, z ∈ Y → (lblL n).getD z.toNat default < g) : hcP n (fst_ n + i) (lblL n) g := by
 have hn := hok.nums
 have n1 := hn.n1
 have hLm := lbl_ok hn (k0 := fst_ n + i) (by omega)
 have hLn := lbl_ok hn (k0 := nds n) (Nat.le_refl _)
 have hnot : ∀ k : Nat, g ≤ (lblL n).getD k default → (k : Int) ∉ Y := fun k hk hy => by
  have := hl _ hy
  rw [Int.toNat_natCast] at this
  omega
 have hpath : ∀ m' k, InCone n m' k → m' < nds n → g ≤ (lblL n).getD k default → Opn n Y (fst_ n + i) m' → (m' : Int) ∉ Y → Opn n Y (fst_ n + i) k := fun m' k hc => by
  induction hc with
  | refl => exact fun _ _ h _ => h
  | @left j k hj hc ih =>
   intro hjn hgk ho hy
   have kj := hn.ka j hj
   exact ih (by omega) hgk (.left hj ho hy) (hnot _ (Int.le_trans hgk (cone_lb hn hLn hc (by omega))))
  | @right j k hj hc ih =>
   intro hjn hgk ho hy
   have kj := hn.kb j hj
   exact ih (by omega) hgk (.right hj ho hy) (hnot _ (Int.le_trans hgk (cone_lb hn hLn hc (by omega))))
 refine hc_cut hn hLm (by omega) (by omega) hg (A := fun k => Opn n Y (fst_ n + i) k ∧ (k : Int) ∉ Y) (Y := fun k => (k : Int) ∈ Y) ⟨fun p c hp har => ?_, fun k hk hy => hk.2 hy, fun k hf => ?_, fun k hk hlf => hP.2.2 ⟨k, hk.1, hk.2, hlf.1, hlf.2⟩, fun k hy => ?_⟩ ?_
 ·obtain ⟨_, _, j, hj, rfl, hc⟩ := har
  have hoc : Opn n Y (fst_ n + i) c := by
   rcases hc with rfl | rfl
   ·exact .left hj hp.1 hp.2
   ·exact .right hj hp.1 hp.2
  by_cases hy : (c : Int) ∈ Y
  ·exact .inr hy
  ·exact .inl ⟨hoc, hy⟩
 ·rcases hf with rfl | ⟨h1, h2⟩
  ·exact ⟨.refl, hm⟩
  ·exact ⟨hpath _ k h1 (by omega) h2 .refl hm, hnot k h2⟩
 ·obtain ⟨j, hj, he, _⟩ := coneL_in.1 (hP.2.1 _ hy)
  show k < nds n
  omega
 ·have := cnt_list Y (nds n)
  have := hP.1.1
  omega
theorem Rch.inC {n : NetL} {k0 : Nat} {L : List Int} {h : Int} {f : Flo} (hf : FlP (lgG n k0 L h) f) {k : Nat} {b : Bool} (r : Rch (lgG n k0 L h) f k b) : InCone n k0 k := by
 induction r with
 | srcT h => rcases h with rfl | h; exact .refl _; exact h.1
 | srcF h => rcases h with rfl | h; exact .refl _; exact h.1
 | thru _ _ _ ih => exact ih
 | @undo k p _ h0 ih => exact (hf.ea p k (by omega)).1
 | arc _ ha ih => exact lgArc.cone ha
 | rev _ _ ih => exact ih
theorem marked_cnt (N : Nat) (p : Nat → Prop) : ∀ i, i ≤ N → ((markedTo (listB N p) i).length : Int) = cntN p i
 | 0, _ => rfl
 | i + 1, hi => by
  have ih := marked_cnt N p i (by omega)
  have hg := listB_get (m := N) (k := i) (p := p) (by omega)
  rw [markedTo]
  show _ = cntN p i + ind (p i)
  by_cases h : p i
  ·rw [if_pos (hg.2 h), ind_yes h, List.length_append, ← ih]; simp
  ·rw [if_neg (fun hh => h (hg.1 hh)), ind_no h, ← ih]; simp
theorem hcL_cut {n : NetL} (hok : NetOkP n) {m : Nat} (hmf : fst_ n ≤ m) (hm : m < nds n) {h : Int} (hh : 1 ≤ h) (hP : hcP n m (lblL n) h) : cutP n m (hcL n m (lblL n) h) ∧ (m : Int) ∉ hcL n m (lblL n) h ∧ ∀ z, z ∈ hcL n m (lblL n) h → (lblL n).getD z.toNat default < h := by
 have hn := hok.nums
 have hL := lbl_ok hn (k0 := m) (by omega)
 obtain ⟨f, hf, ht, h4⟩ := hP
 have hN := (hc_yes hn hL hm hf ht h4).2
 have hG := lgG_ok (h := h) hn hL hm
 have hfr : ∀ k, (lgG n m (lblL n) h).free k → k < (lgG n m (lblL n) h).N := fun k hk => lgFree_lt hn hm hk
 have hcnt := near_cnt hG hf hfr ht
 have hmem : ∀ z, z ∈ hcL n m (lblL n) h ↔ ∃ k : Nat, k < nds n ∧ z = k ∧ NrC (lgG n m (lblL n) h) f k := fun z => by
  rw [hcL_to, marked_mem]
  constructor
  ·rintro ⟨k, hk, rfl, hb⟩
   exact ⟨k, hk, rfl, (hN k).1 ((listB_get hk).1 hb)⟩
  ·rintro ⟨k, hk, rfl, hb⟩
   exact ⟨k, hk, rfl, (listB_get hk).2 ((hN k).2 hb)⟩
 have hlen : ((hcL n m (lblL n) h).length : Int) ≤ 4 := by
  rw [hcL_to, marked_cnt _ _ _ (Nat.le_refl _)]
  have e : cntN (hcN n m (lblL n) h) (nds n) = cntN (NrC (lgG n m (lblL n) h) f) (lgG n m (lblL n) h).N := sumN_congr _ fun k _ => ind_iff (hN k)
  rw [e, hcnt]; exact h4
 refine ⟨⟨⟨by omega, by rw [hcL_to]; exact marked_asc _ _⟩, fun z hz => ?_, ?_⟩, fun hz => ?_, fun z hz => ?_⟩
 ·obtain ⟨k, hk, rfl, hr⟩ := (hmem z).1 hz
  exact coneL_in.2 ⟨k, hk, rfl, hr.1.inC hf⟩
 ·rintro ⟨k, ho, hk, h0, hkf⟩
  have key : ∀ k, Opn n (hcL n m (lblL n) h) m k → (k : Int) ∉ hcL n m (lblL n) h → k ≠ 0 → Rch (lgG n m (lblL n) h) f k false := fun k ho => by
   have step : ∀ j c, j < n.ands.length → (c = kA n j ∨ c = kB n j) → Rch (lgG n m (lblL n) h) f (fst_ n + j) false → (c : Int) ∉ hcL n m (lblL n) h → c ≠ 0 → Rch (lgG n m (lblL n) h) f c false := fun j c hj hc hr hcn hc0 => by
    have hrt : Rch (lgG n m (lblL n) h) f c true := .arc hr ⟨hr.inC hf, hc0, j, hj, rfl, hc⟩
    have n1 := hn.n1
    have ka := hn.ka j hj
    have kb := hn.kb j hj
    exact Classical.byContradiction fun hno => hcn ((hmem _).2 ⟨c, by rcases hc with rfl | rfl <;> omega, rfl, hrt, hno⟩)
   induction ho with
   | refl => exact fun _ _ => .srcF (.inl rfl)
   | @left j hj _ hc ih =>
    have f1 := hn.f1
    exact fun hcn h0 => step j _ hj (.inl rfl) (ih hc (by omega)) hcn h0
   | @right j hj _ hc ih =>
    have f1 := hn.f1
    exact fun hcn h0 => step j _ hj (.inr rfl) (ih hc (by omega)) hcn h0
  exact ht k (key k ho hk (by omega)) ⟨h0, hkf⟩
 ·obtain ⟨k, hk, he, hr⟩ := (hmem _).1 hz
  obtain rfl : m = k := by omega
  exact hr.2 (.srcF (.inl rfl))
 ·obtain ⟨k, hk, rfl, hr⟩ := (hmem z).1 hz
  rw [Int.toNat_natCast]
  exact Int.lt_of_not_ge fun hge => hr.2 (.srcF (.inr ⟨hr.1.inC hf, hge⟩))
theorem mxL_le {L X : List Int} {b : Int} (h0 : 0 ≤ b) (h : ∀ z, z ∈ X → L.getD z.toNat default ≤ b) : ∀ i, i ≤ X.length → mxL L X i ≤ b
 | 0, _ => h0
 | i + 1, hi => by
  have ih := mxL_le h0 h i (by omega)
  have := h _ (getD_mem (show i < X.length by omega))
  show max _ _ ≤ b
  omega
theorem mxL_ge {L X : List Int} : ∀ i, i ≤ X.length → ∀ j, j < i → L.getD (X.getD j default).toNat default ≤ mxL L X i
 | 0, _, j, hj => by omega
 | i + 1, hi, j, hj => by
  show _ ≤ max (mxL L X i) _
  by_cases hji : j = i
  ·subst hji; omega
  ·have := mxL_ge (L := L) (X := X) i (by omega) j (by omega); omega
theorem cht_cut {n : NetL} (hok : NetOkP n) {m : Nat} {u : List Int} (hP : cutP n m u) : chtF n u = mxL (lblL n) u u.length + 1 := by
 refine cht_yes ⟨hok, fun i hi => ?_⟩
 obtain ⟨j, hj, he, _⟩ := coneL_in.1 (hP.2.1 _ (getD_mem hi))
 omega
theorem cut_height {n : NetL} (hok : NetOkP n) {m : Nat} (hmf : fst_ n ≤ m) (hm : m < nds n) {u : List Int} (hP : cutP n m u) (hmu : (m : Int) ∉ u) : (lblL n).getD m default ≤ chtF n u := by
 have hn := hok.nums
 have n1 := hn.n1
 obtain ⟨i, rfl⟩ : ∃ i, m = fst_ n + i := ⟨m - fst_ n, by omega⟩
 rw [cht_cut hok hP]
 have h0 : 0 ≤ mxL (lblL n) u u.length := (mxL_b hok u u.length).1
 refine lbl_min hn (fst_ n + i + 1) i _ (by omega) (by omega) (by omega) (cut_hc hok (by omega) hP hmu (by omega) fun z hz => ?_)
 obtain ⟨j, hj, he⟩ := List.getElem_of_mem hz
 have := mxL_ge (L := lblL n) (X := u) u.length (Nat.le_refl _) j hj
 rw [List.getD_eq_getElem?_getD (l := u), List.getElem?_eq_getElem hj, Option.getD_some, he] at this
 omega
theorem lbl_pos {n : NetL} (hn : Nums n) {m : Nat} (hmf : fst_ n ≤ m) (hm : m < nds n) : 1 ≤ (lblL n).getD m default := by
 have n1 := hn.n1
 obtain ⟨i, rfl⟩ : ∃ i, m = fst_ n + i := ⟨m - fst_ n, by omega⟩
 exact lb_and hn (i := n.ands.length) (Nat.le_refl _) (by omega)
theorem lct_cut {n : NetL} (hok : NetOkP n) {m : Nat} (hmf : fst_ n ≤ m) (hm : m < nds n) : cutP n m (lctF n m) ∧ (m : Int) ∉ lctF n m ∧ chtF n (lctF n m) = (lblL n).getD m default := by
 have hn := hok.nums
 have n1 := hn.n1
 have hpos := lbl_pos hn hmf hm
 have hP : hcP n m (lblL n) ((lblL n).getD m default) := by
  have h := lbl_hc hn (i := m - fst_ n) (by omega)
  rw [show fst_ n + (m - fst_ n) = m by omega] at h
  exact h
 have e : lctF n m = hcL n m (lblL n) ((lblL n).getD m default) := by
  rw [lct_yes (k := (m : Int)) ⟨hok, by omega, by omega⟩, Int.toNat_natCast, hcO_yes hP]
 rw [e]
 obtain ⟨h1, h2, h3⟩ := hcL_cut hok hmf hm hpos hP
 refine ⟨h1, h2, ?_⟩
 have h4 := cut_height hok hmf hm h1 h2
 have h5 := mxL_le (L := lblL n) (X := hcL n m (lblL n) ((lblL n).getD m default)) (b := (lblL n).getD m default - 1) (by omega) (fun z hz => by have := h3 z hz; omega) _ (Nat.le_refl _)
 rw [cht_cut hok h1] at h4 ⊢
 omega
theorem joinS_old {x y u : List Int} {L : List (List Int)} (h : u ∈ L) : u ∈ joinS x L y := by
 unfold joinS
 split
 ·exact mem_insC.2 (.inr h)
 ·exact h
theorem joinR_old {x u : List Int} : ∀ {b L : List (List Int)}, u ∈ L → u ∈ joinR b L x
 | [], _, h => h
 | y :: b, _, h => joinR_old (b := b) (joinS_old h)
theorem joinR_has {x y : List Int} (ho : mergeOk x y = true) : ∀ {b L : List (List Int)}, y ∈ b → mrg x y ∈ joinR b L x
 | [], _, h => by cases h
 | z :: b, L, h => by
  rcases List.mem_cons.1 h with rfl | h
  ·refine joinR_old (b := b) ?_
   unfold joinS
   rw [if_pos ho]
   exact mem_insC.2 (.inl rfl)
  ·exact joinR_has ho (b := b) h
theorem joinF_has {x y : List Int} (ho : mergeOk x y = true) {b : List (List Int)} (hy : y ∈ b) : ∀ {a L : List (List Int)}, x ∈ a ∨ mrg x y ∈ L → mrg x y ∈ a.foldl (joinR b) L
 | [], _, h => by rcases h with h | h; cases h; exact h
 | z :: a, L, h => by
  refine joinF_has ho hy (a := a) ?_
  rcases h with h | h
  ·rcases List.mem_cons.1 h with rfl | h
   ·exact .inr (joinR_has ho hy)
   ·exact .inl h
  ·exact .inr (joinR_old h)
theorem least_len : ∀ (J : List (List Int)), J ≠ [] → ∃ u, u ∈ J ∧ ∀ v, v ∈ J → u.length ≤ v.length
 | [], h => absurd rfl h
 | [u], _ => ⟨u, by simp, fun v hv => by simp at hv; rw [hv]; exact Nat.le_refl _⟩
 | u :: w :: J, _ => by
  obtain ⟨t, ht, hl⟩ := least_len (w :: J) (by simp)
  by_cases h : u.length ≤ t.length
  ·exact ⟨u, by simp, fun v hv => by
    rcases List.mem_cons.1 hv with rfl | hv
    ·exact Nat.le_refl _
    ·have := hl v hv; omega⟩
  ·exact ⟨t, List.mem_cons_of_mem _ ht, fun v hv => by
    rcases List.mem_cons.1 hv with rfl | hv
    ·omega
    ·exact hl v hv⟩
theorem triv_cut {n : NetL} (hok : NetOkP n) {k : Nat} (hk : k < nds n) : ∃ x, x ∈ cutsOf n k ∧ cutB x = true ∧ (x = [] ∨ ∃ z, x = [z]) := by
 obtain ⟨S, z, hS, _, _, _, h0, h1⟩ := ord_cuts hok hk
 refine ⟨z, by rw [hS]; simp, ?_⟩
 by_cases hk0 : k = 0
 ·rw [(h0 hk0).2]
  exact ⟨cutB_Asc.2 ⟨List.Pairwise.nil, by simp⟩, .inl rfl⟩
 ·rw [h1 (by omega)]
  exact ⟨cutB_Asc.2 ⟨asc_one _, fun x hx => by simp at hx; omega⟩, .inr ⟨_, rfl⟩⟩
theorem sel_pos {n : NetL} (hok : NetOkP n) {i : Nat} (hi : i < n.ands.length) : 0 < (selL (cutsOf n (kA n i)) (cutsOf n (kB n i))).length := by
 have hn := hok.nums
 have n1 := hn.n1
 have ka := hn.ka i hi
 have kb := hn.kb i hi
 obtain ⟨x, hx, hx1, hx2⟩ := triv_cut hok (k := kA n i) (by omega)
 obtain ⟨y, hy, hy1, hy2⟩ := triv_cut hok (k := kB n i) (by omega)
 have hlen : (mrg x y).length ≤ 4 := by
  rcases hx2 with rfl | ⟨a, rfl⟩
  ·rcases hy2 with rfl | ⟨b, rfl⟩ <;> simp [mrg]
  ·rcases hy2 with rfl | ⟨b, rfl⟩
   ·simp [mrg]
   ·unfold mrg; repeat' split
    all_goals simp [mrg, mrg_nil]
 have hj : mrg x y ∈ joinL (cutsOf n (kA n i)) (cutsOf n (kB n i)) := joinF_has (mergeOk_iff.2 ⟨hx1, hy1, hlen⟩) hy (.inl hx)
 obtain ⟨u, hu, hul⟩ := least_len _ (List.ne_nil_of_mem hj)
 have hf : u ∈ freeL (joinL (cutsOf n (kA n i)) (cutsOf n (kB n i))) := by
  unfold freeL
  refine List.mem_filter.2 ⟨hu, ?_⟩
  rw [pB_no (fun ⟨v, hv, hlt, _⟩ => by have := hul v hv; omega)]; rfl
 have := List.length_pos_of_mem hf
 unfold selL
 rw [List.length_take]
 omega
theorem enum_lbl {n : NetL} (hok : NetOkP n) {m : Nat} (hmf : fst_ n ≤ m) (hm : m < nds n) : ∃ S z, cutsOf n m = S ++ [z] ∧ 0 < S.length ∧ S.length ≤ 7 ∧ z.length ≤ 4 ∧ ∀ u, u ∈ S → u.length ≤ 4 ∧ (lblL n).getD m default ≤ chtF n u ∧ ∀ x, x ∈ u → 0 ≤ x ∧ x < (nds n : Int) := by
 have n1 := hok.nums.n1
 obtain ⟨i, rfl⟩ : ∃ i, m = fst_ n + i := ⟨m - fst_ n, by omega⟩
 have hi : i < n.ands.length := by omega
 refine ⟨_, _, cutsOf_and hok hi, sel_pos hok hi, selL_len _ _, by simp, fun u hu => ?_⟩
 have hmem : u ∈ cutsOf n (fst_ n + i) := by rw [cutsOf_and hok hi]; exact List.mem_append_left _ hu
 have hP := cuts_P hok hm hmem
 refine ⟨hP.1.1, cut_height hok hmf hm hP (cuts_not hok hi hu), fun x hx => ?_⟩
 obtain ⟨j, hj, he, _⟩ := coneL_in.1 (hP.2.1 x hx)
 omega
end Go.Xw
