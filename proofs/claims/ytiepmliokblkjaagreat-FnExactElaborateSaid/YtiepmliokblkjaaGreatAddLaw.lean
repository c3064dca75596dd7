/- Texts that belong together; each under its stated conditions. -/
import Derived.Test.YtiepmliokblkjaaGreatGraph4
import Derived.Test.YtiepmliokblkjaaGreatFam
import Derived.Test.YtiepmliokblkjaaGreatNetR
import Derived.Test.YtiepmliokblkjaaGreatBits
set_option linter.all false
section
namespace Go.Xw
theorem rIns_add {w0 w : World} {L : List Res} {R : List SeqA} {y : SeqA} (h : Hp w0 w (rO 3 1 eI y.ia y.ic y.ins :: rIns R :: L)) : Hp w0 w (rIns (R ++ [y]) :: L) := by
 have h1 := h.f1.unpack
 refine Hp.pack (Hp.perm h1 ?_)
 simp only [List.map_append, List.map_cons, List.map_nil, List.append_assoc]
 exact .refl _
end Go.Xw
namespace Go.Proofs
open Go.Xw
set_option maxRecDepth 100000
set_option maxHeartbeats 1000000
attribute [local irreducible] Holds elemAddr
theorem seqsOf_snoc (R : List SeqA) (y : SeqA) : seqsOf (R ++ [y]) = seqsOf R ++ [y.s] := by simp [seqsOf]
theorem specCopySeqs_h (a : Option Addr) (c : Nat) (X : List SeqA) (w0 : World) (hX : SeqsR w0 a X) (hl : X.length ≤ 1048576) (hl2 : ∀ i, i < X.length → (X.getD i default).ins.length ≤ 1048576) :
  Ret Tryz.prog 140 [.slice a X.length c] w0 (fun v w => ∃ b c' R, (seqsOf R = seqsOf X ∧ v = .slice b R.length c') ∧ Hp w0 w [rSq b c' R]) := by
 have hr := hX.row
 refine enter Tryz.S140ok _ _ rfl rfl (by show _ ≤ _; simp only [List.length]; decide) (fun C => ?_); have hp := Hp.nil w0; refine h_run rfl ?_; skip
 refine H_lit hp eSq ([] : List SeqA) rfl rfl rfl rfl (s := 3) rfl (by decide) (by infer_instance) (by rfl) (by rfl) (by rfl) (by decide) ?_; intro w b3 hx hp; refine ops_run nopre rfl ?_; skip
 refine h_loop4 [0, 3, 4] (fun (i : Nat) (R : List SeqA) (b : Option Addr) (c' : Nat) => [(0, .slice a X.length c), (3, .slice b R.length c'), (4, .int .i64 (i : Int))])
  (fun i R b c' w' => (i ≤ X.length ∧ R.length = i ∧ seqsOf R = (seqsOf X).take i) ∧ Hp w0 w' [rO 68 3 eSq b c' R, rIns R]) (fun i _ _ _ => X.length - i) 0 [] _ _ rfl ⟨⟨by omega, rfl, rfl⟩, (rIns_nil hp).f1⟩ ?_
 rintro i R b c' w1 ⟨⟨hi, hR, hRs⟩, hp⟩ IH C
 refine h_run rfl ?_; skip
 refine h_cond_dec (fun hlt => ?_) (fun hlt => ?_)
 ·have hlt' : i < X.length := by omega
  have hin := hX.at_ hlt'
  have hb := hl2 i hlt'
  refine h_cond_t rfl rfl ?_; skip
  refine D_draw hp (by kernel_rfl) (by kernel_rfl) rfl rfl ?_; intro w hx hp; have hs := hp; (repeat (first | (refine gLoad ?_; refine D_ldFN rfl (by omega) rfl rfl rfl ?_) | (refine gBuild ?_; refine V_litI (fun _ hx => hs.ext hx) hp rfl rfl rfl rfl rfl rfl rfl rfl rfl rfl ?_; intro w _ hx hp; have hs := hs.ext hx; refine D_ops rfl rfl ?_)))
  refine V_appendF hp rfl rfl rfl rfl rfl rfl rfl (by decide) rfl (by first | omega | (simp only [List.length_append, List.length_cons, List.length_nil, List.length_take, List.length_drop, List.length_set, List.length_replicate, List.length_map]; omega)) rfl rfl (fun _ _ _ hp => hp.drop) ?_; intro b6 c6 w hp hnil; have hs := hp.drop; refine D_ops rfl rfl ?_; skip
  refine D_lit (fun _ hx => hs.ext hx) hp eSq [⟨(X.getD i default).kind, (X.getD i default).init, (X.getD i default).ins, b6, c6⟩] rfl rfl rfl rfl (s := 3) rfl (by decide) (by infer_instance) (by rfl) (by rfl) (by rfl) (by decide) ?_; intro w b7 hx hp; have hs := hs.ext hx; refine D_ops rfl rfl ?_; skip
  refine V_append hp rfl rfl rfl rfl rfl rfl rfl (by decide) rfl (by first | omega | (simp only [List.length_append, List.length_cons, List.length_nil, List.length_take, List.length_drop, List.length_set, List.length_replicate, List.length_map]; omega)) rfl rfl (by kernel_rfl) ?_; intro b' c'' w hp hnil; refine D_ops rfl rfl ?_; skip
  have hp := rIns_add (y := ⟨(X.getD i default).kind, (X.getD i default).init, (X.getD i default).ins, b6, c6⟩) hp.drop.f2.f1
  refine IH (i + 1) _ b' c'' _ _ _ (by omega) rfl ⟨⟨by omega, by simp; omega, ?_⟩, hp.f1⟩
  rw [take_snoc (by rw [seqsOf_len]; exact hlt'), ← hRs, seqsOf_get, seqsOf_snoc]
  rfl
 ·refine h_cond_f rfl rfl ?_; (repeat (refine R_ret ?_))
  obtain rfl : i = X.length := by omega
  rw [← seqsOf_len X, List.take_length] at hRs
  exact ⟨b, c', R, ⟨hRs, rfl⟩, rSq_shut hp⟩
theorem specCopyNet_h (x : NetA) (w0 : World) (hX : NetR w0 x) (hS : NetS x.n) :
  Ret Tryz.prog 80 [x.v] w0 (fun v w => ∃ y, (y.n = x.n ∧ v = y.v) ∧ Hp w0 w [rNet y]) := by
 obtain ⟨s1, s2, s3, s4⟩ := hS
 rw [x.slen] at s1 s2
 simp only [x.sins] at s2
 have s3 : x.ands.length ≤ 1048576 := s3
 have s4 : x.outs.length ≤ 1048576 := s4
 refine enter Tryz.S80ok _ _ rfl rfl (by show _ ≤ _; simp only [List.length]; decide) (fun C => ?_); have hp := Hp.nil w0; refine h_run rfl ?_; skip; (first | refine H_box hp ?_ | refine H_alloc hp rfl ?_); intro w b1 hx hp; refine ops_run nopre rfl ?_; skip; (first | refine H_box hp ?_ | refine H_alloc hp rfl ?_); intro w b2 hx hp; refine ops_run nopre rfl ?_; skip
 refine N_draw hp (by kernel_rfl) (by kernel_rfl) rfl rfl ?_; (repeat (refine N_ldB rfl rfl rfl ?_))
 refine N_call Tryz.func140 (by kernel_rfl) rfl (fun F w hp => ?_); refine Ret.mono (specCopySeqs_h _ _ _ _ hp.net.seqs s1 s2) ?_; rintro _ w ⟨b5, c5, R, ⟨hR, rfl⟩, hq⟩; have hp := hp.callF1 hq; refine ⟨fun _ => hp.sub (by (repeat (first | exact List.sublist_append_left _ _ | apply List.Sublist.cons))), _, hp, ?_⟩; clear hp; refine N_ops rfl rfl ?_; skip
 refine N_lit eII ([] : List (Int × Int)) rfl rfl rfl rfl (s := 2) rfl (by decide) (by infer_instance) (by rfl) (by rfl) (by rfl) (by decide) ?_; intro b7; refine N_ops rfl rfl ?_; (repeat (refine N_ldB rfl rfl rfl ?_))
 refine N_append rfl rfl rfl rfl rfl rfl rfl (by decide) rfl (by first | omega | (simp only [List.length_append, List.length_cons, List.length_nil, List.length_take, List.length_drop, List.length_set, List.length_replicate, List.length_map]; omega)) rfl rfl (fun _ _ _ _ _ hp => hp.sub (by (repeat (first | exact List.sublist_append_left _ _ | apply List.Sublist.cons)))) ?_; intro b8 c8 hnil; refine N_ops rfl rfl ?_; (repeat (first | (refine nLoad ?_; refine N_ldB rfl rfl rfl ?_) | (refine nBuild ?_; refine N_litI rfl rfl rfl rfl rfl rfl rfl rfl rfl rfl ?_; intro _; refine N_ops rfl rfl ?_)))
 refine N_append rfl rfl rfl rfl rfl rfl rfl (by decide) rfl (by first | omega | (simp only [List.length_append, List.length_cons, List.length_nil, List.length_take, List.length_drop, List.length_set, List.length_replicate, List.length_map]; omega)) rfl rfl (fun _ _ _ _ _ hp => hp.sub (by (repeat (first | exact List.sublist_append_left _ _ | apply List.Sublist.cons)))) ?_; intro b9 c9 hnil; refine N_ops rfl rfl ?_; (repeat (refine N_stBN rfl rfl rfl rfl (by kernel_rfl) ?_; refine N_ops rfl rfl ?_))
 refine N_end ?_; intro w hp C; refine h_run rfl ?_; (repeat (refine R_ret1 hp rfl ?_))
 refine ⟨⟨x.inputs, R, b5, c5, x.ands, b8, c8, x.outs, b9, c9⟩, ⟨by unfold NetA.n; rw [hR], rfl⟩, ?_⟩
 exact Hp.sub (rNet_shut (x := ⟨x.inputs, R, b5, c5, x.ands, b8, c8, x.outs, b9, c9⟩) hp.f1.f2) (by simp)
end Go.Proofs
end
section
namespace Go.Xw
def fst_ (n : NetL) : Nat := (firstAndL n).toNat
def kA (n : NetL) (i : Nat) : Nat := ((n.ands.getD i default).1 / 2).toNat
def kB (n : NetL) (i : Nat) : Nat := ((n.ands.getD i default).2 / 2).toNat
def nds (n : NetL) : Nat := (nodesL n).toNat
inductive InCone (n : NetL) : Nat → Nat → Prop where
 | refl (k : Nat) : InCone n k k
 | left {i k : Nat} (hi : i < n.ands.length) (h : InCone n (kA n i) k) : InCone n (fst_ n + i) k
 | right {i k : Nat} (hi : i < n.ands.length) (h : InCone n (kB n i) k) : InCone n (fst_ n + i) k
structure Nums (n : NetL) : Prop where
 f1 : 1 ≤ fst_ n
 f2 : ((fst_ n : Nat) : Int) = firstAndL n
 n1 : nds n = fst_ n + n.ands.length
 n2 : ((nds n : Nat) : Int) = nodesL n
 ka : ∀ i, i < n.ands.length → kA n i < fst_ n + i
 kb : ∀ i, i < n.ands.length → kB n i < fst_ n + i
theorem NetOkP.nums {n : NetL} (h : NetOkP n) : Nums n := by
 have h1 := h.size
 unfold sizeOk at h1
 have h2 : firstAndL n = 1 + n.inputs + n.seqs.length := rfl
 have h3 : nodesL n = 1 + n.inputs + n.seqs.length + n.ands.length := rfl
 refine ⟨by unfold fst_; omega, by unfold fst_; omega, by unfold nds fst_; omega, by unfold nds; omega, fun i hi => ?_, fun i hi => ?_⟩
 ·have h4 := (h.ands i hi).1
  unfold litP at h4
  unfold kA fst_
  omega
 ·have h4 := (h.ands i hi).2
  unfold litP at h4
  unfold kB fst_
  omega
theorem InCone.trans {n : NetL} {a b c : Nat} (h : InCone n a b) (k : InCone n b c) : InCone n a c := by
 induction h with
 | refl => exact k
 | left hi _ ih => exact .left hi (ih k)
 | right hi _ ih => exact .right hi (ih k)
theorem InCone.le {n : NetL} (hn : Nums n) {a b : Nat} (h : InCone n a b) : b ≤ a := by
 induction h with
 | refl => exact Nat.le_refl _
 | left hi _ ih => have := hn.ka _ hi; omega
 | right hi _ ih => have := hn.kb _ hi; omega
theorem InCone.leaf {n : NetL} {a b : Nat} (h : InCone n a b) (ha : a < fst_ n) : b = a := by
 cases h with
 | refl => rfl
 | left hi _ => omega
 | right hi _ => omega
theorem InCone.and_ {n : NetL} {i b : Nat} (hi : i < n.ands.length) : InCone n (fst_ n + i) b ↔ b = fst_ n + i ∨ InCone n (kA n i) b ∨ InCone n (kB n i) b := by
 constructor
 ·intro h
  generalize hg : fst_ n + i = a at h
  cases h with
  | refl => exact .inl rfl
  | left hi2 h2 => obtain rfl : i = _ := Nat.add_left_cancel hg; exact .inr (.inl h2)
  | right hi2 h2 => obtain rfl : i = _ := Nat.add_left_cancel hg; exact .inr (.inr h2)
 ·rintro (rfl | h | h)
  ·exact .refl _
  ·exact .left hi h
  ·exact .right hi h
def ClosedTo (n : NetL) (B : List Bool) (m : Nat) : Prop := ∀ i, i < n.ands.length → fst_ n + i ≤ m → B.getD (fst_ n + i) default = true → B.getD (kA n i) default = true ∧ B.getD (kB n i) default = true
theorem ClosedTo.cone {n : NetL} (hn : Nums n) {B : List Bool} {m : Nat} (h : ClosedTo n B m) {a b : Nat} (hc : InCone n a b) (ha : a ≤ m) (hB : B.getD a default = true) : B.getD b default = true := by
 induction hc with
 | refl => exact hB
 | left hi _ ih => exact ih (by have := hn.ka _ hi; omega) (h _ hi ha hB).1
 | right hi _ ih => exact ih (by have := hn.kb _ hi; omega) (h _ hi ha hB).2
structure Marked (n : NetL) (B : List Bool) (a : Nat) (B' : List Bool) : Prop where
 len : B'.length = B.length
 iff : ∀ k, k < B.length → (B'.getD k default = true ↔ B.getD k default = true ∨ InCone n a k)
theorem Marked.closed {n : NetL} (hn : Nums n) {B B' : List Bool} {a m : Nat} (h : Marked n B a B') (hl : B.length = nds n) (hc : ClosedTo n B m) : ClosedTo n B' m := by
 intro i hi him hB
 have hka := hn.ka i hi
 have hkb := hn.kb i hi
 have hn1 := hn.n1
 rw [h.iff _ (by omega)] at hB
 rw [h.iff _ (by omega), h.iff _ (by omega)]
 rcases hB with hB | hB
 ·have := hc i hi him hB
  exact ⟨.inl this.1, .inl this.2⟩
 ·exact ⟨.inr (hB.trans (.left hi (.refl _))), .inr (hB.trans (.right hi (.refl _)))⟩
theorem bget_set {B : List Bool} {i k : Nat} (hi : i < B.length) : (B.set i true).getD k default = true ↔ k = i ∨ B.getD k default = true := by
 simp only [List.getD_eq_getElem?_getD, List.getElem?_set]
 by_cases h : i = k
 ·subst h; simp [hi]
 ·rw [if_neg h]
  constructor
  ·exact .inr
  ·rintro (rfl | h2)
   ·exact absurd rfl h
   ·exact h2
def isReached (n : NetL) (k : Nat) : Prop := ∃ i, i < (rootsL n).length ∧ InCone n ((rootsL n).getD i default / 2).toNat k
noncomputable def pB (p : Prop) : Bool := @decide p (Classical.propDecidable p)
theorem pB_iff {p : Prop} : pB p = true ↔ p := by simp [pB]
theorem pB_no' {p : Prop} (h : ¬ p) : pB p = false := by simp [pB, h]
noncomputable def listB (m : Nat) (p : Nat → Prop) : List Bool := (List.range m).map fun k => pB (p k)
theorem listB_len (m : Nat) (p : Nat → Prop) : (listB m p).length = m := by simp [listB]
theorem listB_get {m k : Nat} {p : Nat → Prop} (h : k < m) : (listB m p).getD k default = true ↔ p k := by
 simp [listB, List.getD_eq_getElem?_getD, h, pB_iff]
theorem listB_eq {m : Nat} {p : Nat → Prop} {B : List Bool} (hl : B.length = m) (h : ∀ k, k < m → (B.getD k default = true ↔ p k)) : B = listB m p := by
 refine List.ext_getElem (by rw [hl, listB_len]) fun k h1 h2 => ?_
 have h3 := h k (by omega)
 have h4 := listB_get (m := m) (p := p) (k := k) (by omega)
 rw [List.getD_eq_getElem?_getD, List.getElem?_eq_getElem h1] at h3
 rw [List.getD_eq_getElem?_getD, List.getElem?_eq_getElem h2] at h4
 simp only [Option.getD_some] at h3 h4
 rw [Bool.eq_iff_iff, h3, h4]
noncomputable def reachedL (n : NetL) : List Bool := listB (nds n) (isReached n)
end Go.Xw
end
section
namespace Go.Xw
open Go.RowKit
def notL (a : Int) : Int := bits .xor .i64 a 1
theorem nat_xor_one (n : Nat) : n ^^^ 1 = if n % 2 = 0 then n + 1 else n - 1 := by
 have h1 : (n ^^^ 1) / 2 = n / 2 := by rw [Nat.xor_div_two]; simp
 have h2 : (n ^^^ 1) % 2 = (n + 1) % 2 := by
  have := Nat.xor_mod_two_pow (a := n) (b := 1) (n := 1)
  simp only [Nat.pow_one] at this
  rcases Nat.mod_two_eq_zero_or_one n with h | h
  ·rw [this, h, show 0 ^^^ 1 % 2 = 1 from rfl]; omega
  ·rw [this, h, show 1 ^^^ 1 % 2 = 0 from rfl]; omega
 split <;> omega
theorem xor_one {a : Int} (h : 0 ≤ a) (h2 : a ≤ 9223372036854775807) : bits .xor .i64 a 1 = if a % 2 = 0 then a + 1 else a - 1 := by
 obtain ⟨n, rfl⟩ := Int.eq_ofNat_of_zero_le h
 have := bits_xor_nat n 1 (by omega) (by omega)
 rw [show ((1 : Nat) : Int) = 1 from rfl] at this
 rw [this, nat_xor_one]
 split <;> split <;> omega
theorem xor_zero {a : Int} (h : 0 ≤ a) (h2 : a ≤ 9223372036854775807) : bits .xor .i64 a 0 = a := by
 obtain ⟨n, rfl⟩ := Int.eq_ofNat_of_zero_le h
 have := bits_xor_nat n 0 (by omega) (by omega)
 rw [show ((0 : Nat) : Int) = 0 from rfl] at this
 rw [this, Nat.xor_zero]
theorem notL_eq {a : Int} (h : 0 ≤ a) (h2 : a ≤ 9223372036854775807) : notL a = if a % 2 = 0 then a + 1 else a - 1 := xor_one h h2
theorem notL_b {a : Int} (h : 0 ≤ a) (h2 : a ≤ 9223372036854775807) : 0 ≤ notL a ∧ notL a ≤ 9223372036854775807 ∧ notL a / 2 = a / 2 ∧ notL a ≠ a := by
 rw [notL_eq h h2]; split <;> omega
theorem notL_iff {a b : Int} (h : 0 ≤ a) (h2 : a ≤ 9223372036854775807) (k : 0 ≤ b) (k2 : b ≤ 9223372036854775807) : notL a = b ↔ a = notL b := by
 rw [notL_eq h h2, notL_eq k k2]; split <;> split <;> omega
theorem notL_lit {a k : Int} (ha : i64R a) (h : 0 ≤ a) : litP (notL a) k ↔ litP a k := by
 have := notL_b h ha.2
 unfold litP
 omega
theorem rootsTo_eq (n : NetL) : ∀ i, i ≤ n.seqs.length → rootsTo n i = n.outs ++ (n.seqs.take i).flatMap SeqL.ins
 | 0, _ => by simp [rootsTo]
 | i + 1, h => by
  rw [rootsTo, rootsTo_eq n i (by omega), List.take_succ_eq_append_getElem (by omega), List.flatMap_append, List.append_assoc]
  congr 2
  simp [List.getD_eq_getElem?_getD, List.getElem?_eq_getElem (show i < n.seqs.length by omega)]
theorem rootsL_eq (n : NetL) : rootsL n = n.outs ++ n.seqs.flatMap SeqL.ins := by
 rw [rootsL, rootsTo_eq n _ (Nat.le_refl _), List.take_length]
theorem mem_iff_getD {α : Type} [Inhabited α] {l : List α} {p : α → Prop} : (∀ x, x ∈ l → p x) ↔ ∀ i, i < l.length → p (l.getD i default) := by
 constructor
 ·intro h i hi; exact h _ (getD_mem hi)
 ·intro h x hx
  obtain ⟨i, hi, rfl⟩ := List.mem_iff_getElem.1 hx
  have := h i hi
  rwa [List.getD_eq_getElem?_getD, List.getElem?_eq_getElem hi, Option.getD_some] at this
theorem litP.nat {l : Int} {n : NetL} (hn : Nums n) (h : litP l (nodesL n)) : (l / 2).toNat < nds n := by
 have := hn.n2
 unfold litP at h
 omega
theorem NetOkP.root {n : NetL} (h : NetOkP n) : ∀ x, x ∈ rootsL n → litP x (nodesL n) := mem_iff_getD.2 h.roots
theorem NetOkP.out {n : NetL} (h : NetOkP n) : ∀ x, x ∈ n.outs → litP x (nodesL n) := fun x hx => h.root x (by rw [rootsL_eq]; exact List.mem_append_left _ hx)
theorem NetOkP.inp {n : NetL} (h : NetOkP n) {s : SeqL} (hs : s ∈ n.seqs) : ∀ x, x ∈ s.ins → litP x (nodesL n) := fun x hx => h.root x (by
 rw [rootsL_eq]; exact List.mem_append_right _ (List.mem_flatMap.2 ⟨s, hs, hx⟩))
theorem NetOkP.count {n : NetL} (h : NetOkP n) : 1 ≤ firstAndL n ∧ firstAndL n + n.ands.length = nodesL n ∧ nodesL n ≤ 333 := by
 have := h.size
 unfold sizeOk at this
 unfold firstAndL nodesL
 omega
theorem litP.i64 {x k : Int} (h : litP x k) (hk : k ≤ 1000000) : i64R x := by unfold litP at h; unfold i64R; omega
theorem NetOkP.W {n : NetL} (h : NetOkP n) : NetW n := by
 have hc := h.count
 refine ⟨fun i hi => (h.out _ (getD_mem hi)).i64 (by omega), fun i hi j hj => (h.inp (getD_mem hi) _ (getD_mem hj)).i64 (by omega), fun i hi => ?_⟩
 have := h.ands i hi
 exact ⟨this.1.i64 (by omega), this.2.i64 (by omega)⟩
theorem NetOkP.S' {n : NetL} (h : NetOkP n) : NetS n := by
 have h1 := h.size
 unfold sizeOk at h1
 refine ⟨by omega, fun i hi => ?_, by omega, by omega⟩
 rcases h.seqs i hi with ⟨_, _, h2⟩ | ⟨_, _, h2⟩ <;> omega
def addAndL (n : NetL) (a b : Int) : NetL × Int :=
 if a = 0 ∨ b = 0 ∨ notL a = b then (n, 0)
 else if a = 1 ∨ a = b then (n, b)
 else if b = 1 then (n, a)
 else if n.ands.idxOf (min a b, max a b) < n.ands.length then (n, 2 * (firstAndL n + (n.ands.idxOf (min a b, max a b) : Nat)))
 else if 300 ≤ n.ands.length then (n, -1)
 else ({ n with ands := n.ands ++ [(min a b, max a b)] }, 2 * nodesL n)
theorem addAndL_n (n : NetL) (a b : Int) : (addAndL n a b).1 = { n with ands := (addAndL n a b).1.ands } := by
 unfold addAndL; (repeat' split) <;> rfl
theorem addAndL_inputs (n : NetL) (a b : Int) : (addAndL n a b).1.inputs = n.inputs := by unfold addAndL; (repeat' split) <;> rfl
theorem addAndL_seqs (n : NetL) (a b : Int) : (addAndL n a b).1.seqs = n.seqs := by unfold addAndL; (repeat' split) <;> rfl
theorem addAndL_ands (n : NetL) (a b : Int) : (addAndL n a b).1 = n ∨ ((addAndL n a b).1.ands = n.ands ++ [(min a b, max a b)] ∧ (addAndL n a b).2 = 2 * nodesL n ∧ n.ands.length < 300) := by
 unfold addAndL
 (repeat' split) <;> first | exact .inl rfl | (exact .inr ⟨rfl, rfl, by omega⟩)
theorem litP.mono {x k k' : Int} (h : litP x k) (hk : k ≤ k') : litP x k' := by unfold litP at h ⊢; omega
theorem NetOkP.snoc {n : NetL} (h : NetOkP n) {x : Int × Int} (h1 : litP x.1 (nodesL n)) (h2 : litP x.2 (nodesL n)) (hl : n.ands.length < 300) : NetOkP { n with ands := n.ands ++ [x] } := by
 obtain ⟨s1, s2, s3, s4⟩ := h.size
 have hc := h.count
 have e : nodesL { n with ands := n.ands ++ [x] } = nodesL n + 1 := by unfold nodesL; simp; omega
 have e2 : firstAndL { n with ands := n.ands ++ [x] } = firstAndL n := rfl
 refine ⟨⟨s1, s2, by simp; omega, s4⟩, h.seqs, fun i hi => ?_, fun i hi => ?_⟩
 ·rw [e]
  have e3 : rootsL { n with ands := n.ands ++ [x] } = rootsL n := by rw [rootsL_eq, rootsL_eq]
  rw [e3] at hi ⊢
  exact (h.roots i hi).mono (by omega)
 ·rw [e2]
  simp only [List.length_append, List.length_cons, List.length_nil] at hi
  show litP ((n.ands ++ [x]).getD i default).1 _ ∧ litP ((n.ands ++ [x]).getD i default).2 _
  by_cases hi2 : i < n.ands.length
  ·rw [snoc_lt hi2]; exact h.ands i hi2
  ·obtain rfl : i = n.ands.length := by omega
   rw [snoc_eq, hc.2.1]; exact ⟨h1, h2⟩
theorem addAndL_ok {n : NetL} (h : NetOkP n) {a b : Int} (ha : litP a (nodesL n)) (hb : litP b (nodesL n)) : NetOkP (addAndL n a b).1 := by
 rcases addAndL_ands n a b with e | ⟨e, _, hl⟩
 ·rw [e]; exact h
 ·rw [addAndL_n, e]
  refine h.snoc ?_ ?_ hl <;> unfold litP at * <;> dsimp only <;> omega
theorem addAndL_nodes (n : NetL) (a b : Int) : nodesL n ≤ nodesL (addAndL n a b).1 := by
 rcases addAndL_ands n a b with e | ⟨e, _, hl⟩
 ·rw [e]; exact Int.le_refl _
 ·unfold nodesL; rw [addAndL_inputs, addAndL_seqs, e]; simp; omega
theorem addAndL_lit {n : NetL} (h : NetOkP n) {a b : Int} (ha : litP a (nodesL n)) (hb : litP b (nodesL n)) : litP (addAndL n a b).2 (nodesL (addAndL n a b).1) ∨ (addAndL n a b) = (n, -1) := by
 have hc := h.count
 unfold addAndL
 unfold litP at *
 repeat' split
 all_goals first | (right; rfl) | (left; dsimp only; first | omega | skip)
 have : nodesL { n with ands := n.ands ++ [(min a b, max a b)] } = nodesL n + 1 := by unfold nodesL; simp; omega
 rw [this]; omega
theorem addAndL_neg {n : NetL} (h : NetOkP n) {a b : Int} (ha : litP a (nodesL n)) (hb : litP b (nodesL n)) (hn : (addAndL n a b).2 < 0) : addAndL n a b = (n, -1) := by
 rcases addAndL_lit h ha hb with h2 | h2
 ·unfold litP at h2; omega
 ·exact h2
theorem idxOf_at {l : List (Int × Int)} {x : Int × Int} {i : Nat} (h : ∀ j, j < i → l.getD j default ≠ x) (hi : i < l.length) (he : l.getD i default = x) : l.idxOf x = i := by
 have h1 : l.idxOf x ≤ i := by
  have := List.getElem?_eq_getElem hi
  rcases Nat.lt_or_ge i (l.idxOf x) with h2 | h2
  ·exfalso
   have h3 := List.not_of_lt_findIdx (p := (· == x)) (xs := l) (i := i) h2
   rw [List.getD_eq_getElem?_getD, this, Option.getD_some] at he
   simp [he] at h3
  ·exact h2
 rcases Nat.lt_or_ge (l.idxOf x) i with h2 | h2
 ·exfalso
  have h3 : l.idxOf x < l.length := by omega
  refine h _ h2 ?_
  rw [List.getD_eq_getElem?_getD, List.getElem?_eq_getElem h3, Option.getD_some]
  exact List.getElem_idxOf h3
 ·omega
theorem idxOf_none {l : List (Int × Int)} {x : Int × Int} (h : ∀ j, j < l.length → l.getD j default ≠ x) : ¬ l.idxOf x < l.length := fun h3 => by
 refine h _ h3 ?_
 rw [List.getD_eq_getElem?_getD, List.getElem?_eq_getElem h3, Option.getD_some]
 exact List.getElem_idxOf h3
def orL (r : NetL × Int) : NetL × Int := if r.2 < 0 then (r.1, -1) else (r.1, notL r.2)
def addOrL (n : NetL) (a b : Int) : NetL × Int := orL (addAndL n (notL a) (notL b))
def addTwoL (n : NetL) (a b c d : Int) : NetL × Int :=
 if (addAndL n a b).2 < 0 then ((addAndL n a b).1, -1)
 else if (addAndL (addAndL n a b).1 c d).2 < 0 then ((addAndL (addAndL n a b).1 c d).1, -1)
 else addOrL (addAndL (addAndL n a b).1 c d).1 (addAndL n a b).2 (addAndL (addAndL n a b).1 c d).2
def addXorL (n : NetL) (a b : Int) : NetL × Int := addTwoL n a (notL b) (notL a) b
def addMuxL (n : NetL) (s a b : Int) : NetL × Int := addTwoL n s a (notL s) b
def finL (n : NetL) (r : NetL × Int) : NetL × Int := if r.2 < 0 then (n, -1) else r
structure GoodN (n : NetL) (r : NetL × Int) : Prop where
 ok : NetOkP r.1
 eq : r.1 = { n with ands := r.1.ands }
 nodes : nodesL n ≤ nodesL r.1
 lit : litP r.2 (nodesL r.1) ∨ r.2 = -1
 neg : r.2 < 0 → r.2 = -1
theorem GoodN.b {n : NetL} {r : NetL × Int} (h : GoodN n r) : -1 ≤ r.2 ∧ r.2 ≤ 1000 := by
 have := h.ok.count
 rcases h.lit with h1 | h1
 ·unfold litP at h1; omega
 ·omega
theorem GoodN.litP {n : NetL} {r : NetL × Int} (h : GoodN n r) (h0 : ¬ r.2 < 0) : litP r.2 (nodesL r.1) := by
 rcases h.lit with h1 | h1
 ·exact h1
 ·omega
theorem GoodN.trans {n : NetL} {r r' : NetL × Int} (h : GoodN n r) (k : GoodN r.1 r') : GoodN n r' := by
 refine ⟨k.ok, ?_, Int.le_trans h.nodes k.nodes, k.lit, k.neg⟩
 rw [k.eq, h.eq]
theorem good_and {n : NetL} (h : NetOkP n) {a b : Int} (ha : litP a (nodesL n)) (hb : litP b (nodesL n)) : GoodN n (addAndL n a b) :=
 ⟨addAndL_ok h ha hb, addAndL_n n a b, addAndL_nodes n a b, (addAndL_lit h ha hb).imp id (fun e => by rw [e]), fun hn => by rw [addAndL_neg h ha hb hn]⟩
theorem litP_not {a k : Int} (h : litP a k) (hk : k ≤ 1000000) : litP (notL a) k := (notL_lit (h.i64 hk) h.1).2 h
theorem GoodN.fail {n : NetL} {r : NetL × Int} (h : GoodN n r) : GoodN n (r.1, -1) := ⟨h.ok, h.eq, h.nodes, .inr rfl, fun _ => rfl⟩
theorem good_or {n : NetL} (h : NetOkP n) {a b : Int} (ha : litP a (nodesL n)) (hb : litP b (nodesL n)) : GoodN n (addOrL n a b) := by
 have hc := h.count
 have g := good_and h (litP_not ha (by omega)) (litP_not hb (by omega))
 unfold addOrL orL
 split
 ·exact g.fail
 ·rename_i h0
  have hc2 := g.ok.count
  have hl := litP_not (g.litP h0) (by omega)
  refine ⟨g.ok, g.eq, g.nodes, .inl hl, fun hn => ?_⟩
  unfold Go.Xw.litP at hl
  dsimp only at hn
  omega
theorem good_two {n : NetL} (h : NetOkP n) {a b c d : Int} (ha : litP a (nodesL n)) (hb : litP b (nodesL n)) (hc : litP c (nodesL n)) (hd : litP d (nodesL n)) : GoodN n (addTwoL n a b c d) := by
 have g1 := good_and h ha hb
 have g2 := good_and g1.ok (hc.mono g1.nodes) (hd.mono g1.nodes)
 unfold addTwoL
 split
 ·exact g1.fail
 ·rename_i h1
  split
  ·exact (g1.trans g2).fail
  ·rename_i h2
   exact (g1.trans g2).trans (good_or g2.ok ((g1.litP h1).mono g2.nodes) (g2.litP h2))
theorem good_xor {n : NetL} (h : NetOkP n) {a b : Int} (ha : litP a (nodesL n)) (hb : litP b (nodesL n)) : GoodN n (addXorL n a b) := by
 have hc := h.count
 exact good_two h ha (litP_not hb (by omega)) (litP_not ha (by omega)) hb
theorem good_mux {n : NetL} (h : NetOkP n) {s a b : Int} (hs : litP s (nodesL n)) (ha : litP a (nodesL n)) (hb : litP b (nodesL n)) : GoodN n (addMuxL n s a b) := by
 have hc := h.count
 exact good_two h hs ha (litP_not hs (by omega)) hb
end Go.Xw
end
