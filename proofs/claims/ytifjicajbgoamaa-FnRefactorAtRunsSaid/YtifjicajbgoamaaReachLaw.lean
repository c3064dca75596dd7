/- Texts that belong together; each under its stated conditions. -/
import Derived.Test.YtifjicajbgoamaaGraph4
import Derived.Test.YtifjicajbgoamaaFam
import Derived.Test.YtifjicajbgoamaaNetR
set_option linter.all false
section
/- The contracts of the functions that copy nets; each under its stated conditions. -/
namespace Go.Xw
/-- one more element, whose In lies beside -/
theorem rIns_add {w0 w : World} {L : List Res} {R : List SeqA} {y : SeqA} (h : Hp w0 w (rO 3 1 eI y.ia y.ic y.ins :: rIns R :: L)) : Hp w0 w (rIns (R ++ [y]) :: L) := by
  have h1 := h.f1.unpack
  refine Hp.pack (Hp.perm h1 ?_)
  simp only [List.map_append, List.map_cons, List.map_nil, List.append_assoc]
  exact .refl _
end Go.Xw
namespace Go.Proofs
open Go.Xw
set_option maxRecDepth 100000
set_option maxHeartbeats 1000000
attribute [local irreducible] Holds elemAddr

theorem seqsOf_snoc (R : List SeqA) (y : SeqA) : seqsOf (R ++ [y]) = seqsOf R ++ [y.s] := by simp [seqsOf]
theorem implCopySeqs_h (a : Option Addr) (c : Nat) (X : List SeqA) (w0 : World) (hX : SeqsR w0 a X) (hl : X.length ≤ 1048576) (hl2 : ∀ i, i < X.length → (X.getD i default).ins.length ≤ 1048576) :
    Ret Try.prog 58 [.slice a X.length c] w0 (fun v w => ∃ b c' R, (seqsOf R = seqsOf X ∧ v = .slice b R.length c') ∧ Hp w0 w [rSq b c' R]) := by
  have hr := hX.row
  refine enter Try.S58ok _ _ rfl rfl (by show _ ≤ _; simp only [List.length]; decide) (fun C => ?_); have hp := Hp.nil w0; refine h_run rfl ?_; skip
  refine h_loop4 [3, 6, 7, 8] (fun (i : Nat) (R : List SeqA) (b : Option Addr) (c' : Nat) => [(3, .slice b R.length c'), (6, .slice a X.length c), (7, .int .i64 X.length), (8, .int .i64 (i : Int))])
    (fun i R b c' w' => (i ≤ X.length ∧ R.length = i ∧ seqsOf R = (seqsOf X).take i) ∧ Hp w0 w' [rO 63 3 eSq b c' R, rIns R]) (fun i _ _ _ => X.length - i) 0 [] none 0 rfl ⟨⟨by omega, rfl, rfl⟩, (rIns_nil hp).ownN (Ext.refl _) (Own.nil _ _ _ _ _)⟩ ?_
  rintro i R b c' w1 ⟨⟨hi, hR, hRs⟩, hp⟩ IH C
  refine h_run rfl ?_; skip
  refine h_cond_dec (fun hlt => ?_) (fun hlt => ?_)
  · have hlt' : i < X.length := by omega
    have hin := hX.at_ hlt'
    have hb := hl2 i hlt'
    refine h_cond_t rfl rfl ?_; (repeat (refine H_ldEN hp rfl (by omega) rfl rfl ?_))
    (first | (refine H_box hp ?_; intro w b5 hx hp) | (refine H_alloc hp rfl ?_; intro w b5 hx hp)); refine ops_run nopre rfl ?_; (repeat (refine U_stBN hp rfl rfl rfl rfl ?_; intro w hp; refine ops_run nopre rfl ?_))
    refine D_draw hp (by kernel_rfl) (by kernel_rfl) rfl rfl ?_; intro w hx hp; have hs := hp; (repeat (refine D_ldB rfl rfl rfl ?_))
    refine h_callq rfl Try.func59 (by kernel_rfl) rfl (copyInts_h _ _ (X.getD i default).ins _ hp.rd (by omega)) ?_; rintro _ w ⟨b6, c6, rfl, hq⟩; have hx := hq.x; have hp := hp.call1 hq; have hs := hs.ext hx; refine ⟨fun _ => hs, ?_⟩; refine D_ops rfl rfl ?_; skip
    refine D_lit (fun _ hx => hs.ext hx) hp eSq [⟨(X.getD i default).kind, (X.getD i default).init, (X.getD i default).ins, b6, c6⟩] rfl rfl rfl rfl (s := 3) rfl (by decide) (by infer_instance) (by rfl) (by rfl) (by rfl) (by decide) ?_; intro w b7 hx hp; have hs := hs.ext hx; refine D_ops rfl rfl ?_; skip
    refine V_append hp rfl rfl rfl rfl rfl rfl rfl (by decide) rfl (by first | omega | (simp only [List.length_append, List.length_cons, List.length_nil, List.length_take, List.length_drop, List.length_set, List.length_replicate, List.length_map]; omega)) rfl rfl (by kernel_rfl) ?_; intro b' c'' w hp hnil; refine D_ops rfl rfl ?_; skip
    have hp := rIns_add (y := ⟨(X.getD i default).kind, (X.getD i default).init, (X.getD i default).ins, b6, c6⟩) hp.drop.f1.drop.f2.f1
    refine IH (i + 1) _ b' c'' _ _ _ (by omega) rfl ⟨⟨by omega, by simp; omega, ?_⟩, hp.f1⟩
    rw [take_snoc (by rw [seqsOf_len]; exact hlt'), ← hRs, seqsOf_get, seqsOf_snoc]
    rfl
  · refine h_cond_f rfl rfl ?_; (repeat (refine R_ret ?_))
    obtain rfl : i = X.length := by omega
    rw [← seqsOf_len X, List.take_length] at hRs
    exact ⟨b, c', R, ⟨hRs, rfl⟩, rSq_shut hp⟩
theorem implCopyNet_h (x : NetA) (w0 : World) (hX : NetR w0 x) (hS : NetS x.n) :
    Ret Try.prog 30 [x.v] w0 (fun v w => ∃ y, (y.n = x.n ∧ v = y.v) ∧ Hp w0 w [rNet y]) := by
  obtain ⟨s1, s2, s3, s4⟩ := hS
  rw [x.slen] at s1 s2
  simp only [x.sins] at s2
  have s3 : x.ands.length ≤ 1048576 := s3
  have s4 : x.outs.length ≤ 1048576 := s4
  refine enter Try.S30ok _ _ rfl rfl (by show _ ≤ _; simp only [List.length]; decide) (fun C => ?_); have hp := Hp.nil w0; refine h_run rfl ?_; skip; (first | (refine H_box hp ?_; intro w b1 hx hp) | (refine H_alloc hp rfl ?_; intro w b1 hx hp)); refine ops_run nopre rfl ?_; skip; (first | (refine H_box hp ?_; intro w b2 hx hp) | (refine H_alloc hp rfl ?_; intro w b2 hx hp)); refine ops_run nopre rfl ?_; skip
  refine N_draw hp (by kernel_rfl) (by kernel_rfl) rfl rfl ?_; (repeat (refine N_ldB rfl rfl rfl ?_))
  refine N_call Try.func58 (by kernel_rfl) rfl (fun F w hp => ?_); refine Ret.mono (implCopySeqs_h _ _ _ _ hp.net.seqs s1 s2) ?_; rintro _ w ⟨b5, c5, R, ⟨hR, rfl⟩, hq⟩; have hp := hp.callF1 hq; refine ⟨fun _ => hp.sub (by (repeat (first | exact List.sublist_append_left _ _ | apply List.Sublist.cons))), _, hp, ?_⟩; clear hp; refine N_ops rfl rfl ?_; skip
  refine N_lit eII ([] : List (Int × Int)) rfl rfl rfl rfl (s := 2) rfl (by decide) (by infer_instance) (by rfl) (by rfl) (by rfl) (by decide) ?_; intro b7; refine N_ops rfl rfl ?_; (repeat (refine N_ldB rfl rfl rfl ?_))
  refine N_append rfl rfl rfl rfl rfl rfl rfl (by decide) rfl (by first | omega | (simp only [List.length_append, List.length_cons, List.length_nil, List.length_take, List.length_drop, List.length_set, List.length_replicate, List.length_map]; omega)) rfl rfl (fun _ _ _ _ _ hp => hp.sub (by (repeat (first | exact List.sublist_append_left _ _ | apply List.Sublist.cons)))) ?_; intro b8 c8 hnil; refine N_ops rfl rfl ?_; (repeat (refine N_ldB rfl rfl rfl ?_))
  refine N_call Try.func59 (by kernel_rfl) rfl (fun F w hp => ?_); refine Ret.mono (copyInts_h _ _ x.outs _ hp.rd (by omega)) ?_; rintro _ w ⟨b9, c9, rfl, hq⟩; have hp := hp.callF1 hq; refine ⟨fun _ => hp.sub (by (repeat (first | exact List.sublist_append_left _ _ | apply List.Sublist.cons))), _, hp, ?_⟩; clear hp; refine N_ops rfl rfl ?_; (repeat (refine N_stBN rfl rfl rfl rfl (by kernel_rfl) ?_; refine N_ops rfl rfl ?_))
  refine N_end ?_; intro w hp C; refine h_run rfl ?_; (repeat (refine R_ret1 hp rfl ?_))
  refine ⟨⟨x.inputs, R, b5, c5, x.ands, b8, c8, x.outs, b9, c9⟩, ⟨by unfold NetA.n; rw [hR], rfl⟩, ?_⟩
  exact Hp.sub (rNet_shut (x := ⟨x.inputs, R, b5, c5, x.ands, b8, c8, x.outs, b9, c9⟩) hp.f1.f2) (by simp)
end Go.Proofs
end
section
/- Cones of nodes and the nodes that are reached, as plain data; no condition. -/
namespace Go.Xw

/-- the number of the first AND node, and the nodes of A and B -/
def fst_ (n : NetL) : Nat := (firstAndL n).toNat
def kA (n : NetL) (i : Nat) : Nat := ((n.ands.getD i default).1 / 2).toNat
def kB (n : NetL) (i : Nat) : Nat := ((n.ands.getD i default).2 / 2).toNat
def nds (n : NetL) : Nat := (nodesL n).toNat

/-- k is in the cone of j -/
inductive InCone (n : NetL) : Nat → Nat → Prop where
  | refl (k : Nat) : InCone n k k
  | left {i k : Nat} (hi : i < n.ands.length) (h : InCone n (kA n i) k) : InCone n (fst_ n + i) k
  | right {i k : Nat} (hi : i < n.ands.length) (h : InCone n (kB n i) k) : InCone n (fst_ n + i) k

structure Nums (n : NetL) : Prop where
  f1 : 1 ≤ fst_ n
  f2 : ((fst_ n : Nat) : Int) = firstAndL n
  n1 : nds n = fst_ n + n.ands.length
  n2 : ((nds n : Nat) : Int) = nodesL n
  ka : ∀ i, i < n.ands.length → kA n i < fst_ n + i
  kb : ∀ i, i < n.ands.length → kB n i < fst_ n + i

theorem NetOkP.nums {n : NetL} (h : NetOkP n) : Nums n := by
  have h1 := h.size
  unfold sizeOk at h1
  have h2 : firstAndL n = 1 + n.inputs + n.seqs.length := rfl
  have h3 : nodesL n = 1 + n.inputs + n.seqs.length + n.ands.length := rfl
  refine ⟨by unfold fst_; omega, by unfold fst_; omega, by unfold nds fst_; omega, by unfold nds; omega, fun i hi => ?_, fun i hi => ?_⟩
  · have h4 := (h.ands i hi).1
    unfold litP at h4
    unfold kA fst_
    omega
  · have h4 := (h.ands i hi).2
    unfold litP at h4
    unfold kB fst_
    omega

theorem InCone.trans {n : NetL} {a b c : Nat} (h : InCone n a b) (k : InCone n b c) : InCone n a c := by
  induction h with
  | refl => exact k
  | left hi _ ih => exact .left hi (ih k)
  | right hi _ ih => exact .right hi (ih k)
theorem InCone.le {n : NetL} (hn : Nums n) {a b : Nat} (h : InCone n a b) : b ≤ a := by
  induction h with
  | refl => exact Nat.le_refl _
  | left hi _ ih => have := hn.ka _ hi; omega
  | right hi _ ih => have := hn.kb _ hi; omega
theorem InCone.leaf {n : NetL} {a b : Nat} (h : InCone n a b) (ha : a < fst_ n) : b = a := by
  cases h with
  | refl => rfl
  | left hi _ => omega
  | right hi _ => omega
theorem InCone.and_ {n : NetL} {i b : Nat} (hi : i < n.ands.length) : InCone n (fst_ n + i) b ↔ b = fst_ n + i ∨ InCone n (kA n i) b ∨ InCone n (kB n i) b := by
  constructor
  · intro h
    generalize hg : fst_ n + i = a at h
    cases h with
    | refl => exact .inl rfl
    | left hi2 h2 => obtain rfl : i = _ := Nat.add_left_cancel hg; exact .inr (.inl h2)
    | right hi2 h2 => obtain rfl : i = _ := Nat.add_left_cancel hg; exact .inr (.inr h2)
  · rintro (rfl | h | h)
    · exact .refl _
    · exact .left hi h
    · exact .right hi h

/-- all kids of marked AND nodes at or below m are marked -/
def ClosedTo (n : NetL) (B : List Bool) (m : Nat) : Prop := ∀ i, i < n.ands.length → fst_ n + i ≤ m → B.getD (fst_ n + i) default = true → B.getD (kA n i) default = true ∧ B.getD (kB n i) default = true

theorem ClosedTo.cone {n : NetL} (hn : Nums n) {B : List Bool} {m : Nat} (h : ClosedTo n B m) {a b : Nat} (hc : InCone n a b) (ha : a ≤ m) (hB : B.getD a default = true) : B.getD b default = true := by
  induction hc with
  | refl => exact hB
  | left hi _ ih => exact ih (by have := hn.ka _ hi; omega) (h _ hi ha hB).1
  | right hi _ ih => exact ih (by have := hn.kb _ hi; omega) (h _ hi ha hB).2

/-- what marking a cone gives -/
structure Marked (n : NetL) (B : List Bool) (a : Nat) (B' : List Bool) : Prop where
  len : B'.length = B.length
  iff : ∀ k, k < B.length → (B'.getD k default = true ↔ B.getD k default = true ∨ InCone n a k)

theorem Marked.closed {n : NetL} (hn : Nums n) {B B' : List Bool} {a m : Nat} (h : Marked n B a B') (hl : B.length = nds n) (hc : ClosedTo n B m) : ClosedTo n B' m := by
  intro i hi him hB
  have hka := hn.ka i hi
  have hkb := hn.kb i hi
  have hn1 := hn.n1
  rw [h.iff _ (by omega)] at hB
  rw [h.iff _ (by omega), h.iff _ (by omega)]
  rcases hB with hB | hB
  · have := hc i hi him hB
    exact ⟨.inl this.1, .inl this.2⟩
  · exact ⟨.inr (hB.trans (.left hi (.refl _))), .inr (hB.trans (.right hi (.refl _)))⟩

theorem bget_set {B : List Bool} {i k : Nat} (hi : i < B.length) : (B.set i true).getD k default = true ↔ k = i ∨ B.getD k default = true := by
  simp only [List.getD_eq_getElem?_getD, List.getElem?_set]
  by_cases h : i = k
  · subst h; simp [hi]
  · rw [if_neg h]
    constructor
    · exact .inr
    · rintro (rfl | h2)
      · exact absurd rfl h
      · exact h2

/-! ### the nodes that are reached -/
def isReached (n : NetL) (k : Nat) : Prop := ∃ i, i < (rootsL n).length ∧ InCone n ((rootsL n).getD i default / 2).toNat k
noncomputable def pB (p : Prop) : Bool := @decide p (Classical.propDecidable p)
theorem pB_iff {p : Prop} : pB p = true ↔ p := by simp [pB]
theorem pB_no' {p : Prop} (h : ¬ p) : pB p = false := by simp [pB, h]
noncomputable def listB (m : Nat) (p : Nat → Prop) : List Bool := (List.range m).map fun k => pB (p k)
theorem listB_len (m : Nat) (p : Nat → Prop) : (listB m p).length = m := by simp [listB]
theorem listB_get {m k : Nat} {p : Nat → Prop} (h : k < m) : (listB m p).getD k default = true ↔ p k := by
  simp [listB, List.getD_eq_getElem?_getD, h, pB_iff]
theorem listB_eq {m : Nat} {p : Nat → Prop} {B : List Bool} (hl : B.length = m) (h : ∀ k, k < m → (B.getD k default = true ↔ p k)) : B = listB m p := by
  refine List.ext_getElem (by rw [hl, listB_len]) fun k h1 h2 => ?_
  have h3 := h k (by omega)
  have h4 := listB_get (m := m) (p := p) (k := k) (by omega)
  rw [List.getD_eq_getElem?_getD, List.getElem?_eq_getElem h1] at h3
  rw [List.getD_eq_getElem?_getD, List.getElem?_eq_getElem h2] at h4
  simp only [Option.getD_some] at h3 h4
  rw [Bool.eq_iff_iff, h3, h4]
noncomputable def reachedL (n : NetL) : List Bool := listB (nds n) (isReached n)
/-- the nodes that are marked, in ascending order -/
def markedTo (B : List Bool) : Nat → List Int
  | 0 => []
  | i + 1 => if B.getD i default = true then markedTo B i ++ [(i : Int)] else markedTo B i
def markedL (B : List Bool) : List Int := markedTo B B.length
theorem markedTo_len (B : List Bool) : ∀ i, (markedTo B i).length ≤ i
  | 0 => by simp [markedTo]
  | i + 1 => by
    have := markedTo_len B i
    simp only [markedTo]
    split
    · simp; omega
    · omega
noncomputable def coneL (n : NetL) (k : Nat) : List Int := markedL (listB (nds n) (InCone n k))
end Go.Xw
end
