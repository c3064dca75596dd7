/- The contracts of the functions that draw nets: what they give is a valid net; each under its stated conditions. -/
import Derived.Test.YtbjgekllkfnjnaaDraw
import Derived.Test.YtbjgekllkfnjnaaMap
set_option linter.all false
namespace Go.Proofs
open Go.Xw
set_option maxRecDepth 100000
set_option maxHeartbeats 4000000
attribute [local irreducible] Holds elemAddr
theorem l01Below_F {w0 w : World} {L F : List Res} {p : Nat} {a : Option Addr} {n c : Nat} {code : List Int} (hR : Rd w0 a 1 eU8 code) (hn : code.length = n) (hp : Hp w0 w ((rCur p a n c :: L) ++ F)) (m : Int) :
  Ret Try.prog 42 [.pointer (some ⟨p, 0, none⟩), .int .i64 m] w (fun v w' => ∃ z, (v = .int .i64 z ∧ (m ≤ 0 → z = 0) ∧ (0 < m → 0 ≤ z ∧ z < m)) ∧ Hp w0 w' ((rCur p a n c :: L) ++ F)) :=
 l01Below_h (L := L ++ F) hR hn hp m
theorem snoc_all {α : Type} {P : α → Prop} {A : List α} {y : α} (h : ∀ x, x ∈ A → P x) (hy : P y) : ∀ x, x ∈ A ++ [y] → P x := fun x hx => by
 rcases List.mem_append.1 hx with h1 | h1
 ·exact h x h1
 ·simp only [List.mem_singleton] at h1; subst h1; exact hy
theorem snoc_at {A : List (Int × Int)} {f : Int} {y : Int × Int} (h : ∀ i, i < A.length → litP (A.getD i default).1 (f + i) ∧ litP (A.getD i default).2 (f + i)) (hy : litP y.1 (f + A.length) ∧ litP y.2 (f + A.length)) :
  ∀ i, i < (A ++ [y]).length → litP ((A ++ [y]).getD i default).1 (f + i) ∧ litP ((A ++ [y]).getD i default).2 (f + i) := fun i hi => by
 simp at hi
 by_cases h2 : i < A.length
 ·rw [snoc_lt h2]; exact h i h2
 ·obtain rfl : i = A.length := by omega
  rw [snoc_eq]; exact hy
def sqOk (f : Int) (s : SeqL) : Prop := seqOkP s ∧ ∀ l, l ∈ s.ins → litP l f
theorem l08Sized_h {w0 w : World} {L : List Res} {p : Nat} {a : Option Addr} {n c : Nat} {code : List Int} (hR : Rd w0 a 1 eU8 code) (hn : code.length = n) (hp : Hp w0 w (rCur p a n c :: L)) (mi ms ma : Int) (h1 : 1 ≤ mi ∧ mi ≤ 20) (h2 : 0 ≤ ms ∧ ms ≤ 12) (h3 : 0 ≤ ma ∧ ma ≤ 300) :
  Ret Try.prog 86 [.pointer (some ⟨p, 0, none⟩), .int .i64 mi, .int .i64 ms, .int .i64 ma] w (fun v w' => ∃ y, (NetOkP y.n ∧ (1 ≤ y.inputs ∧ (y.ands.length : Int) ≤ ma ∧ y.inputs ≤ mi ∧ (y.seqs.length : Int) ≤ ms) ∧ v = y.v) ∧ Hp w0 w' (rNet y :: rCur p a n c :: L)) := by
 refine enter Try.S86ok _ _ rfl rfl (by show _ ≤ _; simp only [List.length]; decide) (fun C => ?_); refine h_run rfl ?_; skip
 (first | refine H_box hp ?_ | refine H_alloc hp rfl ?_); intro w b8 hx hp; refine ops_run nopre rfl ?_; skip
 refine h_call rfl Try.func42 (by kernel_rfl) rfl (l01Below_h hR hn hp.f1 mi) ?_; rintro _ w ⟨z1, ⟨rfl, _, hz1⟩, hp⟩; refine ops_run nopre rfl ?_; skip
 have hz1 := hz1 (by omega)
 (first | refine H_box hp ?_ | refine H_alloc hp rfl ?_); intro w b9 hx hp; refine ops_run nopre rfl ?_; (repeat (refine U_stBN hp rfl rfl rfl rfl ?_; intro w hp; refine ops_run nopre rfl ?_))
 refine h_call rfl Try.func42 (by kernel_rfl) rfl (l01Below_h hR hn hp.f1 (ms + 1)) ?_; rintro _ w ⟨z2, ⟨rfl, _, hz2⟩, hp⟩; refine ops_run nopre rfl ?_; skip
 have hz2 := hz2 (by omega)
 refine h_call rfl Try.func42 (by kernel_rfl) rfl (l01Below_h hR hn hp (ma + 1)) ?_; rintro _ w ⟨z3, ⟨rfl, _, hz3⟩, hp⟩; refine ops_run nopre rfl ?_; (repeat (refine H_ldB hp rfl rfl ?_))
 have hz3 := hz3 (by omega)
 obtain ⟨s, rfl⟩ := Int.eq_ofNat_of_zero_le hz2.1
 obtain ⟨m, rfl⟩ := Int.eq_ofNat_of_zero_le hz3.1
 obtain ⟨I, hI⟩ : ∃ I, I = 1 + z1 := ⟨_, rfl⟩
 rw [← hI] at hp
 show Holds _ _ _ _ _ (G.code _ _)
 obtain ⟨f, hf⟩ : ∃ f, f = 1 + I + (s : Int) := ⟨_, rfl⟩
 refine h_loop4 [0, 8, 9, 10, 11, 12, 13] (fun (i : Nat) (_ : List (Int × Int)) (_ : Option Addr) (_ : Nat) => [(0, .pointer (some ⟨p, 0, none⟩)), (8, .pointer (some ⟨b8, 0, none⟩)), (9, .pointer (some ⟨b9, 0, none⟩)), (10, .int .i64 (s : Int)), (11, .int .i64 (m : Int)), (12, .int .i64 f), (13, .int .i64 (i : Int))])
  (fun i A aa ac w' => (i ≤ m ∧ A.length = i ∧ ∀ j, j < A.length → litP (A.getD j default).1 (f + j) ∧ litP (A.getD j default).2 (f + j)) ∧ Hp w0 w' (rCur p a n c :: rB b9 28 [.int .i64 I, .slice none 0 0, .slice aa A.length ac, .slice none 0 0] :: rO 79 2 eII aa ac A :: rB b8 28 (cellsV Try.ti28.zero) :: L)) (fun i _ _ _ => m - i) 0 [] none 0 (by rw [hf, hI]; rfl)
  ⟨⟨by omega, rfl, fun j hj => by simp at hj⟩, (hp.ownN (Ext.refl _) (Own.nil _ _ _ _ _)).f2.f2⟩ ?_
 clear hp
 rintro i A aa ac w1 ⟨⟨hi, hA, hAl⟩, hp⟩ IH C
 refine h_run rfl ?_; skip
 refine h_cond_dec (fun hlt => ?_) (fun hlt => ?_)
 ·have hlt' : i < m := by omega
  refine h_cond_t rfl rfl ?_; skip
  refine h_call rfl Try.func42 (by kernel_rfl) rfl (l01Below_h hR hn hp (min (2 * (f + (i : Int)) - 1) 14)) ?_; rintro _ w ⟨y1, ⟨rfl, _, hy1⟩, hp⟩; refine ops_run nopre rfl ?_; skip
  have hy1 := hy1 (by omega)
  have hk : 0 < 2 * (f + (i : Int)) := by omega
  refine N_draw hp (by kernel_rfl) (by kernel_rfl) rfl rfl ?_; (repeat (refine N_ldB rfl rfl rfl ?_))
  refine N_call Try.func42 (by kernel_rfl) rfl (fun F w hp => ?_); refine Ret.mono (l01Below_F hR hn hp (2 * (f + (i : Int)))) ?_; rintro _ w ⟨y2, ⟨rfl, _, hy2⟩, hp⟩; refine ⟨fun _ => hp.pre, _, hp, ?_⟩; clear hp; refine N_ops rfl rfl ?_; skip
  have hy2 := hy2 hk
  refine N_lit eII [(2 * (f + (i : Int)) - 1 - y1, y2)] rfl rfl rfl rfl (s := 2) rfl (by decide) (by infer_instance) (by rfl) (by rfl) (by rfl) (by decide) ?_; intro b30; refine N_ops rfl rfl ?_; skip
  refine N_append rfl rfl rfl rfl rfl rfl rfl (by decide) rfl (by first | omega | (simp only [List.length_append, List.length_cons, List.length_nil, List.length_take, List.length_drop, List.length_set, List.length_replicate, List.length_map]; omega)) rfl rfl (fun hq => Bool.noConfusion (hq.symm.trans (by kernel_rfl : flagAt _ _ = false))) ?_; intro aa' ac' hnil; refine N_ops rfl rfl ?_; (repeat (refine N_stB rfl rfl rfl rfl (by kernel_rfl) ?_; refine N_ops rfl rfl ?_))
  refine N_end ?_; intro w hp C; refine h_run rfl ?_; skip
  refine IH (i + 1) (A ++ [(2 * (f + (i : Int)) - 1 - y1, y2)]) aa' ac' _ _ _ (by omega) rfl ⟨⟨by omega, by simp; omega, snoc_at hAl ?_⟩, ?_⟩
  ·unfold litP
   dsimp only
   omega
  ·exact hp.drop
 ·obtain rfl : i = m := by omega
  clear IH
  refine h_cond_f rfl rfl ?_; skip
  have hp : Hp w0 _ (rO 91 3 eSq none 0 ([] : List SeqA) :: _) := hp.ownN (Ext.refl _) (Own.nil _ _ _ _ _)
  have hp := (rIns_nil hp).f1.f3.f3
  obtain ⟨g, hg⟩ : ∃ g, g = f + (i : Int) := ⟨_, rfl⟩
  refine h_loop4 [0, 8, 9, 10, 16, 17] (fun (j : Nat) (_ : List SeqA) (_ : Option Addr) (_ : Nat) => [(0, .pointer (some ⟨p, 0, none⟩)), (8, .pointer (some ⟨b8, 0, none⟩)), (9, .pointer (some ⟨b9, 0, none⟩)), (10, .int .i64 (s : Int)), (16, .int .i64 (2 * g)), (17, .int .i64 (j : Int))])
   (fun j R b d w' => (j ≤ s ∧ R.length = j ∧ ∀ t, t ∈ seqsOf R → sqOk g t) ∧ Hp w0 w' (rCur p a n c :: rB b9 28 [.int .i64 I, .slice b R.length d, .slice aa A.length ac, .slice none 0 0] :: rO 91 3 eSq b d R :: rIns R :: rO 79 2 eII aa ac A :: rB b8 28 (cellsV Try.ti28.zero) :: L)) (fun j _ _ _ => s - j) 0 [] none 0 (by rw [hg]; rfl)
   ⟨⟨by omega, rfl, fun t ht => by cases ht⟩, hp⟩ ?_
  clear hp
  rintro j R b d w2 ⟨⟨hj, hR2, hRl⟩, hp⟩ IH C
  refine h_run rfl ?_; skip
  refine h_cond_dec (fun hlt2 => ?_) (fun hlt2 => ?_)
  ·have hlt2' : j < s := by omega
   refine h_cond_t rfl rfl ?_; skip
   refine h_call rfl Try.func112 (by kernel_rfl) rfl (l01Once_h hR hn hp 6) ?_; rintro _ w ⟨bb, rfl, hp⟩; refine ops_run nopre rfl ?_; skip
   cases bb
   ·refine h_cond_f rfl rfl ?_; skip
    refine N_draw hp (by kernel_rfl) (by kernel_rfl) rfl rfl ?_; (repeat (refine N_ldB rfl rfl rfl ?_))
    refine N_call Try.func42 (by kernel_rfl) rfl (fun F w hp => ?_); refine Ret.mono (l01Below_F hR hn hp 2) ?_; rintro _ w ⟨q1, ⟨rfl, _, hq1⟩, hp⟩; refine ⟨fun _ => hp.pre, _, hp, ?_⟩; clear hp; refine N_ops rfl rfl ?_; skip
    have hq1 := hq1 (by decide)
    refine N_call Try.func42 (by kernel_rfl) rfl (fun F w hp => ?_); refine Ret.mono (l01Below_F hR hn hp (min (2 * g) 12)) ?_; rintro _ w ⟨q2, ⟨rfl, _, hq2⟩, hp⟩; refine ⟨fun _ => hp.pre, _, hp, ?_⟩; clear hp; refine N_ops rfl rfl ?_; (repeat (refine N_litI rfl rfl rfl rfl rfl rfl rfl rfl rfl rfl ?_; intro _; refine N_ops rfl rfl ?_))
    have hq2 := hq2 (by omega)
    rename_i b30
    refine N_lit eSq [⟨0, q1, [2 * g - 1 - q2], some ⟨b30, 0, none⟩, 1⟩] rfl rfl rfl rfl (s := 3) rfl (by decide) (by infer_instance) (by rfl) (by rfl) (by rfl) (by decide) ?_; intro b31; refine N_ops rfl rfl ?_; skip
    refine N_append rfl rfl rfl rfl rfl rfl rfl (by decide) rfl (by first | omega | (simp only [List.length_append, List.length_cons, List.length_nil, List.length_take, List.length_drop, List.length_set, List.length_replicate, List.length_map]; omega)) rfl rfl (fun hq => Bool.noConfusion (hq.symm.trans (by kernel_rfl : flagAt _ _ = false))) ?_; intro b' d' hnil; refine N_ops rfl rfl ?_; (repeat (refine N_stB rfl rfl rfl rfl (by kernel_rfl) ?_; refine N_ops rfl rfl ?_))
    refine N_end ?_; intro w hp C; refine h_run rfl ?_; skip
    have hp := rIns_add (y := SeqA.mk 0 q1 [2 * g - 1 - q2] (some ⟨b30, 0, none⟩) 1) (hp.f5.f2)
    have hp := (hp.f1.drop).f3.f3.f3
    refine IH (j + 1) (R ++ [SeqA.mk 0 q1 [2 * g - 1 - q2] (some ⟨b30, 0, none⟩) 1]) b' d' _ _ _ (by omega) rfl ⟨⟨by omega, by simp; omega, ?_⟩, hp⟩
    rw [seqsOf_snoc]
    refine snoc_all hRl ⟨.inl ⟨rfl, ?_, rfl⟩, fun l hl => ?_⟩
    ·show 0 ≤ q1 ∧ q1 ≤ 1
     omega
    ·have hl : l ∈ [2 * g - 1 - q2] := hl
     simp only [List.mem_singleton] at hl
     subst hl
     unfold litP
     omega
   ·refine h_cond_t rfl rfl ?_; skip
    refine N_draw hp (by kernel_rfl) (by kernel_rfl) rfl rfl ?_; (repeat (refine N_ldB rfl rfl rfl ?_))
    refine N_call Try.func42 (by kernel_rfl) rfl (fun F w hp => ?_); refine Ret.mono (l01Below_F hR hn hp 32) ?_; rintro _ w ⟨q1, ⟨rfl, _, hq1⟩, hp⟩; refine ⟨fun _ => hp.pre, _, hp, ?_⟩; clear hp; refine N_ops rfl rfl ?_; skip
    have hq1 := hq1 (by decide)
    refine N_call Try.func42 (by kernel_rfl) rfl (fun F w hp => ?_); refine Ret.mono (l01Below_F hR hn hp (2 * g)) ?_; rintro _ w ⟨q2, ⟨rfl, _, hq2⟩, hp⟩; refine ⟨fun _ => hp.pre, _, hp, ?_⟩; clear hp; refine N_ops rfl rfl ?_; skip
    have hq2 := hq2 (by omega)
    refine N_call Try.func42 (by kernel_rfl) rfl (fun F w hp => ?_); refine Ret.mono (l01Below_F hR hn hp (2 * g)) ?_; rintro _ w ⟨q3, ⟨rfl, _, hq3⟩, hp⟩; refine ⟨fun _ => hp.pre, _, hp, ?_⟩; clear hp; refine N_ops rfl rfl ?_; skip
    have hq3 := hq3 (by omega)
    refine N_call Try.func42 (by kernel_rfl) rfl (fun F w hp => ?_); refine Ret.mono (l01Below_F hR hn hp (2 * g)) ?_; rintro _ w ⟨q4, ⟨rfl, _, hq4⟩, hp⟩; refine ⟨fun _ => hp.pre, _, hp, ?_⟩; clear hp; refine N_ops rfl rfl ?_; skip
    have hq4 := hq4 (by omega)
    refine N_call Try.func42 (by kernel_rfl) rfl (fun F w hp => ?_); refine Ret.mono (l01Below_F hR hn hp (2 * g)) ?_; rintro _ w ⟨q5, ⟨rfl, _, hq5⟩, hp⟩; refine ⟨fun _ => hp.pre, _, hp, ?_⟩; clear hp; refine N_ops rfl rfl ?_; (repeat (refine N_litI rfl rfl rfl rfl rfl rfl rfl rfl rfl rfl ?_; intro _; refine N_ops rfl rfl ?_))
    have hq5 := hq5 (by omega)
    rename_i b30
    refine N_lit eSq [⟨1, q1, [q2, q3, q4, q5], some ⟨b30, 0, none⟩, 4⟩] rfl rfl rfl rfl (s := 3) rfl (by decide) (by infer_instance) (by rfl) (by rfl) (by rfl) (by decide) ?_; intro b31; refine N_ops rfl rfl ?_; skip
    refine N_append rfl rfl rfl rfl rfl rfl rfl (by decide) rfl (by first | omega | (simp only [List.length_append, List.length_cons, List.length_nil, List.length_take, List.length_drop, List.length_set, List.length_replicate, List.length_map]; omega)) rfl rfl (fun hq => Bool.noConfusion (hq.symm.trans (by kernel_rfl : flagAt _ _ = false))) ?_; intro b' d' hnil; refine N_ops rfl rfl ?_; (repeat (refine N_stB rfl rfl rfl rfl (by kernel_rfl) ?_; refine N_ops rfl rfl ?_))
    refine N_end ?_; intro w hp C; refine h_run rfl ?_; skip
    have hp := rIns_add (y := SeqA.mk 1 q1 [q2, q3, q4, q5] (some ⟨b30, 0, none⟩) 4) (hp.f5.f2)
    have hp := (hp.f1.drop).f3.f3.f3
    refine IH (j + 1) (R ++ [SeqA.mk 1 q1 [q2, q3, q4, q5] (some ⟨b30, 0, none⟩) 4]) b' d' _ _ _ (by omega) rfl ⟨⟨by omega, by simp; omega, ?_⟩, hp⟩
    rw [seqsOf_snoc]
    refine snoc_all hRl ⟨.inr ⟨rfl, ?_, rfl⟩, fun l hl => ?_⟩
    ·show 0 ≤ q1 ∧ q1 ≤ 31
     omega
    ·have hl : l ∈ [q2, q3, q4, q5] := hl
     simp only [List.mem_cons, List.mem_nil_iff, or_false] at hl
     unfold litP
     rcases hl with rfl | rfl | rfl | rfl <;> omega
  ·obtain rfl : j = s := by omega
   clear IH
   refine h_cond_f rfl rfl ?_; skip
   refine h_call rfl Try.func42 (by kernel_rfl) rfl (l01Below_h hR hn hp 4) ?_; rintro _ w ⟨k0, ⟨rfl, _, hk0⟩, hp⟩; refine ops_run nopre rfl ?_; skip
   have hk0 := hk0 (by decide)
   have hp : Hp w0 _ (rO 3 1 eI none 0 ([] : List Int) :: _) := hp.ownN (Ext.refl _) (Own.nil _ _ _ _ _)
   refine h_loop4 [0, 8, 9, 16, 18] (fun (k : Int) (_ : List Int) (_ : Option Addr) (_ : Nat) => [(0, .pointer (some ⟨p, 0, none⟩)), (8, .pointer (some ⟨b8, 0, none⟩)), (9, .pointer (some ⟨b9, 0, none⟩)), (16, .int .i64 (2 * g)), (18, .int .i64 k)])
    (fun k O oa oc w' => (-1 ≤ k ∧ k + O.length ≤ 3 ∧ ∀ l, l ∈ O → litP l g) ∧ Hp w0 w' (rO 3 1 eI oa oc O :: rCur p a n c :: rB b9 28 [.int .i64 I, .slice b R.length d, .slice aa A.length ac, .slice oa O.length oc] :: rO 91 3 eSq b d R :: rIns R :: rO 79 2 eII aa ac A :: rB b8 28 (cellsV Try.ti28.zero) :: L)) (fun k _ _ _ => (k + 1).toNat) k0 [] none 0 rfl
    ⟨⟨by omega, by simp; omega, fun l hl => by cases hl⟩, hp⟩ ?_
   clear hp
   rintro k O oa oc w3 ⟨⟨hk, hO, hOl⟩, hp⟩ IH C
   refine h_run rfl ?_; skip
   refine h_cond_dec (fun hge => ?_) (fun hge => ?_)
   ·refine h_cond_t rfl rfl ?_; skip
    refine N_draw hp (by kernel_rfl) (by kernel_rfl) rfl rfl ?_; (repeat (refine N_ldB rfl rfl rfl ?_))
    refine N_f1 ?_
    refine N_call Try.func42 (by kernel_rfl) rfl (fun F w hp => ?_); refine Ret.mono (l01Below_F hR hn hp (min (2 * g) 12)) ?_; rintro _ w ⟨q2, ⟨rfl, _, hq2⟩, hp⟩; refine ⟨fun _ => Hp.f1 hp.pre, _, hp, ?_⟩; clear hp; refine N_ops rfl rfl ?_; (repeat (refine N_litI rfl rfl rfl rfl rfl rfl rfl rfl rfl rfl ?_; intro _; refine N_ops rfl rfl ?_))
    have hq2 := hq2 (by omega)
    refine N_append rfl rfl rfl rfl rfl rfl rfl (by decide) rfl (by first | omega | (simp only [List.length_append, List.length_cons, List.length_nil, List.length_take, List.length_drop, List.length_set, List.length_replicate, List.length_map]; omega)) rfl rfl (fun hq => Bool.noConfusion (hq.symm.trans (by kernel_rfl : flagAt _ _ = false))) ?_; intro oa' oc' hnil; refine N_ops rfl rfl ?_; (repeat (refine N_stB rfl rfl rfl rfl (by kernel_rfl) ?_; refine N_ops rfl rfl ?_))
    refine N_end ?_; intro w hp C; refine h_run rfl ?_; skip
    refine IH (k - 1) (O ++ [2 * g - 1 - q2]) oa' oc' _ _ _ (by omega) rfl ⟨⟨by omega, by simp; omega, snoc_all hOl ?_⟩, ?_⟩
    ·unfold litP
     omega
    ·exact hp.drop.f1
   ·refine h_cond_f rfl rfl ?_; (repeat (first | (refine gLoad ?_; refine H_ldB hp rfl rfl ?_) | (refine gStore ?_; refine U_stBN hp rfl rfl rfl rfl ?_; intro w hp; refine ops_run nopre rfl ?_) | (refine gRetc ?_; refine R_ret1 hp rfl ?_)))
    have hz : (NetA.mk I R b d A aa ac O oa oc).n = ⟨I, seqsOf R, A, O⟩ := rfl
    have hsl5 : (seqsOf R).length = j := by rw [seqsOf_len]; exact hR2
    refine ⟨NetA.mk I R b d A aa ac O oa oc, ⟨?_, ⟨by show 1 ≤ I; omega, by show ((A.length : Nat) : Int) ≤ ma; omega, by show I ≤ mi; omega, by show ((R.length : Nat) : Int) ≤ ms; omega⟩, rfl⟩, ?_⟩
    ·rw [hz]
     have hnd : nodesL ⟨I, seqsOf R, A, O⟩ = g := by show 1 + I + ((seqsOf R).length : Int) + (A.length : Int) = g; omega
     have hfd : firstAndL ⟨I, seqsOf R, A, O⟩ = f := by show 1 + I + ((seqsOf R).length : Int) = f; omega
     refine .mk' ⟨by dsimp only; omega, by dsimp only; omega, by dsimp only; omega, by dsimp only; omega⟩ (fun t ht => (hRl t ht).1) (fun o ho => by rw [hnd]; exact hOl o ho) (fun t ht l hl => by rw [hnd]; exact (hRl t ht).2 l hl) (fun q hq => by rw [hfd]; exact hAl q hq)
    ·have hp := rNet_shut (x := NetA.mk I R b d A aa ac O oa oc) ((rSq_shut (hp.f4.f4)).f1.f4.f2)
     exact hp.f2.drop.f2.drop
end Go.Proofs
