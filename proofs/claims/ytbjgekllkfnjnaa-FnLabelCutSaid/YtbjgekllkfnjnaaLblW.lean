/- The contract of the program's search for one more unit; under its stated conditions. -/
import Derived.Test.YtbjgekllkfnjnaaLblV
import Derived.Test.YtbjgekllkfnjnaaLblPr4
set_option linter.all false
namespace Go.Xw
theorem subA_ne {a : Option Addr} (ha : a ≠ none) (c s n : Nat) : subA a c s n ≠ none := by
 unfold subA
 cases a with
 | none => exact absurd rfl ha
 | some b => split <;> simp
end Go.Xw
namespace Go.Proofs
open Go.Xw
set_option maxRecDepth 100000
set_option maxHeartbeats 4000000
attribute [local irreducible] Holds elemAddr
theorem visit_q (x y : Nat × Bool) (hdx : dSt x) (bf bt bm : Nat) (FR : Fr) (q : Nat) (hq : q ≤ FR.length) (a : Option Addr) (c : Nat) (ha : a ≠ none) (hl : FR.length ≤ 1000000) (w0 w1 : World) (L : List Res)
  (hp1 : Hp w0 w1 (rMF eSt eSt dSt bm FR :: rQ 108 2 eS2 a c (qOf FR q) :: rB bf 103 [.map (some bm)] :: rB bt 140 [.slice a (qOf FR q).length c] :: L)) :
  Ret Try.prog 140 [eSt x, eSt y, .pointer (some ⟨bf, 0, none⟩), .pointer (some ⟨bt, 0, none⟩)] w1 (fun v w' => ∃ a' c', v = .tuple ⟨[]⟩ ∧ a' ≠ none ∧
   Hp w0 w' (rMF eSt eSt dSt bm (visL FR x y) :: rQ 108 2 eS2 a' c' (qOf (visL FR x y) q) :: rB bf 103 [.map (some bm)] :: rB bt 140 [.slice a' (qOf (visL FR x y) q).length c'] :: L)) := by
 have hql := qOf_len FR q
 refine Ret.mono (visit_h x y hdx bf bt bm FR a c (qOf FR q) ha (by omega) w0 w1 L hp1) ?_
 rintro v w' ⟨FR', X', a', c', hv, ha', hc, hp⟩
 have e : FR' = visL FR x y ∧ X' = qOf (visL FR x y) q := by
  unfold visL
  rcases hc with ⟨h1, rfl, rfl⟩ | ⟨h1, rfl, rfl⟩
  ·rw [if_neg h1]; exact ⟨rfl, rfl⟩
  ·rw [if_pos h1]; exact ⟨rfl, (qOf_add hq x y).symm⟩
 obtain ⟨rfl, rfl⟩ := e
 exact ⟨a', c', hv, ha', hp⟩
theorem search_h (x : NetA) (w0 : World) (hX : NetR w0 x) (hok : NetOkP x.n) (k0 : Nat) (hk2 : k0 < nds x.n) (Lb : List Int) (h : Int) (B F : List Bool) (I : List Int) (E : Nat × Nat → Int) (f : Flo) (hF : FlwP x.n k0 Lb h B F I E f) (bF be : Nat) (ca fa ia : Option Addr) (cc fc ic : Nat) (w1 : World) (L : List Res)
  (hp1 : Hp w0 w1 (rB bF 101 [.int .i64 x.inputs, .slice x.sa x.seqs.length x.sc, .slice x.aa x.ands.length x.ac, .slice x.oa x.outs.length x.oc, .int .i64 (k0 : Int), .slice ca (nds x.n) cc, .slice fa (nds x.n) fc, .slice ia (nds x.n) ic, .map (some be)] :: rO 4 1 eB ca cc B :: rO 4 1 eB fa fc F :: rO 3 1 eI ia ic I :: rMZ ePr eIV dPr 0 be E :: L)) :
  Ret Try.prog 94 [.pointer (some ⟨bF, 0, none⟩)] w1 (fun v w' => ∃ bm FR u, v = .tuple ⟨[.map (some bm), u]⟩ ∧
   ((u = .pointer none ∧ PSr (lgG x.n k0 Lb h) f k0 FR FR.length ∧ Hp w0 w' (rMF eSt eSt dSt bm FR :: rB bF 101 [.int .i64 x.inputs, .slice x.sa x.seqs.length x.sc, .slice x.aa x.ands.length x.ac, .slice x.oa x.outs.length x.oc, .int .i64 (k0 : Int), .slice ca (nds x.n) cc, .slice fa (nds x.n) fc, .slice ia (nds x.n) ic, .map (some be)] :: rO 4 1 eB ca cc B :: rO 4 1 eB fa fc F :: rO 3 1 eI ia ic I :: rMZ ePr eIV dPr 0 be E :: L)) ∨
    ∃ b8 q l, u = .pointer (some ⟨b8, 0, none⟩) ∧ PSr (lgG x.n k0 Lb h) f k0 FR q ∧ q < FR.length ∧ (FR.getD q default).1 = (l, false) ∧ (0 < l ∧ l < fst_ x.n) ∧ Hp w0 w' (rMF eSt eSt dSt bm FR :: rB b8 108 [.int .i64 (l : Int), .bool false] :: rB bF 101 [.int .i64 x.inputs, .slice x.sa x.seqs.length x.sc, .slice x.aa x.ands.length x.ac, .slice x.oa x.outs.length x.oc, .int .i64 (k0 : Int), .slice ca (nds x.n) cc, .slice fa (nds x.n) fc, .slice ia (nds x.n) ic, .map (some be)] :: rO 4 1 eB ca cc B :: rO 4 1 eB fa fc F :: rO 3 1 eI ia ic I :: rMZ ePr eIV dPr 0 be E :: L))) := by
 have hn := hok.nums
 obtain ⟨n1, n2, n3, n4, n5, n6⟩ := hn
 have hn := hok.nums
 have hnd := hok.nodes
 have hsz := hok.size'
 have hBl := hF.cl
 have hFl := hF.fl
 have hIl := hF.rep.len
 have hk0d : dSt (k0, true) := show k0 < 1000000 by omega
 refine enter Try.S94ok _ _ rfl rfl (by show _ ≤ _; simp only [List.length]; decide) (fun C => ?_); have hp := hp1; refine h_run rfl ?_
 skip
 refine H_mkmap hp rfl rfl rfl ?_
 intro w bm hx hp
 have hp := hp.mapNew eSt eSt dSt
 refine ops_run nopre rfl ?_; skip
 (first | refine H_box hp ?_ | refine H_alloc hp rfl ?_); intro w b4 hx hp; refine ops_run nopre rfl ?_; (repeat (first | (refine gLoad ?_; refine H_ldB hp rfl rfl ?_) | (refine gStore ?_; refine U_stB hp rfl rfl rfl rfl ?_; intro w hp; refine ops_run nopre rfl ?_)))
 (first | refine H_box hp ?_ | refine H_alloc hp rfl ?_); intro w b5 hx hp; refine ops_run nopre rfl ?_; (repeat (first | (refine gLoad ?_; refine H_ldB hp rfl rfl ?_) | (refine gStore ?_; refine U_stBN hp rfl rfl rfl rfl ?_; intro w hp; refine ops_run nopre rfl ?_)))
 have hp := hp.f1.f1.f2
 refine H_upd hp step_key hk0d rfl (k0, true) rfl rfl rfl rfl rfl rfl rfl ?_
 intro w hp
 refine ops_run nopre rfl ?_; (repeat (refine H_ldB hp rfl rfl ?_))
 refine H_lit hp eS2 [(k0, true)] rfl rfl rfl rfl (s := 2) rfl (by decide) (by infer_instance) (by rfl) (by rfl) (by rfl) (by decide) ?_; intro w b22 hx hp; refine ops_run nopre rfl ?_; skip
 (first | refine H_box hp ?_ | refine H_alloc hp rfl ?_); intro w b6 hx hp; refine ops_run nopre rfl ?_; (repeat (refine U_stB hp rfl rfl rfl rfl ?_; intro w hp; refine ops_run nopre rfl ?_))
 have hp := (hp.f2.f2.f2.f3).drop
 have hp := ((hp.f1).toQ).f1.f3.f2.f3
 refine h_loop4 [0, 4, 6, 7] (fun (_ : Fr) (_ : Nat) (_ : Option Addr) (_ : Nat) => [(0, .pointer (some ⟨bF, 0, none⟩)), (4, .pointer (some ⟨b4, 0, none⟩)), (6, .pointer (some ⟨b6, 0, none⟩)), (7, .func (.func 140) ⟨[]⟩ ⟨[.pointer (some ⟨b4, 0, none⟩), .pointer (some ⟨b6, 0, none⟩)]⟩)])
  (fun FR q a c w' => (PSr (lgG x.n k0 Lb h) f k0 FR q ∧ a ≠ none) ∧ Hp w0 w' (rMF eSt eSt dSt bm FR :: rQ 108 2 eS2 a c (qOf FR q) :: rB b4 103 [.map (some bm)] :: rB b6 140 [.slice a (qOf FR q).length c] :: rB bF 101 [.int .i64 x.inputs, .slice x.sa x.seqs.length x.sc, .slice x.aa x.ands.length x.ac, .slice x.oa x.outs.length x.oc, .int .i64 (k0 : Int), .slice ca (nds x.n) cc, .slice fa (nds x.n) fc, .slice ia (nds x.n) ic, .map (some be)] :: rO 4 1 eB ca cc B :: rO 4 1 eB fa fc F :: rO 3 1 eI ia ic I :: rMZ ePr eIV dPr 0 be E :: L)) (fun _ q _ _ => 2 * nds x.n + 1 - q) [((k0, true), (k0, true))] 0 (some ⟨b22, 0, none⟩) 1 rfl ⟨⟨PSr.start hk2, by simp⟩, hp⟩ ?_
 clear hp
 rintro FR q a c w1 ⟨⟨hP, ha⟩, hp⟩ IH C
 have hPl : FR.length ≤ 2 * nds x.n := hP.len
 have hql := qOf_len FR q
 have hqle := hP.qle
 by_cases hq : q < FR.length
 ·have hqc := qOf_cons hq
  obtain ⟨⟨k, out⟩, hkd⟩ : ∃ z, z = (FR.getD q default).1 := ⟨_, rfl⟩
  have hA : AtQ (lgG x.n k0 Lb h) f k0 FR q (k, out) := ⟨hP, hq, hkd.symm⟩
  have hkN : k < nds x.n := by
   have := hP.dom (FR[q]) (List.getElem_mem hq)
   rw [List.getD_eq_getElem?_getD, List.getElem?_eq_getElem hq] at hkd
   have hkd : (k, out) = (FR[q]).1 := hkd
   rw [← hkd] at this
   exact this
  have hgk := hF.rep.g k hkN
  have hfk := hF.free k hkN
  rw [← hkd] at hqc
  rw [hqc] at hp hql
  refine h_run rfl ?_; (repeat (refine H_ldB hp rfl rfl ?_))
  refine h_cond_dec (fun _ => ?_) (fun hg => False.elim (by omega))
  refine h_cond_t rfl rfl ?_
  refine H_ldB hp rfl rfl ?_
  refine H_ldE (v := .agg ⟨[.int .i64 (k : Int), .bool out]⟩) hp rfl (by omega) (by simp only [List.length_cons]; omega) rfl rfl ?_
  (first | refine H_box hp ?_ | refine H_alloc hp rfl ?_); intro w b8 hx hp; refine ops_run nopre rfl ?_; (repeat (first | (refine gLoad ?_; refine H_ldB hp rfl rfl ?_) | (refine gStore ?_; (first | refine U_stB hp rfl rfl rfl rfl ?_ | refine U_stBN hp rfl rfl rfl rfl ?_); intro w hp; refine ops_run nopre rfl ?_)))
  have hp := ((hp.f1.f1.f2).tailQ (eS2_ok.len _)).f1.f4.f4.f3.f4
  have hg1 := hqc
  cases out with
  | true =>
   refine h_cond_t rfl rfl ?_; (repeat (refine gLoad ?_; first | refine H_ldB hp rfl rfl ?_ | refine H_ldEN hp rfl (by omega) rfl rfl ?_))
   refine h_guard_by (fun h1 => ?_) (fun h1 => ?_); all_goals (rw [h1]; (first | replace h1 := of_decide_eq_true h1 | replace h1 := of_decide_eq_false h1 | skip); (repeat (first | (refine gGuard ?_; first | refine h_guard_y rfl nopre rfl ?_ | refine h_guard_n rfl nopre rfl ?_) | (refine gLoad ?_; first | refine H_ldB hp rfl rfl ?_ | refine H_ldEN hp rfl (by omega) rfl rfl ?_))))
   ·have hfk := hfk.1 h1
    obtain ⟨hA2, hk3⟩ := hA.visit (s := (k, false)) hkN (out_thru hA (.inl hfk))
    refine h_cond_t rfl rfl ?_; (repeat (refine H_ldB hp rfl rfl ?_))
    refine h_call rfl Try.func140 (by kernel_rfl) rfl (visit_q (k, false) (k, true) (show k < 1000000 by omega) b4 b6 bm FR (q + 1) (by omega) _ _ (subA_ne ha _ _ _) (by omega) _ _ _ hp) ?_; rintro _ w ⟨a2, c2, rfl, ha2, hp⟩; refine ops_run nopre rfl ?_; (repeat (refine H_ldB hp rfl rfl ?_))
    have hA := hA2
    have ha := ha2
    have hth : lgFree x.n k0 Lb h k ∨ f.g k = 0 → KeyIn _ (k, false) := fun _ => hk3
    clear hg1
    refine h_loop4 [0, 4, 6, 7, 8, 9, 63, 64] (fun (p : Nat) (_ : Fr) (_ : Option Addr) (_ : Nat) => [(0, .pointer (some ⟨bF, 0, none⟩)), (4, .pointer (some ⟨b4, 0, none⟩)), (6, .pointer (some ⟨b6, 0, none⟩)), (7, .func (.func 140) ⟨[]⟩ ⟨[.pointer (some ⟨b4, 0, none⟩), .pointer (some ⟨b6, 0, none⟩)]⟩), (8, .pointer (some ⟨b8, 0, none⟩)), (9, .int .i64 (k : Int)), (63, .int .i64 (nds x.n : Int)), (64, .int .i64 (p : Int))])
     (fun p FR a c w' => (p ≤ nds x.n ∧ AtQ (lgG x.n k0 Lb h) f k0 FR q (k, true) ∧ (lgFree x.n k0 Lb h k ∨ f.g k = 0 → KeyIn FR (k, false)) ∧ (∀ p', p' < p → 0 < f.e p' k → KeyIn FR (p', false)) ∧ a ≠ none) ∧ Hp w0 w' (rMF eSt eSt dSt bm FR :: rQ 108 2 eS2 a c (qOf FR (q + 1)) :: rB b4 103 [.map (some bm)] :: rB b6 140 [.slice a (qOf FR (q + 1)).length c] :: rB b8 108 [.int .i64 (k : Int), .bool true] :: rB bF 101 [.int .i64 x.inputs, .slice x.sa x.seqs.length x.sc, .slice x.aa x.ands.length x.ac, .slice x.oa x.outs.length x.oc, .int .i64 (k0 : Int), .slice ca (nds x.n) cc, .slice fa (nds x.n) fc, .slice ia (nds x.n) ic, .map (some be)] :: rO 4 1 eB ca cc B :: rO 4 1 eB fa fc F :: rO 3 1 eI ia ic I :: rMZ ePr eIV dPr 0 be E :: L))
     (fun p _ _ _ => nds x.n - p) 0 _ _ _ rfl ⟨⟨by omega, hA, hth, fun p' hp' => by omega, ha⟩, hp⟩ ?_
    clear hp hA hth ha
    rintro p FR a c w1 ⟨⟨hpl, hA, hth, hu, ha⟩, hp⟩ IH2 C
    have hAl : FR.length ≤ 2 * nds x.n := hA.sr.len
    have hAq := hA.lt
    refine h_run rfl ?_; skip
    refine h_cond_dec (fun hlt2 => ?_) (fun hlt2 => ?_)
    ·have hE := hF.rep.e k p
     refine h_cond_t rfl rfl ?_; (repeat (refine H_ldB hp rfl rfl ?_))
     refine H_lookZ (e := E) (x := (k, p)) hp pair_key ⟨by show k < 1000000; omega, by show p < 1000000; omega⟩ rfl rfl rfl rfl rfl rfl rfl rfl rfl ?_
     refine ops_run nopre rfl ?_; skip
     refine h_cond_dec (fun hE2 => ?_) (fun hE2 => ?_)
     ·have hpos : 0 < f.e p k := by omega
      obtain ⟨hA2, hk3⟩ := hA.visit (s := (p, false)) (show p < nds x.n by omega) (out_undo hF.fp hpos)
      refine h_cond_t rfl rfl ?_; (repeat (refine H_ldB hp rfl rfl ?_))
      refine h_call rfl Try.func140 (by kernel_rfl) rfl (visit_q (p, false) (k, true) (show p < 1000000 by omega) b4 b6 bm FR (q + 1) (by omega) a c ha (by omega) _ _ _ hp) ?_; rintro _ w ⟨a2, c2, rfl, ha2, hp⟩; refine ops_run nopre rfl ?_; skip
      refine IH2 (p + 1) _ a2 c2 _ _ _ (by omega) rfl ⟨⟨by omega, hA2, fun hh => (hth hh).vis _ _, fun p' hp' he => ?_, ha2⟩, hp⟩
      by_cases hpp : p' = p
      ·subst hpp; exact hk3
      ·exact (hu p' (by omega) he).vis _ _
     ·refine h_cond_f rfl rfl ?_; skip
      refine IH2 (p + 1) FR a c _ _ _ (by omega) rfl ⟨⟨by omega, hA, hth, fun p' hp' he => ?_, ha⟩, hp⟩
      by_cases hpp : p' = p
      ·subst hpp; omega
      ·exact hu p' (by omega) he
    ·refine h_cond_f rfl rfl ?_; skip
     refine IH FR (q + 1) a c _ _ _ (by show _ < _; omega) rfl ⟨⟨out_round hn hF.fp hA hth fun p hp' he => hu p (by omega) he, ha⟩, (hp.f3.f3.f3.f3.f4).drop⟩
   ·have hnf : ¬ lgFree x.n k0 Lb h k := fun hh => by rw [hfk.2 hh] at h1; cases h1
    refine h_cond_dec (fun h2 => ?_) (fun h2 => ?_)
    ·have h0 : f.g k = 0 := by omega
     obtain ⟨hA2, hk3⟩ := hA.visit (s := (k, false)) hkN (out_thru hA (.inr h0))
     refine h_cond_t rfl rfl ?_; (repeat (refine H_ldB hp rfl rfl ?_))
     refine h_call rfl Try.func140 (by kernel_rfl) rfl (visit_q (k, false) (k, true) (show k < 1000000 by omega) b4 b6 bm FR (q + 1) (by omega) _ _ (subA_ne ha _ _ _) (by omega) _ _ _ hp) ?_; rintro _ w ⟨a2, c2, rfl, ha2, hp⟩; refine ops_run nopre rfl ?_; (repeat (refine H_ldB hp rfl rfl ?_))
     have hA := hA2
     have ha := ha2
     have hth : lgFree x.n k0 Lb h k ∨ f.g k = 0 → KeyIn _ (k, false) := fun _ => hk3
     clear hg1
     refine h_loop4 [0, 4, 6, 7, 8, 9, 63, 64] (fun (p : Nat) (_ : Fr) (_ : Option Addr) (_ : Nat) => [(0, .pointer (some ⟨bF, 0, none⟩)), (4, .pointer (some ⟨b4, 0, none⟩)), (6, .pointer (some ⟨b6, 0, none⟩)), (7, .func (.func 140) ⟨[]⟩ ⟨[.pointer (some ⟨b4, 0, none⟩), .pointer (some ⟨b6, 0, none⟩)]⟩), (8, .pointer (some ⟨b8, 0, none⟩)), (9, .int .i64 (k : Int)), (63, .int .i64 (nds x.n : Int)), (64, .int .i64 (p : Int))])
      (fun p FR a c w' => (p ≤ nds x.n ∧ AtQ (lgG x.n k0 Lb h) f k0 FR q (k, true) ∧ (lgFree x.n k0 Lb h k ∨ f.g k = 0 → KeyIn FR (k, false)) ∧ (∀ p', p' < p → 0 < f.e p' k → KeyIn FR (p', false)) ∧ a ≠ none) ∧ Hp w0 w' (rMF eSt eSt dSt bm FR :: rQ 108 2 eS2 a c (qOf FR (q + 1)) :: rB b4 103 [.map (some bm)] :: rB b6 140 [.slice a (qOf FR (q + 1)).length c] :: rB b8 108 [.int .i64 (k : Int), .bool true] :: rB bF 101 [.int .i64 x.inputs, .slice x.sa x.seqs.length x.sc, .slice x.aa x.ands.length x.ac, .slice x.oa x.outs.length x.oc, .int .i64 (k0 : Int), .slice ca (nds x.n) cc, .slice fa (nds x.n) fc, .slice ia (nds x.n) ic, .map (some be)] :: rO 4 1 eB ca cc B :: rO 4 1 eB fa fc F :: rO 3 1 eI ia ic I :: rMZ ePr eIV dPr 0 be E :: L))
      (fun p _ _ _ => nds x.n - p) 0 _ _ _ rfl ⟨⟨by omega, hA, hth, fun p' hp' => by omega, ha⟩, hp⟩ ?_
     clear hp hA hth ha
     rintro p FR a c w1 ⟨⟨hpl, hA, hth, hu, ha⟩, hp⟩ IH2 C
     have hAl : FR.length ≤ 2 * nds x.n := hA.sr.len
     have hAq := hA.lt
     refine h_run rfl ?_; skip
     refine h_cond_dec (fun hlt2 => ?_) (fun hlt2 => ?_)
     ·have hE := hF.rep.e k p
      refine h_cond_t rfl rfl ?_; (repeat (refine H_ldB hp rfl rfl ?_))
      refine H_lookZ (e := E) (x := (k, p)) hp pair_key ⟨by show k < 1000000; omega, by show p < 1000000; omega⟩ rfl rfl rfl rfl rfl rfl rfl rfl rfl ?_
      refine ops_run nopre rfl ?_; skip
      refine h_cond_dec (fun hE2 => ?_) (fun hE2 => ?_)
      ·have hpos : 0 < f.e p k := by omega
       obtain ⟨hA2, hk3⟩ := hA.visit (s := (p, false)) (show p < nds x.n by omega) (out_undo hF.fp hpos)
       refine h_cond_t rfl rfl ?_; (repeat (refine H_ldB hp rfl rfl ?_))
       refine h_call rfl Try.func140 (by kernel_rfl) rfl (visit_q (p, false) (k, true) (show p < 1000000 by omega) b4 b6 bm FR (q + 1) (by omega) a c ha (by omega) _ _ _ hp) ?_; rintro _ w ⟨a2, c2, rfl, ha2, hp⟩; refine ops_run nopre rfl ?_; skip
       refine IH2 (p + 1) _ a2 c2 _ _ _ (by omega) rfl ⟨⟨by omega, hA2, fun hh => (hth hh).vis _ _, fun p' hp' he => ?_, ha2⟩, hp⟩
       by_cases hpp : p' = p
       ·subst hpp; exact hk3
       ·exact (hu p' (by omega) he).vis _ _
      ·refine h_cond_f rfl rfl ?_; skip
       refine IH2 (p + 1) FR a c _ _ _ (by omega) rfl ⟨⟨by omega, hA, hth, fun p' hp' he => ?_, ha⟩, hp⟩
       by_cases hpp : p' = p
       ·subst hpp; omega
       ·exact hu p' (by omega) he
     ·refine h_cond_f rfl rfl ?_; skip
      refine IH FR (q + 1) a c _ _ _ (by show _ < _; omega) rfl ⟨⟨out_round hn hF.fp hA hth fun p hp' he => hu p (by omega) he, ha⟩, (hp.f3.f3.f3.f3.f4).drop⟩
    ·refine h_cond_f rfl rfl ?_; (repeat (refine H_ldB hp rfl rfl ?_))
     have ha := subA_ne ha c 2 1
     have hth : lgFree x.n k0 Lb h k ∨ f.g k = 0 → KeyIn FR (k, false) := fun hh => by
      rcases hh with hh | hh
      ·exact absurd hh hnf
      ·omega
     clear hg1
     refine h_loop4 [0, 4, 6, 7, 8, 9, 63, 64] (fun (p : Nat) (_ : Fr) (_ : Option Addr) (_ : Nat) => [(0, .pointer (some ⟨bF, 0, none⟩)), (4, .pointer (some ⟨b4, 0, none⟩)), (6, .pointer (some ⟨b6, 0, none⟩)), (7, .func (.func 140) ⟨[]⟩ ⟨[.pointer (some ⟨b4, 0, none⟩), .pointer (some ⟨b6, 0, none⟩)]⟩), (8, .pointer (some ⟨b8, 0, none⟩)), (9, .int .i64 (k : Int)), (63, .int .i64 (nds x.n : Int)), (64, .int .i64 (p : Int))])
      (fun p FR a c w' => (p ≤ nds x.n ∧ AtQ (lgG x.n k0 Lb h) f k0 FR q (k, true) ∧ (lgFree x.n k0 Lb h k ∨ f.g k = 0 → KeyIn FR (k, false)) ∧ (∀ p', p' < p → 0 < f.e p' k → KeyIn FR (p', false)) ∧ a ≠ none) ∧ Hp w0 w' (rMF eSt eSt dSt bm FR :: rQ 108 2 eS2 a c (qOf FR (q + 1)) :: rB b4 103 [.map (some bm)] :: rB b6 140 [.slice a (qOf FR (q + 1)).length c] :: rB b8 108 [.int .i64 (k : Int), .bool true] :: rB bF 101 [.int .i64 x.inputs, .slice x.sa x.seqs.length x.sc, .slice x.aa x.ands.length x.ac, .slice x.oa x.outs.length x.oc, .int .i64 (k0 : Int), .slice ca (nds x.n) cc, .slice fa (nds x.n) fc, .slice ia (nds x.n) ic, .map (some be)] :: rO 4 1 eB ca cc B :: rO 4 1 eB fa fc F :: rO 3 1 eI ia ic I :: rMZ ePr eIV dPr 0 be E :: L))
      (fun p _ _ _ => nds x.n - p) 0 _ _ _ rfl ⟨⟨by omega, hA, hth, fun p' hp' => by omega, ha⟩, hp⟩ ?_
     clear hp hA hth ha
     rintro p FR a c w1 ⟨⟨hpl, hA, hth, hu, ha⟩, hp⟩ IH2 C
     have hAl : FR.length ≤ 2 * nds x.n := hA.sr.len
     have hAq := hA.lt
     refine h_run rfl ?_; skip
     refine h_cond_dec (fun hlt2 => ?_) (fun hlt2 => ?_)
     ·have hE := hF.rep.e k p
      refine h_cond_t rfl rfl ?_; (repeat (refine H_ldB hp rfl rfl ?_))
      refine H_lookZ (e := E) (x := (k, p)) hp pair_key ⟨by show k < 1000000; omega, by show p < 1000000; omega⟩ rfl rfl rfl rfl rfl rfl rfl rfl rfl ?_
      refine ops_run nopre rfl ?_; skip
      refine h_cond_dec (fun hE2 => ?_) (fun hE2 => ?_)
      ·have hpos : 0 < f.e p k := by omega
       obtain ⟨hA2, hk3⟩ := hA.visit (s := (p, false)) (show p < nds x.n by omega) (out_undo hF.fp hpos)
       refine h_cond_t rfl rfl ?_; (repeat (refine H_ldB hp rfl rfl ?_))
       refine h_call rfl Try.func140 (by kernel_rfl) rfl (visit_q (p, false) (k, true) (show p < 1000000 by omega) b4 b6 bm FR (q + 1) (by omega) a c ha (by omega) _ _ _ hp) ?_; rintro _ w ⟨a2, c2, rfl, ha2, hp⟩; refine ops_run nopre rfl ?_; skip
       refine IH2 (p + 1) _ a2 c2 _ _ _ (by omega) rfl ⟨⟨by omega, hA2, fun hh => (hth hh).vis _ _, fun p' hp' he => ?_, ha2⟩, hp⟩
       by_cases hpp : p' = p
       ·subst hpp; exact hk3
       ·exact (hu p' (by omega) he).vis _ _
      ·refine h_cond_f rfl rfl ?_; skip
       refine IH2 (p + 1) FR a c _ _ _ (by omega) rfl ⟨⟨by omega, hA, hth, fun p' hp' he => ?_, ha⟩, hp⟩
       by_cases hpp : p' = p
       ·subst hpp; omega
       ·exact hu p' (by omega) he
     ·refine h_cond_f rfl rfl ?_; skip
      refine IH FR (q + 1) a c _ _ _ (by show _ < _; omega) rfl ⟨⟨out_round hn hF.fp hA hth fun p hp' he => hu p (by omega) he, ha⟩, (hp.f3.f3.f3.f3.f4).drop⟩
  | false =>
   have hp := hp
   refine h_cond_f rfl rfl ?_; (repeat (refine H_ldB hp rfl rfl ?_))
   refine h_call rfl Try.func141 (by kernel_rfl) rfl (isLeaf_h x k _ hok.b (by omega)) ?_; rintro _ w ⟨rfl, hx⟩; have hp := hp.ext hx; refine ops_run nopre rfl ?_; skip
   by_cases hl : 0 < k ∧ k < fst_ x.n
   ·rw [decide_eq_true (show 0 < k ∧ (k : Int) < firstAndL x.n by omega)]
    refine h_cond_t rfl rfl ?_; (repeat (first | (refine gLoad ?_; refine H_ldB hp rfl rfl ?_) | refine R_ret ?_))
    exact ⟨bm, FR, _, rfl, .inr ⟨b8, q, k, rfl, hP, hq, hkd.symm, hl, (hp.f3.f3.f3).drop.drop.drop⟩⟩
   ·rw [decide_eq_false (show ¬ (0 < k ∧ (k : Int) < firstAndL x.n) by omega)]
    refine h_cond_f rfl rfl ?_; (repeat (refine H_ldB hp rfl rfl ?_))
    refine h_call rfl Try.func92 (by kernel_rfl) rfl (kidsOf_h x k _ hp.net hok hkN) ?_; rintro _ w ⟨kb, kc, rfl, hq⟩; have hx := hq.x; have hp := hp.call1 hq; refine ops_run nopre rfl ?_; skip
    have ha := subA_ne ha c 2 1
    have hp := hp.f5.f5.f5.f5.f5
    have hkl : (kidL x.n k).length ≤ 2 := by unfold kidL; repeat' split <;> simp
    refine h_loop4 [0, 4, 6, 7, 8, 9, 94, 95, 96] (fun (i : Nat) (_ : Fr) (_ : Option Addr) (_ : Nat) => [(0, .pointer (some ⟨bF, 0, none⟩)), (4, .pointer (some ⟨b4, 0, none⟩)), (6, .pointer (some ⟨b6, 0, none⟩)), (7, .func (.func 140) ⟨[]⟩ ⟨[.pointer (some ⟨b4, 0, none⟩), .pointer (some ⟨b6, 0, none⟩)]⟩), (8, .pointer (some ⟨b8, 0, none⟩)), (9, .int .i64 (k : Int)), (94, .slice kb (kidL x.n k).length kc), (95, .int .i64 (kidL x.n k).length), (96, .int .i64 (i : Int))])
     (fun i FR a c w' => (i ≤ (kidL x.n k).length ∧ AtQ (lgG x.n k0 Lb h) f k0 FR q (k, false) ∧ (∀ i', i' < i → KeyIn FR (((kidL x.n k).getD i' default).toNat, true)) ∧ a ≠ none) ∧ Hp w0 w' (rMF eSt eSt dSt bm FR :: rQ 108 2 eS2 a c (qOf FR (q + 1)) :: rB b4 103 [.map (some bm)] :: rB b6 140 [.slice a (qOf FR (q + 1)).length c] :: rB b8 108 [.int .i64 (k : Int), .bool false] :: rO 3 1 eI kb kc (kidL x.n k) :: rB bF 101 [.int .i64 x.inputs, .slice x.sa x.seqs.length x.sc, .slice x.aa x.ands.length x.ac, .slice x.oa x.outs.length x.oc, .int .i64 (k0 : Int), .slice ca (nds x.n) cc, .slice fa (nds x.n) fc, .slice ia (nds x.n) ic, .map (some be)] :: rO 4 1 eB ca cc B :: rO 4 1 eB fa fc F :: rO 3 1 eI ia ic I :: rMZ ePr eIV dPr 0 be E :: L))
     (fun i _ _ _ => (kidL x.n k).length - i) 0 _ _ _ rfl ⟨⟨by omega, hA, fun p' hp' => by omega, ha⟩, hp⟩ ?_
    clear hp hA ha
    rintro i FR a c w1 ⟨⟨hil, hA, hu, ha⟩, hp⟩ IH2 C
    have hAl : FR.length ≤ 2 * nds x.n := hA.sr.len
    have hAq := hA.lt
    refine h_run rfl ?_; skip
    refine h_cond_dec (fun hlt2 => ?_) (fun hlt2 => ?_)
    ·have hi : i < (kidL x.n k).length := by omega
     obtain ⟨cz, _, hcz, _⟩ := kidL_mem hok hkN (getD_mem hi)
     have hcm : ((cz : Nat) : Int) ∈ kidL x.n k := by rw [← hcz]; exact getD_mem hi
     obtain ⟨hcN, hcs⟩ := in_arc hok hF.fp hA hkN hcm
     obtain ⟨hA2, hk3⟩ := hA.visit (s := (cz, true)) hcN hcs
     refine h_cond_t rfl rfl ?_; (repeat (refine gLoad ?_; first | refine H_ldB hp rfl rfl ?_ | refine H_ldEN hp rfl (by omega) rfl rfl ?_))
     rw [hcz]
     refine h_call rfl Try.func140 (by kernel_rfl) rfl (visit_q (cz, true) (k, false) (show cz < 1000000 by omega) b4 b6 bm FR (q + 1) (by omega) a c ha (by omega) _ _ _ hp) ?_; rintro _ w ⟨a2, c2, rfl, ha2, hp⟩; refine ops_run nopre rfl ?_; skip
     refine IH2 (i + 1) _ a2 c2 _ _ _ (by omega) rfl ⟨⟨by omega, hA2, fun i' hi' => ?_, ha2⟩, hp⟩
     by_cases hpp : i' = i
     ·subst hpp; rw [hcz]; exact hk3
     ·exact (hu i' (by omega)).vis _ _
    ·have hall : ∀ c, ((c : Nat) : Int) ∈ kidL x.n k → KeyIn FR (c, true) := fun cz hcz => by
      obtain ⟨i', hi', he⟩ := List.getElem_of_mem hcz
      have := hu i' (by omega)
      rw [List.getD_eq_getElem?_getD, List.getElem?_eq_getElem hi', Option.getD_some, he, Int.toNat_natCast] at this
      exact this
     clear IH2
     have hAk := hA
     refine h_cond_f rfl rfl ?_; (repeat (refine gLoad ?_; first | refine H_ldB hp rfl rfl ?_ | refine H_ldEN hp rfl (by omega) rfl rfl ?_))
     by_cases hpos : 0 < f.g k
     ·have hI : 0 < I.getD k default := by omega
      refine h_guard_by (fun h4 => ?_) (fun h4 => ?_); all_goals (rw [h4]; (first | replace h4 := of_decide_eq_true h4 | replace h4 := of_decide_eq_false h4 | skip); (repeat (first | (refine gGuard ?_; first | refine h_guard_y rfl nopre rfl ?_ | refine h_guard_n rfl nopre rfl ?_) | (refine gLoad ?_; first | refine H_ldB hp rfl rfl ?_ | refine H_ldEN hp rfl (by omega) rfl rfl ?_))))
      ·refine h_guard_by (fun h5 => ?_) (fun h5 => ?_); all_goals (rw [h5]; (first | replace h5 := of_decide_eq_true h5 | replace h5 := of_decide_eq_false h5 | skip); (repeat (first | (refine gGuard ?_; first | refine h_guard_y rfl nopre rfl ?_ | refine h_guard_n rfl nopre rfl ?_) | (refine gLoad ?_; first | refine H_ldB hp rfl rfl ?_ | refine H_ldEN hp rfl (by omega) rfl rfl ?_))))
       ·refine h_cond_t rfl rfl ?_; (repeat (refine H_ldB hp rfl rfl ?_))
        obtain ⟨hA2, hk3⟩ := hAk.visit (s := (k, true)) hkN (in_rev hpos)
        refine h_call rfl Try.func140 (by kernel_rfl) rfl (visit_q (k, true) (k, false) (show k < 1000000 by omega) b4 b6 bm FR (q + 1) (by omega) a c ha (by omega) _ _ _ hp) ?_; rintro _ w ⟨a2, c2, rfl, ha2, hp⟩; refine ops_run nopre rfl ?_; skip
        refine IH _ (q + 1) a2 c2 _ _ _ (by show _ < _; omega) rfl ⟨⟨in_round hok hA2 hl (fun c hc => (hall c hc).vis _ _) (fun _ => hk3), ha2⟩, (hp.f3.f3.f3.f3.f5.f5).drop.drop⟩
       ·exact absurd hI h5
      ·refine h_cond_dec (fun _ => ?_) (fun hg => False.elim (by omega)); refine h_cond_t rfl rfl ?_; (repeat (refine H_ldB hp rfl rfl ?_))
       obtain ⟨hA2, hk3⟩ := hAk.visit (s := (k, true)) hkN (in_rev hpos)
       refine h_call rfl Try.func140 (by kernel_rfl) rfl (visit_q (k, true) (k, false) (show k < 1000000 by omega) b4 b6 bm FR (q + 1) (by omega) a c ha (by omega) _ _ _ hp) ?_; rintro _ w ⟨a2, c2, rfl, ha2, hp⟩; refine ops_run nopre rfl ?_; skip
       refine IH _ (q + 1) a2 c2 _ _ _ (by show _ < _; omega) rfl ⟨⟨in_round hok hA2 hl (fun c hc => (hall c hc).vis _ _) (fun _ => hk3), ha2⟩, (hp.f3.f3.f3.f3.f5.f5).drop.drop⟩
     ·have hnp := hpos
      have hI : ¬ 0 < I.getD k default := by omega
      refine h_guard_by (fun h4 => ?_) (fun h4 => ?_); all_goals (rw [h4]; (first | replace h4 := of_decide_eq_true h4 | replace h4 := of_decide_eq_false h4 | skip); (repeat (first | (refine gGuard ?_; first | refine h_guard_y rfl nopre rfl ?_ | refine h_guard_n rfl nopre rfl ?_) | (refine gLoad ?_; first | refine H_ldB hp rfl rfl ?_ | refine H_ldEN hp rfl (by omega) rfl rfl ?_))))
      ·refine h_guard_by (fun h5 => ?_) (fun h5 => ?_); all_goals (rw [h5]; (first | replace h5 := of_decide_eq_true h5 | replace h5 := of_decide_eq_false h5 | skip); (repeat (first | (refine gGuard ?_; first | refine h_guard_y rfl nopre rfl ?_ | refine h_guard_n rfl nopre rfl ?_) | (refine gLoad ?_; first | refine H_ldB hp rfl rfl ?_ | refine H_ldEN hp rfl (by omega) rfl rfl ?_))))
       ·exact absurd h5 hI
       ·refine h_cond_dec (fun hg => False.elim (by omega)) (fun _ => ?_); refine h_cond_f rfl rfl ?_; skip
        refine IH FR (q + 1) a c _ _ _ (by show _ < _; omega) rfl ⟨⟨in_round hok hAk hl hall (fun hh => absurd hh hnp), ha⟩, (hp.f3.f3.f3.f3.f5.f5).drop.drop⟩
      ·refine h_cond_dec (fun hg => False.elim (by omega)) (fun _ => ?_); refine h_cond_f rfl rfl ?_; skip
       refine IH FR (q + 1) a c _ _ _ (by show _ < _; omega) rfl ⟨⟨in_round hok hAk hl hall (fun hh => absurd hh hnp), ha⟩, (hp.f3.f3.f3.f3.f5.f5).drop.drop⟩
 ·refine h_run rfl ?_; (repeat (refine H_ldB hp rfl rfl ?_))
  refine h_cond_dec (fun hg => False.elim (by omega)) (fun _ => ?_); refine h_cond_f rfl rfl ?_; (repeat (first | (refine gLoad ?_; refine H_ldB hp rfl rfl ?_) | refine R_ret ?_))
  obtain rfl : q = FR.length := by omega
  exact ⟨bm, FR, _, rfl, .inl ⟨rfl, hP, (hp.f3.f3.f3).drop.drop.drop⟩⟩
end Go.Proofs
