/- The contracts of the functions that map literals and build nets anew; each under its stated conditions. -/
import Derived.Test.YtiepmliokblkjaaGreatAdd
import Derived.Test.YtiepmliokblkjaaGreatMapLaw
set_option linter.all false
namespace Go.Proofs
open Go.Xw
set_option maxRecDepth 100000
set_option maxHeartbeats 1000000
attribute [local irreducible] Holds elemAddr
theorem mapLit_h (a : Option Addr) (c : Nat) (V : List Int) (m : Nat) (hm : V.length = m) (l : Int) (w0 : World) (hR : Rd w0 a 1 eI V) (h0 : 0 ≤ l) (h1 : l / 2 < m) (hb : m ≤ 1000000000) :
  Ret Tryz.prog 107 [.slice a m c, .int .i64 l] w0 (fun v w => v = .int .i64 (litV V l) ∧ Ext w0 w) := by
 subst hm
 refine enter Tryz.S107ok _ _ rfl rfl (by show _ ≤ _; simp only [List.length]; decide) (fun C => ?_); have hp := Hp.nil w0; refine h_run rfl ?_; (repeat (first | (refine gLoad ?_; refine H_ldE hp rfl (by omega) (by omega) rfl rfl ?_) | refine R_ret ?_))
 exact ⟨rfl, hp.x⟩
theorem mapLits_h (a b : Option Addr) (c d : Nat) (to lits : List Int) (m n : Nat) (hm : to.length = m) (hn : lits.length = n) (w0 : World) (hR : Rd w0 a 1 eI to) (hQ : Rd w0 b 1 eI lits) (hl : ∀ i, i < n → 0 ≤ lits.getD i default ∧ lits.getD i default / 2 < m) (hb : m ≤ 1000000) (hnb : n ≤ 1000000) :
  Ret Tryz.prog 157 [.slice a m c, .slice b n d] w0 (fun v w => ∃ r e, v = .slice r (mapL to lits).length e ∧ Hp w0 w [rO 3 1 eI r e (mapL to lits)]) := by
 subst hm hn
 have hml := mapL_len to lits
 refine enter Tryz.S157ok _ _ rfl rfl (by show _ ≤ _; simp only [List.length]; decide) (fun C => ?_); have hp := Hp.nil w0; refine h_run rfl ?_; skip
 refine h_loop3 [0, 5, 8, 9, 10] (fun (i : Nat) (r : Option Addr) (e : Nat) => [(0, .slice a to.length c), (5, .slice r ((mapL to lits).take i).length e), (8, .slice b lits.length d), (9, .int .i64 lits.length), (10, .int .i64 (i : Int))])
  (fun i r e w' => i ≤ lits.length ∧ Hp w0 w' [rO 3 1 eI r e ((mapL to lits).take i)]) (fun i _ _ => lits.length - i) 0 none 0 rfl ⟨by omega, hp.ownN (Ext.refl _) (Own.nil _ _ _ _ _)⟩ ?_
 rintro i r e w1 ⟨hi, hp⟩ IH C
 refine h_run rfl ?_; skip
 refine h_cond_dec (fun hlt => ?_) (fun hlt => ?_)
 ·have hlt' : i < lits.length := by omega
  obtain ⟨q1, q2⟩ := hl i hlt'
  refine h_cond_t rfl rfl ?_; (repeat (refine H_ldEN hp rfl (by omega) rfl rfl ?_))
  refine h_call rfl Tryz.func107 (by kernel_rfl) rfl (mapLit_h _ _ to _ rfl (lits.getD i default) _ hp.rd q1 q2 (by omega)) ?_; rintro _ w ⟨rfl, hx⟩; have hp := hp.ext hx; refine ops_run nopre rfl ?_; (repeat (refine U_litI hp rfl rfl rfl rfl rfl rfl rfl rfl rfl rfl ?_; intro w _ hx hp; refine ops_run nopre rfl ?_))
  refine U_append hp rfl rfl rfl rfl rfl rfl rfl (by decide) rfl (by first | omega | (simp only [List.length_append, List.length_cons, List.length_nil, List.length_take, List.length_drop, List.length_set, List.length_replicate, List.length_map]; omega)) rfl rfl ?_; intro r' e' w hp hnil; refine ops_run nopre rfl ?_; skip
  have hs : (mapL to lits).take (i + 1) = (mapL to lits).take i ++ [litV to (lits.getD i default)] := by
   rw [take_snoc (by omega), mapL, map_getD hlt']
  refine IH (i + 1) r' e' _ _ _ (by omega) (by rw [hs]; rfl) ⟨by omega, ?_⟩
  rw [hs]
  exact hp.drop
 ·refine h_cond_f rfl rfl ?_; (repeat (refine R_ret ?_))
  obtain rfl : i = lits.length := by omega
  rw [← hml, List.take_length] at hp ⊢
  exact ⟨r, e, rfl, hp⟩
theorem l10Map_h (a b : Option Addr) (c d : Nat) (to lits : List Int) (m n : Nat) (hm : to.length = m) (hn : lits.length = n) (w0 : World) (hR : Rd w0 a 1 eI to) (hQ : Rd w0 b 1 eI lits) (hl : ∀ i, i < n → 0 ≤ lits.getD i default ∧ lits.getD i default / 2 < m) (hb : m ≤ 1000000) (hnb : n ≤ 1000000) :
  Ret Tryz.prog 146 [.slice a m c, .slice b n d] w0 (fun v w => ∃ r e, v = .slice r (mapL to lits).length e ∧ Hp w0 w [rO 3 1 eI r e (mapL to lits)]) := by
 subst hm hn
 have hml := mapL_len to lits
 refine enter Tryz.S146ok _ _ rfl rfl (by show _ ≤ _; simp only [List.length]; decide) (fun C => ?_); have hp := Hp.nil w0; refine h_run rfl ?_; (repeat (refine U_litI hp rfl rfl rfl rfl rfl rfl rfl rfl rfl rfl ?_; intro w _ hx hp; refine ops_run nopre rfl ?_))
 refine h_loop3 [0, 1, 5, 6] (fun (i : Nat) (r : Option Addr) (e : Nat) => [(0, .slice a to.length c), (1, .slice b lits.length d), (5, .slice r ((mapL to lits).take i).length e), (6, .int .i64 (i : Int))])
  (fun i r e w' => i ≤ lits.length ∧ Hp w0 w' [rO 3 1 eI r e ((mapL to lits).take i)]) (fun i _ _ => lits.length - i) 0 _ _ rfl ⟨by omega, hp⟩ ?_
 rintro i r e w1 ⟨hi, hp⟩ IH C
 refine h_run rfl ?_; skip
 refine h_cond_dec (fun hlt => ?_) (fun hlt => ?_)
 ·have hlt' : i < lits.length := by omega
  obtain ⟨q1, q2⟩ := hl i hlt'
  refine h_cond_t rfl rfl ?_; skip
  refine D_draw hp (by kernel_rfl) (by kernel_rfl) rfl rfl ?_; intro w hx hp; have hs := hp; (repeat (first | (refine gLoad ?_; first | refine D_ldEN rfl (by omega) rfl rfl rfl ?_ | refine D_ldE rfl (by omega) (by omega) rfl rfl rfl ?_) | (refine gBuild ?_; refine V_litI (fun _ hx => hs.ext hx) hp rfl rfl rfl rfl rfl rfl rfl rfl rfl rfl ?_; intro w _ hx hp; have hs := hs.ext hx; refine D_ops rfl rfl ?_)))
  refine V_append hp rfl rfl rfl rfl rfl rfl rfl (by decide) rfl (by first | omega | (simp only [List.length_append, List.length_cons, List.length_nil, List.length_take, List.length_drop, List.length_set, List.length_replicate, List.length_map]; omega)) rfl rfl (by kernel_rfl) ?_; intro r' e' w hp hnil; refine D_ops rfl rfl ?_; skip
  have hs : (mapL to lits).take (i + 1) = (mapL to lits).take i ++ [litV to (lits.getD i default)] := by
   rw [take_snoc (by omega), mapL, map_getD hlt']
  refine IH (i + 1) r' e' _ _ _ (by omega) (by rw [hs]; rfl) ⟨by omega, ?_⟩
  rw [hs]
  exact hp.drop
 ·refine h_cond_f rfl rfl ?_; (repeat (refine R_ret ?_))
  obtain rfl : i = lits.length := by omega
  rw [← hml, List.take_length] at hp ⊢
  exact ⟨r, e, rfl, hp⟩
theorem leafLits_h (x : NetA) (w0 : World) (hok : NetOkP x.n) :
  Ret Tryz.prog 105 [x.v] w0 (fun v w => ∃ b c, v = .slice b (nds x.n) c ∧ Hp w0 w [rO 3 1 eI b c (leafL x.n ++ List.replicate x.ands.length 0)]) := by
 have hn := hok.nums
 have n1 := hn.n1
 have n4 := hn.n2
 have f2 := hn.f2
 have hnd := hok.nodes
 have hal : x.n.ands.length = x.ands.length := rfl
 have hrl : (List.replicate (nds x.n) (0 : Int)).length = nds x.n := by simp
 refine enter Tryz.S105ok _ _ rfl rfl (by show _ ≤ _; simp only [List.length]; decide) (fun C => ?_); have hp := Hp.nil w0; refine h_run rfl ?_; skip; (first | refine H_box hp ?_ | refine H_alloc hp rfl ?_); intro w b1 hx hp; refine ops_run nopre rfl ?_; (repeat (refine H_ldB hp rfl rfl ?_))
 refine h_call rfl Tryz.func128 (by kernel_rfl) rfl (nodeCount_h x _ hok.b) ?_; rintro _ w ⟨rfl, hx⟩; have hp := hp.ext hx; refine ops_run nopre rfl ?_; skip
 rw [← n4]
 refine H_make hp eI 0 rfl rfl rfl rfl (s := 1) rfl (by decide) rfl (by unfold maxLen; omega) (by show 8 * _ ≤ _; omega) ?_; intro w b3 hx hp; refine ops_run nopre rfl ?_; skip
 refine h_loop [1, 3, 4] (fun (i : Nat) => [(1, .pointer (some ⟨b1, 0, none⟩)), (3, .slice (some ⟨b3, 0, none⟩) (nds x.n) (nds x.n)), (4, .int .i64 (i : Int))])
  (fun i w' => i ≤ fst_ x.n ∧ Hp w0 w' [rO 3 1 eI (some ⟨b3, 0, none⟩) (nds x.n) (upTo (fun k => 2 * ((k : Nat) : Int)) i (List.replicate (nds x.n) 0)), rB b1 33 x.cs]) (fun i => fst_ x.n - i) 0 rfl ⟨by omega, by rw [upTo_zero]; exact hp⟩ ?_
 rintro i w1 ⟨hi, hp⟩ IH C
 have hul := upTo_len (f := fun k => 2 * ((k : Nat) : Int)) (X := List.replicate (nds x.n) (0 : Int)) (i := i) (by omega)
 refine h_run rfl ?_; (repeat (refine H_ldB hp rfl rfl ?_))
 refine h_call rfl Tryz.func70 (by kernel_rfl) rfl (firstAnd_h x _ hok.b) ?_; rintro _ w ⟨rfl, hx⟩; have hp := hp.ext hx; refine ops_run nopre rfl ?_; skip
 refine h_cond_dec (fun hlt => ?_) (fun hlt => ?_)
 ·refine h_cond_t rfl rfl ?_; (repeat (refine U_st0N hp rfl rfl rfl (by omega) (by decide) rfl rfl ?_; intro w hp; refine ops_run nopre rfl ?_))
  refine IH (i + 1) _ _ _ (by omega) rfl ⟨by omega, ?_⟩
  rw [upTo_set (f := fun k => 2 * ((k : Nat) : Int)) (by omega)] at hp
  exact hp
 ·refine h_cond_f rfl rfl ?_; (repeat (refine R_ret ?_))
  obtain rfl : i = fst_ x.n := by omega
  have e : upTo (fun k => 2 * ((k : Nat) : Int)) (fst_ x.n) (List.replicate (nds x.n) 0) = leafL x.n ++ List.replicate x.ands.length 0 := by
   unfold upTo leafL
   rw [List.drop_replicate, show nds x.n - fst_ x.n = x.ands.length by omega]
  rw [e] at hp
  exact ⟨_, _, rfl, hp.sub (by simp)⟩
theorem emptyCopy_h (x : NetA) (w0 : World) (hX : NetR w0 x) (hok : NetOkP x.n) :
  Ret Tryz.prog 104 [x.v] w0 (fun v w => ∃ y, (y.n = begL x.n [] ∧ v = y.v) ∧ Hp w0 w [rNet y]) := by
 have hr := hX.seqs.row
 have hsz := hok.size'
 refine enter Tryz.S104ok _ _ rfl rfl (by show _ ≤ _; simp only [List.length]; decide) (fun C => ?_); have hp := Hp.nil w0; refine h_run rfl ?_; skip; (first | refine H_box hp ?_ | refine H_alloc hp rfl ?_); intro w b1 hx hp; refine ops_run nopre rfl ?_; skip; (first | refine H_box hp ?_ | refine H_alloc hp rfl ?_); intro w b2 hx hp; refine ops_run nopre rfl ?_; (repeat (refine H_ldB hp rfl rfl ?_)); (first | refine H_box hp ?_ | refine H_alloc hp rfl ?_); intro w b3 hx hp; refine ops_run nopre rfl ?_; (repeat (first | (refine gLoad ?_; refine H_ldB hp rfl rfl ?_) | (refine gStore ?_; refine U_stBN hp rfl rfl rfl rfl ?_; intro w hp; refine ops_run nopre rfl ?_)))
 refine h_loop4 [2, 3, 10, 11, 12] (fun (i : Nat) (_ : List SeqA) (_ : Option Addr) (_ : Nat) => [(2, .pointer (some ⟨b2, 0, none⟩)), (3, .pointer (some ⟨b3, 0, none⟩)), (10, .slice x.sa x.seqs.length x.sc), (11, .int .i64 x.seqs.length), (12, .int .i64 (i : Int))])
  (fun i R b c w' => (i ≤ x.seqs.length ∧ R.length = i ∧ seqsOf R = (begL x.n []).seqs.take i) ∧ Hp w0 w' [rB b3 33 [.int .i64 x.inputs, .slice b R.length c, .slice none 0 0, .slice none 0 0], rO 68 3 eSq b c R, rIns R, rB b2 33 (cellsV Tryz.ti33.zero), rB b1 33 x.cs]) (fun i _ _ _ => x.seqs.length - i) 0 [] none 0 rfl
  ⟨⟨by omega, rfl, rfl⟩, Hp.f2 ((rIns_nil hp).ownN (Ext.refl _) (Own.nil _ _ _ _ _))⟩ ?_
 rintro i R b c w1 ⟨⟨hi, hR, hRs⟩, hp⟩ IH C
 refine h_run rfl ?_; skip
 refine h_cond_dec (fun hlt => ?_) (fun hlt => ?_)
 ·have hlt' : i < x.seqs.length := by omega
  refine h_cond_t rfl rfl ?_; (repeat (refine H_ldEN hp rfl (by omega) rfl rfl ?_))
  (first | refine H_box hp ?_ | refine H_alloc hp rfl ?_); intro w b5 hx hp; refine ops_run nopre rfl ?_; (repeat (first | (refine gLoad ?_; refine H_ldB hp rfl rfl ?_) | (refine gStore ?_; refine U_stBN hp rfl rfl rfl rfl ?_; intro w hp; refine ops_run nopre rfl ?_)))
  refine H_lit hp eSq [⟨(x.seqs.getD i default).kind, (x.seqs.getD i default).init, [], none, 0⟩] rfl rfl rfl rfl (s := 3) rfl (by decide) (by infer_instance) (by rfl) (by rfl) (by rfl) (by decide) ?_; intro w b23 hx hp; refine ops_run nopre rfl ?_; skip
  refine U_append hp rfl rfl rfl rfl rfl rfl rfl (by decide) rfl (by first | omega | (simp only [List.length_append, List.length_cons, List.length_nil, List.length_take, List.length_drop, List.length_set, List.length_replicate, List.length_map]; omega)) rfl rfl ?_; intro b' c' w hp hnil; refine ops_run nopre rfl ?_; (repeat (refine U_stB hp rfl rfl rfl rfl ?_; intro w hp; refine ops_run nopre rfl ?_))
  have hp : Hp w0 w (rO 3 1 eI none 0 ([] : List Int) :: _) := hp.ownN (Ext.refl _) (Own.nil _ _ _ _ _)
  have hp := rIns_add (y := ⟨(x.seqs.getD i default).kind, (x.seqs.getD i default).init, [], none, 0⟩) (hp.f7.f7.f6.f6.f7.f5)
  refine IH (i + 1) _ b' c' _ _ _ (by omega) rfl ⟨⟨by omega, by simp; omega, ?_⟩, Hp.tk (hp.f4.f4.f2.f4.f4) 5⟩
  have hbl : (begL x.n []).seqs.length = x.seqs.length := by simp [begL, x.slen]
  rw [take_snoc (by omega), ← hRs, seqsOf_snoc]
  have e : (begL x.n []).seqs.getD i default = ⟨(x.seqs.getD i default).kind, (x.seqs.getD i default).init, []⟩ := by
   show (x.n.seqs.map _).getD i default = _
   rw [map_getD (by rw [x.slen]; exact hlt'), x.sget]
   rfl
  rw [e]
  rfl
 ·refine h_cond_f rfl rfl ?_; (repeat (first | (refine gLoad ?_; refine H_ldB hp rfl rfl ?_) | (refine gStore ?_; refine U_stBN hp rfl rfl rfl rfl ?_; intro w hp; refine ops_run nopre rfl ?_) | (refine gRetc ?_; refine R_ret1 hp rfl ?_)))
  obtain rfl : i = x.seqs.length := by omega
  have hbl : (begL x.n []).seqs.length = x.seqs.length := by simp [begL, x.slen]
  rw [← hbl, List.take_length] at hRs
  have hp := (hp.f4.f4.f2.f4.f4)
  have hp := rSq_shut hp
  have hp : Hp w0 _ (rO 120 2 eII none 0 ([] : List (Int × Int)) :: _) := hp.ownN (Ext.refl _) (Own.nil _ _ _ _ _)
  have hp : Hp w0 _ (rO 3 1 eI none 0 ([] : List Int) :: _) := hp.ownN (Ext.refl _) (Own.nil _ _ _ _ _)
  refine ⟨⟨x.inputs, R, b, c, [], none, 0, [], none, 0⟩, ⟨by unfold NetA.n; rw [hRs]; rfl, rfl⟩, ?_⟩
  exact Hp.sub (rNet_shut (x := ⟨x.inputs, R, b, c, [], none, 0, [], none, 0⟩) (hp.f1.f2)) (by simp)
def crF (S : List SeqL) (n : NetL) (to : List Int) (i : Nat) : SeqL := ⟨(S.getD i default).kind, (S.getD i default).init, mapL to (n.seqs.getD i default).ins⟩
theorem seqsOf_set (R : List SeqA) (i : Nat) (y : SeqA) : seqsOf (R.set i y) = (seqsOf R).set i y.s := by simp [seqsOf, List.map_set]
theorem copyRoots_h (p : Nat) (y x : NetA) (pa : Option Addr) (pc m : Nat) (to : List Int) (hm : to.length = m) {w0 w : World} {L : List Res} (hp : Hp w0 w (rB p 33 y.cs :: rSq y.sa y.sc y.seqs :: rO 3 1 eI y.oa y.oc y.outs :: L)) [hX : NetH w0 L x] [hT : RdH w0 L pa 1 eI to] (hok : NetOkP x.n) (hnd : nds x.n ≤ m) (hmb : m ≤ 1000000) (hyl : x.seqs.length ≤ y.seqs.length) (hyb : y.seqs.length ≤ 1000000) :
  Ret Tryz.prog 108 [.pointer (some ⟨p, 0, none⟩), x.v, .slice pa m pc] w (fun v w' => ∃ R oa oc, v = .tuple ⟨[]⟩ ∧ (R.length = y.seqs.length ∧ seqsOf R = upTo (crF (seqsOf y.seqs) x.n to) x.seqs.length (seqsOf y.seqs)) ∧
   Hp w0 w' (rB p 33 [.int .i64 y.inputs, .slice y.sa y.seqs.length y.sc, .slice y.aa y.ands.length y.ac, .slice oa (mapL to x.outs).length oc] :: rSq y.sa y.sc R :: rO 3 1 eI oa oc (mapL to x.outs) :: L)) := by
 subst hm
 have hn := hok.nums
 have n1 := hn.n1
 have n2 := hn.n2
 have hsz := hok.size'
 have hsl := x.slen
 have hlit : ∀ l, litP l (nodesL x.n) → 0 ≤ l ∧ l / 2 < to.length := fun l h => by unfold litP at h; omega
 refine enter Tryz.S108ok _ _ rfl rfl (by show _ ≤ _; simp only [List.length]; decide) (fun C => ?_); refine h_run rfl ?_; skip
 (first | refine H_box hp ?_ | refine H_alloc hp rfl ?_); intro w b4 hx hp; refine ops_run nopre rfl ?_; (repeat (refine H_ldB hp rfl rfl ?_))
 have hp := rSq_open (hp.f3.f2.f2.f3)
 refine h_loop2 [0, 2, 4, 9, 10, 11] (fun (i : Nat) (_ : List SeqA) => [(0, .pointer (some ⟨p, 0, none⟩)), (2, .slice pa to.length pc), (4, .pointer (some ⟨b4, 0, none⟩)), (9, .slice x.sa x.seqs.length x.sc), (10, .int .i64 x.seqs.length), (11, .int .i64 (i : Int))])
  (fun i R w' => (i ≤ x.seqs.length ∧ R.length = y.seqs.length ∧ seqsOf R = upTo (crF (seqsOf y.seqs) x.n to) i (seqsOf y.seqs)) ∧ Hp w0 w' (rO 68 3 eSq y.sa y.sc R :: rIns R :: rB b4 33 x.cs :: rB p 33 y.cs :: rO 3 1 eI y.oa y.oc y.outs :: L)) (fun i _ => x.seqs.length - i) 0 y.seqs rfl
  ⟨⟨by omega, rfl, by rw [upTo_zero]⟩, hp⟩ ?_
 rintro i R w1 ⟨⟨hi, hR, hRs⟩, hp⟩ IH C
 refine h_run rfl ?_; skip
 refine h_cond_dec (fun hlt => ?_) (fun hlt => ?_)
 ·have hlt' : i < x.seqs.length := by omega
  have hil := hok.ins hlt'
  have hsx := x.sins i
  have hq : ∀ j, j < (x.seqs.getD i default).ins.length → 0 ≤ (x.seqs.getD i default).ins.getD j default ∧ (x.seqs.getD i default).ins.getD j default / 2 < to.length := fun j hj =>
   hlit _ (hok.inp (getD_mem (show i < x.n.seqs.length by omega)) _ (by rw [hsx]; exact getD_mem hj))
  refine h_cond_t rfl rfl ?_; (repeat (refine H_ldEN hp rfl (by omega) rfl rfl ?_))
  have hrow := hX.in_ hlt'
  have hne : y.sa ≠ none := nn_of hp (X := R) (by omega)
  (first | refine H_box hp ?_ | refine H_alloc hp rfl ?_); intro w b7 hx hp; refine ops_run nopre rfl ?_; (repeat (refine U_stBN hp rfl rfl rfl rfl ?_; intro w hp; refine ops_run nopre rfl ?_))
  refine N_draw hp (by kernel_rfl) (by kernel_rfl) rfl rfl ?_; (repeat (refine N_ldB rfl rfl rfl ?_))
  refine N_call Tryz.func157 (by kernel_rfl) rfl (fun F w hp => ?_); refine Ret.mono (mapLits_h pa _ pc _ to (x.seqs.getD i default).ins _ _ rfl rfl _ hp.pre.rd hp.pre.rd hq (by omega) (by omega)) ?_; rintro _ w ⟨r, e, rfl, hq⟩; have hp := hp.callF1 hq; refine ⟨fun _ => hp.sub (by (repeat (first | exact List.sublist_append_left _ _ | apply List.Sublist.cons))), _, hp, ?_⟩; clear hp; refine N_ops rfl rfl ?_; skip
  first | refine N_st1N ({ R.getD i default with ins := mapL to (x.seqs.getD i default).ins, ia := r, ic := e }) rfl rfl rfl (by omega) (by decide) rfl rfl (by kernel_rfl) ?_ | refine N_st1 ({ R.getD i default with ins := mapL to (x.seqs.getD i default).ins, ia := r, ic := e }) rfl rfl rfl (by omega) (by decide) rfl rfl (by kernel_rfl) ?_
  refine N_ops rfl rfl ?_; skip
  refine N_end ?_; intro w hp C; refine h_run rfl ?_; skip
  obtain ⟨Q, hq, hback⟩ := rIns_at (hp.f1.drop.f2) (i := i) (by omega)
  have hp := (hback _ _ { R.getD i default with ins := mapL to (x.seqs.getD i default).ins, ia := r, ic := e } hq.drop.f1).f1
  refine IH (i + 1) _ _ _ _ (by omega) rfl ⟨⟨by omega, by simp; omega, ?_⟩, hp⟩
  have hix : i < (seqsOf y.seqs).length := by rw [seqsOf_len]; omega
  rw [seqsOf_set, hRs, ← upTo_set (f := crF (seqsOf y.seqs) x.n to) hix]
  congr 1
  have h1 : (R.getD i default).s = (seqsOf y.seqs).getD i default := by
   rw [← seqsOf_get, hRs, upTo_at (Nat.le_refl _) (by omega)]
  unfold crF
  rw [← h1, hsx]
  rfl
 ·refine h_cond_f rfl rfl ?_; (repeat (refine H_ldB hp rfl rfl ?_))
  obtain rfl : i = x.seqs.length := by omega
  refine h_call rfl Tryz.func157 (by kernel_rfl) rfl (mapLits_h pa _ pc _ to x.outs _ _ rfl rfl _ hp.rd hp.rd (fun j hj => hlit _ (hok.out _ (getD_mem hj))) (by omega) (by omega)) ?_; rintro _ w ⟨r, e, rfl, hq⟩; have hx := hq.x; have hp := hp.call1 hq; refine ops_run nopre rfl ?_; (repeat (first | (refine gStore ?_; refine U_stB hp rfl rfl rfl rfl ?_; intro w hp; refine ops_run nopre rfl ?_) | refine R_ret ?_))
  have hp := rSq_shut (hp.f5.drop.f3.drop.f3.f1.f3.f3)
  exact ⟨R, r, e, rfl, ⟨hR, hRs⟩, hp.f1.f1.f2⟩
theorem two_in {p : Int → Prop} {a b : Int} (ha : p a) (hb : p b) : ∀ j, j < [a, b].length → p ([a, b].getD j default)
 | 0, _ => ha
 | 1, _ => hb
 | j + 2, h => by simp at h; omega
theorem cr_all {n : NetL} {to : List Int} {S : List SeqL} (hl : S.length = n.seqs.length) (h : ∀ i, i < n.seqs.length → (S.getD i default).kind = (n.seqs.getD i default).kind ∧ (S.getD i default).init = (n.seqs.getD i default).init) :
  upTo (crF S n to) n.seqs.length S = n.seqs.map fun s => ⟨s.kind, s.init, mapL to s.ins⟩ := by
 have e := upTo_all (crF S n to) S
 rw [hl] at e
 rw [e]
 refine list_eq (by simp) fun i hi => ?_
 simp at hi
 rw [range_get hi, map_getD hi]
 unfold crF
 rw [(h i hi).1, (h i hi).2]
theorem beg_at {n : NetL} {A : List (Int × Int)} : (begL n A).seqs.length = n.seqs.length ∧ ∀ i, i < n.seqs.length → ((begL n A).seqs.getD i default).kind = (n.seqs.getD i default).kind ∧ ((begL n A).seqs.getD i default).init = (n.seqs.getD i default).init :=
 ⟨by simp [begL], fun i hi => by unfold begL; rw [map_getD hi]; exact ⟨rfl, rfl⟩⟩
theorem zer_at {n : NetL} {A : List (Int × Int)} : (zerL n A).seqs.length = n.seqs.length ∧ ∀ i, i < n.seqs.length → ((zerL n A).seqs.getD i default).kind = (n.seqs.getD i default).kind ∧ ((zerL n A).seqs.getD i default).init = (n.seqs.getD i default).init :=
 ⟨by simp [zerL], fun i hi => by unfold zerL; rw [map_getD hi]; exact ⟨rfl, rfl⟩⟩
def nilA : NetA := ⟨0, [], none, 0, [], none, 0, [], none, 0⟩
theorem hpNil {w0 w : World} {L : List Res} (h : Hp w0 w L) : Hp w0 w (rNet nilA :: L) := by
 have h1 : Hp w0 w (rO 3 1 eI none 0 ([] : List Int) :: L) := h.ownN (Ext.refl _) (Own.nil _ _ _ _ _)
 have h2 : Hp w0 w (rO 120 2 eII none 0 ([] : List (Int × Int)) :: rO 3 1 eI none 0 ([] : List Int) :: L) := h1.ownN (Ext.refl _) (Own.nil _ _ _ _ _)
 have h3 : Hp w0 w (rO 68 3 eSq none 0 ([] : List SeqA) :: rIns [] :: rO 120 2 eII none 0 ([] : List (Int × Int)) :: rO 3 1 eI none 0 ([] : List Int) :: L) := (rIns_nil h2).ownN (Ext.refl _) (Own.nil _ _ _ _ _)
 exact rNet_shut (x := nilA) (rSq_shut h3)
theorem l10Empty_h (x : NetA) (w0 : World) (hX : NetR w0 x) (hok : NetOkP x.n) (hS : NetS x.n) :
  Ret Tryz.prog 85 [x.v] w0 (fun v w => ∃ y b c, (y.n = zerL x.n [] ∧ v = .tuple ⟨[y.v, .slice b (leafL x.n).length c]⟩) ∧ Hp w0 w [rNet y, rO 3 1 eI b c (leafL x.n)]) := by
 have hn := hok.nums
 have n1 := hn.n1
 have n4 := hn.n2
 have f2 := hn.f2
 have hnd := hok.nodes
 have hsz := hok.size'
 have hll := leafL_len x.n
 obtain ⟨s1, s2, s3, s4⟩ := hS
 rw [x.slen] at s1 s2
 simp only [x.sins] at s2
 refine enter Tryz.S85ok _ _ rfl rfl (by show _ ≤ _; simp only [List.length]; decide) (fun C => ?_); have hp := Hp.nil w0; refine h_run rfl ?_; skip; (first | refine H_box hp ?_ | refine H_alloc hp rfl ?_); intro w b1 hx hp; refine ops_run nopre rfl ?_; skip; (first | refine H_box hp ?_ | refine H_alloc hp rfl ?_); intro w b2 hx hp; refine ops_run nopre rfl ?_; skip
 refine N_draw hp (by kernel_rfl) (by kernel_rfl) rfl rfl ?_; (repeat (refine N_ldB rfl rfl rfl ?_))
 refine N_call Tryz.func140 (by kernel_rfl) rfl (fun F w hp => ?_); refine Ret.mono (specCopySeqs_h _ _ _ _ hp.net.seqs s1 s2) ?_; rintro _ w ⟨b5, c5, R, ⟨hR, rfl⟩, hq⟩; have hp := hp.callF1 hq; refine ⟨fun _ => hp.sub (by (repeat (first | exact List.sublist_append_left _ _ | apply List.Sublist.cons))), _, hp, ?_⟩; clear hp; refine N_ops rfl rfl ?_; skip
 (first | refine N_box ?_ | refine N_alloc rfl ?_); intro b4; refine N_ops rfl rfl ?_; (repeat (refine N_stBN rfl rfl rfl rfl (by kernel_rfl) ?_; refine N_ops rfl rfl ?_))
 refine N_end ?_; intro w hp C; refine h_run rfl ?_; (repeat (refine U_litI hp rfl rfl rfl rfl rfl rfl rfl rfl rfl rfl ?_; intro w _ hx hp; refine ops_run nopre rfl ?_))
 have hRl : R.length = x.seqs.length := by rw [← seqsOf_len R, hR, seqsOf_len]
 refine h_loop3 [1, 2, 4, 5, 6] (fun (i : Nat) (b : Option Addr) (c : Nat) => [(1, .pointer (some ⟨b1, 0, none⟩)), (2, .pointer (some ⟨b2, 0, none⟩)), (4, .pointer (some ⟨b4, 0, none⟩)), (5, .slice b ((leafL x.n).take i).length c), (6, .int .i64 (i : Int))])
  (fun i b c w' => i ≤ fst_ x.n ∧ Hp w0 w' [rO 3 1 eI b c ((leafL x.n).take i), rB b4 33 [.int .i64 x.inputs, .slice b5 R.length c5, .slice none 0 0, .slice none 0 0], rSq b5 c5 R, rB b2 33 (cellsV Tryz.ti33.zero), rB b1 33 x.cs]) (fun i _ _ => fst_ x.n - i) 0 _ _ rfl
  ⟨by omega, hp⟩ ?_
 rintro i b c w1 ⟨hi, hp⟩ IH C
 refine h_run rfl ?_; (repeat (refine H_ldB hp rfl rfl ?_))
 refine h_call rfl Tryz.func137 (by kernel_rfl) rfl (l08First_h x _ hok.b) ?_; rintro _ w ⟨rfl, hx⟩; have hp := hp.ext hx; refine ops_run nopre rfl ?_; skip
 refine h_cond_dec (fun hlt => ?_) (fun hlt => ?_)
 ·have hlt' : i < fst_ x.n := by omega
  refine h_cond_t rfl rfl ?_; (repeat (refine U_litI hp rfl rfl rfl rfl rfl rfl rfl rfl rfl rfl ?_; intro w _ hx hp; refine ops_run nopre rfl ?_))
  refine U_append hp rfl rfl rfl rfl rfl rfl rfl (by decide) rfl (by first | omega | (simp only [List.length_append, List.length_cons, List.length_nil, List.length_take, List.length_drop, List.length_set, List.length_replicate, List.length_map]; omega)) rfl rfl ?_; intro b' c' w hp hnil; refine ops_run nopre rfl ?_; skip
  have e : (leafL x.n).take (i + 1) = (leafL x.n).take i ++ [2 * (i : Int)] := by rw [take_snoc (by omega), leafL_get hlt']
  refine IH (i + 1) b' c' _ _ _ (by omega) (by rw [e]; rfl) ⟨by omega, ?_⟩
  rw [e]
  exact hp.drop
 ·refine h_cond_f rfl rfl ?_; skip
  obtain rfl : i = fst_ x.n := by omega
  rw [← hll, List.take_length] at hp ⊢
  have hp := rSq_open hp.f2
  clear IH
  refine h_loop2 [2, 4, 5, 7] (fun (i : Nat) (_ : List SeqA) => [(2, .pointer (some ⟨b2, 0, none⟩)), (4, .pointer (some ⟨b4, 0, none⟩)), (5, .slice b (leafL x.n).length c), (7, .int .i64 (i : Int))])
   (fun i T w' => (i ≤ x.seqs.length ∧ T.length = R.length ∧ seqsOf T = upTo (fun i => ⟨((seqsOf R).getD i default).kind, ((seqsOf R).getD i default).init, List.replicate ((seqsOf R).getD i default).ins.length 0⟩) i (seqsOf R)) ∧
    Hp w0 w' [rO 68 3 eSq b5 c5 T, rIns T, rO 3 1 eI b c (leafL x.n), rB b4 33 [.int .i64 x.inputs, .slice b5 R.length c5, .slice none 0 0, .slice none 0 0], rB b2 33 (cellsV Tryz.ti33.zero)]) (fun i _ => x.seqs.length - i) 0 R rfl
   ⟨⟨by omega, rfl, by rw [upTo_zero]⟩, Hp.tk hp 5⟩ ?_
  rintro i T w2 ⟨⟨hi, hT, hTs⟩, hp⟩ IH C
  refine h_run rfl ?_; (repeat (refine H_ldB hp rfl rfl ?_))
  refine h_cond_dec (fun hlt => ?_) (fun hlt => ?_)
  ·have hlt' : i < x.seqs.length := by omega
   have h1 : (T.getD i default).s = (seqsOf R).getD i default := by rw [← seqsOf_get, hTs, upTo_at (Nat.le_refl _) (by rw [seqsOf_len]; omega)]
   have h2 : (T.getD i default).ins = (x.seqs.getD i default).ins := by
    have h3 : (seqsOf R).getD i default = (seqsOf x.seqs).getD i default := by rw [hR]
    rw [seqsOf_get x.seqs] at h3
    exact congrArg SeqL.ins (h1.trans h3)
   have h4 := s2 i hlt'
   rw [← h2] at h4
   have hne : b5 ≠ none := nn_of hp (X := T) (by omega)
   refine h_cond_t rfl rfl ?_; skip
   refine N_draw hp (by kernel_rfl) (by kernel_rfl) rfl rfl ?_; (repeat (refine nLoad ?_; first | refine N_ldB rfl rfl rfl ?_ | refine N_ldFN rfl (by omega) rfl rfl rfl ?_))
   refine N_make eI 0 rfl rfl rfl rfl (s := 1) rfl (by decide) (by infer_instance) rfl (by unfold maxLen; omega) (by show 8 * _ ≤ _; omega) ?_; intro b43; refine N_ops rfl rfl ?_; skip
   refine N_st1N ({ T.getD i default with ins := List.replicate (T.getD i default).ins.length 0, ia := some ⟨b43, 0, none⟩, ic := (T.getD i default).ins.length }) rfl rfl rfl (by omega) (by decide) (by show [_, _, Value.slice _ (List.replicate _ _).length _] = _; rw [List.length_replicate]; rfl) rfl (by kernel_rfl) ?_; refine N_ops rfl rfl ?_; skip
   refine N_end ?_; intro w hp C; refine h_run rfl ?_; skip
   obtain ⟨Q, hq, hback⟩ := rIns_at hp.f2 (i := i) (by omega)
   have hp := (hback _ _ { T.getD i default with ins := List.replicate (T.getD i default).ins.length 0, ia := some ⟨b43, 0, none⟩, ic := (T.getD i default).ins.length } hq.drop.f1).f1
   refine IH (i + 1) _ _ _ _ (by omega) rfl ⟨⟨by omega, by simp; omega, ?_⟩, hp⟩
   have hix : i < (seqsOf R).length := by rw [seqsOf_len]; omega
   rw [seqsOf_set, hTs, ← upTo_set (f := fun i => (⟨((seqsOf R).getD i default).kind, ((seqsOf R).getD i default).init, List.replicate ((seqsOf R).getD i default).ins.length 0⟩ : SeqL)) hix]
   congr 1
   rw [← h1]
   rfl
  ·refine h_cond_f rfl rfl ?_; (repeat (first | (refine gLoad ?_; refine H_ldB hp rfl rfl ?_) | (refine gStore ?_; refine U_stBN hp rfl rfl rfl rfl ?_; intro w hp; refine ops_run nopre rfl ?_) | (refine gRetc ?_; refine R_ret2v hp rfl ?_)))
   obtain rfl : i = x.seqs.length := by omega
   have hfin : seqsOf T = (zerL x.n []).seqs := by
    rw [hTs, ← hRl, ← seqsOf_len R, upTo_all, hR]
    refine list_eq (by show _ = ((seqsOf x.seqs).map _).length; simp) fun j hj => ?_
    simp at hj
    unfold zerL
    rw [range_get hj, map_getD (by rw [x.slen]; simpa [seqsOf] using hj)]
    rfl
   have hp := rSq_shut hp
   have hp : Hp w0 _ (rO 120 2 eII none 0 ([] : List (Int × Int)) :: _) := hp.ownN (Ext.refl _) (Own.nil _ _ _ _ _)
   have hp : Hp w0 _ (rO 3 1 eI none 0 ([] : List Int) :: _) := hp.ownN (Ext.refl _) (Own.nil _ _ _ _ _)
   rw [← hT] at hp
   refine ⟨⟨x.inputs, T, b5, c5, [], none, 0, [], none, 0⟩, b, c, ⟨by unfold NetA.n; rw [hfin]; rfl, by rw [← hT]; rfl⟩, ?_⟩
   exact Hp.tk (rNet_shut (x := ⟨x.inputs, T, b5, c5, [], none, 0, [], none, 0⟩) (hp.f1.f2)) 2
end Go.Proofs
