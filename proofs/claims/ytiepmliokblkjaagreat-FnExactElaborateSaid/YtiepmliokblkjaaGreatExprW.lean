/- The contract of the program's expr; under its stated conditions. -/
import Derived.Test.YtiepmliokblkjaaGreatAdder3
set_option linter.all false
namespace Go.Xw
def kidsT : ExT → List ExT
 | .leaf _ => []
 | .un _ x => [x]
 | .bin _ x y => [x, y]
 | .tri _ x y z => [x, y, z]
def opT : ExT → OpL
 | .leaf o => o
 | .un o _ => o
 | .bin o _ _ => o
 | .tri o _ _ _ => o
instance : Inhabited ExT := ⟨.leaf default⟩
theorem ser_eq : ∀ t : ExT, t.ser = opT t :: (kidsT t).flatMap ExT.ser
 | .leaf o => by simp [ExT.ser, kidsT, opT]
 | .un o x => by simp [ExT.ser, kidsT, opT]
 | .bin o x y => by simp [ExT.ser, kidsT, opT]
 | .tri o x y z => by simp [ExT.ser, kidsT, opT]
theorem ok_kids {m : Int} : ∀ {t : ExT}, t.ok m → arL (opT t).kind = ((kidsT t).length : Nat) ∧ ∀ x, x ∈ kidsT t → x.ok m
 | .leaf o, h => ⟨h.1, fun x hx => by cases hx⟩
 | .un o x, h => ⟨h.1, fun z hz => by simp [kidsT] at hz; subst hz; exact h.2⟩
 | .bin o x y, h => ⟨h.1, fun z hz => by simp [kidsT] at hz; rcases hz with rfl | rfl; exact h.2.1; exact h.2.2⟩
 | .tri o x y z, h => ⟨h.1, fun u hu => by simp [kidsT] at hu; rcases hu with rfl | rfl | rfl; exact h.2.1; exact h.2.2.1; exact h.2.2.2⟩
def evTo (sig : List (List Int)) (w : Nat) (ts : List ExT) (s : NetL × Bool) : Nat → (NetL × Bool) × List (List Int)
 | 0 => (s, [])
 | i + 1 => ((evA adP sig w (ts.getD i default) (evTo sig w ts s i).1).1, (evTo sig w ts s i).2 ++ [(evA adP sig w (ts.getD i default) (evTo sig w ts s i).1).2])
def serTo (ts : List ExT) (i : Nat) : Nat := ((ts.take i).flatMap ExT.ser).length
theorem serTo_next {ts : List ExT} {i : Nat} (h : i < ts.length) : serTo ts (i + 1) = serTo ts i + (ts.getD i default).ser.length := by
 unfold serTo
 rw [take_snocC h, List.flatMap_append, List.length_append]; simp
theorem evTo_good {sig : List (List Int)} {w : Nat} {ts : List ExT} {s : NetL × Bool} (hok : NetOkP s.1) (hs : ∀ l, l ∈ sig → ∀ z, z ∈ l → litP z (nodesL s.1)) : ∀ i, NetOkP (evTo sig w ts s i).1.1 ∧ leP s (evTo sig w ts s i).1 ∧ (evTo sig w ts s i).2.length = i ∧ ∀ l, l ∈ (evTo sig w ts s i).2 → l.length = w ∧ ∀ z, z ∈ l → litP z (nodesL (evTo sig w ts s i).1.1)
 | 0 => ⟨hok, adP_ok.refl s, rfl, by simp [evTo]⟩
 | i + 1 => by
  obtain ⟨h1, h2, h3, h4⟩ := evTo_good (w := w) (ts := ts) hok hs i
  have g := ev_good adP_ok (sig := sig) w (ts.getD i default) h1 (fun l hl z hz => (hs l hl z hz).mono h2.1.1)
  refine ⟨g.i, adP_ok.trans h2 g.le_, by rw [evTo, List.length_append, h3]; rfl, fun l hl => ?_⟩
  rcases List.mem_append.1 hl with hl | hl
  ·exact ⟨(h4 l hl).1, fun z hz => ((h4 l hl).2 z hz).mono g.le_.1.1⟩
  ·simp at hl
   subst hl
   exact ⟨evA_len adP sig w _ _, g.v⟩
theorem D_litq {S : Setting} {sz : Nat} {R : Value → World → Prop} {C : World → Prop} {w : World} {ops : Array Oper} {rest : List Oper} {k : List Item} {env : Env} {w0 : World} {F : List Res} (hfl : flagAt ops rest = false) (hp : Hp w0 w F) (z : Int) {t e : TypeId} {i j : TI} {nn : Nat} {parts : List (Nat × Value)} {d : Nat} [hS : S.Ok] (hi : tl S.tt t = some i) (hd : i.desc = .slice e) (hj : tl S.tt e = some j) (hz : (cellsV j.zero).length = j.size) (hs0 : j.size = 1)
  (hc : litCells S.tt e nn parts = some (eI z)) (hn : nn = 1)
  (hk : ∀ w' b, Ext w w' → Hp w0 w' (rO e 1 eI (some ⟨b, 0, none⟩) 1 [z] :: F) → Holds S sz R C w' (.ops true ops rest k ((d, .slice (some ⟨b, 0, none⟩) 1 1) :: env))) :
  Holds S sz R C w (.act (.buildSlice t nn parts) ⟨true, ops, rest, some d, k, env⟩) := by
 subst hn
 have hr := lit_run (P := S.P) (w := w) hS.tt hi hd hj hz (by omega) hc (by rw [hs0]; decide)
 refine h_actq (v := .slice (some ⟨w.heap.size, 0, none⟩) 1 1) (w' := w.alloc (.cells ⟨eI z⟩ e)) rfl rfl (by simp only [Action.sem, Sem.run_bind, hr, Result.andThen_ok, Sem.run_pure]) ?_
 exact ⟨fun hq => Bool.noConfusion (hq.symm.trans hfl), hk _ _ (Ext.alloc _ _) (hp.ownN (Ext.alloc _ _) (Own.lit w e (eI z) [z] eI_ok rfl (show 1 ≤ maxLen by unfold maxLen; decide)))⟩
theorem Hp.o3012 {w0 w : World} {A B C D : Res} {L : List Res} (h : Hp w0 w (A :: B :: C :: D :: L)) : Hp w0 w (B :: C :: D :: A :: L) := h.b3
class LtL (i : Nat) (R : List (RowA Int)) : Prop where
 h : i < R.length
instance RdH.rowAt {w0 : World} {L : List Res} {R : List (RowA Int)} {i : Nat} [h : RowsH w0 L 1 eI R] [k : LtL i R] : RdH w0 L (R.getD i default).ia 1 eI (R.getD i default).ins := RowsH.at_ h k.h
end Go.Xw
namespace Go.Proofs
open Go.Xw
set_option maxRecDepth 100000
set_option maxHeartbeats 8000000
attribute [local irreducible] Holds elemAddr
def ExprC (w0 : World) (R : List (RowA Int)) (sa : Option Addr) (sc : Nat) (bx p wd : Nat) (y : NetA) (ops : List OpL) (oa : Option Addr) (oc : Nat) (t : ExT) : Prop :=
 ∀ (pre post : List OpL), ops = pre ++ t.ser ++ post → t.ok R.length → ∀ (s : NetL × Bool), s.1 = { y.n with ands := s.1.ands } → NetOkP s.1 → (∀ l, l ∈ insOf R → ∀ z, z ∈ l → litP z (nodesL s.1)) →
  ∀ (aa : Option Addr) (ac : Nat) (w1 : World) (L : List Res), RdH w0 L sa 1 eRo R → RowsH w0 L 1 eI R → RdH w0 L oa 3 eOp ops → Hp w0 w1 (rB bx 88 [.pointer (some ⟨p, 0, none⟩), .slice sa R.length sc, .int .i64 (wd : Int), .bool s.2] :: rB p 33 (y.wA aa ac s.1.ands).cs :: rO 120 2 eII aa ac s.1.ands :: L) →
  Ret Tryz.prog 40 [.pointer (some ⟨bx, 0, none⟩), .slice oa ops.length oc, .int .i64 (pre.length : Int)] w1 (fun v w' => ∃ b c aa' ac', v = .tuple ⟨[.slice b (evA adP (insOf R) wd t s).2.length c, .int .i64 ((pre.length + t.ser.length : Nat) : Int)]⟩ ∧ Hp w0 w' (rO 3 1 eI b c (evA adP (insOf R) wd t s).2 :: rB bx 88 [.pointer (some ⟨p, 0, none⟩), .slice sa R.length sc, .int .i64 (wd : Int), .bool (evA adP (insOf R) wd t s).1.2] :: rB p 33 (y.wA aa' ac' (evA adP (insOf R) wd t s).1.1.ands).cs :: rO 120 2 eII aa' ac' (evA adP (insOf R) wd t s).1.1.ands :: L))
theorem expr_core (w0 : World) (R : List (RowA Int)) (sa : Option Addr) (sc : Nat) (bx p wd : Nat) (hw : 1 ≤ wd ∧ wd ≤ 4) (y : NetA) (ops : List OpL) (oa : Option Addr) (oc : Nat) (hol : ops.length ≤ 15) (hRl : R.length ≤ 1000) (hRg : ∀ i, i < R.length → (R.getD i default).ins.length ≤ 1000) (t : ExT) (hk : ∀ x, x ∈ kidsT t → ExprC w0 R sa sc bx p wd y ops oa oc x) : ExprC w0 R sa sc bx p wd y ops oa oc t := by
 intro pre post hops ht s hs hok hsig aa ac w1 L hS hQ hO hp1
 obtain ⟨har, hkok⟩ := ok_kids ht
 have hser := ser_eq t
 have hlen : ops.length = pre.length + t.ser.length + post.length := by rw [hops]; simp only [List.length_append]
 have hpos := ExT.pos t
 have hsl : t.ser.length = 1 + serTo (kidsT t) (kidsT t).length := by rw [hser]; unfold serTo; rw [List.take_length, List.length_cons]; omega
 have hat : ops.getD pre.length default = opT t := by
  rw [hops, hser, List.append_assoc, List.getD_eq_getElem?_getD, List.getElem?_append_right (Nat.le_refl _), Nat.sub_self]; rfl
 refine enter Tryz.S40ok _ _ rfl rfl (by show _ ≤ _; simp only [List.length]; decide) (fun C => ?_); have hp := hp1; refine h_run rfl ?_
 (repeat (refine H_ldEN hp rfl (by omega) rfl rfl ?_))
 (first | refine H_box hp ?_ | refine H_alloc hp rfl ?_); intro w b8 hx hp; refine ops_run nopre rfl ?_; (repeat (refine U_stBN hp rfl rfl rfl rfl ?_; intro w hp; refine ops_run nopre rfl ?_))
 rw [hat] at hp
 have hp : Hp w0 _ (rB b8 132 [.int .i64 (opT t).kind, .int .i64 (opT t).a, .int .i64 (opT t).b] :: rB bx 88 [.pointer (some ⟨p, 0, none⟩), .slice sa R.length sc, .int .i64 (wd : Int), .bool s.2] :: rB p 33 (y.wA aa ac s.1.ands).cs :: rO 120 2 eII aa ac s.1.ands :: L) := hp
 have hp := hp.f3.f3.f3
 have hkl : (kidsT t).length ≤ 3 := by cases t <;> simp [kidsT]
 obtain ⟨ts, hts⟩ : ∃ ts, ts = kidsT t := ⟨_, rfl⟩
 rw [← hts] at hk hkl hkok har hsl
 refine h_loop6 [0, 1, 2, 8, 9, 10] (fun (i : Nat) (RA : List (RowA Int)) (ra : Option Addr) (rc : Nat) (_ : Option Addr) (_ : Nat) => [(0, .pointer (some ⟨bx, 0, none⟩)), (1, .slice oa ops.length oc), (2, .int .i64 ((pre.length + 1 + serTo ts i : Nat) : Int)), (8, .pointer (some ⟨b8, 0, none⟩)), (9, .slice ra RA.length rc), (10, .int .i64 (i : Int))])
  (fun i RA ra rc aa ac w' => (i ≤ ts.length ∧ insOf RA = (evTo (insOf R) wd ts s i).2) ∧ Hp w0 w' (rB bx 88 [.pointer (some ⟨p, 0, none⟩), .slice sa R.length sc, .int .i64 (wd : Int), .bool (evTo (insOf R) wd ts s i).1.2] :: rB p 33 (y.wA aa ac (evTo (insOf R) wd ts s i).1.1.ands).cs :: rO 120 2 eII aa ac (evTo (insOf R) wd ts s i).1.1.ands :: rO 31 1 eRo ra rc RA :: rRows 3 1 eI RA :: rB b8 132 [.int .i64 (opT t).kind, .int .i64 (opT t).a, .int .i64 (opT t).b] :: L)) (fun i _ _ _ _ _ => ts.length - i) 0 [] none 0 aa ac rfl ⟨⟨by omega, rfl⟩, ?_⟩ ?_
 ·have h1 : Hp w0 _ (rO 31 1 (eRo (α := Int)) none 0 [] :: rRows 3 1 eI ([] : List (RowA Int)) :: rB bx 88 [.pointer (some ⟨p, 0, none⟩), .slice sa R.length sc, .int .i64 (wd : Int), .bool s.2] :: rB p 33 (y.wA aa ac s.1.ands).cs :: rO 120 2 eII aa ac s.1.ands :: rB b8 132 [.int .i64 (opT t).kind, .int .i64 (opT t).a, .int .i64 (opT t).b] :: L) := (rRows_nil hp).ownN (Ext.refl _) (Own.nil _ _ _ _ _)
  exact h1.f1.f1.f4.f4.f4
 clear hp
 rintro i RA ra rc aa ac w1 ⟨⟨hi, hRA⟩, hp⟩ IH C
 obtain ⟨e1, e2, e3, e4⟩ := evTo_good (w := wd) (ts := ts) hok hsig i
 have hlk := e2.look hs
 have hRAl : RA.length = i := by rw [← insOf_len, hRA, e3]
 have hsti : serTo ts i ≤ serTo ts ts.length := by
  unfold serTo
  exact List.Sublist.length_le (flatMap_sub (by rw [List.take_length]; exact List.take_sublist _ _))
 refine h_run rfl ?_; (repeat (refine H_ldB hp rfl rfl ?_))
 refine h_call rfl Tryz.func95 (by kernel_rfl) rfl (implOpArity_h (opT t).kind _) ?_; rintro _ w ⟨rfl, hx⟩; have hp := hp.ext hx; refine ops_run nopre rfl ?_; skip
 rw [har]
 refine h_cond_dec (fun hlt => ?_) (fun hlt => ?_)
 ·have hi2 : i < ts.length := by omega
  have hmem : ts.getD i default ∈ ts := getD_mem hi2
  have hsn := serTo_next hi2
  have hstn : serTo ts (i + 1) ≤ serTo ts ts.length := by
   unfold serTo
   exact List.Sublist.length_le (flatMap_sub (by rw [List.take_length]; exact List.take_sublist _ _))
  have hops' : ops = (pre ++ opT t :: (ts.take i).flatMap ExT.ser) ++ (ts.getD i default).ser ++ ((ts.drop (i + 1)).flatMap ExT.ser ++ post) := by
   rw [hops, hser, ← hts]
   have hd : ts = ts.take i ++ ts.getD i default :: ts.drop (i + 1) := by
    rw [List.getD_eq_getElem?_getD, List.getElem?_eq_getElem hi2]
    show ts = ts.take i ++ ts[i] :: ts.drop (i + 1)
    rw [← List.drop_eq_getElem_cons hi2, List.take_append_drop]
   conv => lhs; rw [hd]
   simp
  have hpl : (pre ++ opT t :: (ts.take i).flatMap ExT.ser).length = pre.length + 1 + serTo ts i := by unfold serTo; simp; omega
  have hcall := hk _ hmem _ _ hops' (hkok _ hmem) (evTo (insOf R) wd ts s i).1 hlk e1 (fun l hl z hz => (hsig l hl z hz).mono e2.1.1) aa ac _ _ inferInstance inferInstance inferInstance hp
  rw [hpl] at hcall
  have eN : evTo (insOf R) wd ts s (i + 1) = ((evA adP (insOf R) wd (ts.getD i default) (evTo (insOf R) wd ts s i).1).1, (evTo (insOf R) wd ts s i).2 ++ [(evA adP (insOf R) wd (ts.getD i default) (evTo (insOf R) wd ts s i).1).2]) := rfl
  have hvl := evA_len adP (insOf R) wd (ts.getD i default) (evTo (insOf R) wd ts s i).1
  refine h_cond_t rfl rfl ?_; skip
  refine h_call rfl Tryz.func40 (by kernel_rfl) rfl (hcall) ?_; rintro _ w ⟨b, c, aa', ac', rfl, hp⟩; refine ops_run nopre rfl ?_; skip
  have hN : insOf (RA ++ [(⟨(evA adP (insOf R) wd (ts.getD i default) (evTo (insOf R) wd ts s i).1).2, b, c⟩ : RowA Int)]) = (evTo (insOf R) wd ts s (i + 1)).2 := by rw [eN, ← hRA]; simp [insOf]
  refine H_lit hp (eRo (α := Int)) [(⟨(evA adP (insOf R) wd (ts.getD i default) (evTo (insOf R) wd ts s i).1).2, b, c⟩ : RowA Int)] rfl rfl rfl rfl (s := 1) rfl (by decide) (by infer_instance) (by rfl) (by rfl) (by rfl) (by decide) ?_; intro w bl hx hp; refine ops_run nopre rfl ?_; skip
  refine U_append hp rfl rfl rfl rfl rfl rfl rfl (by decide) rfl (by first | omega | (simp only [List.length_append, List.length_cons, List.length_nil, List.length_take, List.length_drop, List.length_set, List.length_replicate, List.length_map]; omega)) rfl rfl ?_; intro ra' rc' w hp hnil; refine ops_run nopre rfl ?_; skip
  have hp := (rRows_add (y := ⟨(evA adP (insOf R) wd (ts.getD i default) (evTo (insOf R) wd ts s i).1).2, b, c⟩) ((hp.drop).f4.f4.f4.f4.f5.f5)).f4.f4.f4.f4
  refine IH (i + 1) (RA ++ [(⟨(evA adP (insOf R) wd (ts.getD i default) (evTo (insOf R) wd ts s i).1).2, b, c⟩ : RowA Int)]) ra' rc' aa' ac' _ _ _ (by omega) (by rw [hsn, ← Nat.add_assoc]; rfl) ⟨⟨by omega, hN⟩, hp⟩
 ·obtain rfl : i = ts.length := by omega
  clear IH
  have hend : pre.length + 1 + serTo ts ts.length = pre.length + t.ser.length := by omega
  rw [hend]
  refine h_cond_f rfl rfl ?_; skip
  have hfl := evA_len adP (insOf R) wd t s
  have hrow : ∀ q, q < ts.length → (RA.getD q default).ins.length = wd ∧ ∀ z, z ∈ (RA.getD q default).ins → litP z (nodesL (evTo (insOf R) wd ts s ts.length).1.1) := fun q hq => by
   rw [← insOf_get, hRA]
   exact e4 _ (getD_mem (by omega))
  cases t with
  | leaf o =>
   have hts : ts = [] := hts
   subst hts
   have hRA0 : RA.length = 0 := hRAl
   have hkd : o.kind = 0 ∨ o.kind = 2 ∨ o.kind = 3 := by
    have h1 := ht.1
    have h2 := ht.2.2
    have : 0 ≤ o.kind ∧ o.kind ≤ 3 := Classical.byContradiction fun hh => by
     unfold arL at h1; rw [if_neg hh] at h1
     split at h1
     ·omega
     split at h1
     ·omega
     split at h1 <;> omega
    omega
   refine h_cond_dec (fun _ => ?_) (fun hg => False.elim (by omega)); refine h_cond_t rfl rfl ?_; (repeat (refine H_ldB hp rfl rfl ?_))
   refine h_call rfl Tryz.func96 (by kernel_rfl) rfl (leaf_h R sa sc hRl o ht.2.1 hkd hRg bx p wd hw s.2 hp) ?_; rintro _ w ⟨b, c, rfl, hp⟩; refine ops_run nopre rfl ?_; (repeat (refine R_ret ?_))
   have hp := (hp.f3.f3.f3.f3.f6.f6.f6).drop.drop.drop
   exact ⟨b, c, aa, ac, by rw [hfl], hp⟩
  | un o x =>
   have hts : ts = [x] := hts
   subst hts
   have hRA1 : RA.length = 1 := hRAl
   have hk4 : o.kind = 4 := by
    have h1 : arL o.kind = 1 := ht.1
    unfold arL at h1
    repeat' split at h1
    all_goals omega
   have : LtL (Int.toNat 0) RA := ⟨by show 0 < RA.length; omega⟩
   obtain ⟨h0l, h0v⟩ := hrow 0 (by simp)
   have h0l : (RA.getD (Int.toNat 0) default).ins.length = wd := h0l
   have hr0 : (RA.getD (Int.toNat 0) default).ins = (evA adP (insOf R) wd x s).2 := by
    show (RA.getD 0 default).ins = _
    rw [← insOf_get, hRA]; rfl
   have hcnt := NetOkP.count e1
   have hk4 : (opT (ExT.un o x)).kind = 4 := hk4
   refine h_cond_dec (fun hg => False.elim (by omega)) (fun _ => ?_); refine h_cond_f rfl rfl ?_; (repeat (refine H_ldB hp rfl rfl ?_))
   refine h_cond_dec (fun _ => ?_) (fun hg => False.elim (by omega)); refine h_cond_t rfl rfl ?_; (repeat (refine H_ldE hp rfl (by omega) (by omega) rfl rfl ?_))
   refine h_call rfl Tryz.func97 (by kernel_rfl) rfl (complements_h _ _ _ (RA.getD (Int.toNat 0) default).ins rfl _ hp.rd (by omega) (fun i hi => by have hz : litP ((RA.getD (Int.toNat 0) default).ins.getD i default) _ := h0v _ (getD_mem hi); unfold litP at hz; omega)) ?_; rintro _ w ⟨b, c, rfl, hq⟩; have hx := hq.x; have hp := hp.call1 hq; refine ops_run nopre rfl ?_; (repeat (refine R_ret ?_))
   have hp := (hp.f3.f3.f3.f3.f6.f6.f6).drop.drop.drop
   rw [hr0] at hp
   exact ⟨b, c, aa, ac, by rw [hfl, h0l], hp⟩
  | bin o x y' =>
   have hts : ts = [x, y'] := hts
   subst hts
   have hRA2 : RA.length = 2 := hRAl
   have hk5 : 5 ≤ o.kind ∧ o.kind ≤ 11 := by
    have h1 : arL o.kind = 2 := ht.1
    unfold arL at h1
    repeat' split at h1
    all_goals omega
   have i0 : LtL (Int.toNat 0) RA := ⟨by show 0 < RA.length; omega⟩
   have i1 : LtL (Int.toNat 1) RA := ⟨by show 1 < RA.length; omega⟩
   obtain ⟨s2, hs2⟩ : ∃ s2, s2 = (evTo (insOf R) wd [x, y'] s [x, y'].length).1 := ⟨_, rfl⟩
   rw [← hs2] at hp e1 hlk hrow
   obtain ⟨h0l, h0v⟩ := hrow 0 (by simp)
   obtain ⟨h1l, h1v⟩ := hrow 1 (by simp)
   have h0l : (RA.getD (Int.toNat 0) default).ins.length = wd := h0l
   have h1l : (RA.getD (Int.toNat 1) default).ins.length = wd := h1l
   have h0v : ∀ z, z ∈ (RA.getD (Int.toNat 0) default).ins → litP z (nodesL s2.1) := h0v
   have h1v : ∀ z, z ∈ (RA.getD (Int.toNat 1) default).ins → litP z (nodesL s2.1) := h1v
   have hr0 : (RA.getD (Int.toNat 0) default).ins = (evA adP (insOf R) wd x s).2 := by
    show (RA.getD 0 default).ins = _
    rw [← insOf_get, hRA]; rfl
   have hr1 : (RA.getD (Int.toNat 1) default).ins = (evA adP (insOf R) wd y' (evA adP (insOf R) wd x s).1).2 := by
    show (RA.getD 1 default).ins = _
    rw [← insOf_get, hRA]; rfl
   have hfin : evA adP (insOf R) wd (ExT.bin o x y') s = twoA adP wd o.kind s2 (RA.getD (Int.toNat 0) default).ins (RA.getD (Int.toNat 1) default).ins := by rw [hr0, hr1, hs2]; rfl
   have hcnt := NetOkP.count e1
   have e1 : NetOkP s2.1 := e1
   refine h_cond_dec (fun hg => False.elim (by omega)) (fun _ => ?_); refine h_cond_f rfl rfl ?_; (repeat (refine H_ldB hp rfl rfl ?_))
   have hkc : o.kind = 5 ∨ o.kind = 6 ∨ o.kind = 7 ∨ o.kind = 8 ∨ o.kind = 9 ∨ o.kind = 10 ∨ o.kind = 11 := by omega
   rcases hkc with hkd | hkd | hkd | hkd | hkd | hkd | hkd
   ·have e5 : evA adP (insOf R) wd (ExT.bin o x y') s = bitTo adP.and s2 (RA.getD (Int.toNat 0) default).ins (RA.getD (Int.toNat 1) default).ins wd := by
     rw [hfin]; unfold twoA
     rw [if_neg (by omega), if_neg (by omega), if_neg (by omega), if_neg (by omega), if_pos hkd, h0l]
    have hkd' : (opT (ExT.bin o x y')).kind = 5 := hkd
    refine h_cond_dec (fun hg => False.elim (by omega)) (fun _ => ?_); refine h_cond_f rfl rfl ?_; skip
    refine h_cond_dec (fun _ => ?_) (fun hg => False.elim (by omega)); refine h_cond_t rfl rfl ?_; skip
    refine h_cond_dec (fun _ => ?_) (fun hg => False.elim (by omega)); refine h_cond_t rfl rfl ?_; (repeat (refine H_ldE hp rfl (by omega) (by omega) rfl rfl ?_))
    rw [h0l]
    refine h_loop5 [0, 2, 8, 9, 13, 105, 106] (fun (k : Nat) (o_ : Option Addr) (oc_ : Nat) (_ : Option Addr) (_ : Nat) => [(0, .pointer (some ⟨bx, 0, none⟩)), (2, .int .i64 ((pre.length + (ExT.bin o x y').ser.length : Nat) : Int)), (8, .pointer (some ⟨b8, 0, none⟩)), (9, .slice ra RA.length rc), (13, .slice o_ (bitTo adP.and s2 (RA.getD (Int.toNat 0) default).ins (RA.getD (Int.toNat 1) default).ins k).2.length oc_), (105, .int .i64 (wd : Int)), (106, .int .i64 (k : Int))])
     (fun k o_ oc_ aa ac w' => k ≤ wd ∧ Hp w0 w' (rB bx 88 [.pointer (some ⟨p, 0, none⟩), .slice sa R.length sc, .int .i64 (wd : Int), .bool (bitTo adP.and s2 (RA.getD (Int.toNat 0) default).ins (RA.getD (Int.toNat 1) default).ins k).1.2] :: rB p 33 (y.wA aa ac (bitTo adP.and s2 (RA.getD (Int.toNat 0) default).ins (RA.getD (Int.toNat 1) default).ins k).1.1.ands).cs :: rO 120 2 eII aa ac (bitTo adP.and s2 (RA.getD (Int.toNat 0) default).ins (RA.getD (Int.toNat 1) default).ins k).1.1.ands :: rO 3 1 eI o_ oc_ (bitTo adP.and s2 (RA.getD (Int.toNat 0) default).ins (RA.getD (Int.toNat 1) default).ins k).2 :: rO 31 1 eRo ra rc RA :: rRows 3 1 eI RA :: rB b8 132 [.int .i64 ((opT (ExT.bin o x y'))).kind, .int .i64 ((opT (ExT.bin o x y'))).a, .int .i64 ((opT (ExT.bin o x y'))).b] :: L)) (fun k _ _ _ _ => wd - k) 0 none 0 aa ac rfl ⟨by omega, Hp.o3012 (hp.ownN (Ext.refl _) (Own.nil _ _ _ _ _))⟩ ?_
    clear hp
    rintro k o_ oc_ aa ac w1 ⟨hk, hp⟩ IH C
    have g := bit_good adP_ok (s := s2) (f := adP.and) (fun _ _ _ _ h1 h2 h3 => adP_ok.and h1 h2 h3) e1 h0v h1v k
    have hbl := bitTo_len adP.and s2 (RA.getD (Int.toNat 0) default).ins (RA.getD (Int.toNat 1) default).ins k
    obtain ⟨r, hr⟩ : ∃ r, r = bitTo adP.and s2 (RA.getD (Int.toNat 0) default).ins (RA.getD (Int.toNat 1) default).ins k := ⟨_, rfl⟩
    rw [← hr] at g hp hbl ⊢
    have hlk2 := g.le_.look hlk
    have hi2 : NetOkP r.1.1 := g.i
    refine h_run rfl ?_; skip
    refine h_cond_dec (fun hlt => ?_) (fun hlt => ?_)
    ·have hkw : k < wd := by omega
     have va : litP ((RA.getD (Int.toNat 0) default).ins.getD k default) (nodesL r.1.1) := (h0v _ (getD_mem (by omega))).mono g.le_.1.1
     have vb : litP ((RA.getD (Int.toNat 1) default).ins.getD k default) (nodesL r.1.1) := (h1v _ (getD_mem (by omega))).mono g.le_.1.1
     have eK : bitTo adP.and s2 (RA.getD (Int.toNat 0) default).ins (RA.getD (Int.toNat 1) default).ins (k + 1) = ((adP.and r.1 ((RA.getD (Int.toNat 0) default).ins.getD k default) ((RA.getD (Int.toNat 1) default).ins.getD k default)).1, r.2 ++ [(adP.and r.1 ((RA.getD (Int.toNat 0) default).ins.getD k default) ((RA.getD (Int.toNat 1) default).ins.getD k default)).2]) := by rw [bitTo, ← hr]
     refine h_cond_t rfl rfl ?_; (repeat (refine H_ldB hp rfl rfl ?_))
     refine h_cond_dec (fun _ => ?_) (fun hg => False.elim (by omega)); refine h_cond_t rfl rfl ?_; skip
     refine D_draw hp (by kernel_rfl) (by kernel_rfl) rfl rfl ?_; intro w hx hp; have hs := hp; (repeat (refine gLoad ?_; first | refine D_ldEN rfl (by omega) rfl rfl rfl ?_ | refine D_ldE rfl (by omega) (by omega) rfl rfl rfl ?_))
     refine gCall ?_
     refine h_callq rfl Tryz.func98 (by kernel_rfl) rfl (adAnd_h y r.1 hlk2 hi2 ((RA.getD (Int.toNat 0) default).ins.getD k default) ((RA.getD (Int.toNat 1) default).ins.getD k default) va vb bx p wd _ aa ac hp) ?_; rintro _ w ⟨a1, c1, rfl, hp⟩; refine ⟨fun hq => Bool.noConfusion (hq.symm.trans (by kernel_rfl : flagAt _ _ = false)), ?_⟩; refine D_ops rfl rfl ?_; skip
     refine D_litq (by kernel_rfl) hp (adP.and r.1 ((RA.getD (Int.toNat 0) default).ins.getD k default) ((RA.getD (Int.toNat 1) default).ins.getD k default)).2 rfl rfl rfl rfl rfl rfl rfl ?_
     intro w bl hx hp
     refine D_ops rfl rfl ?_; skip
     refine V_append (a := o_) (c := oc_) (X := r.2) (Y := [(adP.and r.1 ((RA.getD (Int.toNat 0) default).ins.getD k default) ((RA.getD (Int.toNat 1) default).ins.getD k default)).2]) hp rfl rfl rfl rfl rfl rfl rfl (by decide) rfl (by rw [hbl]; show k + 1 ≤ _; omega) rfl rfl (by kernel_rfl) ?_
     intro o' oc' w hp hnil
     refine D_ops rfl rfl ?_; skip
     skip
     refine IH (k + 1) o' oc' a1 c1 _ _ _ (by omega) (by rw [eK]; rfl) ⟨by omega, ?_⟩
     rw [eK]
     exact hp.drop
    ·refine h_cond_f rfl rfl ?_; (repeat (refine R_ret ?_))
     obtain rfl : k = wd := by omega
     rw [hr, ← e5] at hp
     have hp := (hp.f2.f2.f2.f3.f6.f6.f6).drop.drop.drop
     exact ⟨o_, oc_, aa, ac, by rw [hr, ← e5], hp⟩
   ·have e5 : evA adP (insOf R) wd (ExT.bin o x y') s = bitTo adP.or s2 (RA.getD (Int.toNat 0) default).ins (RA.getD (Int.toNat 1) default).ins wd := by
     rw [hfin]; unfold twoA
     rw [if_neg (by omega), if_neg (by omega), if_neg (by omega), if_neg (by omega), if_neg (by omega), if_pos hkd, h0l]
    have hkd' : (opT (ExT.bin o x y')).kind = 6 := hkd
    refine h_cond_dec (fun hg => False.elim (by omega)) (fun _ => ?_); refine h_cond_f rfl rfl ?_; skip
    refine h_cond_dec (fun hg => False.elim (by omega)) (fun _ => ?_); refine h_cond_f rfl rfl ?_; skip
    refine h_cond_dec (fun _ => ?_) (fun hg => False.elim (by omega)); refine h_cond_t rfl rfl ?_; skip
    refine h_cond_dec (fun _ => ?_) (fun hg => False.elim (by omega)); refine h_cond_t rfl rfl ?_; (repeat (refine H_ldE hp rfl (by omega) (by omega) rfl rfl ?_))
    rw [h0l]
    refine h_loop5 [0, 2, 8, 9, 13, 105, 106] (fun (k : Nat) (o_ : Option Addr) (oc_ : Nat) (_ : Option Addr) (_ : Nat) => [(0, .pointer (some ⟨bx, 0, none⟩)), (2, .int .i64 ((pre.length + (ExT.bin o x y').ser.length : Nat) : Int)), (8, .pointer (some ⟨b8, 0, none⟩)), (9, .slice ra RA.length rc), (13, .slice o_ (bitTo adP.or s2 (RA.getD (Int.toNat 0) default).ins (RA.getD (Int.toNat 1) default).ins k).2.length oc_), (105, .int .i64 (wd : Int)), (106, .int .i64 (k : Int))])
     (fun k o_ oc_ aa ac w' => k ≤ wd ∧ Hp w0 w' (rB bx 88 [.pointer (some ⟨p, 0, none⟩), .slice sa R.length sc, .int .i64 (wd : Int), .bool (bitTo adP.or s2 (RA.getD (Int.toNat 0) default).ins (RA.getD (Int.toNat 1) default).ins k).1.2] :: rB p 33 (y.wA aa ac (bitTo adP.or s2 (RA.getD (Int.toNat 0) default).ins (RA.getD (Int.toNat 1) default).ins k).1.1.ands).cs :: rO 120 2 eII aa ac (bitTo adP.or s2 (RA.getD (Int.toNat 0) default).ins (RA.getD (Int.toNat 1) default).ins k).1.1.ands :: rO 3 1 eI o_ oc_ (bitTo adP.or s2 (RA.getD (Int.toNat 0) default).ins (RA.getD (Int.toNat 1) default).ins k).2 :: rO 31 1 eRo ra rc RA :: rRows 3 1 eI RA :: rB b8 132 [.int .i64 ((opT (ExT.bin o x y'))).kind, .int .i64 ((opT (ExT.bin o x y'))).a, .int .i64 ((opT (ExT.bin o x y'))).b] :: L)) (fun k _ _ _ _ => wd - k) 0 none 0 aa ac rfl ⟨by omega, Hp.o3012 (hp.ownN (Ext.refl _) (Own.nil _ _ _ _ _))⟩ ?_
    clear hp
    rintro k o_ oc_ aa ac w1 ⟨hk, hp⟩ IH C
    have g := bit_good adP_ok (s := s2) (f := adP.or) (fun _ _ _ _ h1 h2 h3 => adP_ok.or h1 h2 h3) e1 h0v h1v k
    have hbl := bitTo_len adP.or s2 (RA.getD (Int.toNat 0) default).ins (RA.getD (Int.toNat 1) default).ins k
    obtain ⟨r, hr⟩ : ∃ r, r = bitTo adP.or s2 (RA.getD (Int.toNat 0) default).ins (RA.getD (Int.toNat 1) default).ins k := ⟨_, rfl⟩
    rw [← hr] at g hp hbl ⊢
    have hlk2 := g.le_.look hlk
    have hi2 : NetOkP r.1.1 := g.i
    refine h_run rfl ?_; skip
    refine h_cond_dec (fun hlt => ?_) (fun hlt => ?_)
    ·have hkw : k < wd := by omega
     have va : litP ((RA.getD (Int.toNat 0) default).ins.getD k default) (nodesL r.1.1) := (h0v _ (getD_mem (by omega))).mono g.le_.1.1
     have vb : litP ((RA.getD (Int.toNat 1) default).ins.getD k default) (nodesL r.1.1) := (h1v _ (getD_mem (by omega))).mono g.le_.1.1
     have eK : bitTo adP.or s2 (RA.getD (Int.toNat 0) default).ins (RA.getD (Int.toNat 1) default).ins (k + 1) = ((adP.or r.1 ((RA.getD (Int.toNat 0) default).ins.getD k default) ((RA.getD (Int.toNat 1) default).ins.getD k default)).1, r.2 ++ [(adP.or r.1 ((RA.getD (Int.toNat 0) default).ins.getD k default) ((RA.getD (Int.toNat 1) default).ins.getD k default)).2]) := by rw [bitTo, ← hr]
     refine h_cond_t rfl rfl ?_; (repeat (refine H_ldB hp rfl rfl ?_))
     refine h_cond_dec (fun hg => False.elim (by omega)) (fun _ => ?_); refine h_cond_f rfl rfl ?_; skip
     refine h_cond_dec (fun _ => ?_) (fun hg => False.elim (by omega)); refine h_cond_t rfl rfl ?_; skip
     refine D_draw hp (by kernel_rfl) (by kernel_rfl) rfl rfl ?_; intro w hx hp; have hs := hp; (repeat (refine gLoad ?_; first | refine D_ldEN rfl (by omega) rfl rfl rfl ?_ | refine D_ldE rfl (by omega) (by omega) rfl rfl rfl ?_))
     refine gCall ?_
     refine h_callq rfl Tryz.func99 (by kernel_rfl) rfl (adOr_h y r.1 hlk2 hi2 ((RA.getD (Int.toNat 0) default).ins.getD k default) ((RA.getD (Int.toNat 1) default).ins.getD k default) va vb bx p wd _ aa ac hp) ?_; rintro _ w ⟨a1, c1, rfl, hp⟩; refine ⟨fun hq => Bool.noConfusion (hq.symm.trans (by kernel_rfl : flagAt _ _ = false)), ?_⟩; refine D_ops rfl rfl ?_; skip
     refine D_litq (by kernel_rfl) hp (adP.or r.1 ((RA.getD (Int.toNat 0) default).ins.getD k default) ((RA.getD (Int.toNat 1) default).ins.getD k default)).2 rfl rfl rfl rfl rfl rfl rfl ?_
     intro w bl hx hp
     refine D_ops rfl rfl ?_; skip
     refine V_append (a := o_) (c := oc_) (X := r.2) (Y := [(adP.or r.1 ((RA.getD (Int.toNat 0) default).ins.getD k default) ((RA.getD (Int.toNat 1) default).ins.getD k default)).2]) hp rfl rfl rfl rfl rfl rfl rfl (by decide) rfl (by rw [hbl]; show k + 1 ≤ _; omega) rfl rfl (by kernel_rfl) ?_
     intro o' oc' w hp hnil
     refine D_ops rfl rfl ?_; skip
     skip
     refine IH (k + 1) o' oc' a1 c1 _ _ _ (by omega) (by rw [eK]; rfl) ⟨by omega, ?_⟩
     rw [eK]
     exact hp.drop
    ·refine h_cond_f rfl rfl ?_; (repeat (refine R_ret ?_))
     obtain rfl : k = wd := by omega
     rw [hr, ← e5] at hp
     have hp := (hp.f2.f2.f2.f3.f6.f6.f6).drop.drop.drop
     exact ⟨o_, oc_, aa, ac, by rw [hr, ← e5], hp⟩
   ·have e5 : evA adP (insOf R) wd (ExT.bin o x y') s = bitTo adP.xor s2 (RA.getD (Int.toNat 0) default).ins (RA.getD (Int.toNat 1) default).ins wd := by
     rw [hfin]; unfold twoA
     rw [if_neg (by omega), if_neg (by omega), if_neg (by omega), if_neg (by omega), if_neg (by omega), if_neg (by omega), h0l]
    have hkd' : (opT (ExT.bin o x y')).kind = 7 := hkd
    refine h_cond_dec (fun hg => False.elim (by omega)) (fun _ => ?_); refine h_cond_f rfl rfl ?_; skip
    refine h_cond_dec (fun hg => False.elim (by omega)) (fun _ => ?_); refine h_cond_f rfl rfl ?_; skip
    refine h_cond_dec (fun hg => False.elim (by omega)) (fun _ => ?_); refine h_cond_f rfl rfl ?_; skip
    refine h_cond_dec (fun _ => ?_) (fun hg => False.elim (by omega)); refine h_cond_t rfl rfl ?_; (repeat (refine H_ldE hp rfl (by omega) (by omega) rfl rfl ?_))
    rw [h0l]
    refine h_loop5 [0, 2, 8, 9, 13, 105, 106] (fun (k : Nat) (o_ : Option Addr) (oc_ : Nat) (_ : Option Addr) (_ : Nat) => [(0, .pointer (some ⟨bx, 0, none⟩)), (2, .int .i64 ((pre.length + (ExT.bin o x y').ser.length : Nat) : Int)), (8, .pointer (some ⟨b8, 0, none⟩)), (9, .slice ra RA.length rc), (13, .slice o_ (bitTo adP.xor s2 (RA.getD (Int.toNat 0) default).ins (RA.getD (Int.toNat 1) default).ins k).2.length oc_), (105, .int .i64 (wd : Int)), (106, .int .i64 (k : Int))])
     (fun k o_ oc_ aa ac w' => k ≤ wd ∧ Hp w0 w' (rB bx 88 [.pointer (some ⟨p, 0, none⟩), .slice sa R.length sc, .int .i64 (wd : Int), .bool (bitTo adP.xor s2 (RA.getD (Int.toNat 0) default).ins (RA.getD (Int.toNat 1) default).ins k).1.2] :: rB p 33 (y.wA aa ac (bitTo adP.xor s2 (RA.getD (Int.toNat 0) default).ins (RA.getD (Int.toNat 1) default).ins k).1.1.ands).cs :: rO 120 2 eII aa ac (bitTo adP.xor s2 (RA.getD (Int.toNat 0) default).ins (RA.getD (Int.toNat 1) default).ins k).1.1.ands :: rO 3 1 eI o_ oc_ (bitTo adP.xor s2 (RA.getD (Int.toNat 0) default).ins (RA.getD (Int.toNat 1) default).ins k).2 :: rO 31 1 eRo ra rc RA :: rRows 3 1 eI RA :: rB b8 132 [.int .i64 ((opT (ExT.bin o x y'))).kind, .int .i64 ((opT (ExT.bin o x y'))).a, .int .i64 ((opT (ExT.bin o x y'))).b] :: L)) (fun k _ _ _ _ => wd - k) 0 none 0 aa ac rfl ⟨by omega, Hp.o3012 (hp.ownN (Ext.refl _) (Own.nil _ _ _ _ _))⟩ ?_
    clear hp
    rintro k o_ oc_ aa ac w1 ⟨hk, hp⟩ IH C
    have g := bit_good adP_ok (s := s2) (f := adP.xor) (fun _ _ _ _ h1 h2 h3 => adP_ok.xor h1 h2 h3) e1 h0v h1v k
    have hbl := bitTo_len adP.xor s2 (RA.getD (Int.toNat 0) default).ins (RA.getD (Int.toNat 1) default).ins k
    obtain ⟨r, hr⟩ : ∃ r, r = bitTo adP.xor s2 (RA.getD (Int.toNat 0) default).ins (RA.getD (Int.toNat 1) default).ins k := ⟨_, rfl⟩
    rw [← hr] at g hp hbl ⊢
    have hlk2 := g.le_.look hlk
    have hi2 : NetOkP r.1.1 := g.i
    refine h_run rfl ?_; skip
    refine h_cond_dec (fun hlt => ?_) (fun hlt => ?_)
    ·have hkw : k < wd := by omega
     have va : litP ((RA.getD (Int.toNat 0) default).ins.getD k default) (nodesL r.1.1) := (h0v _ (getD_mem (by omega))).mono g.le_.1.1
     have vb : litP ((RA.getD (Int.toNat 1) default).ins.getD k default) (nodesL r.1.1) := (h1v _ (getD_mem (by omega))).mono g.le_.1.1
     have eK : bitTo adP.xor s2 (RA.getD (Int.toNat 0) default).ins (RA.getD (Int.toNat 1) default).ins (k + 1) = ((adP.xor r.1 ((RA.getD (Int.toNat 0) default).ins.getD k default) ((RA.getD (Int.toNat 1) default).ins.getD k default)).1, r.2 ++ [(adP.xor r.1 ((RA.getD (Int.toNat 0) default).ins.getD k default) ((RA.getD (Int.toNat 1) default).ins.getD k default)).2]) := by rw [bitTo, ← hr]
     refine h_cond_t rfl rfl ?_; (repeat (refine H_ldB hp rfl rfl ?_))
     refine h_cond_dec (fun hg => False.elim (by omega)) (fun _ => ?_); refine h_cond_f rfl rfl ?_; skip
     refine h_cond_dec (fun hg => False.elim (by omega)) (fun _ => ?_); refine h_cond_f rfl rfl ?_; skip
     refine D_draw hp (by kernel_rfl) (by kernel_rfl) rfl rfl ?_; intro w hx hp; have hs := hp; (repeat (refine gLoad ?_; first | refine D_ldEN rfl (by omega) rfl rfl rfl ?_ | refine D_ldE rfl (by omega) (by omega) rfl rfl rfl ?_))
     refine gCall ?_
     refine h_callq rfl Tryz.func100 (by kernel_rfl) rfl (adXor_h y r.1 hlk2 hi2 ((RA.getD (Int.toNat 0) default).ins.getD k default) ((RA.getD (Int.toNat 1) default).ins.getD k default) va vb bx p wd _ aa ac hp) ?_; rintro _ w ⟨a1, c1, rfl, hp⟩; refine ⟨fun hq => Bool.noConfusion (hq.symm.trans (by kernel_rfl : flagAt _ _ = false)), ?_⟩; refine D_ops rfl rfl ?_; skip
     refine D_litq (by kernel_rfl) hp (adP.xor r.1 ((RA.getD (Int.toNat 0) default).ins.getD k default) ((RA.getD (Int.toNat 1) default).ins.getD k default)).2 rfl rfl rfl rfl rfl rfl rfl ?_
     intro w bl hx hp
     refine D_ops rfl rfl ?_; skip
     refine V_append (a := o_) (c := oc_) (X := r.2) (Y := [(adP.xor r.1 ((RA.getD (Int.toNat 0) default).ins.getD k default) ((RA.getD (Int.toNat 1) default).ins.getD k default)).2]) hp rfl rfl rfl rfl rfl rfl rfl (by decide) rfl (by rw [hbl]; show k + 1 ≤ _; omega) rfl rfl (by kernel_rfl) ?_
     intro o' oc' w hp hnil
     refine D_ops rfl rfl ?_; skip
     skip
     refine IH (k + 1) o' oc' a1 c1 _ _ _ (by omega) (by rw [eK]; rfl) ⟨by omega, ?_⟩
     rw [eK]
     exact hp.drop
    ·refine h_cond_f rfl rfl ?_; (repeat (refine R_ret ?_))
     obtain rfl : k = wd := by omega
     rw [hr, ← e5] at hp
     have hp := (hp.f2.f2.f2.f3.f6.f6.f6).drop.drop.drop
     exact ⟨o_, oc_, aa, ac, by rw [hr, ← e5], hp⟩
   ·have hkd' : (opT (ExT.bin o x y')).kind = 8 := hkd
    have e8 : evA adP (insOf R) wd (ExT.bin o x y') s = sumA adP s2 (RA.getD (Int.toNat 0) default).ins (RA.getD (Int.toNat 1) default).ins 0 := by rw [hfin]; unfold twoA; rw [if_pos hkd]
    refine h_cond_dec (fun hg => False.elim (by omega)) (fun _ => ?_); refine h_cond_f rfl rfl ?_; skip
    refine h_cond_dec (fun hg => False.elim (by omega)) (fun _ => ?_); refine h_cond_f rfl rfl ?_; skip
    refine h_cond_dec (fun hg => False.elim (by omega)) (fun _ => ?_); refine h_cond_f rfl rfl ?_; skip
    refine h_cond_dec (fun hg => False.elim (by omega)) (fun _ => ?_); refine h_cond_f rfl rfl ?_; skip
    refine h_cond_dec (fun _ => ?_) (fun hg => False.elim (by omega)); refine h_cond_t rfl rfl ?_; skip
    refine D_draw hp (by kernel_rfl) (by kernel_rfl) rfl rfl ?_; intro w hx hp; have hs := hp; (repeat (refine D_ldE rfl (by omega) (by omega) rfl rfl rfl ?_))
    refine gCall ?_
    rw [h0l, h1l]
    refine h_callq rfl Tryz.func101 (by kernel_rfl) rfl (sum_h y s2 hlk e1 _ _ _ _ wd hw (RA.getD (Int.toNat 0) default).ins (RA.getD (Int.toNat 1) default).ins 0 h0l h1l h0v h1v (litP0 e1).1 bx p _ aa ac hp) ?_; rintro _ w ⟨b, c, a1, c1, rfl, hp⟩; refine ⟨fun hq => Bool.noConfusion (hq.symm.trans (by kernel_rfl : flagAt _ _ = false)), ?_⟩; refine D_ops rfl rfl ?_; (repeat (refine R_ret ?_))
    skip
    rw [← e8] at hp
    have hp := (hp.f3.f3.f3.f3.f6.f6.f6).drop.drop.drop
    exact ⟨b, c, a1, c1, by rw [hfl], hp⟩
   ·have hkd' : (opT (ExT.bin o x y')).kind = 9 := hkd
    have e9 : evA adP (insOf R) wd (ExT.bin o x y') s = sumA adP s2 (RA.getD (Int.toNat 0) default).ins ((RA.getD (Int.toNat 1) default).ins.map notL) 1 := by rw [hfin]; unfold twoA; rw [if_neg (by omega), if_pos hkd]; rfl
    refine h_cond_dec (fun hg => False.elim (by omega)) (fun _ => ?_); refine h_cond_f rfl rfl ?_; skip
    refine h_cond_dec (fun hg => False.elim (by omega)) (fun _ => ?_); refine h_cond_f rfl rfl ?_; skip
    refine h_cond_dec (fun hg => False.elim (by omega)) (fun _ => ?_); refine h_cond_f rfl rfl ?_; skip
    refine h_cond_dec (fun hg => False.elim (by omega)) (fun _ => ?_); refine h_cond_f rfl rfl ?_; skip
    refine h_cond_dec (fun hg => False.elim (by omega)) (fun _ => ?_); refine h_cond_f rfl rfl ?_; skip
    refine h_cond_dec (fun _ => ?_) (fun hg => False.elim (by omega)); refine h_cond_t rfl rfl ?_; skip
    refine D_draw hp (by kernel_rfl) (by kernel_rfl) rfl rfl ?_; intro w hx hp; have hs := hp; (repeat (refine D_ldE rfl (by omega) (by omega) rfl rfl rfl ?_))
    refine gCall ?_
    rw [h0l, h1l]
    refine h_callq rfl Tryz.func97 (by kernel_rfl) rfl (complements_h _ _ wd (RA.getD (Int.toNat 1) default).ins h1l _ hp.rd (by omega) (fun i hi => by have hz : litP ((RA.getD (Int.toNat 1) default).ins.getD i default) _ := h1v _ (getD_mem hi); unfold litP at hz; omega)) ?_; rintro _ w ⟨bn, cn, rfl, hq⟩; have hx := hq.x; have hp := hp.call1 hq; have hs := hs.ext hx; refine ⟨fun _ => hs, ?_⟩; refine D_ops rfl rfl ?_; skip
    have hp := hp.f3.f3.f3
    refine h_callq rfl Tryz.func101 (by kernel_rfl) rfl (sum_h y s2 hlk e1 _ _ _ _ wd hw (RA.getD (Int.toNat 0) default).ins ((RA.getD (Int.toNat 1) default).ins.map notL) 1 h0l (by rw [List.length_map]; exact h1l) h0v (fun z hz => by obtain ⟨z', hz', rfl⟩ := List.mem_map.1 hz; exact litP_not (h1v z' hz') (by omega)) (litP0 e1).2 bx p _ aa ac hp) ?_; rintro _ w ⟨b, c, a1, c1, rfl, hp⟩; refine ⟨fun hq => Bool.noConfusion (hq.symm.trans (by kernel_rfl : flagAt _ _ = false)), ?_⟩; refine D_ops rfl rfl ?_; (repeat (refine R_ret ?_))
    skip
    rw [← e9] at hp
    have hp := (hp.f3.f3.f3.f3.f7.f7.f7.f7).drop.drop.drop.drop
    exact ⟨b, c, a1, c1, by rw [hfl], hp⟩
   ·have hkd' : (opT (ExT.bin o x y')).kind = 10 := hkd
    have ed : decide ((opT (ExT.bin o x y')).kind = 10) = true := decide_eq_true hkd
    have eC : evA adP (insOf R) wd (ExT.bin o x y') s = ((cmpTo adP true s2 (RA.getD (Int.toNat 0) default).ins (RA.getD (Int.toNat 1) default).ins wd).1, loneL wd (cmpTo adP true s2 (RA.getD (Int.toNat 0) default).ins (RA.getD (Int.toNat 1) default).ins wd).2) := by rw [hfin]; unfold twoA; rw [if_neg (by omega), if_neg (by omega), if_pos hkd, h0l]
    refine h_cond_dec (fun hg => False.elim (by omega)) (fun _ => ?_); refine h_cond_f rfl rfl ?_; skip
    refine h_cond_dec (fun hg => False.elim (by omega)) (fun _ => ?_); refine h_cond_f rfl rfl ?_; skip
    refine h_cond_dec (fun hg => False.elim (by omega)) (fun _ => ?_); refine h_cond_f rfl rfl ?_; skip
    refine h_cond_dec (fun hg => False.elim (by omega)) (fun _ => ?_); refine h_cond_f rfl rfl ?_; skip
    refine h_cond_dec (fun hg => False.elim (by omega)) (fun _ => ?_); refine h_cond_f rfl rfl ?_; skip
    refine h_cond_dec (fun hg => False.elim (by omega)) (fun _ => ?_); refine h_cond_f rfl rfl ?_; skip
    refine h_cond_dec (fun _ => ?_) (fun hg => False.elim (by omega)); refine h_cond_t rfl rfl ?_; skip
    refine h_cond_dec (fun _ => ?_) (fun hg => False.elim (by omega)); refine h_cond_t rfl rfl ?_; skip
    refine D_draw hp (by kernel_rfl) (by kernel_rfl) rfl rfl ?_; intro w hx hp; have hs := hp; (repeat (refine gLoad ?_; first | refine D_ldB rfl rfl rfl ?_ | refine D_ldE rfl (by omega) (by omega) rfl rfl rfl ?_))
    refine gCall ?_
    rw [h0l, h1l]
    refine h_callq rfl Tryz.func102 (by kernel_rfl) rfl (compare_h y (opT (ExT.bin o x y')).kind s2 hlk e1 _ _ _ _ wd hw (RA.getD (Int.toNat 0) default).ins (RA.getD (Int.toNat 1) default).ins h0l h1l h0v h1v bx p _ aa ac hp) ?_; rintro _ w ⟨b, c, a1, c1, rfl, hp⟩; refine ⟨fun hq => Bool.noConfusion (hq.symm.trans (by kernel_rfl : flagAt _ _ = false)), ?_⟩; refine D_ops rfl rfl ?_; (repeat (refine R_ret ?_))
    skip
    rw [ed] at hp
    have hp := (hp.f3.f3.f3.f3.f6.f6.f6).drop.drop.drop
    refine ⟨b, c, a1, c1, by rw [hfl], ?_⟩
    rw [eC]
    exact hp
   ·have hkd' : (opT (ExT.bin o x y')).kind = 11 := hkd
    have ed : decide ((opT (ExT.bin o x y')).kind = 10) = false := decide_eq_false (by omega)
    have eC : evA adP (insOf R) wd (ExT.bin o x y') s = ((cmpTo adP false s2 (RA.getD (Int.toNat 0) default).ins (RA.getD (Int.toNat 1) default).ins wd).1, loneL wd (cmpTo adP false s2 (RA.getD (Int.toNat 0) default).ins (RA.getD (Int.toNat 1) default).ins wd).2) := by rw [hfin]; unfold twoA; rw [if_neg (by omega), if_neg (by omega), if_neg (by omega), if_pos hkd, h0l]
    refine h_cond_dec (fun hg => False.elim (by omega)) (fun _ => ?_); refine h_cond_f rfl rfl ?_; skip
    refine h_cond_dec (fun hg => False.elim (by omega)) (fun _ => ?_); refine h_cond_f rfl rfl ?_; skip
    refine h_cond_dec (fun hg => False.elim (by omega)) (fun _ => ?_); refine h_cond_f rfl rfl ?_; skip
    refine h_cond_dec (fun hg => False.elim (by omega)) (fun _ => ?_); refine h_cond_f rfl rfl ?_; skip
    refine h_cond_dec (fun hg => False.elim (by omega)) (fun _ => ?_); refine h_cond_f rfl rfl ?_; skip
    refine h_cond_dec (fun hg => False.elim (by omega)) (fun _ => ?_); refine h_cond_f rfl rfl ?_; skip
    refine h_cond_dec (fun hg => False.elim (by omega)) (fun _ => ?_); refine h_cond_f rfl rfl ?_; skip
    refine h_cond_dec (fun _ => ?_) (fun hg => False.elim (by omega)); refine h_cond_t rfl rfl ?_; skip
    refine D_draw hp (by kernel_rfl) (by kernel_rfl) rfl rfl ?_; intro w hx hp; have hs := hp; (repeat (refine gLoad ?_; first | refine D_ldB rfl rfl rfl ?_ | refine D_ldE rfl (by omega) (by omega) rfl rfl rfl ?_))
    refine gCall ?_
    rw [h0l, h1l]
    refine h_callq rfl Tryz.func102 (by kernel_rfl) rfl (compare_h y (opT (ExT.bin o x y')).kind s2 hlk e1 _ _ _ _ wd hw (RA.getD (Int.toNat 0) default).ins (RA.getD (Int.toNat 1) default).ins h0l h1l h0v h1v bx p _ aa ac hp) ?_; rintro _ w ⟨b, c, a1, c1, rfl, hp⟩; refine ⟨fun hq => Bool.noConfusion (hq.symm.trans (by kernel_rfl : flagAt _ _ = false)), ?_⟩; refine D_ops rfl rfl ?_; (repeat (refine R_ret ?_))
    skip
    rw [ed] at hp
    have hp := (hp.f3.f3.f3.f3.f6.f6.f6).drop.drop.drop
    refine ⟨b, c, a1, c1, by rw [hfl], ?_⟩
    rw [eC]
    exact hp
  | tri o x y' z =>
   have hts : ts = [x, y', z] := hts
   subst hts
   have hRA3 : RA.length = 3 := hRAl
   have hk12 : (opT (ExT.tri o x y' z)).kind = 12 := by
    have h1 : arL o.kind = 3 := ht.1
    show o.kind = 12
    unfold arL at h1
    repeat' split at h1
    all_goals omega
   have i0 : LtL (Int.toNat 0) RA := ⟨by show 0 < RA.length; omega⟩
   have i1 : LtL (Int.toNat 1) RA := ⟨by show 1 < RA.length; omega⟩
   have i2 : LtL (Int.toNat 2) RA := ⟨by show 2 < RA.length; omega⟩
   obtain ⟨s3, hs3⟩ : ∃ s3, s3 = (evTo (insOf R) wd [x, y', z] s [x, y', z].length).1 := ⟨_, rfl⟩
   rw [← hs3] at hp e1 hlk hrow
   obtain ⟨h0l, h0v⟩ := hrow 0 (by simp)
   have h0l : (RA.getD (Int.toNat 0) default).ins.length = wd := h0l
   have h0v : ∀ z, z ∈ (RA.getD (Int.toNat 0) default).ins → litP z (nodesL s3.1) := h0v
   obtain ⟨h1l, h1v⟩ := hrow 1 (by simp)
   have h1l : (RA.getD (Int.toNat 1) default).ins.length = wd := h1l
   have h1v : ∀ z, z ∈ (RA.getD (Int.toNat 1) default).ins → litP z (nodesL s3.1) := h1v
   obtain ⟨h2l, h2v⟩ := hrow 2 (by simp)
   have h2l : (RA.getD (Int.toNat 2) default).ins.length = wd := h2l
   have h2v : ∀ z, z ∈ (RA.getD (Int.toNat 2) default).ins → litP z (nodesL s3.1) := h2v
   have hr0 : (RA.getD (Int.toNat 0) default).ins = (evA adP (insOf R) wd x s).2 := by
    show (RA.getD 0 default).ins = _
    rw [← insOf_get, hRA]; rfl
   have hr1 : (RA.getD (Int.toNat 1) default).ins = (evA adP (insOf R) wd y' (evA adP (insOf R) wd x s).1).2 := by
    show (RA.getD 1 default).ins = _
    rw [← insOf_get, hRA]; rfl
   have hr2 : (RA.getD (Int.toNat 2) default).ins = (evA adP (insOf R) wd z (evA adP (insOf R) wd y' (evA adP (insOf R) wd x s).1).1).2 := by
    show (RA.getD 2 default).ins = _
    rw [← insOf_get, hRA]; rfl
   have hfin : evA adP (insOf R) wd (ExT.tri o x y' z) s = muxA adP s3 (RA.getD (Int.toNat 0) default).ins (RA.getD (Int.toNat 1) default).ins (RA.getD (Int.toNat 2) default).ins := by rw [hr0, hr1, hr2, hs3]; rfl
   have e1 : NetOkP s3.1 := e1
   refine h_cond_dec (fun hg => False.elim (by omega)) (fun _ => ?_); refine h_cond_f rfl rfl ?_; (repeat (refine H_ldB hp rfl rfl ?_))
   refine h_cond_dec (fun hg => False.elim (by omega)) (fun _ => ?_); refine h_cond_f rfl rfl ?_; skip
   refine h_cond_dec (fun hg => False.elim (by omega)) (fun _ => ?_); refine h_cond_f rfl rfl ?_; skip
   refine h_cond_dec (fun hg => False.elim (by omega)) (fun _ => ?_); refine h_cond_f rfl rfl ?_; skip
   refine h_cond_dec (fun hg => False.elim (by omega)) (fun _ => ?_); refine h_cond_f rfl rfl ?_; skip
   refine h_cond_dec (fun hg => False.elim (by omega)) (fun _ => ?_); refine h_cond_f rfl rfl ?_; skip
   refine h_cond_dec (fun hg => False.elim (by omega)) (fun _ => ?_); refine h_cond_f rfl rfl ?_; skip
   refine h_cond_dec (fun hg => False.elim (by omega)) (fun _ => ?_); refine h_cond_f rfl rfl ?_; skip
   refine h_cond_dec (fun hg => False.elim (by omega)) (fun _ => ?_); refine h_cond_f rfl rfl ?_; (repeat (refine H_ldE hp rfl (by omega) (by omega) rfl rfl ?_))
   rw [h0l]
   refine h_loop3 [0, 2, 9, 13, 15, 55, 56, 57] (fun (k : Nat) (_ : Option Addr) (_ : Nat) => [(0, .pointer (some ⟨bx, 0, none⟩)), (2, .int .i64 ((pre.length + (ExT.tri o x y' z).ser.length : Nat) : Int)), (9, .slice ra RA.length rc), (13, .slice none 0 0), (15, .int .i64 (anyTo adP s3 (RA.getD (Int.toNat 0) default).ins k).2), (55, .slice (RA.getD (Int.toNat 0) default).ia wd (RA.getD (Int.toNat 0) default).ic), (56, .int .i64 (wd : Int)), (57, .int .i64 (k : Int))])
    (fun k aa ac w' => k ≤ wd ∧ Hp w0 w' (rB bx 88 [.pointer (some ⟨p, 0, none⟩), .slice sa R.length sc, .int .i64 (wd : Int), .bool (anyTo adP s3 (RA.getD (Int.toNat 0) default).ins k).1.2] :: rB p 33 (y.wA aa ac (anyTo adP s3 (RA.getD (Int.toNat 0) default).ins k).1.1.ands).cs :: rO 120 2 eII aa ac (anyTo adP s3 (RA.getD (Int.toNat 0) default).ins k).1.1.ands :: rO 31 1 eRo ra rc RA :: rRows 3 1 eI RA :: rB b8 132 [.int .i64 (opT (ExT.tri o x y' z)).kind, .int .i64 (opT (ExT.tri o x y' z)).a, .int .i64 (opT (ExT.tri o x y' z)).b] :: L)) (fun k _ _ => wd - k) 0 aa ac rfl ⟨by omega, hp⟩ ?_
   clear hp
   rintro k aa ac w1 ⟨hk, hp⟩ IH C
   obtain ⟨gi, gv, gl⟩ := any_good adP_ok e1 h0v k
   obtain ⟨r, hr⟩ : ∃ r, r = anyTo adP s3 (RA.getD (Int.toNat 0) default).ins k := ⟨_, rfl⟩
   rw [← hr] at gi gv gl hp ⊢
   have gi : NetOkP r.1.1 := gi
   have hlk2 := gl.look hlk
   refine h_run rfl ?_; skip
   refine h_cond_dec (fun hlt => ?_) (fun hlt => ?_)
   ·have hkw : k < wd := by omega
    have va : litP ((RA.getD (Int.toNat 0) default).ins.getD k default) (nodesL r.1.1) := (h0v _ (getD_mem (by omega))).mono gl.1.1
    have eK : anyTo adP s3 (RA.getD (Int.toNat 0) default).ins (k + 1) = adP.or r.1 r.2 ((RA.getD (Int.toNat 0) default).ins.getD k default) := by rw [anyTo, ← hr]
    refine h_cond_t rfl rfl ?_; (repeat (refine H_ldEN hp rfl (by omega) rfl rfl ?_))
    refine h_call rfl Tryz.func99 (by kernel_rfl) rfl (adOr_h y r.1 hlk2 gi r.2 ((RA.getD (Int.toNat 0) default).ins.getD k default) gv va bx p wd _ aa ac hp) ?_; rintro _ w ⟨a1, c1, rfl, hp⟩; refine ops_run nopre rfl ?_; skip
    refine IH (k + 1) a1 c1 _ _ _ (by omega) (by rw [eK]; rfl) ⟨by omega, ?_⟩
    rw [eK]
    exact hp
   ·obtain rfl : k = wd := by omega
    clear IH
    obtain ⟨s4, hs4⟩ : ∃ s4, s4 = r.1 := ⟨_, rfl⟩
    obtain ⟨e, he⟩ : ∃ e, e = r.2 := ⟨_, rfl⟩
    rw [← hs4] at gi gv gl hlk2 hp
    rw [← he] at gv ⊢
    have h1v4 : ∀ z, z ∈ (RA.getD (Int.toNat 1) default).ins → litP z (nodesL s4.1) := fun z hz => (h1v z hz).mono gl.1.1
    have h2v4 : ∀ z, z ∈ (RA.getD (Int.toNat 2) default).ins → litP z (nodesL s4.1) := fun z hz => (h2v z hz).mono gl.1.1
    have eM : evA adP (insOf R) k (ExT.tri o x y' z) s = bitTo (fun s' u v => adP.mux s' e u v) s4 (RA.getD (Int.toNat 1) default).ins (RA.getD (Int.toNat 2) default).ins k := by rw [hfin]; unfold muxA; rw [h0l, h1l, ← hr, ← hs4, ← he]
    refine h_cond_f rfl rfl ?_; (repeat (refine H_ldE hp rfl (by omega) (by omega) rfl rfl ?_))
    rw [h1l]
    refine h_loop5 [0, 2, 9, 13, 15, 69, 70] (fun (q : Nat) (o_ : Option Addr) (oc_ : Nat) (_ : Option Addr) (_ : Nat) => [(0, .pointer (some ⟨bx, 0, none⟩)), (2, .int .i64 ((pre.length + (ExT.tri o x y' z).ser.length : Nat) : Int)), (9, .slice ra RA.length rc), (13, .slice o_ (bitTo (fun s' u v => adP.mux s' e u v) s4 (RA.getD (Int.toNat 1) default).ins (RA.getD (Int.toNat 2) default).ins q).2.length oc_), (15, .int .i64 e), (69, .int .i64 (k : Int)), (70, .int .i64 (q : Int))])
     (fun q o_ oc_ aa ac w' => q ≤ k ∧ Hp w0 w' (rB bx 88 [.pointer (some ⟨p, 0, none⟩), .slice sa R.length sc, .int .i64 (k : Int), .bool (bitTo (fun s' u v => adP.mux s' e u v) s4 (RA.getD (Int.toNat 1) default).ins (RA.getD (Int.toNat 2) default).ins q).1.2] :: rB p 33 (y.wA aa ac (bitTo (fun s' u v => adP.mux s' e u v) s4 (RA.getD (Int.toNat 1) default).ins (RA.getD (Int.toNat 2) default).ins q).1.1.ands).cs :: rO 120 2 eII aa ac (bitTo (fun s' u v => adP.mux s' e u v) s4 (RA.getD (Int.toNat 1) default).ins (RA.getD (Int.toNat 2) default).ins q).1.1.ands :: rO 3 1 eI o_ oc_ (bitTo (fun s' u v => adP.mux s' e u v) s4 (RA.getD (Int.toNat 1) default).ins (RA.getD (Int.toNat 2) default).ins q).2 :: rO 31 1 eRo ra rc RA :: rRows 3 1 eI RA :: rB b8 132 [.int .i64 (opT (ExT.tri o x y' z)).kind, .int .i64 (opT (ExT.tri o x y' z)).a, .int .i64 (opT (ExT.tri o x y' z)).b] :: L)) (fun q _ _ _ _ => k - q) 0 none 0 aa ac rfl ⟨by omega, Hp.o3012 (hp.ownN (Ext.refl _) (Own.nil _ _ _ _ _))⟩ ?_
    clear hp
    rintro q o_ oc_ aa ac w1 ⟨hq, hp⟩ IH C
    have g := bit_good adP_ok (s := s4) (f := (fun s' u v => adP.mux s' e u v)) (fun s' u v hl h1 h2 h3 => adP_ok.mux h1 (adP_ok.mono hl gv) h2 h3) gi h1v4 h2v4 q
    have hbl := bitTo_len (fun s' u v => adP.mux s' e u v) s4 (RA.getD (Int.toNat 1) default).ins (RA.getD (Int.toNat 2) default).ins q
    obtain ⟨r2, hr2'⟩ : ∃ r2, r2 = bitTo (fun s' u v => adP.mux s' e u v) s4 (RA.getD (Int.toNat 1) default).ins (RA.getD (Int.toNat 2) default).ins q := ⟨_, rfl⟩
    rw [← hr2'] at g hp hbl ⊢
    have hlk3 := g.le_.look hlk2
    have hi3 : NetOkP r2.1.1 := g.i
    have ve : litP e (nodesL r2.1.1) := gv.mono g.le_.1.1
    refine h_run rfl ?_; skip
    refine h_cond_dec (fun hlt2 => ?_) (fun hlt2 => ?_)
    ·have hqw : q < k := by omega
     have va : litP ((RA.getD (Int.toNat 1) default).ins.getD q default) (nodesL r2.1.1) := (h1v4 _ (getD_mem (by omega))).mono g.le_.1.1
     have vb : litP ((RA.getD (Int.toNat 2) default).ins.getD q default) (nodesL r2.1.1) := (h2v4 _ (getD_mem (by omega))).mono g.le_.1.1
     have eK : bitTo (fun s' u v => adP.mux s' e u v) s4 (RA.getD (Int.toNat 1) default).ins (RA.getD (Int.toNat 2) default).ins (q + 1) = ((adP.mux r2.1 e ((RA.getD (Int.toNat 1) default).ins.getD q default) ((RA.getD (Int.toNat 2) default).ins.getD q default)).1, r2.2 ++ [(adP.mux r2.1 e ((RA.getD (Int.toNat 1) default).ins.getD q default) ((RA.getD (Int.toNat 2) default).ins.getD q default)).2]) := by rw [bitTo, ← hr2']
     refine h_cond_t rfl rfl ?_; skip
     refine D_draw hp (by kernel_rfl) (by kernel_rfl) rfl rfl ?_; intro w hx hp; have hs := hp; (repeat (refine gLoad ?_; first | refine D_ldEN rfl (by omega) rfl rfl rfl ?_ | refine D_ldE rfl (by omega) (by omega) rfl rfl rfl ?_))
     refine gCall ?_
     refine h_callq rfl Tryz.func103 (by kernel_rfl) rfl (adMux_h y r2.1 hlk3 hi3 e ((RA.getD (Int.toNat 1) default).ins.getD q default) ((RA.getD (Int.toNat 2) default).ins.getD q default) ve va vb bx p k _ aa ac hp) ?_; rintro _ w ⟨a1, c1, rfl, hp⟩; refine ⟨fun hq => Bool.noConfusion (hq.symm.trans (by kernel_rfl : flagAt _ _ = false)), ?_⟩; refine D_ops rfl rfl ?_; skip
     refine D_litq (by kernel_rfl) hp (adP.mux r2.1 e ((RA.getD (Int.toNat 1) default).ins.getD q default) ((RA.getD (Int.toNat 2) default).ins.getD q default)).2 rfl rfl rfl rfl rfl rfl rfl ?_
     intro w bl hx hp
     refine D_ops rfl rfl ?_; skip
     refine V_append (a := o_) (c := oc_) (X := r2.2) (Y := [(adP.mux r2.1 e ((RA.getD (Int.toNat 1) default).ins.getD q default) ((RA.getD (Int.toNat 2) default).ins.getD q default)).2]) hp rfl rfl rfl rfl rfl rfl rfl (by decide) rfl (by rw [hbl]; show q + 1 ≤ _; omega) rfl rfl (by kernel_rfl) ?_
     intro o' oc' w hp hnil
     refine D_ops rfl rfl ?_; skip
     skip
     refine IH (q + 1) o' oc' a1 c1 _ _ _ (by omega) (by rw [eK]; rfl) ⟨by omega, ?_⟩
     rw [eK]
     exact hp.drop
    ·refine h_cond_f rfl rfl ?_; (repeat (refine R_ret ?_))
     obtain rfl : q = k := by omega
     rw [hr2', ← eM] at hp
     have hp := (hp.f2.f2.f2.f3.f6.f6.f6).drop.drop.drop
     exact ⟨o_, oc_, aa, ac, by rw [hr2', ← eM], hp⟩
theorem expr_h (w0 : World) (R : List (RowA Int)) (sa : Option Addr) (sc : Nat) (bx p wd : Nat) (hw : 1 ≤ wd ∧ wd ≤ 4) (y : NetA) (ops : List OpL) (oa : Option Addr) (oc : Nat) (hol : ops.length ≤ 15) (hRl : R.length ≤ 1000) (hRg : ∀ i, i < R.length → (R.getD i default).ins.length ≤ 1000) : ∀ t : ExT, ExprC w0 R sa sc bx p wd y ops oa oc t
 | .leaf o => expr_core w0 R sa sc bx p wd hw y ops oa oc hol hRl hRg (.leaf o) (fun x hx => by cases hx)
 | .un o x => expr_core w0 R sa sc bx p wd hw y ops oa oc hol hRl hRg (.un o x) (fun u hu => by
  have : u = x := by simpa [kidsT] using hu
  rw [this]; exact expr_h w0 R sa sc bx p wd hw y ops oa oc hol hRl hRg x)
 | .bin o x y' => expr_core w0 R sa sc bx p wd hw y ops oa oc hol hRl hRg (.bin o x y') (fun u hu => by
  have : u = x ∨ u = y' := by simpa [kidsT] using hu
  rcases this with h | h
  ·rw [h]; exact expr_h w0 R sa sc bx p wd hw y ops oa oc hol hRl hRg x
  ·rw [h]; exact expr_h w0 R sa sc bx p wd hw y ops oa oc hol hRl hRg y')
 | .tri o x y' z => expr_core w0 R sa sc bx p wd hw y ops oa oc hol hRl hRg (.tri o x y' z) (fun u hu => by
  have : u = x ∨ u = y' ∨ u = z := by simpa [kidsT] using hu
  rcases this with h | h | h
  ·rw [h]; exact expr_h w0 R sa sc bx p wd hw y ops oa oc hol hRl hRg x
  ·rw [h]; exact expr_h w0 R sa sc bx p wd hw y ops oa oc hol hRl hRg y'
  ·rw [h]; exact expr_h w0 R sa sc bx p wd hw y ops oa oc hol hRl hRg z)
end Go.Proofs
