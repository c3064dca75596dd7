/- The contract of the program's heightCut; under its stated conditions. -/
import Derived.Test.YtbjgekllkfnjnaaLblPu
import Derived.Test.YtbjgekllkfnjnaaCutLess
set_option linter.all false
namespace Go.Xw
set_option maxHeartbeats 1000000
section
variable {S : Setting} {sz : Nat} {R : Value → World → Prop} {C : World → Prop} {w : World} {ops : Array Oper} {o : Oper} {rest : List Oper} {k : List Item} {env : Env}
theorem H_pnil {t t2 u : TypeId} (hu : S.P.underlying t = some (.pointer u)) {v : Option Addr} {p q : Operand} {d : Nat} (hop : o.op = .binOp .eql t p q t2) (hdst : o.dst = some d) (hep : ev env p = some (.pointer v)) (heq : ev env q = some (.pointer none)) (hsz : okDst sz (some d) = true)
  (hk : Holds S sz R C w (.ops false ops rest k ((d, .bool v.isNone) :: env))) : Holds S sz R C w (.opx false ops o rest k env) := by
 have hr : (Op.equal t (.pointer v) (.pointer none)).run S.P w = .ok v.isNone w := by
  have h0 : ∀ d, (Op.equalIn (d + 1) t (.pointer v) (.pointer none)).run S.P w = .ok v.isNone w := fun d => by
   cases v <;> simp [Op.equalIn, run_underlying hu]
  exact h0 9999
 refine fun a ha => DoesO.wp ?_
 unfold DoesO
 have h1 : execOp a.eval o = (do pure (.value (← (do eqGuard .eql t p q (a.eval p) (a.eval q); binOp .eql t (a.eval p) (a.eval q))))) := by
  have : ∀ op, o.op = op → execOp a.eval o = execOp a.eval { o with op := op } := fun op e => by subst e; rfl
  rw [this _ hop]; rfl
 have h2 : binOp .eql t (.pointer v) (.pointer none) = (do pure (.bool (← Op.equal t (.pointer v) (.pointer none)))) := by cases v <;> rfl
 have h3 : (eqGuard .eql t p q (.pointer v) (.pointer none)).run S.P w = .ok () w := by cases v <;> rfl
 rw [h1, ev_agree ha.agree hep, ev_agree ha.agree heq, h2]
 simp only [Sem.run_bind, h3, Result.andThen_ok, hr, Sem.run_pure]
 rw [hdst]
 exact hk _ (ha.put hsz _)
end
end Go.Xw
namespace Go.Proofs
open Go.Xw
set_option maxRecDepth 100000
set_option maxHeartbeats 4000000
attribute [local irreducible] Holds elemAddr
theorem heightCut_h (x : NetA) (w0 : World) (hX : NetR w0 x) (hok : NetOkP x.n) (k0 : Nat) (hkf : fst_ x.n ≤ k0) (hk2 : k0 < nds x.n) (Lb : List Int) (h : Int) (hh : 1 ≤ h) (hL : LblOk x.n Lb k0) (la : Option Addr) (lc : Nat) (hR : Rd w0 la 1 eI Lb) :
  Ret Try.prog 47 [x.v, .int .i64 (k0 : Int), .int .i64 h, .slice la (nds x.n) lc] w0 (fun v w => ∃ b c, v = .tuple ⟨[.slice b (hcO x.n k0 Lb h).length c, .bool (hcB x.n k0 Lb h)]⟩ ∧ Hp w0 w [rO 3 1 eI b c (hcO x.n k0 Lb h)]) := by
 have hn := hok.nums
 obtain ⟨n1, n2, n3, n4, n5, n6⟩ := hn
 have hn := hok.nums
 have hnd := hok.nodes
 have hsz := hok.size'
 have hLl := hL.len
 have hcnt : nodesL x.n = (nds x.n : Int) := by omega
 refine enter Try.S47ok _ _ rfl rfl (by show _ ≤ _; simp only [List.length]; decide) (fun C => ?_); have hp := Hp.nil w0; refine h_run rfl ?_; skip; (first | refine H_box hp ?_ | refine H_alloc hp rfl ?_); intro w b4 hx hp; refine ops_run nopre rfl ?_; skip
 refine N_draw hp (by kernel_rfl) (by kernel_rfl) rfl rfl ?_; (repeat (refine N_ldB rfl rfl rfl ?_))
 refine N_pc Try.func49 (by kernel_rfl) rfl (fun w hp => nodeCount_h x _ hok.b) (by rw [nodesL_eq]; rfl) ?_; refine N_ops rfl rfl ?_; skip
 rw [hcnt]
 refine N_make eB false rfl rfl rfl rfl (s := 1) rfl (by decide) (by infer_instance) rfl (by unfold maxLen; omega) (by show 1 * _ ≤ _; omega) ?_; intro bc; refine N_ops rfl rfl ?_; (repeat (refine N_ldB rfl rfl rfl ?_))
 refine N_pc Try.func49 (by kernel_rfl) rfl (fun w hp => nodeCount_h x _ hok.b) (by rw [nodesL_eq]; rfl) ?_; refine N_ops rfl rfl ?_; skip
 rw [hcnt]
 refine N_make eB false rfl rfl rfl rfl (s := 1) rfl (by decide) (by infer_instance) rfl (by unfold maxLen; omega) (by show 1 * _ ≤ _; omega) ?_; intro bv; refine N_ops rfl rfl ?_; (repeat (refine N_ldB rfl rfl rfl ?_))
 refine N_pc Try.func49 (by kernel_rfl) rfl (fun w hp => nodeCount_h x _ hok.b) (by rw [nodesL_eq]; rfl) ?_; refine N_ops rfl rfl ?_; skip
 rw [hcnt]
 refine N_make eI 0 rfl rfl rfl rfl (s := 1) rfl (by decide) (by infer_instance) rfl (by unfold maxLen; omega) (by show 8 * _ ≤ _; omega) ?_; intro bi; refine N_ops rfl rfl ?_; skip
 refine N_mkmap rfl rfl rfl rfl ?_
 intro be
 refine N_ops rfl rfl ?_; skip
 (first | refine N_box ?_ | refine N_alloc rfl ?_); intro bF; refine N_ops rfl rfl ?_; skip
 refine N_end ?_; intro w hp C; refine h_run rfl ?_; skip
 have hp := (((hp.f1).mapNew ePr eIV dPr).mapZ (0 : Int)).f2.f3.f3.f4
 have hp : Hp w0 _ (rO 4 1 eB (some ⟨bc, 0, none⟩) (nds x.n) (List.replicate (nds x.n) false) :: rB bF 101 [.int .i64 x.inputs, .slice x.sa x.seqs.length x.sc, .slice x.aa x.ands.length x.ac, .slice x.oa x.outs.length x.oc, .int .i64 (k0 : Int), .slice (some ⟨bc, 0, none⟩) (nds x.n) (nds x.n), .slice (some ⟨bv, 0, none⟩) (nds x.n) (nds x.n), .slice (some ⟨bi, 0, none⟩) (nds x.n) (nds x.n), .map (some be)] :: rO 4 1 eB (some ⟨bv, 0, none⟩) (nds x.n) (List.replicate (nds x.n) false) :: rO 3 1 eI (some ⟨bi, 0, none⟩) (nds x.n) (List.replicate (nds x.n) 0) :: rMZ ePr eIV dPr 0 be (fun _ => (0 : Int)) :: [rB b4 28 x.cs]) := hp
 have hf0 : ∀ i, (List.replicate (nds x.n) false).getD i default ≠ true := fun i hh => by
  simp only [List.getD_eq_getElem?_getD, List.getElem?_replicate] at hh; split at hh <;> simp at hh
 refine D_draw hp (by kernel_rfl) (by kernel_rfl) rfl rfl ?_; intro w hx hp; have hs := hp; (repeat (refine D_ldB rfl rfl rfl ?_))
 refine h_callq rfl Try.func93 (by kernel_rfl) rfl (markCone_h x hX hok _ _ k0 hk2 _ _ _ hp (by simp) (fun i hi _ hh => absurd hh (hf0 _))) ?_; rintro _ w ⟨B, rfl, hm, hp⟩; refine ⟨fun hq => Bool.noConfusion (hq.symm.trans (by kernel_rfl : flagAt _ _ = false)), ?_⟩; refine D_ops rfl rfl ?_; skip
 (repeat (refine H_ldB hp rfl rfl ?_))
 have hBl : B.length = nds x.n := by rw [hm.len]; simp
 have hBi : ∀ k, k < nds x.n → (B.getD k default = true ↔ InCone x.n k0 k) := fun k hk => by
  rw [hm.iff k (by simpa using hk)]
  exact ⟨fun hh => hh.resolve_left (hf0 k), .inr⟩
 have hp := hp.f1
 refine h_loop2 [1, 2, 3, 10, 46, 47] (fun (i : Nat) (_ : List Bool) => [(1, .int .i64 (k0 : Int)), (2, .int .i64 h), (3, .slice la (nds x.n) lc), (10, .pointer (some ⟨bF, 0, none⟩)), (46, .int .i64 (nds x.n : Int)), (47, .int .i64 (i : Int))])
  (fun i F w' => (i ≤ nds x.n ∧ F.length = nds x.n ∧ ∀ j, j < i → (F.getD j default = true ↔ lgFree x.n k0 Lb h j)) ∧ Hp w0 w' (rB bF 101 [.int .i64 x.inputs, .slice x.sa x.seqs.length x.sc, .slice x.aa x.ands.length x.ac, .slice x.oa x.outs.length x.oc, .int .i64 (k0 : Int), .slice (some ⟨bc, 0, none⟩) (nds x.n) (nds x.n), .slice (some ⟨bv, 0, none⟩) (nds x.n) (nds x.n), .slice (some ⟨bi, 0, none⟩) (nds x.n) (nds x.n), .map (some be)] :: rO 4 1 eB (some ⟨bc, 0, none⟩) (nds x.n) B :: rO 4 1 eB (some ⟨bv, 0, none⟩) (nds x.n) F :: rO 3 1 eI (some ⟨bi, 0, none⟩) (nds x.n) (List.replicate (nds x.n) 0) :: rMZ ePr eIV dPr 0 be (fun _ => (0 : Int)) :: [])) (fun i _ => nds x.n - i) 0 (List.replicate (nds x.n) false) rfl ⟨⟨by omega, by simp, fun j hj => by omega⟩, (hp.f4.f4.f4.f4.f4.f5).drop⟩ ?_
 clear hp
 rintro i F w1 ⟨⟨hi, hFl, hFi⟩, hp⟩ IH C
 have fset : ∀ (v : Bool), (v = true ↔ lgFree x.n k0 Lb h i) → i < nds x.n → ∀ j, j < i + 1 → ((F.set i v).getD j default = true ↔ lgFree x.n k0 Lb h j) := fun v hv hin j hj => by
  by_cases hji : j = i
  ·subst hji
   rw [List.getD_eq_getElem?_getD, List.getElem?_set_self (by omega)]
   exact hv
  ·rw [List.getD_eq_getElem?_getD, List.getElem?_set_ne (fun hh => hji hh.symm), ← List.getD_eq_getElem?_getD]
   exact hFi j (by omega)
 refine h_run rfl ?_; skip
 refine h_cond_dec (fun hlt => ?_) (fun hlt => ?_)
 ·have hin : i < nds x.n := by omega
  have hBii := hBi i hin
  refine h_cond_t rfl rfl ?_; skip
  refine D_draw hp (by kernel_rfl) (by kernel_rfl) rfl rfl ?_; intro w hx hp; have hs := hp; (repeat (refine D_ldB rfl rfl rfl ?_))
  refine h_guard_by (fun h1 => ?_) (fun h1 => ?_); all_goals (rw [h1]; (first | replace h1 := of_decide_eq_true h1 | replace h1 := of_decide_eq_false h1 | skip); (repeat (first | (refine gGuard ?_; first | refine h_guard_yd rfl rfl rfl ?_ | refine h_guard_nd rfl rfl rfl ?_) | (refine gLoad ?_; first | refine D_ldB rfl rfl rfl ?_ | refine D_ldEN rfl (by omega) rfl rfl rfl ?_) | (refine gStore ?_; refine V_st0N hp rfl rfl rfl (by omega) (by decide) rfl rfl (by kernel_rfl) ?_; intro w hp; refine D_ops rfl rfl ?_))))
  ·skip
   refine IH (i + 1) _ _ _ _ (by omega) rfl ⟨⟨by omega, by rw [List.length_set]; exact hFl, fset _ ⟨fun _ => .inl (by omega), fun _ => rfl⟩ hin⟩, hp⟩
  ·have h1 : i ≠ k0 := by omega
   refine h_guard_by (fun h2 => ?_) (fun h2 => ?_); all_goals (rw [h2]; (first | replace h2 := of_decide_eq_true h2 | replace h2 := of_decide_eq_false h2 | skip); (repeat (first | (refine gGuard ?_; first | refine h_guard_yd rfl rfl rfl ?_ | refine h_guard_nd rfl rfl rfl ?_) | (refine gLoad ?_; refine D_ldEN rfl (by omega) rfl rfl rfl ?_) | (refine gStore ?_; refine V_st0N hp rfl rfl rfl (by omega) (by decide) rfl rfl (by kernel_rfl) ?_; intro w hp; refine D_ops rfl rfl ?_))))
   ·have hcone := hBii.1 h2
    refine IH (i + 1) _ _ _ _ (by omega) rfl ⟨⟨by omega, by rw [List.length_set]; exact hFl, fset _ ⟨fun hv => .inr ⟨hcone, of_decide_eq_true hv⟩, fun hf => decide_eq_true (hf.resolve_left h1).2⟩ hin⟩, hp⟩
   ·refine IH (i + 1) _ _ _ _ (by omega) rfl ⟨⟨by omega, by rw [List.length_set]; exact hFl, fset _ ⟨fun hv => (by cases hv), fun hf => absurd (hBii.2 (Or.resolve_left hf h1).1) (by rw [h2]; decide)⟩ hin⟩, hp⟩
 ·refine h_cond_f rfl rfl ?_; skip
  obtain rfl : i = nds x.n := by omega
  clear IH
  have hz : FlP (lgG x.n k0 Lb h) ⟨fun _ => 0, fun _ _ => 0⟩ := (flow_zero _).1
  have hF0 : FlwP x.n k0 Lb h B F (List.replicate (nds x.n) 0) (fun _ => 0) ⟨fun _ => 0, fun _ _ => 0⟩ := ⟨hBl, hBi, hFl, hFi, RepP.zero _, hz⟩
  refine h_loop4 [10, 12] (fun (u : Nat) (_ : List Int) (_ : Nat × Nat → Int) (_ : Flo) => [(10, .pointer (some ⟨bF, 0, none⟩)), (12, .int .i64 (u : Int))])
   (fun u I E f w' => (u ≤ 4 ∧ FlwP x.n k0 Lb h B F I E f ∧ f.tot (lgG x.n k0 Lb h) = u ∧ BndP I E (2 * nds x.n * u)) ∧ Hp w0 w' (rB bF 101 [.int .i64 x.inputs, .slice x.sa x.seqs.length x.sc, .slice x.aa x.ands.length x.ac, .slice x.oa x.outs.length x.oc, .int .i64 (k0 : Int), .slice (some ⟨bc, 0, none⟩) (nds x.n) (nds x.n), .slice (some ⟨bv, 0, none⟩) (nds x.n) (nds x.n), .slice (some ⟨bi, 0, none⟩) (nds x.n) (nds x.n), .map (some be)] :: rO 4 1 eB (some ⟨bc, 0, none⟩) (nds x.n) B :: rO 4 1 eB (some ⟨bv, 0, none⟩) (nds x.n) F :: rO 3 1 eI (some ⟨bi, 0, none⟩) (nds x.n) I :: rMZ ePr eIV dPr 0 be E :: [])) (fun u _ _ _ => 4 - u) 0 _ _ _ rfl ⟨⟨by omega, hF0, (flow_zero _).2, by simpa using BndP.zero (nds x.n)⟩, hp⟩ ?_
  clear hp hF0 hz
  rintro u I E f w1 ⟨⟨hu, hF, htot, hbn⟩, hp⟩ IH C
  refine h_run rfl ?_; skip
  refine h_call rfl Try.func94 (by kernel_rfl) rfl (search_h x w0 hX hok k0 hk2 Lb h B F I E f hF bF be _ _ _ _ _ _ _ [] hp) ?_
  rintro _ w ⟨bm, FR, v, rfl, hc⟩
  rcases hc with ⟨rfl, hP, hp⟩ | ⟨b8, q, l, rfl, hP, hq, hxq, hl, hp⟩
  ·obtain ⟨hcp, hcn⟩ := search_nil hok hL hkf hk2 hh hF.fp (by omega) hP
   refine ops_run nopre rfl ?_; skip
   show Holds _ _ _ _ _ (G.opx _ _ _ _ _ _)
   refine H_pnil (u := 108) (by kernel_rfl) rfl rfl rfl rfl rfl ?_
   refine ops_run nopre rfl ?_; skip
   refine h_cond_t rfl rfl ?_; (repeat (refine H_ldB hp rfl rfl ?_))
   have hMl : (listB (nds x.n) (hcN x.n k0 Lb h)).length = nds x.n := listB_len _ _
   obtain ⟨M, hM⟩ : ∃ M, M = listB (nds x.n) (hcN x.n k0 Lb h) := ⟨_, rfl⟩
   have hMi : ∀ i, i < nds x.n → (M.getD i default = true ↔ (KeyIn FR (i, true) ∧ ¬ KeyIn FR (i, false) ∧ i ≠ 0)) := fun i hi => by rw [hM, listB_get hi]; exact hcn i hi
   rw [← hM] at hMl
   have hE : hcO x.n k0 Lb h = markedTo M (nds x.n) := by rw [hcO_yes hcp]; show markedL (listB _ _) = _; rw [← hM]; unfold markedL; rw [hMl]
   refine h_loop3 [13, 15, 90, 91] (fun (i : Nat) (a : Option Addr) (c : Nat) => [(13, .map (some bm)), (15, .slice a (markedTo M i).length c), (90, .int .i64 (nds x.n : Int)), (91, .int .i64 (i : Int))])
    (fun i a c w' => i ≤ nds x.n ∧ Hp w0 w' [rMF eSt eSt dSt bm FR, rO 3 1 eI a c (markedTo M i)]) (fun i _ _ => nds x.n - i) 0 none 0 rfl ⟨by omega, ((hp.tk 1).ownN (Ext.refl _) (Own.nil _ _ _ _ _)).f1⟩ ?_
   clear hp IH
   rintro i a c w1 ⟨hi, hp⟩ IH C
   have hml := markedTo_len M i
   refine h_run rfl ?_; skip
   refine h_cond_dec (fun hlt => ?_) (fun hlt => ?_)
   ·have hin : i < nds x.n := by omega
    have hMi := hMi i hin
    have hd1 : dSt (i, true) := show i < 1000000 by omega
    have hd2 : dSt (i, false) := show i < 1000000 by omega
    refine h_cond_t rfl rfl ?_; skip
    show Holds _ _ _ _ _ (G.opx _ _ _ _ _ _)
    refine H_look (F := FR) (x := (i, true)) hp step_key hd1 rfl rfl rfl rfl rfl rfl rfl rfl ?_
    cases hg : mget FR (i, true) with
    | none =>
     have hk1 := mget_key.1 hg
     have hno : markedTo M (i + 1) = markedTo M i := by rw [markedTo, if_neg (fun hh => hk1 (hMi.1 hh).1)]
     refine ops_run nopre rfl ?_; skip
     (first | refine H_box hp ?_ | refine H_alloc hp rfl ?_); intro w b17 hx hp; refine ops_run nopre rfl ?_; (repeat (refine U_stBN hp rfl rfl rfl rfl ?_; intro w hp; refine ops_run nopre rfl ?_))
     show Holds _ _ _ _ _ (G.opx _ _ _ _ _ _)
     refine H_look (F := FR) (x := (i, false)) hp step_key hd2 rfl rfl rfl rfl rfl rfl rfl rfl ?_
     cases hg2 : mget FR (i, false) with
     | none =>
      refine ops_run nopre rfl ?_; skip
      (first | refine H_box hp ?_ | refine H_alloc hp rfl ?_); intro w b19 hx hp; refine ops_run nopre rfl ?_; (repeat (first | (refine gGuard ?_; refine h_guard_n rfl nopre rfl ?_) | (refine gStore ?_; refine U_stBN hp rfl rfl rfl rfl ?_; intro w hp; refine ops_run nopre rfl ?_)))
      refine h_cond_f rfl rfl ?_; skip
      refine IH (i + 1) a c _ _ _ (by omega) (by rw [hno]; rfl) ⟨by omega, ?_⟩
      rw [hno]
      exact hp.drop.drop
     | some y2 =>
      refine ops_run nopre rfl ?_; skip
      (first | refine H_box hp ?_ | refine H_alloc hp rfl ?_); intro w b19 hx hp; refine ops_run nopre rfl ?_; (repeat (first | (refine gGuard ?_; refine h_guard_n rfl nopre rfl ?_) | (refine gStore ?_; refine U_stBN hp rfl rfl rfl rfl ?_; intro w hp; refine ops_run nopre rfl ?_)))
      refine h_cond_f rfl rfl ?_; skip
      refine IH (i + 1) a c _ _ _ (by omega) (by rw [hno]; rfl) ⟨by omega, ?_⟩
      rw [hno]
      exact hp.drop.drop
    | some y =>
     have hk1 : KeyIn FR (i, true) := key_some.1 (by rw [hg]; rfl)
     refine ops_run nopre rfl ?_; skip
     (first | refine H_box hp ?_ | refine H_alloc hp rfl ?_); intro w b17 hx hp; refine ops_run nopre rfl ?_; (repeat (refine U_stBN hp rfl rfl rfl rfl ?_; intro w hp; refine ops_run nopre rfl ?_))
     show Holds _ _ _ _ _ (G.opx _ _ _ _ _ _)
     refine H_look (F := FR) (x := (i, false)) hp step_key hd2 rfl rfl rfl rfl rfl rfl rfl rfl ?_
     cases hg2 : mget FR (i, false) with
     | none =>
      have hk2 := mget_key.1 hg2
      refine ops_run nopre rfl ?_; skip
      (first | refine H_box hp ?_ | refine H_alloc hp rfl ?_); intro w b19 hx hp; refine ops_run nopre rfl ?_; (repeat (first | (refine gGuard ?_; refine h_guard_y rfl nopre rfl ?_) | (refine gStore ?_; refine U_stBN hp rfl rfl rfl rfl ?_; intro w hp; refine ops_run nopre rfl ?_)))
      refine h_cond_dec (fun h0 => ?_) (fun h0 => ?_)
      ·have hyes : markedTo M (i + 1) = markedTo M i ++ [(i : Int)] := by rw [markedTo, if_pos (hMi.2 ⟨hk1, hk2, by omega⟩)]
       have hp := (hp.f2.f3).tk 2
       have hp : Hp w0 _ [rO 3 1 eI a c (markedTo M i), rMF eSt eSt dSt bm FR] := hp
       refine h_cond_t rfl rfl ?_; (repeat (refine U_litI hp rfl rfl rfl rfl rfl rfl rfl rfl rfl rfl ?_; intro w _ hx hp; refine ops_run nopre rfl ?_))
       refine U_append hp rfl rfl rfl rfl rfl rfl rfl (by decide) rfl (by first | omega | (simp only [List.length_append, List.length_cons, List.length_nil, List.length_take, List.length_drop, List.length_set, List.length_replicate, List.length_map]; omega)) rfl rfl ?_; intro a' c' w hp hnil; refine ops_run nopre rfl ?_; skip
       refine IH (i + 1) a' c' _ _ _ (by omega) (by rw [hyes]; rfl) ⟨by omega, ?_⟩
       rw [hyes]
       exact hp.drop.f1
      ·have hno : markedTo M (i + 1) = markedTo M i := by rw [markedTo, if_neg (fun hh => (hMi.1 hh).2.2 (by omega))]
       refine h_cond_f rfl rfl ?_; skip
       refine IH (i + 1) a c _ _ _ (by omega) (by rw [hno]; rfl) ⟨by omega, ?_⟩
       rw [hno]
       exact hp.drop.drop
     | some y2 =>
      have hno : markedTo M (i + 1) = markedTo M i := by rw [markedTo, if_neg (fun hh => (hMi.1 hh).2.1 (key_some.1 (by rw [hg2]; rfl)))]
      refine ops_run nopre rfl ?_; skip
      (first | refine H_box hp ?_ | refine H_alloc hp rfl ?_); intro w b19 hx hp; refine ops_run nopre rfl ?_; (repeat (first | (refine gGuard ?_; first | refine h_guard_y rfl nopre rfl ?_ | refine h_guard_n rfl nopre rfl ?_) | (refine gStore ?_; refine U_stBN hp rfl rfl rfl rfl ?_; intro w hp; refine ops_run nopre rfl ?_)))
      refine h_cond_f rfl rfl ?_; skip
      refine IH (i + 1) a c _ _ _ (by omega) (by rw [hno]; rfl) ⟨by omega, ?_⟩
      rw [hno]
      exact hp.drop.drop
   ·refine h_cond_f rfl rfl ?_; (repeat (refine R_ret ?_))
    obtain rfl : i = nds x.n := by omega
    rw [hE, hcB_yes hcp]
    exact ⟨a, c, rfl, hp.drop⟩
  ·refine ops_run nopre rfl ?_; skip
   show Holds _ _ _ _ _ (G.opx _ _ _ _ _ _)
   refine H_pnil (u := 108) (by kernel_rfl) rfl rfl rfl rfl rfl ?_
   refine ops_run nopre rfl ?_; skip
   refine h_cond_f rfl rfl ?_; skip
   refine h_cond_dec (fun h4 => ?_) (fun h4 => ?_)
   ·have h5 := search_five hok hL hkf hk2 hh hF.fp (by omega) hP hq hxq hl
    rw [hcO_no h5, hcB_no h5]
    refine h_cond_t rfl rfl ?_; (repeat (refine R_ret ?_))
    exact ⟨none, 0, rfl, (Hp.of_ext hp.x).ownN (Ext.refl _) (Own.nil _ _ _ _ _)⟩
   ·refine h_cond_f rfl rfl ?_; (repeat (refine H_ldB hp rfl rfl ?_))
    have hp := (hp.f1).drop
    have hbd : 0 ≤ (2 * nds x.n * u : Int) ∧ (2 * nds x.n * u : Int) ≤ 1000000 := by
     rcases (show u = 0 ∨ u = 1 ∨ u = 2 ∨ u = 3 ∨ u = 4 by omega) with rfl | rfl | rfl | rfl | rfl <;> constructor <;> omega
    refine h_call rfl Try.func95 (by kernel_rfl) rfl (push_h x hok k0 hkf hk2 Lb h hh hL B F I E f hF _ hbn hbd bF be bm _ _ _ _ _ _ FR q l hP hq hxq hl _ _ [] hp) ?_; rintro _ w ⟨I', E', f', rfl, hF', htot', hbn', hp⟩; refine ops_run nopre rfl ?_; skip
    refine IH (u + 1) I' E' f' _ _ _ (by omega) rfl ⟨⟨by omega, hF', by omega, ?_⟩, hp⟩
    have e : (2 * nds x.n * (u + 1 : Nat) : Int) = 2 * nds x.n * u + 2 * nds x.n := by rw [Int.natCast_add, Int.mul_add]; simp
    rw [e]
    exact hbn'
end Go.Proofs
