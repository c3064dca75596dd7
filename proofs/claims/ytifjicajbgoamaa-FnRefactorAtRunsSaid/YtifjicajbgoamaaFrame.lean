/- Texts that belong together; each under its stated conditions. -/
import Derived.Test.YtifjicajbgoamaaCov
import Derived.Test.YtifjicajbgoamaaRefJ
import Derived.Test.YtifjicajbgoamaaEnumT
import Derived.Test.YtifjicajbgoamaaRun
import Derived.Test.YtifjicajbgoamaaProg
import Derived.Test.YtifjicajbgoamaaNetR
import Derived.KernelRfl
import Derived.ProofKit
import Derived.Deep.Slices
import Derived.Deep.Fields
import Derived.ChangeSame
import Derived.ChangeArms
import Derived.ChangeShapes
import Derived.Test.YtifjicajbgoamaaStep
set_option linter.all false
section
/- The law that computing a node anew from a cut keeps the runs of a drawn net; no condition but the stated ones. -/
namespace Go.Proofs
open Go.Xw
set_option maxRecDepth 100000
set_option maxHeartbeats 4000000
attribute [local irreducible] Holds elemAddr

theorem sameInts_h (a b : Option Addr) (c d : Nat) (X : List Int) (w0 : World) (hA : Rd w0 a 1 eI X) (hB : Rd w0 b 1 eI X) (hl : X.length ≤ 1000000) :
    Ret Try.prog 11 [.slice a X.length c, .slice b X.length d] w0 (fun v w => v = .bool true ∧ Ext w0 w) := by
  refine enter Try.S11ok _ _ rfl rfl (by show _ ≤ _; simp only [List.length]; decide) (fun C => ?_); have hp := Hp.nil w0; refine h_run rfl ?_; skip
  refine h_cond_f (by simp) rfl ?_; skip
  refine h_loop [0, 1, 5] (fun (i : Nat) => [(0, .slice a X.length c), (1, .slice b X.length d), (5, .int .i64 (i : Int))])
    (fun i w' => i ≤ X.length ∧ Hp w0 w' []) (fun i => X.length - i) 0 rfl ⟨by omega, hp⟩ ?_
  rintro i w1 ⟨hi, hp⟩ IH C
  refine h_run rfl ?_; skip
  refine h_cond_dec (fun hlt => ?_) (fun hlt => ?_)
  · have hlt' : i < X.length := by omega
    refine h_cond_t rfl rfl ?_; skip
    refine N_draw hp (by kernel_rfl) (by kernel_rfl) rfl rfl ?_; (repeat (refine N_ldEN rfl (by omega) rfl rfl rfl ?_))
    refine N_end ?_; intro w hp C; refine h_run rfl ?_; skip
    refine h_cond_f (by simp) rfl ?_; skip
    exact IH (i + 1) _ _ _ (by omega) rfl ⟨by omega, hp⟩
  · refine h_cond_f rfl rfl ?_; (repeat (refine R_ret ?_))
    exact ⟨rfl, hp.x⟩
theorem runF_eq {n m : NetL} (hn : NetOkP n) (hm : NetOkP m) {ins : List Int} (hl : ins.length ≤ 16) (h : runL m ins = runL n ins) : runF m ins = runF n ins := by
  rw [runF_yes hn hl, runF_yes hm hl, h]
theorem l08NetB_h {w0 w : World} {L : List Res} {p : Nat} {a : Option Addr} {n c : Nat} {code : List Int} (hR : Rd w0 a 1 eU8 code) (hn : code.length = n) (hp : Hp w0 w (rCur p a n c :: L)) :
    Ret Try.prog 19 [.pointer (some ⟨p, 0, none⟩)] w (fun v w' => ∃ y, (NetOkP y.n ∧ y.ands.length ≤ 14 ∧ v = y.v) ∧ Hp w0 w' (rNet y :: rCur p a n c :: L)) := by
  refine enter Try.S19ok _ _ rfl rfl (by show _ ≤ _; simp only [List.length]; decide) (fun C => ?_); refine h_run rfl ?_; skip
  (first | (refine H_box hp ?_; intro w b2 hx hp) | (refine H_alloc hp rfl ?_; intro w b2 hx hp)); refine ops_run nopre rfl ?_; skip
  refine h_call rfl Try.func43 (by kernel_rfl) rfl (l08Sized_h hR hn hp.f1 4 3 14 (by decide) (by decide) (by decide)) ?_; rintro _ w ⟨y, ⟨hok, ⟨_, h14, _⟩, rfl⟩, hp⟩; refine ops_run nopre rfl ?_; (repeat (first | (refine gStore ?_; refine U_stBN hp rfl rfl rfl rfl ?_; intro w hp; refine ops_run nopre rfl ?_) | (refine gRetc ?_; refine R_ret1 hp rfl ?_)))
  exact ⟨y, ⟨hok, by omega, rfl⟩, hp.f2.drop⟩
theorem DrawNodeB_h (a : Option Addr) (c : Nat) (code : List Int) (w0 : World) (hR : Rd w0 a 1 eU8 code) (hB : AllB code) (hl : code.length ≤ 1048576) :
    Ret Try.prog 6 [.slice a code.length c] w0 (fun v w => ∃ y k, (NetOkP y.n ∧ k < nds y.n ∧ y.ands.length ≤ 14 ∧ v = .tuple ⟨[y.v, .int .i64 (k : Int)]⟩) ∧ Hp w0 w [rNet y]) := by
  refine enter Try.S6ok _ _ rfl rfl (by show _ ≤ _; simp only [List.length]; decide) (fun C => ?_); have hp := Hp.nil w0; refine h_run rfl ?_; skip; (first | (refine H_box hp ?_; intro w b2 hx hp) | (refine H_alloc hp rfl ?_; intro w b2 hx hp)); refine ops_run nopre rfl ?_; skip
  refine h_call rfl Try.func18 (by kernel_rfl) rfl (l01New_h a c code _ hp.rd hB hl) ?_; rintro _ w ⟨p, rfl, hq⟩; have hx := hq.x; have hp := hp.call1 hq; refine ops_run nopre rfl ?_; skip
  refine h_call rfl Try.func19 (by kernel_rfl) rfl (l08NetB_h hR rfl hp) ?_; rintro _ w ⟨y, ⟨hok, h14, rfl⟩, hp⟩; refine ops_run nopre rfl ?_; skip
  (first | (refine H_box hp ?_; intro w b5 hx hp) | (refine H_alloc hp rfl ?_; intro w b5 hx hp)); refine ops_run nopre rfl ?_; (repeat (refine U_stBN hp rfl rfl rfl rfl ?_; intro w hp; refine ops_run nopre rfl ?_))
  have hnd := hok.nums.n2
  have hN : nodeCountL y.n = (nds y.n : Int) := by unfold nodeCountL; rw [if_pos hok.size, hnd]
  have hp0 : 0 < nds y.n := by have := hok.nums.n1; have := hok.count; omega
  have hp := hp.f3.f2.f2.f3
  refine N_draw hp (by kernel_rfl) (by kernel_rfl) rfl rfl ?_; (repeat (refine N_ldB rfl rfl rfl ?_))
  refine N_call Try.func21 (by kernel_rfl) rfl (fun F w hp => ?_); refine Ret.mono (nodeCount_N y (nds y.n : Int) hN _) ?_; rintro _ w ⟨rfl, hx⟩; have hp := hp.ext hx; refine ⟨fun _ => hp.sub (by (repeat (first | exact List.sublist_append_left _ _ | apply List.Sublist.cons))), _, hp, ?_⟩; clear hp; refine N_ops rfl rfl ?_; skip
  refine N_call Try.func20 (by kernel_rfl) rfl (fun F w hp => ?_); refine Ret.mono (l01Below_F hR rfl hp (nds y.n : Int)) ?_; rintro _ w ⟨z, ⟨rfl, _, hz⟩, hp⟩; refine ⟨fun _ => hp.pre, _, hp, ?_⟩; clear hp; refine N_ops rfl rfl ?_; (repeat (refine N_stBN rfl rfl rfl rfl (by kernel_rfl) ?_; refine N_ops rfl rfl ?_))
  refine N_end ?_; intro w hp C; refine h_run rfl ?_; (repeat (refine R_ret2v hp rfl ?_))
  have hz2 := hz (by omega)
  obtain ⟨k, rfl⟩ := Int.eq_ofNat_of_zero_le hz2.1
  exact ⟨y, k, ⟨hok, by omega, h14, rfl⟩, (hp.f1.f1.f2).tk 1⟩
theorem FnRefactorAtRuns_h (w0 : World) (a : Option Addr) (c : Nat) (code : List Int) (hR : Rd w0 a 1 eU8 code) (hM : code.length ≤ maxLen) (hB : AllB code) :
    Ret Try.prog 3 [.slice a code.length c] w0 (fun v w => v = .bool true ∧ Ext w0 w) := by
  have hM' : (code.length : Int) ≤ 9223372036854775807 := by unfold maxLen at hM; omega
  refine enter Try.S3ok _ _ rfl rfl (by show _ ≤ _; simp only [List.length]; decide) (fun C => ?_); have hp := Hp.nil w0; refine h_run rfl ?_; skip
  refine h_call rfl Try.func5 (by kernel_rfl) rfl (big_h a code.length c _) ?_; rintro _ w ⟨rfl, hx⟩; have hp := hp.ext hx; refine ops_run nopre rfl ?_; skip
  refine h_cond_dec (fun hbig => ?_) (fun hbig => ?_)
  · refine h_cond_t rfl rfl ?_; (repeat (refine R_ret ?_))
    exact ⟨rfl, hp.x⟩
  · refine h_cond_f rfl rfl ?_; skip
    refine h_call rfl Try.func6 (by kernel_rfl) rfl (DrawNodeB_h a c code _ hp.rd hB (by omega)) ?_; rintro _ w ⟨x, k, ⟨hok, hk, h14, rfl⟩, hq⟩; have hx := hq.x; have hp := hp.call1 hq; refine ops_run nopre rfl ?_; skip
    (first | (refine H_box hp ?_; intro w b3 hx hp) | (refine H_alloc hp rfl ?_; intro w b3 hx hp)); refine ops_run nopre rfl ?_; (repeat (refine U_stBN hp rfl rfl rfl rfl ?_; intro w hp; refine ops_run nopre rfl ?_))
    refine h_call rfl Try.func7 (by kernel_rfl) rfl (DrawMasks_h a c code _ hp.rd hB (by omega)) ?_; rintro _ w ⟨bi, ci, W, ⟨rfl, hWl, hWi⟩, hq⟩; have hx := hq.x; have hp := hp.call1 hq; refine ops_run nopre rfl ?_; (repeat (refine H_ldB hp rfl rfl ?_))
    have hsz := hok.size'
    have hn := hok.nums
    have hn1 := hn.n1
    have hn2 := hn.n2
    have hnf := hn.f2
    have hnd := hok.nodes
    have hxl : x.n.ands.length = x.ands.length := rfl
    have hrl : (runF x.n W).length ≤ 1000000 := by rw [runF_yes hok (by omega)]; show (runTo x.n W W.length).length ≤ _; rw [runTo_len]; omega
    refine h_call rfl Try.func8 (by kernel_rfl) rfl (specNetRun_x x bi ci W _ (rNet_r (hp.take (rNet x))) hok.S' hok.W hp.rd (by omega) hWi) ?_; rintro _ w ⟨bw, cw, rfl, hq⟩; have hx := hq.x; have hp := hp.call1 hq; refine ops_run nopre rfl ?_; (repeat (refine H_ldB hp rfl rfl ?_))
    refine h_call rfl Try.func9 (by kernel_rfl) rfl (specEnumCuts_x x (k : Int) _ (rNet_r (hp.take (rNet x))) hok.S' hok.W (by unfold i64R; omega)) ?_; rintro _ w ⟨bR, cR, R, ⟨rfl, hRe⟩, hq⟩; have hx := hq.x; have hp := hp.call2 hq; refine ops_run nopre rfl ?_; skip
    rw [enumF_yes ⟨hok, by omega, by omega⟩, show ((k : Nat) : Int).toNat = k by omega] at hRe
    have hlen := cutsOf_len hok hk
    have hRl : R.length = (cutsOf x.n k).length := by rw [← insOf_len, hRe]
    have hR4 : ∀ r, r ∈ R → r.ins.length ≤ 4 := fun r hr => cutsOf_four hok hk _ (by rw [← hRe]; exact List.mem_map.2 ⟨r, hr, rfl⟩)
    have hRK : ∀ r, r ∈ R → CutK x.n k r.ins := fun r hr => cuts_K hok (k + 1) k (by omega) hk _ (by rw [← hRe]; exact List.mem_map.2 ⟨r, hr, rfl⟩)
    refine h_loop [3, 4, 5, 6, 7, 8, 9] (fun (i : Nat) => [(3, .pointer (some ⟨b3, 0, none⟩)), (4, .int .i64 (k : Int)), (5, .slice bi W.length ci), (6, .slice bw (runF x.n W).length cw), (7, .slice bR R.length cR), (8, .int .i64 (i : Int)), (9, .int .i64 (i : Int))])
      (fun i w' => i + 1 ≤ R.length ∧ Hp w0 w' [rO 26 1 eRo bR cR R, rRows 3 1 eI R, rO 3 1 eI bw cw (runF x.n W), rO 3 1 eI bi ci W, rB b3 28 x.cs, rNet x]) (fun i => R.length - i) 0 rfl ⟨by omega, hp⟩ ?_
    clear hp
    rintro i w1 ⟨hi, hp⟩ IH C
    refine h_run rfl ?_; skip
    refine h_cond_dec (fun hlt => ?_) (fun hlt => ?_)
    · have hlt' : i + 1 < R.length := by omega
      have hrow : RdH w0 [rO 26 1 eRo bR cR R, rRows 3 1 eI R, rO 3 1 eI bw cw (runF x.n W), rO 3 1 eI bi ci W, rB b3 28 x.cs, rNet x] (R.getD i default).ia 1 eI (R.getD i default).ins := RowsH.mem_ inferInstance (getD_memR (by omega))
      have hmem := getD_memR (show i < R.length by omega)
      have hr4 := hR4 _ hmem
      have hrk := hRK _ hmem
      have hfk : fst_ x.n ≤ k := Nat.le_of_not_lt fun h => by
        by_cases h0 : k = 0
        · rw [h0, cutsOf_0] at hRl; simp at hRl; omega
        · rw [cutsOf_leaf (by omega) h] at hRl; simp at hRl; omega
      obtain ⟨q, rfl⟩ : ∃ q, k = fst_ x.n + q := ⟨k - fst_ x.n, by omega⟩
      have hcm : (R.getD i default).ins ∈ cutsM x.n q := by
        unfold cutsM
        rw [← hRe, ← insOf_get, List.dropLast_eq_take, insOf_len]
        have h1 : i < ((insOf R).take (R.length - 1)).length := by rw [List.length_take, insOf_len]; omega
        have h2 : (insOf R).getD i default = ((insOf R).take (R.length - 1)).getD i default := by
          simp only [List.getD_eq_getElem?_getD]
          rw [List.getElem?_take, if_pos (by omega)]
        rw [h2]
        exact getD_mem h1
      have hP := cuts_rfP hok (show q < x.n.ands.length by omega) hcm
      have hroom := rfF_room hP (by omega)
      have hzok := rfF_ok hok ((fst_ x.n + q : Nat) : Int) (R.getD i default).ins
      have hint : ∀ j, j < (R.getD i default).ins.length → i64R ((R.getD i default).ins.getD j default) := fun j hj => by
        obtain ⟨z, hz, hcone⟩ := hrk.cone _ (getD_mem hj)
        have := hcone.le hn
        rw [hz]; unfold i64R; omega
      refine h_cond_t rfl rfl ?_; skip
      refine N_draw hp (by kernel_rfl) (by kernel_rfl) rfl rfl ?_; (repeat (refine nLoad ?_; first | refine N_ldB rfl rfl rfl ?_ | refine N_ldEN rfl (by omega) rfl rfl rfl ?_))
      refine N_call Try.func10 (by kernel_rfl) rfl (fun F w hp => ?_); refine Ret.mono (implRefactorAt_x x ((fst_ x.n + q : Nat) : Int) _ _ (R.getD i default).ins _ (rNet_r (hp.pre.take (rNet x))) hok.S' hok.W (by unfold i64R; omega) hp.pre.rd (by omega) hint) ?_; rintro _ w ⟨z, ⟨hz, rfl⟩, hq⟩; have hp := hp.callF1 hq; refine ⟨fun _ => hp.sub (by (repeat (first | exact List.sublist_append_left _ _ | apply List.Sublist.cons))), _, hp, ?_⟩; clear hp; refine N_ops rfl rfl ?_; skip
      (first | refine N_box ?_ | refine N_alloc rfl ?_); intro b10; refine N_ops rfl rfl ?_; (repeat (refine N_stBN rfl rfl rfl rfl (by kernel_rfl) ?_; refine N_ops rfl rfl ?_))
      refine N_end ?_; intro w hp C; refine h_run rfl ?_; skip
      rw [hroom]
      (repeat (first | (refine gGuard ?_; refine h_guard_y rfl nopre rfl ?_) | (refine gLoad ?_; refine H_ldB hp rfl rfl ?_)))
      have hzo : NetOkP z.n := by rw [hz]; exact hzok
      have hzr : runF z.n W = runF x.n W := runF_eq hok hzo (by omega) (by rw [hz]; exact rfF_run W)
      refine h_call rfl Try.func12 (by kernel_rfl) rfl (implNetRun_x z bi ci W _ (rNet_r (hp.take (rNet z))) hzo.S' hzo.W hp.rd (by omega) hWi) ?_; rintro _ w ⟨br, cr, rfl, hq⟩; have hx := hq.x; have hp := hp.call1 hq; refine ops_run nopre rfl ?_; (repeat (refine h_guard_y rfl nopre rfl ?_))
      rw [hzr] at hp ⊢
      refine h_call rfl Try.func11 (by kernel_rfl) rfl (sameInts_h br bw cr cw (runF x.n W) _ hp.rd hp.rd hrl) ?_; rintro _ w ⟨rfl, hx⟩; have hp := hp.ext hx; refine ops_run nopre rfl ?_; (repeat (refine h_guard_y rfl nopre rfl ?_))
      refine h_cond_f rfl rfl ?_; skip
      refine IH (i + 1) _ _ _ (by omega) rfl ⟨by omega, ?_⟩
      exact hp.drop.drop.drop
    · have hRi : R.length = i + 1 := by omega
      refine h_cond_f rfl rfl ?_; (repeat (first | (refine gLoad ?_; refine H_ldB hp rfl rfl ?_) | (refine gBuild ?_; refine U_litI hp rfl rfl rfl rfl rfl rfl rfl rfl rfl rfl ?_; intro w _ hx hp; refine ops_run nopre rfl ?_)))
      have hbad : ¬ rfP x.n (k : Int) [(k : Int)] := fun h => h.2.2 (by simp)
      refine h_call rfl Try.func10 (by kernel_rfl) rfl (implRefactorAt_x x (k : Int) _ _ [(k : Int)] _ (rNet_r (hp.take (rNet x))) hok.S' hok.W (by unfold i64R; omega) hp.rd (by simp) (fun j hj => by simp at hj; subst hj; unfold i64R; show _ ≤ ((k : Nat) : Int) ∧ ((k : Nat) : Int) ≤ _; omega)) ?_; rintro _ w ⟨z, ⟨hz, rfl⟩, hq⟩; have hx := hq.x; have hp := hp.call1 hq; refine ops_run nopre rfl ?_; skip
      rw [rfF_bad hbad]
      (first | (refine H_box hp ?_; intro w b12 hx hp) | (refine H_alloc hp rfl ?_; intro w b12 hx hp)); refine ops_run nopre rfl ?_; (repeat (first | (refine gGuard ?_; refine h_guard_y rfl nopre rfl ?_) | (refine gStore ?_; refine U_stBN hp rfl rfl rfl rfl ?_; intro w hp; refine ops_run nopre rfl ?_)))
      rw [decide_eq_true (show (i : Int) + 1 = (R.length : Int) by omega)]
      (repeat (first | (refine gGuard ?_; refine h_guard_y rfl nopre rfl ?_) | (refine gLoad ?_; refine H_ldB hp rfl rfl ?_)))
      refine h_call rfl Try.func12 (by kernel_rfl) rfl (implNetRun_x x bi ci W _ (rNet_r (hp.take (rNet x))) hok.S' hok.W hp.rd (by omega) hWi) ?_; rintro _ w ⟨br, cr, rfl, hq⟩; have hx := hq.x; have hp := hp.call1 hq; refine ops_run nopre rfl ?_; (repeat (refine h_guard_y rfl nopre rfl ?_))
      refine h_call rfl Try.func11 (by kernel_rfl) rfl (sameInts_h br bw cr cw (runF x.n W) _ hp.rd hp.rd hrl) ?_; rintro _ w ⟨rfl, hx⟩; have hp := hp.ext hx; refine ops_run nopre rfl ?_; (repeat (refine R_ret ?_))
      exact ⟨rfl, hp.x⟩
end Go.Proofs
end
section
/- From the form's reading of an argument to the facts that the contracts take: slices, structs, nets; each under its stated conditions. -/
namespace Go.Proofs
open Go.Xw Go.Deep Go.ChangeShapes Go.WideShapes
set_option maxRecDepth 100000

theorem dec_u8 {H : Type} {enc : TypeId × Value → H} {P : Program} {w : World} {base : Nat} {spare : Nat → Bool} {held : Bool} {t : TypeId} {fuel : Nat} {cs : List Value} {y : DataW H × List MemPlace}
    (ht : P.underlying t = some (.int .u8)) (h : DataW.trod enc P w base spare held fuel t cs = some y) : ∃ x : Int, cs = eU8 x ∧ 0 ≤ x ∧ x ≤ 255 := by
  obtain ⟨n, h1, _, h2⟩ := DataW.trod_int ht h
  refine ⟨n, h1, ?_⟩
  have e1 : IntKind.u8.min = 0 := rfl
  have e2 : IntKind.u8.max = 255 := rfl
  simp only [Lit.wf, Bool.and_eq_true, decide_eq_true_eq] at h2
  omega

theorem dec_slice {H : Type} {enc : TypeId × Value → H} {P : Program} {w : World} {base : Nat} {spare : Nat → Bool} {held : Bool} {t e : TypeId} {fuel s : Nat} {cs : List Value} {y : DataW H × List MemPlace} {α : Type} [Inhabited α] {en : α → List Value} {Q : α → Prop}
    (ht : P.underlying t = some (.slice e)) (hs : P.cellsOf e = s) (he : EncOk en s) (hd : ∀ (n : Nat) (cs : List Value) (z : DataW H × List MemPlace), DataW.trod enc P w base spare held n e cs = some z → ∃ x, cs = en x ∧ Q x)
    (h : DataW.trod enc P w base spare held fuel t cs = some y) : ∃ (a : Option Addr) (X : List α) (c : Nat), cs = [.slice a X.length c] ∧ Sl w a X.length s (fL en X) ∧ X.length ≤ c ∧ X.length ≤ maxLen ∧ ∀ i, i < X.length → Q (X.getD i default) := by
  rcases open_slice ht h with ⟨h1, _⟩ | ⟨a, len, cap, m, n, D, Pl, hcs, hb, hl, hm, hmm, hx, hi⟩
  · exact ⟨none, [], 0, h1, Sl.nil _ _ _ _, by simp, by simp, fun i hi => absurd hi (by simp)⟩
  · have hlm : len ≤ m := by
      rw [hmm]
      by_cases h2 : spare a.block = true
      · rw [if_pos h2]; exact hl
      · rw [if_neg h2]; exact Nat.le_refl _
    rw [hs] at hi
    have key : ∀ i, ∃ x : α, i < m → (∀ j, j < s → w.cell? ((a.add (i * s)).add j) = (en x)[j]?) ∧ Q x := fun i => by
      by_cases him : i < m
      · obtain ⟨cs', hc, ht'⟩ := hi i him
        obtain ⟨_, hcl, hat⟩ := World.cells?_some hc
        obtain ⟨x, hx, hq⟩ := hd _ _ _ ht'
        exact ⟨x, fun _ => ⟨fun j hj => by rw [hat j hj, hx], hq⟩⟩
      · exact ⟨default, fun h => absurd h him⟩
    have hget : ∀ i, i < len → ((List.range len).map fun i => Classical.choose (key i)).getD i default = Classical.choose (key i) := fun i hi => by
      simp [List.getD_eq_getElem?_getD, hi]
    have hlen : ((List.range len).map fun i => Classical.choose (key i)).length = len := by simp
    refine ⟨some a, (List.range len).map fun i => Classical.choose (key i), cap, by rw [hlen]; exact hcs, ?_, by rw [hlen]; omega, by rw [hlen]; omega, fun i hi => ?_⟩
    · rw [hlen]
      refine ⟨fun _ => by simp, fun i j hi hj => ?_⟩
      have h3 := (Classical.choose_spec (key i) (by omega)).1 j hj
      simp only [elemAddr, Option.getD_some, Int.toNat_natCast]
      rw [h3]
      have h4 : j < (en (Classical.choose (key i))).length := by rw [he.len]; exact hj
      simp only [fL, nthL_eq]
      rw [hget i hi, List.getElem?_eq_getElem h4]
    · rw [hlen] at hi
      rw [hget i hi]
      exact (Classical.choose_spec (key i) (by omega)).2

theorem dec_bytes {H : Type} {enc : TypeId × Value → H} {w : World} {base : Nat} {spare : Nat → Bool} {held : Bool} {fuel : Nat} {cs : List Value} {y : DataW H × List MemPlace}
    (h : DataW.trod enc Try.prog w base spare held fuel 22 cs = some y) : ∃ (a : Option Addr) (X : List Int) (c : Nat), cs = [.slice a X.length c] ∧ Sl w a X.length 1 (fL eU8 X) ∧ X.length ≤ maxLen ∧ ∀ i, i < X.length → 0 ≤ X.getD i default ∧ X.getD i default ≤ 255 := by
  obtain ⟨a, X, c, h1, h2, _, h3, h4⟩ := dec_slice Try.underlying22 (by kernel_rfl) eU8_ok (fun _ _ _ hz => dec_u8 Try.underlying5 hz) h
  exact ⟨a, X, c, h1, h2, h3, h4⟩
end Go.Proofs
end
section
/- From the form's reading of an argument to the facts that the contracts take; no condition. -/
namespace Go.Xw
open Go.RowKit

theorem row_sl {k : IntKind} {enc : Int → List Value} (henc : ∀ x, enc x = [.int k x]) {w : World} {a : Option Addr} {len cap : Nat} {zs : List Int}
    (h : (a = none ∧ len = 0 ∧ cap = 0 ∧ zs = []) ∨ ∃ x, a = some x ∧ len ≤ cap ∧ cap ≤ maxLen ∧ zs.length = cap ∧ (∀ i, i < zs.length → w.cell? (x.add i) = some (.int k (zs.getD i 0))) ∧ ∀ n ∈ zs, (Lit.int k n).wf = true) :
    ∃ xs : List Int, xs.length = len ∧ Sl w a xs.length 1 (fL enc xs) ∧ ∀ x ∈ xs, (Lit.int k x).wf = true := by
  rcases h with ⟨rfl, rfl, _, _⟩ | ⟨x, rfl, hl, _, hz, hc, hw⟩
  · exact ⟨[], rfl, Sl.nil _ _ _ _, fun x hx => by simp at hx⟩
  · refine ⟨zs.take len, by simp; omega, ⟨fun _ => by simp, fun i j hi hj => ?_⟩, fun x hx => hw x (List.mem_of_mem_take hx)⟩
    obtain rfl : j = 0 := by omega
    simp only [List.length_take] at hi
    have h1 := hc i (by omega)
    have ha : (elemAddr (some x) 1 (i : Int)).add 0 = x.add i := by
      simp [elemAddr, Addr.add]
    rw [ha, h1]
    simp only [fL, henc, nthL]
    congr 2
    rw [List.getD_eq_getElem?_getD, List.getD_eq_getElem?_getD, List.getElem?_take, if_pos (by omega)]
    rfl

theorem wf_i64 {x : Int} (h : (Lit.int .i64 x).wf = true) : -9223372036854775808 ≤ x ∧ x ≤ 9223372036854775807 := by
  have h1 : IntKind.i64.min = -9223372036854775808 := rfl
  have h2 : IntKind.i64.max = 9223372036854775807 := rfl
  simp only [Lit.wf, Bool.and_eq_true, decide_eq_true_eq] at h
  omega
theorem wf_u8 {x : Int} (h : (Lit.int .u8 x).wf = true) : 0 ≤ x ∧ x ≤ 255 := by
  have h1 : IntKind.u8.min = 0 := rfl
  have h2 : IntKind.u8.max = 255 := rfl
  simp only [Lit.wf, Bool.and_eq_true, decide_eq_true_eq] at h
  omega

theorem law_calls {P : Program} {f : FuncId} {args : List Value} {w : World} (h : Ret P f args w fun v w' => v = .bool true ∧ Ext w w') :
    Calls P f ⟨args⟩ w fun e w' => e = .returned (.bool true) ∧ Below w.heap.size w w' :=
  Calls.mono h fun _ _ ⟨_, he, hv, hx⟩ => ⟨by rw [he, hv], hx⟩

end Go.Xw
end
