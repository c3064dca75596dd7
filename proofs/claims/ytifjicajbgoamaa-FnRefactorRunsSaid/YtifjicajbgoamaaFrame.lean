/- Texts that belong together; each under its stated conditions. -/
import Derived.Test.YtifjicajbgoamaaCov
import Derived.Test.YtifjicajbgoamaaRefJ
import Derived.Test.YtifjicajbgoamaaRun
import Derived.Test.YtifjicajbgoamaaBalA
import Derived.Test.YtifjicajbgoamaaGraph4
import Derived.Test.YtifjicajbgoamaaProg
import Derived.Test.YtifjicajbgoamaaNetR
import Derived.KernelRfl
import Derived.ProofKit
import Derived.Deep.Slices
import Derived.Deep.Fields
import Derived.ChangeSame
import Derived.ChangeArms
import Derived.ChangeShapes
import Derived.Test.YtifjicajbgoamaaStep
set_option linter.all false
section
/- The law that refactoring and optimizing keep the runs of a drawn net; no condition but the stated ones. -/
namespace Go.Proofs
open Go.Xw
set_option maxRecDepth 100000
set_option maxHeartbeats 4000000
attribute [local irreducible] Holds elemAddr

theorem sameInts_h (a b : Option Addr) (c d : Nat) (X : List Int) (w0 : World) (hA : Rd w0 a 1 eI X) (hB : Rd w0 b 1 eI X) (hl : X.length ≤ 1000000) :
    Ret Try.prog 11 [.slice a X.length c, .slice b X.length d] w0 (fun v w => v = .bool true ∧ Ext w0 w) := by
  refine enter Try.S11ok _ _ rfl rfl (by show _ ≤ _; simp only [List.length]; decide) (fun C => ?_); have hp := Hp.nil w0; refine h_run rfl ?_; skip
  refine h_cond_f (by simp) rfl ?_; skip
  refine h_loop [0, 1, 5] (fun (i : Nat) => [(0, .slice a X.length c), (1, .slice b X.length d), (5, .int .i64 (i : Int))])
    (fun i w' => i ≤ X.length ∧ Hp w0 w' []) (fun i => X.length - i) 0 rfl ⟨by omega, hp⟩ ?_
  rintro i w1 ⟨hi, hp⟩ IH C
  refine h_run rfl ?_; skip
  refine h_cond_dec (fun hlt => ?_) (fun hlt => ?_)
  · have hlt' : i < X.length := by omega
    refine h_cond_t rfl rfl ?_; skip
    refine N_draw hp (by kernel_rfl) (by kernel_rfl) rfl rfl ?_; (repeat (refine N_ldEN rfl (by omega) rfl rfl rfl ?_))
    refine N_end ?_; intro w hp C; refine h_run rfl ?_; skip
    refine h_cond_f (by simp) rfl ?_; skip
    exact IH (i + 1) _ _ _ (by omega) rfl ⟨by omega, hp⟩
  · refine h_cond_f rfl rfl ?_; (repeat (refine R_ret ?_))
    exact ⟨rfl, hp.x⟩
theorem runF_eq {n m : NetL} (hn : NetOkP n) (hm : NetOkP m) {ins : List Int} (hl : ins.length ≤ 16) (h : runL m ins = runL n ins) : runF m ins = runF n ins := by
  rw [runF_yes hn hl, runF_yes hm hl, h]
theorem FnRefactorRuns_h (w0 : World) (a : Option Addr) (c : Nat) (code : List Int) (hR : Rd w0 a 1 eU8 code) (hM : code.length ≤ maxLen) (hB : AllB code) :
    Ret Try.prog 4 [.slice a code.length c] w0 (fun v w => v = .bool true ∧ Ext w0 w) := by
  have hM' : (code.length : Int) ≤ 9223372036854775807 := by unfold maxLen at hM; omega
  refine enter Try.S4ok _ _ rfl rfl (by show _ ≤ _; simp only [List.length]; decide) (fun C => ?_); have hp := Hp.nil w0; refine h_run rfl ?_; skip
  refine h_call rfl Try.func5 (by kernel_rfl) rfl (big_h a code.length c _) ?_; rintro _ w ⟨rfl, hx⟩; have hp := hp.ext hx; refine ops_run nopre rfl ?_; skip
  refine h_cond_dec (fun hbig => ?_) (fun hbig => ?_)
  · refine h_cond_t rfl rfl ?_; (repeat (refine R_ret ?_))
    exact ⟨rfl, hp.x⟩
  · refine h_cond_f rfl rfl ?_; skip
    refine h_call rfl Try.func13 (by kernel_rfl) rfl (DrawDeep_h a c code _ hp.rd hB (by omega)) ?_; rintro _ w ⟨x, ⟨hok, rfl⟩, hq⟩; have hx := hq.x; have hp := hp.call1 hq; refine ops_run nopre rfl ?_; skip
    (first | (refine H_box hp ?_; intro w b3 hx hp) | (refine H_alloc hp rfl ?_; intro w b3 hx hp)); refine ops_run nopre rfl ?_; (repeat (refine U_stBN hp rfl rfl rfl rfl ?_; intro w hp; refine ops_run nopre rfl ?_))
    refine h_call rfl Try.func7 (by kernel_rfl) rfl (DrawMasks_h a c code _ hp.rd hB (by omega)) ?_; rintro _ w ⟨bi, ci, W, ⟨rfl, hWl, hWi⟩, hq⟩; have hx := hq.x; have hp := hp.call1 hq; refine ops_run nopre rfl ?_; (repeat (refine H_ldB hp rfl rfl ?_))
    have hsz := hok.size'
    have hrl : (runF x.n W).length ≤ 1000000 := by rw [runF_yes hok (by omega)]; show (runTo x.n W W.length).length ≤ _; rw [runTo_len]; omega
    refine h_call rfl Try.func8 (by kernel_rfl) rfl (specNetRun_x x bi ci W _ (rNet_r (hp.take (rNet x))) hok.S' hok.W hp.rd (by omega) hWi) ?_; rintro _ w ⟨bw, cw, rfl, hq⟩; have hx := hq.x; have hp := hp.call1 hq; refine ops_run nopre rfl ?_; (repeat (refine H_ldB hp rfl rfl ?_))
    refine h_call rfl Try.func14 (by kernel_rfl) rfl (implRefactor_x x _ (rNet_r (hp.take (rNet x))) hok.S' hok.W) ?_; rintro _ w ⟨r, ⟨hr, rfl⟩, hq⟩; have hx := hq.x; have hp := hp.call1 hq; refine ops_run nopre rfl ?_; skip
    (first | (refine H_box hp ?_; intro w b6 hx hp) | (refine H_alloc hp rfl ?_; intro w b6 hx hp)); refine ops_run nopre rfl ?_; (repeat (first | (refine gLoad ?_; refine H_ldB hp rfl rfl ?_) | (refine gStore ?_; refine U_stBN hp rfl rfl rfl rfl ?_; intro w hp; refine ops_run nopre rfl ?_)))
    rw [ifNet_yes hok] at hr
    obtain ⟨l1, l2, l3⟩ := ref_like hok
    have hrok : NetOkP r.n := by rw [hr]; exact l1
    refine h_call rfl Try.func15 (by kernel_rfl) rfl (implOptimize_x x _ (rNet_r (hp.take (rNet x))) hok.S' hok.W) ?_; rintro _ w ⟨o, ⟨ho, rfl⟩, hq⟩; have hx := hq.x; have hp := hp.call1 hq; refine ops_run nopre rfl ?_; skip
    (first | (refine H_box hp ?_; intro w b7 hx hp) | (refine H_alloc hp rfl ?_; intro w b7 hx hp)); refine ops_run nopre rfl ?_; (repeat (refine U_stBN hp rfl rfl rfl rfl ?_; intro w hp; refine ops_run nopre rfl ?_))
    have hook : NetOkP o.n := by rw [ho]; exact optL_ok x.n
    have hrr : runF r.n W = runF x.n W := runF_eq hok hrok (by omega) (by rw [hr]; exact l3 W)
    have hor : runF o.n W = runF x.n W := runF_eq hok hook (by omega) (by rw [ho]; exact opt_run hok W)
    have hra : r.ands.length ≤ (hashL x.n).ands.length := by
      have : r.n.ands.length ≤ (hashL x.n).ands.length := by rw [hr]; exact l2
      exact this
    refine N_draw hp (by kernel_rfl) (by kernel_rfl) rfl rfl ?_; (repeat (refine N_ldB rfl rfl rfl ?_))
    refine N_call Try.func12 (by kernel_rfl) rfl (fun F w hp => ?_); refine Ret.mono (implNetRun_x r bi ci W _ (rNet_r (hp.pre.take (rNet r))) hrok.S' hrok.W hp.pre.rd (by omega) hWi) ?_; rintro _ w ⟨br, cr, rfl, hq⟩; have hp := hp.callF1 hq; refine ⟨fun _ => hp.sub (by (repeat (first | exact List.sublist_append_left _ _ | apply List.Sublist.cons))), _, hp, ?_⟩; clear hp; refine N_ops rfl rfl ?_; skip
    rw [hrr]
    refine N_call Try.func11 (by kernel_rfl) rfl (fun F w hp => ?_); refine Ret.mono (sameInts_h br bw cr cw (runF x.n W) _ hp.pre.rd hp.pre.rd hrl) ?_; rintro _ w ⟨rfl, hx⟩; have hp := hp.ext hx; refine ⟨fun _ => hp.sub (by (repeat (first | exact List.sublist_append_left _ _ | apply List.Sublist.cons))), _, hp, ?_⟩; clear hp; refine N_ops rfl rfl ?_; (repeat (first | (refine nGuard ?_; refine N_guard_y rfl rfl rfl ?_) | (refine nLoad ?_; refine N_ldB rfl rfl rfl ?_)))
    refine N_call Try.func12 (by kernel_rfl) rfl (fun F w hp => ?_); refine Ret.mono (implNetRun_x o bi ci W _ (rNet_r (hp.pre.take (rNet o))) hook.S' hook.W hp.pre.rd (by omega) hWi) ?_; rintro _ w ⟨bo, co, rfl, hq⟩; have hp := hp.callF1 hq; refine ⟨fun _ => hp.sub (by (repeat (first | exact List.sublist_append_left _ _ | apply List.Sublist.cons))), _, hp, ?_⟩; clear hp; refine N_ops rfl rfl ?_; (repeat (refine N_guard_y rfl rfl rfl ?_))
    rw [hor]
    refine N_call Try.func11 (by kernel_rfl) rfl (fun F w hp => ?_); refine Ret.mono (sameInts_h bo bw co cw (runF x.n W) _ hp.pre.rd hp.pre.rd hrl) ?_; rintro _ w ⟨rfl, hx⟩; have hp := hp.ext hx; refine ⟨fun _ => hp.sub (by (repeat (first | exact List.sublist_append_left _ _ | apply List.Sublist.cons))), _, hp, ?_⟩; clear hp; refine N_ops rfl rfl ?_; (repeat (first | (refine nGuard ?_; refine N_guard_y rfl rfl rfl ?_) | (refine nLoad ?_; refine N_ldB rfl rfl rfl ?_)))
    refine N_call Try.func16 (by kernel_rfl) rfl (fun F w hp => ?_); refine Ret.mono (implHash_x x _ (rNet_r (hp.pre.take (rNet x))) hok.S' hok.W) ?_; rintro _ w ⟨h, ⟨hh, rfl⟩, hq⟩; have hp := hp.callF1 hq; refine ⟨fun _ => hp.sub (by (repeat (first | exact List.sublist_append_left _ _ | apply List.Sublist.cons))), _, hp, ?_⟩; clear hp; refine N_ops rfl rfl ?_; (repeat (refine N_guard_y rfl rfl rfl ?_))
    rw [ifNet_yes hok] at hh
    have hha : h.ands.length = (hashL x.n).ands.length := by rw [← hh]; rfl
    rw [decide_eq_true (show (r.ands.length : Int) ≤ h.ands.length by omega)]
    (repeat (first | (refine nGuard ?_; refine N_guard_y rfl rfl rfl ?_) | (refine nLoad ?_; refine N_ldB rfl rfl rfl ?_)))
    refine N_call Try.func17 (by kernel_rfl) rfl (fun F w hp => ?_); refine Ret.mono (implDepth_x o _ (rNet_r (hp.pre.take (rNet o))) hook.S' hook.W) ?_; rintro _ w ⟨rfl, hx⟩; have hp := hp.ext hx; refine ⟨fun _ => hp.sub (by (repeat (first | exact List.sublist_append_left _ _ | apply List.Sublist.cons))), _, hp, ?_⟩; clear hp; refine N_ops rfl rfl ?_; (repeat (first | (refine nGuard ?_; refine N_guard_y rfl rfl rfl ?_) | (refine nLoad ?_; refine N_ldB rfl rfl rfl ?_)))
    refine N_call Try.func17 (by kernel_rfl) rfl (fun F w hp => ?_); refine Ret.mono (implDepth_x r _ (rNet_r (hp.pre.take (rNet r))) hrok.S' hrok.W) ?_; rintro _ w ⟨rfl, hx⟩; have hp := hp.ext hx; refine ⟨fun _ => hp.sub (by (repeat (first | exact List.sublist_append_left _ _ | apply List.Sublist.cons))), _, hp, ?_⟩; clear hp; refine N_ops rfl rfl ?_; (repeat (refine N_guard_y rfl rfl rfl ?_))
    refine N_end ?_; intro w hp C; refine h_run rfl ?_; (repeat (refine R_ret ?_))
    have hd : depthL o.n ≤ depthL r.n := by
      have h1 := opt_depth x.n
      have h2 : refF x.n = r.n := by rw [hr]; exact ifNet_yes hok
      rw [ho, ← h2]; exact h1
    exact ⟨by rw [decide_eq_true hd], hp.x⟩
end Go.Proofs
end
section
/- From the form's reading of an argument to the facts that the contracts take: slices, structs, nets; each under its stated conditions. -/
namespace Go.Proofs
open Go.Xw Go.Deep Go.ChangeShapes Go.WideShapes
set_option maxRecDepth 100000

theorem dec_int {H : Type} {enc : TypeId × Value → H} {P : Program} {w : World} {base : Nat} {spare : Nat → Bool} {held : Bool} {t : TypeId} {fuel : Nat} {cs : List Value} {y : DataW H × List MemPlace}
    (ht : P.underlying t = some (.int .i64)) (h : DataW.trod enc P w base spare held fuel t cs = some y) : ∃ x : Int, cs = eI x ∧ i64R x := by
  obtain ⟨n, h1, _, h2⟩ := DataW.trod_int ht h
  refine ⟨n, h1, ?_⟩
  have e1 : IntKind.i64.min = -9223372036854775808 := rfl
  have e2 : IntKind.i64.max = 9223372036854775807 := rfl
  simp only [Lit.wf, Bool.and_eq_true, decide_eq_true_eq] at h2
  unfold i64R
  omega

theorem dec_u8 {H : Type} {enc : TypeId × Value → H} {P : Program} {w : World} {base : Nat} {spare : Nat → Bool} {held : Bool} {t : TypeId} {fuel : Nat} {cs : List Value} {y : DataW H × List MemPlace}
    (ht : P.underlying t = some (.int .u8)) (h : DataW.trod enc P w base spare held fuel t cs = some y) : ∃ x : Int, cs = eU8 x ∧ 0 ≤ x ∧ x ≤ 255 := by
  obtain ⟨n, h1, _, h2⟩ := DataW.trod_int ht h
  refine ⟨n, h1, ?_⟩
  have e1 : IntKind.u8.min = 0 := rfl
  have e2 : IntKind.u8.max = 255 := rfl
  simp only [Lit.wf, Bool.and_eq_true, decide_eq_true_eq] at h2
  omega

theorem dec_slice {H : Type} {enc : TypeId × Value → H} {P : Program} {w : World} {base : Nat} {spare : Nat → Bool} {held : Bool} {t e : TypeId} {fuel s : Nat} {cs : List Value} {y : DataW H × List MemPlace} {α : Type} [Inhabited α] {en : α → List Value} {Q : α → Prop}
    (ht : P.underlying t = some (.slice e)) (hs : P.cellsOf e = s) (he : EncOk en s) (hd : ∀ (n : Nat) (cs : List Value) (z : DataW H × List MemPlace), DataW.trod enc P w base spare held n e cs = some z → ∃ x, cs = en x ∧ Q x)
    (h : DataW.trod enc P w base spare held fuel t cs = some y) : ∃ (a : Option Addr) (X : List α) (c : Nat), cs = [.slice a X.length c] ∧ Sl w a X.length s (fL en X) ∧ X.length ≤ c ∧ X.length ≤ maxLen ∧ ∀ i, i < X.length → Q (X.getD i default) := by
  rcases open_slice ht h with ⟨h1, _⟩ | ⟨a, len, cap, m, n, D, Pl, hcs, hb, hl, hm, hmm, hx, hi⟩
  · exact ⟨none, [], 0, h1, Sl.nil _ _ _ _, by simp, by simp, fun i hi => absurd hi (by simp)⟩
  · have hlm : len ≤ m := by
      rw [hmm]
      by_cases h2 : spare a.block = true
      · rw [if_pos h2]; exact hl
      · rw [if_neg h2]; exact Nat.le_refl _
    rw [hs] at hi
    have key : ∀ i, ∃ x : α, i < m → (∀ j, j < s → w.cell? ((a.add (i * s)).add j) = (en x)[j]?) ∧ Q x := fun i => by
      by_cases him : i < m
      · obtain ⟨cs', hc, ht'⟩ := hi i him
        obtain ⟨_, hcl, hat⟩ := World.cells?_some hc
        obtain ⟨x, hx, hq⟩ := hd _ _ _ ht'
        exact ⟨x, fun _ => ⟨fun j hj => by rw [hat j hj, hx], hq⟩⟩
      · exact ⟨default, fun h => absurd h him⟩
    have hget : ∀ i, i < len → ((List.range len).map fun i => Classical.choose (key i)).getD i default = Classical.choose (key i) := fun i hi => by
      simp [List.getD_eq_getElem?_getD, hi]
    have hlen : ((List.range len).map fun i => Classical.choose (key i)).length = len := by simp
    refine ⟨some a, (List.range len).map fun i => Classical.choose (key i), cap, by rw [hlen]; exact hcs, ?_, by rw [hlen]; omega, by rw [hlen]; omega, fun i hi => ?_⟩
    · rw [hlen]
      refine ⟨fun _ => by simp, fun i j hi hj => ?_⟩
      have h3 := (Classical.choose_spec (key i) (by omega)).1 j hj
      simp only [elemAddr, Option.getD_some, Int.toNat_natCast]
      rw [h3]
      have h4 : j < (en (Classical.choose (key i))).length := by rw [he.len]; exact hj
      simp only [fL, nthL_eq]
      rw [hget i hi, List.getElem?_eq_getElem h4]
    · rw [hlen] at hi
      rw [hget i hi]
      exact (Classical.choose_spec (key i) (by omega)).2

theorem dec_fields {H : Type} {enc : TypeId × Value → H} {P : Program} {w : World} {base : Nat} {spare : Nat → Bool} {held : Bool} {t : TypeId} {fuel : Nat} {cs : List Value} {y : DataW H × List MemPlace} {fs : Array Field}
    (ht : P.underlying t = some (.struct fs)) (hone : oneCellFields P fs = true) (hC : P.cellsOf t = fs.size) (h : DataW.trod enc P w base spare held fuel t cs = some y) :
    cs.length = fs.size ∧ ∀ (i : Nat) (f : Field), fs[i]? = some f → ∃ (n : Nat) (v : Value) (z : DataW H × List MemPlace), cs[i]? = some v ∧ DataW.trod enc P w base spare held n f.type [v] = some z := by
  obtain ⟨ys, n', _, _, hlen, hyl, hf⟩ := DataW.trod_struct ht h
  rw [hC] at hlen
  refine ⟨hlen, fun i f hi => ?_⟩
  obtain ⟨ho, hk⟩ := hone_of hone i f hi
  have hil : i < fs.size := (Array.getElem?_eq_some_iff.1 hi).1
  have h1 := hf i f hi
  rw [ho, hk] at h1
  have hone' : (cs.drop i).take 1 = [cs[i]'(by omega)] := by
    rw [List.drop_eq_getElem_cons (by omega)]
    rfl
  rw [hone'] at h1
  have hys : ys[i]? = some (ys[i]'(by omega)) := List.getElem?_eq_getElem (by omega)
  exact ⟨n', _, _, List.getElem?_eq_getElem (by omega), h1.trans hys⟩

theorem dec_bytes {H : Type} {enc : TypeId × Value → H} {w : World} {base : Nat} {spare : Nat → Bool} {held : Bool} {fuel : Nat} {cs : List Value} {y : DataW H × List MemPlace}
    (h : DataW.trod enc Try.prog w base spare held fuel 22 cs = some y) : ∃ (a : Option Addr) (X : List Int) (c : Nat), cs = [.slice a X.length c] ∧ Sl w a X.length 1 (fL eU8 X) ∧ X.length ≤ maxLen ∧ ∀ i, i < X.length → 0 ≤ X.getD i default ∧ X.getD i default ≤ 255 := by
  obtain ⟨a, X, c, h1, h2, _, h3, h4⟩ := dec_slice Try.underlying22 (by kernel_rfl) eU8_ok (fun _ _ _ hz => dec_u8 Try.underlying5 hz) h
  exact ⟨a, X, c, h1, h2, h3, h4⟩
end Go.Proofs
end
section
/- From the form's reading of an argument to the facts that the contracts take; no condition. -/
namespace Go.Xw
open Go.RowKit

theorem row_sl {k : IntKind} {enc : Int → List Value} (henc : ∀ x, enc x = [.int k x]) {w : World} {a : Option Addr} {len cap : Nat} {zs : List Int}
    (h : (a = none ∧ len = 0 ∧ cap = 0 ∧ zs = []) ∨ ∃ x, a = some x ∧ len ≤ cap ∧ cap ≤ maxLen ∧ zs.length = cap ∧ (∀ i, i < zs.length → w.cell? (x.add i) = some (.int k (zs.getD i 0))) ∧ ∀ n ∈ zs, (Lit.int k n).wf = true) :
    ∃ xs : List Int, xs.length = len ∧ Sl w a xs.length 1 (fL enc xs) ∧ ∀ x ∈ xs, (Lit.int k x).wf = true := by
  rcases h with ⟨rfl, rfl, _, _⟩ | ⟨x, rfl, hl, _, hz, hc, hw⟩
  · exact ⟨[], rfl, Sl.nil _ _ _ _, fun x hx => by simp at hx⟩
  · refine ⟨zs.take len, by simp; omega, ⟨fun _ => by simp, fun i j hi hj => ?_⟩, fun x hx => hw x (List.mem_of_mem_take hx)⟩
    obtain rfl : j = 0 := by omega
    simp only [List.length_take] at hi
    have h1 := hc i (by omega)
    have ha : (elemAddr (some x) 1 (i : Int)).add 0 = x.add i := by
      simp [elemAddr, Addr.add]
    rw [ha, h1]
    simp only [fL, henc, nthL]
    congr 2
    rw [List.getD_eq_getElem?_getD, List.getD_eq_getElem?_getD, List.getElem?_take, if_pos (by omega)]
    rfl

theorem wf_i64 {x : Int} (h : (Lit.int .i64 x).wf = true) : -9223372036854775808 ≤ x ∧ x ≤ 9223372036854775807 := by
  have h1 : IntKind.i64.min = -9223372036854775808 := rfl
  have h2 : IntKind.i64.max = 9223372036854775807 := rfl
  simp only [Lit.wf, Bool.and_eq_true, decide_eq_true_eq] at h
  omega
theorem wf_u8 {x : Int} (h : (Lit.int .u8 x).wf = true) : 0 ≤ x ∧ x ≤ 255 := by
  have h1 : IntKind.u8.min = 0 := rfl
  have h2 : IntKind.u8.max = 255 := rfl
  simp only [Lit.wf, Bool.and_eq_true, decide_eq_true_eq] at h
  omega

theorem law_calls {P : Program} {f : FuncId} {args : List Value} {w : World} (h : Ret P f args w fun v w' => v = .bool true ∧ Ext w w') :
    Calls P f ⟨args⟩ w fun e w' => e = .returned (.bool true) ∧ Below w.heap.size w w' :=
  Calls.mono h fun _ _ ⟨_, he, hv, hx⟩ => ⟨by rw [he, hv], hx⟩

end Go.Xw
end
