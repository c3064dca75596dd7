/- The contracts of the functions that prune a net; each under its stated conditions. -/
import Derived.Test.YtbjgekllkfnjnaaMap
import Derived.Test.YtbjgekllkfnjnaaObs
import Derived.Test.YtbjgekllkfnjnaaPruneLaw
set_option linter.all false
namespace Go.Proofs
open Go.Xw
set_option maxRecDepth 100000
set_option maxHeartbeats 1000000
attribute [local irreducible] Holds elemAddr

/-- a kept sequential element without In -/
def begS (n : NetL) (z : Int) : SeqL := ⟨(n.seqs.getD z.toNat default).kind, (n.seqs.getD z.toNat default).init, []⟩
theorem pr_all {n : NetL} {K : List Int} : upTo (fun j => prSq n (K.getD j default).toNat) K.length (K.map (begS n)) = K.map fun z => prSq n z.toNat := by
  have e := upTo_all (fun j => prSq n (K.getD j default).toNat) (K.map (begS n))
  rw [List.length_map] at e
  rw [e]
  refine list_eq (by simp) fun i hi => ?_
  simp at hi
  rw [range_get hi, map_getD hi]
theorem prune_h (x : NetA) (w0 : World) (hX : NetR w0 x) (hok : NetOkP x.n) :
    Ret Try.prog 73 [x.v] w0 (fun v w => ∃ y, (y.n = pruneL x.n ∧ v = y.v) ∧ Hp w0 w [rNet y]) := by
  have hn := hok.nums
  have n1 := hn.n1
  have n4 := hn.n2
  have f2 := hn.f2
  have hnd := hok.nodes
  have hsz := hok.size'
  have hf := hok.fsq
  have hf3 : x.n.inputs = x.inputs := rfl
  have hsl := x.slen
  have hoe : x.n.outs = x.outs := rfl
  have hal : x.n.ands.length = x.ands.length := rfl
  have hol := obsL_len x.n
  have hor := hX.seqs.row
  refine enter Try.S73ok _ _ rfl rfl (by show _ ≤ _; simp only [List.length]; decide) (fun C => ?_); have hp := Hp.nil w0; refine h_run rfl ?_; skip; (first | (refine H_box hp ?_; intro w b1 hx hp) | (refine H_alloc hp rfl ?_; intro w b1 hx hp)); refine ops_run nopre rfl ?_; skip; (first | (refine H_box hp ?_; intro w b2 hx hp) | (refine H_alloc hp rfl ?_; intro w b2 hx hp)); refine ops_run nopre rfl ?_; (repeat (refine H_ldB hp rfl rfl ?_))
  refine h_call rfl Try.func121 (by kernel_rfl) rfl (observable_h x _ hp.net hok) ?_; rintro _ w ⟨b3, c3, rfl, hq⟩; have hx := hq.x; have hp := hp.call1 hq; refine ops_run nopre rfl ?_; (repeat (refine H_ldB hp rfl rfl ?_))
  (first | (refine H_box hp ?_; intro w b4 hx hp) | (refine H_alloc hp rfl ?_; intro w b4 hx hp)); refine ops_run nopre rfl ?_; (repeat (first | (refine gLoad ?_; refine H_ldB hp rfl rfl ?_) | (refine gStore ?_; refine U_stBN hp rfl rfl rfl rfl ?_; intro w hp; refine ops_run nopre rfl ?_)))
  refine h_call rfl Try.func49 (by kernel_rfl) rfl (nodeCount_h x _ hok.b) ?_; rintro _ w ⟨rfl, hx⟩; have hp := hp.ext hx; refine ops_run nopre rfl ?_; skip
  rw [← n4]
  refine H_make hp eI 0 rfl rfl rfl rfl (s := 1) rfl (by decide) rfl (by unfold maxLen; omega) (by show 8 * _ ≤ _; omega) ?_; intro w b5 hx hp; refine ops_run nopre rfl ?_; skip
  refine h_loop [1, 2, 3, 4, 5, 6] (fun (k : Nat) => [(1, .pointer (some ⟨b1, 0, none⟩)), (2, .pointer (some ⟨b2, 0, none⟩)), (3, .slice b3 (nds x.n) c3), (4, .pointer (some ⟨b4, 0, none⟩)), (5, .slice (some ⟨b5, 0, none⟩) (nds x.n) (nds x.n)), (6, .int .i64 (k : Int))])
    (fun k w' => k ≤ fsq x.n ∧ Hp w0 w' [rO 3 1 eI (some ⟨b5, 0, none⟩) (nds x.n) (pT x.n k ++ List.replicate (nds x.n - k) 0), rB b4 28 [.int .i64 x.inputs, .slice none 0 0, .slice none 0 0, .slice none 0 0], rO 4 1 eB b3 c3 (obsL x.n), rB b2 28 (cellsV Try.ti28.zero), rB b1 28 x.cs]) (fun k => fsq x.n - k) 0 rfl ⟨by omega, hp⟩ ?_
  rintro k w1 ⟨hk, hp⟩ IH C
  have hpl : (pT x.n k ++ List.replicate (nds x.n - k) (0 : Int)).length = nds x.n := by rw [List.length_append, pT_len, List.length_replicate]; omega
  refine h_run rfl ?_; (repeat (refine H_ldB hp rfl rfl ?_))
  refine h_cond_dec (fun hlt => ?_) (fun hlt => ?_)
  · have hlt' : k < fsq x.n := by omega
    refine h_cond_t rfl rfl ?_; (repeat (refine U_st0N hp rfl rfl rfl (by omega) (by decide) rfl rfl ?_; intro w hp; refine ops_run nopre rfl ?_))
    refine IH (k + 1) _ _ _ (by omega) rfl ⟨by omega, ?_⟩
    rw [show nds x.n - k = nds x.n - (k + 1) + 1 by omega, pT_set (.inl hlt') (by rw [cK_inp x.n k (by omega)])] at hp
    exact hp
  · obtain rfl : k = fsq x.n := by omega
    clear IH
    have hp : Hp w0 _ (rO 91 3 eSq none 0 ([] : List SeqA) :: _) := hp.ownN (Ext.refl _) (Own.nil _ _ _ _ _)
    have hp : Hp w0 _ (rO 3 1 eI none 0 ([] : List Int) :: _) := hp.ownN (Ext.refl _) (Own.nil _ _ _ _ _)
    have hp := rIns_nil hp
    refine h_cond_f rfl rfl ?_; (repeat (refine H_ldB hp rfl rfl ?_))
    refine h_loop6 [1, 2, 3, 4, 5, 7, 35, 36, 37] (fun (i : Nat) (_ : List SeqA) (_ : Option Addr) (_ : Nat) (kb : Option Addr) (kc : Nat) => [(1, .pointer (some ⟨b1, 0, none⟩)), (2, .pointer (some ⟨b2, 0, none⟩)), (3, .slice b3 (nds x.n) c3), (4, .pointer (some ⟨b4, 0, none⟩)), (5, .slice (some ⟨b5, 0, none⟩) (nds x.n) (nds x.n)), (7, .slice kb (keptTo (obsL x.n) (fsq x.n) i).length kc), (35, .slice x.sa x.seqs.length x.sc), (36, .int .i64 x.seqs.length), (37, .int .i64 (i : Int))])
      (fun i R b c kb kc w' => (i ≤ x.seqs.length ∧ R.length = (keptTo (obsL x.n) (fsq x.n) i).length ∧ seqsOf R = (keptTo (obsL x.n) (fsq x.n) i).map (begS x.n)) ∧
        Hp w0 w' [rB b4 28 [.int .i64 x.inputs, .slice b R.length c, .slice none 0 0, .slice none 0 0], rO 91 3 eSq b c R, rIns R, rO 3 1 eI kb kc (keptTo (obsL x.n) (fsq x.n) i), rO 3 1 eI (some ⟨b5, 0, none⟩) (nds x.n) (pT x.n (fsq x.n + i) ++ List.replicate (nds x.n - (fsq x.n + i)) 0), rO 4 1 eB b3 c3 (obsL x.n), rB b2 28 (cellsV Try.ti28.zero), rB b1 28 x.cs]) (fun i _ _ _ _ _ => x.seqs.length - i) 0 [] none 0 none 0 rfl
      ⟨⟨by omega, rfl, rfl⟩, hp.f3.f2.f2.f3.f4⟩ ?_
    rintro i R b c kb kc w1 ⟨⟨hi, hR, hRs⟩, hp⟩ IH C
    have hkl := keptTo_len (obsL x.n) (fsq x.n) i
    have hpl : (pT x.n (fsq x.n + i) ++ List.replicate (nds x.n - (fsq x.n + i)) (0 : Int)).length = nds x.n := by rw [List.length_append, pT_len, List.length_replicate]; omega
    have hz : (1 + x.inputs + (i : Int)).toNat = fsq x.n + i := by omega
    refine h_run rfl ?_; skip
    refine h_cond_dec (fun hlt => ?_) (fun hlt => ?_)
    · have hlt' : i < x.seqs.length := by omega
      have hcs := cK_seq hok (show i ≤ x.n.seqs.length by omega)
      have hrep : List.replicate (nds x.n - (fsq x.n + i)) (0 : Int) = List.replicate (nds x.n - (fsq x.n + (i + 1)) + 1) 0 := by rw [show nds x.n - (fsq x.n + i) = nds x.n - (fsq x.n + (i + 1)) + 1 by omega]
      refine h_cond_t rfl rfl ?_; (repeat (refine H_ldEN hp rfl (by omega) rfl rfl ?_))
      (first | (refine H_box hp ?_; intro w b9 hx hp) | (refine H_alloc hp rfl ?_; intro w b9 hx hp)); refine ops_run nopre rfl ?_; (repeat (first | (refine gLoad ?_; refine H_ldB hp rfl rfl ?_) | (refine gStore ?_; refine U_stBN hp rfl rfl rfl rfl ?_; intro w hp; refine ops_run nopre rfl ?_)))
      refine h_call rfl Try.func69 (by kernel_rfl) rfl (firstSeq_h x _ hok.b) ?_; rintro _ w ⟨rfl, hx⟩; have hp := hp.ext hx; refine ops_run nopre rfl ?_; (repeat (refine H_ldE hp rfl (by omega) (by omega) rfl rfl ?_))
      refine h_cond_b (fun hb => ?_) (fun hb => ?_)
      · rw [hz] at hb
        have hob := (obsL_get (n := x.n) (k := fsq x.n + i) (by omega)).1 hb
        refine h_cond_t rfl rfl ?_; skip
        refine N_draw hp (by kernel_rfl) (by kernel_rfl) rfl rfl ?_; (repeat (refine N_ldB rfl rfl rfl ?_))
        refine N_call Try.func69 (by kernel_rfl) rfl (fun F w hp => ?_); refine Ret.mono (firstSeq_h x _ hok.b) ?_; rintro _ w ⟨rfl, hx⟩; have hp := hp.ext hx; refine ⟨fun _ => hp.sub (by (repeat (first | exact List.sublist_append_left _ _ | apply List.Sublist.cons))), _, hp, ?_⟩; clear hp; refine N_ops rfl rfl ?_; (repeat (first | (refine nLoad ?_; refine N_ldB rfl rfl rfl ?_) | (refine nStore ?_; refine N_st0 rfl rfl rfl (by omega) (by decide) rfl rfl (by kernel_rfl) ?_; refine N_ops rfl rfl ?_)))
        refine N_end ?_; intro w hp C; refine h_run rfl ?_; (repeat (refine H_ldB hp rfl rfl ?_))
        rw [hz, hrep, pT_set (.inr hob) (by rw [hcs, ← hR]; omega)] at hp
        refine H_lit hp eSq [⟨(x.seqs.getD i default).kind, (x.seqs.getD i default).init, [], none, 0⟩] rfl rfl rfl rfl (s := 3) rfl (by decide) (by infer_instance) (by rfl) (by rfl) (by rfl) (by decide) ?_; intro w b23 hx hp; refine ops_run nopre rfl ?_; skip
        refine U_append hp rfl rfl rfl rfl rfl rfl rfl (by decide) rfl (by first | omega | (simp only [List.length_append, List.length_cons, List.length_nil, List.length_take, List.length_drop, List.length_set, List.length_replicate, List.length_map]; omega)) rfl rfl ?_; intro b' c' w hp hnil; refine ops_run nopre rfl ?_; (repeat (first | (refine gStore ?_; refine U_stB hp rfl rfl rfl rfl ?_; intro w hp; refine ops_run nopre rfl ?_) | (refine gBuild ?_; refine U_litI hp rfl rfl rfl rfl rfl rfl rfl rfl rfl rfl ?_; intro w _ hx hp; refine ops_run nopre rfl ?_)))
        refine U_append hp rfl rfl rfl rfl rfl rfl rfl (by decide) rfl (by first | omega | (simp only [List.length_append, List.length_cons, List.length_nil, List.length_take, List.length_drop, List.length_set, List.length_replicate, List.length_map]; omega)) rfl rfl ?_; intro kb' kc' w hp hnil; refine ops_run nopre rfl ?_; skip
        have hp : Hp w0 _ (rO 3 1 eI none 0 ([] : List Int) :: _) := hp.ownN (Ext.refl _) (Own.nil _ _ _ _ _)
        have hp := rIns_add (y := ⟨(x.seqs.getD i default).kind, (x.seqs.getD i default).init, [], none, 0⟩) (hp.f6.f1)
        have hp := (hp.f1.drop.f1.drop.f1.drop).f2.f2
        refine IH (i + 1) (R ++ [⟨(x.seqs.getD i default).kind, (x.seqs.getD i default).init, [], none, 0⟩]) b' c' kb' kc' _ _ _ (by omega) (by rw [keptTo_yes hb]; rfl) ⟨⟨by omega, by rw [keptTo_yes hb]; simp; omega, ?_⟩, ?_⟩
        · rw [keptTo_yes hb, List.map_append, ← hRs, seqsOf_snoc]
          congr 1
          show [(⟨(x.seqs.getD i default).kind, (x.seqs.getD i default).init, []⟩ : SeqL)] = [begS x.n (i : Int)]
          unfold begS
          rw [show ((i : Int)).toNat = i from rfl, x.skind, x.sinit]
        · rw [keptTo_yes hb]
          exact hp
      · rw [hz] at hb
        have hnb : ¬ (obsL x.n).getD (fsq x.n + i) default = true := by rw [hb]; decide
        have hnk : ¬ KeptN x.n (fsq x.n + i) := fun h => h.elim (by omega) fun h => hnb ((obsL_get (by omega)).2 h)
        refine h_cond_f rfl rfl ?_; skip
        refine IH (i + 1) R b c kb kc _ _ _ (by omega) (by rw [keptTo_no hnb]; rfl) ⟨⟨by omega, by rw [keptTo_no hnb]; exact hR, by rw [keptTo_no hnb]; exact hRs⟩, ?_⟩
        rw [keptTo_no hnb, show fsq x.n + (i + 1) = fsq x.n + i + 1 by omega, ← pT_skip hnk, show nds x.n - (fsq x.n + i + 1) + 1 = nds x.n - (fsq x.n + i) by omega]
        exact hp.drop
    · refine h_cond_f rfl rfl ?_; (repeat (refine H_ldB hp rfl rfl ?_))
      obtain rfl : i = x.seqs.length := by omega
      clear IH
      have hKe : keptTo (obsL x.n) (fsq x.n) x.seqs.length = keptL x.n := by unfold keptL; rw [hsl]
      rw [hKe] at hR hRs hp
      rw [show fsq x.n + x.seqs.length = fst_ x.n by omega] at hp
      have hp : Hp w0 _ (rO 79 2 eII none 0 ([] : List (Int × Int)) :: _) := hp.ownN (Ext.refl _) (Own.nil _ _ _ _ _)
      refine h_loop3 [1, 2, 3, 4, 5, 7, 79, 80, 81] (fun (i : Nat) (_ : Option Addr) (_ : Nat) => [(1, .pointer (some ⟨b1, 0, none⟩)), (2, .pointer (some ⟨b2, 0, none⟩)), (3, .slice b3 (nds x.n) c3), (4, .pointer (some ⟨b4, 0, none⟩)), (5, .slice (some ⟨b5, 0, none⟩) (nds x.n) (nds x.n)), (7, .slice kb (keptL x.n).length kc), (79, .slice x.aa x.ands.length x.ac), (80, .int .i64 x.ands.length), (81, .int .i64 (i : Int))])
        (fun i aa ac w' => i ≤ x.ands.length ∧ Hp w0 w' [rB b4 28 [.int .i64 x.inputs, .slice b R.length c, .slice aa (prAns x.n i).length ac, .slice none 0 0], rO 79 2 eII aa ac (prAns x.n i), rO 3 1 eI (some ⟨b5, 0, none⟩) (nds x.n) (pT x.n (fst_ x.n + i) ++ List.replicate (nds x.n - (fst_ x.n + i)) 0), rO 91 3 eSq b c R, rIns R, rO 3 1 eI kb kc (keptL x.n), rO 4 1 eB b3 c3 (obsL x.n), rB b2 28 (cellsV Try.ti28.zero), rB b1 28 x.cs]) (fun i _ _ => x.ands.length - i) 0 none 0 (by rw [hKe]; rfl)
        ⟨by omega, hp.f4.f4.f4.f5.f4.f5⟩ ?_
      have hkL : (keptL x.n).length ≤ x.seqs.length := by rw [← hKe]; exact hkl
      clear hp hkl hpl hz hi
      rintro i aa ac w2 ⟨hi, hp⟩ IH C
      have hal2 := keptTo_len (obsL x.n) (fst_ x.n) i
      rw [← prAns_len] at hal2
      have hpl : (pT x.n (fst_ x.n + i) ++ List.replicate (nds x.n - (fst_ x.n + i)) (0 : Int)).length = nds x.n := by rw [List.length_append, pT_len, List.length_replicate]; omega
      have hz : (firstAndL x.n + (i : Int)).toNat = fst_ x.n + i := by omega
      refine h_run rfl ?_; skip
      refine h_cond_dec (fun hlt3 => ?_) (fun hlt3 => ?_)
      · have hlt' : i < x.ands.length := by omega
        have hrep : List.replicate (nds x.n - (fst_ x.n + i)) (0 : Int) = List.replicate (nds x.n - (fst_ x.n + (i + 1)) + 1) 0 := by rw [show nds x.n - (fst_ x.n + i) = nds x.n - (fst_ x.n + (i + 1)) + 1 by omega]
        obtain ⟨q1, q2, q3, q4⟩ := hok.and_ hlt'
        have hca := cK_and hok (show i ≤ x.n.ands.length by omega)
        rw [← prAns_len] at hca
        refine h_cond_t rfl rfl ?_; (repeat (refine H_ldEN hp rfl (by omega) rfl rfl ?_))
        (first | (refine H_box hp ?_; intro w b11 hx hp) | (refine H_alloc hp rfl ?_; intro w b11 hx hp)); refine ops_run nopre rfl ?_; (repeat (first | (refine gLoad ?_; refine H_ldB hp rfl rfl ?_) | (refine gStore ?_; refine U_stBN hp rfl rfl rfl rfl ?_; intro w hp; refine ops_run nopre rfl ?_)))
        refine h_call rfl Try.func91 (by kernel_rfl) rfl (firstAnd_h x _ hok.b) ?_; rintro _ w ⟨rfl, hx⟩; have hp := hp.ext hx; refine ops_run nopre rfl ?_; (repeat (refine H_ldE hp rfl (by omega) (by omega) rfl rfl ?_))
        refine h_cond_b (fun hb => ?_) (fun hb => ?_)
        · rw [hz] at hb
          have hob := (obsL_get (n := x.n) (k := fst_ x.n + i) (by omega)).1 hb
          have ka := hn.ka i hlt'
          have kb' := hn.kb i hlt'
          have tA : litV (pT x.n (fst_ x.n + i) ++ List.replicate (nds x.n - (fst_ x.n + i)) (0 : Int)) (x.ands.getD i default).1 = litV (toK x.n) (x.ands.getD i default).1 := by
            rw [litV_pad]; exact pT_lit ka (by omega) (.inr (hob.step (.inl ⟨i, hlt', rfl, .inl rfl⟩)))
          have tB : litV (pT x.n (fst_ x.n + i) ++ List.replicate (nds x.n - (fst_ x.n + i)) (0 : Int)) (x.ands.getD i default).2 = litV (toK x.n) (x.ands.getD i default).2 := by
            rw [litV_pad]; exact pT_lit kb' (by omega) (.inr (hob.step (.inl ⟨i, hlt', rfl, .inr rfl⟩)))
          refine h_cond_t rfl rfl ?_; skip
          refine N_draw hp (by kernel_rfl) (by kernel_rfl) rfl rfl ?_; (repeat (refine N_ldB rfl rfl rfl ?_))
          refine N_call Try.func71 (by kernel_rfl) rfl (fun F w hp => ?_); refine Ret.mono (mapLit_h _ _ _ _ hpl (x.ands.getD i default).1 _ hp.pre.rd q1 (by omega) (by omega)) ?_; rintro _ w ⟨rfl, hx⟩; have hp := hp.ext hx; refine ⟨fun _ => hp.sub (by (repeat (first | exact List.sublist_append_left _ _ | apply List.Sublist.cons))), _, hp, ?_⟩; clear hp; refine N_ops rfl rfl ?_; (repeat (refine N_ldB rfl rfl rfl ?_))
          refine N_call Try.func71 (by kernel_rfl) rfl (fun F w hp => ?_); refine Ret.mono (mapLit_h _ _ _ _ hpl (x.ands.getD i default).2 _ hp.pre.rd q3 (by omega) (by omega)) ?_; rintro _ w ⟨rfl, hx⟩; have hp := hp.ext hx; refine ⟨fun _ => hp.sub (by (repeat (first | exact List.sublist_append_left _ _ | apply List.Sublist.cons))), _, hp, ?_⟩; clear hp; refine N_ops rfl rfl ?_; skip
          rw [tA, tB]
          refine N_lit eII [(litV (toK x.n) (x.ands.getD i default).1, litV (toK x.n) (x.ands.getD i default).2)] rfl rfl rfl rfl (s := 2) rfl (by decide) (by infer_instance) (by rfl) (by rfl) (by rfl) (by decide) ?_; intro b42; refine N_ops rfl rfl ?_; skip
          refine N_append rfl rfl rfl rfl rfl rfl rfl (by decide) rfl (by first | omega | (simp only [List.length_append, List.length_cons, List.length_nil, List.length_take, List.length_drop, List.length_set, List.length_replicate, List.length_map]; omega)) rfl rfl (fun hq => Bool.noConfusion (hq.symm.trans (by kernel_rfl : flagAt _ _ = false))) ?_; intro aa' ac' hnil; refine N_ops rfl rfl ?_; (repeat (refine N_stB rfl rfl rfl rfl (by kernel_rfl) ?_; refine N_ops rfl rfl ?_))
          refine N_end ?_; intro w hp C; refine h_run rfl ?_; (repeat (refine H_ldB hp rfl rfl ?_))
          have hb3 : NetB ⟨x.inputs, R, b, c, prAns x.n i ++ [(litV (toK x.n) (x.ands.getD i default).1, litV (toK x.n) (x.ands.getD i default).2)], aa', ac', [], none, 0⟩ := ⟨by show _ ≤ x.inputs ∧ x.inputs ≤ _; omega, by show R.length ≤ _; omega, by show (prAns x.n i ++ _).length ≤ _; simp; omega⟩
          have hnd3 : 2 * (nodesL (NetA.mk x.inputs R b c (prAns x.n i ++ [(litV (toK x.n) (x.ands.getD i default).1, litV (toK x.n) (x.ands.getD i default).2)]) aa' ac' [] none 0).n - 1) = 2 * (cK x.n (fst_ x.n + i) : Int) := by
            rw [nodesL_eq, hca]; show 2 * (1 + x.inputs + (R.length : Nat) + (((prAns x.n i) ++ _).length : Nat) - 1) = _; simp; omega
          refine h_call rfl Try.func49 (by kernel_rfl) rfl (nodeCount_h ⟨x.inputs, R, b, c, prAns x.n i ++ [(litV (toK x.n) (x.ands.getD i default).1, litV (toK x.n) (x.ands.getD i default).2)], aa', ac', [], none, 0⟩ _ hb3) ?_; rintro _ w ⟨rfl, hx⟩; have hp := hp.ext hx; refine ops_run nopre rfl ?_; (repeat (refine U_st0 hp rfl rfl rfl (by omega) (by decide) rfl rfl ?_; intro w hp; refine ops_run nopre rfl ?_))
          rw [hz, hrep, pT_set (.inr hob) hnd3] at hp
          refine IH (i + 1) aa' ac' _ _ _ (by omega) rfl ⟨by omega, ?_⟩
          rw [prAns_yes hb]
          exact hp.drop.drop
        · rw [hz] at hb
          have hnb : ¬ (obsL x.n).getD (fst_ x.n + i) default = true := by rw [hb]; decide
          have hnk : ¬ KeptN x.n (fst_ x.n + i) := fun h => h.elim (by omega) fun h => hnb ((obsL_get (by omega)).2 h)
          refine h_cond_f rfl rfl ?_; skip
          refine IH (i + 1) aa ac _ _ _ (by omega) rfl ⟨by omega, ?_⟩
          rw [prAns_no hnb, show fst_ x.n + (i + 1) = fst_ x.n + i + 1 by omega, ← pT_skip hnk, show nds x.n - (fst_ x.n + i + 1) + 1 = nds x.n - (fst_ x.n + i) by omega]
          exact hp.drop
      · refine h_cond_f rfl rfl ?_; skip
        obtain rfl : i = x.ands.length := by omega
        clear IH
        rw [show nds x.n - (fst_ x.n + x.ands.length) = 0 by omega, List.replicate_zero, List.append_nil, show fst_ x.n + x.ands.length = nds x.n by omega] at hp hpl
        have hlk : ∀ l, litP l (nodesL x.n) → 0 ≤ l ∧ l / 2 < (nds x.n : Int) := fun l h => by unfold litP at h; omega
        refine h_loop2 [1, 2, 4, 5, 116, 117, 118] (fun (j : Nat) (_ : List SeqA) => [(1, .pointer (some ⟨b1, 0, none⟩)), (2, .pointer (some ⟨b2, 0, none⟩)), (4, .pointer (some ⟨b4, 0, none⟩)), (5, .slice (some ⟨b5, 0, none⟩) (nds x.n) (nds x.n)), (116, .slice kb (keptL x.n).length kc), (117, .int .i64 (keptL x.n).length), (118, .int .i64 (j : Int))])
          (fun j T w' => (j ≤ (keptL x.n).length ∧ T.length = R.length ∧ seqsOf T = upTo (fun j => prSq x.n ((keptL x.n).getD j default).toNat) j ((keptL x.n).map (begS x.n))) ∧
            Hp w0 w' [rO 91 3 eSq b c T, rIns T, rB b4 28 [.int .i64 x.inputs, .slice b R.length c, .slice aa (prAns x.n x.ands.length).length ac, .slice none 0 0], rO 79 2 eII aa ac (prAns x.n x.ands.length), rO 3 1 eI (some ⟨b5, 0, none⟩) (nds x.n) (pT x.n (nds x.n)), rO 3 1 eI kb kc (keptL x.n), rB b2 28 (cellsV Try.ti28.zero), rB b1 28 x.cs]) (fun j _ => (keptL x.n).length - j) 0 R rfl
          ⟨⟨by omega, rfl, by rw [upTo_zero, hRs]⟩, (hp.f6.drop).f5.f3.f3.f3.f5.f5⟩ ?_
        clear hp
        rintro j T w3 ⟨⟨hj, hT, hTs⟩, hp⟩ IH C
        refine h_run rfl ?_; skip
        refine h_cond_dec (fun hlt4 => ?_) (fun hlt4 => ?_)
        · have hlt4' : j < (keptL x.n).length := by omega
          obtain ⟨i, i1, i2, i3, _⟩ := keptTo_at (show j < (keptTo (obsL x.n) (fsq x.n) x.n.seqs.length).length from hlt4')
          have i2 : (keptL x.n).getD j default = (i : Int) := i2
          have hi' : i < x.seqs.length := by omega
          have hob : Obs x.n (fsq x.n + i) := (obsL_get (by omega)).1 i3
          have hil := hok.ins hi'
          have hsx := x.sins i
          have hmem : ∀ q, q < (x.seqs.getD i default).ins.length → (x.seqs.getD i default).ins.getD q default ∈ (x.n.seqs.getD i default).ins := fun q hq => by rw [hsx]; exact getD_mem hq
          have hq : ∀ q, q < (x.seqs.getD i default).ins.length → 0 ≤ (x.seqs.getD i default).ins.getD q default ∧ (x.seqs.getD i default).ins.getD q default / 2 < (nds x.n : Int) := fun q hq => hlk _ (hok.inp (getD_mem i1) _ (hmem q hq))
          have hmap : mapL (pT x.n (nds x.n)) (x.seqs.getD i default).ins = mapL (toK x.n) (x.seqs.getD i default).ins := pT_map (fun l hl => by
            have hl' : l ∈ (x.n.seqs.getD i default).ins := by rw [hsx]; exact hl
            exact ⟨(hok.inp (getD_mem i1) l hl').nat hn, .inr (hob.step (.inr ⟨i, i1, rfl, l, hl', rfl⟩))⟩) (Nat.le_refl _)
          have hrow := hX.seqs.at_ hi'
          have hptl := pT_len x.n (nds x.n)
          have hz4 : ((keptL x.n).getD j default).toNat = i := by rw [i2]; rfl
          have hne : b ≠ none := nn_of hp (X := T) (by omega)
          refine h_cond_t rfl rfl ?_; (repeat (refine H_ldEN hp rfl (by omega) rfl rfl ?_))
          refine N_draw hp (by kernel_rfl) (by kernel_rfl) rfl rfl ?_; (repeat (refine nLoad ?_; first | refine N_ldB rfl rfl rfl ?_ | refine N_ldF rfl (by omega) (by omega) rfl rfl rfl ?_))
          rw [hz4]
          refine N_call Try.func120 (by kernel_rfl) rfl (fun F w hp => ?_); refine Ret.mono (mapLits_h _ _ _ _ (pT x.n (nds x.n)) (x.seqs.getD i default).ins _ _ hptl rfl _ hp.pre.rd hp.pre.rd hq (by omega) (by omega)) ?_; rintro _ w ⟨r, e, rfl, hq⟩; have hp := hp.callF1 hq; refine ⟨fun _ => hp.sub (by (repeat (first | exact List.sublist_append_left _ _ | apply List.Sublist.cons))), _, hp, ?_⟩; clear hp; refine N_ops rfl rfl ?_; skip
          rw [hmap]
          first | refine N_st1N ({ T.getD j default with ins := mapL (toK x.n) (x.seqs.getD i default).ins, ia := r, ic := e }) rfl rfl rfl (by omega) (by decide) rfl rfl (by kernel_rfl) ?_ | refine N_st1 ({ T.getD j default with ins := mapL (toK x.n) (x.seqs.getD i default).ins, ia := r, ic := e }) rfl rfl rfl (by omega) (by decide) rfl rfl (by kernel_rfl) ?_
          refine N_ops rfl rfl ?_; skip
          refine N_end ?_; intro w hp C; refine h_run rfl ?_; skip
          obtain ⟨Q, hq2, hback⟩ := rIns_at hp.f2 (i := j) (by omega)
          have hp := (hback _ _ { T.getD j default with ins := mapL (toK x.n) (x.seqs.getD i default).ins, ia := r, ic := e } hq2.drop.f1).f1
          refine IH (j + 1) _ _ _ _ (by omega) rfl ⟨⟨by omega, by simp; omega, ?_⟩, hp⟩
          have hix : j < ((keptL x.n).map (begS x.n)).length := by simp; omega
          rw [seqsOf_set, hTs, ← upTo_set (f := fun j => prSq x.n ((keptL x.n).getD j default).toNat) hix]
          congr 1
          have h1 : (T.getD j default).s = begS x.n (i : Int) := by
            rw [← seqsOf_get, hTs, upTo_at (Nat.le_refl _) (by omega), map_getD hlt4', i2]
          have h2 : (T.getD j default).kind = (x.n.seqs.getD i default).kind := congrArg SeqL.kind h1
          have h3 : (T.getD j default).init = (x.n.seqs.getD i default).init := congrArg SeqL.init h1
          show (⟨(T.getD j default).kind, (T.getD j default).init, mapL (toK x.n) (x.seqs.getD i default).ins⟩ : SeqL) = prSq x.n ((keptL x.n).getD j default).toNat
          unfold prSq
          rw [hz4, h2, h3, hsx]
        · refine h_cond_f rfl rfl ?_; (repeat (refine H_ldB hp rfl rfl ?_))
          obtain rfl : j = (keptL x.n).length := by omega
          have hptl := pT_len x.n (nds x.n)
          have hmo : mapL (pT x.n (nds x.n)) x.outs = mapL (toK x.n) x.outs := pT_map (fun l hl => ⟨(hok.out l hl).nat hn, .inr (.out hl)⟩) (Nat.le_refl _)
          refine h_call rfl Try.func120 (by kernel_rfl) rfl (mapLits_h _ _ _ _ (pT x.n (nds x.n)) x.outs _ _ hptl rfl _ hp.rd hp.rd (fun q hq => hlk _ (hok.out _ (getD_mem hq))) (by omega) (by omega)) ?_; rintro _ w ⟨r, e, rfl, hq⟩; have hx := hq.x; have hp := hp.call1 hq; refine ops_run nopre rfl ?_; (repeat (first | (refine gLoad ?_; refine H_ldB hp rfl rfl ?_) | (refine gStore ?_; (first | refine U_stB hp rfl rfl rfl rfl ?_ | refine U_stBN hp rfl rfl rfl rfl ?_); intro w hp; refine ops_run nopre rfl ?_) | (refine gRetc ?_; refine R_ret1 hp rfl ?_)))
          rw [hmo] at hp ⊢
          have hfin : seqsOf T = (pruneL x.n).seqs := by rw [hTs, pr_all]; rfl
          refine ⟨⟨x.inputs, T, b, c, prAns x.n x.ands.length, aa, ac, mapL (toK x.n) x.outs, r, e⟩, ⟨?_, ?_⟩, ?_⟩
          · unfold NetA.n
            rw [hfin]
            rfl
          · unfold NetA.v NetA.cs
            rw [hT]
          · exact Hp.tk (rNet_shut (x := ⟨x.inputs, T, b, c, prAns x.n x.ands.length, aa, ac, mapL (toK x.n) x.outs, r, e⟩) ((rSq_shut (hp.f2.f2)).f1.f3.f2)) 1
end Go.Proofs
