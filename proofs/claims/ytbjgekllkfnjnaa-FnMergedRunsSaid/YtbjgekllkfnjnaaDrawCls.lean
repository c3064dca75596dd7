/- The contracts of the functions that draw nets with classes; each under its stated conditions. -/
import Derived.Test.YtbjgekllkfnjnaaDrawNet
import Derived.Test.YtbjgekllkfnjnaaClsS
set_option linter.all false
namespace Go.Proofs
open Go.Xw
set_option maxRecDepth 100000
set_option maxHeartbeats 1500000
attribute [local irreducible] Holds elemAddr
theorem V_stBNF {S : Setting} {sz : Nat} {R : Value → World → Prop} {C : World → Prop} {w : World} {ops : Array Oper} {rest : List Oper} {k : List Item} {env : Env} {w0 : World} {F : List Res} {b : Nat} {tb t : TypeId} {cs vs : List Value} {f : List Value → List Res} {i : TI} [hS : S.Ok] (hp : Hp w0 w F) [hu : UpdB F b tb cs f] (hi : tl S.tt t = some i) (hs : i.size = vs.length) (hl : Nat.beq cs.length vs.length = true) (h1 : vs.all Value.oneCell' = true)
    (hC : ∀ w', Hp w0 w' (f vs) → C w') (hk : ∀ w', Hp w0 w' (f vs) → Holds S sz R C w' (.ops true ops rest k env)) : Holds S sz R C w (.act (.store t ⟨b, 0, none⟩ (.agg ⟨vs⟩)) ⟨true, ops, rest, none, k, env⟩) := by
  obtain ⟨M, h3, h2⟩ := hu.h
  have hq := hp.perm h3
  obtain ⟨w', r, h, g⟩ := Blk.storeN hS.tt hi (show Blk w b tb cs from hq.g0) hs (Nat.eq_of_beq_eq_true hl) (fun v hv => List.all_eq_true.1 h1 v hv)
  have hz := (hq.blkS h g).perm (h2 _).symm
  exact h_act_skipq rfl rfl r ⟨fun _ => hC w' hz, hk w' hz⟩
theorem l01Place_h {w0 w : World} {L : List Res} {p : Nat} {a : Option Addr} {n c : Nat} {code : List Int} (hR : Rd w0 a 1 eU8 code) (hn : code.length = n) (hp : Hp w0 w (rCur p a n c :: L)) (m : Int) (hm : 0 ≤ m ∧ m ≤ 1000000) :
    Ret Try.prog 113 [.pointer (some ⟨p, 0, none⟩), .int .i64 m] w (fun v w' => ∃ z, (v = .int .i64 z ∧ i64R z) ∧ Hp w0 w' (rCur p a n c :: L)) := by
  refine enter Try.S113ok _ _ rfl rfl (by show _ ≤ _; simp only [List.length]; decide) (fun C => ?_); refine h_run rfl ?_; skip
  refine h_call rfl Try.func112 (by kernel_rfl) rfl (l01Once_h hR hn hp 15) ?_; rintro _ w ⟨bb, rfl, hp⟩; refine ops_run nopre rfl ?_; skip
  cases bb
  · refine h_cond_f rfl rfl ?_; skip
    refine h_call rfl Try.func42 (by kernel_rfl) rfl (l01Below_h hR hn hp m) ?_; rintro _ w ⟨z, ⟨rfl, hz0, hz1⟩, hp⟩; refine ops_run nopre rfl ?_; (repeat (refine R_ret ?_))
    refine ⟨_, ⟨rfl, ?_⟩, hp⟩
    unfold i64R
    by_cases h : 0 < m
    · have := hz1 h; omega
    · have := hz0 (by omega); omega
  · refine h_cond_t rfl rfl ?_; (repeat (refine U_litI hp rfl rfl rfl rfl rfl rfl rfl rfl rfl rfl ?_; intro w _ hx hp; refine ops_run nopre rfl ?_))
    refine h_call rfl Try.func114 (by kernel_rfl) rfl (l01PickInt_h hR hn hp.f1 _ _ _ (by simp) (by simp)) ?_; rintro _ w ⟨z, ⟨rfl, j, hj, hz⟩, hp⟩; refine ops_run nopre rfl ?_; (repeat (refine R_ret ?_))
    refine ⟨_, ⟨rfl, ?_⟩, hp.f1.drop⟩
    have hj5 : j < 5 := hj
    rw [hz]
    have : j = 0 ∨ j = 1 ∨ j = 2 ∨ j = 3 ∨ j = 4 := by omega
    unfold i64R
    rcases this with rfl | rfl | rfl | rfl | rfl
    · show -9223372036854775808 ≤ (-1 : Int) ∧ (-1 : Int) ≤ _; omega
    · show -9223372036854775808 ≤ m ∧ m ≤ _; omega
    · show -9223372036854775808 ≤ m + 1 ∧ m + 1 ≤ _; omega
    · show -9223372036854775808 ≤ (9223372036854775807 : Int) ∧ (9223372036854775807 : Int) ≤ _; omega
    · show -9223372036854775808 ≤ (-9223372036854775808 : Int) ∧ (-9223372036854775808 : Int) ≤ _; omega
theorem l16Net_h {w0 w : World} {L : List Res} {p : Nat} {a : Option Addr} {n c : Nat} {code : List Int} (hR : Rd w0 a 1 eU8 code) (hn : code.length = n) (hp : Hp w0 w (rCur p a n c :: L)) :
    Ret Try.prog 65 [.pointer (some ⟨p, 0, none⟩)] w (fun v w' => ∃ y, (NetOkP y.n ∧ (1 ≤ y.inputs ∧ y.inputs ≤ 2 ∧ y.seqs.length ≤ 4) ∧ v = y.v) ∧ Hp w0 w' (rNet y :: rCur p a n c :: L)) := by
  refine enter Try.S65ok _ _ rfl rfl (by show _ ≤ _; simp only [List.length]; decide) (fun C => ?_); refine h_run rfl ?_; skip
  (first | (refine H_box hp ?_; intro w b2 hx hp) | (refine H_alloc hp rfl ?_; intro w b2 hx hp)); refine ops_run nopre rfl ?_; skip
  refine h_call rfl Try.func111 (by kernel_rfl) rfl (l15Net_b hR hn hp.f1) ?_; rintro _ w ⟨y, ⟨hok, hsm, rfl⟩, hp⟩; refine ops_run nopre rfl ?_; skip
  (first | (refine H_box hp ?_; intro w b3 hx hp) | (refine H_alloc hp rfl ?_; intro w b3 hx hp)); refine ops_run nopre rfl ?_; (repeat (refine U_stBN hp rfl rfl rfl rfl ?_; intro w hp; refine ops_run nopre rfl ?_))
  have hnd := hok.nodes
  have hp := (rNet_open hp.f1)
  have hp := (rSq_open hp)
  refine h_loop2 [0, 2, 3, 4] (fun (i : Nat) (_ : List SeqA) => [(0, .pointer (some ⟨p, 0, none⟩)), (2, .pointer (some ⟨b2, 0, none⟩)), (3, .pointer (some ⟨b3, 0, none⟩)), (4, .int .i64 (i : Int))])
    (fun i R w' => (R.length = y.seqs.length ∧ (∀ s, s ∈ R → seqOkP s.s ∧ ∀ l, l ∈ s.ins → litP l (nodesL y.n))) ∧ Hp w0 w' (rO 91 3 eSq y.sa y.sc R :: rIns R :: rCur p a n c :: rB b3 28 y.cs :: rO 79 2 eII y.aa y.ac y.ands :: rO 3 1 eI y.oa y.oc y.outs :: rB b2 28 (cellsV Try.ti28.zero) :: L)) (fun i _ => y.seqs.length - i) 1 y.seqs rfl
    ⟨⟨rfl, fun s hs => ?_⟩, hp.f3.f3.f4.f5.f5.f5⟩ ?_
  · obtain ⟨i, hi, rfl⟩ := List.mem_iff_getElem.1 hs
    have e : y.seqs[i] = y.seqs.getD i default := by rw [List.getD_eq_getElem?_getD, List.getElem?_eq_getElem hi]; rfl
    have hi' : i < y.n.seqs.length := by rw [y.slen]; exact hi
    have h1 := hok.seqs i hi'
    rw [y.sget] at h1
    rw [e]
    refine ⟨h1, fun l hl => hok.inp (getD_mem hi') l ?_⟩
    rw [y.sget]; exact hl
  clear hp
  rintro i R w1 ⟨⟨hRl, hRa⟩, hp⟩ IH C
  refine h_run rfl ?_; (repeat (refine H_ldB hp rfl rfl ?_))
  refine h_cond_dec (fun hlt => ?_) (fun hlt => ?_)
  · have hlt' : i < y.seqs.length := by omega
    have hm0 := getD_mem (X := R) (i := 0) (by omega)
    have hok0 := (hRa _ hm0).1
    have hin0 : 0 < (R.getD 0 default).ins.length := by
      have h := hok0
      unfold seqOkP at h
      rcases h with ⟨_, _, h⟩ | ⟨_, _, h⟩ <;> (have h : (R.getD 0 default).ins.length = _ := h; omega)
    have hi0 : 0 ≤ (R.getD 0 default).init ∧ ((R.getD 0 default).kind = 0 → (R.getD 0 default).init ≤ 1) := by
      have h := hok0
      unfold seqOkP at h
      rcases h with ⟨k1, ⟨k2, k3⟩, _⟩ | ⟨k1, ⟨k2, k3⟩, _⟩
      · exact ⟨k2, fun _ => k3⟩
      · refine ⟨k2, fun h => ?_⟩
        have k1 : (R.getD 0 default).kind = 1 := k1
        omega
    refine h_cond_t rfl rfl ?_; skip
    refine h_call rfl Try.func112 (by kernel_rfl) rfl (l01Once_h hR hn (hp.f1.f1.f2) 2) ?_; rintro _ w ⟨bb, rfl, hp⟩; refine ops_run nopre rfl ?_; skip
    cases bb
    · (repeat (refine h_guard_n rfl nopre rfl ?_))
      refine h_cond_f rfl rfl ?_; skip
      exact IH (i + 1) R _ _ _ (by omega) rfl ⟨⟨hRl, hRa⟩, hp.f2.f2⟩
    · (repeat (first | (refine gGuard ?_; refine h_guard_y rfl nopre rfl ?_) | (refine gLoad ?_; first | refine H_ldB hp rfl rfl ?_ | refine H_ldF hp rfl (by omega) (by omega) rfl rfl ?_)))
      refine h_cond_dec (fun h5 => ?_) (fun h5 => ?_)
      · refine h_cond_t rfl rfl ?_; skip
        have hr0 : RdH w0 (rCur p a n c :: rO 91 3 eSq y.sa y.sc R :: rIns R :: rB b3 28 y.cs :: rO 79 2 eII y.aa y.ac y.ands :: rO 3 1 eI y.oa y.oc y.outs :: rB b2 28 (cellsV Try.ti28.zero) :: L) (R.getD 0 default).ia 1 eI (R.getD 0 default).ins :=
          ⟨fun w hp => Own.sl ((hp.take (rIns R)) _ (List.mem_map.2 ⟨_, hm0, rfl⟩)) eI_ok.len⟩
        have hr0' : RdH w0 (rCur p a n c :: rO 91 3 eSq y.sa y.sc R :: rIns R :: rB b3 28 y.cs :: rO 79 2 eII y.aa y.ac y.ands :: rO 3 1 eI y.oa y.oc y.outs :: rB b2 28 (cellsV Try.ti28.zero) :: L) (R.getD (Int.toNat 0) default).ia 1 eI (R.getD (Int.toNat 0) default).ins := hr0
        have hin0' : 0 < (R.getD (Int.toNat 0) default).ins.length := hin0
        refine N_draw hp (by kernel_rfl) (by kernel_rfl) rfl rfl ?_; (repeat (first | (refine nLoad ?_; first | refine N_ldB rfl rfl rfl ?_ | refine N_ldEN rfl (by omega) rfl rfl rfl ?_ | refine N_ldF rfl (by omega) (by omega) rfl rfl rfl ?_) | (refine nBuild ?_; refine N_litI rfl rfl rfl rfl rfl rfl rfl rfl rfl rfl ?_; intro _; refine N_ops rfl rfl ?_)))
        rename_i b9
        refine N_stN (⟨0, (R.getD 0 default).init, [(R.getD 0 default).ins.getD 0 default], some ⟨b9, 0, none⟩, 1⟩ : SeqA) rfl rfl rfl (by omega) (by omega) rfl (by kernel_rfl) ?_; refine N_ops rfl rfl ?_; skip
        refine N_end ?_; intro w hp C; refine h_run rfl ?_; skip
        rw [show ((i : Nat) : Int).toNat = i by omega] at hp
        obtain ⟨Q, hp1, hback⟩ := rIns_at (hp.f2.f2.f2.f3) (show i < R.length by omega)
        have hp2 := hback _ _ (⟨0, (R.getD 0 default).init, [(R.getD 0 default).ins.getD 0 default], some ⟨b9, 0, none⟩, 1⟩ : SeqA) ((hp1.drop).f1)
        refine IH (i + 1) (R.set i ⟨0, (R.getD 0 default).init, [(R.getD 0 default).ins.getD 0 default], some ⟨b9, 0, none⟩, 1⟩) _ _ _ (by omega) rfl ⟨⟨by rw [List.length_set]; exact hRl, fun s hs => ?_⟩, hp2.f1.f1.f2⟩
        rcases List.mem_or_eq_of_mem_set hs with hs | hs
        · exact hRa s hs
        · rw [hs]
          refine ⟨.inl ⟨rfl, ⟨hi0.1, hi0.2 h5⟩, rfl⟩, fun l hl => ?_⟩
          have hl : l ∈ [(R.getD 0 default).ins.getD 0 default] := hl
          rw [List.mem_singleton] at hl
          rw [hl]
          exact (hRa _ hm0).2 _ (getD_mem hin0)
      · refine h_cond_f rfl rfl ?_; skip
        exact IH (i + 1) R _ _ _ (by omega) rfl ⟨⟨hRl, hRa⟩, hp.f2.f2⟩
  · refine h_cond_f rfl rfl ?_; (repeat (first | (refine gLoad ?_; refine H_ldB hp rfl rfl ?_) | (refine gStore ?_; refine U_stBN hp rfl rfl rfl rfl ?_; intro w hp; refine ops_run nopre rfl ?_) | (refine gRetc ?_; refine R_ret1 hp rfl ?_)))
    have hz : NetA.n { y with seqs := R } = { y.n with seqs := seqsOf R } := rfl
    have hsl : (seqsOf R).length = y.seqs.length := by rw [seqsOf_len, hRl]
    have hys := y.slen
    refine ⟨{ y with seqs := R }, ⟨?_, ⟨hsm.1, hsm.2.1, by show R.length ≤ 4; omega⟩, ?_⟩, ?_⟩
    · rw [hz]
      have hn1 : nodesL { y.n with seqs := seqsOf R } = nodesL y.n := by unfold nodesL; dsimp only; rw [hsl, hys]
      have hf1 : firstAndL { y.n with seqs := seqsOf R } = firstAndL y.n := by unfold firstAndL; dsimp only; rw [hsl, hys]
      obtain ⟨s1, s2, s3, s4⟩ := hok.size
      refine .mk' ⟨s1, by dsimp only; omega, s3, s4⟩ (fun t ht => ?_) (fun o ho => by rw [hn1]; exact hok.out o ho) (fun t ht l hl => ?_) (fun q hq => by rw [hf1]; exact hok.andP hq)
      · obtain ⟨s, hs, rfl⟩ := List.mem_map.1 ht
        exact (hRa s hs).1
      · obtain ⟨s, hs, rfl⟩ := List.mem_map.1 ht
        rw [hn1]
        exact (hRa s hs).2 l hl
    · unfold NetA.v NetA.cs
      rw [hRl]
    · have hp := rNet_shut (x := { y with seqs := R }) ((rSq_shut hp).f4.f4.f2)
      exact hp.f2.drop.f2.drop
theorem l16Classes_h {w0 w : World} {L : List Res} {p : Nat} {a : Option Addr} {n c : Nat} {code : List Int} (hR : Rd w0 a 1 eU8 code) (hn : code.length = n) (hp : Hp w0 w (rCur p a n c :: L)) (x : NetA) [hX : NetH w0 L x] (hok : NetOkP x.n) :
    Ret Try.prog 66 [.pointer (some ⟨p, 0, none⟩), x.v] w (fun v w' => ∃ b cc X, (v = .slice b X.length cc ∧ X.length ≤ 20 ∧ ∀ i, i < X.length → i64R (X.getD i default)) ∧ Hp w0 w' (rO 3 1 eI b cc X :: rCur p a n c :: L)) := by
  have hsz := hok.size'
  refine enter Try.S66ok _ _ rfl rfl (by show _ ≤ _; simp only [List.length]; decide) (fun C => ?_); refine h_run rfl ?_; skip
  (first | (refine H_box hp ?_; intro w b3 hx hp) | (refine H_alloc hp rfl ?_; intro w b3 hx hp)); refine ops_run nopre rfl ?_; skip
  refine h_call rfl Try.func112 (by kernel_rfl) rfl (l01Once_h hR hn hp.f1 2) ?_; rintro _ w ⟨bb, rfl, hp⟩; refine ops_run nopre rfl ?_; skip
  have key : ∀ w', Hp w0 w' (rCur p a n c :: rB b3 28 x.cs :: L) → True := fun _ _ => trivial
  clear key
  cases bb
  · (repeat (refine h_guard_n rfl nopre rfl ?_))
    refine h_cond_f rfl rfl ?_; (repeat (refine U_litI hp rfl rfl rfl rfl rfl rfl rfl rfl rfl rfl ?_; intro w _ hx hp; refine ops_run nopre rfl ?_))
    refine h_loop4 [0, 3, 5, 6] (fun (i : Nat) (X : List Int) (b : Option Addr) (cc : Nat) => [(0, .pointer (some ⟨p, 0, none⟩)), (3, .pointer (some ⟨b3, 0, none⟩)), (5, .slice b X.length cc), (6, .int .i64 (i : Int))])
      (fun i X b cc w' => (i ≤ x.seqs.length ∧ X.length = i ∧ ∀ j, j < X.length → 0 ≤ X.getD j default ∧ X.getD j default ≤ 20) ∧ Hp w0 w' (rO 3 1 eI b cc X :: rCur p a n c :: rB b3 28 x.cs :: L)) (fun i _ _ _ => x.seqs.length - i) 0 [] _ 0 rfl ⟨⟨by omega, rfl, fun j hj => by simp at hj⟩, hp⟩ ?_
    clear hp
    rintro i X b cc w1 ⟨⟨hi, hXl, hXb⟩, hp⟩ IH C
    refine h_run rfl ?_; (repeat (refine H_ldB hp rfl rfl ?_))
    refine h_cond_dec (fun hlt => ?_) (fun hlt => ?_)
    · have hlt' : i < x.seqs.length := by omega
      refine h_cond_t rfl rfl ?_; skip
      refine h_call rfl Try.func42 (by kernel_rfl) rfl (l01Below_h hR hn hp.f1 ((i : Int) + 1)) ?_; rintro _ w ⟨z, ⟨rfl, _, hz⟩, hp⟩; refine ops_run nopre rfl ?_; skip
      have hz := hz (by omega)
      obtain ⟨k, rfl⟩ := Int.eq_ofNat_of_zero_le hz.1
      refine h_call rfl Try.func112 (by kernel_rfl) rfl (l01Once_h hR hn hp 2) ?_; rintro _ w ⟨bb2, rfl, hp⟩; refine ops_run nopre rfl ?_; skip
      cases bb2
      · refine h_cond_f rfl rfl ?_; skip
        refine h_cond_dec (fun hki => ?_) (fun hki => ?_)
        · have hb := hXb k (by omega)
          refine h_cond_t rfl rfl ?_; (repeat (first | (refine gLoad ?_; refine H_ldEN hp rfl (by omega) rfl rfl ?_) | (refine gBuild ?_; refine U_litI hp rfl rfl rfl rfl rfl rfl rfl rfl rfl rfl ?_; intro w _ hx hp; refine ops_run nopre rfl ?_)))
          refine U_append hp rfl rfl rfl rfl rfl rfl rfl (by decide) rfl (by first | omega | (simp only [List.length_append, List.length_cons, List.length_nil, List.length_take, List.length_drop, List.length_set, List.length_replicate, List.length_map]; omega)) rfl rfl ?_; intro b' cc' w hp hnil; refine ops_run nopre rfl ?_; skip
          refine IH (i + 1) (X ++ [X.getD k default]) b' cc' _ _ _ (by omega) rfl ⟨⟨by omega, by simp; omega, fun j hj => ?_⟩, ?_⟩
          · by_cases hj2 : j < X.length
            · rw [snoc_lt hj2]; exact hXb j hj2
            · simp at hj
              obtain rfl : j = X.length := by omega
              rw [snoc_eq]; exact hb
          · exact (hp.drop).f1
        · refine h_cond_f rfl rfl ?_; (repeat (refine U_litI hp rfl rfl rfl rfl rfl rfl rfl rfl rfl rfl ?_; intro w _ hx hp; refine ops_run nopre rfl ?_))
          refine U_append hp rfl rfl rfl rfl rfl rfl rfl (by decide) rfl (by first | omega | (simp only [List.length_append, List.length_cons, List.length_nil, List.length_take, List.length_drop, List.length_set, List.length_replicate, List.length_map]; omega)) rfl rfl ?_; intro b' cc' w hp hnil; refine ops_run nopre rfl ?_; skip
          refine IH (i + 1) (X ++ [(k : Int)]) b' cc' _ _ _ (by omega) rfl ⟨⟨by omega, by simp; omega, fun j hj => ?_⟩, ?_⟩
          · by_cases hj2 : j < X.length
            · rw [snoc_lt hj2]; exact hXb j hj2
            · simp at hj
              obtain rfl : j = X.length := by omega
              rw [snoc_eq]; omega
          · exact (hp.drop).f1
      · refine h_cond_t rfl rfl ?_; skip
        refine h_cond_f (decide_eq_false (by omega)) rfl ?_; (repeat (refine U_litI hp rfl rfl rfl rfl rfl rfl rfl rfl rfl rfl ?_; intro w _ hx hp; refine ops_run nopre rfl ?_))
        refine U_append hp rfl rfl rfl rfl rfl rfl rfl (by decide) rfl (by first | omega | (simp only [List.length_append, List.length_cons, List.length_nil, List.length_take, List.length_drop, List.length_set, List.length_replicate, List.length_map]; omega)) rfl rfl ?_; intro b' cc' w hp hnil; refine ops_run nopre rfl ?_; skip
        refine IH (i + 1) (X ++ [(i : Int)]) b' cc' _ _ _ (by omega) rfl ⟨⟨by omega, by simp; omega, fun j hj => ?_⟩, ?_⟩
        · by_cases hj2 : j < X.length
          · rw [snoc_lt hj2]; exact hXb j hj2
          · simp at hj
            obtain rfl : j = X.length := by omega
            rw [snoc_eq]; omega
        · exact (hp.drop).f1
    · refine h_cond_f rfl rfl ?_; skip
      have hXi : ∀ j, j < X.length → i64R (X.getD j default) := fun j hj => by have := hXb j hj; unfold i64R; omega
      refine h_call rfl Try.func112 (by kernel_rfl) rfl (l01Once_h hR hn hp.f1 8) ?_; rintro _ w ⟨bb2, rfl, hp⟩; refine ops_run nopre rfl ?_; skip
      cases bb2
      · refine h_cond_f rfl rfl ?_; (repeat (refine R_ret ?_))
        exact ⟨b, cc, X, ⟨rfl, by omega, hXi⟩, hp.f1.f2.drop⟩
      · refine h_cond_t rfl rfl ?_; skip
        refine h_call rfl Try.func113 (by kernel_rfl) rfl (l01Place_h hR hn hp 3 (by decide)) ?_; rintro _ w ⟨z, ⟨rfl, hz⟩, hp⟩; refine ops_run nopre rfl ?_; (repeat (refine U_litI hp rfl rfl rfl rfl rfl rfl rfl rfl rfl rfl ?_; intro w _ hx hp; refine ops_run nopre rfl ?_))
        refine U_append hp rfl rfl rfl rfl rfl rfl rfl (by decide) rfl (by first | omega | (simp only [List.length_append, List.length_cons, List.length_nil, List.length_take, List.length_drop, List.length_set, List.length_replicate, List.length_map]; omega)) rfl rfl ?_; intro b' cc' w hp hnil; refine ops_run nopre rfl ?_; (repeat (refine R_ret ?_))
        refine ⟨b', cc', X ++ [z], ⟨rfl, by simp; omega, fun j hj => ?_⟩, ?_⟩
        · by_cases hj2 : j < X.length
          · rw [snoc_lt hj2]; exact hXi j hj2
          · simp at hj
            obtain rfl : j = X.length := by omega
            rw [snoc_eq]; exact hz
        · exact hp.drop.f1.f2.drop
  · (repeat (first | (refine gGuard ?_; refine h_guard_y rfl nopre rfl ?_) | (refine gLoad ?_; refine H_ldB hp rfl rfl ?_)))
    refine h_call rfl Try.func56 (by kernel_rfl) rfl ((specNetOk_h x _ hp.net hok.S' hok.W).tt (netOkB_yes hok)) ?_; rintro _ w ⟨rfl, hx⟩; have hp := hp.ext hx; refine ops_run nopre rfl ?_; skip
    refine h_cond_t rfl rfl ?_; (repeat (refine H_ldB hp rfl rfl ?_))
    refine h_call rfl Try.func79 (by kernel_rfl) rfl (specRegisterClasses_x x _ hp.net hok.S' hok.W) ?_; rintro _ w ⟨b, cc, rfl, hq⟩; have hx := hq.x; have hp := hp.call1 hq; refine ops_run nopre rfl ?_; (repeat (refine R_ret ?_))
    have hrl : (ifOk x.n (regL x.n)).length = x.seqs.length := by rw [ifOk_yes hok, regL_len, x.slen]
    refine ⟨b, cc, _, ⟨rfl, by omega, fun i hi => ?_⟩, hp.f2.drop⟩
    rw [ifOk_yes hok] at hi ⊢
    have := (regL_P x.n).2 i hi
    rw [regL_len, x.slen] at hi
    unfold i64R
    omega
theorem DrawClasses_h (a : Option Addr) (c : Nat) (code : List Int) (w0 : World) (hR : Rd w0 a 1 eU8 code) (hB : AllB code) (hl : code.length ≤ 1048576) :
    Ret Try.prog 32 [.slice a code.length c] w0 (fun v w => ∃ y b cc X, (NetOkP y.n ∧ (1 ≤ y.inputs ∧ y.inputs ≤ 2 ∧ y.seqs.length ≤ 4) ∧ v = .tuple ⟨[y.v, .slice b X.length cc]⟩ ∧ X.length ≤ 20 ∧ ∀ i, i < X.length → i64R (X.getD i default)) ∧ Hp w0 w [rNet y, rO 3 1 eI b cc X]) := by
  refine enter Try.S32ok _ _ rfl rfl (by show _ ≤ _; simp only [List.length]; decide) (fun C => ?_); have hp := Hp.nil w0; refine h_run rfl ?_; skip; (first | (refine H_box hp ?_; intro w b2 hx hp) | (refine H_alloc hp rfl ?_; intro w b2 hx hp)); refine ops_run nopre rfl ?_; skip
  refine h_call rfl Try.func40 (by kernel_rfl) rfl (l01New_h a c code _ hp.rd hB hl) ?_; rintro _ w ⟨p, rfl, hq⟩; have hx := hq.x; have hp := hp.call1 hq; refine ops_run nopre rfl ?_; skip
  refine h_call rfl Try.func65 (by kernel_rfl) rfl (l16Net_h hR rfl hp) ?_; rintro _ w ⟨y, ⟨hok, hsm, rfl⟩, hp⟩; refine ops_run nopre rfl ?_; skip
  (first | (refine H_box hp ?_; intro w b5 hx hp) | (refine H_alloc hp rfl ?_; intro w b5 hx hp)); refine ops_run nopre rfl ?_; (repeat (first | (refine gLoad ?_; refine H_ldB hp rfl rfl ?_) | (refine gStore ?_; refine U_stBN hp rfl rfl rfl rfl ?_; intro w hp; refine ops_run nopre rfl ?_)))
  refine h_call rfl Try.func66 (by kernel_rfl) rfl (l16Classes_h hR rfl hp.f2 y hok) ?_; rintro _ w ⟨b, cc, X, ⟨rfl, hXl, hXi⟩, hp⟩; refine ops_run nopre rfl ?_; skip
  have hsz := hok.size'
  have hcap := hp.own.cap
  refine D_draw (show Hp w0 _ [rO 3 1 eI b cc X, rCur p a code.length c, rB b5 28 y.cs, rNet y] from hp.tk 4) (by kernel_rfl) (by kernel_rfl) rfl rfl ?_; intro w hx hs; have hp := hp.ext hx
  refine D_ldB rfl rfl rfl ?_
  refine D_ldB rfl rfl rfl ?_
  refine V_stBNF hp rfl rfl rfl rfl ?_ ?_
  · exact fun w' hp' => Hp.tk hp' 4
  intro w hp
  refine D_ops rfl rfl ?_; (repeat (refine R_ret2v hp rfl ?_))
  have he : (min (X.length : Int) (y.seqs.length : Int)).toNat - 0 = (X.take (min X.length y.seqs.length)).length := by rw [List.length_take]; omega
  refine ⟨y, b, cc, X.take (min X.length y.seqs.length), ⟨hok, hsm, ?_, by rw [List.length_take]; omega, fun i hi => ?_⟩, ?_⟩
  · rw [← he, subA_zero]; rfl
  · rw [List.length_take] at hi
    have hg := app_get (P := X.take (min X.length y.seqs.length)) (S := X.drop (min X.length y.seqs.length)) (j := i) (by rw [List.length_take]; omega)
    rw [List.take_append_drop] at hg
    rw [← hg]
    exact hXi i (by omega)
  · rw [← List.take_append_drop (min X.length y.seqs.length) X] at hp
    have hp3 := Hp.ownP hp eI_ok.len
    exact (hp3.f3).tk 2
end Go.Proofs
