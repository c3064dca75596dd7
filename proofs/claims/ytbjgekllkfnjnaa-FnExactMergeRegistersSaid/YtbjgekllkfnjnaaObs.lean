/- The contracts of the functions that find what can be observed; each under its stated conditions. -/
import Derived.Test.YtbjgekllkfnjnaaReach
import Derived.Test.YtbjgekllkfnjnaaObsLaw
import Derived.Test.YtbjgekllkfnjnaaFam
set_option linter.all false
namespace Go.Proofs
open Go.Xw
set_option maxRecDepth 100000
set_option maxHeartbeats 1000000
attribute [local irreducible] Holds elemAddr

theorem bset_mono {B : List Bool} {i k : Nat} (h : B.getD k default = true) : (B.set i true).getD k default = true := by
  by_cases hi : i < B.length
  · exact (bget_set hi).2 (.inr h)
  · rw [List.set_eq_of_length_le (by omega)]; exact h
theorem bset_self {B : List Bool} {i : Nat} (hi : i < B.length) : (B.set i true).getD i default = true := (bget_set hi).2 (.inl rfl)

theorem all_getD {α : Type} [Inhabited α] {l : List α} {p : α → Prop} (h : ∀ i, i < l.length → p (l.getD i default)) : ∀ x, x ∈ l → p x := mem_iff_getD.2 h
theorem snoc_cases {α : Type} (T : List α) : T = [] ∨ ∃ T' t, T = T' ++ [t] := by
  rcases List.eq_nil_or_concat T with h | ⟨T', t, h⟩
  · exact .inl h
  · exact .inr ⟨T', t, by rw [h, List.concat_eq_append]⟩
theorem visit_h (b3 b4 : Nat) (sa : Option Addr) (sc m : Nat) (B : List Bool) (hm : B.length = m) (ta : Option Addr) (tc : Nat) (T : List Int) (l : Int) (h0 : 0 ≤ l) (hl : (l / 2).toNat < m) (hT : T.length ≤ 100000000) (hm2 : m ≤ 1000000) {w0 w : World} {L : List Res}
    (hp : Hp w0 w (rB b3 98 [.slice sa m sc] :: rO 4 1 eB sa sc B :: rB b4 26 [.slice ta T.length tc] :: rO 3 1 eI ta tc T :: L)) :
    Ret Try.prog 149 [.int .i64 l, .pointer (some ⟨b3, 0, none⟩), .pointer (some ⟨b4, 0, none⟩)] w (fun v w' => ∃ ta' tc', v = .tuple ⟨[]⟩ ∧
      Hp w0 w' (rB b3 98 [.slice sa m sc] :: rO 4 1 eB sa sc (B.set (l / 2).toNat true) :: rB b4 26 [.slice ta' (vT B T (l / 2).toNat).length tc'] :: rO 3 1 eI ta' tc' (vT B T (l / 2).toNat) :: L)) := by
  subst hm
  have he : (((l / 2).toNat : Nat) : Int) = l / 2 := by omega
  refine enter Try.S149ok _ _ rfl rfl (by show _ ≤ _; simp only [List.length]; decide) (fun C => ?_); refine h_run rfl ?_; (repeat (refine gLoad ?_; first | refine H_ldB hp rfl rfl ?_ | refine H_ldE hp rfl (by omega) (by omega) rfl rfl ?_))
  refine h_cond_b (fun hb => ?_) (fun hb => ?_)
  · have hb' : ¬ B.getD (l / 2).toNat default = true := by simpa using hb
    refine h_cond_t rfl rfl ?_; (repeat (first | (refine gLoad ?_; refine H_ldB hp rfl rfl ?_) | (refine gStore ?_; refine U_st0 hp rfl rfl rfl (by omega) (by decide) rfl rfl ?_; intro w hp; refine ops_run nopre rfl ?_) | (refine gBuild ?_; refine U_litI hp rfl rfl rfl rfl rfl rfl rfl rfl rfl rfl ?_; intro w _ hx hp; refine ops_run nopre rfl ?_)))
    refine U_append hp rfl rfl rfl rfl rfl rfl rfl (by decide) rfl (by first | omega | (simp only [List.length_append, List.length_cons, List.length_nil, List.length_take, List.length_drop, List.length_set, List.length_replicate, List.length_map]; omega)) rfl rfl ?_; intro ta' tc' w hp hnil; refine ops_run nopre rfl ?_; (repeat (first | (refine gStore ?_; refine U_stB hp rfl rfl rfl rfl ?_; intro w hp; refine ops_run nopre rfl ?_) | refine R_ret ?_))
    refine ⟨ta', tc', rfl, ?_⟩
    unfold vT
    rw [if_neg hb', he]
    exact hp.drop
  · have hb' : B.getD (l / 2).toNat default = true := by simpa using hb
    refine h_cond_f rfl rfl ?_; (repeat (refine R_ret ?_))
    refine ⟨ta, tc, rfl, ?_⟩
    unfold vT
    rw [if_pos hb', set_same hb']
    exact hp
theorem observable_h (x : NetA) (w0 : World) (hX : NetR w0 x) (hok : NetOkP x.n) :
    Ret Try.prog 121 [x.v] w0 (fun v w => ∃ b c, v = .slice b (nds x.n) c ∧ Hp w0 w [rO 4 1 eB b c (obsL x.n)]) := by
  have hn := hok.nums
  obtain ⟨n1, n2, n3, n4, n5, n6⟩ := hn
  have hn := hok.nums
  have hnd := hok.nodes
  have hsz := hok.size'
  have hf := hok.fsq
  have hf3 : x.n.inputs = x.inputs := rfl
  have hsl := x.slen
  have hal : x.n.ands.length = x.ands.length := rfl
  refine enter Try.S121ok _ _ rfl rfl (by show _ ≤ _; simp only [List.length]; decide) (fun C => ?_); have hp := Hp.nil w0; refine h_run rfl ?_; skip; (first | (refine H_box hp ?_; intro w b1 hx hp) | (refine H_alloc hp rfl ?_; intro w b1 hx hp)); refine ops_run nopre rfl ?_; (repeat (refine H_ldB hp rfl rfl ?_))
  refine h_call rfl Try.func49 (by kernel_rfl) rfl (nodeCount_h x _ hok.b) ?_; rintro _ w ⟨rfl, hx⟩; have hp := hp.ext hx; refine ops_run nopre rfl ?_; skip
  rw [← n4]
  refine H_make hp eB false rfl rfl rfl rfl (s := 1) rfl (by decide) rfl (by unfold maxLen; omega) (by show 1 * _ ≤ _; omega) ?_; intro w b14 hx hp; refine ops_run nopre rfl ?_; skip
  (first | (refine H_box hp ?_; intro w b3 hx hp) | (refine H_alloc hp rfl ?_; intro w b3 hx hp)); refine ops_run nopre rfl ?_; (repeat (refine U_stB hp rfl rfl rfl rfl ?_; intro w hp; refine ops_run nopre rfl ?_))
  (first | (refine H_box hp ?_; intro w b4 hx hp) | (refine H_alloc hp rfl ?_; intro w b4 hx hp)); refine ops_run nopre rfl ?_; (repeat (refine H_ldB hp rfl rfl ?_))
  have hp : Hp w0 _ (rO 3 1 eI none 0 ([] : List Int) :: _) := hp.ownN (Ext.refl _) (Own.nil _ _ _ _ _)
  have hB0 : ∀ k, (List.replicate (nds x.n) false).getD k default ≠ true := fun k h => by
    simp only [List.getD_eq_getElem?_getD, List.getElem?_replicate] at h; split at h <;> simp at h
  have hS0 : Srch x.n (List.replicate (nds x.n) false) [] fun _ => False := ⟨by simp, by simp, fun k _ h => absurd h (hB0 k), by simp, fun k _ h => absurd h (hB0 k)⟩
  refine h_loop5 [1, 3, 4, 5, 17, 18, 19] (fun (i : Nat) (_ : List Bool) (_ : List Int) (_ : Option Addr) (_ : Nat) => [(1, .pointer (some ⟨b1, 0, none⟩)), (3, .pointer (some ⟨b3, 0, none⟩)), (4, .pointer (some ⟨b4, 0, none⟩)), (5, .func (.func 149) ⟨[]⟩ ⟨[.pointer (some ⟨b3, 0, none⟩), .pointer (some ⟨b4, 0, none⟩)]⟩), (17, .slice x.oa x.outs.length x.oc), (18, .int .i64 x.outs.length), (19, .int .i64 (i : Int))])
    (fun i B T ta tc w' => i ≤ x.outs.length ∧ (Srch x.n B T (fun _ => False) ∧ ∀ j, j < i → B.getD (x.outs.getD j default / 2).toNat default = true) ∧ Hp w0 w' [rB b3 98 [.slice (some ⟨b14, 0, none⟩) (nds x.n) (nds x.n)], rO 4 1 eB (some ⟨b14, 0, none⟩) (nds x.n) B, rB b4 26 [.slice ta T.length tc], rO 3 1 eI ta tc T, rB b1 28 x.cs])
    (fun i _ _ _ _ => x.outs.length - i) 0 (List.replicate (nds x.n) false) [] none 0 rfl ⟨by omega, ⟨hS0, fun j hj => by omega⟩, hp.f1.f3.f3⟩ ?_
  rintro i B T ta tc w1 ⟨hi, ⟨hS, hO⟩, hp⟩ IH C
  have hcnt := hS.cnt
  have hBl := hS.len
  refine h_run rfl ?_; skip
  refine h_cond_dec (fun hlt => ?_) (fun hlt => ?_)
  · have hlt' : i < x.outs.length := by omega
    have ho := hok.out (x.outs.getD i default) (getD_mem hlt')
    have hoL := ho.nat hn
    unfold litP at ho
    refine h_cond_t rfl rfl ?_; (repeat (refine H_ldEN hp rfl (by omega) rfl rfl ?_))
    refine h_call rfl Try.func149 (by kernel_rfl) rfl (visit_h b3 b4 _ _ (nds x.n) B hBl ta tc T (x.outs.getD i default) ho.1 hoL (by omega) (by omega) hp) ?_; rintro _ w ⟨ta', tc', rfl, hp⟩; refine ops_run nopre rfl ?_; skip
    refine IH (i + 1) _ _ ta' tc' _ _ _ (by omega) rfl ⟨by omega, ⟨hS.visit hoL (.out (getD_mem hlt')), fun j hj => ?_⟩, hp⟩
    by_cases hj2 : j < i
    · exact bset_mono (hO j hj2)
    · obtain rfl : j = i := by omega
      exact bset_self (by omega)
  · refine h_cond_f rfl rfl ?_; skip
    obtain rfl : i = x.outs.length := by omega
    refine h_loop4 [1, 3, 4, 5] (fun (_ : List Bool) (_ : List Int) (_ : Option Addr) (_ : Nat) => [(1, .pointer (some ⟨b1, 0, none⟩)), (3, .pointer (some ⟨b3, 0, none⟩)), (4, .pointer (some ⟨b4, 0, none⟩)), (5, .func (.func 149) ⟨[]⟩ ⟨[.pointer (some ⟨b3, 0, none⟩), .pointer (some ⟨b4, 0, none⟩)]⟩)])
      (fun B T ta tc w' => (Srch x.n B T (fun _ => False) ∧ ∀ j, j < x.outs.length → B.getD (x.outs.getD j default / 2).toNat default = true) ∧ Hp w0 w' [rB b3 98 [.slice (some ⟨b14, 0, none⟩) (nds x.n) (nds x.n)], rO 4 1 eB (some ⟨b14, 0, none⟩) (nds x.n) B, rB b4 26 [.slice ta T.length tc], rO 3 1 eI ta tc T, rB b1 28 x.cs])
      (fun B T _ _ => 2 * B.count false + T.length) B T ta tc rfl ⟨⟨hS, hO⟩, hp⟩ ?_
    clear IH hS hO hp hcnt hBl
    clear hi
    rintro B T ta tc w1 ⟨⟨hS, hO⟩, hp⟩ IH C
    have hcnt := hS.cnt
    have hBl := hS.len
    have hcap := hp.f3.own.cap
    refine h_run rfl ?_; (repeat (refine H_ldB hp rfl rfl ?_))
    refine h_cond_dec (fun hlt => ?_) (fun hlt => ?_)
    · rcases snoc_cases T with rfl | ⟨T', t, rfl⟩
      · simp at hlt
      obtain ⟨k, rfl, hk, hBk⟩ := hS.td t (by simp)
      have hlen : (T' ++ [(k : Int)]).length = T'.length + 1 := by simp
      have hz : (((T' ++ [(k : Int)]).length : Nat) : Int) - 1 = (T'.length : Nat) := by omega
      have hat : (T' ++ [(k : Int)]).getD (((T' ++ [(k : Int)]).length : Int) - 1).toNat default = (k : Int) := by rw [hz]; exact snoc_eq
      obtain ⟨hS1, _, hob, _⟩ := hS.pop
      have e4 : ∀ n : Nat, n - 0 = n := fun n => rfl
      have e5 : (((T' ++ [(k : Int)]).length : Int) - 1).toNat = T'.length := by omega
      refine h_cond_t rfl rfl ?_; (repeat (first | (refine gLoad ?_; first | refine H_ldB hp rfl rfl ?_ | refine H_ldE hp rfl (by omega) (by omega) rfl rfl ?_) | (refine gStore ?_; refine U_stB hp rfl rfl rfl rfl ?_; intro w hp; refine ops_run nopre rfl ?_)))
      simp only [subA_zero, e5, Nat.sub_zero, List.set_cons_zero] at hp
      have hp := Hp.ownP (hp.f2.f2.f2.f3) eI_ok.len
      have hp := hp.f3.f3.f3
      rw [hat]
      have hT' : T'.length ≤ 100000000 := by omega
      refine h_call rfl Try.func46 (by kernel_rfl) rfl (isAnd_h x k _ hok.b) ?_; rintro _ w ⟨rfl, hx⟩; have hp := hp.ext hx; refine ops_run nopre rfl ?_; skip
      refine h_cond_dec (fun hA => ?_) (fun hA => ?_)
      · have hi : k - fst_ x.n < x.ands.length := by omega
        have hki : fst_ x.n + (k - fst_ x.n) = k := by omega
        have hz2 : ((k : Int) - firstAndL x.n).toNat = k - fst_ x.n := by omega
        have Q := hok.and_ hi
        have Q' := Q
        rw [← hz2] at Q'
        obtain ⟨Q1, Q2, Q3, Q4⟩ := Q
        obtain ⟨Q1', Q2', Q3', Q4'⟩ := Q'
        have ka := n5 _ hi
        have kb := n6 _ hi
        have sA : Succ x.n k (kA x.n (k - fst_ x.n)) := .inl ⟨_, hi, hki.symm, .inl rfl⟩
        have sB : Succ x.n k (kB x.n (k - fst_ x.n)) := .inl ⟨_, hi, hki.symm, .inr rfl⟩
        have lA := sA.lt hok
        have lB := sB.lt hok
        have m1 := vT_mu (B := B) (T := T') (k := kA x.n (k - fst_ x.n)) (by omega)
        have m2 := vT_mu (B := B.set (kA x.n (k - fst_ x.n)) true) (T := vT B T' (kA x.n (k - fst_ x.n))) (k := kB x.n (k - fst_ x.n)) (by simp; omega)
        have hS2 := hS1.visit lA (hob.step sA)
        have hS3 := hS2.visit lB (hob.step sB)
        have hc2 := hS2.cnt
        have hl2 := hS2.len
        refine h_cond_t rfl rfl ?_; skip
        refine N_draw hp (by kernel_rfl) (by kernel_rfl) rfl rfl ?_; (repeat (refine N_ldB rfl rfl rfl ?_))
        refine N_call Try.func91 (by kernel_rfl) rfl (fun F w hp => ?_); refine Ret.mono (firstAnd_h x _ hok.b) ?_; rintro _ w ⟨rfl, hx⟩; have hp := hp.ext hx; refine ⟨fun _ => hp.sub (by (repeat (first | exact List.sublist_append_left _ _ | apply List.Sublist.cons))), _, hp, ?_⟩; clear hp; refine N_ops rfl rfl ?_; (repeat (refine N_ldE rfl (by omega) (by omega) rfl rfl rfl ?_))
        (first | refine N_box ?_ | refine N_alloc rfl ?_); intro b9; refine N_ops rfl rfl ?_; (repeat (refine N_stBN rfl rfl rfl rfl (by kernel_rfl) ?_; refine N_ops rfl rfl ?_))
        refine N_end ?_; intro w hp C; refine h_run rfl ?_; (repeat (refine H_ldB hp rfl rfl ?_))
        refine gCall ?_
        rw [hz2]
        refine h_call rfl Try.func149 (by kernel_rfl) rfl (visit_h b3 b4 _ _ (nds x.n) B hBl ta tc T' (x.ands.getD (k - fst_ x.n) default).1 Q1 lA (by omega) (by omega) (hp.f4.f4.f4.f4)) ?_; rintro _ w ⟨ta2, tc2, rfl, hp⟩; refine ops_run nopre rfl ?_; (repeat (refine H_ldB hp rfl rfl ?_))
        refine gCall ?_
        rw [hz2]
        refine h_call rfl Try.func149 (by kernel_rfl) rfl (visit_h b3 b4 _ _ (nds x.n) _ hl2 ta2 tc2 _ (x.ands.getD (k - fst_ x.n) default).2 Q3 lB (by show (vT B T' (kA x.n (k - fst_ x.n))).length ≤ _; omega) (by omega) hp) ?_; rintro _ w ⟨ta3, tc3, rfl, hp⟩; refine ops_run nopre rfl ?_; skip
        refine IH _ _ ta3 tc3 _ _ _ ?_ rfl ⟨⟨hS3.done fun j hs => ?_, fun j hj => bset_mono (bset_mono (hO j hj))⟩, hp.f4.drop⟩
        · show 2 * ((B.set (kA x.n (k - fst_ x.n)) true).set (kB x.n (k - fst_ x.n)) true).count false + (vT (B.set (kA x.n (k - fst_ x.n)) true) (vT B T' (kA x.n (k - fst_ x.n))) (kB x.n (k - fst_ x.n))).length < _
          omega
        · rcases hs with ⟨i, h1, h2, h3⟩ | ⟨i, h1, h2, _⟩
          · have : i = k - fst_ x.n := by omega
            subst this
            rcases h3 with rfl | rfl
            · exact bset_mono (bset_self (by omega))
            · exact bset_self (by simp; omega)
          · omega
      · refine h_cond_f rfl rfl ?_; (repeat (refine H_ldB hp rfl rfl ?_))
        refine h_call rfl Try.func69 (by kernel_rfl) rfl (firstSeq_h x _ hok.b) ?_; rintro _ w ⟨rfl, hx⟩; have hp := hp.ext hx; refine ops_run nopre rfl ?_; skip
        refine h_cond_dec (fun hQ => ?_) (fun hQ => ?_)
        · have hi : k - fsq x.n < x.seqs.length := by omega
          have hki : fsq x.n + (k - fsq x.n) = k := by omega
          have hz3 : ((k : Int) - (1 + x.inputs)).toNat = k - fsq x.n := by omega
          have hrow := hX.seqs.at_ hi
          have hil := hok.ins hi
          have hsx := x.sins (k - fsq x.n)
          have sI : ∀ q, q < (x.seqs.getD (k - fsq x.n) default).ins.length → Succ x.n k ((x.seqs.getD (k - fsq x.n) default).ins.getD q default / 2).toNat := fun q hq =>
            .inr ⟨_, by omega, hki.symm, _, by rw [hsx]; exact getD_mem hq, rfl⟩
          have lI : ∀ q, q < (x.seqs.getD (k - fsq x.n) default).ins.length → 0 ≤ (x.seqs.getD (k - fsq x.n) default).ins.getD q default := fun q hq =>
            (hok.inp (getD_mem (show k - fsq x.n < x.n.seqs.length by omega)) _ (by rw [hsx]; exact getD_mem hq)).1
          refine h_cond_t rfl rfl ?_; skip
          refine D_draw hp (by kernel_rfl) (by kernel_rfl) rfl rfl ?_; intro w hx hp; have hs := hp; (repeat (refine D_ldB rfl rfl rfl ?_))
          refine h_callq rfl Try.func69 (by kernel_rfl) rfl (firstSeq_h x _ hok.b) ?_; rintro _ w ⟨rfl, hx⟩; have hp := hp.ext hx; have hs := hs.ext hx; refine ⟨fun _ => hs, ?_⟩; refine D_ops rfl rfl ?_; (repeat (refine D_ldF rfl (by omega) (by omega) rfl rfl rfl ?_))
          rw [hz3]
          refine h_loop5 [1, 3, 4, 5, 74, 75, 76] (fun (q : Nat) (_ : List Bool) (_ : List Int) (_ : Option Addr) (_ : Nat) => [(1, .pointer (some ⟨b1, 0, none⟩)), (3, .pointer (some ⟨b3, 0, none⟩)), (4, .pointer (some ⟨b4, 0, none⟩)), (5, .func (.func 149) ⟨[]⟩ ⟨[.pointer (some ⟨b3, 0, none⟩), .pointer (some ⟨b4, 0, none⟩)]⟩),
              (74, .slice (x.seqs.getD (k - fsq x.n) default).ia (x.seqs.getD (k - fsq x.n) default).ins.length (x.seqs.getD (k - fsq x.n) default).ic), (75, .int .i64 (x.seqs.getD (k - fsq x.n) default).ins.length), (76, .int .i64 (q : Int))])
            (fun q B2 T2 ta tc w' => q ≤ (x.seqs.getD (k - fsq x.n) default).ins.length ∧ ((Srch x.n B2 T2 (fun j => j = k) ∧ ∀ j, j < x.outs.length → B2.getD (x.outs.getD j default / 2).toNat default = true) ∧ (∀ j, j < q → B2.getD ((x.seqs.getD (k - fsq x.n) default).ins.getD j default / 2).toNat default = true) ∧ 2 * B2.count false + T2.length ≤ 2 * B.count false + T'.length) ∧
              Hp w0 w' [rB b3 98 [.slice (some ⟨b14, 0, none⟩) (nds x.n) (nds x.n)], rO 4 1 eB (some ⟨b14, 0, none⟩) (nds x.n) B2, rB b4 26 [.slice ta T2.length tc], rO 3 1 eI ta tc T2, rB b1 28 x.cs])
            (fun q _ _ _ _ => (x.seqs.getD (k - fsq x.n) default).ins.length - q) 0 B T' ta tc rfl ⟨by omega, ⟨⟨hS1, hO⟩, fun j hj => by omega, Nat.le_refl _⟩, hp⟩ ?_
          rintro q B2 T2 ta2 tc2 w2 ⟨hq, ⟨⟨hS2, hO2⟩, hd, hmu⟩, hp⟩ IH2 C
          have hc2 := hS2.cnt
          have hl2 := hS2.len
          refine h_run rfl ?_; skip
          refine h_cond_dec (fun hlt2 => ?_) (fun hlt2 => ?_)
          · have hq' : q < (x.seqs.getD (k - fsq x.n) default).ins.length := by omega
            have lB := (sI q hq').lt hok
            have m1 := vT_mu (B := B2) (T := T2) (k := ((x.seqs.getD (k - fsq x.n) default).ins.getD q default / 2).toNat) (by omega)
            refine h_cond_t rfl rfl ?_; (repeat (refine H_ldEN hp rfl (by omega) rfl rfl ?_))
            refine h_call rfl Try.func149 (by kernel_rfl) rfl (visit_h b3 b4 _ _ (nds x.n) B2 hl2 ta2 tc2 T2 _ (lI q hq') lB (by omega) (by omega) hp) ?_; rintro _ w ⟨ta3, tc3, rfl, hp⟩; refine ops_run nopre rfl ?_; skip
            refine IH2 (q + 1) _ _ ta3 tc3 _ _ _ (by omega) rfl ⟨by omega, ⟨⟨hS2.visit lB (hob.step (sI q hq')), fun j hj => bset_mono (hO2 j hj)⟩, fun j hj => ?_, by omega⟩, hp⟩
            by_cases hj2 : j < q
            · exact bset_mono (hd j hj2)
            · obtain rfl : j = q := by omega
              exact bset_self (by omega)
          · refine h_cond_f rfl rfl ?_; skip
            obtain rfl : q = (x.seqs.getD (k - fsq x.n) default).ins.length := by omega
            refine IH _ _ ta2 tc2 _ _ _ (by omega) rfl ⟨⟨hS2.done fun j hs => ?_, hO2⟩, hp⟩
            rcases hs with ⟨i, h1, h2, h3⟩ | ⟨i, h1, h2, l, h3, rfl⟩
            · omega
            · have : i = k - fsq x.n := by omega
              subst this
              rw [hsx] at h3
              exact all_getD (p := fun (l : Int) => B2.getD (l / 2).toNat default = true) hd l h3
        · refine h_cond_f rfl rfl ?_; skip
          refine IH _ _ ta tc _ _ _ (by omega) rfl ⟨⟨hS1.done fun j hs => ?_, hO⟩, hp⟩
          rcases hs with ⟨i, h1, h2, h3⟩ | ⟨i, h1, h2, l, h3, rfl⟩
          · omega
          · omega
    · refine h_cond_f rfl rfl ?_; (repeat (first | (refine gLoad ?_; refine H_ldB hp rfl rfl ?_) | refine R_ret ?_))
      obtain rfl : T = [] := List.length_eq_zero_iff.1 (by omega)
      have e := hS.all hok fun o ho => all_getD (p := fun (o : Int) => B.getD (o / 2).toNat default = true) hO o ho
      subst e
      exact ⟨_, _, rfl, hp.sub (by simp)⟩

theorem l15Marks_h (x : NetA) (w0 : World) (hX : NetR w0 x) (hok : NetOkP x.n) :
    Ret Try.prog 136 [x.v] w0 (fun v w => ∃ b c, v = .slice b (nds x.n) c ∧ Hp w0 w [rO 4 1 eB b c (obsL x.n)]) := by
  have hn := hok.nums
  obtain ⟨n1, n2, n3, n4, n5, n6⟩ := hn
  have hn := hok.nums
  have hnd := hok.nodes
  have hsz := hok.size'
  have hf := hok.fsq
  have hf3 : x.n.inputs = x.inputs := rfl
  have hsl := x.slen
  have hoe : x.n.outs = x.outs := rfl
  have hal : x.n.ands.length = x.ands.length := rfl
  refine enter Try.S136ok _ _ rfl rfl (by show _ ≤ _; simp only [List.length]; decide) (fun C => ?_); have hp := Hp.nil w0; refine h_run rfl ?_; skip; (first | (refine H_box hp ?_; intro w b1 hx hp) | (refine H_alloc hp rfl ?_; intro w b1 hx hp)); refine ops_run nopre rfl ?_; (repeat (refine H_ldB hp rfl rfl ?_))
  refine h_call rfl Try.func13 (by kernel_rfl) rfl (specNodeCount_h x _) ?_; rintro _ w ⟨rfl, hx⟩; have hp := hp.ext hx; refine ops_run nopre rfl ?_; skip
  rw [show nodeCountL x.n = nodesL x.n from if_pos hok.size, ← n4]
  refine H_make hp eB false rfl rfl rfl rfl (s := 1) rfl (by decide) rfl (by unfold maxLen; omega) (by show 1 * _ ≤ _; omega) ?_; intro w b3 hx hp; refine ops_run nopre rfl ?_; skip
  have hB0 : ∀ k, (List.replicate (nds x.n) false).getD k default ≠ true := fun k h => by
    simp only [List.getD_eq_getElem?_getD, List.getElem?_replicate] at h; split at h <;> simp at h
  refine h_loop2 [1, 3, 4] (fun (i : Nat) (_ : List Bool) => [(1, .pointer (some ⟨b1, 0, none⟩)), (3, .slice (some ⟨b3, 0, none⟩) (nds x.n) (nds x.n)), (4, .int .i64 (i : Int))])
    (fun i B w' => i ≤ x.outs.length ∧ (B.length = nds x.n ∧ (∀ k, k < nds x.n → B.getD k default = true → Obs x.n k) ∧ ∀ j, j < i → B.getD (x.outs.getD j default / 2).toNat default = true) ∧ Hp w0 w' [rO 4 1 eB (some ⟨b3, 0, none⟩) (nds x.n) B, rB b1 28 x.cs]) (fun i _ => x.outs.length - i) 0 (List.replicate (nds x.n) false) rfl
    ⟨by omega, ⟨by simp, fun k _ h => absurd h (hB0 k), fun j hj => by omega⟩, hp⟩ ?_
  rintro i B w1 ⟨hi, ⟨hBl, hsd, hO⟩, hp⟩ IH C
  refine h_run rfl ?_; (repeat (refine H_ldB hp rfl rfl ?_))
  refine h_cond_dec (fun hlt => ?_) (fun hlt => ?_)
  · have hlt' : i < x.outs.length := by omega
    have ho := hok.out (x.outs.getD i default) (getD_mem hlt')
    have hoL := ho.nat hn
    unfold litP at ho
    refine h_cond_t rfl rfl ?_; (repeat (first | (refine gLoad ?_; first | refine H_ldB hp rfl rfl ?_ | refine H_ldEN hp rfl (by omega) rfl rfl ?_) | (refine gStore ?_; refine U_st0 hp rfl rfl rfl (by omega) (by decide) rfl rfl ?_; intro w hp; refine ops_run nopre rfl ?_)))
    refine IH (i + 1) (B.set (x.outs.getD i default / 2).toNat true) _ _ _ (by omega) rfl ⟨by omega, ⟨by simp; exact hBl, fun k hk h => ?_, fun j hj => ?_⟩, hp⟩
    · rcases (bget_set (by omega)).1 h with rfl | h
      · exact .out (getD_mem hlt')
      · exact hsd k hk h
    · by_cases hj2 : j < i
      · exact bset_mono (hO j hj2)
      · obtain rfl : j = i := by omega
        exact bset_self (by omega)
  · refine h_cond_f rfl rfl ?_; skip
    obtain rfl : i = x.outs.length := by omega
    refine h_loop4 [1, 3, 5] (fun (r : Nat) (_ : List Bool) (b : Option Addr) (c : Nat) => [(1, .pointer (some ⟨b1, 0, none⟩)), (3, .slice b (nds x.n) c), (5, .int .i64 (r : Int))])
      (fun r B b c w' => r ≤ x.seqs.length + 1 ∧ Rnd x.n B r ∧ Hp w0 w' [rO 4 1 eB b c B, rB b1 28 x.cs]) (fun r _ _ _ => x.seqs.length + 1 - r) 0 B _ _ rfl
      ⟨by omega, ⟨hBl, hsd, all_getD (p := fun (o : Int) => B.getD (o / 2).toNat default = true) hO, .inr (Nat.zero_le _)⟩, hp⟩ ?_
    clear IH hp hO hsd hBl hi
    rintro r B b c w1 ⟨hr, hR, hp⟩ IH C
    have hBl := hR.len
    refine h_run rfl ?_; (repeat (refine H_ldB hp rfl rfl ?_))
    refine h_cond_dec (fun hlt => ?_) (fun hlt => ?_)
    · refine h_cond_t rfl rfl ?_; (repeat (refine H_ldB hp rfl rfl ?_))
      refine h_call rfl Try.func146 (by kernel_rfl) rfl (l08Mark_h x _ _ B _ hp.net hok hp.rd hBl) ?_; rintro _ w ⟨b9, c9, A, rfl, hm, hq⟩; refine ops_run nopre rfl ?_; skip
      have hp := (hp.call1 hq).f1.drop
      skip
      have hAs : ∀ k, k < nds x.n → A.getD k default = true → Obs x.n k := fun k hk h => by
        obtain ⟨j, h1, h2, h3⟩ := (hm.2 k hk).1 h
        exact (hR.sd j h1 h2).cone h3
      refine h_loop2 [1, 3, 5, 6] (fun (i : Nat) (_ : List Bool) => [(1, .pointer (some ⟨b1, 0, none⟩)), (3, .slice b9 (nds x.n) c9), (5, .int .i64 (r : Int)), (6, .int .i64 (i : Int))])
        (fun i M w' => i ≤ x.seqs.length ∧ Pass x.n A M i ∧ Hp w0 w' [rO 4 1 eB b9 c9 M, rB b1 28 x.cs]) (fun i _ => x.seqs.length - i) 0 A rfl ⟨by omega, .start hm.1 hAs, hp⟩ ?_
      rintro i M w2 ⟨hi, hP, hp⟩ IH2 C
      have hMl := hP.len
      refine h_run rfl ?_; (repeat (refine H_ldB hp rfl rfl ?_))
      refine h_cond_dec (fun hlt2 => ?_) (fun hlt2 => ?_)
      · have hlt2' : i < x.seqs.length := by omega
        have hrow := hX.seqs.at_ hlt2'
        have hil := hok.ins hlt2'
        have hsx := x.sins i
        have hz : (1 + x.inputs + (i : Int)).toNat = fsq x.n + i := by omega
        refine h_cond_t rfl rfl ?_; skip
        refine h_loop2 [1, 3, 5, 6, 7] (fun (q : Nat) (_ : List Bool) => [(1, .pointer (some ⟨b1, 0, none⟩)), (3, .slice b9 (nds x.n) c9), (5, .int .i64 (r : Int)), (6, .int .i64 (i : Int)), (7, .int .i64 (q : Int))])
          (fun q M w' => q ≤ (x.seqs.getD i default).ins.length ∧ (Pass x.n A M i ∧ ∀ j, j < q → M.getD ((x.seqs.getD i default).ins.getD j default / 2).toNat default = true) ∧ Hp w0 w' [rO 4 1 eB b9 c9 M, rB b1 28 x.cs]) (fun q _ => (x.seqs.getD i default).ins.length - q) 0 M rfl ⟨by omega, ⟨hP, fun j hj => by omega⟩, hp⟩ ?_
        clear hp hP hMl
        rintro q M w3 ⟨hq, ⟨hP, hd⟩, hp⟩ IH3 C
        have hMl := hP.len
        refine h_run rfl ?_; (repeat (refine gLoad ?_; first | refine H_ldB hp rfl rfl ?_ | refine H_ldFN hp rfl (by omega) rfl rfl ?_))
        refine h_guard_by (fun h1 => ?_) (fun h1 => ?_); all_goals (rw [h1]; (first | replace h1 := of_decide_eq_true h1 | replace h1 := of_decide_eq_false h1 | skip); (repeat (first | (refine gGuard ?_; first | refine h_guard_y rfl nopre rfl ?_ | refine h_guard_n rfl nopre rfl ?_) | (refine gLoad ?_; first | refine H_ldB hp rfl rfl ?_ | refine H_ldE hp rfl (by omega) (by omega) rfl rfl ?_))))
        · have hq' : q < (x.seqs.getD i default).ins.length := by omega
          refine h_cond_b (fun h2 => ?_) (fun h2 => ?_)
          · rw [hz] at h2
            have hmem : (x.seqs.getD i default).ins.getD q default ∈ (x.n.seqs.getD i default).ins := by rw [hsx]; exact getD_mem hq'
            have hlit := hok.inp (getD_mem (show i < x.n.seqs.length by omega)) _ hmem
            have hlk := hlit.nat hn
            unfold litP at hlit
            refine h_cond_t rfl rfl ?_; (repeat (first | (refine gLoad ?_; first | refine H_ldB hp rfl rfl ?_ | refine H_ldEN hp rfl (by omega) rfl rfl ?_ | refine H_ldFN hp rfl (by omega) rfl rfl ?_) | (refine gStore ?_; refine U_st0 hp rfl rfl rfl (by omega) (by decide) rfl rfl ?_; intro w hp; refine ops_run nopre rfl ?_)))
            refine IH3 (q + 1) (M.set ((x.seqs.getD i default).ins.getD q default / 2).toNat true) _ _ _ (by omega) rfl ⟨by omega, ⟨hP.set hok (by omega) h2 hmem, fun j hj => ?_⟩, hp⟩
            by_cases hj2 : j < q
            · exact bset_mono (hd j hj2)
            · obtain rfl : j = q := by omega
              exact bset_self (by omega)
          · rw [hz] at h2
            refine h_cond_f rfl rfl ?_; skip
            refine IH2 (i + 1) M _ _ _ (by omega) rfl ⟨by omega, hP.next fun ha => ?_, hp⟩
            rw [hP.up _ ha] at h2
            cases h2
        · refine h_cond_f rfl rfl ?_; skip
          refine IH2 (i + 1) M _ _ _ (by omega) rfl ⟨by omega, hP.next fun ha l hl => ?_, hp⟩
          rw [hsx] at hl
          exact all_getD (p := fun (l : Int) => M.getD (l / 2).toNat default = true) (fun j hj => hd j (by omega)) l hl
      · refine h_cond_f rfl rfl ?_; skip
        obtain rfl : i = x.seqs.length := by omega
        refine IH (r + 1) M b9 c9 _ _ _ (by omega) rfl ⟨by omega, hR.next hok hm.1 hm.2 (by rw [hsl]; exact hP), hp⟩
    · refine h_cond_f rfl rfl ?_; (repeat (refine H_ldB hp rfl rfl ?_))
      obtain rfl : r = x.seqs.length + 1 := by omega
      refine h_call rfl Try.func146 (by kernel_rfl) rfl (l08Mark_h x _ _ B _ hp.net hok hp.rd hBl) ?_; rintro _ w ⟨b9, c9, A, rfl, hm, hq⟩; refine ops_run nopre rfl ?_; (repeat (refine R_ret ?_))
      have hp := hp.call1 hq
      skip
      have e := (by rw [← hsl] at hR; exact hR.done hok hm.1 hm.2 : A = obsL x.n)
      subst e
      exact ⟨b9, c9, rfl, hp.sub (by simp)⟩

theorem lenKept (n : NetL) : (ifOk n (keptL n)).length < 1000000000 := ifOk_len fun h => by
  have := okOf h
  have := keptTo_len (obsL n) (fsq n) n.seqs.length
  unfold keptL
  omega
end Go.Proofs
