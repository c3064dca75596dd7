/- The contracts of ClassesHold and RegisterClasses of the program; each under its stated conditions. -/
import Derived.Test.YtbjgekllkfnjnaaCls
set_option linter.all false
namespace Go.Proofs
open Go.Xw
set_option maxRecDepth 100000
set_option maxHeartbeats 1500000
attribute [local irreducible] Holds elemAddr
theorem ba_beq {s t : ByteArray} : (s == t) = true ↔ s = t := by
  cases s with | mk a => cases t with | mk b =>
  have : ((ByteArray.mk a) == (ByteArray.mk b)) = (a == b) := rfl
  rw [this, beq_iff_eq, ByteArray.mk.injEq]
theorem key_yes {n : NetL} {cl : List Int} {i j : Nat} (hi : i < n.seqs.length) (hj : j < n.seqs.length) (h : sameK n cl i j) : ((keysL n cl).getD i default == (keysL n cl).getD j default) = true := by
  rw [keysL_get n cl hi, keysL_get n cl hj]; exact ba_beq.2 (keyK_iff.2 h)
theorem key_no {n : NetL} {cl : List Int} {i j : Nat} (hi : i < n.seqs.length) (hj : j < n.seqs.length) (h : ¬ sameK n cl i j) : ((keysL n cl).getD i default == (keysL n cl).getD j default) = false := by
  rw [keysL_get n cl hi, keysL_get n cl hj]
  cases hb : (keyK n cl i == keyK n cl j) with
  | false => rfl
  | true => exact absurd (keyK_iff.1 (ba_beq.1 hb)) h
noncomputable def hldB (n : NetL) (cl : List Int) : Bool := pB (hldP n cl)
theorem hldB_no {n : NetL} {cl : List Int} (h : ¬ hldP n cl) : hldB n cl = false := pB_no' h
theorem hldB_yes {n : NetL} {cl : List Int} (h : hldP n cl) : hldB n cl = true := pB_iff.2 h
theorem ownClasses_h (x : NetA) (w0 : World) (hX : NetR w0 x) (hl : x.seqs.length ≤ 1000000) :
    Ret Try.prog 116 [x.v] w0 (fun v w => ∃ b c, v = .slice b (ownL x.n.seqs.length).length c ∧ Hp w0 w [rO 3 1 eI b c (ownL x.n.seqs.length)]) := by
  have hol : ∀ m, (ownL m).length = m := fun m => by simp [ownL]
  have hxs := x.slen
  refine enter Try.S116ok _ _ rfl rfl (by show _ ≤ _; simp only [List.length]; decide) (fun C => ?_); have hp := Hp.nil w0; refine h_run rfl ?_; skip; (first | (refine H_box hp ?_; intro w b1 hx hp) | (refine H_alloc hp rfl ?_; intro w b1 hx hp)); refine ops_run nopre rfl ?_; (repeat (refine H_ldB hp rfl rfl ?_))
  refine h_loop3 [3, 7, 8] (fun (i : Nat) (b : Option Addr) (c : Nat) => [(3, .slice b (ownL i).length c), (7, .int .i64 x.seqs.length), (8, .int .i64 (i : Int))])
    (fun i b c w' => i ≤ x.seqs.length ∧ Hp w0 w' [rO 3 1 eI b c (ownL i)]) (fun i _ _ => x.seqs.length - i) 0 none 0 rfl ⟨by omega, (Hp.of_ext hp.x).ownN (Ext.refl _) (Own.nil _ _ _ _ _)⟩ ?_
  clear hp
  rintro i b c w1 ⟨hi, hp⟩ IH C
  have hlen := hol i
  have e : ownL (i + 1) = ownL i ++ [(i : Int)] := by unfold ownL; rw [List.range_succ, List.map_append]; rfl
  refine h_run rfl ?_; skip
  refine h_cond_dec (fun hlt => ?_) (fun hlt => ?_)
  · refine h_cond_t rfl rfl ?_; (repeat (refine U_litI hp rfl rfl rfl rfl rfl rfl rfl rfl rfl rfl ?_; intro w _ hx hp; refine ops_run nopre rfl ?_))
    refine U_append hp rfl rfl rfl rfl rfl rfl rfl (by decide) rfl (by first | omega | (simp only [List.length_append, List.length_cons, List.length_nil, List.length_take, List.length_drop, List.length_set, List.length_replicate, List.length_map]; omega)) rfl rfl ?_; intro b' c' w hp hnil; refine ops_run nopre rfl ?_; skip
    refine IH (i + 1) b' c' _ _ _ (by omega) (by rw [e]; rfl) ⟨by omega, ?_⟩
    rw [e]
    exact hp.drop.tk 1
  · refine h_cond_f rfl rfl ?_; (repeat (refine R_ret ?_))
    obtain rfl : i = x.n.seqs.length := by omega
    exact ⟨b, c, rfl, hp⟩
theorem classesBy_h (n : NetL) (cl : List Int) (a : Option Addr) (c : Nat) (ka : Option Addr) (kc : Nat) (w0 : World) (hR : Rd w0 a 1 eI cl) (hK : Rd w0 ka 1 eStr (keysL n cl)) (hL : cl.length ≤ 1000000) (hl : cl.length = n.seqs.length) :
    Ret Try.prog 117 [.slice a cl.length c, .slice ka (keysL n cl).length kc] w0 (fun v w => ∃ b c, v = .slice b (refL n cl).length c ∧ Hp w0 w [rO 3 1 eI b c (refL n cl)]) := by
  have hkl := keysL_len n cl
  have hrl := refL_len n cl
  refine enter Try.S117ok _ _ rfl rfl (by show _ ≤ _; simp only [List.length]; decide) (fun C => ?_); have hp := Hp.nil w0; refine h_run rfl ?_; skip
  refine h_loop3 [0, 1, 5, 10, 11] (fun (i : Nat) (b : Option Addr) (cc : Nat) => [(0, .slice a cl.length c), (1, .slice ka (keysL n cl).length kc), (5, .slice b ((refL n cl).take i).length cc), (10, .int .i64 cl.length), (11, .int .i64 (i : Int))])
    (fun i b cc w' => i ≤ cl.length ∧ Hp w0 w' [rO 3 1 eI b cc ((refL n cl).take i)]) (fun i _ _ => cl.length - i) 0 none 0 rfl ⟨by omega, hp.ownN (Ext.refl _) (Own.nil _ _ _ _ _)⟩ ?_
  clear hp
  rintro i b cc w1 ⟨hi, hp⟩ IH C
  have htl : ((refL n cl).take i).length = i := by simp; omega
  refine h_run rfl ?_; skip
  refine h_cond_dec (fun hlt => ?_) (fun hlt => ?_)
  · have hlt' : i < cl.length := by omega
    have er : ∀ k : Nat, fstJ (toJ n cl i) i = k → (refL n cl).take (i + 1) = (refL n cl).take i ++ [(k : Int)] := fun k hk => by
      rw [take_snoc (by omega), refL_get n cl hlt', hk]
    refine h_cond_t rfl rfl ?_; skip
    refine h_loop [0, 1, 5, 6, 7, 8, 10, 11] (fun (j : Nat) => [(0, .slice a cl.length c), (1, .slice ka (keysL n cl).length kc), (5, .slice b ((refL n cl).take i).length cc), (6, .int .i64 (i : Int)), (7, .int .i64 (i : Int)), (8, .int .i64 (j : Int)), (10, .int .i64 cl.length), (11, .int .i64 (i : Int))])
      (fun j w' => j ≤ i ∧ (∀ k, k < j → ¬ toJ n cl i k) ∧ Hp w0 w' [rO 3 1 eI b cc ((refL n cl).take i)]) (fun j => i - j) 0 rfl ⟨by omega, fun j hj => by omega, hp⟩ ?_
    clear hp
    rintro j w1 ⟨hj, hall, hp⟩ IH2 C
    refine h_run rfl ?_; skip
    refine h_cond_dec (fun hlt2 => ?_) (fun hlt2 => ?_)
    · have hlt2' : j < i := by omega
      refine h_cond_t rfl rfl ?_; skip
      refine D_draw hp (by kernel_rfl) (by kernel_rfl) rfl rfl ?_; intro w hx hp; have hs := hp; (repeat (refine D_ldEN rfl (by omega) rfl rfl rfl ?_))
      refine h_guard_by (fun h1 => ?_) (fun h1 => ?_); all_goals (rw [h1]; (first | replace h1 := of_decide_eq_true h1 | replace h1 := of_decide_eq_false h1 | skip); (repeat (first | (refine gGuard ?_; first | refine h_guard_yd rfl rfl rfl ?_ | refine h_guard_nd rfl rfl rfl ?_) | (refine gLoad ?_; refine D_ldEN rfl (by omega) rfl rfl rfl ?_))))
      · by_cases hs : sameK n cl j i
        · have ht : toJ n cl i j := ⟨h1, fun x hx => (hs x hx).symm⟩
          refine h_cond_t (by rw [key_yes (by omega) (by omega) hs]) rfl ?_; (repeat (refine U_litI hp rfl rfl rfl rfl rfl rfl rfl rfl rfl rfl ?_; intro w _ hx hp; refine ops_run nopre rfl ?_))
          refine U_append hp rfl rfl rfl rfl rfl rfl rfl (by decide) rfl (by first | omega | (simp only [List.length_append, List.length_cons, List.length_nil, List.length_take, List.length_drop, List.length_set, List.length_replicate, List.length_map]; omega)) rfl rfl ?_; intro b' c' w hp hnil; refine ops_run nopre rfl ?_; skip
          refine IH (i + 1) b' c' _ _ _ (by omega) (by rw [er j (fstJ_at hlt2' ht hall)]; rfl) ⟨by omega, ?_⟩
          rw [er j (fstJ_at hlt2' ht hall)]
          exact hp.drop
        · refine h_cond_f (by rw [key_no (by omega) (by omega) hs]) rfl ?_; skip
          refine IH2 (j + 1) _ _ _ (by omega) rfl ⟨by omega, fun k hk2 => ?_, hp⟩
          by_cases hk3 : k < j
          · exact hall k hk3
          · obtain rfl : k = j := by omega
            exact fun ht => hs fun x hx => (ht.2 x hx).symm
      · refine h_cond_f rfl rfl ?_; skip
        refine IH2 (j + 1) _ _ _ (by omega) rfl ⟨by omega, fun k hk2 => ?_, hp⟩
        by_cases hk3 : k < j
        · exact hall k hk3
        · obtain rfl : k = j := by omega
          exact fun ht => h1 ht.1
    · have hji : j = i := by omega
      subst hji
      refine h_cond_f rfl rfl ?_; (repeat (refine U_litI hp rfl rfl rfl rfl rfl rfl rfl rfl rfl rfl ?_; intro w _ hx hp; refine ops_run nopre rfl ?_))
      refine U_append hp rfl rfl rfl rfl rfl rfl rfl (by decide) rfl (by first | omega | (simp only [List.length_append, List.length_cons, List.length_nil, List.length_take, List.length_drop, List.length_set, List.length_replicate, List.length_map]; omega)) rfl rfl ?_; intro b' c' w hp hnil; refine ops_run nopre rfl ?_; skip
      refine IH (j + 1) b' c' _ _ _ (by omega) (by rw [er j (fstJ_no hall)]; rfl) ⟨by omega, ?_⟩
      rw [er j (fstJ_no hall)]
      exact hp.drop
  · refine h_cond_f rfl rfl ?_; (repeat (refine R_ret ?_))
    obtain rfl : i = cl.length := by omega
    have hall : (refL n cl).take cl.length = refL n cl := List.take_of_length_le (by omega)
    rw [hall] at hp ⊢
    exact ⟨b, cc, rfl, hp⟩
theorem registerClasses_h (x : NetA) (w0 : World) (hX : NetR w0 x) (hok : NetOkP x.n) :
    Ret Try.prog 68 [x.v] w0 (fun v w => ∃ b c, v = .slice b (regL x.n).length c ∧ Hp w0 w [rO 3 1 eI b c (regL x.n)]) := by
  have hsz := hok.size'
  have hxs := x.slen
  have hbl := begC_len x.n
  have hin : x.n.inputs = x.inputs := rfl
  refine enter Try.S68ok _ _ rfl rfl (by show _ ≤ _; simp only [List.length]; decide) (fun C => ?_); have hp := Hp.nil w0; refine h_run rfl ?_; skip; (first | (refine H_box hp ?_; intro w b1 hx hp) | (refine H_alloc hp rfl ?_; intro w b1 hx hp)); refine ops_run nopre rfl ?_; (repeat (refine H_ldB hp rfl rfl ?_))
  refine h_loop3 [1, 3, 10, 11, 12] (fun (i : Nat) (b : Option Addr) (cc : Nat) => [(1, .pointer (some ⟨b1, 0, none⟩)), (3, .slice b ((begC x.n).take i).length cc), (10, .slice x.sa x.seqs.length x.sc), (11, .int .i64 x.seqs.length), (12, .int .i64 (i : Int))])
    (fun i b cc w' => i ≤ x.seqs.length ∧ Hp w0 w' [rO 3 1 eI b cc ((begC x.n).take i), rB b1 28 x.cs]) (fun i _ _ => x.seqs.length - i) 0 none 0 rfl ⟨by omega, hp.ownN (Ext.refl _) (Own.nil _ _ _ _ _)⟩ ?_
  clear hp
  rintro i b cc w1 ⟨hi, hp⟩ IH C
  have htl : ((begC x.n).take i).length = i := by simp; omega
  refine h_run rfl ?_; skip
  refine h_cond_dec (fun hlt => ?_) (fun hlt => ?_)
  · have hlt' : i < x.seqs.length := by omega
    have er : ∀ k : Nat, fstJ (flP x.n i) i = k → (begC x.n).take (i + 1) = (begC x.n).take i ++ [(k : Int)] := fun k hk => by
      rw [take_snoc (by omega), begC_get x.n (by omega), hk]
    refine h_cond_t rfl rfl ?_; (repeat (refine H_ldEN hp rfl (by omega) rfl rfl ?_))
    (first | (refine H_box hp ?_; intro w b5 hx hp) | (refine H_alloc hp rfl ?_; intro w b5 hx hp)); refine ops_run nopre rfl ?_; (repeat (refine U_stBN hp rfl rfl rfl rfl ?_; intro w hp; refine ops_run nopre rfl ?_))
    refine h_loop2 [1, 3, 4, 5, 6, 7, 10, 11, 12] (fun (j : Nat) (k : Nat) => [(1, .pointer (some ⟨b1, 0, none⟩)), (3, .slice b ((begC x.n).take i).length cc), (4, .int .i64 (i : Int)), (5, .pointer (some ⟨b5, 0, none⟩)), (6, .int .i64 (k : Int)), (7, .int .i64 (j : Int)), (10, .slice x.sa x.seqs.length x.sc), (11, .int .i64 x.seqs.length), (12, .int .i64 (i : Int))])
      (fun j k w' => j ≤ i ∧ ((k = i ∧ ∀ q, q < j → ¬ flP x.n i q) ∨ (k < i ∧ fstJ (flP x.n i) i = k)) ∧ Hp w0 w' [rB b5 91 (eSq (x.seqs.getD i default)), rO 3 1 eI b cc ((begC x.n).take i), rB b1 28 x.cs]) (fun j k => i - j) 0 i rfl ⟨by omega, .inl ⟨rfl, fun j hj => by omega⟩, hp⟩ ?_
    clear hp
    rintro j k w1 ⟨hj, hk, hp⟩ IH2 C
    refine h_run rfl ?_; skip
    refine h_guard_by (fun h1 => ?_) (fun h1 => ?_); all_goals (rw [h1]; (first | replace h1 := of_decide_eq_true h1 | replace h1 := of_decide_eq_false h1 | skip); (repeat (refine gGuard ?_; first | refine h_guard_y rfl nopre rfl ?_ | refine h_guard_n rfl nopre rfl ?_)))
    · have hji : j < i := by omega
      refine h_cond_dec (fun h2 => ?_) (fun h2 => ?_)
      · obtain ⟨rfl, hall⟩ : k = i ∧ ∀ q, q < j → ¬ flP x.n i q := hk.resolve_right (fun hh => by omega)
        have hfl : flP x.n k j ↔ (x.seqs.getD k default).kind = 0 ∧ (x.seqs.getD j default).kind = 0 ∧ (x.seqs.getD j default).init = (x.seqs.getD k default).init := by
          unfold flP; rw [x.skind, x.skind, x.sinit, x.sinit]
        have hno : ¬ flP x.n k j → ∀ q, q < j + 1 → ¬ flP x.n k q := fun hf q hq => by
          by_cases hq2 : q < j
          · exact hall q hq2
          · obtain rfl : q = j := by omega
            exact hf
        refine h_cond_t rfl rfl ?_; skip
        refine D_draw hp (by kernel_rfl) (by kernel_rfl) rfl rfl ?_; intro w hx hp; have hs := hp; (repeat (refine D_ldB rfl rfl rfl ?_))
        refine h_guard_by (fun h3 => ?_) (fun h3 => ?_); all_goals (rw [h3]; (first | replace h3 := of_decide_eq_true h3 | replace h3 := of_decide_eq_false h3 | skip); (repeat (first | (refine gGuard ?_; first | refine h_guard_yd rfl rfl rfl ?_ | refine h_guard_nd rfl rfl rfl ?_) | (refine gLoad ?_; first | refine D_ldB rfl rfl rfl ?_ | refine D_ldFN rfl (by omega) rfl rfl rfl ?_))))
        · refine h_guard_by (fun h4 => ?_) (fun h4 => ?_); all_goals (rw [h4]; (first | replace h4 := of_decide_eq_true h4 | replace h4 := of_decide_eq_false h4 | skip); (repeat (first | (refine gGuard ?_; first | refine h_guard_yd rfl rfl rfl ?_ | refine h_guard_nd rfl rfl rfl ?_) | (refine gLoad ?_; first | refine D_ldB rfl rfl rfl ?_ | refine D_ldFN rfl (by omega) rfl rfl rfl ?_))))
          · refine h_cond_dec (fun h5 => ?_) (fun h5 => ?_)
            · refine h_cond_t rfl rfl ?_; skip
              refine IH2 (j + 1) j _ _ _ (by omega) rfl ⟨by omega, .inr ⟨hji, fstJ_at hji (hfl.2 ⟨h3, h4, h5⟩) hall⟩, hp⟩
            · refine h_cond_f rfl rfl ?_; skip
              refine IH2 (j + 1) k _ _ _ (by omega) rfl ⟨by omega, .inl ⟨rfl, hno fun hh => h5 (hfl.1 hh).2.2⟩, hp⟩
          · refine h_cond_f rfl rfl ?_; skip
            refine IH2 (j + 1) k _ _ _ (by omega) rfl ⟨by omega, .inl ⟨rfl, hno fun hh => h4 (hfl.1 hh).2.1⟩, hp⟩
        · refine h_cond_f rfl rfl ?_; skip
          refine IH2 (j + 1) k _ _ _ (by omega) rfl ⟨by omega, .inl ⟨rfl, hno fun hh => h3 (hfl.1 hh).1⟩, hp⟩
      · have hk2 : fstJ (flP x.n i) i = k := (hk.resolve_left (fun hh => by omega)).2
        refine h_cond_f rfl rfl ?_; (repeat (refine U_litI hp rfl rfl rfl rfl rfl rfl rfl rfl rfl rfl ?_; intro w _ hx hp; refine ops_run nopre rfl ?_))
        refine U_append hp rfl rfl rfl rfl rfl rfl rfl (by decide) rfl (by first | omega | (simp only [List.length_append, List.length_cons, List.length_nil, List.length_take, List.length_drop, List.length_set, List.length_replicate, List.length_map]; omega)) rfl rfl ?_; intro b' c' w hp hnil; refine ops_run nopre rfl ?_; skip
        refine IH (i + 1) b' c' _ _ _ (by omega) (by rw [er k hk2]; rfl) ⟨by omega, ?_⟩
        rw [er k hk2]
        exact (hp.f1.f1.f3.f3).tk 2
    · have hk2 : fstJ (flP x.n i) i = k := by
        rcases hk with ⟨rfl, hh⟩ | ⟨_, hh⟩
        · exact fstJ_no fun q hq => hh q (by omega)
        · exact hh
      refine h_cond_f rfl rfl ?_; (repeat (refine U_litI hp rfl rfl rfl rfl rfl rfl rfl rfl rfl rfl ?_; intro w _ hx hp; refine ops_run nopre rfl ?_))
      refine U_append hp rfl rfl rfl rfl rfl rfl rfl (by decide) rfl (by first | omega | (simp only [List.length_append, List.length_cons, List.length_nil, List.length_take, List.length_drop, List.length_set, List.length_replicate, List.length_map]; omega)) rfl rfl ?_; intro b' c' w hp hnil; refine ops_run nopre rfl ?_; skip
      refine IH (i + 1) b' c' _ _ _ (by omega) (by rw [er k hk2]; rfl) ⟨by omega, ?_⟩
      rw [er k hk2]
      exact (hp.f1.f1.f3.f3).tk 2
  · refine h_cond_f rfl rfl ?_; skip
    obtain rfl : i = x.seqs.length := by omega
    have hall : (begC x.n).take x.seqs.length = begC x.n := List.take_of_length_le (by omega)
    rw [hall] at hp ⊢
    refine h_loop3 [1, 3] (fun (cl : List Int) (b : Option Addr) (cc : Nat) => [(1, .pointer (some ⟨b1, 0, none⟩)), (3, .slice b cl.length cc)])
      (fun cl b cc w' => clP x.n cl ∧ (∃ f, x.seqs.length - clNL cl < f ∧ regF x.n f cl = regL x.n) ∧ Hp w0 w' [rO 3 1 eI b cc cl, rB b1 28 x.cs]) (fun cl _ _ => x.seqs.length - clNL cl) (begC x.n) b cc rfl ⟨begC_P x.n, ⟨x.n.seqs.length + 1, by omega, rfl⟩, hp⟩ ?_
    clear hp
    rintro cl b cc w1 ⟨hcl, ⟨f, hf, hreg⟩, hp⟩ IH C
    have hlen : cl.length = x.seqs.length := by rw [hcl.1, x.slen]
    have hcn := clNL_le cl
    obtain ⟨f, rfl⟩ : ∃ g, f = g + 1 := ⟨f - 1, by omega⟩
    rw [regF] at hreg
    refine h_run rfl ?_; skip
    refine D_draw hp (by kernel_rfl) (by kernel_rfl) rfl rfl ?_; intro w hx hp; have hs := hp; (repeat (refine D_ldB rfl rfl rfl ?_))
    refine h_callq rfl Try.func115 (by kernel_rfl) rfl (classCount_h b cc cl _ hp.rd (by omega)) ?_; rintro _ w ⟨rfl, hx⟩; have hp := hp.ext hx; have hs := hs.ext hx; refine ⟨fun _ => hs, ?_⟩; refine D_ops rfl rfl ?_; skip
    refine h_cond_dec (fun hgt => ?_) (fun hgt => ?_)
    · refine h_cond_t rfl rfl ?_; (repeat (refine H_ldB hp rfl rfl ?_))
      rw [if_pos (by omega)] at hreg
      rw [← hreg]
      refine h_call rfl Try.func116 (by kernel_rfl) rfl (ownClasses_h x _ hp.net (by omega)) ?_; rintro _ w ⟨b2, c2, rfl, hq⟩; have hx := hq.x; have hp := hp.call1 hq; refine ops_run nopre rfl ?_; (repeat (refine R_ret ?_))
      exact ⟨b2, c2, rfl, hp.tk 1⟩
    · rw [if_neg (by omega)] at hreg
      refine h_cond_f rfl rfl ?_; (repeat (refine H_ldB hp rfl rfl ?_))
      refine h_call rfl Try.func118 (by kernel_rfl) rfl (inBits_h x b cc cl _ hp.net hok hp.rd hcl (by omega)) ?_; rintro _ w ⟨b3, c3, rfl, hq⟩; have hx := hq.x; have hp := hp.call1 hq; refine ops_run nopre rfl ?_; skip
      refine h_call rfl Try.func117 (by kernel_rfl) rfl (classesBy_h x.n cl b cc b3 c3 _ hp.rd hp.rd (by omega) hcl.1) ?_; rintro _ w ⟨b4, c4, rfl, hq⟩; have hx := hq.x; have hp := hp.call1 hq; refine ops_run nopre rfl ?_; skip
      have hrl := refL_len x.n cl
      by_cases he : refL x.n cl = cl
      · rw [if_pos he] at hreg
        refine h_call rfl Try.func119 (by kernel_rfl) rfl ((implSameInts_h b4 b c4 cc (refL x.n cl) cl _ hp.rd hp.rd (by omega) (by omega)).yes he) ?_; rintro _ w ⟨rfl, hx⟩; have hp := hp.ext hx; refine ops_run nopre rfl ?_; skip
        refine h_cond_t rfl rfl ?_; (repeat (refine R_ret ?_))
        rw [← hreg]
        exact ⟨b, cc, rfl, (hp.f1.f1.f2).tk 1⟩
      · rw [if_neg he] at hreg
        refine h_call rfl Try.func119 (by kernel_rfl) rfl ((implSameInts_h b4 b c4 cc (refL x.n cl) cl _ hp.rd hp.rd (by omega) (by omega)).no he) ?_; rintro _ w ⟨rfl, hx⟩; have hp := hp.ext hx; refine ops_run nopre rfl ?_; skip
        refine h_cond_f rfl rfl ?_; skip
        have hm := ref_more hcl he
        have hle2 := clNL_le (refL x.n cl)
        exact IH (refL x.n cl) b4 c4 _ _ _ (by omega) rfl ⟨refL_P hcl, ⟨f, by omega, hreg⟩, (hp.f2.f2.f3.f3).tk 2⟩
end Go.Proofs
