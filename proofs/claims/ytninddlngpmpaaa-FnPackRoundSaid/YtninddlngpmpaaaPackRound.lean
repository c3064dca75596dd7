/- The law that words can be unpacked from their packed bits; no condition but the stated ones. -/
import Derived.Test.YtninddlngpmpaaaDraw
import Derived.Test.YtninddlngpmpaaaPackRoundLaw
set_option linter.all false
namespace Go.Proofs
open Go.Xw
set_option maxRecDepth 100000
set_option maxHeartbeats 1000000
attribute [local irreducible] Holds elemAddr

theorem l11Sizes_h {w0 w : World} {L : List Res} {p : Nat} {a : Option Addr} {n c : Nat} {code : List Int} (hR : Rd w0 a 1 eU8 code) (hn : code.length = n) (hp : Hp w0 w (rCur p a n c :: L)) :
    Ret Try.prog 64 [.pointer (some ⟨p, 0, none⟩)] w (fun v w' => ∃ b c' W, (v = .slice b W.length c' ∧ W.length ≤ 10) ∧ Hp w0 w' (rO 3 1 eI b c' W :: rCur p a n c :: L)) := by
  refine enter Try.S64ok _ _ rfl rfl (by show _ ≤ _; simp only [List.length]; decide) (fun C => ?_); refine h_run rfl ?_; (repeat (refine U_litI hp rfl rfl rfl rfl rfl rfl rfl rfl rfl rfl ?_; intro w _ hx hp; refine ops_run nopre rfl ?_))
  refine h_call rfl Try.func65 (by kernel_rfl) rfl (l01Below_h hR hn hp.f1 6) ?_; rintro _ w ⟨z, ⟨rfl, hz0, hz1⟩, hp⟩; refine ops_run nopre rfl ?_; skip
  have hz := hz1 (by decide)
  obtain ⟨k, rfl⟩ := Int.eq_ofNat_of_zero_le hz.1
  refine h_loop4 [0, 3, 4] (fun (k : Nat) (W : List Int) (b : Option Addr) (c' : Nat) => [(0, .pointer (some ⟨p, 0, none⟩)), (3, .slice b W.length c'), (4, .int .i64 (k : Int))])
    (fun k W b c' w' => (W.length + k ≤ 6) ∧ Hp w0 w' (rO 3 1 eI b c' W :: rCur p a n c :: L)) (fun k _ _ _ => k) k _ _ _ rfl ⟨by simp; omega, hp.f1⟩ ?_
  rintro k W b c' w1 ⟨hk, hp⟩ IH C
  refine h_run rfl ?_; skip
  refine h_cond_dec (fun hlt => ?_) (fun hlt => ?_)
  · refine h_cond_t rfl rfl ?_; skip
    refine h_call rfl Try.func65 (by kernel_rfl) rfl (l01Below_h hR hn hp.f1 4) ?_; rintro _ w ⟨z, ⟨rfl, hz0, hz1⟩, hp⟩; refine ops_run nopre rfl ?_; (repeat (refine U_litI hp rfl rfl rfl rfl rfl rfl rfl rfl rfl rfl ?_; intro w _ hx hp; refine ops_run nopre rfl ?_))
    have hz := hz1 (by decide)
    skip
    refine U_append hp rfl rfl rfl rfl rfl rfl rfl (by decide) rfl (by first | omega | (simp only [List.length_append, List.length_cons, List.length_nil, List.length_take, List.length_drop, List.length_set, List.length_replicate, List.length_map]; omega)) rfl rfl ?_; intro b' c'' w hp hnil; refine ops_run nopre rfl ?_; skip
    refine IH (k - 1) _ b' c'' _ _ _ (by omega) (by rw [show ((k - 1 : Nat) : Int) = (k : Int) - 1 by omega]; rfl) ⟨by simp; omega, ?_⟩
    exact hp.drop.f1
  · refine h_cond_f rfl rfl ?_; skip
    refine h_call rfl Try.func96 (by kernel_rfl) rfl (l01Once_h hR hn hp.f1 10) ?_; rintro _ w ⟨bb, rfl, hp⟩; refine ops_run nopre rfl ?_; skip
    cases bb
    · refine h_cond_f rfl rfl ?_; (repeat (refine R_ret ?_))
      exact ⟨b, c', W, ⟨rfl, by omega⟩, hp.f1⟩
    · refine h_cond_t rfl rfl ?_; (repeat (refine U_litI hp rfl rfl rfl rfl rfl rfl rfl rfl rfl rfl ?_; intro w _ hx hp; refine ops_run nopre rfl ?_))
      refine h_call rfl Try.func114 (by kernel_rfl) rfl (l01PickInt_h hR hn hp.f1 _ _ _ (by decide) (by decide)) ?_; rintro _ w ⟨z, ⟨rfl, _⟩, hp⟩; refine ops_run nopre rfl ?_; (repeat (refine U_litI hp rfl rfl rfl rfl rfl rfl rfl rfl rfl rfl ?_; intro w _ hx hp; refine ops_run nopre rfl ?_))
      skip
      refine U_append hp rfl rfl rfl rfl rfl rfl rfl (by decide) rfl (by first | omega | (simp only [List.length_append, List.length_cons, List.length_nil, List.length_take, List.length_drop, List.length_set, List.length_replicate, List.length_map]; omega)) rfl rfl ?_; intro b' c'' w hp hnil; refine ops_run nopre rfl ?_; (repeat (refine R_ret ?_))
      exact ⟨b', c'', _, ⟨rfl, by simp; omega⟩, (hp.drop.f2).sub (by simp)⟩
theorem DrawPackBits_h (a : Option Addr) (c : Nat) (code : List Int) (w0 : World) (hR : Rd w0 a 1 eU8 code) (hB : AllB code) (hl : code.length ≤ 1048576) :
    Ret Try.prog 16 [.slice a code.length c] w0 (fun v w => ∃ b1 c1 W b2 c2 V, (v = .tuple ⟨[.slice b1 W.length c1, .slice b2 V.length c2]⟩ ∧ W.length ≤ 10 ∧ V.length ≤ 20) ∧ Hp w0 w [rO 3 1 eI b2 c2 V, rO 3 1 eI b1 c1 W]) := by
  refine enter Try.S16ok _ _ rfl rfl (by show _ ≤ _; simp only [List.length]; decide) (fun C => ?_); have hp := Hp.nil w0; refine h_run rfl ?_; skip
  refine h_call rfl Try.func63 (by kernel_rfl) rfl (l01New_h a c code _ hp.rd hB hl) ?_; rintro _ w ⟨p, rfl, hq⟩; have hx := hq.x; have hp := hp.call1 hq; refine ops_run nopre rfl ?_; skip
  refine h_call rfl Try.func64 (by kernel_rfl) rfl (l11Sizes_h hR rfl hp) ?_; rintro _ w ⟨b1, c1, W, ⟨rfl, hWl⟩, hp⟩; refine ops_run nopre rfl ?_; (repeat (refine U_litI hp rfl rfl rfl rfl rfl rfl rfl rfl rfl rfl ?_; intro w _ hx hp; refine ops_run nopre rfl ?_))
  refine h_loop4 [4, 5, 6, 7] (fun (i : Nat) (V : List Int) (b : Option Addr) (c' : Nat) => [(4, .pointer (some ⟨p, 0, none⟩)), (5, .slice b1 W.length c1), (6, .slice b V.length c'), (7, .int .i64 (i : Int))])
    (fun i V b c' w' => (i ≤ W.length ∧ V.length = i) ∧ Hp w0 w' [rO 3 1 eI b c' V, rO 3 1 eI b1 c1 W, rCur p a code.length c]) (fun i _ _ _ => W.length - i) 0 _ _ _ rfl ⟨⟨by omega, rfl⟩, hp⟩ ?_
  rintro i V b c' w1 ⟨⟨hi, hV⟩, hp⟩ IH C
  refine h_run rfl ?_; skip
  refine h_cond_dec (fun hlt => ?_) (fun hlt => ?_)
  · refine h_cond_t rfl rfl ?_; skip
    refine h_call rfl Try.func65 (by kernel_rfl) rfl (l01Below_h hR rfl hp.f2 16) ?_; rintro _ w ⟨z, ⟨rfl, hz0, hz1⟩, hp⟩; refine ops_run nopre rfl ?_; (repeat (refine U_litI hp rfl rfl rfl rfl rfl rfl rfl rfl rfl rfl ?_; intro w _ hx hp; refine ops_run nopre rfl ?_))
    have hz := hz1 (by decide)
    skip
    refine U_append hp rfl rfl rfl rfl rfl rfl rfl (by decide) rfl (by first | omega | (simp only [List.length_append, List.length_cons, List.length_nil, List.length_take, List.length_drop, List.length_set, List.length_replicate, List.length_map]; omega)) rfl rfl ?_; intro b' c'' w hp hnil; refine ops_run nopre rfl ?_; skip
    exact IH (i + 1) _ b' c'' _ _ _ (by omega) rfl ⟨⟨by omega, by simp; omega⟩, hp.drop.b2⟩
  · refine h_cond_f rfl rfl ?_; skip
    refine h_call rfl Try.func65 (by kernel_rfl) rfl (l01Below_h hR rfl hp.f2 8) ?_; rintro _ w ⟨z, ⟨rfl, hz0, hz1⟩, hp⟩; refine ops_run nopre rfl ?_; skip
    have hz := hz1 (by decide)
    have hp := hp.b2
    refine h_cond_dec (fun h1 => ?_) (fun h1 => ?_)
    · refine h_cond_t rfl rfl ?_; (repeat (refine U_litI hp rfl rfl rfl rfl rfl rfl rfl rfl rfl rfl ?_; intro w _ hx hp; refine ops_run nopre rfl ?_))
      refine U_append hp rfl rfl rfl rfl rfl rfl rfl (by decide) rfl (by first | omega | (simp only [List.length_append, List.length_cons, List.length_nil, List.length_take, List.length_drop, List.length_set, List.length_replicate, List.length_map]; omega)) rfl rfl ?_; intro b' c'' w hp hnil; refine ops_run nopre rfl ?_; (repeat (refine R_ret ?_))
      exact ⟨b1, c1, W, b', c'', _, ⟨rfl, hWl, by simp; omega⟩, hp.sub (by simp)⟩
    · refine h_cond_f rfl rfl ?_; skip
      refine h_cond_dec (fun h2 => ?_) (fun h2 => ?_)
      · refine h_cond_t rfl rfl ?_; skip
        refine h_cond_dec (fun h3 => ?_) (fun h3 => ?_)
        · refine h_cond_t rfl rfl ?_; skip
          refine h_call rfl Try.func66 (by kernel_rfl) rfl (l01Number_h hR rfl hp.f2) ?_; rintro _ w ⟨z, rfl, hp⟩; refine ops_run nopre rfl ?_; (repeat (first | (refine gStore ?_; refine U_st0 hp rfl rfl rfl (by omega) (by decide) rfl rfl ?_; intro w hp; refine ops_run nopre rfl ?_) | refine R_ret ?_))
          skip
          exact ⟨b1, c1, W, b, c', V.set 0 z, ⟨by rw [List.length_set], hWl, by rw [List.length_set]; omega⟩, hp.drop⟩
        · refine h_cond_f rfl rfl ?_; (repeat (refine R_ret ?_))
          exact ⟨b1, c1, W, b, c', V, ⟨rfl, hWl, by omega⟩, hp.sub (by simp)⟩
      · refine h_cond_f rfl rfl ?_; (repeat (refine R_ret ?_))
        exact ⟨b1, c1, W, b, c', V, ⟨rfl, hWl, by omega⟩, hp.sub (by simp)⟩

theorem implPackBits_h (a b : Option Addr) (ca cb : Nat) (xs ys : List Int) (m n : Nat) (hm : xs.length = m) (hn : ys.length = n) (w : World) (ha : Rd w a 1 eI xs) (hb : Rd w b 1 eI ys) (hl : m < 1000000000) :
    Ret Try.prog 18 [.slice a m ca, .slice b n cb] w (fun v w' => v = .int .i64 (packV xs ys) ∧ Ext w w') := by
  subst hm; subst hn; exact implPackBits_ok a b ca cb xs ys w ha.h hb.h hl
theorem implUnpackBits_h (a : Option Addr) (ca : Nat) (xs : List Int) (b : Int) (w : World) (ha : Rd w a 1 eI xs) (hl : xs.length < 1000000000) :
    Ret Try.prog 19 [.slice a xs.length ca, .int .i64 b] w (fun v w' => ∃ a' c', v = .slice a' (unpackV xs b).length c' ∧ Hp w w' [rO 3 1 eI a' c' (unpackV xs b)]) :=
  (implUnpackBits_ok a ca xs b w ha.h hl).mono fun _ _ ⟨a', c', h1, h2, h3⟩ => ⟨a', c', h1, (Hp.nil w).ownN h3 h2⟩
theorem pack13 : packV [1] [3] = 1 := by
  have hw : widOk [1] := by
    refine ⟨fun j hj => ?_, by decide⟩
    obtain rfl : j = 0 := by simp at hj; omega
    decide
  rw [packV, if_pos ⟨rfl, widB_pos hw⟩]
  decide

theorem FnPackRound_h (w0 : World) (a : Option Addr) (c : Nat) (code : List Int) (hR : Rd w0 a 1 eU8 code) (hM : code.length ≤ maxLen) (hB : AllB code) :
    Ret Try.prog 3 [.slice a code.length c] w0 (fun v w => v = .bool true ∧ Ext w0 w) := by
  refine enter Try.S3ok _ _ rfl rfl (by show _ ≤ _; simp only [List.length]; decide) (fun C => ?_); have hp := Hp.nil w0; refine h_run rfl ?_; skip
  refine h_call rfl Try.func15 (by kernel_rfl) rfl (big_h a code.length c _) ?_; rintro _ w ⟨rfl, hx⟩; have hp := hp.ext hx; refine ops_run nopre rfl ?_; skip
  refine h_cond_dec (fun hbig => ?_) (fun hbig => ?_)
  · refine h_cond_t rfl rfl ?_; (repeat (refine R_ret ?_))
    exact ⟨rfl, hp.x⟩
  · refine h_cond_f rfl rfl ?_; skip
    refine h_call rfl Try.func16 (by kernel_rfl) rfl (DrawPackBits_h a c code _ hp.rd hB (by omega)) ?_; rintro _ w ⟨b1, c1, W, b2, c2, V, ⟨rfl, hWl, hVl⟩, hq⟩; refine ops_run nopre rfl ?_; skip
    have hp := hp.call2 hq
    skip
    have h1 := hp.rd (a := b1)
    have h2 := hp.rd (a := b2)
    refine h_call rfl Try.func17 (by kernel_rfl) rfl (specPackBits_ok b1 b2 c1 c2 W V _ h1.h h2.h (by omega)) ?_; rintro _ w ⟨rfl, hx⟩; have hp := hp.ext hx; refine ops_run nopre rfl ?_; skip
    refine h_call rfl Try.func18 (by kernel_rfl) rfl (implPackBits_h b1 b2 c1 c2 W V _ _ rfl rfl _ hp.rd hp.rd (by omega)) ?_; rintro _ w ⟨rfl, hx⟩; have hp := hp.ext hx; refine ops_run nopre rfl ?_; skip
    refine h_cond_f (by simp) rfl ?_; skip
    refine h_cond_dec (fun hneg => ?_) (fun hneg => ?_)
    · refine h_cond_t rfl rfl ?_; (repeat (refine U_litI hp rfl rfl rfl rfl rfl rfl rfl rfl rfl rfl ?_; intro w _ hx hp; refine ops_run nopre rfl ?_))
      refine h_call rfl Try.func18 (by kernel_rfl) rfl (implPackBits_h _ _ _ _ [1] [3] _ _ rfl rfl _ hp.rd hp.rd (by decide)) ?_; rintro _ w ⟨rfl, hx⟩; have hp := hp.ext hx; refine ops_run nopre rfl ?_; (repeat (refine R_ret ?_))
      exact ⟨by rw [pack13]; rfl, hp.x⟩
    · have hok : W.length = V.length ∧ widB W = true := by
        by_cases h : W.length = V.length ∧ widB W = true
        · exact h
        · exact absurd (by rw [packV, if_neg h]; decide : packV W V < 0) hneg
      have hw := widB_iff.1 hok.2
      obtain ⟨k1, k2, k3⟩ := pack_back hok.1 hw
      refine h_cond_f rfl rfl ?_; skip
      refine h_call rfl Try.func19 (by kernel_rfl) rfl (implUnpackBits_h b1 c1 W (packV W V) _ hp.rd (by omega)) ?_; rintro _ w ⟨b3, c3, rfl, hq⟩; have hx := hq.x; have hp := hp.call1 hq; refine ops_run nopre rfl ?_; skip
      refine h_cond_f (by simp [k2, hok.1]) rfl ?_; skip
      refine h_loop [3, 4, 6, 7, 8] (fun (k : Nat) => [(3, .slice b1 W.length c1), (4, .slice b2 V.length c2), (6, .int .i64 (packV W V)), (7, .slice b3 (unpackV W (packV W V)).length c3), (8, .int .i64 (k : Int))])
        (fun k w' => k ≤ V.length ∧ Hp w0 w' [rO 3 1 eI b3 c3 (unpackV W (packV W V)), rO 3 1 eI b2 c2 V, rO 3 1 eI b1 c1 W]) (fun k => V.length - k) 0 rfl ⟨by omega, hp.sub (by simp)⟩ ?_
      rintro k w1 ⟨hk, hp⟩ IH C
      refine h_run rfl ?_; skip
      refine h_cond_dec (fun hlt => ?_) (fun hlt => ?_)
      · have hk' : k < W.length := by omega
        have hw4 := hw.1 k hk'
        have hm := bits_and_mask (V.getD k default) (W.getD k default).toNat (by omega)
        have h64 : (IntKind.i64.bits : Int) = 64 := rfl
        have hpow : 0 ≤ 1 * (2 : Int) ^ (W.getD k default).toNat ∧ 1 * (2 : Int) ^ (W.getD k default).toNat ≤ 16 := by
          rw [Int.one_mul]
          have h := pow_le_ (s := (W.getD k default).toNat) (t := 4) (by omega)
          have h3 : (2 : Int) ^ 4 = 16 := by decide
          have := pow_pos_ (W.getD k default).toNat
          omega
        refine h_cond_t rfl rfl ?_; skip
        refine D_draw hp (by kernel_rfl) (by kernel_rfl) rfl rfl ?_; intro w hx hp; have hs := hp; (repeat (refine D_ldEN rfl (by omega) rfl rfl rfl ?_))
        refine h_cond_f (by rw [Int.one_mul, hm, k1 k hk']; simp) rfl ?_; skip
        exact IH (k + 1) _ _ _ (by omega) rfl ⟨by omega, hp⟩
      · refine h_cond_f rfl rfl ?_; skip
        refine h_call rfl Try.func18 (by kernel_rfl) rfl (implPackBits_h _ _ _ _ W (unpackV W (packV W V)) _ _ rfl rfl _ hp.rd hp.rd (by omega)) ?_; rintro _ w ⟨rfl, hx⟩; have hp := hp.ext hx; refine ops_run nopre rfl ?_; (repeat (refine R_ret ?_))
        exact ⟨by rw [k3]; simp, hp.x⟩
end Go.Proofs
