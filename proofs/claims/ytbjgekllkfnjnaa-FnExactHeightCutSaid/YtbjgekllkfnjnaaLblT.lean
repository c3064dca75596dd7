/- The contracts of the reference's cuts by height; each under its stated conditions. -/
import Derived.Test.YtbjgekllkfnjnaaLblS
import Derived.Test.YtbjgekllkfnjnaaLblSp2
import Derived.Test.YtbjgekllkfnjnaaCutLaw
import Derived.Test.YtbjgekllkfnjnaaHashed
set_option linter.all false
namespace Go.Xw
set_option maxHeartbeats 1000000
theorem coneL_memL {n : NetL} {k : Nat} {z : Int} : z ∈ coneL n k ↔ ∃ c : Nat, c < nds n ∧ z = (c : Int) ∧ InCone n k c := by
 unfold coneL markedL
 rw [marked_mem, listB_len]
 constructor
 ·rintro ⟨c, h1, h2, h3⟩; exact ⟨c, h1, h2, (listB_get h1).1 h3⟩
 ·rintro ⟨c, h1, h2, h3⟩; exact ⟨c, h1, h2, (listB_get h1).2 h3⟩
def UpTo (X : List Int) (P : Nat → Prop) (i N : Nat) (UP : List Bool) : Prop := ∀ k, k < N → (UP.getD k default = true ↔ P k ∧ ∃ j, j < i ∧ X.getD j default = (k : Int))
theorem UpTo.zero (X : List Int) (P : Nat → Prop) (N : Nat) : UpTo X P 0 N (List.replicate N false) := fun k hk => by
 rw [List.getD_eq_getElem?_getD, List.getElem?_replicate, if_pos hk]
 constructor
 ·intro h; cases h
 ·rintro ⟨_, j, h, _⟩; omega
theorem UpTo.set {X : List Int} {P : Nat → Prop} {i N : Nat} {UP : List Bool} (h : UpTo X P i N UP) {c : Nat} {v : Bool} (hc : X.getD i default = (c : Int)) (hl : c < UP.length) (hv : v = true ↔ P c) : UpTo X P (i + 1) N (UP.set c v) := fun k hk => by
 rw [boolset hl]
 by_cases hkc : k = c
 ·subst hkc
  rw [if_pos rfl, hv]
  exact ⟨fun h1 => ⟨h1, i, by omega, hc⟩, fun h1 => h1.1⟩
 ·rw [if_neg hkc, h k hk]
  constructor
  ·rintro ⟨h1, j, h2, h3⟩; exact ⟨h1, j, by omega, h3⟩
  ·rintro ⟨h1, j, h2, h3⟩
   refine ⟨h1, j, ?_, h3⟩
   have : j ≠ i := fun he => by subst he; omega
   omega
theorem UpTo.free {n : NetL} {k0 : Nat} {L : List Int} {h : Int} {UP : List Bool} {N : Nat} (hu : UpTo (coneL n k0) (fun k => k = k0 ∨ h ≤ L.getD k default) (coneL n k0).length N UP) (hN : N = nds n) : ∀ k, k < nds n → (UP.getD k default = true ↔ lgFree n k0 L h k) := fun k hk => by
 rw [hu k (by omega)]
 constructor
 ·rintro ⟨h1, j, h2, h3⟩
  obtain ⟨c, _, h4, h5⟩ := coneL_memL.1 (getD_mem h2)
  obtain rfl : c = k := by omega
  rcases h1 with h1 | h1
  ·exact .inl h1
  ·exact .inr ⟨h5, h1⟩
 ·intro h1
  have hc : InCone n k0 k := by
   rcases h1 with rfl | h1
   ·exact .refl _
   ·exact h1.1
  obtain ⟨j, j1, j2⟩ := mem_getD (coneL_memL.2 ⟨k, hk, rfl, hc⟩)
  exact ⟨h1.imp id (fun h => h.2), j, j1, j2⟩
noncomputable def hcO (n : NetL) (k0 : Nat) (L : List Int) (h : Int) : List Int := @ite _ (hcP n k0 L h) (Classical.propDecidable _) (hcL n k0 L h) []
theorem hcO_yes {n : NetL} {k0 : Nat} {L : List Int} {h : Int} (hp : hcP n k0 L h) : hcO n k0 L h = hcL n k0 L h := by unfold hcO; rw [if_pos hp]
theorem hcO_no {n : NetL} {k0 : Nat} {L : List Int} {h : Int} (hp : ¬ hcP n k0 L h) : hcO n k0 L h = [] := by unfold hcO; rw [if_neg hp]
theorem hcB_yes {n : NetL} {k0 : Nat} {L : List Int} {h : Int} (hp : hcP n k0 L h) : hcB n k0 L h = true := pB_yes hp
theorem hcB_no {n : NetL} {k0 : Nat} {L : List Int} {h : Int} (hp : ¬ hcP n k0 L h) : hcB n k0 L h = false := pB_no hp
theorem hcL_to (n : NetL) (k0 : Nat) (L : List Int) (h : Int) : hcL n k0 L h = markedTo (listB (nds n) (hcN n k0 L h)) (nds n) := by
 unfold hcL markedL
 rw [listB_len]
end Go.Xw
namespace Go.Proofs
open Go.Xw
set_option maxRecDepth 100000
set_option maxHeartbeats 2000000
attribute [local irreducible] Holds elemAddr
theorem l17Search_n (x : NetA) (G : GrF) (hGN : G.N = nds x.n) (hGo : GrOk G) (f : Flo) (hf : FlP G f) (hfl : ∀ k, G.free k → k < G.N) (hlf : ∀ k, G.leaf k → k < fst_ x.n) (har : ∀ p c, G.arc p c → (c : Int) ∈ fanL x.n p) (hvs : ∀ k b, Rch G f k b → ∀ z, z ∈ fanL x.n k → ∃ c : Nat, z = (c : Int) ∧ G.arc k c)
  (UPa Ua Va : Option Addr) (UPc Uc Vc : Nat) (UP U : List Bool) (V : List Int) (par : Nat → Nat) (w0 : World) (hX : NetR w0 x) (hok : NetOkP x.n) (hR1 : Rd w0 UPa 1 eB UP) (hR2 : Rd w0 Ua 1 eB U) (hR3 : Rd w0 Va 1 eI V) (hl1 : UP.length = nds x.n) (hl2 : U.length = nds x.n) (hl3 : V.length = nds x.n)
  (hup : ∀ k, k < nds x.n → (UP.getD k default = true ↔ G.free k)) (hr : RepM G U V par f none) :
  Ret Try.prog 110 [x.v, .slice UPa (nds x.n) UPc, .slice Ua (nds x.n) Uc, .slice Va (nds x.n) Vc] w0 (fun v w => ∃ b c B Q q t, (v = .tuple ⟨[.slice b (2 * nds x.n) c, .int .i64 t]⟩ ∧ SIn G f B Q q ∧ SSrc G B ∧ ((t = -1 ∧ q = Q.length) ∨ ∃ z : Nat, t = (z : Int) ∧ q < Q.length ∧ Q.getD q default = (z : Int) ∧ z % 2 = 1 ∧ z / 2 < fst_ x.n)) ∧ Hp w0 w [rO 3 1 eI b c B]) := by
 have h := l17Search_h x G hGN hGo f hf hfl hlf har hvs UPa Ua Va UPc Uc Vc UP U V par w0 hX hok hR1 hR2 hR3 hl1 hl2 hl3 hup hr
 rw [hl1, hl2, hl3] at h
 exact h
theorem l17Cut_h (x : NetA) (Lb : List Int) (k0 : Nat) (h : Int) (La : Option Addr) (Lc : Nat) (w0 : World) (hX : NetR w0 x) (hS : NetS x.n) (hW : NetW x.n) (hok : NetOkP x.n) (hR : Rd w0 La 1 eI Lb) (hLb : LblOk x.n Lb k0) (hk2 : fst_ x.n ≤ k0) (hk : k0 < nds x.n) (hh : 1 ≤ h) :
  Ret Try.prog 62 [x.v, .slice La (nds x.n) Lc, .int .i64 (k0 : Int), .int .i64 h] w0 (fun v w => ∃ b c, v = .tuple ⟨[.slice b (hcO x.n k0 Lb h).length c, .bool (hcB x.n k0 Lb h)]⟩ ∧ Hp w0 w [rO 3 1 eI b c (hcO x.n k0 Lb h)]) := by
 have hn := hok.nums
 obtain ⟨n1, n2, n3, n4, n5, n6⟩ := hn
 have hn := hok.nums
 have hnd := hok.nodes
 have hsz := hok.size'
 have hal : x.n.ands.length = x.ands.length := rfl
 have hcnt : nodeCountL x.n = (nds x.n : Int) := by rw [nodeCountL, if_pos hok.size, n4]
 have hLl := hLb.len
 obtain ⟨G, hG⟩ : ∃ G, G = lgG x.n k0 Lb h := ⟨_, rfl⟩
 have hGN : G.N = nds x.n := by rw [hG]; rfl
 have hGo : GrOk G := by rw [hG]; exact lgG_ok hn hLb hk
 have hfl : ∀ k, G.free k → k < G.N := by rw [hG]; exact fun k hk3 => lgFree_lt hn hk hk3
 have hlf : ∀ k, G.leaf k → k < fst_ x.n := by rw [hG]; exact fun k hk3 => hk3.2
 have hlfr : ∀ k, G.leaf k → ¬ G.free k := by rw [hG]; exact fun k hk3 => lgLeaf hLb hk2 hh hk3
 have har : ∀ p c, G.arc p c → (c : Int) ∈ fanL x.n p := by
  rw [hG]; exact fun p c ha => (fan_arc hok (lgArc.lt hn ha).2.2.2 ha.1).2 ⟨c, rfl, ha⟩
 have hvs : ∀ f, FlP G f → ∀ k b, Rch G f k b → ∀ z, z ∈ fanL x.n k → ∃ c : Nat, z = (c : Int) ∧ G.arc k c := fun f hf k b r z hz => by
  have hkN := r.lt hGo hf hfl
  rw [hGN] at hkN
  subst hG
  exact (fan_arc hok hkN (rch_cone hn hLb hk2 hh hf r).1).1 hz
 have hrn : ∀ f, FlP G f → ∀ k b, Rch G f k b → k ≠ 0 := fun f hf k b r => by
  subst hG
  exact (rch_cone hn hLb hk2 hh hf r).2
 have hyes : ∀ f, FlP G f → Term G f → f.tot G ≤ 4 → hcP x.n k0 Lb h ∧ ∀ k, hcN x.n k0 Lb h k ↔ NrC G f k := by
  subst hG; exact fun f hf ht h4 => hc_yes hn hLb hk hf ht h4
 have hno : ∀ f, FlP G f → 5 ≤ f.tot G → ¬ hcP x.n k0 Lb h := by
  subst hG; exact fun f hf h5 => hc_no hn hLb hk hf h5
 have hleaf : ∀ k, k ≠ 0 → k < fst_ x.n → G.leaf k := by rw [hG]; exact fun k h1 h2 => ⟨Nat.pos_of_ne_zero h1, h2⟩
 have hcl := coneL_len x.n k0
 have hfree : ∀ UP, UpTo (coneL x.n k0) (fun k => k = k0 ∨ h ≤ Lb.getD k default) (coneL x.n k0).length (nds x.n) UP → ∀ k, k < nds x.n → (UP.getD k default = true ↔ G.free k) := by
  rw [hG]; exact fun UP hu => hu.free rfl
 refine enter Try.S62ok _ _ rfl rfl (by show _ ≤ _; simp only [List.length]; decide) (fun C => ?_); have hp := Hp.nil w0; refine h_run rfl ?_; skip; (first | refine H_box hp ?_ | refine H_alloc hp rfl ?_); intro w b4 hx hp; refine ops_run nopre rfl ?_; (repeat (refine H_ldB hp rfl rfl ?_))
 refine h_call rfl Try.func109 (by kernel_rfl) rfl (specCone_x x (k0 : Int) _ hp.net hS hW (by unfold i64R; omega)) ?_; rintro _ w ⟨bc, cc, rfl, hq⟩; have hx := hq.x; have hp := hp.call1 hq; refine ops_run nopre rfl ?_; (repeat (refine H_ldB hp rfl rfl ?_))
 have ec : coneF x.n (k0 : Int) = coneL x.n k0 := coneF_yes ⟨hok, by omega, by omega⟩
 rw [ec] at hp ⊢
 refine h_call rfl Try.func13 (by kernel_rfl) rfl (specNodeCount_h x _) ?_; rintro _ w ⟨rfl, hx⟩; have hp := hp.ext hx; refine ops_run nopre rfl ?_; skip
 rw [hcnt]
 refine H_make hp eB false rfl rfl rfl rfl (s := 1) rfl (by decide) rfl (by unfold maxLen; omega) (by show 1 * _ ≤ _; omega) ?_; intro w b11 hx hp; refine ops_run nopre rfl ?_; skip
 refine h_loop2 [1, 2, 3, 4, 10, 11, 12] (fun (i : Nat) (UP : List Bool) => [(1, .slice La (nds x.n) Lc), (2, .int .i64 (k0 : Int)), (3, .int .i64 h), (4, .pointer (some ⟨b4, 0, none⟩)), (10, .slice bc (coneL x.n k0).length cc), (11, .slice (some ⟨b11, 0, none⟩) (nds x.n) (nds x.n)), (12, .int .i64 (i : Int))])
  (fun i UP w' => (i ≤ (coneL x.n k0).length ∧ UP.length = nds x.n ∧ UpTo (coneL x.n k0) (fun k => k = k0 ∨ h ≤ Lb.getD k default) i (nds x.n) UP) ∧ Hp w0 w' [rO 4 1 eB (some ⟨b11, 0, none⟩) (nds x.n) UP, rO 3 1 eI bc cc (coneL x.n k0), rB b4 28 x.cs]) (fun i _ => (coneL x.n k0).length - i) 0 _ rfl ⟨⟨by omega, by simp, UpTo.zero _ _ _⟩, hp⟩ ?_
 clear hp
 rintro i UP w1 ⟨⟨hi, hUl, hUs⟩, hp⟩ IH C
 refine h_run rfl ?_; skip
 refine h_cond_dec (fun hlt => ?_) (fun hlt => ?_)
 ·have hi2 : i < (coneL x.n k0).length := by omega
  obtain ⟨c, hcN, hc, hcc⟩ := coneL_memL.1 (getD_mem hi2)
  have ez : ((coneL x.n k0).getD i default).toNat = c := by omega
  refine h_cond_t rfl rfl ?_; skip
  refine D_draw hp (by kernel_rfl) (by kernel_rfl) rfl rfl ?_; intro w hx hp; have hs := hp; (repeat (refine D_ldEN rfl (by omega) rfl rfl rfl ?_))
  refine h_guard_by (fun h1 => ?_) (fun h1 => ?_); all_goals (rw [h1]; (first | replace h1 := of_decide_eq_true h1 | replace h1 := of_decide_eq_false h1 | skip); (repeat (first | (refine gGuard ?_; first | refine h_guard_yd rfl rfl rfl ?_ | refine h_guard_nd rfl rfl rfl ?_) | (refine gLoad ?_; first | refine D_ldEN rfl (by omega) rfl rfl rfl ?_ | refine D_ldE rfl (by omega) (by omega) rfl rfl rfl ?_) | (refine gStore ?_; refine V_st0 hp rfl rfl rfl (by omega) (by decide) rfl rfl (by kernel_rfl) ?_; intro w hp; refine D_ops rfl rfl ?_))))
  ·skip
   refine IH (i + 1) _ _ _ _ (by omega) rfl ⟨⟨by omega, by simp; exact hUl, ?_⟩, hp⟩
   rw [ez]
   exact hUs.set hc (by omega) ⟨fun _ => .inl (by omega), fun _ => rfl⟩
  ·skip
   refine IH (i + 1) _ _ _ _ (by omega) rfl ⟨⟨by omega, by simp; exact hUl, ?_⟩, hp⟩
   rw [ez]
   exact hUs.set hc (by omega) ⟨fun h => .inr (of_decide_eq_true h), fun h => decide_eq_true (h.resolve_left (by omega))⟩
 ·obtain rfl : i = (coneL x.n k0).length := by omega
  clear IH
  have hup := hfree UP hUs
  refine h_cond_f rfl rfl ?_; (repeat (refine H_ldB hp rfl rfl ?_))
  refine h_call rfl Try.func13 (by kernel_rfl) rfl (specNodeCount_h x _) ?_; rintro _ w ⟨rfl, hx⟩; have hp := hp.ext hx; refine ops_run nopre rfl ?_; skip
  rw [hcnt]
  refine H_make hp eB false rfl rfl rfl rfl (s := 1) rfl (by decide) rfl (by unfold maxLen; omega) (by show 1 * _ ≤ _; omega) ?_; intro w b13 hx hp; refine ops_run nopre rfl ?_; (repeat (refine H_ldB hp rfl rfl ?_))
  refine h_call rfl Try.func13 (by kernel_rfl) rfl (specNodeCount_h x _) ?_; rintro _ w ⟨rfl, hx⟩; have hp := hp.ext hx; refine ops_run nopre rfl ?_; skip
  rw [hcnt]
  refine H_make hp eI 0 rfl rfl rfl rfl (s := 1) rfl (by decide) rfl (by unfold maxLen; omega) (by show 8 * _ ≤ _; omega) ?_; intro w b14 hx hp; refine ops_run nopre rfl ?_; (repeat (refine U_litI hp rfl rfl rfl rfl rfl rfl rfl rfl rfl rfl ?_; intro w _ hx hp; refine ops_run nopre rfl ?_))
  have hp : Hp w0 _ [rO 3 1 eI _ _ [], rO 3 1 eI (some ⟨b14, 0, none⟩) (nds x.n) (List.replicate (nds x.n) 0), rO 4 1 eB (some ⟨b13, 0, none⟩) (nds x.n) (List.replicate (nds x.n) false), rO 4 1 eB (some ⟨b11, 0, none⟩) (nds x.n) UP, rB b4 28 x.cs] := (hp.f5.f4.f4.f4.f4).tk 5
  refine h_loop3 [4, 11, 13, 14, 15, 16] (fun (i : Nat) (ob : Option Addr) (oc : Nat) => [(4, .pointer (some ⟨b4, 0, none⟩)), (11, .slice (some ⟨b11, 0, none⟩) (nds x.n) (nds x.n)), (13, .slice (some ⟨b13, 0, none⟩) (nds x.n) (nds x.n)), (14, .slice (some ⟨b14, 0, none⟩) (nds x.n) (nds x.n)), (15, .slice ob ([] : List Int).length oc), (16, .int .i64 (i : Int))])
   (fun i ob oc w' => i ≤ fst_ x.n ∧ Hp w0 w' [rO 3 1 eI ob oc [], rO 3 1 eI (some ⟨b14, 0, none⟩) (nds x.n) (List.replicate (nds x.n) 0), rO 4 1 eB (some ⟨b13, 0, none⟩) (nds x.n) (List.replicate (nds x.n) false), rO 4 1 eB (some ⟨b11, 0, none⟩) (nds x.n) UP, rB b4 28 x.cs]) (fun i _ _ => fst_ x.n - i) 0 _ _ rfl ⟨by omega, hp⟩ ?_
  clear hp
  rintro i ob oc w1 ⟨hi, hp⟩ IH C
  refine h_run rfl ?_; (repeat (refine H_ldB hp rfl rfl ?_))
  refine h_call rfl Try.func61 (by kernel_rfl) rfl (l08First_h x _ hok.b) ?_; rintro _ w ⟨rfl, hx⟩; have hp := hp.ext hx; refine ops_run nopre rfl ?_; skip
  refine h_cond_dec (fun hlt => ?_) (fun hlt => ?_)
  ·have hif : ¬ UP.getD i default = true := fun hu => by
    have h1 := (hup i (by omega)).1 hu
    by_cases h0 : i = 0
    ·have h2 : Rch G ⟨fun _ => 0, fun _ _ => 0⟩ i true := .srcT h1
     exact hrn _ (flow_zero G).1 _ _ h2 h0
    ·exact hlfr i (hleaf i h0 (by omega)) h1
   refine h_cond_t rfl rfl ?_; (repeat (refine H_ldEN hp rfl (by omega) rfl rfl ?_))
   refine h_cond_b (fun hb => ?_) (fun hb => ?_)
   ·exact absurd hb hif
   ·refine h_cond_f rfl rfl ?_; skip
    exact IH (i + 1) ob oc _ _ _ (by omega) rfl ⟨by omega, hp⟩
  ·clear IH
   refine h_cond_f rfl rfl ?_; skip
   refine h_loop5 [4, 11, 13, 14, 15, 17] (fun (t : Nat) (U : List Bool) (V : List Int) (ob : Option Addr) (oc : Nat) => [(4, .pointer (some ⟨b4, 0, none⟩)), (11, .slice (some ⟨b11, 0, none⟩) (nds x.n) (nds x.n)), (13, .slice (some ⟨b13, 0, none⟩) (nds x.n) (nds x.n)), (14, .slice (some ⟨b14, 0, none⟩) (nds x.n) (nds x.n)), (15, .slice ob ([] : List Int).length oc), (17, .int .i64 (t : Int))])
    (fun t U V ob oc w' => (t ≤ 5 ∧ U.length = nds x.n ∧ V.length = nds x.n ∧ ∃ par f, FlP G f ∧ f.tot G = (t : Int) ∧ RepM G U V par f none) ∧ Hp w0 w' [rO 3 1 eI ob oc [], rO 3 1 eI (some ⟨b14, 0, none⟩) (nds x.n) V, rO 4 1 eB (some ⟨b13, 0, none⟩) (nds x.n) U, rO 4 1 eB (some ⟨b11, 0, none⟩) (nds x.n) UP, rB b4 28 x.cs])
    (fun t _ _ _ _ => 5 - t) 0 _ _ ob oc rfl ⟨⟨by omega, by simp, by simp, fun _ => 0, _, (flow_zero G).1, (flow_zero G).2, RepM.zero G _ _⟩, hp⟩ ?_
   clear hp
   rintro t U V ob oc w1 ⟨⟨ht, hUl2, hVl, par, f, hf, hft, hr⟩, hp⟩ IH C
   refine h_run rfl ?_; skip
   refine h_cond_dec (fun hlt4 => ?_) (fun hlt4 => ?_)
   ·refine h_cond_t rfl rfl ?_; (repeat (refine H_ldB hp rfl rfl ?_))
    refine h_call rfl Try.func110 (by kernel_rfl) rfl (l17Search_n x G hGN hGo f hf hfl hlf har (hvs f hf) _ _ _ _ _ _ UP U V par _ hp.net hok hp.rd hp.rd hp.rd hUl hUl2 hVl hup hr) ?_; rintro _ w ⟨bs, cs, B, Q, q, at', ⟨rfl, hS, hsrc, hend⟩, hq⟩; have hx := hq.x; have hp := hp.call1 hq; refine ops_run nopre rfl ?_; skip
    have hBl : B.length = 2 * nds x.n := by rw [← hGN]; exact hS.len
    refine h_cond_dec (fun hneg => ?_) (fun hneg => ?_)
    ·have hq : q = Q.length := by
      rcases hend with h1 | ⟨z, h1, _⟩
      ·exact h1.2
      ·omega
     subst hq
     obtain ⟨hP, hN⟩ := hyes f hf (hS.term hGo hf hfl hlfr hsrc) (by omega)
     rw [hcB_yes hP, hcO_yes hP]
     refine h_cond_t rfl rfl ?_; skip
     have hp : Hp w0 _ [rO 3 1 eI ob oc [], rO 3 1 eI bs cs B, rB b4 28 x.cs] := (hp.f5.f1.f2).tk 3
     refine h_loop3 [4, 15, 18, 20] (fun (k : Nat) (ob : Option Addr) (oc : Nat) => [(4, .pointer (some ⟨b4, 0, none⟩)), (15, .slice ob (markedTo (listB (nds x.n) (hcN x.n k0 Lb h)) k).length oc), (18, .slice bs (2 * nds x.n) cs), (20, .int .i64 (k : Int))])
      (fun k ob oc w' => k ≤ nds x.n ∧ Hp w0 w' [rO 3 1 eI ob oc (markedTo (listB (nds x.n) (hcN x.n k0 Lb h)) k), rO 3 1 eI bs cs B, rB b4 28 x.cs]) (fun k _ _ => nds x.n - k) 0 ob oc rfl ⟨by omega, hp⟩ ?_
     clear hp IH
     rintro k ob oc w2 ⟨hk3, hp⟩ IH C
     have hml := markedTo_len (listB (nds x.n) (hcN x.n k0 Lb h)) k
     refine h_run rfl ?_; (repeat (refine H_ldB hp rfl rfl ?_))
     refine h_call rfl Try.func13 (by kernel_rfl) rfl (specNodeCount_h x _) ?_; rintro _ w ⟨rfl, hx⟩; have hp := hp.ext hx; refine ops_run nopre rfl ?_; skip
     rw [hcnt]
     refine h_cond_dec (fun hl2 => ?_) (fun hl2 => ?_)
     ·have hkN : k < nds x.n := by omega
      have hnr := (hN k).trans (hS.near hGo hf hfl hsrc (k := k) (by rw [hGN]; exact hkN))
      have hget : (listB (nds x.n) (hcN x.n k0 Lb h)).getD k default = true ↔ hcN x.n k0 Lb h k := listB_get hkN
      have e1 : (2 * (k : Int)).toNat = 2 * k := by omega
      have e2 : (2 * (k : Int) + 1).toNat = 2 * k + 1 := by omega
      rw [← e2, ← e1] at hnr
      refine h_cond_t rfl rfl ?_; (repeat (refine H_ldE hp rfl (by omega) (by omega) rfl rfl ?_))
      refine h_guard_by (fun h1 => ?_) (fun h1 => ?_); all_goals (rw [h1]; (first | replace h1 := of_decide_eq_true h1 | replace h1 := of_decide_eq_false h1 | skip); (repeat (first | (refine gGuard ?_; first | refine h_guard_y rfl nopre rfl ?_ | refine h_guard_n rfl nopre rfl ?_) | (refine gLoad ?_; refine H_ldE hp rfl (by omega) (by omega) rfl rfl ?_))))
      ·refine h_cond_dec (fun h2 => ?_) (fun h2 => ?_)
       ·have e : markedTo (listB (nds x.n) (hcN x.n k0 Lb h)) (k + 1) = markedTo (listB (nds x.n) (hcN x.n k0 Lb h)) k ++ [(k : Int)] := by rw [markedTo, if_pos (hget.2 (hnr.2 ⟨h1, h2⟩))]
        refine h_cond_t rfl rfl ?_; (repeat (refine U_litI hp rfl rfl rfl rfl rfl rfl rfl rfl rfl rfl ?_; intro w _ hx hp; refine ops_run nopre rfl ?_))
        refine U_append hp rfl rfl rfl rfl rfl rfl rfl (by decide) rfl (by first | omega | (simp only [List.length_append, List.length_cons, List.length_nil, List.length_take, List.length_drop, List.length_set, List.length_replicate, List.length_map]; omega)) rfl rfl ?_; intro ob' oc' w hp hnil; refine ops_run nopre rfl ?_; skip
        refine IH (k + 1) ob' oc' _ _ _ (by omega) (by rw [e]; rfl) ⟨by omega, ?_⟩
        rw [e]
        exact hp.drop
       ·have e : markedTo (listB (nds x.n) (hcN x.n k0 Lb h)) (k + 1) = markedTo (listB (nds x.n) (hcN x.n k0 Lb h)) k := by rw [markedTo, if_neg (fun h3 => h2 (hnr.1 (hget.1 h3)).2)]
        refine h_cond_f rfl rfl ?_; skip
        refine IH (k + 1) ob oc _ _ _ (by omega) (by rw [e]; rfl) ⟨by omega, ?_⟩
        rw [e]
        exact hp
      ·have e : markedTo (listB (nds x.n) (hcN x.n k0 Lb h)) (k + 1) = markedTo (listB (nds x.n) (hcN x.n k0 Lb h)) k := by rw [markedTo, if_neg (fun h3 => h1 (hnr.1 (hget.1 h3)).1)]
       refine h_cond_f rfl rfl ?_; skip
       refine IH (k + 1) ob oc _ _ _ (by omega) (by rw [e]; rfl) ⟨by omega, ?_⟩
       rw [e]
       exact hp
     ·obtain rfl : k = nds x.n := by omega
      clear IH
      refine h_cond_f rfl rfl ?_; (repeat (refine R_ret ?_))
      rw [hcL_to]
      exact ⟨ob, oc, rfl, hp.sub (by simp)⟩
    ·rcases hend with h1 | ⟨z, rfl, hq, hz, hz2, hz3⟩
     ·omega
     have hrz := hS.reach (q + 1) q z (by omega) hq hz
     rw [cv_odd hz2] at hrz
     have hst := PushS.start hf hr hS hq hz hz2 (hleaf _ (hrn f hf _ _ hrz) hz3)
     have hQl : Q.length ≤ 2 * nds x.n := by rw [← hGN]; exact hS.qlen
     refine h_cond_f rfl rfl ?_; skip
     have hp : Hp w0 _ [rO 3 1 eI (some ⟨b14, 0, none⟩) (nds x.n) V, rO 4 1 eB (some ⟨b13, 0, none⟩) (nds x.n) U, rO 3 1 eI ob oc [], rO 3 1 eI bs cs B, rO 4 1 eB (some ⟨b11, 0, none⟩) (nds x.n) UP, rB b4 28 x.cs] := hp.f5.f5.f2.f3.f5.f5
     refine h_loop4 [4, 11, 13, 14, 15, 17, 18, 19] (fun (j : Nat) (a : Int) (U : List Bool) (V : List Int) => [(4, .pointer (some ⟨b4, 0, none⟩)), (11, .slice (some ⟨b11, 0, none⟩) (nds x.n) (nds x.n)), (13, .slice (some ⟨b13, 0, none⟩) (nds x.n) (nds x.n)), (14, .slice (some ⟨b14, 0, none⟩) (nds x.n) (nds x.n)), (15, .slice ob ([] : List Int).length oc), (17, .int .i64 (t : Int)), (18, .slice bs (2 * nds x.n) cs), (19, .int .i64 a)])
      (fun j a U V w' => (U.length = nds x.n ∧ V.length = nds x.n ∧ ((j = 0 ∧ a = -1 ∧ ∃ par f2, FlP G f2 ∧ f2.tot G = f.tot G + 1 ∧ RepM G U V par f2 none) ∨ ∃ z par f2, a = ((z : Nat) : Int) ∧ z < 2 * nds x.n ∧ PushS G f Q U V j z par f2)) ∧ Hp w0 w' [rO 3 1 eI (some ⟨b14, 0, none⟩) (nds x.n) V, rO 4 1 eB (some ⟨b13, 0, none⟩) (nds x.n) U, rO 3 1 eI ob oc [], rO 3 1 eI bs cs B, rO 4 1 eB (some ⟨b11, 0, none⟩) (nds x.n) UP, rB b4 28 x.cs])
      (fun j _ _ _ => j) (q + 1) (z : Int) U V rfl ⟨⟨hUl2, hVl, .inr ⟨z, par, f, rfl, by omega, hst⟩⟩, hp⟩ ?_
     clear hp hst hUl2 hVl hr hrz
     rintro j a U V w2 ⟨⟨hUl2, hVl, hkind⟩, hp⟩ IH2 C
     refine h_run rfl ?_; skip
     refine h_cond_dec (fun hge => ?_) (fun hge => ?_)
     ·obtain ⟨z, par, f2, rfl, hzN, hpu⟩ : ∃ z par f2, a = ((z : Nat) : Int) ∧ z < 2 * nds x.n ∧ PushS G f Q U V j z par f2 := by
       rcases hkind with ⟨_, h1, _⟩ | h1
       ·omega
       ·exact h1
      have hk5 : ((z : Int) / 2).toNat = z / 2 := by omega
      rcases hpu.kind hGo hf hfl hS (by rw [hGN]; exact hUl2) (by rw [hGN]; exact hVl) with ⟨g1, g2, par', f3, g3⟩ | ⟨i, y, g1, g2, hyN, ⟨g3, g4, par', f3, g5⟩ | ⟨g3, g4, par', f3, g5⟩ | ⟨g3, g4, g4', par', f3, g5⟩ | ⟨g3, g4, g4', par', f3, g5⟩⟩
      ·have hj0 := hpu.j0
       refine h_cond_t rfl rfl ?_; (repeat (refine H_ldEN hp rfl (by omega) rfl rfl ?_))
       refine h_guard_by (fun hg => False.elim (by have hg := of_decide_eq_true hg; omega)) (fun hg => ?_); rw [hg]; clear hg; (repeat (refine h_guard_n rfl nopre rfl ?_))
       refine h_cond_f rfl rfl ?_; skip
       refine h_guard_by (fun hg => ?_) (fun hg => False.elim (by have hg := of_decide_eq_false hg; omega)); rw [hg]; clear hg; (repeat (refine h_guard_y rfl nopre rfl ?_))
       refine h_cond_dec (fun hg => False.elim (by omega)) (fun _ => ?_); refine h_cond_f rfl rfl ?_; skip
       refine h_guard_by (fun hg => ?_) (fun hg => False.elim (by have hg := of_decide_eq_false hg; omega)); rw [hg]; clear hg; (repeat (refine h_guard_y rfl nopre rfl ?_))
       refine h_cond_dec (fun _ => ?_) (fun hg => False.elim (by omega)); refine h_cond_t rfl rfl ?_; (repeat (refine U_st0 hp rfl rfl rfl (by omega) (by decide) rfl rfl ?_; intro w hp; refine ops_run nopre rfl ?_))
       refine h_guard_by (fun hg => ?_) (fun hg => False.elim (by have hg := of_decide_eq_false hg; omega)); rw [hg]; clear hg; (repeat (refine h_guard_y rfl nopre rfl ?_))
       refine h_guard_by (fun hg => False.elim (by have hg := of_decide_eq_true hg; omega)) (fun hg => ?_); rw [hg]; clear hg; (repeat (refine h_guard_n rfl nopre rfl ?_))
       refine h_cond_f rfl rfl ?_; skip
       rw [hk5] at hp
       exact IH2 0 _ _ _ _ _ _ (by omega) rfl ⟨⟨hUl2, by rw [List.length_set]; exact hVl, .inl ⟨rfl, g1, par', f3, g3⟩⟩, hp⟩
      ·rw [hGN] at hyN
       refine h_cond_t rfl rfl ?_; (repeat (refine H_ldEN hp rfl (by omega) rfl rfl ?_))
       refine h_guard_by (fun hg => ?_) (fun hg => False.elim (by have hg := of_decide_eq_false hg; omega)); rw [hg]; clear hg; (repeat (refine h_guard_y rfl nopre rfl ?_))
       refine h_cond_dec (fun _ => ?_) (fun hg => False.elim (by omega)); refine h_cond_t rfl rfl ?_; (repeat (refine U_st0 hp rfl rfl rfl (by omega) (by decide) rfl rfl ?_; intro w hp; refine ops_run nopre rfl ?_))
       refine h_guard_by (fun hg => False.elim (by have hg := of_decide_eq_true hg; omega)) (fun hg => ?_); rw [hg]; clear hg; (repeat (refine h_guard_n rfl nopre rfl ?_))
       refine h_cond_f rfl rfl ?_; skip
       refine h_guard_by (fun hg => False.elim (by have hg := of_decide_eq_true hg; omega)) (fun hg => ?_); rw [hg]; clear hg; (repeat (refine h_guard_n rfl nopre rfl ?_))
       refine h_cond_f rfl rfl ?_; skip
       refine h_guard_by (fun hg => False.elim (by have hg := of_decide_eq_true hg; omega)) (fun hg => ?_); rw [hg]; clear hg; (repeat (refine h_guard_n rfl nopre rfl ?_))
       refine h_cond_f rfl rfl ?_; skip
       rw [hk5] at hp
       exact IH2 (i + 1) _ _ _ _ _ _ (by omega) rfl ⟨⟨by rw [List.length_set]; exact hUl2, hVl, .inr ⟨y, par', f3, g2, hyN, g5⟩⟩, hp⟩
      ·rw [hGN] at hyN
       refine h_cond_t rfl rfl ?_; (repeat (refine H_ldEN hp rfl (by omega) rfl rfl ?_))
       refine h_guard_by (fun hg => False.elim (by have hg := of_decide_eq_true hg; omega)) (fun hg => ?_); rw [hg]; clear hg; (repeat (refine h_guard_n rfl nopre rfl ?_))
       refine h_cond_f rfl rfl ?_; skip
       refine h_guard_by (fun hg => ?_) (fun hg => False.elim (by have hg := of_decide_eq_false hg; omega)); rw [hg]; clear hg; (repeat (refine h_guard_y rfl nopre rfl ?_))
       refine h_cond_dec (fun _ => ?_) (fun hg => False.elim (by omega)); refine h_cond_t rfl rfl ?_; (repeat (refine U_st0 hp rfl rfl rfl (by omega) (by decide) rfl rfl ?_; intro w hp; refine ops_run nopre rfl ?_))
       refine h_guard_by (fun hg => ?_) (fun hg => False.elim (by have hg := of_decide_eq_false hg; omega)); rw [hg]; clear hg; (repeat (refine h_guard_y rfl nopre rfl ?_))
       refine h_cond_dec (fun hg => False.elim (by omega)) (fun _ => ?_); refine h_cond_f rfl rfl ?_; skip
       refine h_guard_by (fun hg => ?_) (fun hg => False.elim (by have hg := of_decide_eq_false hg; omega)); rw [hg]; clear hg; (repeat (refine h_guard_y rfl nopre rfl ?_))
       refine h_guard_by (fun hg => ?_) (fun hg => False.elim (by have hg := of_decide_eq_false hg; omega)); rw [hg]; clear hg; (repeat (refine h_guard_y rfl nopre rfl ?_))
       refine h_cond_dec (fun hg => False.elim (by omega)) (fun _ => ?_); refine h_cond_f rfl rfl ?_; skip
       rw [hk5] at hp
       exact IH2 (i + 1) _ _ _ _ _ _ (by omega) rfl ⟨⟨by rw [List.length_set]; exact hUl2, hVl, .inr ⟨y, par', f3, g2, hyN, g5⟩⟩, hp⟩
      ·rw [hGN] at hyN
       have ey : B.getD z default / 2 = ((y / 2 : Nat) : Int) := by omega
       refine h_cond_t rfl rfl ?_; (repeat (refine H_ldEN hp rfl (by omega) rfl rfl ?_))
       refine h_guard_by (fun hg => False.elim (by have hg := of_decide_eq_true hg; omega)) (fun hg => ?_); rw [hg]; clear hg; (repeat (refine h_guard_n rfl nopre rfl ?_))
       refine h_cond_f rfl rfl ?_; skip
       refine h_guard_by (fun hg => ?_) (fun hg => False.elim (by have hg := of_decide_eq_false hg; omega)); rw [hg]; clear hg; (repeat (refine h_guard_y rfl nopre rfl ?_))
       refine h_cond_dec (fun hg => False.elim (by omega)) (fun _ => ?_); refine h_cond_f rfl rfl ?_; skip
       refine h_guard_by (fun hg => ?_) (fun hg => False.elim (by have hg := of_decide_eq_false hg; omega)); rw [hg]; clear hg; (repeat (refine h_guard_y rfl nopre rfl ?_))
       refine h_cond_dec (fun hg => False.elim (by omega)) (fun _ => ?_); refine h_cond_f rfl rfl ?_; skip
       refine h_guard_by (fun hg => ?_) (fun hg => False.elim (by have hg := of_decide_eq_false hg; omega)); rw [hg]; clear hg; (repeat (refine h_guard_y rfl nopre rfl ?_))
       refine h_guard_by (fun hg => ?_) (fun hg => False.elim (by have hg := of_decide_eq_false hg; omega)); rw [hg]; clear hg; (repeat (refine h_guard_y rfl nopre rfl ?_))
       refine h_cond_dec (fun _ => ?_) (fun hg => False.elim (by omega)); refine h_cond_t rfl rfl ?_; (repeat (refine U_st0 hp rfl rfl rfl (by omega) (by decide) rfl rfl ?_; intro w hp; refine ops_run nopre rfl ?_))
       rw [hk5, ey] at hp
       exact IH2 (i + 1) _ _ _ _ _ _ (by omega) rfl ⟨⟨hUl2, by rw [List.length_set]; exact hVl, .inr ⟨y, par', f3, g2, hyN, g5⟩⟩, hp⟩
      ·rw [hGN] at hyN
       refine h_cond_t rfl rfl ?_; (repeat (refine H_ldEN hp rfl (by omega) rfl rfl ?_))
       refine h_guard_by (fun hg => ?_) (fun hg => False.elim (by have hg := of_decide_eq_false hg; omega)); rw [hg]; clear hg; (repeat (refine h_guard_y rfl nopre rfl ?_))
       refine h_cond_dec (fun hg => False.elim (by omega)) (fun _ => ?_); refine h_cond_f rfl rfl ?_; skip
       refine h_guard_by (fun hg => False.elim (by have hg := of_decide_eq_true hg; omega)) (fun hg => ?_); rw [hg]; clear hg; (repeat (refine h_guard_n rfl nopre rfl ?_))
       refine h_cond_f rfl rfl ?_; skip
       refine h_guard_by (fun hg => False.elim (by have hg := of_decide_eq_true hg; omega)) (fun hg => ?_); rw [hg]; clear hg; (repeat (refine h_guard_n rfl nopre rfl ?_))
       refine h_cond_f rfl rfl ?_; skip
       refine h_guard_by (fun hg => False.elim (by have hg := of_decide_eq_true hg; omega)) (fun hg => ?_); rw [hg]; clear hg; (repeat (refine h_guard_n rfl nopre rfl ?_))
       refine h_cond_f rfl rfl ?_; skip
       exact IH2 (i + 1) _ _ _ _ _ _ (by omega) rfl ⟨⟨hUl2, hVl, .inr ⟨y, par', f3, g2, hyN, g5⟩⟩, hp⟩
     ·obtain ⟨par, f2, d1, d2, d3⟩ : ∃ par f2, FlP G f2 ∧ f2.tot G = f.tot G + 1 ∧ RepM G U V par f2 none := by
       rcases hkind with ⟨_, _, h1⟩ | ⟨z, _, _, h1, _⟩
       ·exact h1
       ·omega
      clear IH2
      refine h_cond_f rfl rfl ?_; skip
      exact IH (t + 1) U V ob oc _ _ _ (by omega) rfl ⟨⟨by omega, hUl2, hVl, par, f2, d1, by rw [d2, hft]; rfl, d3⟩, (hp.f5.f5.f3.f3.f4).tk 5⟩
   ·obtain rfl : t = 5 := by omega
    clear IH
    have hP := hno f hf (by omega)
    rw [hcB_no hP, hcO_no hP]
    refine h_cond_f rfl rfl ?_; (repeat (refine R_ret ?_))
    exact ⟨ob, oc, rfl, hp.sub (by simp)⟩
end Go.Proofs
