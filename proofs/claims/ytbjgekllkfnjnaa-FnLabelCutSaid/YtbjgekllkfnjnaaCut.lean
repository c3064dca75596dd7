/- The contracts of the functions that tell whether a list is a cut of a node; each under its stated conditions. -/
import Derived.Test.YtbjgekllkfnjnaaHashed
import Derived.Test.YtbjgekllkfnjnaaFam
import Derived.Test.YtbjgekllkfnjnaaCutLaw
set_option linter.all false
namespace Go.Proofs
open Go.Xw
set_option maxRecDepth 100000
set_option maxHeartbeats 1000000
attribute [local irreducible] Holds elemAddr
theorem bset_mono' {B : List Bool} {i k : Nat} (h : B.getD k default = true) : (B.set i true).getD k default = true := by
 by_cases hi : i < B.length
 ·exact (bget_set hi).2 (.inr h)
 ·rw [List.set_eq_of_length_le (by omega)]; exact h
theorem mem_getD_iff {xs : List Int} {x : Int} : x ∈ xs ↔ ∃ i, i < xs.length ∧ xs.getD i default = x := by
 constructor
 ·intro h
  obtain ⟨i, hi, rfl⟩ := List.mem_iff_getElem.1 h
  exact ⟨i, hi, by simp [List.getD_eq_getElem?_getD, hi]⟩
 ·rintro ⟨i, hi, rfl⟩; exact getD_mem hi
theorem hasInt_h (a : Option Addr) (c m : Nat) (xs : List Int) (hm : xs.length = m) (x : Int) (w0 : World) (hR : Rd w0 a 1 eI xs) (hl : m ≤ 1000000000) :
  Ret Try.prog 98 [.slice a m c, .int .i64 x] w0 (fun v w' => v = .bool (decide (x ∈ xs)) ∧ Ext w0 w') := by
 subst hm
 refine enter Try.S98ok _ _ rfl rfl (by show _ ≤ _; simp only [List.length]; decide) (fun C => ?_); have hp := Hp.nil w0; refine h_run rfl ?_; skip
 refine h_loop [1, 7, 8, 9] (fun i : Nat => [(1, .int .i64 x), (7, .slice a xs.length c), (8, .int .i64 xs.length), (9, .int .i64 (i : Int))])
  (fun i w' => i ≤ xs.length ∧ (∀ j, j < i → xs.getD j default ≠ x) ∧ Hp w0 w' []) (fun i => xs.length - i) 0 rfl ⟨by omega, fun j hj => by omega, hp⟩ ?_
 rintro i w1 ⟨hi, hne, hp⟩ IH C
 refine h_run rfl ?_; skip
 refine h_cond_dec (fun hlt => ?_) (fun hlt => ?_)
 ·have hlt' : i < xs.length := by omega
  refine h_cond_t rfl rfl ?_; (repeat (refine H_ldEN hp rfl (by omega) rfl rfl ?_))
  refine h_cond_dec (fun he => ?_) (fun he => ?_)
  ·refine h_cond_t rfl rfl ?_; (repeat (refine R_ret ?_))
   exact ⟨by rw [decide_eq_true (mem_getD_iff.2 ⟨i, hlt', by first | exact he | exact he.symm⟩)], hp.x⟩
  ·refine h_cond_f rfl rfl ?_; skip
   refine IH (i + 1) _ _ _ (by omega) rfl ⟨by omega, fun j hj => ?_, hp⟩
   by_cases hj2 : j < i
   ·exact hne j hj2
   ·obtain rfl : j = i := by omega
    first | exact he | exact fun h => he h.symm
 ·refine h_cond_f rfl rfl ?_; (repeat (refine R_ret ?_))
  exact ⟨by rw [decide_eq_false (fun h => by obtain ⟨j, h1, h2⟩ := mem_getD_iff.1 h; exact hne j (by omega) h2)], hp.x⟩
theorem strictlyAscending_h (a : Option Addr) (c m : Nat) (xs : List Int) (hm : xs.length = m) (w0 : World) (hR : Rd w0 a 1 eI xs) (hl : m ≤ 1000000000) :
  Ret Try.prog 96 [.slice a m c] w0 (fun v w' => v = .bool (pB (Asc xs)) ∧ Ext w0 w') := by
 subst hm
 refine enter Try.S96ok _ _ rfl rfl (by show _ ≤ _; simp only [List.length]; decide) (fun C => ?_); have hp := Hp.nil w0; refine h_run rfl ?_; skip
 refine h_loop [0, 3] (fun i : Nat => [(0, .slice a xs.length c), (3, .int .i64 (i : Int))])
  (fun i w' => 1 ≤ i ∧ (∀ j, 1 ≤ j → j < i → j < xs.length → xs.getD (j - 1) default < xs.getD j default) ∧ Hp w0 w' []) (fun i => xs.length - i) 1 rfl ⟨by omega, fun j h1 hj => by omega, hp⟩ ?_
 rintro i w1 ⟨hi, hall, hp⟩ IH C
 have hz : ((i : Int) - 1).toNat = i - 1 := by omega
 refine h_run rfl ?_; skip
 refine h_cond_dec (fun hlt => ?_) (fun hlt => ?_)
 ·have hlt' : i < xs.length := by omega
  refine h_cond_t rfl rfl ?_; skip
  refine D_draw hp (by kernel_rfl) (by kernel_rfl) rfl rfl ?_; intro w hx hp; have hs := hp; (repeat (refine gLoad ?_; first | refine D_ldEN rfl (by omega) rfl rfl rfl ?_ | refine D_ldE rfl (by omega) (by omega) rfl rfl rfl ?_))
  refine h_cond_dec (fun he => ?_) (fun he => ?_)
  ·rw [hz] at he
   refine h_cond_t rfl rfl ?_; (repeat (refine R_ret ?_))
   exact ⟨by rw [pB_no' (fun h => by have := asc_get.2 h i hi hlt'; omega)], hp.x⟩
  ·rw [hz] at he
   refine h_cond_f rfl rfl ?_; skip
   refine IH (i + 1) _ _ _ (by omega) rfl ⟨by omega, fun j h1 hj h2 => ?_, hp⟩
   by_cases hj2 : j < i
   ·exact hall j h1 hj2 h2
   ·obtain rfl : j = i := by omega
    omega
 ·refine h_cond_f rfl rfl ?_; (repeat (refine R_ret ?_))
  exact ⟨by rw [pB_iff.2 (asc_get.1 fun j h1 h2 => hall j h1 (by omega) h2)], hp.x⟩
theorem escapes_h (x : NetA) {w0 : World} (hX : NetR w0 x) (hok : NetOkP x.n) (ca : Option Addr) (cc : Nat) (cut : List Int) (hcl : cut.length ≤ 1000000) (a : Option Addr) (c : Nat) : ∀ (k : Nat), k < nds x.n → ∀ (w : World) (L : List Res) (B : List Bool), RdH w0 L ca 1 eI cut → Hp w0 w (rO 4 1 eB a c B :: L) → B.length = nds x.n → ECl x.n cut B k →
  Ret Try.prog 99 [x.v, .int .i64 (k : Int), .slice ca cut.length cc, .slice a (nds x.n) c] w (fun v w' => ∃ b B', v = .bool b ∧ EOut x.n cut B k b B' ∧ Hp w0 w' (rO 4 1 eB a c B' :: L)) := by
 have hn := hok.nums
 obtain ⟨n1, n2, n3, n4, n5, n6⟩ := hn
 have hn := hok.nums
 have hnd := hok.nodes
 have hal : x.n.ands.length = x.ands.length := rfl
 intro k
 induction k using Nat.strongRecOn with
 | _ k ih =>
 intro hk w L B hT hp hBl hcl2
 refine enter Try.S99ok _ _ rfl rfl (by show _ ≤ _; simp only [List.length]; decide) (fun C => ?_); refine h_run rfl ?_; skip
 (first | refine H_box hp ?_ | refine H_alloc hp rfl ?_); intro w b4 hx hp; refine ops_run nopre rfl ?_; skip
 refine h_guard_by (fun h1 => ?_) (fun h1 => ?_); all_goals (rw [h1]; (first | replace h1 := of_decide_eq_true h1 | replace h1 := of_decide_eq_false h1 | skip); (repeat (first | (refine gGuard ?_; first | refine h_guard_y rfl nopre rfl ?_ | refine h_guard_n rfl nopre rfl ?_) | (refine gLoad ?_; refine H_ldEN hp rfl (by omega) rfl rfl ?_))))
 ·refine h_cond_t rfl rfl ?_; (repeat (refine R_ret ?_))
  exact ⟨false, B, rfl, .stop hcl2 (.inl (by omega)), hp.drop⟩
 ·refine h_guard_by (fun h2 => ?_) (fun h2 => ?_); all_goals (rw [h2]; (first | replace h2 := of_decide_eq_true h2 | replace h2 := of_decide_eq_false h2 | skip); (repeat (refine gGuard ?_; first | refine h_guard_y rfl nopre rfl ?_ | refine h_guard_n rfl nopre rfl ?_)))
  ·refine h_cond_t rfl rfl ?_; (repeat (refine R_ret ?_))
   exact ⟨false, B, rfl, .stop hcl2 (.inr (.inr h2)), hp.drop⟩
  ·by_cases h3 : (k : Int) ∈ cut
   ·refine h_call rfl Try.func98 (by kernel_rfl) rfl ((hasInt_h _ _ _ cut rfl (k : Int) _ hp.rd (by omega)).yes h3) ?_; rintro _ w ⟨rfl, hx⟩; have hp := hp.ext hx; refine ops_run nopre rfl ?_; skip
    refine h_cond_t rfl rfl ?_; (repeat (refine R_ret ?_))
    exact ⟨false, B, rfl, .stop hcl2 (.inr (.inl h3)), hp.drop⟩
   ·refine h_call rfl Try.func98 (by kernel_rfl) rfl ((hasInt_h _ _ _ cut rfl (k : Int) _ hp.rd (by omega)).no h3) ?_; rintro _ w ⟨rfl, hx⟩; have hp := hp.ext hx; refine ops_run nopre rfl ?_; skip
    refine h_cond_f rfl rfl ?_; (repeat (first | (refine gLoad ?_; refine H_ldB hp rfl rfl ?_) | (refine gStore ?_; refine U_st0N hp rfl rfl rfl (by omega) (by decide) rfl rfl ?_; intro w hp; refine ops_run nopre rfl ?_)))
    refine h_call rfl Try.func46 (by kernel_rfl) rfl (isAnd_h x k _ hok.b) ?_; rintro _ w ⟨rfl, hx⟩; have hp := hp.ext hx; refine ops_run nopre rfl ?_; skip
    have hBk : (B.set k true).getD k default = true := (bget_set (by omega)).2 (.inl rfl)
    refine h_cond_ndec (fun hA => ?_) (fun hA => ?_)
    ·refine h_cond_t rfl rfl ?_; (repeat (refine R_ret ?_))
     exact ⟨true, _, rfl, ⟨by simp, fun _ => ⟨k, .refl, h3, by omega, by omega⟩, fun h => (by cases h), fun h => (by cases h), fun h => (by cases h), fun h => (by cases h)⟩, hp.drop⟩
    ·have hi : k - fst_ x.n < x.ands.length := by omega
     have hki : fst_ x.n + (k - fst_ x.n) = k := by omega
     have hz : ((k : Int) - firstAndL x.n).toNat = k - fst_ x.n := by omega
     have Q := hok.and_ hi
     have Q' := Q
     rw [← hz] at Q'
     obtain ⟨Q1, Q2, Q3, Q4⟩ := Q
     obtain ⟨Q1', Q2', Q3', Q4'⟩ := Q'
     have ka := n5 _ hi
     have kb := n6 _ hi
     have eA : ((kA x.n (k - fst_ x.n) : Nat) : Int) = (x.ands.getD (k - fst_ x.n) default).1 / 2 := Int.toNat_of_nonneg (show 0 ≤ (x.ands.getD (k - fst_ x.n) default).1 / 2 by omega)
     have eB' : ((kB x.n (k - fst_ x.n) : Nat) : Int) = (x.ands.getD (k - fst_ x.n) default).2 / 2 := Int.toNat_of_nonneg (show 0 ≤ (x.ands.getD (k - fst_ x.n) default).2 / 2 by omega)
     have oA : Opn x.n cut k (kA x.n (k - fst_ x.n)) := by have := Opn.left (n := x.n) (cut := cut) (r := k) hi (by rw [hki]; exact .refl) (by rw [hki]; exact h3); exact this
     have oB : Opn x.n cut k (kB x.n (k - fst_ x.n)) := by have := Opn.right (n := x.n) (cut := cut) (r := k) hi (by rw [hki]; exact .refl) (by rw [hki]; exact h3); exact this
     have m1 := hcl2.mark (m := kA x.n (k - fst_ x.n)) (by omega : k < B.length) (by omega)
     have m2 := hcl2.mark (m := kB x.n (k - fst_ x.n)) (by omega : k < B.length) (by omega)
     have m3 := hcl2.mark (m := k - 1) (by omega : k < B.length) (by omega)
     refine h_cond_f rfl rfl ?_; skip
     refine N_draw hp (by kernel_rfl) (by kernel_rfl) rfl rfl ?_; (repeat (refine N_ldB rfl rfl rfl ?_))
     refine N_call Try.func91 (by kernel_rfl) rfl (fun F w hp => ?_); refine Ret.mono (firstAnd_h x _ hok.b) ?_; rintro _ w ⟨rfl, hx⟩; have hp := hp.ext hx; refine ⟨fun _ => hp.sub (by (repeat (first | exact List.sublist_append_left _ _ | apply List.Sublist.cons))), _, hp, ?_⟩; clear hp; refine N_ops rfl rfl ?_; (repeat (refine N_ldE rfl (by omega) (by omega) rfl rfl rfl ?_))
     (first | refine N_box ?_ | refine N_alloc rfl ?_); intro b9; refine N_ops rfl rfl ?_; (repeat (refine N_stBN rfl rfl rfl rfl (by kernel_rfl) ?_; refine N_ops rfl rfl ?_))
     refine N_end ?_; intro w hp C; refine h_run rfl ?_; (repeat (refine H_ldB hp rfl rfl ?_))
     refine gCall ?_
     rw [hz, ← eA]
     refine h_call rfl Try.func99 (by kernel_rfl) rfl (ih _ (by omega) (by omega) _ _ _ inferInstance (hp.f1.f1.f2) (by simp; omega) m1) ?_; rintro _ w ⟨r1, B1, rfl, o1, hp⟩; refine ops_run nopre rfl ?_; skip
     refine h_guard_by (fun hr1 => ?_) (fun hr1 => ?_); all_goals (rw [hr1]; (first | replace hr1 := of_decide_eq_true hr1 | replace hr1 := of_decide_eq_false hr1 | skip); (repeat (first | (refine gGuard ?_; first | refine h_guard_y rfl nopre rfl ?_ | refine h_guard_n rfl nopre rfl ?_) | (refine gLoad ?_; refine H_ldB hp rfl rfl ?_) | refine R_ret ?_)))
     ·subst hr1
      skip
      exact ⟨true, B1, rfl, ⟨by rw [o1.len]; simp, fun _ => (o1.yes rfl).trans oA, fun h => (by cases h), fun h => (by cases h), fun h => (by cases h), fun h => (by cases h)⟩, hp.f1.drop.f1.drop⟩
     ·subst hr1
      have hB1l : B1.length = nds x.n := by rw [o1.len]; simp; omega
      refine gCall ?_
      rw [hz, ← eB']
      refine h_call rfl Try.func99 (by kernel_rfl) rfl (ih _ (by omega) (by omega) _ _ _ inferInstance hp hB1l (m2.after o1)) ?_; rintro _ w ⟨r2, B2, rfl, o2, hp⟩; refine ops_run nopre rfl ?_; (repeat (refine R_ret ?_))
      refine ⟨r2, B2, rfl, ?_, hp.f1.drop.f1.drop⟩
      cases r2 with
      | true => exact ⟨by rw [o2.len, o1.len]; simp, fun _ => (o2.yes rfl).trans oB, fun h => (by cases h), fun h => (by cases h), fun h => (by cases h), fun h => (by cases h)⟩
      | false =>
       have hup : ∀ j, (B.set k true).getD j default = true → B2.getD j default = true := fun j h => o2.up rfl j (o1.up rfl j h)
       have m4 := (m3.after o1).after o2
       refine ⟨by rw [o2.len, o1.len]; simp, fun h => (by cases h), fun _ j h => hup j (bset_mono' h), fun _ j hj h => ?_, fun _ j hj hjn h => ?_, fun _ => .inr (.inr (hup k hBk))⟩
       ·exact ((bget_set (by omega)).1 (o1.ab rfl j (by omega) (o2.ab rfl j (by omega) h))).resolve_left (by omega)
       ·by_cases hjk : j = k
        ·subst hjk
         refine ⟨by omega, h3, fun i he => ?_⟩
         obtain rfl : i = j - fst_ x.n := by omega
         exact ⟨(o1.root rfl).imp id fun h => h.imp id fun h => o2.up rfl _ h, o2.root rfl⟩
        ·exact m4 j (by omega) hjn h
theorem escapes_F (x : NetA) {w0 : World} (hX : NetR w0 x) (hok : NetOkP x.n) (ca : Option Addr) (cc : Nat) (cut : List Int) (hcl : cut.length ≤ 1000000) (a : Option Addr) (c : Nat) (k : Nat) (hk : k < nds x.n) (w : World) (L F : List Res) (B : List Bool) (hT : RdH w0 (L ++ F) ca 1 eI cut) (hp : Hp w0 w ((rO 4 1 eB a c B :: L) ++ F)) (hB : B.length = nds x.n) (hE : ECl x.n cut B k) :
  Ret Try.prog 99 [x.v, .int .i64 (k : Int), .slice ca cut.length cc, .slice a (nds x.n) c] w (fun v w' => ∃ b B', v = .bool b ∧ EOut x.n cut B k b B' ∧ Hp w0 w' ((rO 4 1 eB a c B' :: L) ++ F)) :=
 escapes_h x hX hok ca cc cut hcl a c k hk w (L ++ F) B hT hp hB hE
theorem cutOk_h (x : NetA) (k : Nat) (ca : Option Addr) (cc : Nat) (cut : List Int) (w0 : World) (hX : NetR w0 x) (hok : NetOkP x.n) (hk : k < nds x.n) (hR : Rd w0 ca 1 eI cut) (hcl : cut.length ≤ 1048576) :
  Ret Try.prog 50 [x.v, .int .i64 (k : Int), .slice ca cut.length cc] w0 (fun v w => v = .bool (pB (cutP x.n k cut)) ∧ Ext w0 w) := by
 have hn := hok.nums
 have hnd := hok.nodes
 have n4 := hn.n2
 refine enter Try.S50ok _ _ rfl rfl (by show _ ≤ _; simp only [List.length]; decide) (fun C => ?_); have hp := Hp.nil w0; refine h_run rfl ?_; skip; (first | refine H_box hp ?_ | refine H_alloc hp rfl ?_); intro w b3 hx hp; refine ops_run nopre rfl ?_; skip
 refine h_guard_by (fun h1 => ?_) (fun h1 => ?_); all_goals (rw [h1]; (first | replace h1 := of_decide_eq_true h1 | replace h1 := of_decide_eq_false h1 | skip); (repeat (refine gGuard ?_; first | refine h_guard_y rfl nopre rfl ?_ | refine h_guard_n rfl nopre rfl ?_)))
 ·refine h_cond_t rfl rfl ?_; (repeat (refine R_ret ?_))
  exact ⟨by rw [pB_no' (fun h => by have := h.1.1; omega)], hp.x⟩
 ·by_cases hA : Asc cut
  ·refine h_call rfl Try.func96 (by kernel_rfl) rfl ((strictlyAscending_h _ _ _ cut rfl _ hp.rd (by omega)).tt (pB_iff.2 hA)) ?_; rintro _ w ⟨rfl, hx⟩; have hp := hp.ext hx; refine ops_run nopre rfl ?_; (repeat (refine h_guard_y rfl nopre rfl ?_))
   refine h_cond_f rfl rfl ?_; (repeat (refine H_ldB hp rfl rfl ?_))
   refine h_call rfl Try.func97 (by kernel_rfl) rfl (cone_h x k _ hp.net hok hk) ?_; rintro _ w ⟨b7, c7, rfl, hq⟩; have hx := hq.x; have hp := hp.call1 hq; refine ops_run nopre rfl ?_; skip
   have hclen := coneL_len x.n k
   refine h_loop [1, 2, 3, 7, 21, 22, 23] (fun i : Nat => [(1, .int .i64 (k : Int)), (2, .slice ca cut.length cc), (3, .pointer (some ⟨b3, 0, none⟩)), (7, .slice b7 (coneL x.n k).length c7), (21, .slice ca cut.length cc), (22, .int .i64 cut.length), (23, .int .i64 (i : Int))])
    (fun i w' => i ≤ cut.length ∧ (∀ j, j < i → cut.getD j default ∈ coneL x.n k) ∧ Hp w0 w' [rO 3 1 eI b7 c7 (coneL x.n k), rB b3 28 x.cs]) (fun i => cut.length - i) 0 rfl ⟨by omega, fun j hj => by omega, hp⟩ ?_
   rintro i w1 ⟨hi, hall, hp⟩ IH C
   refine h_run rfl ?_; skip
   refine h_cond_dec (fun hlt => ?_) (fun hlt => ?_)
   ·have hlt' : i < cut.length := by omega
    refine h_cond_t rfl rfl ?_; (repeat (refine H_ldEN hp rfl (by omega) rfl rfl ?_))
    by_cases hm : cut.getD i default ∈ coneL x.n k
    ·refine h_call rfl Try.func98 (by kernel_rfl) rfl ((hasInt_h _ _ _ (coneL x.n k) rfl (cut.getD i default) _ hp.rd (by omega)).yes hm) ?_; rintro _ w ⟨rfl, hx⟩; have hp := hp.ext hx; refine ops_run nopre rfl ?_; skip
     refine h_cond_f rfl rfl ?_; skip
     refine IH (i + 1) _ _ _ (by omega) rfl ⟨by omega, fun j hj => ?_, hp⟩
     by_cases hj2 : j < i
     ·exact hall j hj2
     ·obtain rfl : j = i := by omega
      exact hm
    ·refine h_call rfl Try.func98 (by kernel_rfl) rfl ((hasInt_h _ _ _ (coneL x.n k) rfl (cut.getD i default) _ hp.rd (by omega)).no hm) ?_; rintro _ w ⟨rfl, hx⟩; have hp := hp.ext hx; refine ops_run nopre rfl ?_; skip
     refine h_cond_t rfl rfl ?_; (repeat (refine R_ret ?_))
     exact ⟨by rw [pB_no' (fun h => hm (h.2.1 _ (getD_mem hlt')))], hp.x⟩
   ·refine h_cond_f rfl rfl ?_; skip
    obtain rfl : i = cut.length := by omega
    have hall' : ∀ c, c ∈ cut → c ∈ coneL x.n k := mem_iff_getD.2 hall
    refine N_draw hp (by kernel_rfl) (by kernel_rfl) rfl rfl ?_; (repeat (refine N_ldB rfl rfl rfl ?_))
    refine N_pc Try.func49 (by kernel_rfl) rfl (fun w hp => nodeCount_h x _ hok.b) (by rw [nodesL_eq]; rfl) ?_; refine N_ops rfl rfl ?_; skip
    rw [← n4]
    refine N_make eB false rfl rfl rfl rfl (s := 1) rfl (by decide) (by infer_instance) rfl (by unfold maxLen; omega) (by show 1 * _ ≤ _; omega) ?_; intro b37; refine N_ops rfl rfl ?_; skip
    have hE0 : ECl x.n cut (List.replicate (nds x.n) false) k := fun j _ _ h => by
     simp only [List.getD_eq_getElem?_getD, List.getElem?_replicate] at h; split at h <;> simp at h
    refine N_call Try.func99 (by kernel_rfl) rfl (fun F w hp => ?_); refine Ret.mono (escapes_F x hX hok ca cc cut (by omega) (some ⟨b37, 0, none⟩) (nds x.n) k hk _ _ _ _ inferInstance hp (by simp) hE0) ?_; rintro _ w ⟨r1, B1, rfl, o1, hp⟩; refine ⟨fun hq => Bool.noConfusion (hq.symm.trans (by kernel_rfl : flagAt _ _ = false)), _, hp, ?_⟩; clear hp; refine N_ops rfl rfl ?_; skip
    refine N_end ?_; intro w hp C; refine h_run rfl ?_; (repeat (refine R_ret ?_))
    cases r1 with
    | true => exact ⟨by rw [pB_no' (fun h => h.2.2 (o1.yes rfl))]; rfl, hp.x⟩
    | false => exact ⟨by rw [pB_iff.2 ⟨⟨by omega, hA⟩, hall', o1.done hn hk⟩]; rfl, hp.x⟩
  ·refine h_call rfl Try.func96 (by kernel_rfl) rfl ((strictlyAscending_h _ _ _ cut rfl _ hp.rd (by omega)).ff (pB_no' hA)) ?_; rintro _ w ⟨rfl, hx⟩; have hp := hp.ext hx; refine ops_run nopre rfl ?_; (repeat (refine h_guard_y rfl nopre rfl ?_))
   refine h_cond_t rfl rfl ?_; (repeat (refine R_ret ?_))
   exact ⟨by rw [pB_no' (fun h => hA h.1.2)], hp.x⟩
theorem implCutOk_x (x : NetA) (k : Int) (a : Option Addr) (c : Nat) (cut : List Int) (w0 : World) (hX : NetR w0 x) (hS : NetS x.n) (hW : NetW x.n) (hK : i64R k) (hR : Rd w0 a 1 eI cut) (hL : cut.length ≤ 1048576) (hV : ∀ i, i < cut.length → i64R (cut.getD i default)) :
  Ret Try.prog 15 [x.v, .int .i64 k, .slice a cut.length c] w0 (fun v w => v = .bool (cutOkB x.n k cut) ∧ Ext w0 w) := by
 refine enter Try.S15ok _ _ rfl rfl (by show _ ≤ _; simp only [List.length]; decide) (fun C => ?_); have hp := Hp.nil w0; refine h_run rfl ?_; skip; (first | refine H_box hp ?_ | refine H_alloc hp rfl ?_); intro w b3 hx hp; refine ops_run nopre rfl ?_; (repeat (refine H_ldB hp rfl rfl ?_))
 by_cases hok : NetOkP x.n
 ·have hn := hok.nums
  have hnd := hok.nodes
  have n4 := hn.n2
  refine h_call rfl Try.func43 (by kernel_rfl) rfl ((implNetOk_h x _ hp.net hS).tt (netOkB_yes hok)) ?_; rintro _ w ⟨rfl, hx⟩; have hp := hp.ext hx; refine ops_run nopre rfl ?_; (repeat (first | (refine gGuard ?_; refine h_guard_y rfl nopre rfl ?_) | (refine gLoad ?_; refine H_ldB hp rfl rfl ?_)))
  refine h_call rfl Try.func49 (by kernel_rfl) rfl (nodeCount_h x _ hok.b) ?_; rintro _ w ⟨rfl, hx⟩; have hp := hp.ext hx; refine ops_run nopre rfl ?_; (repeat (refine h_guard_y rfl nopre rfl ?_))
  by_cases hk : 0 ≤ k ∧ k ≤ nodesL x.n - 1
  ·obtain ⟨k', rfl⟩ := Int.eq_ofNat_of_zero_le hk.1
   refine h_call rfl Try.func48 (by kernel_rfl) rfl ((inRange_h (k' : Int) 0 (nodesL x.n - 1) _).yes hk) ?_; rintro _ w ⟨rfl, hx⟩; have hp := hp.ext hx; refine ops_run nopre rfl ?_; (repeat (first | (refine gGuard ?_; refine h_guard_y rfl nopre rfl ?_) | (refine gLoad ?_; refine H_ldB hp rfl rfl ?_)))
   refine h_call rfl Try.func50 (by kernel_rfl) rfl (cutOk_h x k' _ _ cut _ hp.net hok (by omega) hp.rd hL) ?_; rintro _ w ⟨rfl, hx⟩; have hp := hp.ext hx; refine ops_run nopre rfl ?_; (repeat (refine R_ret ?_))
   refine ⟨?_, hp.x⟩
   congr 1
   by_cases hc : cutP x.n k' cut
   ·rw [cutOkB_yes ⟨hok, ⟨hk.1, by omega⟩, hc⟩, pB_iff.2 hc]
   ·rw [cutOkB_no (fun h => hc h.2.2), pB_no' hc]
  ·refine h_call rfl Try.func48 (by kernel_rfl) rfl ((inRange_h k 0 (nodesL x.n - 1) _).no hk) ?_; rintro _ w ⟨rfl, hx⟩; have hp := hp.ext hx; refine ops_run nopre rfl ?_; (repeat (first | (refine gGuard ?_; refine h_guard_n rfl nopre rfl ?_) | refine R_ret ?_))
   exact ⟨by rw [cutOkB_no (fun h => hk ⟨h.2.1.1, by have := h.2.1.2; omega⟩)], hp.x⟩
 ·refine h_call rfl Try.func43 (by kernel_rfl) rfl ((implNetOk_h x _ hp.net hS).ff (netOkB_no hok)) ?_; rintro _ w ⟨rfl, hx⟩; have hp := hp.ext hx; refine ops_run nopre rfl ?_; (repeat (first | (refine gGuard ?_; refine h_guard_n rfl nopre rfl ?_) | refine R_ret ?_))
  exact ⟨by rw [cutOkB_no (fun h => hok h.1)], hp.x⟩
end Go.Proofs
