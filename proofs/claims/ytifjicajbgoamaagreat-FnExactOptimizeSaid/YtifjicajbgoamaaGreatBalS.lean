/- The contracts of the reference's Balance; each under its stated conditions. -/
import Derived.Test.YtifjicajbgoamaaGreatBal
import Derived.Test.YtifjicajbgoamaaGreatBalB
set_option linter.all false
namespace Go.Proofs
open Go.Xw
set_option maxRecDepth 100000
set_option maxHeartbeats 1000000
attribute [local irreducible] Holds elemAddr
def outB (V X : List Int) (x : Int) (d : Bool) (i : Nat) : List Int := match d with
 | true => insT V (X.take i) x
 | false => X.take i
theorem outB_len (V X : List Int) (x : Int) (d : Bool) (i : Nat) : (outB V X x d i).length ≤ X.length + 1 := by
 cases d
 ·show (X.take i).length ≤ _
  rw [List.length_take]; omega
 ·show (insT V (X.take i) x).length ≤ _
  rw [insT_len, List.length_take]; omega
theorem l12Insert_h (la : Option Addr) (lc m : Nat) (V : List Int) (hm : V.length = m) (a : Option Addr) (c n : Nat) (X : List Int) (hn : X.length = n) (x : Int) (w0 : World) (hV : Rd w0 la 1 eI V) (hX : Rd w0 a 1 eI X)
  (hx : 0 ≤ x ∧ x / 2 < m ∧ x ≤ 1000000) (hXb : ∀ l, l ∈ X → 0 ≤ l ∧ l / 2 < m ∧ l ≤ 1000000) (hnb : n ≤ 1000000) :
  Ret Tryz.prog 104 [.slice a n c, .slice la m lc, .int .i64 x] w0 (fun v w' => ∃ a' c', v = .slice a' (insB V X x).length c' ∧ Hp w0 w' [rO 3 1 eI a' c' (insB V X x)]) := by
 subst hn
 subst hm
 have hob := outB_len V X x
 refine enter Tryz.S104ok _ _ rfl rfl (by show _ ≤ _; simp only [List.length]; decide) (fun C => ?_); have hp := Hp.nil w0; refine h_run rfl ?_; (repeat (refine U_litI hp rfl rfl rfl rfl rfl rfl rfl rfl rfl rfl ?_; intro w _ hx hp; refine ops_run nopre rfl ?_))
 refine h_loop4 [0, 1, 2, 7, 8, 9] (fun (i : Nat) (d : Bool) (b : Option Addr) (cc : Nat) => [(0, .slice a X.length c), (1, .slice la V.length lc), (2, .int .i64 x), (7, .slice b (outB V X x d i).length cc), (8, .bool d), (9, .int .i64 (i : Int))])
  (fun i d b cc w' => (i ≤ X.length ∧ (∀ j, j < i → X.getD j default ≠ x) ∧ (d = false → ∀ j, j < i → ltB V (X.getD j default) x) ∧ (d = true → ∃ j, j < i ∧ ¬ ltB V (X.getD j default) x)) ∧ Hp w0 w' [rO 3 1 eI b cc (outB V X x d i)]) (fun i _ _ _ => X.length - i) 0 false _ _ rfl ⟨⟨by omega, fun j hj => by omega, fun _ j hj => by omega, fun h => by cases h⟩, hp⟩ ?_
 clear hp
 rintro i d b cc w1 ⟨⟨hi, hne, hd0, hd1⟩, hp⟩ IH C
 have hol := hob d i
 refine h_run rfl ?_; skip
 refine h_cond_dec (fun hlt => ?_) (fun hlt => ?_)
 ·have hlt' : i < X.length := by omega
  have hxi := hXb _ (getD_mem hlt')
  refine h_cond_t rfl rfl ?_; (repeat (refine H_ldEN hp rfl (by omega) rfl rfl ?_))
  refine h_cond_dec (fun he => ?_) (fun he => ?_)
  ·refine h_cond_t rfl rfl ?_; (repeat (refine U_litI hp rfl rfl rfl rfl rfl rfl rfl rfl rfl rfl ?_; intro w _ hx hp; refine ops_run nopre rfl ?_))
   refine U_append hp rfl rfl rfl rfl rfl rfl rfl (by decide) rfl (by first | omega | (simp only [List.length_append, List.length_cons, List.length_nil, List.length_take, List.length_drop, List.length_set, List.length_replicate, List.length_map]; omega)) rfl rfl ?_; intro b2 c2 w hp hnil; refine ops_run nopre rfl ?_; (repeat (refine R_ret ?_))
   rw [insB_in hlt' he]
   exact ⟨b2, c2, rfl, hp.tk 1⟩
  ·have hne2 : ∀ j, j < i + 1 → X.getD j default ≠ x := fun j hj => by
    by_cases hj2 : j < i
    ·exact hne j hj2
    ·obtain rfl : j = i := by omega
     exact he
   refine h_cond_f rfl rfl ?_; (repeat (refine gLoad ?_; first | refine H_ldEN hp rfl (by omega) rfl rfl ?_ | refine H_ldE hp rfl (by omega) (by omega) rfl rfl ?_))
   cases d
   ·have hall := hd0 rfl
    have hgo : ¬ ltB V (X.getD i default) x → outB V X x true (i + 1) = (outB V X x false i ++ [x]) ++ [X.getD i default] := fun hl => insT_open hlt' hall hl
    have hno : outB V X x false (i + 1) = outB V X x false i ++ [X.getD i default] := take_snoc hlt'
    (repeat (refine h_guard_y rfl nopre rfl ?_))
    refine h_guard_by (fun h1 => ?_) (fun h1 => ?_); all_goals (rw [h1]; (first | replace h1 := of_decide_eq_true h1 | replace h1 := of_decide_eq_false h1 | skip); (repeat (refine gGuard ?_; first | refine h_guard_y rfl nopre rfl ?_ | refine h_guard_n rfl nopre rfl ?_)))
    ·have h1 : nl V x < nl V (X.getD i default) := h1
     have hl : ¬ ltB V (X.getD i default) x := by unfold ltB; omega
     refine h_cond_t rfl rfl ?_; (repeat (refine U_litI hp rfl rfl rfl rfl rfl rfl rfl rfl rfl rfl ?_; intro w _ hx hp; refine ops_run nopre rfl ?_))
     refine U_append hp rfl rfl rfl rfl rfl rfl rfl (by decide) rfl (by first | omega | (simp only [List.length_append, List.length_cons, List.length_nil, List.length_take, List.length_drop, List.length_set, List.length_replicate, List.length_map]; omega)) rfl rfl ?_; intro b2 c2 w hp hnil; refine ops_run nopre rfl ?_; (repeat (first | (refine gLoad ?_; refine H_ldEN hp rfl (by omega) rfl rfl ?_) | (refine gBuild ?_; refine U_litI hp rfl rfl rfl rfl rfl rfl rfl rfl rfl rfl ?_; intro w _ hx hp; refine ops_run nopre rfl ?_)))
     refine U_append hp rfl rfl rfl rfl rfl rfl rfl (by decide) rfl (by first | omega | (simp only [List.length_append, List.length_cons, List.length_nil, List.length_take, List.length_drop, List.length_set, List.length_replicate, List.length_map]; omega)) rfl rfl ?_; intro b3 c3 w hp hnil; refine ops_run nopre rfl ?_; skip
     refine IH (i + 1) true b3 c3 _ _ _ (by omega) (by rw [hgo hl]; rfl) ⟨⟨by omega, hne2, fun h => (by cases h), fun _ => ⟨i, by omega, hl⟩⟩, ?_⟩
     rw [hgo hl]
     exact hp.f2.tk 1
    ·have h1 : ¬ nl V x < nl V (X.getD i default) := h1
     refine h_guard_by (fun h2 => ?_) (fun h2 => ?_); all_goals (rw [h2]; (first | replace h2 := of_decide_eq_true h2 | replace h2 := of_decide_eq_false h2 | skip); (repeat (first | (refine gGuard ?_; first | refine h_guard_y rfl nopre rfl ?_ | refine h_guard_n rfl nopre rfl ?_) | (refine gLoad ?_; refine H_ldEN hp rfl (by omega) rfl rfl ?_))))
     ·have h2 : nl V x = nl V (X.getD i default) := h2
      refine h_cond_dec (fun h3 => ?_) (fun h3 => ?_)
      ·have hl : ¬ ltB V (X.getD i default) x := by unfold ltB; omega
       refine h_cond_t rfl rfl ?_; (repeat (refine U_litI hp rfl rfl rfl rfl rfl rfl rfl rfl rfl rfl ?_; intro w _ hx hp; refine ops_run nopre rfl ?_))
       refine U_append hp rfl rfl rfl rfl rfl rfl rfl (by decide) rfl (by first | omega | (simp only [List.length_append, List.length_cons, List.length_nil, List.length_take, List.length_drop, List.length_set, List.length_replicate, List.length_map]; omega)) rfl rfl ?_; intro b2 c2 w hp hnil; refine ops_run nopre rfl ?_; (repeat (first | (refine gLoad ?_; refine H_ldEN hp rfl (by omega) rfl rfl ?_) | (refine gBuild ?_; refine U_litI hp rfl rfl rfl rfl rfl rfl rfl rfl rfl rfl ?_; intro w _ hx hp; refine ops_run nopre rfl ?_)))
       refine U_append hp rfl rfl rfl rfl rfl rfl rfl (by decide) rfl (by first | omega | (simp only [List.length_append, List.length_cons, List.length_nil, List.length_take, List.length_drop, List.length_set, List.length_replicate, List.length_map]; omega)) rfl rfl ?_; intro b3 c3 w hp hnil; refine ops_run nopre rfl ?_; skip
       refine IH (i + 1) true b3 c3 _ _ _ (by omega) (by rw [hgo hl]; rfl) ⟨⟨by omega, hne2, fun h => (by cases h), fun _ => ⟨i, by omega, hl⟩⟩, ?_⟩
       rw [hgo hl]
       exact hp.f2.tk 1
      ·have hl : ltB V (X.getD i default) x := by unfold ltB; omega
       refine h_cond_f rfl rfl ?_; (repeat (first | (refine gLoad ?_; refine H_ldEN hp rfl (by omega) rfl rfl ?_) | (refine gBuild ?_; refine U_litI hp rfl rfl rfl rfl rfl rfl rfl rfl rfl rfl ?_; intro w _ hx hp; refine ops_run nopre rfl ?_)))
       refine U_append hp rfl rfl rfl rfl rfl rfl rfl (by decide) rfl (by first | omega | (simp only [List.length_append, List.length_cons, List.length_nil, List.length_take, List.length_drop, List.length_set, List.length_replicate, List.length_map]; omega)) rfl rfl ?_; intro b3 c3 w hp hnil; refine ops_run nopre rfl ?_; skip
       refine IH (i + 1) false b3 c3 _ _ _ (by omega) (by rw [hno]; rfl) ⟨⟨by omega, hne2, fun _ j hj => ?_, fun h => by cases h⟩, ?_⟩
       ·by_cases hj2 : j < i
        ·exact hall j hj2
        ·obtain rfl : j = i := by omega
         exact hl
       ·rw [hno]
        exact hp.drop
     ·have h2 : ¬ nl V x = nl V (X.getD i default) := h2
      have hl : ltB V (X.getD i default) x := by unfold ltB; omega
      refine h_cond_f rfl rfl ?_; (repeat (first | (refine gLoad ?_; refine H_ldEN hp rfl (by omega) rfl rfl ?_) | (refine gBuild ?_; refine U_litI hp rfl rfl rfl rfl rfl rfl rfl rfl rfl rfl ?_; intro w _ hx hp; refine ops_run nopre rfl ?_)))
      refine U_append hp rfl rfl rfl rfl rfl rfl rfl (by decide) rfl (by first | omega | (simp only [List.length_append, List.length_cons, List.length_nil, List.length_take, List.length_drop, List.length_set, List.length_replicate, List.length_map]; omega)) rfl rfl ?_; intro b3 c3 w hp hnil; refine ops_run nopre rfl ?_; skip
      refine IH (i + 1) false b3 c3 _ _ _ (by omega) (by rw [hno]; rfl) ⟨⟨by omega, hne2, fun _ j hj => ?_, fun h => by cases h⟩, ?_⟩
      ·by_cases hj2 : j < i
       ·exact hall j hj2
       ·obtain rfl : j = i := by omega
        exact hl
      ·rw [hno]
       exact hp.drop
   ·obtain ⟨q, q1, q2⟩ := hd1 rfl
    have hmo : outB V X x true (i + 1) = outB V X x true i ++ [X.getD i default] := by
     show insT V (X.take (i + 1)) x = insT V (X.take i) x ++ _
     rw [take_snoc hlt']
     refine insT_more ⟨X.getD q default, ?_, q2⟩
     have hg : (X.take i).getD q default = X.getD q default := by simp [List.getD_eq_getElem?_getD, List.getElem?_take, q1]
     rw [← hg]
     exact getD_mem (by rw [List.length_take]; omega)
    (repeat (refine h_guard_n rfl nopre rfl ?_))
    refine h_cond_f rfl rfl ?_; (repeat (first | (refine gLoad ?_; refine H_ldEN hp rfl (by omega) rfl rfl ?_) | (refine gBuild ?_; refine U_litI hp rfl rfl rfl rfl rfl rfl rfl rfl rfl rfl ?_; intro w _ hx hp; refine ops_run nopre rfl ?_)))
    refine U_append hp rfl rfl rfl rfl rfl rfl rfl (by decide) rfl (by first | omega | (simp only [List.length_append, List.length_cons, List.length_nil, List.length_take, List.length_drop, List.length_set, List.length_replicate, List.length_map]; omega)) rfl rfl ?_; intro b3 c3 w hp hnil; refine ops_run nopre rfl ?_; skip
    refine IH (i + 1) true b3 c3 _ _ _ (by omega) (by rw [hmo]; rfl) ⟨⟨by omega, hne2, fun h => (by cases h), fun _ => ⟨q, by omega, q2⟩⟩, ?_⟩
    rw [hmo]
    exact hp.drop
 ·obtain rfl : i = X.length := by omega
  have hni : x ∉ X := fun hx => by
   obtain ⟨j, hj, e⟩ := List.mem_iff_getElem.1 hx
   refine hne j hj ?_
   rw [List.getD_eq_getElem?_getD, List.getElem?_eq_getElem hj]
   exact e
  have hib : insB V X x = insT V X x := by unfold insB; rw [if_neg hni]
  refine h_cond_f rfl rfl ?_; skip
  cases d
  ·have e : insB V X x = outB V X x false X.length ++ [x] := by
    rw [hib, insT_all (fun j hj => hd0 rfl j hj)]
    show X ++ [x] = X.take X.length ++ [x]
    rw [List.take_length]
   skip
   refine h_cond_t rfl rfl ?_; (repeat (refine U_litI hp rfl rfl rfl rfl rfl rfl rfl rfl rfl rfl ?_; intro w _ hx hp; refine ops_run nopre rfl ?_))
   refine U_append hp rfl rfl rfl rfl rfl rfl rfl (by decide) rfl (by first | omega | (simp only [List.length_append, List.length_cons, List.length_nil, List.length_take, List.length_drop, List.length_set, List.length_replicate, List.length_map]; omega)) rfl rfl ?_; intro b2 c2 w hp hnil; refine ops_run nopre rfl ?_; (repeat (refine R_ret ?_))
   rw [e]
   exact ⟨b2, c2, rfl, hp.f1.tk 1⟩
  ·have e : insB V X x = outB V X x true X.length := by
    rw [hib]
    show insT V X x = insT V (X.take X.length) x
    rw [List.take_length]
   skip
   refine h_cond_f rfl rfl ?_; (repeat (refine R_ret ?_))
   rw [e]
   exact ⟨b, cc, rfl, hp⟩
set_option maxHeartbeats 12000000 in
theorem specBalance_x (x : NetA) (w0 : World) (hX : NetR w0 x) (hS : NetS x.n) (hW : NetW x.n) :
  Ret Tryz.prog 57 [x.v] w0 (fun v w => ∃ y, (y.n = ifNet x.n (balanceL x.n) ∧ v = y.v) ∧ Hp w0 w [rNet y]) := by
 refine enter Tryz.S57ok _ _ rfl rfl (by show _ ≤ _; simp only [List.length]; decide) (fun C => ?_); have hp := Hp.nil w0; refine h_run rfl ?_; skip; (first | refine H_box hp ?_ | refine H_alloc hp rfl ?_); intro w b1 hx hp; refine ops_run nopre rfl ?_; skip; (first | refine H_box hp ?_ | refine H_alloc hp rfl ?_); intro w b2 hx hp; refine ops_run nopre rfl ?_; (repeat (refine H_ldB hp rfl rfl ?_))
 by_cases hok : NetOkP x.n
 ·rw [ifNet_yes hok]
  refine h_call rfl Tryz.func50 (by kernel_rfl) rfl ((specNetOk_h x _ hp.net hS hW).tt (netOkB_yes hok)) ?_; rintro _ w ⟨rfl, hx⟩; have hp := hp.ext hx; refine ops_run nopre rfl ?_; skip
  refine h_cond_f rfl rfl ?_; (repeat (refine H_ldB hp rfl rfl ?_))
  refine h_call rfl Tryz.func51 (by kernel_rfl) rfl (specHash_x x _ hp.net hS hW) ?_; rintro _ w ⟨h, ⟨hh, rfl⟩, hq⟩; have hx := hq.x; have hp := hp.call1 hq; refine ops_run nopre rfl ?_; skip
  rw [ifNet_yes hok] at hh
  (first | refine H_box hp ?_ | refine H_alloc hp rfl ?_); intro w b3 hx hp; refine ops_run nopre rfl ?_; (repeat (first | (refine gLoad ?_; refine H_ldB hp rfl rfl ?_) | (refine gStore ?_; refine U_stBN hp rfl rfl rfl rfl ?_; intro w hp; refine ops_run nopre rfl ?_)))
  have hhok : NetOkP h.n := by rw [hh]; exact hashL_ok hok
  have hbal : balanceL x.n = balL h.n := by unfold balanceL; rw [hh]
  have hn := hhok.nums
  have n1 := hn.n1
  have n4 := hn.n2
  have f2 := hn.f2
  have hnd := hhok.nodes
  have hsz := hhok.size'
  have hal : h.n.ands.length = h.ands.length := rfl
  have hncl : nodeCountL h.n = ((nds h.n : Nat) : Int) := by unfold nodeCountL; rw [if_pos hhok.size, n4]
  refine h_call rfl Tryz.func24 (by kernel_rfl) rfl (l08First_h h _ hhok.b) ?_; rintro _ w ⟨rfl, hx⟩; have hp := hp.ext hx; refine ops_run nopre rfl ?_; (repeat (refine H_ldB hp rfl rfl ?_))
  refine h_call rfl Tryz.func62 (by kernel_rfl) rfl (specNodeCount_h h _) ?_; rintro _ w ⟨rfl, hx⟩; have hp := hp.ext hx; refine ops_run nopre rfl ?_; skip
  rw [hncl]
  refine H_make hp eB false rfl rfl rfl rfl (s := 1) rfl (by decide) rfl (by unfold maxLen; omega) (by show 1 * _ ≤ _; omega) ?_; intro w b5 hx hp; refine ops_run nopre rfl ?_; (repeat (refine H_ldB hp rfl rfl ?_))
  refine h_call rfl Tryz.func96 (by kernel_rfl) rfl (specRoots_ok h _ hp.net hhok) ?_; rintro _ w ⟨br, cr, rfl, hq⟩; have hx := hq.x; have hp := hp.call1 hq; refine ops_run nopre rfl ?_; skip
  have hB0 : (List.replicate (nds h.n) false).length = nds h.n := by simp
  have hrt : ∀ l, l ∈ rootsL h.n → (l / 2).toNat < nds h.n ∧ 0 ≤ l ∧ l ≤ 1000000 := fun l hl => by
   have h1 := hhok.root l hl
   have h2 := h1.nat hhok.nums
   unfold litP at h1
   omega
  have hrl : (rootsL h.n).length ≤ 1000 := by have := okOf (netOkB_yes hhok); omega
  refine h_loop [2, 3, 4, 5, 6, 7] (fun (i : Nat) => [(2, .pointer (some ⟨b2, 0, none⟩)), (3, .pointer (some ⟨b3, 0, none⟩)), (4, .int .i64 (firstAndL h.n)), (5, .slice (some ⟨b5, 0, none⟩) (nds h.n) (nds h.n)), (6, .slice br (rootsL h.n).length cr), (7, .int .i64 (i : Int))])
   (fun i w' => i ≤ (rootsL h.n).length ∧ Hp w0 w' [rO 3 1 eI br cr (rootsL h.n), rO 4 1 eB (some ⟨b5, 0, none⟩) (nds h.n) (markL (List.replicate (nds h.n) false) ((rootsL h.n).take i)), rB b3 31 h.cs, rNet h, rB b2 31 (cellsV Tryz.ti31.zero)]) (fun i => (rootsL h.n).length - i) 0 rfl ⟨by omega, hp.tk 5⟩ ?_
  clear hp
  rintro i w1 ⟨hi, hp⟩ IH C
  have hml : (markL (List.replicate (nds h.n) false) ((rootsL h.n).take i)).length = nds h.n := by rw [markL_len, hB0]
  refine h_run rfl ?_; skip
  refine h_cond_dec (fun hlt => ?_) (fun hlt => ?_)
  ·have hlt' : i < (rootsL h.n).length := by omega
   obtain ⟨r1, r2, r3⟩ := hrt _ (getD_mem hlt')
   refine h_cond_t rfl rfl ?_; (repeat (first | (refine gLoad ?_; refine H_ldEN hp rfl (by omega) rfl rfl ?_) | (refine gStore ?_; refine U_st0 hp rfl rfl rfl (by omega) (by decide) rfl rfl ?_; intro w hp; refine ops_run nopre rfl ?_)))
   refine IH (i + 1) _ _ _ (by omega) rfl ⟨by omega, ?_⟩
   rw [take_snoc hlt', markL_snoc]
   exact hp
  ·obtain rfl : i = (rootsL h.n).length := by omega
   rw [List.take_length] at hp
   have hnt : ∀ d, (needTo h.n d).length = nds h.n := needTo_len h.n
   refine h_cond_f rfl rfl ?_; (repeat (refine H_ldB hp rfl rfl ?_))
   refine h_call rfl Tryz.func62 (by kernel_rfl) rfl (specNodeCount_h h _) ?_; rintro _ w ⟨rfl, hx⟩; have hp := hp.ext hx; refine ops_run nopre rfl ?_; skip
   rw [hncl]
   refine h_loop [2, 3, 4, 5, 8] (fun (d : Nat) => [(2, .pointer (some ⟨b2, 0, none⟩)), (3, .pointer (some ⟨b3, 0, none⟩)), (4, .int .i64 (firstAndL h.n)), (5, .slice (some ⟨b5, 0, none⟩) (nds h.n) (nds h.n)), (8, .int .i64 ((nds h.n : Int) - 1 - (d : Int)))])
    (fun d w' => d ≤ h.ands.length ∧ Hp w0 w' [rO 4 1 eB (some ⟨b5, 0, none⟩) (nds h.n) (needTo h.n d), rB b3 31 h.cs, rNet h, rB b2 31 (cellsV Tryz.ti31.zero)]) (fun d => h.ands.length - d) 0 (by rw [show (nds h.n : Int) - 1 - ((0 : Nat) : Int) = (nds h.n : Int) - 1 by omega]; rfl) ⟨by omega, hp.drop⟩ ?_
   clear hp
   rintro d w1 ⟨hd, hp⟩ IH2 C
   have hdl := hnt d
   refine h_run rfl ?_; skip
   refine h_cond_dec (fun hge => ?_) (fun hge => ?_)
   ·have hd2 : d < h.ands.length := by omega
    have ek : ((nds h.n : Int) - 1 - (d : Int)).toNat = nds h.n - 1 - d := by omega
    have ek2 : nds h.n - 1 - d = fst_ h.n + (h.ands.length - 1 - d) := by omega
    have estep : (nds h.n : Int) - 1 - (d : Int) - 1 = (nds h.n : Int) - 1 - ((d + 1 : Nat) : Int) := by omega
    have hcj : conjF h.n ((nds h.n : Int) - 1 - (d : Int)) = conjL h.n (nds h.n - 1 - d) := by rw [conjF_yes ⟨hhok, by omega, by omega⟩, ek]
    have hcl := conjL_len h.n (nds h.n - 1 - d)
    have hlt2 : ∀ l, l ∈ conjL h.n (nds h.n - 1 - d) → (l / 2).toNat < nds h.n - 1 - d ∧ 0 ≤ l ∧ l ≤ 1000000 := fun l hl => by
     rw [ek2] at hl
     obtain ⟨h1, h2⟩ := conjL_lit hhok (by omega) hl
     unfold litP at h1
     omega
    refine h_cond_t rfl rfl ?_; (repeat (refine H_ldB hp rfl rfl ?_))
    refine h_call rfl Tryz.func102 (by kernel_rfl) rfl (specConjuncts_x h _ _ hp.net hhok.S' hhok.W (by unfold i64R; omega)) ?_; rintro _ w ⟨bj, cj, rfl, hq⟩; have hx := hq.x; have hp := hp.call1 hq; refine ops_run nopre rfl ?_; skip
    rw [hcj] at hp ⊢
    by_cases hm : (needTo h.n d).getD (nds h.n - 1 - d) default = true
    ·have es : needTo h.n (d + 1) = markL (needTo h.n d) (conjL h.n (nds h.n - 1 - d)) := by rw [needTo, if_pos hm]
     refine h_loop [2, 3, 4, 5, 8, 9, 10] (fun (j : Nat) => [(2, .pointer (some ⟨b2, 0, none⟩)), (3, .pointer (some ⟨b3, 0, none⟩)), (4, .int .i64 (firstAndL h.n)), (5, .slice (some ⟨b5, 0, none⟩) (nds h.n) (nds h.n)), (8, .int .i64 ((nds h.n : Int) - 1 - (d : Int))), (9, .slice bj (conjL h.n (nds h.n - 1 - d)).length cj), (10, .int .i64 (j : Int))])
      (fun j w' => j ≤ (conjL h.n (nds h.n - 1 - d)).length ∧ Hp w0 w' [rO 3 1 eI bj cj (conjL h.n (nds h.n - 1 - d)), rO 4 1 eB (some ⟨b5, 0, none⟩) (nds h.n) (markL (needTo h.n d) ((conjL h.n (nds h.n - 1 - d)).take j)), rB b3 31 h.cs, rNet h, rB b2 31 (cellsV Tryz.ti31.zero)]) (fun j => (conjL h.n (nds h.n - 1 - d)).length - j) 0 rfl ⟨by omega, hp⟩ ?_
     clear hp
     rintro j w1 ⟨hj, hp⟩ IH3 C
     have hml2 : (markL (needTo h.n d) ((conjL h.n (nds h.n - 1 - d)).take j)).length = nds h.n := by rw [markL_len, hdl]
     have hmk : (markL (needTo h.n d) ((conjL h.n (nds h.n - 1 - d)).take j)).getD ((nds h.n : Int) - 1 - (d : Int)).toNat default = true := by
      rw [ek, markL_get fun l hl => by rw [hdl]; have := (hlt2 l (List.mem_of_mem_take hl)).1; omega]
      exact .inl hm
     refine h_run rfl ?_; skip
     refine h_guard_by (fun hlt3 => ?_) (fun hlt3 => ?_); all_goals (rw [hlt3]; (first | replace hlt3 := of_decide_eq_true hlt3 | replace hlt3 := of_decide_eq_false hlt3 | skip); (repeat (first | (refine gGuard ?_; first | refine h_guard_y rfl nopre rfl ?_ | refine h_guard_n rfl nopre rfl ?_) | (refine gLoad ?_; refine H_ldE hp rfl (by omega) (by omega) rfl rfl ?_))))
     ·have hlt3' : j < (conjL h.n (nds h.n - 1 - d)).length := by omega
      obtain ⟨r1, r2, r3⟩ := hlt2 _ (getD_mem hlt3')
      refine h_cond_t hmk rfl ?_; (repeat (first | (refine gLoad ?_; refine H_ldEN hp rfl (by omega) rfl rfl ?_) | (refine gStore ?_; refine U_st0 hp rfl rfl rfl (by omega) (by decide) rfl rfl ?_; intro w hp; refine ops_run nopre rfl ?_)))
      refine IH3 (j + 1) _ _ _ (by omega) rfl ⟨by omega, ?_⟩
      rw [take_snoc hlt3', markL_snoc]
      exact hp
     ·obtain rfl : j = (conjL h.n (nds h.n - 1 - d)).length := by omega
      rw [List.take_length] at hp
      refine h_cond_f rfl rfl ?_; skip
      refine IH2 (d + 1) _ _ _ (by omega) (by rw [← estep]; rfl) ⟨by omega, ?_⟩
      rw [es]
      exact hp.drop
    ·have es : needTo h.n (d + 1) = needTo h.n d := by rw [needTo, if_neg hm]
     have hmk : (needTo h.n d).getD ((nds h.n : Int) - 1 - (d : Int)).toNat default = false := by rw [ek]; simpa using hm
     refine h_loop [2, 3, 4, 5, 8, 9, 10] (fun (j : Nat) => [(2, .pointer (some ⟨b2, 0, none⟩)), (3, .pointer (some ⟨b3, 0, none⟩)), (4, .int .i64 (firstAndL h.n)), (5, .slice (some ⟨b5, 0, none⟩) (nds h.n) (nds h.n)), (8, .int .i64 ((nds h.n : Int) - 1 - (d : Int))), (9, .slice bj (conjL h.n (nds h.n - 1 - d)).length cj), (10, .int .i64 (j : Int))])
      (fun j w' => Hp w0 w' [rO 3 1 eI bj cj (conjL h.n (nds h.n - 1 - d)), rO 4 1 eB (some ⟨b5, 0, none⟩) (nds h.n) (needTo h.n d), rB b3 31 h.cs, rNet h, rB b2 31 (cellsV Tryz.ti31.zero)]) (fun j => (conjL h.n (nds h.n - 1 - d)).length - j) 0 rfl hp ?_
     clear hp
     rintro j w1 hp IH3 C
     refine h_run rfl ?_; skip
     refine h_guard_by (fun hlt3 => ?_) (fun hlt3 => ?_); all_goals (rw [hlt3]; (first | replace hlt3 := of_decide_eq_true hlt3 | replace hlt3 := of_decide_eq_false hlt3 | skip); (repeat (first | (refine gGuard ?_; first | refine h_guard_y rfl nopre rfl ?_ | refine h_guard_n rfl nopre rfl ?_) | (refine gLoad ?_; refine H_ldE hp rfl (by omega) (by omega) rfl rfl ?_))))
     ·refine h_cond_f hmk rfl ?_; skip
      refine IH2 (d + 1) _ _ _ (by omega) (by rw [← estep]; rfl) ⟨by omega, ?_⟩
      rw [es]
      exact hp.drop
     ·refine h_cond_f rfl rfl ?_; skip
      refine IH2 (d + 1) _ _ _ (by omega) (by rw [← estep]; rfl) ⟨by omega, ?_⟩
      rw [es]
      exact hp.drop
   ·obtain rfl : d = h.n.ands.length := by omega
    have hnd2 : needTo h.n h.n.ands.length = needL h.n := rfl
    rw [hnd2] at hp hdl
    refine h_cond_f rfl rfl ?_; (repeat (refine H_ldB hp rfl rfl ?_))
    refine h_call rfl Tryz.func31 (by kernel_rfl) rfl (l10Empty_h h _ hp.net hhok hhok.S') ?_; rintro _ w ⟨y0, tb, tc, ⟨hy0, rfl⟩, hq⟩; refine ops_run nopre rfl ?_; skip
    have hp := hp.call2 hq
    skip
    (first | refine H_box hp ?_ | refine H_alloc hp rfl ?_); intro w b11 hx hp; refine ops_run nopre rfl ?_; (repeat (refine U_stBN hp rfl rfl rfl rfl ?_; intro w hp; refine ops_run nopre rfl ?_))
    obtain ⟨U, hU⟩ : ∃ U, U = List.replicate (fst_ h.n) (0 : Int) := ⟨_, rfl⟩
    have hUl : U.length = fst_ h.n := by rw [hU]; simp
    have hU0 : AllN U := by rw [hU]; exact rep_nn _
    have hfU : U.length = (firstAndL h.n).toNat := by omega
    have hlev : ∀ A, Bld (firstAndL h.n) A ([] : List Int) → ifOk (zerL h.n A) (levelsL (zerL h.n A)) = levA U A := fun A hA => by
     have hz := zerL_ok hhok hA
     have hf : fst_ (zerL h.n A) = fst_ h.n := by unfold fst_; rw [firstAndL_zer]
     rw [ifOk_yes hz, levelsL_eq hz, hf, hU]
     rfl
    refine h_loop4 [2, 3, 5, 11, 12, 13] (fun (i : Nat) (T : List Int) (ta : Option Addr) (tc : Nat) => [(2, .pointer (some ⟨b2, 0, none⟩)), (3, .pointer (some ⟨b3, 0, none⟩)), (5, .slice (some ⟨b5, 0, none⟩) (nds h.n) (nds h.n)), (11, .pointer (some ⟨b11, 0, none⟩)), (12, .slice ta T.length tc), (13, .int .i64 (firstAndL h.n + (i : Int)))])
     (fun i T ta tc w' => i ≤ h.ands.length ∧ ∃ A y, balTo h.n (needL h.n) i = some (A, T) ∧ y.n = zerL h.n A ∧ Hp w0 w' [rB b11 31 y.cs, rNet y, rO 3 1 eI ta tc T, rO 4 1 eB (some ⟨b5, 0, none⟩) (nds h.n) (needL h.n), rB b3 31 h.cs, rNet h, rB b2 31 (cellsV Tryz.ti31.zero)]) (fun i _ _ _ => h.ands.length - i) 0 (leafL h.n) tb tc (by rw [show firstAndL h.n + ((0 : Nat) : Int) = firstAndL h.n by omega]; rfl)
     ⟨by omega, [], y0, rfl, hy0, hp⟩ ?_
    clear hp
    rintro i T ta tc w1 ⟨hi, A, y, hS, hy, hp⟩ IH C
    have hB := balTo_ok hhok i hi (A, T) hS
    have hsl : T.length = fst_ h.n + i := hB.len
    have hBb : Bld (firstAndL h.n) A T := hB.b
    have hB0 : Bld (firstAndL h.n) A ([] : List Int) := ⟨hBb.f1, hBb.alen, hBb.aok, fun j hj => by simp at hj⟩
    have f1 := hBb.f1
    have hSl := hBb.alen
    have hvl : (levA U A).length = fst_ h.n + A.length := by rw [levA_len, hUl]
    have hzok := zerL_ok hhok hBb
    refine h_run rfl ?_; (repeat (refine H_ldB hp rfl rfl ?_))
    refine h_call rfl Tryz.func62 (by kernel_rfl) rfl (specNodeCount_h h _) ?_; rintro _ w ⟨rfl, hx⟩; have hp := hp.ext hx; refine ops_run nopre rfl ?_; skip
    rw [hncl]
    refine h_cond_dec (fun hlt => ?_) (fun hlt => ?_)
    ·have hi2 : i < h.ands.length := by omega
     have ek : (firstAndL h.n + (i : Int)).toNat = fst_ h.n + i := by omega
     have estep : firstAndL h.n + (i : Int) + 1 = firstAndL h.n + ((i + 1 : Nat) : Int) := by omega
     refine h_cond_t rfl rfl ?_; (repeat (refine U_litI hp rfl rfl rfl rfl rfl rfl rfl rfl rfl rfl ?_; intro w _ hx hp; refine ops_run nopre rfl ?_))
     refine U_append hp rfl rfl rfl rfl rfl rfl rfl (by decide) rfl (by first | omega | (simp only [List.length_append, List.length_cons, List.length_nil, List.length_take, List.length_drop, List.length_set, List.length_replicate, List.length_map]; omega)) rfl rfl ?_; intro ta2 tc2 w hp hnil; refine ops_run nopre rfl ?_; (repeat (refine H_ldE hp rfl (by omega) (by omega) rfl rfl ?_))
     by_cases hm : (needL h.n).getD (fst_ h.n + i) default = true
     ·refine h_cond_f (by rw [ek, hm]; rfl) rfl ?_; (repeat (refine H_ldB hp rfl rfl ?_))
      have hyS : NetS y.n := by rw [hy]; exact hzok.S'
      have hyW : NetW y.n := by rw [hy]; exact hzok.W
      refine h_call rfl Tryz.func103 (by kernel_rfl) rfl (specLevelsF_h y _ hp.net hyS hyW) ?_; rintro _ w ⟨bl, cl, rfl, hq⟩; have hx := hq.x; have hp := hp.call1 hq; refine ops_run nopre rfl ?_; (repeat (refine H_ldB hp rfl rfl ?_))
      rw [hy, hlev A hB0] at hp ⊢
      have hcj : conjF h.n (firstAndL h.n + (i : Int)) = conjL h.n (fst_ h.n + i) := by rw [conjF_yes ⟨hhok, by omega, by omega⟩, ek]
      have hcl := conjL_len h.n (fst_ h.n + i)
      refine h_call rfl Tryz.func102 (by kernel_rfl) rfl (specConjuncts_x h _ _ hp.net hhok.S' hhok.W (by unfold i64R; omega)) ?_; rintro _ w ⟨bj, cj, rfl, hq⟩; have hx := hq.x; have hp := hp.call1 hq; refine ops_run nopre rfl ?_; skip
      rw [hcj] at hp ⊢
      have hlc : ∀ m, m ∈ conjL h.n (fst_ h.n + i) → (m / 2).toNat < fst_ h.n + i ∧ 0 ≤ m ∧ m / 2 < (T ++ [0]).length ∧ litP (litV T m) (firstAndL h.n + A.length) := fun m hm => by
       obtain ⟨h1, h2⟩ := conjL_lit hhok hi2 hm
       have h3 := hBb.lit (l := m) (by rw [hsl]; exact h2)
       unfold litP at h1
       exact ⟨h2, h1.1, by simp; omega, h3⟩
      have hTl : (T ++ [(0 : Int)]).length ≤ 1000 := by simp; omega
      refine h_call rfl Tryz.func73 (by kernel_rfl) rfl (l10Map_h _ _ _ _ (T ++ [0]) (conjL h.n (fst_ h.n + i)) _ _ rfl rfl _ hp.rd hp.rd (fun j hj => ⟨(hlc _ (getD_mem hj)).2.1, (hlc _ (getD_mem hj)).2.2.1⟩) (by omega) (by omega)) ?_; rintro _ w ⟨bm, cm, rfl, hq⟩; have hx := hq.x; have hp := hp.call1 hq; refine ops_run nopre rfl ?_; (repeat (refine U_litI hp rfl rfl rfl rfl rfl rfl rfl rfl rfl rfl ?_; intro w _ hx hp; refine ops_run nopre rfl ?_))
      have hmp : mapL (T ++ [0]) (conjL h.n (fst_ h.n + i)) = mapL T (conjL h.n (fst_ h.n + i)) := mapL_pad (to := T) (m := 1)
      have hml := mapL_len T (conjL h.n (fst_ h.n + i))
      rw [hmp] at hp ⊢
      obtain ⟨M, hM⟩ : ∃ M, M = mapL T (conjL h.n (fst_ h.n + i)) := ⟨_, rfl⟩
      rw [← hM] at hp hml ⊢
      have hMl : ∀ l, l ∈ M → litP l (firstAndL h.n + A.length) := fun l hl => by
       rw [hM] at hl
       obtain ⟨q, hq, rfl⟩ := List.mem_map.1 hl
       exact (hlc q hq).2.2.2
      refine h_loop3 [2, 3, 5, 11, 12, 13, 14, 15, 16, 17] (fun (j : Nat) (a : Option Addr) (c : Nat) => [(2, .pointer (some ⟨b2, 0, none⟩)), (3, .pointer (some ⟨b3, 0, none⟩)), (5, .slice (some ⟨b5, 0, none⟩) (nds h.n) (nds h.n)), (11, .pointer (some ⟨b11, 0, none⟩)), (12, .slice ta2 (T ++ [0]).length tc2), (13, .int .i64 (firstAndL h.n + (i : Int))), (14, .slice bl (levA U A).length cl), (15, .slice bm M.length cm), (16, .slice a (insAll (levA U A) [] (M.take j)).length c), (17, .int .i64 (j : Int))])
       (fun j a c w' => (j ≤ M.length ∧ (insAll (levA U A) [] (M.take j)).length ≤ c) ∧ Hp w0 w' [rV a (insAll (levA U A) [] (M.take j)), rO 3 1 eI bm cm M, rO 3 1 eI bl cl (levA U A), rB b11 31 y.cs, rNet y, rO 3 1 eI ta2 tc2 (T ++ [0]), rO 4 1 eB (some ⟨b5, 0, none⟩) (nds h.n) (needL h.n), rB b3 31 h.cs, rNet h, rB b2 31 (cellsV Tryz.ti31.zero)]) (fun j _ _ => M.length - j) 0 _ 0 rfl ⟨⟨by omega, by simp [insAll]⟩, ?_⟩ ?_
      ·have hp := hp.toV
       exact (hp.f2.drop).f3.drop
      clear hp
      rintro j a c w1 ⟨⟨hj, hcap⟩, hp⟩ IH2 C
      have hil := insAll_len (V := levA U A) (xs := M.take j) (L := [])
      rw [List.length_take, List.length_nil] at hil
      refine h_run rfl ?_; skip
      refine h_cond_dec (fun hlt2 => ?_) (fun hlt2 => ?_)
      ·have hlt2' : j < M.length := by omega
       have m4 := hMl _ (getD_mem hlt2')
       unfold litP at m4
       have hXb : ∀ l, l ∈ insAll (levA U A) [] (M.take j) → 0 ≤ l ∧ l / 2 < (levA U A).length ∧ l ≤ 1000000 := fun l hl => by
        rcases mem_insAll.1 hl with hl | hl
        ·simp at hl
        ·have := hMl l (List.mem_of_mem_take hl)
         unfold litP at this
         omega
       refine h_cond_t rfl rfl ?_; (repeat (refine H_ldEN hp rfl (by omega) rfl rfl ?_))
       refine h_call rfl Tryz.func104 (by kernel_rfl) rfl (l12Insert_h bl cl _ (levA U A) rfl a c _ (insAll (levA U A) [] (M.take j)) rfl (M.getD j default) _ hp.rd hp.rd ⟨by omega, by omega, by omega⟩ hXb (by omega)) ?_; rintro _ w ⟨a', c', rfl, hq⟩; have hx := hq.x; have hp := hp.call1 hq; refine ops_run nopre rfl ?_; skip
       have e : insAll (levA U A) [] (M.take (j + 1)) = insB (levA U A) (insAll (levA U A) [] (M.take j)) (M.getD j default) := by rw [take_snoc hlt2', ← insAll_snoc]
       have hcap' := hp.own.cap
       refine IH2 (j + 1) a' c' _ _ _ (by omega) (by rw [e]; rfl) ⟨⟨by omega, by rw [e]; exact hcap'⟩, ?_⟩
       rw [e]
       exact hp.toV.f1.drop
      ·obtain rfl : j = M.length := by omega
       rw [List.take_length] at hp hcap hil ⊢
       have hRS : RedS (firstAndL h.n) U A (balLeaves h.n (A, T) (fst_ h.n + i)) := by rw [hU]; exact hB.leaves hhok hi2
       have hbl : balLeaves h.n (A, T) (fst_ h.n + i) = insAll (levA U A) [] M := by rw [hU, hM]; rfl
       rw [← hbl] at hp hcap hil ⊢
       refine h_cond_f rfl rfl ?_; skip
       refine h_loop3 [2, 3, 5, 11, 12, 13, 16] (fun (X : List Int) (a : Option Addr) (c : Nat) => [(2, .pointer (some ⟨b2, 0, none⟩)), (3, .pointer (some ⟨b3, 0, none⟩)), (5, .slice (some ⟨b5, 0, none⟩) (nds h.n) (nds h.n)), (11, .pointer (some ⟨b11, 0, none⟩)), (12, .slice ta2 (T ++ [0]).length tc2), (13, .int .i64 (firstAndL h.n + (i : Int))), (16, .slice a X.length c)])
        (fun X a c w' => (X.length ≤ c ∧ X.length ≤ 700) ∧ ∃ A2 y, (RedS (firstAndL h.n) U A2 X ∧ balRed (firstAndL h.n) U A2 X = balRed (firstAndL h.n) U A (balLeaves h.n (A, T) (fst_ h.n + i)) ∧ y.n = zerL h.n A2) ∧ Hp w0 w' [rV a X, rB b11 31 y.cs, rNet y, rO 3 1 eI ta2 tc2 (T ++ [0]), rO 4 1 eB (some ⟨b5, 0, none⟩) (nds h.n) (needL h.n), rB b3 31 h.cs, rNet h, rB b2 31 (cellsV Tryz.ti31.zero)]) (fun X _ _ => X.length) (balLeaves h.n (A, T) (fst_ h.n + i)) a c rfl ⟨⟨hcap, by omega⟩, A, y, ⟨hRS, rfl, hy⟩, (hp.f1.drop).f1.drop⟩ ?_
       clear hp
       rintro X a c w1 ⟨⟨hXc, hXl⟩, A2, y2, ⟨hR, hbr, hy2⟩, hp⟩ IH3 C
       have hAl := hR.b.alen
       have hvl2 : (levA U A2).length = fst_ h.n + A2.length := by rw [levA_len, hUl]
       have hne0 := hR.ne
       refine h_run rfl ?_; skip
       refine h_cond_dec (fun hgt => ?_) (fun hgt => ?_)
       ·have hgt' : 1 < X.length := by omega
        have hst := balRed_step (f := firstAndL h.n) (U := U) (A := A2) hgt'
        obtain ⟨l1, l2⟩ := hR.two hgt'
        have hadd := addF_bld hhok hR.b l1 l2
        have hz2ok := zerL_ok hhok hR.b
        have hi1 := l1.i64 (by omega)
        have hi2 := l2.i64 (by omega)
        refine h_cond_t rfl rfl ?_; skip
        refine N_draw hp (by kernel_rfl) (by kernel_rfl) rfl rfl ?_; (repeat (refine nLoad ?_; first | refine N_ldB rfl rfl rfl ?_ | refine N_ldEN rfl (by omega) rfl rfl rfl ?_))
        refine N_call Tryz.func34 (by kernel_rfl) rfl (fun F w hp => ?_); refine Ret.mono (specAddAnd_x y2 (X.getD 0 default) (X.getD 1 default) _ (rNet_r (hp.pre.take (rNet y2))) (by rw [hy2]; exact hz2ok.S') (by rw [hy2]; exact hz2ok.W) hi1 hi2) ?_; rintro _ w ⟨z, ⟨hz, rfl⟩, hq⟩; have hp := hp.callF1 hq; refine ⟨fun _ => hp.sub (by (repeat (first | exact List.sublist_append_left _ _ | apply List.Sublist.cons))), _, hp, ?_⟩; clear hp; refine N_ops rfl rfl ?_; skip
        (first | refine N_box ?_ | refine N_alloc rfl ?_); intro b18; refine N_ops rfl rfl ?_; (repeat (refine N_stBN rfl rfl rfl rfl (by kernel_rfl) ?_; refine N_ops rfl rfl ?_))
        refine N_end ?_; intro w hp C; refine h_run rfl ?_; skip
        by_cases hneg : (addC (firstAndL h.n) A2 (X.getD 0 default) (X.getD 1 default)).2 < 0
        ·rw [hy2, hadd, if_pos hneg]
         have hnone : balRed (firstAndL h.n) (List.replicate (fst_ h.n) 0) A (balLeaves h.n (A, T) (fst_ h.n + i)) = none := by rw [← hU, ← hbr, hst, if_pos hneg]
         refine h_cond_t (decide_eq_true (by show (-1 : Int) < 0; decide)) rfl ?_; (repeat (first | (refine gLoad ?_; refine H_ldB hp rfl rfl ?_) | (refine gStore ?_; refine U_stBN hp rfl rfl rfl rfl ?_; intro w hp; refine ops_run nopre rfl ?_) | (refine gRetc ?_; refine R_ret1 hp rfl ?_)))
         exact ⟨h, ⟨by rw [hbal, balL_none (by omega) (balTo_fail hS hm hnone)], rfl⟩, hp.sub (by simp)⟩
        ·rw [hy2, hadd, if_neg hneg] at hz ⊢
         obtain ⟨Bp, hBp⟩ := addC_pre (f := firstAndL h.n) (A := A2) (a := X.getD 0 default) (b := X.getD 1 default)
         have hR2 := hR.step hfU hgt' hneg
         have hst2 : balRed (firstAndL h.n) U (addC (firstAndL h.n) A2 (X.getD 0 default) (X.getD 1 default)).1 (insB (levA U (addC (firstAndL h.n) A2 (X.getD 0 default) (X.getD 1 default)).1) (X.drop 2) (addC (firstAndL h.n) A2 (X.getD 0 default) (X.getD 1 default)).2) = balRed (firstAndL h.n) U A (balLeaves h.n (A, T) (fst_ h.n + i)) := by rw [← hbr, hst, if_neg hneg]
         have hlz : litP (addC (firstAndL h.n) A2 (X.getD 0 default) (X.getD 1 default)).2 (firstAndL h.n + (addC (firstAndL h.n) A2 (X.getD 0 default) (X.getD 1 default)).1.length) := hR2.b.mem (mem_insB.2 (.inl rfl))
         have hge := (addC_len (firstAndL h.n) A2 (X.getD 0 default) (X.getD 1 default)).1
         have hib := insB_len (V := levA U (addC (firstAndL h.n) A2 (X.getD 0 default) (X.getD 1 default)).1) (L := X.drop 2) (x := (addC (firstAndL h.n) A2 (X.getD 0 default) (X.getD 1 default)).2)
         have hlA : ∀ l, l ∈ X → 0 ≤ l ∧ l / 2 < firstAndL h.n + A2.length := fun l hl => by have := hR.b.mem hl; unfold litP at this; exact this
         clear hadd
         generalize (addC (firstAndL h.n) A2 (X.getD 0 default) (X.getD 1 default)).1 = A3 at *
         generalize (addC (firstAndL h.n) A2 (X.getD 0 default) (X.getD 1 default)).2 = z3 at *
         have hA3 := hR2.b.alen
         have hB3 : Bld (firstAndL h.n) A3 ([] : List Int) := ⟨hR2.b.f1, hR2.b.alen, hR2.b.aok, fun j hj => by simp at hj⟩
         have hz3ok := zerL_ok hhok hR2.b
         have hv3 : (levA U A3).length = fst_ h.n + A3.length := by rw [levA_len, hUl]
         unfold litP at hlz
         rw [List.length_drop] at hib
         have hXb : ∀ l, l ∈ X.drop 2 → 0 ≤ l ∧ l / 2 < (levA U A3).length ∧ l ≤ 1000000 := fun l hl => by
          have := hlA l (List.mem_of_mem_drop hl)
          omega
         have hzz : z.n = zerL h.n A3 := hz
         refine h_cond_f (decide_eq_false hneg) rfl ?_; (repeat (first | (refine gLoad ?_; refine H_ldB hp rfl rfl ?_) | (refine gStore ?_; refine U_stBN hp rfl rfl rfl rfl ?_; intro w hp; refine ops_run nopre rfl ?_)))
         have hp := (hp.f2).dropV hXc (k := 2) (by omega)
         refine D_draw hp (by kernel_rfl) (by kernel_rfl) rfl rfl ?_; intro w hx hp; have hs := hp; (repeat (refine D_ldB rfl rfl rfl ?_))
         refine h_callq rfl Tryz.func103 (by kernel_rfl) rfl (specLevelsF_h z _ hp.net (by rw [hzz]; exact hz3ok.S') (by rw [hzz]; exact hz3ok.W)) ?_; rintro _ w ⟨bl3, cl3, rfl, hq⟩; have hx := hq.x; have hp := hp.call1 hq; have hs := hs.ext hx; refine ⟨fun _ => hs, ?_⟩; refine D_ops rfl rfl ?_; skip
         rw [hzz, hlev A3 hB3] at hp ⊢
         refine h_callq rfl Tryz.func104 (by kernel_rfl) rfl (l12Insert_h bl3 cl3 _ (levA U A3) rfl (subA a c 1 2) (c - 2) _ (X.drop 2) (by rw [List.length_drop]; rfl) z3 _ hp.rd hp.rd ⟨by omega, by omega, by omega⟩ hXb (by show X.length - 2 ≤ _; omega)) ?_; rintro _ w ⟨a3, c3, rfl, hq⟩; have hx := hq.x; have hp := hp.call1 hq; have hs := hs.ext hx; refine ⟨fun _ => hs, ?_⟩; refine D_ops rfl rfl ?_; skip
         have hcap3 := hp.own.cap
         have hp := (((((((hp.toV).f1.drop).f1.drop).f1.drop).f3.drop)).f1.f2.f2)
         exact IH3 (insB (levA U A3) (X.drop 2) z3) a3 c3 _ _ _ (by omega) rfl ⟨⟨hcap3, by omega⟩, A3, z, ⟨hR2, hst2, hzz⟩, hp⟩
       ·have hT : balRed (firstAndL h.n) U A (balLeaves h.n (A, T) (fst_ h.n + i)) = some (A2, X.getD 0 default) := by rw [← hbr, balRed_one (by omega)]
        have hS2 : balTo h.n (needL h.n) (i + 1) = some (A2, T ++ [X.getD 0 default]) := balTo_yes hS hm (T := (A2, X.getD 0 default)) (by rw [← hU]; exact hT)
        have hts : ((T ++ [(0 : Int)]).length : Int) = fst_ h.n + i + 1 := by simp; omega
        refine h_cond_f rfl rfl ?_; (repeat (first | (refine gLoad ?_; refine H_ldEN hp rfl (by omega) rfl rfl ?_) | (refine gStore ?_; refine U_st0 hp rfl rfl rfl (by omega) (by decide) rfl rfl ?_; intro w hp; refine ops_run nopre rfl ?_)))
        refine IH (i + 1) (T ++ [X.getD 0 default]) ta2 tc2 _ _ _ (by omega) (by rw [← estep]; simp; rfl) ⟨by omega, A2, y2, hS2, hy2, ?_⟩
        rw [ek, show fst_ h.n + i = T.length by omega, show (T ++ [(0 : Int)]).set T.length (X.getD 0 default) = T ++ [X.getD 0 default] by simp] at hp
        exact hp.drop
     ·refine h_cond_t (by rw [ek]; simp only [Bool.not_eq_true] at hm; rw [hm]; rfl) rfl ?_; skip
      refine IH (i + 1) (T ++ [0]) ta2 tc2 _ _ _ (by omega) (by rw [← estep]; rfl) ⟨by omega, A, y, balTo_skip hS hm, hy, ?_⟩
      exact hp.drop
    ·refine h_cond_f rfl rfl ?_; (repeat (refine H_ldB hp rfl rfl ?_))
     obtain rfl : i = h.ands.length := by omega
     refine h_call rfl Tryz.func35 (by kernel_rfl) rfl (l10Finish_h y h ta tc _ T rfl A hp.f1 hhok hy hBb (by omega) (by omega)) ?_; rintro _ w ⟨z, ⟨hz, rfl⟩, hp⟩; refine ops_run nopre rfl ?_; (repeat (first | (refine gStore ?_; refine U_stBN hp rfl rfl rfl rfl ?_; intro w hp; refine ops_run nopre rfl ?_) | (refine gRetc ?_; refine R_ret1 hp rfl ?_)))
     exact ⟨z, ⟨by rw [hz, hbal, balL_some hS], rfl⟩, Hp.tk hp 1⟩
 ·rw [ifNet_no hok]
  refine h_call rfl Tryz.func50 (by kernel_rfl) rfl ((specNetOk_h x _ hp.net hS hW).ff (netOkB_no hok)) ?_; rintro _ w ⟨rfl, hx⟩; have hp := hp.ext hx; refine ops_run nopre rfl ?_; skip
  refine h_cond_t rfl rfl ?_; (repeat (first | (refine gStore ?_; refine U_stBN hp rfl rfl rfl rfl ?_; intro w hp; refine ops_run nopre rfl ?_) | (refine gRetc ?_; refine R_ret1 hp rfl ?_)))
  exact ⟨nilA, ⟨rfl, rfl⟩, Hp.tk (hpNil hp) 1⟩
end Go.Proofs
