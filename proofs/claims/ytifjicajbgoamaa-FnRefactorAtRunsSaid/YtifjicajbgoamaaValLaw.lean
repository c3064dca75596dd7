/- Texts that belong together; each under its stated conditions. -/
import Derived.Test.YtifjicajbgoamaaReachLaw
import Derived.Test.YtifjicajbgoamaaAddLaw
import Derived.Test.YtifjicajbgoamaaBits
set_option linter.all false
section
/- The contracts of the functions that add AND nodes; each under its stated conditions. -/
namespace Go.Xw
/-- the net with other AND nodes, elsewhere -/
def NetA.wA (y : NetA) (aa : Option Addr) (ac : Nat) (l : List (Int × Int)) : NetA := ⟨y.inputs, y.seqs, y.sa, y.sc, l, aa, ac, y.outs, y.oa, y.oc⟩
class Bk (w0 : World) (b : Nat) (t : outParam TypeId) (cs : outParam (List Value)) : Prop where
  h : Blk w0 b t cs
instance (priority := low) BkH.base {w0 : World} {L : List Res} {b : Nat} {t : TypeId} {cs : List Value} [h : Bk w0 b t cs] : BkH w0 L b t cs := ⟨fun _ hp => h.h.ext hp.x⟩
theorem NetA.wA_n (y : NetA) (aa : Option Addr) (ac : Nat) {r : NetL × Int} (h : r.1 = { y.n with ands := r.1.ands }) : (y.wA aa ac r.1.ands).n = r.1 := by rw [h]; rfl
end Go.Xw
namespace Go.Proofs
open Go.Xw
set_option maxRecDepth 100000
set_option maxHeartbeats 1000000
attribute [local irreducible] Holds elemAddr

theorem addAnd_h (y : NetA) (p : Nat) (a b : Int) {w0 w : World} {L : List Res} (hp : Hp w0 w (rB p 28 y.cs :: rO 66 2 eII y.aa y.ac y.ands :: L)) (hb : NetB y) (hl : y.ands.length ≤ 1000000) (ha : 0 ≤ a ∧ a ≤ 1000000) (hb2 : 0 ≤ b ∧ b ≤ 1000000) :
    Ret Try.prog 67 [.pointer (some ⟨p, 0, none⟩), .int .i64 a, .int .i64 b] w (fun v w' => ∃ aa ac, v = .int .i64 (addAndL y.n a b).2 ∧ Hp w0 w' (rB p 28 (y.wA aa ac (addAndL y.n a b).1.ands).cs :: rO 66 2 eII aa ac (addAndL y.n a b).1.ands :: L)) := by
  have hnc := notL_eq ha.1 (by omega)
  have hnn : ∀ v, notL a = v ↔ bits .xor .i64 a 1 = v := fun v => .rfl
  refine enter Try.S67ok _ _ rfl rfl (by show _ ≤ _; simp only [List.length]; decide) (fun C => ?_); refine h_run rfl ?_; skip
  refine h_guard_by (fun h1 => ?_) (fun h1 => ?_); all_goals (rw [h1]; (first | replace h1 := of_decide_eq_true h1 | replace h1 := of_decide_eq_false h1 | skip); (repeat (refine gGuard ?_; first | refine h_guard_y rfl nopre rfl ?_ | refine h_guard_n rfl nopre rfl ?_)))
  · refine h_cond_t rfl rfl ?_; (repeat (refine R_ret ?_))
    have e : addAndL y.n a b = (y.n, 0) := by unfold addAndL; rw [if_pos (.inl h1)]
    rw [e]
    exact ⟨y.aa, y.ac, rfl, hp⟩
  · refine h_guard_by (fun h2 => ?_) (fun h2 => ?_); all_goals (rw [h2]; (first | replace h2 := of_decide_eq_true h2 | replace h2 := of_decide_eq_false h2 | skip); (repeat (refine gGuard ?_; first | refine h_guard_y rfl nopre rfl ?_ | refine h_guard_n rfl nopre rfl ?_)))
    · refine h_cond_t rfl rfl ?_; (repeat (refine R_ret ?_))
      have e : addAndL y.n a b = (y.n, 0) := by unfold addAndL; rw [if_pos (.inr (.inl h2))]
      rw [e]
      exact ⟨y.aa, y.ac, rfl, hp⟩
    · refine h_cond_dec (fun h3 => ?_) (fun h3 => ?_)
      · refine h_cond_t rfl rfl ?_; (repeat (refine R_ret ?_))
        have e : addAndL y.n a b = (y.n, 0) := by unfold addAndL; rw [if_pos (.inr (.inr h3))]
        rw [e]
        exact ⟨y.aa, y.ac, rfl, hp⟩
      · have e0 : ¬ (a = 0 ∨ b = 0 ∨ notL a = b) := fun h => h.elim h1 fun h => h.elim h2 h3
        refine h_cond_f rfl rfl ?_; skip
        refine h_guard_by (fun h4 => ?_) (fun h4 => ?_); all_goals (rw [h4]; (first | replace h4 := of_decide_eq_true h4 | replace h4 := of_decide_eq_false h4 | skip); (repeat (refine gGuard ?_; first | refine h_guard_y rfl nopre rfl ?_ | refine h_guard_n rfl nopre rfl ?_)))
        · refine h_cond_t rfl rfl ?_; (repeat (refine R_ret ?_))
          have e : addAndL y.n a b = (y.n, b) := by unfold addAndL; rw [if_neg e0, if_pos (.inl h4)]
          rw [e]
          exact ⟨y.aa, y.ac, rfl, hp⟩
        · refine h_cond_dec (fun h5 => ?_) (fun h5 => ?_)
          · refine h_cond_t rfl rfl ?_; (repeat (refine R_ret ?_))
            have e : addAndL y.n a b = (y.n, b) := by unfold addAndL; rw [if_neg e0, if_pos (.inr h5)]
            rw [e]
            exact ⟨y.aa, y.ac, rfl, hp⟩
          · refine h_cond_f rfl rfl ?_; skip
            refine h_cond_dec (fun h6 => ?_) (fun h6 => ?_)
            · refine h_cond_t rfl rfl ?_; (repeat (refine R_ret ?_))
              have e : addAndL y.n a b = (y.n, a) := by unfold addAndL; rw [if_neg e0, if_neg (fun h => h.elim h4 h5), if_pos h6]
              rw [e]
              exact ⟨y.aa, y.ac, rfl, hp⟩
            · have e1 : addAndL y.n a b = if y.ands.idxOf (min a b, max a b) < y.ands.length then (y.n, 2 * (firstAndL y.n + (y.ands.idxOf (min a b, max a b) : Nat)))
                  else if 300 ≤ y.ands.length then (y.n, -1) else ({ y.n with ands := y.ands ++ [(min a b, max a b)] }, 2 * nodesL y.n) := by
                unfold addAndL; rw [if_neg e0, if_neg (fun h => h.elim h4 h5), if_neg h6]; rfl
              refine h_cond_f rfl rfl ?_; skip
              (first | (refine H_box hp ?_; intro w b7 hx hp) | (refine H_alloc hp rfl ?_; intro w b7 hx hp)); refine ops_run nopre rfl ?_; (repeat (first | (refine gLoad ?_; refine H_ldB hp rfl rfl ?_) | (refine gStore ?_; refine U_stBN hp rfl rfl rfl rfl ?_; intro w hp; refine ops_run nopre rfl ?_)))
              refine h_loop [0, 7, 46, 47, 48] (fun (i : Nat) => [(0, .pointer (some ⟨p, 0, none⟩)), (7, .pointer (some ⟨b7, 0, none⟩)), (46, .slice y.aa y.ands.length y.ac), (47, .int .i64 y.ands.length), (48, .int .i64 (i : Int))])
                (fun i w' => i ≤ y.ands.length ∧ (∀ j, j < i → y.ands.getD j default ≠ (min a b, max a b)) ∧ Hp w0 w' (rB b7 66 (eII (min a b, max a b)) :: rB p 28 y.cs :: rO 66 2 eII y.aa y.ac y.ands :: L)) (fun i => y.ands.length - i) 0 rfl ⟨by omega, fun j hj => by omega, hp⟩ ?_
              rintro i w2 ⟨hi, hne, hp⟩ IH C
              refine h_run rfl ?_; skip
              refine h_cond_dec (fun hlt => ?_) (fun hlt => ?_)
              · have hlt' : i < y.ands.length := by omega
                refine h_cond_t rfl rfl ?_; (repeat (refine H_ldEN hp rfl (by omega) rfl rfl ?_))
                (first | (refine H_box hp ?_; intro w b9 hx hp) | (refine H_alloc hp rfl ?_; intro w b9 hx hp)); refine ops_run nopre rfl ?_; (repeat (first | (refine gLoad ?_; refine H_ldB hp rfl rfl ?_) | (refine gStore ?_; refine U_stBN hp rfl rfl rfl rfl ?_; intro w hp; refine ops_run nopre rfl ?_)))
                refine h_cond_b (fun he => ?_) (fun he => ?_)
                · have he : y.ands.getD i default = (min a b, max a b) := by
                    simp only [Bool.and_true, Bool.and_eq_true, decide_eq_true_eq] at he
                    first | exact Prod.ext he.1 he.2 | exact Prod.ext he.1.symm he.2.symm
                  have hix := idxOf_at hne hlt' he
                  refine h_cond_t rfl rfl ?_; (repeat (refine H_ldB hp rfl rfl ?_))
                  have hfb := firstAndL_eq y
                  obtain ⟨g1, g2, g3⟩ := id hb
                  refine h_call rfl Try.func38 (by kernel_rfl) rfl (firstAnd_h y _ hb) ?_; rintro _ w ⟨rfl, hx⟩; have hp := hp.ext hx; refine ops_run nopre rfl ?_; (repeat (refine R_ret ?_))
                  rw [e1, hix, if_pos hlt']
                  skip
                  exact ⟨y.aa, y.ac, rfl, hp.drop.drop⟩
                · have he : y.ands.getD i default ≠ (min a b, max a b) := fun h2 => by
                    simp only [Bool.and_true, Bool.and_eq_false_iff, decide_eq_false_iff_not] at he
                    rcases he with he | he <;> exact he (by rw [h2])
                  refine h_cond_f rfl rfl ?_; skip
                  refine IH (i + 1) _ _ _ (by omega) rfl ⟨by omega, fun j hj => ?_, hp.drop⟩
                  by_cases hj2 : j < i
                  · exact hne j hj2
                  · obtain rfl : j = i := by omega
                    exact he
              · obtain rfl : i = y.ands.length := by omega
                have hix := idxOf_none hne
                refine h_cond_f rfl rfl ?_; (repeat (refine H_ldB hp rfl rfl ?_))
                refine h_cond_dec (fun h7 => ?_) (fun h7 => ?_)
                · refine h_cond_t rfl rfl ?_; (repeat (refine R_ret ?_))
                  rw [e1, if_neg hix, if_pos (by omega)]
                  exact ⟨y.aa, y.ac, rfl, hp.drop⟩
                · refine h_cond_f rfl rfl ?_; skip
                  refine D_draw hp (by kernel_rfl) (by kernel_rfl) rfl rfl ?_; intro w hx hp; have hs := hp; (repeat (refine D_ldB rfl rfl rfl ?_))
                  refine D_lit (fun _ hx => hs.ext hx) hp eII [(min a b, max a b)] rfl rfl rfl rfl (s := 2) rfl (by decide) (by infer_instance) (by rfl) (by rfl) (by rfl) (by decide) ?_; intro w b8 hx hp; have hs := hs.ext hx; refine D_ops rfl rfl ?_; skip
                  refine V_append hp rfl rfl rfl rfl rfl rfl rfl (by decide) rfl (by first | omega | (simp only [List.length_append, List.length_cons, List.length_nil, List.length_take, List.length_drop, List.length_set, List.length_replicate, List.length_map]; omega)) rfl rfl (by kernel_rfl) ?_; intro b' c' w hp hnil; refine D_ops rfl rfl ?_; (repeat (refine V_stB hp rfl rfl rfl rfl (by kernel_rfl) ?_; intro w hp; refine D_ops rfl rfl ?_))
                  have hb3 : NetB (y.wA b' c' (y.ands ++ [(min a b, max a b)])) := ⟨hb.1, hb.2, by show (y.ands ++ _).length ≤ _; simp; omega⟩
                  have hnd : nodesL (y.wA b' c' (y.ands ++ [(min a b, max a b)])).n = nodesL y.n + 1 := by rw [nodesL_eq, nodesL_eq]; show 1 + y.inputs + y.seqs.length + ((y.ands ++ _).length : Nat) = _; simp; omega
                  have hnd2 := nodesL_eq y
                  obtain ⟨g1, g2, g3⟩ := id hb
                  (repeat (refine H_ldB hp rfl rfl ?_))
                  refine h_call rfl Try.func56 (by kernel_rfl) rfl (nodeCount_h (y.wA b' c' (y.ands ++ [(min a b, max a b)])) _ hb3) ?_; rintro _ w ⟨rfl, hx⟩; have hp := hp.ext hx; refine ops_run nopre rfl ?_; (repeat (refine R_ret ?_))
                  rw [e1, if_neg hix, if_neg (by omega)]
                  refine ⟨b', c', by congr 1; omega, ?_⟩
                  exact hp.drop.drop
/-- the same with a frame written as an append -/
theorem addAnd_F (y : NetA) (p : Nat) (a b : Int) {w0 w : World} {L F : List Res} (hp : Hp w0 w ((rB p 28 y.cs :: rO 66 2 eII y.aa y.ac y.ands :: L) ++ F)) (hb : NetB y) (hl : y.ands.length ≤ 1000000) (ha : 0 ≤ a ∧ a ≤ 1000000) (hb2 : 0 ≤ b ∧ b ≤ 1000000) :
    Ret Try.prog 67 [.pointer (some ⟨p, 0, none⟩), .int .i64 a, .int .i64 b] w (fun v w' => ∃ aa ac, v = .int .i64 (addAndL y.n a b).2 ∧ Hp w0 w' ((rB p 28 (y.wA aa ac (addAndL y.n a b).1.ands).cs :: rO 66 2 eII aa ac (addAndL y.n a b).1.ands :: L) ++ F)) :=
  addAnd_h (L := L ++ F) y p a b hp hb hl ha hb2
theorem addOr_h (y : NetA) (p : Nat) (a b : Int) {w0 w : World} {L : List Res} (hp : Hp w0 w (rB p 28 y.cs :: rO 66 2 eII y.aa y.ac y.ands :: L)) (hok : NetOkP y.n) (ha : litP a (nodesL y.n)) (hb : litP b (nodesL y.n)) :
    Ret Try.prog 98 [.pointer (some ⟨p, 0, none⟩), .int .i64 a, .int .i64 b] w (fun v w' => ∃ aa ac, v = .int .i64 (addOrL y.n a b).2 ∧ Hp w0 w' (rB p 28 (y.wA aa ac (addOrL y.n a b).1.ands).cs :: rO 66 2 eII aa ac (addOrL y.n a b).1.ands :: L)) := by
  have hc := hok.count
  have hs := hok.size'
  have ha' := ha
  have hb' := hb
  unfold litP at ha' hb'
  have na := notL_b ha'.1 (by omega)
  have nb := notL_b hb'.1 (by omega)
  have la := litP_not ha (by omega)
  have lb := litP_not hb (by omega)
  have g := good_and hok la lb
  have gb := g.b
  refine enter Try.S98ok _ _ rfl rfl (by show _ ≤ _; simp only [List.length]; decide) (fun C => ?_); refine h_run rfl ?_; skip
  refine h_call rfl Try.func67 (by kernel_rfl) rfl (addAnd_h y p (notL a) (notL b) hp hok.b (by omega) (by omega) (by omega)) ?_; rintro _ w ⟨aa, ac, rfl, hp⟩; refine ops_run nopre rfl ?_; skip
  refine h_cond_dec (fun h0 => ?_) (fun h0 => ?_)
  · refine h_cond_t rfl rfl ?_; (repeat (refine R_ret ?_))
    have e : addOrL y.n a b = ((addAndL y.n (notL a) (notL b)).1, -1) := by unfold addOrL orL; rw [if_pos h0]
    rw [e]
    exact ⟨aa, ac, rfl, hp⟩
  · refine h_cond_f rfl rfl ?_; (repeat (refine R_ret ?_))
    have e : addOrL y.n a b = ((addAndL y.n (notL a) (notL b)).1, notL (addAndL y.n (notL a) (notL b)).2) := by unfold addOrL orL; rw [if_neg h0]
    rw [e]
    exact ⟨aa, ac, rfl, hp⟩

end Go.Proofs
end
section
/- Values of nodes, packed values, steps and runs of a net, as plain data; no condition. -/
namespace Go.Xw

def bitI (inp : Int) (k : Nat) : Int := bits .and .i64 (inp / 2 ^ k) 1
def litV (V : List Int) (l : Int) : Int := bits .xor .i64 (V.getD (l / 2).toNat default) (bits .and .i64 l 1)
def inTo (n : NetL) (inp : Int) : Nat → List Int
  | 0 => List.replicate (nds n) 0
  | k + 1 => (inTo n inp k).set (1 + k) (bitI inp k)
def stTo (n : NetL) (st : List Int) (inp : Int) : Nat → List Int
  | 0 => inTo n inp n.inputs.toNat
  | k + 1 => (stTo n st inp k).set (1 + n.inputs.toNat + k) (bits .and .i64 (st.getD k default) 1)
def vTo (n : NetL) (st : List Int) (inp : Int) : Nat → List Int
  | 0 => stTo n st inp st.length
  | i + 1 => (vTo n st inp i).set (fst_ n + i) (bits .and .i64 (litV (vTo n st inp i) (n.ands.getD i default).1) (litV (vTo n st inp i) (n.ands.getD i default).2))
def valsL (n : NetL) (st : List Int) (inp : Int) : List Int := vTo n st inp n.ands.length

theorem inTo_len (n : NetL) (inp : Int) (k : Nat) : (inTo n inp k).length = nds n := by
  induction k with
  | zero => simp [inTo]
  | succ k ih => simp [inTo, ih]
theorem stTo_len (n : NetL) (st : List Int) (inp : Int) (k : Nat) : (stTo n st inp k).length = nds n := by
  induction k with
  | zero => simp [stTo, inTo_len]
  | succ k ih => simp [stTo, ih]
theorem vTo_len (n : NetL) (st : List Int) (inp : Int) (k : Nat) : (vTo n st inp k).length = nds n := by
  induction k with
  | zero => simp [vTo, stTo_len]
  | succ k ih => simp [vTo, ih]
theorem valsL_len (n : NetL) (st : List Int) (inp : Int) : (valsL n st inp).length = nds n := vTo_len _ _ _ _

def is01 (z : Int) : Prop := z = 0 ∨ z = 1
def All01 (V : List Int) : Prop := ∀ j, is01 (V.getD j default)
theorem All01.set {V : List Int} (h : All01 V) {i : Nat} {z : Int} (hz : is01 z) : All01 (V.set i z) := by
  intro j
  have hj := h j
  simp only [List.getD_eq_getElem?_getD, List.getElem?_set] at hj ⊢
  split
  · split
    · exact hz
    · exact .inl rfl
  · exact hj
theorem and1_01 (z : Int) : is01 (bits .and .i64 z 1) := by rw [bits_and_one]; unfold is01; omega
theorem litV_01 {V : List Int} (h : All01 V) (l : Int) : is01 (litV V l) := by
  unfold litV
  rw [xor_01 (h _) (and1_01 l)]
  unfold is01
  split <;> simp
theorem and_is01 {a b : Int} (ha : is01 a) (hb : is01 b) : is01 (bits .and .i64 a b) := by
  rw [and_01 ha hb]; unfold is01; split <;> simp
theorem inTo_01 (n : NetL) (inp : Int) : ∀ k, All01 (inTo n inp k)
  | 0 => fun j => by
    simp only [inTo, List.getD_eq_getElem?_getD, List.getElem?_replicate]
    split
    · exact .inl rfl
    · exact .inl rfl
  | k + 1 => (inTo_01 n inp k).set (and1_01 _)
theorem stTo_01 (n : NetL) (st : List Int) (inp : Int) : ∀ k, All01 (stTo n st inp k)
  | 0 => inTo_01 _ _ _
  | k + 1 => (stTo_01 n st inp k).set (and1_01 _)
theorem vTo_01 (n : NetL) (st : List Int) (inp : Int) : ∀ k, All01 (vTo n st inp k)
  | 0 => stTo_01 _ _ _ _
  | k + 1 => (vTo_01 n st inp k).set (and_is01 (litV_01 (vTo_01 n st inp k) _) (litV_01 (vTo_01 n st inp k) _))
theorem valsL_01 (n : NetL) (st : List Int) (inp : Int) : All01 (valsL n st inp) := vTo_01 _ _ _ _

/-- the values of literals as one number -/
def packTo (V : List Int) (ls : List Int) : Nat → Int
  | 0 => 0
  | k + 1 => packTo V ls k + litV V (ls.getD k default) * 2 ^ k
def packL (V : List Int) (ls : List Int) : Int := packTo V ls ls.length
theorem packTo_lt {V : List Int} (h : All01 V) (ls : List Int) : ∀ k, 0 ≤ packTo V ls k ∧ packTo V ls k < 2 ^ k
  | 0 => by simp [packTo]
  | k + 1 => by
    have h1 := packTo_lt h ls k
    exact bit_add_lt h1.1 h1.2 (litV_01 h _)
theorem packTo_or {V : List Int} (h : All01 V) (ls : List Int) {k : Nat} (hk : k ≤ 61) : bits .or .i64 (packTo V ls k) (litV V (ls.getD k default) * 2 ^ k) = packTo V ls (k + 1) :=
  or_bit (packTo_lt h ls k).1 (packTo_lt h ls k).2 (litV_01 h _) hk
end Go.Xw
end
