/- Values of nodes, packed values, steps and runs of a net, as plain data; no condition. -/
import Derived.Test.YtbjgekllkfnjnaaReachLaw
import Derived.Test.YtbjgekllkfnjnaaBits
set_option linter.all false
namespace Go.Xw

def bitI (inp : Int) (k : Nat) : Int := bits .and .i64 (inp / 2 ^ k) 1
def litV (V : List Int) (l : Int) : Int := bits .xor .i64 (V.getD (l / 2).toNat default) (bits .and .i64 l 1)
def inTo (n : NetL) (inp : Int) : Nat → List Int
  | 0 => List.replicate (nds n) 0
  | k + 1 => (inTo n inp k).set (1 + k) (bitI inp k)
def stTo (n : NetL) (st : List Int) (inp : Int) : Nat → List Int
  | 0 => inTo n inp n.inputs.toNat
  | k + 1 => (stTo n st inp k).set (1 + n.inputs.toNat + k) (bits .and .i64 (st.getD k default) 1)
def vTo (n : NetL) (st : List Int) (inp : Int) : Nat → List Int
  | 0 => stTo n st inp st.length
  | i + 1 => (vTo n st inp i).set (fst_ n + i) (bits .and .i64 (litV (vTo n st inp i) (n.ands.getD i default).1) (litV (vTo n st inp i) (n.ands.getD i default).2))
def valsL (n : NetL) (st : List Int) (inp : Int) : List Int := vTo n st inp n.ands.length

theorem inTo_len (n : NetL) (inp : Int) (k : Nat) : (inTo n inp k).length = nds n := by
  induction k with
  | zero => simp [inTo]
  | succ k ih => simp [inTo, ih]
theorem stTo_len (n : NetL) (st : List Int) (inp : Int) (k : Nat) : (stTo n st inp k).length = nds n := by
  induction k with
  | zero => simp [stTo, inTo_len]
  | succ k ih => simp [stTo, ih]
theorem vTo_len (n : NetL) (st : List Int) (inp : Int) (k : Nat) : (vTo n st inp k).length = nds n := by
  induction k with
  | zero => simp [vTo, stTo_len]
  | succ k ih => simp [vTo, ih]
theorem valsL_len (n : NetL) (st : List Int) (inp : Int) : (valsL n st inp).length = nds n := vTo_len _ _ _ _

def is01 (z : Int) : Prop := z = 0 ∨ z = 1
def All01 (V : List Int) : Prop := ∀ j, is01 (V.getD j default)
theorem All01.set {V : List Int} (h : All01 V) {i : Nat} {z : Int} (hz : is01 z) : All01 (V.set i z) := by
  intro j
  have hj := h j
  simp only [List.getD_eq_getElem?_getD, List.getElem?_set] at hj ⊢
  split
  · split
    · exact hz
    · exact .inl rfl
  · exact hj
theorem and1_01 (z : Int) : is01 (bits .and .i64 z 1) := by rw [bits_and_one]; unfold is01; omega
theorem litV_01 {V : List Int} (h : All01 V) (l : Int) : is01 (litV V l) := by
  unfold litV
  rw [xor_01 (h _) (and1_01 l)]
  unfold is01
  split <;> simp
theorem and_is01 {a b : Int} (ha : is01 a) (hb : is01 b) : is01 (bits .and .i64 a b) := by
  rw [and_01 ha hb]; unfold is01; split <;> simp
theorem inTo_01 (n : NetL) (inp : Int) : ∀ k, All01 (inTo n inp k)
  | 0 => fun j => by
    simp only [inTo, List.getD_eq_getElem?_getD, List.getElem?_replicate]
    split
    · exact .inl rfl
    · exact .inl rfl
  | k + 1 => (inTo_01 n inp k).set (and1_01 _)
theorem stTo_01 (n : NetL) (st : List Int) (inp : Int) : ∀ k, All01 (stTo n st inp k)
  | 0 => inTo_01 _ _ _
  | k + 1 => (stTo_01 n st inp k).set (and1_01 _)
theorem vTo_01 (n : NetL) (st : List Int) (inp : Int) : ∀ k, All01 (vTo n st inp k)
  | 0 => stTo_01 _ _ _ _
  | k + 1 => (vTo_01 n st inp k).set (and_is01 (litV_01 (vTo_01 n st inp k) _) (litV_01 (vTo_01 n st inp k) _))
theorem valsL_01 (n : NetL) (st : List Int) (inp : Int) : All01 (valsL n st inp) := vTo_01 _ _ _ _

/-- the values of literals as one number -/
def packTo (V : List Int) (ls : List Int) : Nat → Int
  | 0 => 0
  | k + 1 => packTo V ls k + litV V (ls.getD k default) * 2 ^ k
def packL (V : List Int) (ls : List Int) : Int := packTo V ls ls.length
theorem packTo_lt {V : List Int} (h : All01 V) (ls : List Int) : ∀ k, 0 ≤ packTo V ls k ∧ packTo V ls k < 2 ^ k
  | 0 => by simp [packTo]
  | k + 1 => by
    have h1 := packTo_lt h ls k
    exact bit_add_lt h1.1 h1.2 (litV_01 h _)
theorem packTo_or {V : List Int} (h : All01 V) (ls : List Int) {k : Nat} (hk : k ≤ 61) : bits .or .i64 (packTo V ls k) (litV V (ls.getD k default) * 2 ^ k) = packTo V ls (k + 1) :=
  or_bit (packTo_lt h ls k).1 (packTo_lt h ls k).2 (litV_01 h _) hk
end Go.Xw
