/- The engine: a small evaluator for the model's code over a list of known slots, with its soundness; no condition. -/
import Derived.Test.YtiepmliokblkjaaGreatLex
set_option linter.all false
namespace Go.Xw
open Go.RowKit
abbrev Env := List (Nat × Value)
def look : Env → Nat → Option Value
 | [], _ => none
 | (s, v) :: r, t => match Nat.beq s t with
  | true => some v
  | false => look r t
def ev (env : Env) : Operand → Option Value
 | .tmp t => look env t
 | .const v => some v
 | .global g => some (.pointer (some ⟨g, 0, none⟩))
 | .func f => some (.func (.func f) #[] #[])
def evL (env : Env) : List Operand → Option (List Value)
 | [] => some []
 | x :: r => match ev env x with
  | some v => match evL env r with
   | some vs => some (v :: vs)
   | none => none
  | none => none
inductive D where
 | int (k : IntKind) | bool | string | slice (e : TypeId) | struct (fs : List (Nat × TypeId)) | array (n : Nat) (e : TypeId) | pointer (e : TypeId) | map (k e : TypeId) | other
def toD : TypeDesc → D
 | .int k => .int k
 | .bool => .bool
 | .string => .string
 | .slice e => .slice e
 | .struct fs => .struct (fs.toList.map fun f => (f.offset, f.type))
 | .array n e => .array n e
 | .pointer e => .pointer e
 | .map k e => .map k e
 | _ => .other
structure TI where
 desc : D
 size : Nat
 bytes : Nat
 zero : Value
 plain : Bool
abbrev TT := List (Nat × TI)
def tl : TT → Nat → Option TI
 | [], _ => none
 | (s, v) :: r, t => match Nat.beq s t with
  | true => some v
  | false => tl r t
theorem toD_int {d : TypeDesc} {k : IntKind} (h : toD d = .int k) : d = .int k := by cases d <;> simp_all [toD]
theorem toD_bool {d : TypeDesc} (h : toD d = .bool) : d = .bool := by cases d <;> simp_all [toD]
theorem toD_slice {d : TypeDesc} {e : TypeId} (h : toD d = .slice e) : d = .slice e := by cases d <;> simp_all [toD]
theorem toD_array {d : TypeDesc} {n : Nat} {e : TypeId} (h : toD d = .array n e) : d = .array n e := by cases d <;> simp_all [toD]
theorem toD_struct {d : TypeDesc} {fs : List (Nat × TypeId)} (h : toD d = .struct fs) : ∃ gs, d = .struct gs ∧ gs.toList.map (fun f => (f.offset, f.type)) = fs := by
 cases d <;> simp_all [toD]
def named : TypeDesc → Prop
 | .struct fs => ∀ f ∈ fs.toList, (f.name == "_") = false
 | _ => True
def tiOk (P : Program) (t : TypeId) (i : TI) : Prop :=
 ∃ info d, P.info? t = some info ∧ info.size = i.size ∧ info.bytes = i.bytes ∧ info.zero = some i.zero ∧ P.underlying t = some d ∧ toD d = i.desc ∧ (i.plain = true → P.stoodInHeld t = false ∧ P.eqGuardType P.depth t = false ∧ named d)
def TTok (P : Program) : TT → Prop
 | [] => True
 | (t, i) :: r => tiOk P t i ∧ TTok P r
theorem TTok.get {P : Program} : ∀ {tt : TT} {t : Nat} {i : TI}, TTok P tt → tl tt t = some i → tiOk P t i
 | [], _, _, _, h => by simp [tl] at h
 | (s, v) :: r, t, i, hok, h => by
  unfold tl at h
  split at h
  ·rename_i hb
   obtain rfl := Nat.eq_of_beq_eq_true hb
   injection h with h
   subst h
   exact hok.1
  ·exact TTok.get hok.2 h
def All : List Prop → Prop
 | [] => True
 | [p] => p
 | p :: q :: r => p ∧ All (q :: r)
theorem All_cons {p : Prop} {r : List Prop} : All (p :: r) ↔ p ∧ All r := by
 cases r with
 | nil => simp [All]
 | cons q r => simp [All]
def elemAddr (a : Option Addr) (sz : Nat) (z : Int) : Addr := (a.getD ⟨0, 0, none⟩).add (z.toNat * sz)
def IdxOk (a : Option Addr) (n : Nat) (z : Int) : Prop := 0 ≤ z ∧ z < n ∧ a ≠ none
def addA : Addr → Nat → Addr
 | ⟨b, o, none⟩, n => ⟨b, o + n, none⟩
 | a, n => a.add n
theorem addA_eq (a : Addr) (n : Nat) : addA a n = a.add n := by
 obtain ⟨b, o, s⟩ := a
 cases s with
 | none => by_cases h : n = 0 <;> simp [addA, Addr.add, h]
 | some s => rfl
def Ob : Option Prop → Prop
 | none => True
 | some p => p
def kEq : IntKind → IntKind → Bool
 | .i64, .i64 => true
 | .u8, .u8 => true
 | .u64, .u64 => true
 | .i32, .i32 => true
 | .u32, .u32 => true
 | _, _ => false
theorem kEq_spec {k k' : IntKind} (h : kEq k k' = true) : k = k' := by
 cases k <;> cases k' <;> first | rfl | (simp [kEq] at h)
def binI (wr : Bool) (op : BinOp) (k : IntKind) (a b : Int) : Option (Value × Option Prop) :=
 match op with
 | .add => match wr with
  | true => some (.int k (k.wrap (a + b)), none)
  | false => some (.int k (a + b), some (k.wrap (a + b) = a + b))
 | .sub => match wr with
  | true => some (.int k (k.wrap (a - b)), none)
  | false => some (.int k (a - b), some (k.wrap (a - b) = a - b))
 | .mul => match wr with
  | true => some (.int k (k.wrap (a * b)), none)
  | false => some (.int k (a * b), some (k.wrap (a * b) = a * b))
 | .quo => match wr with
  | true => some (.int k (k.wrap (a.tdiv b)), some (b ≠ 0))
  | false => some (.int k (a / b), some (0 ≤ a ∧ 0 < b ∧ k.wrap (a / b) = a / b))
 | .rem => match wr with
  | true => some (.int k (a.tmod b), some (b ≠ 0))
  | false => some (.int k (a % b), some (0 ≤ a ∧ 0 < b))
 | .and => some (.int k (bits .and k a b), none)
 | .or => some (.int k (bits .or k a b), none)
 | .xor => some (.int k (bits .xor k a b), none)
 | .andNot => some (.int k (bits .andNot k a b), none)
 | .eql => some (.bool (decide (a = b)), none)
 | .neq => some (.bool (decide (a ≠ b)), none)
 | .lss => some (.bool (decide (a < b)), none)
 | .leq => some (.bool (decide (a ≤ b)), none)
 | .gtr => some (.bool (decide (b < a)), none)
 | .geq => some (.bool (decide (b ≤ a)), none)
 | _ => none
def binV (wr : Bool) (op : BinOp) (x y : Value) : Option (Value × Option Prop) :=
 match x with
 | .int k a => match y with
  | .int k' b => match op with
   | .shl => match wr with
    | true => some (.int k (k.wrap (a * 2 ^ (min b.toNat k.bits))), some (0 ≤ b))
    | false => some (.int k (a * 2 ^ b.toNat), some (0 ≤ b ∧ b ≤ k.bits ∧ k.wrap (a * 2 ^ b.toNat) = a * 2 ^ b.toNat))
   | .shr => match wr with
    | true => some (.int k (a.fdiv (2 ^ (min b.toNat k.bits))), some (0 ≤ b))
    | false => some (.int k (a / 2 ^ b.toNat), some (0 ≤ b ∧ b ≤ k.bits))
   | op => match kEq k k' with
    | true => binI wr op k a b
    | false => none
  | _ => none
 | .string a => match y with
  | .string b => match op with
   | .eql => some (.bool (a == b), none)
   | .neq => some (.bool (!(a == b)), none)
   | _ => none
  | _ => none
 | _ => none
theorem intBits_run {P : Program} {w : World} {op : BinOp} {k : IntKind} {a b : Int} (h : op = .and ∨ op = .or ∨ op = .xor ∨ op = .andNot) :
  (Op.intBits op k a b).run P w = .ok (.int k (bits op k a b)) w := by
 rcases h with rfl | rfl | rfl | rfl <;> simp [go_sem]
theorem binI_sound {wr : Bool} {P : Program} {w : World} {op : BinOp} {t : TypeId} {k : IntKind} {a b : Int} {v : Value} {obl : Option Prop}
  (hs : op ≠ .shl ∧ op ≠ .shr) (h : binI wr op k a b = some (v, obl)) (ho : Ob obl) : (binOp op t (.int k a) (.int k b)).run P w = .ok v w := by
 obtain ⟨h1, h2⟩ := hs
 have td : ∀ (a b : Int), 0 ≤ a → 0 < b → a.tdiv b = a / b := fun a b h0 _ => Int.tdiv_eq_ediv_of_nonneg h0
 have tm : ∀ (a b : Int), 0 ≤ a → 0 < b → a.tmod b = a % b := fun a b h0 _ => Int.tmod_eq_emod_of_nonneg h0
 cases op <;> simp only [binI] at h <;> first | contradiction | skip
 all_goals (try (cases wr <;> simp only at h))
 all_goals (injection h with h; injection h with e1 e2; subst e1; subst e2)
 all_goals simp only [Ob] at ho
 all_goals first
  | (simp [binOp, Op.intArith]; done)
  | (simp [binOp, Op.intArith, ho]; done)
  | (simp [binOp, Op.intDiv, ho]; done)
  | (simp [binOp, Op.intCmp]; done)
  | (simp [binOp]; exact intBits_run (by simp))
  | (simp [binOp, Op.intCmp]; rfl)
  | (obtain ⟨o1, o2, o3⟩ := ho
     have hb : b ≠ 0 := by omega
     simp [binOp, Op.intDiv, hb, td a b o1 o2, o3]; done)
  | (obtain ⟨o1, o2⟩ := ho
     have hb : b ≠ 0 := by omega
     simp [binOp, Op.intDiv, hb, tm a b o1 o2]; done)
theorem binV_sound {wr : Bool} {P : Program} {w : World} {op : BinOp} {t : TypeId} {x y v : Value} {obl : Option Prop}
  (h : binV wr op x y = some (v, obl)) (ho : Ob obl) : (binOp op t x y).run P w = .ok v w := by
 unfold binV at h
 split at h
 ·split at h
  ·split at h
   ·rename_i k a _ k' b _
    split at h
    ·injection h with h; injection h with h1 h2; subst h1; subst h2
     simp only [Ob] at ho
     have hx := Int.not_lt.2 ho
     simp [binOp, Op.shift, hx]
    ·injection h with h; injection h with h1 h2; subst h1; subst h2
     simp only [Ob] at ho
     obtain ⟨o1, o2, o3⟩ := ho
     have hm : min b.toNat k.bits = b.toNat := by omega
     simp [binOp, Op.shift, Int.not_lt.2 o1, hm, o3]
   ·rename_i k a _ k' b _
    split at h
    ·injection h with h; injection h with h1 h2; subst h1; subst h2
     simp only [Ob] at ho
     have hx := Int.not_lt.2 ho
     simp [binOp, Op.shift, hx]
    ·injection h with h; injection h with h1 h2; subst h1; subst h2
     simp only [Ob] at ho
     obtain ⟨o1, o2⟩ := ho
     have hm : min b.toNat k.bits = b.toNat := by omega
     have hp : (0 : Int) ≤ 2 ^ b.toNat := Int.pow_nonneg (by decide)
     simp [binOp, Op.shift, Int.not_lt.2 o1, hm, Int.fdiv_eq_ediv_of_nonneg _ hp]
   ·rename_i hn1 hn2
    split at h
    ·rename_i hk
     obtain rfl := kEq_spec hk
     exact binI_sound ⟨fun e => hn1 e, fun e => hn2 e⟩ h ho
    ·cases h
  ·cases h
 ·split at h
  ·split at h
   ·injection h with h; injection h with h1 h2; subst h1; subst h2
    simp [binOp, Op.stringOp, beq_toListBytes]
   ·injection h with h; injection h with h1 h2; subst h1; subst h2
    simp [binOp, Op.stringOp, beq_toListBytes]
   ·cases h
  ·cases h
 ·cases h
def nthL {α : Type} : List α → Nat → Option α
 | [], _ => none
 | x :: _, 0 => some x
 | _ :: r, n + 1 => nthL r n
theorem nthL_eq {α : Type} (l : List α) (n : Nat) : nthL l n = l[n]? := by
 induction l generalizing n with
 | nil => rfl
 | cons x r ih => cases n with
  | zero => rfl
  | succ n => simp [nthL, ih]
def takeF {α : Type} : Nat → List α → Option (List α)
 | 0, _ => some []
 | _ + 1, [] => none
 | n + 1, x :: r => match takeF n r with
  | some l => some (x :: l)
  | none => none
theorem takeF_eq {α : Type} {n : Nat} {l r : List α} (h : takeF n l = some r) : r = l.take n ∧ n ≤ l.length := by
 induction n generalizing l r with
 | zero => simp [takeF] at h; simp [h]
 | succ n ih =>
  cases l with
  | nil => simp [takeF] at h
  | cons x l =>
   simp only [takeF] at h
   split at h
   ·rename_i l' hl
    injection h with h
    subst h
    obtain ⟨h1, h2⟩ := ih hl
    simp [h1, h2]
   ·cases h
def dropF {α : Type} : Nat → List α → List α
 | 0, l => l
 | _ + 1, [] => []
 | n + 1, _ :: r => dropF n r
theorem dropF_eq {α : Type} (n : Nat) (l : List α) : dropF n l = l.drop n := by
 induction n generalizing l with
 | zero => rfl
 | succ n ih => cases l with
  | nil => rfl
  | cons x r => simp [dropF, ih]
def aggOf (tt : TT) (t : TypeId) : Option Bool :=
 match tl tt t with
 | some i => match i.desc with
  | .struct _ => some true
  | .array _ _ => some true
  | _ => some false
 | none => none
def partV (tt : TT) (t : TypeId) (cs : List Value) (off : Nat) : Option Value :=
 match tl tt t with
 | some i => match aggOf tt t with
  | some true => match takeF i.size (dropF off cs) with
   | some l => some (.agg l.toArray)
   | none => none
  | some false => nthL cs off
  | none => none
 | none => none
theorem isAgg_run {P : Program} {tt : TT} (hok : TTok P tt) {t : TypeId} {b : Bool} (h : aggOf tt t = some b) (w : World) : (isAgg t).run P w = .ok b w := by
 unfold aggOf at h
 split at h
 ·rename_i i hi
  obtain ⟨info, td, h1, h2, h3, h4, h5, htd, h6⟩ := hok.get hi
  split at h <;> injection h with h <;> subst h <;> rename_i hd
  ·obtain ⟨gs, rfl, _⟩ := toD_struct (htd.trans hd)
   simp [isAgg, run_underlying h5]
  ·rw [toD_array (htd.trans hd)] at h5
   simp [isAgg, run_underlying h5]
  ·rename_i hn
   rw [← htd] at hn hd
   cases td <;> first | exact (hn _ rfl).elim | exact (hd _ _ rfl).elim | simp [isAgg, run_underlying h5]
 ·cases h
theorem sizeOf_run {P : Program} {tt : TT} (hok : TTok P tt) {t : TypeId} {i : TI} (h : tl tt t = some i) (w : World) : (sizeOf t).run P w = .ok i.size w := by
 obtain ⟨info, td, h1, h2, h3, h4, h5, htd, h6⟩ := hok.get h
 simp [sizeOf, typeInfo, h1, h2]
theorem under_run {P : Program} {tt : TT} (hok : TTok P tt) {t : TypeId} {i : TI} (h : tl tt t = some i) (w : World) : ∃ d, (underlying t).run P w = .ok d w ∧ toD d = i.desc := by
 obtain ⟨info, td, h1, h2, h3, h4, h5, htd, h6⟩ := hok.get h
 exact ⟨td, run_underlying h5 w, htd⟩
theorem partV_sound {P : Program} {tt : TT} (hok : TTok P tt) {t : TypeId} {cs : List Value} {off : Nat} {v : Value} (h : partV tt t cs off = some v) (w : World) :
  (part t cs.toArray off).run P w = .ok v w := by
 unfold partV at h
 split at h
 ·rename_i i hi
  split at h
  ·rename_i hb
   split at h
   ·rename_i l hl
    injection h with h
    subst h
    obtain ⟨h1, h2⟩ := takeF_eq hl
    rw [dropF_eq] at h1
    simp only [part, Sem.run_bind, isAgg_run hok hb, Result.andThen_ok, if_true, sizeOf_run hok hi, Sem.run_pure]
    rw [h1]
    simp
   ·cases h
  ·rename_i hb
   rw [nthL_eq] at h
   simp only [part, Sem.run_bind, isAgg_run hok hb, Result.andThen_ok, Bool.false_eq_true, if_false]
   simp [h]
  ·cases h
 ·cases h
def overlay : List Value → List Value → Option (List Value)
 | l, [] => some l
 | [], _ :: _ => none
 | _ :: l, v :: vc => match overlay l vc with
  | some r => some (v :: r)
  | none => none
def setSeg : List Value → Nat → List Value → Option (List Value)
 | l, 0, vc => overlay l vc
 | [], _ + 1, _ => none
 | x :: l, o + 1, vc => match setSeg l o vc with
  | some r => some (x :: r)
  | none => none
theorem overlay_eq {l vc r : List Value} (h : overlay l vc = some r) : vc.length ≤ l.length ∧ r = vc ++ l.drop vc.length := by
 induction vc generalizing l r with
 | nil => cases l <;> (simp [overlay] at h; simp [h])
 | cons v vc ih =>
  cases l with
  | nil => simp [overlay] at h
  | cons x l =>
   simp only [overlay] at h
   split at h
   ·rename_i r' hr
    injection h with h
    subst h
    obtain ⟨h1, h2⟩ := ih hr
    simp [h1, h2]
   ·cases h
theorem setSeg_eq {l vc r : List Value} {o : Nat} (h : setSeg l o vc = some r) : o + vc.length ≤ l.length ∧ r = l.take o ++ vc ++ l.drop (o + vc.length) := by
 induction o generalizing l r with
 | zero =>
  have h' : overlay l vc = some r := by cases l <;> simpa [setSeg] using h
  obtain ⟨h1, h2⟩ := overlay_eq h'
  simp [h1, h2]
 | succ o ih =>
  cases l with
  | nil => simp [setSeg] at h
  | cons x l =>
   simp only [setSeg] at h
   split at h
   ·rename_i r' hr
    injection h with h
    subst h
    obtain ⟨h1, h2⟩ := ih hr
    refine ⟨by simp; omega, ?_⟩
    rw [h2, show o + 1 + vc.length = (o + vc.length) + 1 by omega]
    simp
   ·cases h
theorem foldl_seg (vc : List Value) : ∀ (j off : Nat) (cs : Array Value), off + j + vc.length ≤ cs.size →
  ((vc.zipIdx j).foldl (fun cs (x : Value × Nat) => cs.setIfInBounds (off + x.2) x.1) cs).toList = cs.toList.take (off + j) ++ vc ++ cs.toList.drop (off + j + vc.length) := by
 induction vc with
 | nil => intro j off cs _; simp
 | cons v vc ih =>
  intro j off cs h
  simp only [List.zipIdx_cons, List.foldl_cons]
  rw [ih (j + 1) off _ (by simp at h ⊢; omega)]
  simp only [List.length_cons] at h
  have hlt : off + j < cs.toList.length := by simp; omega
  simp only [Array.toList_setIfInBounds]
  rw [List.length_cons, show off + j + (vc.length + 1) = off + (j + 1) + vc.length by omega, List.drop_set_of_lt (by omega)]
  congr 1
  rw [show off + (j + 1) = (off + j) + 1 by omega, List.take_succ_eq_append_getElem (by simpa using hlt), List.take_set_of_le (Nat.le_refl _)]
  simp
def cellsV : Value → List Value
 | .agg ⟨l⟩ => l
 | v => [v]
theorem cellsV_eq (v : Value) : cellsV v = v.cells.toList := by cases v <;> rfl
def fillF (pl : List (Nat × Nat)) : List Value → List (Nat × Value) → Option (List Value)
 | cs, [] => some cs
 | cs, (i, v) :: r => match nthL pl i with
  | some (off, size) => match cellsV v with
   | vc => match Nat.beq vc.length size with
    | true => match setSeg cs off vc with
     | some cs' => fillF pl cs' r
     | none => none
    | false => none
  | none => none
def placesF (tt : TT) : List (Nat × TypeId) → Option (List (Nat × Nat))
 | [] => some []
 | (off, ft) :: r => match tl tt ft with
  | some i => match placesF tt r with
   | some l => some ((off, i.size) :: l)
   | none => none
  | none => none
def evP (env : Env) : List (Nat × Operand) → Option (List (Nat × Value))
 | [] => some []
 | (i, x) :: r => match ev env x with
  | some v => match evP env r with
   | some vs => some ((i, v) :: vs)
   | none => none
  | none => none
def buildV (tt : TT) (t : TypeId) (parts : List (Nat × Value)) : Option Value :=
 match tl tt t with
 | some i => match i.desc with
  | .struct fs => match placesF tt fs with
   | some pl => match fillF pl (cellsV i.zero) parts with
    | some cs => some (.agg ⟨cs⟩)
    | none => none
   | none => none
  | .array 2 e => match tl tt e with
   | some j => match fillF [(0, j.size), (j.size, j.size)] (cellsV i.zero) parts with
    | some cs => some (.agg ⟨cs⟩)
    | none => none
   | none => none
  | _ => none
 | none => none
def eqCells (tt : TT) (cs ds : List Value) : List (Nat × TypeId) → Option Bool
 | [] => some true
 | (off, ft) :: r => match tl tt ft with
  | some i => match i.desc with
   | .int _ => match nthL cs off with
    | some (.int k a) => match nthL ds off with
     | some (.int k' b) => match kEq k k' with
      | true => match eqCells tt cs ds r with
       | some e => some (decide (a = b) && e)
       | none => none
      | false => none
     | _ => none
    | _ => none
   | .bool => match nthL cs off with
    | some (.bool a) => match nthL ds off with
     | some (.bool b) => match eqCells tt cs ds r with
      | some e => some ((a == b) && e)
      | none => none
     | _ => none
    | _ => none
   | _ => none
  | none => none
def eqV (tt : TT) (t : TypeId) (x y : Value) : Option Bool :=
 match tl tt t with
 | some i => match i.desc with
  | .bool => match x with
   | .bool a => match y with
    | .bool b => some (a == b)
    | _ => none
   | _ => none
  | .struct fs => match i.plain with
   | true => match x with
    | .agg ⟨cs⟩ => match y with
     | .agg ⟨ds⟩ => eqCells tt cs ds fs
     | _ => none
    | _ => none
   | false => none
  | _ => none
 | none => none
def unV (op : UnOp) (x : Value) : Option Value :=
 match op with
 | .not => match x with
  | .bool b => some (.bool (!b))
  | _ => none
 | .neg => match x with
  | .int k n => some (.int k (k.wrap (0 - n)))
  | _ => none
 | .xor => match x with
  | .int .i64 n => some (.int .i64 (bits .xor .i64 (-1) n))
  | _ => none
 | _ => none
def fieldOff (tt : TT) (s : TypeId) (f : Nat) : Option (Nat × Nat × TypeId) :=
 match tl tt s with
 | some i => match i.desc with
  | .struct fs => match nthL fs f with
   | some (off, ft) => match tl tt ft with
    | some j => some (off, j.size, ft)
    | none => none
   | none => none
  | _ => none
 | none => none
def evO (env : Env) : Option Operand → Option (Option Value)
 | none => some none
 | some x => match ev env x with
  | some v => some (some v)
  | none => none
def subA (a : Option Addr) (c sz lo : Nat) : Option Addr := if c = lo then a else a.map (·.add (lo * sz))
def sliceV (a : Option Addr) (n c sz : Nat) (lo hi : Option Value) : Option (Value × Option Prop) :=
 match lo with
 | none => match hi with
  | none => some (.slice (subA a c sz 0) (n - 0) (c - 0), none)
  | some (.int _ h) => some (.slice (subA a c sz 0) (h.toNat - 0) (c - 0), some (0 ≤ h ∧ h ≤ c))
  | _ => none
 | some (.int _ l) => match hi with
  | none => some (.slice (subA a c sz l.toNat) (n - l.toNat) (c - l.toNat), some (0 ≤ l ∧ l ≤ n))
  | some (.int _ h) => some (.slice (subA a c sz l.toNat) (h.toNat - l.toNat) (c - l.toNat), some (0 ≤ l ∧ l ≤ h ∧ h ≤ c))
  | _ => none
 | _ => none
def maxV : List Value → Option Value
 | [.int k x, .int _ y] => some (.int k (max x y))
 | _ => none
def minV : List Value → Option Value
 | [.int k x, .int _ y] => some (.int k (min x y))
 | _ => none
def pureV (wr : Bool) (tt : TT) (env : Env) (op : Op) : Option (Value × Option Prop) :=
 match op with
 | .move x => match ev env x with
  | some v => some (v, none)
  | none => none
 | .assign x => match ev env x with
  | some v => some (v, none)
  | none => none
 | .pick c a b => match ev env c with
  | some (.bool true) => match ev env a with
   | some v => some (v, none)
   | none => none
  | some (.bool false) => match ev env b with
   | some v => some (v, none)
   | none => none
  | _ => none
 | .nilCheck x => match ev env x with
  | some (.pointer (some a)) => some (.pointer (some a), none)
  | _ => none
 | .binOp op t x y _ => match ev env x with
  | some a => match ev env y with
   | some b => match binV wr op a b with
    | some r => some r
    | none => match op with
     | .eql => match eqV tt t a b with
      | some e => some (.bool e, none)
      | none => none
     | .neq => match eqV tt t a b with
      | some e => some (.bool (!e), none)
      | none => none
     | _ => none
   | none => none
  | none => none
 | .unOp op _ x => match ev env x with
  | some a => match unV op a with
   | some v => some (v, none)
   | none => none
  | none => none
 | .extract t i => match ev env t with
  | some (.tuple ⟨vs⟩) => match nthL vs i with
   | some v => some (v, none)
   | none => none
  | _ => none
 | .field t x f => match fieldOff tt t f with
  | some (off, _, ft) => match ev env x with
   | some (.agg ⟨cs⟩) => match partV tt ft cs off with
    | some v => some (v, none)
    | none => none
   | _ => none
  | none => none
 | .fieldAddr t x f => match fieldOff tt t f with
  | some (off, size, _) => match Nat.beq size 0 with
   | false => match ev env x with
    | some (.pointer (some a)) => some (.pointer (some (addA a off)), none)
    | _ => none
   | true => none
  | none => none
 | .indexAddr t x ix => match tl tt t with
  | some i => match i.desc with
   | .slice e => match tl tt e with
    | some j => match ev env x with
     | some (.slice a n _) => match ev env ix with
      | some (.int _ z) => some (.pointer (some (elemAddr a j.size z)), some (IdxOk a n z))
      | _ => none
     | _ => none
    | none => none
   | _ => none
  | none => none
 | .convert s d x => match tl tt s with
  | some _ => match tl tt d with
   | some j => match j.desc with
    | .int k => match ev env x with
     | some (.int _ n) => match wr with
      | true => some (.int k (k.wrap n), none)
      | false => some (.int k n, some (k.wrap n = n))
     | _ => none
    | _ => none
   | none => none
  | none => none
 | .build t parts => match evP env parts.toList with
  | some ps => match buildV tt t ps with
   | some v => some (v, none)
   | none => none
  | none => none
 | .makeFunc fn ⟨first⟩ ⟨cap⟩ => match evL env first with
  | some a => match evL env cap with
   | some b => some (.func fn ⟨a⟩ ⟨b⟩, none)
   | none => none
  | none => none
 | .slice t x lo hi none => match tl tt t with
  | some i => match i.desc with
   | .slice e => match tl tt e with
    | some j => match ev env x with
     | some (.slice a n c) => match evO env lo with
      | some lo' => match evO env hi with
       | some hi' => sliceV a n c j.size lo' hi'
       | none => none
      | none => none
     | _ => none
    | none => none
   | _ => none
  | none => none
 | .call { callee := .builtin .len, args := ⟨[x]⟩, argTypes := ⟨[t]⟩ } => match tl tt t with
  | some i => match i.desc with
   | .slice _ => match ev env x with
    | some (.slice _ n _) => some (.int .i64 n, none)
    | _ => none
   | _ => none
  | none => none
 | .call { callee := .builtin .max, args := ⟨xs⟩, argTypes := _ } => match evL env xs with
  | some vs => match maxV vs with
   | some v => some (v, none)
   | none => none
  | none => none
 | .call { callee := .builtin .min, args := ⟨xs⟩, argTypes := _ } => match evL env xs with
  | some vs => match minV vs with
   | some v => some (v, none)
   | none => none
  | none => none
 | _ => none
inductive Action where
 | load (t : TypeId) (ad : Addr)
 | store (t : TypeId) (ad : Addr) (v : Value)
 | call (f : FuncId) (args : List Value)
 | alloc (t : TypeId)
 | box (t : TypeId) (v : Value)
 | buildSlice (t : TypeId) (n : Nat) (parts : List (Nat × Value))
 | makeSlice (t : TypeId) (l c : Value)
 | append (t u ty : TypeId) (s x : Value)
 | copy (t u ty : TypeId) (s x : Value)
def Action.sem : Action → Sem Next
 | .load t ad => do pure (.value (← loadVar t ad))
 | .store t ad v => do storeVar t ad v; pure .skip
 | .call f args => callFunc f ⟨args⟩
 | .alloc t => do pure (.value (← Instr.alloc t true (.tuple #[])))
 | .box t v => do pure (.value (← Instr.box t v))
 | .buildSlice t n parts => do pure (.value (← Instr.buildSlice t n ⟨parts⟩))
 | .makeSlice t l c => do pure (.value (← Instr.makeSlice t l c))
 | .append t u ty s x => do pure (.value (← Builtin.append_ #[t, u] ty #[s, x]))
 | .copy t u ty s x => do pure (.value (← Builtin.copy_ #[t, u] ty #[s, x]))
def actOf (env : Env) (o : Op) (ty : TypeId) : Option Action :=
 match o with
 | .load t p => match ev env p with
  | some (.pointer (some ad)) => some (.load t ad)
  | _ => none
 | .store t p x => match ev env p with
  | some (.pointer (some ad)) => match ev env x with
   | some v => some (.store t ad v)
   | none => none
  | _ => none
 | .alloc t => some (.alloc t)
 | .box t x => match ev env x with
  | some v => some (.box t v)
  | none => none
 | .buildSlice t n ⟨parts⟩ => match evP env parts with
  | some ps => some (.buildSlice t n ps)
  | none => none
 | .makeSlice t l c => match ev env l with
  | some a => match ev env c with
   | some b => some (.makeSlice t a b)
   | none => none
  | none => none
 | .call { callee := .value (.func f), args := ⟨xs⟩, argTypes := _ } => match evL env xs with
  | some vs => some (.call f vs)
  | none => none
 | .call { callee := .value (.tmp t), args := ⟨xs⟩, argTypes := _ } => match look env t with
  | some (.func (.func f) ⟨first⟩ ⟨cap⟩) => match evL env xs with
   | some vs => some (.call f (first ++ vs ++ cap))
   | none => none
  | _ => none
 | .call { callee := .builtin .append, args := ⟨[x, y]⟩, argTypes := ⟨[t, u]⟩ } => match ev env x with
  | some a => match ev env y with
   | some b => some (.append t u ty a b)
   | none => none
  | none => none
 | .call { callee := .builtin .copy, args := ⟨[x, y]⟩, argTypes := ⟨[t, u]⟩ } => match ev env x with
  | some a => match ev env y with
   | some b => some (.copy t u ty a b)
   | none => none
  | none => none
 | _ => none
structure Cont where
 q : Bool
 ops : Array Oper
 rest : List Oper
 dst : Option Nat
 k : List Item
 env : Env
inductive RV where
 | val (v : Value)
 | at_ (t : TypeId) (ad : Addr)
inductive G where
 | code (k : List Item) (env : Env)
 | cond (b : Bool) (k1 k2 : List Item) (env : Env)
 | ops (q : Bool) (ops : Array Oper) (l : List Oper) (k : List Item) (env : Env)
 | guard (q : Bool) (b want : Bool) (ops : Array Oper) (o : Oper) (rest : List Oper) (k : List Item) (env : Env)
 | opx (q : Bool) (ops : Array Oper) (o : Oper) (rest : List Oper) (k : List Item) (env : Env)
 | act (A : Action) (c : Cont)
 | ret (v : Value)
 | retc (l : List RV)
def Agree (env : Env) (a : Act) : Prop := ∀ t v, look env t = some v → a.tmps[t]? = some v
def TodoA (P : Program) (f : FuncId) (R : Value → World → Prop) (k : List Item) (a : Act) (w : World) : Prop :=
 ∀ (b : Frame) (cs : List Frame), b.fn = f → b.kind = .normal →
  ∃ v w' fr, R v w' ∧ Steps P (lone (b.at a k) cs w) (lone fr cs w') ∧ fr.fn = f ∧ fr.leaving P w' (.returned v)
def Post (P : Program) (f : FuncId) (R : Value → World → Prop) (k : List Item) : Exit → Act → World → Prop :=
 fun e a w => e = .normal ∧ TodoA P f R k a w
structure Fits (sz : Nat) (env : Env) (a : Act) : Prop where
 defers : a.defers = []
 size : a.tmps.size = sz
 agree : Agree env a
structure Setting where
 P : Program
 tt : TT
 wr : Bool := false
 f : FuncId
 fn : Func
 live : List Nat
 res : List ResultVar
class Setting.Ok (S : Setting) : Prop where
 tt : TTok S.P S.tt
 fn : S.P.funcs[S.f]? = some S.fn
 res : S.fn.results.toList = S.res
def packV : List Value → Value
 | [v] => v
 | vs => .tuple ⟨vs⟩
def RVs (P : Program) (w : World) : List RV → List Value → Prop
 | [], [] => True
 | .val v :: l, u :: us => u = v ∧ RVs P w l us
 | .at_ t ad :: l, u :: us => (loadVar t ad).run P w = .ok u w ∧ RVs P w l us
 | _, _ => False
def Does (P : Program) (A : Action) (w : World) (Q : Value → World → Prop) : Prop :=
 match A.sem.run P w with
 | .ok (.value v) w' => Q v w'
 | .ok .skip w' => Q undef w'
 | .ok (.enter f args) w' => Calls P f args w' fun e w'' => ∃ v, e = .returned v ∧ Q v w''
 | _ => False
def putE (env : Env) (dst : Option Nat) (v : Value) : Env :=
 match dst with
 | some d => (d, v) :: env
 | none => env
def sfx (ops : Array Oper) (l : List Oper) : List (Oper × Bool) := (flagged ops.toList).drop (ops.toList.length - l.length)
def flagAt (ops : Array Oper) (rest : List Oper) : Bool := match (flagged ops.toList)[ops.toList.length - (rest.length + 1)]? with
 | some x => x.2
 | none => true
def OpsT (S : Setting) (sz : Nat) (R : Value → World → Prop) (C : World → Prop) (q : Bool) (ops : Array Oper) (l : List Oper) (k : List Item) (env : Env) (w : World) : Prop :=
 match q with
 | false => ∀ a, Fits sz env a → wpList S.P ops (Post S.P S.f R k) l a w
 | true => (∃ pre, ops.toList = pre ++ l) ∧ ∀ a, Fits sz env a → wpLex S.P ops C (fun a' w' => TodoA S.P S.f R k a' w') (sfx ops l) a w
def OpxT (S : Setting) (sz : Nat) (R : Value → World → Prop) (C : World → Prop) (q : Bool) (ops : Array Oper) (o : Oper) (rest : List Oper) (k : List Item) (env : Env) (w : World) : Prop :=
 match q with
 | false => ∀ a, Fits sz env a → o.wp S.P a w (wpList S.P ops (Post S.P S.f R k) rest) (Post S.P S.f R k)
 | true => (∃ pre, ops.toList = pre ++ o :: rest) ∧ ∀ a, Fits sz env a → Region.wanted o (yielded ops a.tmps) = true → wpLex S.P ops C (fun a' w' => TodoA S.P S.f R k a' w') (sfx ops (o :: rest)) a w
def isLoadA : Action → Bool
 | .load _ _ => true
 | _ => false
def ActT (S : Setting) (sz : Nat) (R : Value → World → Prop) (C : World → Prop) (A : Action) (c : Cont) (w : World) : Prop :=
 match c.q with
 | false => Does S.P A w fun v w' => OpsT S sz R C false c.ops c.rest c.k (putE c.env c.dst v) w'
 | true => match isLoadA A with
  | true => ∃ v, (∀ w', C w' → A.sem.run S.P w' = .ok (.value v) w') ∧ OpsT S sz R C true c.ops c.rest c.k (putE c.env c.dst v) w
  | false => Does S.P A w fun v w' => (flagAt c.ops c.rest = true → C w') ∧ OpsT S sz R C true c.ops c.rest c.k (putE c.env c.dst v) w'
def Holds (S : Setting) (sz : Nat) (R : Value → World → Prop) (C : World → Prop) (w : World) : G → Prop
 | .code k env => ∀ a, Fits sz env a → TodoA S.P S.f R k a w
 | .cond b k1 k2 env => ∀ a, Fits sz env a → TodoA S.P S.f R (if b then k1 else k2) a w
 | .ops q ops l k env => OpsT S sz R C q ops l k env w
 | .guard q b want ops o rest k env => if b = want then OpxT S sz R C q ops o rest k env w else OpsT S sz R C q ops rest k (putE env o.dst undef) w
 | .opx q ops o rest k env => OpxT S sz R C q ops o rest k env w
 | .act A c => ActT S sz R C A c w
 | .ret v => R v w
 | .retc l => ∃ vs, RVs S.P w l vs ∧ R (packV vs) w
def okDst (sz : Nat) : Option Nat → Bool
 | none => true
 | some d => Nat.blt d sz
def putK {β : Type} (env : Env) (dst : Option Nat) (v : Value) (k : Env → β) : β :=
 match dst with
 | some d => k ((d, v) :: env)
 | none => k env
theorem putK_eq {β : Type} (env : Env) (dst : Option Nat) (v : Value) (k : Env → β) : putK env dst v k = k (putE env dst v) := by
 cases dst <;> rfl
def stepO (q : Bool) (ops : Array Oper) (o : Oper) (rest : List Oper) (k : List Item) (env : Env) : G :=
 match actOf env o.op o.type with
 | some A => .act A ⟨q, ops, rest, o.dst, k, env⟩
 | none => .opx q ops o rest k env
def forceR (g : G) (obl : List Prop) : G × List Prop :=
 match g with
 | .ret v => (.ret v, obl)
 | .retc l => (.retc l, obl)
 | .act A c => (.act A c, obl)
 | g => (g, obl)
theorem forceR_eq (g : G) (obl : List Prop) : forceR g obl = (g, obl) := by cases g <;> rfl
def stepOps (wr : Bool) (tt : TT) (sz : Nat) (q : Bool) (ops : Array Oper) : List Oper → List Item → Env → List Prop → G × List Prop
 | [], k, env, obl => (.code k env, obl)
 | o :: rest, k, env, obl =>
  match okDst sz o.dst with
  | false => (.ops q ops (o :: rest) k env, obl)
  | true => match o.guard with
   | some (j, want) => match ops[j]? with
    | some oj => match oj.dst with
     | some d => match look env d with
      | some (.bool b) => (.guard q b want ops o rest k env, obl)
      | some (.tuple ⟨[]⟩) => putK env o.dst undef fun e => stepOps wr tt sz q ops rest k e obl
      | _ => (.ops q ops (o :: rest) k env, obl)
     | none => (.ops q ops (o :: rest) k env, obl)
    | none => (.ops q ops (o :: rest) k env, obl)
   | none => match pureV wr tt env o.op with
    | some (v, none) => putK env o.dst v fun e => stepOps wr tt sz q ops rest k e obl
    | some (v, some p) => putK env o.dst v fun e => stepOps wr tt sz q ops rest k e (p :: obl)
    | none => forceR (stepO q ops o rest k env) obl
def pruneF (env : Env) : List Nat → Option Env
 | [] => some []
 | t :: r => match pruneF env r with
  | some e => match look env t with
   | some v => some ((t, v) :: e)
   | none => some e
  | none => none
def retF (env : Env) : List ResultVar → Option (List RV)
 | [] => some []
 | .tmp t :: r => match look env t with
  | some v => match retF env r with
   | some l => some (.val v :: l)
   | none => none
  | none => none
 | .cell a t :: r => match look env a with
  | some (.pointer (some ad)) => match retF env r with
   | some l => some (.at_ t ad :: l)
   | none => none
  | _ => none
def valsF : List RV → Option (List Value)
 | [] => some []
 | .val v :: r => match valsF r with
  | some l => some (v :: l)
  | none => none
 | .at_ _ _ :: _ => none
def retG (res : List ResultVar) (k : List Item) (env : Env) : G :=
 match retF env res with
 | some l => match valsF l with
  | some [v] => .ret v
  | some vs => .ret (.tuple ⟨vs⟩)
  | none => .retc l
 | none => .code k env
def run (S : Setting) (sz : Nat) : Nat → G → List Prop → G × List Prop
 | 0, g, obl => (g, obl)
 | n + 1, g, obl => match g with
  | .code [] env => forceR (retG S.res [] env) obl
  | .code (.code .ret :: k) env => forceR (retG S.res (.code .ret :: k) env) obl
  | .code (.code (.seq x y) :: k) env => run S sz n (.code (.code x :: .code y :: k) env) obl
  | .code (.code (.block id c) :: k) env => run S sz n (.code (.code c :: .inBlock id :: k) env) obl
  | .code (.code .skip :: k) env => run S sz n (.code k env) obl
  | .code (.code (.label _) :: k) env => run S sz n (.code k env) obl
  | .code (.inBlock _ :: k) env => run S sz n (.code k env) obl
  | .code (.code (.exit id) :: k) env => match exitTo id k with
   | some k' => run S sz n (.code k' env) obl
   | none => (.code (.code (.exit id) :: k) env, obl)
  | .code (.code (.cond c x y) :: k) env => match ev env c with
   | some (.bool b) => (.cond b (.code x :: k) (.code y :: k) env, obl)
   | _ => (.code (.code (.cond c x y) :: k) env, obl)
  | .code (.code (.region id ops false) :: k) env => match pruneF env S.live with
   | some e => run S sz n (.ops false ops ops.toList k e) obl
   | none => (.code (.code (.region id ops false) :: k) env, obl)
  | .ops q ops l k env => match stepOps S.wr S.tt sz q ops l k env obl with
   | (.code k' env', obl') => run S sz n (.code k' env') obl'
   | (g', obl') => (g', obl')
  | .opx q ops o rest k env => match okDst sz o.dst with
   | false => (.opx q ops o rest k env, obl)
   | true => match pureV S.wr S.tt env o.op with
    | some (v, none) => putK env o.dst v fun e => run S sz n (.ops q ops rest k e) obl
    | some (v, some p) => putK env o.dst v fun e => run S sz n (.ops q ops rest k e) (p :: obl)
    | none => forceR (stepO q ops o rest k env) obl
  | g => (g, obl)
theorem look_agree {env : Env} {a : Act} (h : Agree env a) {t : Nat} {v : Value} (hl : look env t = some v) : a.tmps.getD t undef = v := by
 have h1 := h t v hl
 simp [Array.getD_eq_getD_getElem?, h1]
theorem ev_agree {env : Env} {a : Act} (h : Agree env a) {x : Operand} {v : Value} (hl : ev env x = some v) : a.eval x = v := by
 cases x with
 | tmp t => exact look_agree h hl
 | const c => simpa [ev, Act.eval] using hl
 | global g => simpa [ev, Act.eval] using hl
 | func f => simpa [ev, Act.eval] using hl
theorem evL_agree {env : Env} {a : Act} (h : Agree env a) : ∀ {xs : List Operand} {vs : List Value}, evL env xs = some vs → xs.map a.eval = vs
 | [], _, hl => by simp [evL] at hl; simp [hl]
 | x :: xs, _, hl => by
  simp only [evL] at hl
  split at hl
  ·rename_i v hv
   split at hl
   ·rename_i vs hvs
    injection hl with hl
    subst hl
    simp [ev_agree h hv, evL_agree h hvs]
   ·cases hl
  ·cases hl
theorem evP_agree {env : Env} {a : Act} (h : Agree env a) : ∀ {xs : List (Nat × Operand)} {vs : List (Nat × Value)}, evP env xs = some vs → xs.map (fun (i, x) => (i, a.eval x)) = vs
 | [], _, hl => by simp [evP] at hl; simp [hl]
 | (i, x) :: xs, _, hl => by
  simp only [evP] at hl
  split at hl
  ·rename_i v hv
   split at hl
   ·rename_i vs hvs
    injection hl with hl
    subst hl
    have := evP_agree h hvs
    simp [ev_agree h hv, ← this]
   ·cases hl
  ·cases hl
theorem evO_agree {env : Env} {a : Act} (h : Agree env a) {x : Option Operand} {v : Option Value} (hl : evO env x = some v) : x.map a.eval = v := by
 cases x with
 | none => simpa [evO] using hl
 | some x =>
  simp only [evO] at hl
  split at hl
  ·rename_i u hu
   injection hl with hl
   subst hl
   simp [ev_agree h hu]
  ·cases hl
theorem Fits.put {sz : Nat} {env : Env} {a : Act} (h : Fits sz env a) {dst : Option Nat} (hd : okDst sz dst = true) (v : Value) : Fits sz (putE env dst v) (a.put dst v) := by
 cases dst with
 | none => exact h
 | some d =>
  have hlt : d < sz := by simp [okDst, Nat.blt] at hd; omega
  refine ⟨h.defers, by simp [Act.put, h.size], fun t u hl => ?_⟩
  simp only [putE, look] at hl
  simp only [Act.put]
  split at hl
  ·rename_i hb
   obtain rfl := Nat.eq_of_beq_eq_true hb
   injection hl with hl
   subst hl
   simp [h.size, hlt]
  ·rename_i hb
   have hne : d ≠ t := fun e => by subst e; simp at hb
   rw [Array.getElem?_setIfInBounds_ne hne]
   exact h.agree t u hl
theorem Fits.prune {sz : Nat} {env : Env} {a : Act} (h : Fits sz env a) {live : List Nat} {e : Env} (hp : pruneF env live = some e) : Fits sz e a := by
 refine ⟨h.defers, h.size, ?_⟩
 have key : ∀ (live : List Nat) (e : Env), pruneF env live = some e → ∀ t v, look e t = some v → look env t = some v := by
  intro live
  induction live with
  | nil => intro e hp t v hl; simp [pruneF] at hp; subst hp; simp [look] at hl
  | cons s live ih =>
   intro e hp t v hl
   simp only [pruneF] at hp
   split at hp
   ·rename_i e' he'
    split at hp
    ·rename_i u hu
     injection hp with hp
     subst hp
     simp only [look] at hl
     split at hl
     ·rename_i hb
      obtain rfl := Nat.eq_of_beq_eq_true hb
      injection hl with hl
      subst hl
      exact hu
     ·exact ih _ he' t v hl
    ·injection hp with hp
     subst hp
     exact ih _ he' t v hl
   ·cases hp
 exact fun t v hl => h.agree t v (key live e hp t v hl)
theorem placesF_run {P : Program} {tt : TT} (hok : TTok P tt) : ∀ {fs : List Field} {pl : List (Nat × Nat)}, placesF tt (fs.map fun f => (f.offset, f.type)) = some pl → ∀ (w : World),
  (fs.mapM (m := Sem) fun f => do pure (f.offset, ← sizeOf f.type)).run P w = .ok pl w
 | [], _, h, w => by simp [placesF] at h; subst h; simp
 | f :: fs, pl, h, w => by
  simp only [List.map_cons, placesF] at h
  split at h
  ·rename_i i hi
   split at h
   ·rename_i l hl
    injection h with h
    subst h
    have ih := placesF_run hok hl w
    simp [sizeOf_run hok hi] at ih ⊢
    rw [ih]
    rfl
   ·cases h
  ·cases h
theorem fillF_eq {pl : List (Nat × Nat)} {place : Nat → Option (Nat × Nat)} (hp : ∀ i x, pl[i]? = some x → place i = some x) :
  ∀ {parts : List (Nat × Value)} {cs : List Value} {r : List Value}, fillF pl cs parts = some r → Instr.fill place cs.toArray parts = some r.toArray
 | [], cs, r, h => by simp [fillF] at h; subst h; simp [Instr.fill]
 | (i, v) :: parts, cs, r, h => by
  simp only [fillF] at h
  split at h
  ·rename_i off size hi
   rw [nthL_eq] at hi
   split at h
   ·rename_i hb
    have hsz := Nat.eq_of_beq_eq_true hb
    split at h
    ·rename_i cs' hcs
     obtain ⟨h1, h2⟩ := setSeg_eq hcs
     rw [cellsV_eq] at h1 h2 hsz
     have ih := fillF_eq hp h
     simp only [Instr.fill, hp _ _ hi]
     have hl : v.cells.size = size := by simpa using hsz
     have hf := foldl_seg v.cells.toList 0 off cs.toArray (by simpa using h1)
     have hx : (v.cells.zipIdx.foldl (fun cs (x : Value × Nat) => cs.setIfInBounds (off + x.2) x.1) cs.toArray) = cs'.toArray := by
      apply Array.toList_inj.1
      rw [← Array.foldl_toList, Array.toList_zipIdx]
      rw [hf, h2]
      simp
     have hx' : (v.cells.zipIdx.foldl (fun cs (c, j) => cs.setIfInBounds (off + j) c) cs.toArray) = cs'.toArray := hx
     rw [hx', ih]
     have h3 : off + v.cells.size ≤ cs.length := by simpa using h1
     simp [hl]
     omega
    ·cases h
   ·cases h
  ·cases h
theorem buildV_sound {P : Program} {tt : TT} (hok : TTok P tt) {t : TypeId} {parts : List (Nat × Value)} {v : Value} (h : buildV tt t parts = some v) (w : World) :
  (Instr.build t parts.toArray).run P w = .ok v w := by
 unfold buildV at h
 split at h
 ·rename_i i hi
  obtain ⟨info, td, h1, h2, h3, h4, h5, htd, h6⟩ := hok.get hi
  have hu := run_underlying h5 w
  have hz : (zeroValue t).run P w = .ok i.zero w := by simp [zeroValue, typeInfo, h1, h4]
  split at h
  ·rename_i fs hd
   obtain ⟨gs, rfl, rfl⟩ := toD_struct (htd.trans hd)
   split at h
   ·rename_i pl hpl
    split at h
    ·rename_i cs hcs
     injection h with h
     subst h
     have hm := placesF_run hok hpl w
     have hf := fillF_eq (place := fun i => pl.toArray[i]?) (fun i x hx => by simpa using hx) hcs
     rw [cellsV_eq, Array.toArray_toList] at hf
     simp only [Instr.build, Sem.run_bind, hz, Result.andThen_ok, hu]
     rw [Array.mapM_eq_mapM_toList]
     simp only [Sem.run_map, hm, Result.andThen_ok]
     rw [hf]
     simp
    ·cases h
   ·cases h
  ·rename_i e hd
   obtain rfl := toD_array (htd.trans hd)
   split at h
   ·rename_i j hj
    split at h
    ·rename_i cs hcs
     injection h with h
     subst h
     have hf := fillF_eq (place := fun i => some (i * j.size, j.size)) (fun i x hx => by
      match i, hx with
      | 0, hx => simp at hx; subst hx; simp
      | 1, hx => simp at hx; subst hx; simp
      | n + 2, hx => simp at hx) hcs
     rw [cellsV_eq, Array.toArray_toList] at hf
     simp only [Instr.build, Sem.run_bind, hz, Result.andThen_ok, hu, sizeOf_run hok hj]
     rw [hf]
     simp
    ·cases h
   ·cases h
  ·cases h
 ·cases h
theorem eqCells_sound {P : Program} {tt : TT} (hok : TTok P tt) {cs ds : List Value} : ∀ {fs : List Field} {e : Bool}, eqCells tt cs ds (fs.map fun f => (f.offset, f.type)) = some e → (∀ f ∈ fs, (f.name == "_") = false) → ∀ (d : Nat) (w : World),
  (Op.eqFields (d + 1) cs.toArray ds.toArray fs).run P w = .ok e w
 | [], e, h, _, d, w => by simp [eqCells] at h; subst h; simp [Op.eqFields]
 | f :: fs, e, h, hn, d, w => by
  have hnf : f.name ≠ "_" := fun he => by have := hn f (by simp); simp [he] at this
  simp only [List.map_cons, eqCells] at h
  split at h
  ·rename_i i hi
   obtain ⟨info, td, h1, h2, h3, h4, h5, htd, h6⟩ := hok.get hi
   split at h
   ·rename_i k0 hd
    rw [toD_int (htd.trans hd)] at h5
    have hag : aggOf tt f.type = some false := by simp [aggOf, hi, hd]
    split at h
    ·rename_i k a ha
     split at h
     ·rename_i k' b hb
      split at h
      ·rename_i hk
       obtain rfl := kEq_spec hk
       split at h
       ·rename_i e' he'
        injection h with h
        subst h
        have ih := eqCells_sound hok he' (fun g hg => hn g (by simp [hg])) d w
        have pa : (part f.type cs.toArray f.offset).run P w = .ok (.int k a) w := partV_sound hok (by unfold partV; simp [hi, hag, ha]) w
        have pb : (part f.type ds.toArray f.offset).run P w = .ok (.int k b) w := partV_sound hok (by unfold partV; simp [hi, hag, hb]) w
        simp only [Op.eqFields, ne_eq, hnf, not_false_eq_true, if_true, Sem.run_bind, pa, pb, Result.andThen_ok, run_equalIn_int w d f.type k k0 a b h5, Sem.run_ite]
        by_cases hab : a = b
        ·subst hab; simp [ih]
        ·simp [hab]
       ·cases h
      ·cases h
     ·cases h
    ·cases h
   ·rename_i hd
    rw [toD_bool (htd.trans hd)] at h5
    have hag : aggOf tt f.type = some false := by simp [aggOf, hi, hd]
    split at h
    ·rename_i a ha
     split at h
     ·rename_i b hb
      split at h
      ·rename_i e' he'
       injection h with h
       subst h
       have ih := eqCells_sound hok he' (fun g hg => hn g (by simp [hg])) d w
       have pa : (part f.type cs.toArray f.offset).run P w = .ok (.bool a) w := partV_sound hok (by unfold partV; simp [hi, hag, ha]) w
       have pb : (part f.type ds.toArray f.offset).run P w = .ok (.bool b) w := partV_sound hok (by unfold partV; simp [hi, hag, hb]) w
       simp only [Op.eqFields, ne_eq, hnf, not_false_eq_true, if_true, Sem.run_bind, pa, pb, Result.andThen_ok, run_equalIn_bool w d f.type a b h5, Sem.run_ite]
       by_cases hab : a = b
       ·subst hab; simp [ih]
       ·simp [hab]
      ·cases h
     ·cases h
    ·cases h
   ·cases h
  ·cases h
theorem eqV_sound {P : Program} {tt : TT} (hok : TTok P tt) {t : TypeId} {x y : Value} {e : Bool} (h : eqV tt t x y = some e) (w : World) :
  (Op.equal t x y).run P w = .ok e w ∧ ∀ (op : BinOp) (ox oy : Operand), (eqGuard op t ox oy x y).run P w = .ok () w := by
 unfold eqV at h
 split at h
 ·rename_i i hi
  obtain ⟨info, td, h1, h2, h3, h4, h5, htd, h6⟩ := hok.get hi
  split at h
  ·rename_i hd
   rw [toD_bool (htd.trans hd)] at h5
   split at h
   ·split at h
    ·injection h with h
     subst h
     refine ⟨run_equalIn_bool w 9999 t _ _ h5, fun op ox oy => ?_⟩
     simp [eqGuard]
    ·cases h
   ·cases h
  ·rename_i fs hd
   obtain ⟨gs, rfl, rfl⟩ := toD_struct (htd.trans hd)
   split at h
   ·rename_i hp
    obtain ⟨g1, g2, g3⟩ := h6 hp
    split at h
    ·split at h
     ·rename_i cs _ ds
      have hf : P.fieldsOf t = gs := by simp [Program.fieldsOf, h5]
      have h5' : P.underlying t = some (.struct (P.fieldsOf t)) := by rw [hf]; exact h5
      refine ⟨?_, fun op ox oy => ?_⟩
      ·show (Op.equalIn (9999 + 1) t (.agg ⟨cs⟩) (.agg ⟨ds⟩)).run P w = _
       rw [run_equalIn_struct w 9999 t ⟨cs⟩ ⟨ds⟩ h5' g1, hf]
       exact eqCells_sound hok h g3 9998 w
      ·simp [eqGuard, g2]
     ·cases h
    ·cases h
   ·cases h
  ·cases h
 ·cases h
theorem eqV_shape {tt : TT} {t : TypeId} {x y : Value} {e : Bool} (h : eqV tt t x y = some e) :
  (∃ a b, x = .bool a ∧ y = .bool b) ∨ (∃ a b, x = .agg a ∧ y = .agg b) := by
 unfold eqV at h
 split at h
 ·split at h
  ·split at h
   ·split at h
    ·exact .inl ⟨_, _, rfl, rfl⟩
    ·cases h
   ·cases h
  ·split at h
   ·split at h
    ·split at h
     ·exact .inr ⟨_, _, rfl, rfl⟩
     ·cases h
    ·cases h
   ·cases h
  ·cases h
 ·cases h
theorem unV_sound {P : Program} {op : UnOp} {x v : Value} (h : unV op x = some v) (w : World) : (Op.unary op x).run P w = .ok v w := by
 unfold unV at h
 split at h
 ·split at h
  ·injection h with h; subst h; simp [Op.unary]
  ·cases h
 ·split at h
  ·injection h with h; subst h; simp [Op.unary, Op.intArith]
  ·cases h
 ·split at h
  ·injection h with h; subst h
   simp [Op.unary, IntKind.signed, go_sem]
  ·cases h
 ·cases h
theorem binV_guard {wr : Bool} {P : Program} {op op' : BinOp} {x y : Value} {r : Value × Option Prop} (h : binV wr op x y = some r) (t : TypeId) (ox oy : Operand) (w : World) :
  (eqGuard op' t ox oy x y).run P w = .ok () w := by
 unfold binV at h
 split at h
 ·simp [eqGuard]
 ·simp [eqGuard]
 ·cases h
theorem fieldOff_spec {P : Program} {tt : TT} (hok : TTok P tt) {t : TypeId} {f off size : Nat} {ft : TypeId} (h : fieldOff tt t f = some (off, size, ft)) :
  ∃ (fs : Array Field) (fd : Field), P.underlying t = some (.struct fs) ∧ fs[f]? = some fd ∧ fd.type = ft ∧ fd.offset = off ∧ ∀ w, (sizeOf ft).run P w = .ok size w := by
 unfold fieldOff at h
 split at h
 ·rename_i i hi
  obtain ⟨info, td, h1, h2, h3, h4, h5, htd, h6⟩ := hok.get hi
  split at h
  ·rename_i fs hd
   obtain ⟨gs, rfl, rfl⟩ := toD_struct (htd.trans hd)
   split at h
   ·rename_i off' ft' hfd
    rw [nthL_eq, List.getElem?_map, Option.map_eq_some_iff] at hfd
    obtain ⟨fd, hfd, hpair⟩ := hfd
    injection hpair with hp1 hp2
    subst hp1; subst hp2
    split at h
    ·rename_i j hj
     injection h with h
     injection h with ha hb
     injection hb with hb hc
     subst ha; subst hb; subst hc
     exact ⟨gs, fd, h5, by simpa using hfd, rfl, rfl, fun w => sizeOf_run hok hj w⟩
    ·cases h
   ·cases h
  ·cases h
 ·cases h
theorem sliceV_sound {P : Program} {tt : TT} (hok : TTok P tt) {t e : TypeId} {i j : TI} (hi : tl tt t = some i) (hd : i.desc = .slice e) (hj : tl tt e = some j)
  {a : Option Addr} {n c : Nat} {lo hi' : Option Value} {v : Value} {p : Option Prop} (h : sliceV a n c j.size lo hi' = some (v, p)) (ho : Ob p) (w : World) :
  (Instr.sliceAt t (.slice a n c) lo hi' none).run P w = .ok v w := by
 obtain ⟨info, td, h1, h2, h3, h4, h5, htd, h6⟩ := hok.get hi
 rw [toD_slice (htd.trans hd)] at h5
 have hs := sizeOf_run hok hj
 unfold sliceV at h
 split at h
 ·split at h
  ·injection h with h; injection h with q1 q2; subst q1; subst q2
   simp [Instr.sliceAt, Instr.slice, run_underlying h5, Instr.sliceBounds, hs, subA]
  ·injection h with h; injection h with q1 q2; subst q1; subst q2
   obtain ⟨o1, o2⟩ := ho
   simp [Instr.sliceAt, Instr.slice, run_underlying h5, Instr.sliceBounds, Instr.sliceBound, asIntOf, hs, subA, o1, o2]
  ·cases h
 ·split at h
  ·injection h with h; injection h with q1 q2; subst q1; subst q2
   obtain ⟨o1, o2⟩ := ho
   simp [Instr.sliceAt, Instr.slice, run_underlying h5, Instr.sliceBounds, Instr.sliceBound, asIntOf, hs, subA, o1, o2]
  ·injection h with h; injection h with q1 q2; subst q1; subst q2
   obtain ⟨o1, o2, o3⟩ := ho
   have o4 : (0 : Int) ≤ _ := Int.le_trans o1 o2
   have o5 := Int.toNat_of_nonneg o4
   simp [Instr.sliceAt, Instr.slice, run_underlying h5, Instr.sliceBounds, Instr.sliceBound, asIntOf, hs, subA, o1, o2, o3, o4, o5]
  ·cases h
 ·cases h
theorem pureV_sound {wr : Bool} {P : Program} {tt : TT} (hok : TTok P tt) {env : Env} {a : Act} (hag : Agree env a) {o : Oper} {v : Value} {p : Option Prop}
  (h : pureV wr tt env o.op = some (v, p)) (ho : Ob p) (w : World) : (execOp a.eval o).run P w = .ok (.value v) w := by
 have hrun : ∀ op, o.op = op → execOp a.eval o = execOp a.eval { o with op := op } := fun op e => by subst e; rfl
 generalize hop : o.op = op at h
 rw [hrun op hop]
 unfold pureV at h
 split at h
 ·-- move
  split at h
  ·rename_i u hu
   injection h with h; injection h with e1 e2; subst e1
   simp [execOp, ev_agree hag hu]
  ·cases h
 ·split at h
  ·rename_i u hu
   injection h with h; injection h with e1 e2; subst e1
   simp [execOp, ev_agree hag hu]
  ·cases h
 ·-- pick
  split at h
  ·rename_i hc
   split at h
   ·rename_i u hu
    injection h with h; injection h with e1 e2; subst e1
    simp [execOp, ev_agree hag hu, ev_agree hag hc, asBool]
   ·cases h
  ·rename_i hc
   split at h
   ·rename_i u hu
    injection h with h; injection h with e1 e2; subst e1
    simp [execOp, ev_agree hag hu, ev_agree hag hc, asBool]
   ·cases h
  ·cases h
 ·-- nilCheck
  split at h
  ·rename_i u hu
   injection h with h; injection h with e1 e2; subst e1
   simp [execOp, ev_agree hag hu]
  ·cases h
 ·-- binOp
  split at h
  ·rename_i x hx
   split at h
   ·rename_i y hy
    split at h
    ·rename_i r hr
     injection h with h
     subst h
     simp [execOp, ev_agree hag hx, ev_agree hag hy, binV_guard hr, binV_sound hr ho]
    ·rename_i hr
     split at h
     ·split at h
      ·rename_i e he
       injection h with h; injection h with e1 e2; subst e1
       obtain ⟨q1, q2⟩ := eqV_sound hok he w
       simp only [execOp, ev_agree hag hx, ev_agree hag hy, Sem.run_bind, q2, Result.andThen_ok]
       rcases eqV_shape he with ⟨a', b', rfl, rfl⟩ | ⟨a', b', rfl, rfl⟩ <;> simp [binOp, q1]
      ·cases h
     ·split at h
      ·rename_i e he
       injection h with h; injection h with e1 e2; subst e1
       obtain ⟨q1, q2⟩ := eqV_sound hok he w
       simp only [execOp, ev_agree hag hx, ev_agree hag hy, Sem.run_bind, q2, Result.andThen_ok]
       rcases eqV_shape he with ⟨a', b', rfl, rfl⟩ | ⟨a', b', rfl, rfl⟩ <;> simp [binOp, q1]
      ·cases h
     ·cases h
   ·cases h
  ·cases h
 ·-- unOp
  split at h
  ·rename_i x hx
   split at h
   ·rename_i u hu
    injection h with h; injection h with e1 e2; subst e1
    simp [execOp, ev_agree hag hx, unV_sound hu]
   ·cases h
  ·cases h
 ·-- extract
  split at h
  ·rename_i vs hvs
   split at h
   ·rename_i u hu
    injection h with h; injection h with e1 e2; subst e1
    rw [nthL_eq] at hu
    simp [execOp, ev_agree hag hvs, Instr.extract, hu]
   ·cases h
  ·cases h
 ·-- field
  split at h
  ·rename_i off size ft hf
   obtain ⟨fs, fd, hs, hfd, rfl, rfl, hsz⟩ := fieldOff_spec hok hf
   split at h
   ·rename_i cs hcs
    split at h
    ·rename_i u hu
     injection h with h; injection h with e1 e2; subst e1
     simp [execOp, ev_agree hag hcs, Instr.field, run_underlying hs, hfd, asAgg, partV_sound hok hu]
    ·cases h
   ·cases h
  ·cases h
 ·-- fieldAddr
  split at h
  ·rename_i off size ft hf
   obtain ⟨fs, fd, hs, hfd, rfl, rfl, hsz⟩ := fieldOff_spec hok hf
   split at h
   ·rename_i hne
    split at h
    ·rename_i ad had
     injection h with h; injection h with e1 e2; subst e1
     have hne' : size ≠ 0 := fun e => by subst e; simp at hne
     simp [execOp, ev_agree hag had, Instr.fieldAt, run_underlying hs, hfd, Instr.sureAddr, fieldPlace, hsz, hne', addA_eq]
    ·cases h
   ·cases h
  ·cases h
 ·-- indexAddr
  split at h
  ·rename_i i hi
   obtain ⟨info, td, h1, h2, h3, h4, h5, htd, h6⟩ := hok.get hi
   split at h
   ·rename_i e hd
    rw [toD_slice (htd.trans hd)] at h5
    split at h
    ·rename_i j hj
     split at h
     ·rename_i ad n c hx
      split at h
      ·rename_i k z hz
       injection h with h; injection h with e1 e2; subst e1; subst e2
       obtain ⟨hz0, hzn, hne⟩ := ho
       cases ad with
       | none => exact absurd rfl hne
       | some ad =>
        simp [execOp, ev_agree hag hx, ev_agree hag hz, Instr.indexAt, run_underlying h5, asIntOf, hz0, hzn, sizeOf_run hok hj, elemAddr]
      ·cases h
     ·cases h
    ·cases h
   ·cases h
  ·cases h
 ·-- convert
  split at h
  ·rename_i i hi
   split at h
   ·rename_i j hj
    split at h
    ·rename_i k hk
     obtain ⟨d1, hu1, _⟩ := under_run hok hi w
     obtain ⟨d2, hu2, hd2⟩ := under_run hok hj w
     rw [toD_int (hd2.trans hk)] at hu2
     split at h
     ·rename_i k' n hx
      split at h
      ·injection h with h; injection h with e1 e2; subst e1
       simp [execOp, ev_agree hag hx, convert, hu1, hu2, Conv.intToInt]
      ·injection h with h; injection h with e1 e2; subst e1; subst e2
       have ho' : k.wrap n = n := ho
       simp [execOp, ev_agree hag hx, convert, hu1, hu2, Conv.intToInt, ho']
     ·cases h
    ·cases h
   ·cases h
  ·cases h
 ·-- build
  rename_i t parts
  split at h
  ·rename_i ps hps
   split at h
   ·rename_i u hu
    injection h with h; injection h with e1 e2; subst e1
    have he := evP_agree hag hps
    have he' : parts.map (fun (i, x) => (i, a.eval x)) = ps.toArray := by rw [← he]; apply Array.toList_inj.1; simp
    simp only [execOp, he', Sem.run_bind, buildV_sound hok hu, Result.andThen_ok, Sem.run_pure]
   ·cases h
  ·cases h
 ·-- makeFunc
  split at h
  ·rename_i x hx
   split at h
   ·rename_i y hy
    injection h with h; injection h with e1 e2; subst e1
    have h1 := evL_agree hag hx
    have h2 := evL_agree hag hy
    simp [execOp, Instr.makeFunc, h1, h2]
   ·cases h
  ·cases h
 ·-- slice
  split at h
  ·rename_i i hi
   split at h
   ·rename_i e hd
    split at h
    ·rename_i j hj
     split at h
     ·rename_i ad n c hx
      split at h
      ·rename_i lo hlo
       split at h
       ·rename_i hi' hhi
        have hq := sliceV_sound hok hi hd hj h ho w
        simp only [execOp, ev_agree hag hx, evO_agree hag hlo, evO_agree hag hhi, Option.map_none, Sem.run_bind, hq, Result.andThen_ok, Sem.run_pure]
       ·cases h
      ·cases h
     ·cases h
    ·cases h
   ·cases h
  ·cases h
 ·-- len
  split at h
  ·rename_i i hi
   obtain ⟨d1, hu, hd1⟩ := under_run hok hi w
   split at h
   ·rename_i e hd
    rw [toD_slice (hd1.trans hd)] at hu
    split at h
    ·rename_i ad n c hx
     injection h with h; injection h with e1 e2; subst e1
     simp [execOp, resolve, invoke, builtin, ev_agree hag hx, Builtin.len_, hu, goInt]
    ·cases h
   ·cases h
  ·cases h
 ·split at h
  ·rename_i vs hvs
   split at h
   ·rename_i u hu
    injection h with h; injection h with e1 e2; subst e1
    have h1 := evL_agree hag hvs
    unfold maxV at hu
    split at hu
    ·injection hu with hu; subst hu
     simp only [execOp, resolve, invoke, builtin, List.map_toArray, h1]
     simp [Builtin.max_, Builtin.max2]
     omega
    ·cases hu
   ·cases h
  ·cases h
 ·split at h
  ·rename_i vs hvs
   split at h
   ·rename_i u hu
    injection h with h; injection h with e1 e2; subst e1
    have h1 := evL_agree hag hvs
    unfold minV at hu
    split at hu
    ·injection hu with hu; subst hu
     simp only [execOp, resolve, invoke, builtin, List.map_toArray, h1]
     simp [Builtin.min_, Builtin.min2]
     omega
    ·cases hu
   ·cases h
  ·cases h
 ·cases h
theorem actOf_sound {env : Env} {a : Act} (hag : Agree env a) {o : Oper} {A : Action} (h : actOf env o.op o.type = some A) : execOp a.eval o = A.sem := by
 have hrun : ∀ op, o.op = op → execOp a.eval o = execOp a.eval { o with op := op } := fun op e => by subst e; rfl
 generalize hop : o.op = op at h
 rw [hrun op hop]
 unfold actOf at h
 split at h
 ·split at h
  ·rename_i ad hx
   injection h with h; subst h
   simp [execOp, Action.sem, ev_agree hag hx, Instr.loadAt, Instr.sureAddr]
  ·cases h
 ·split at h
  ·rename_i ad hx
   split at h
   ·rename_i v hv
    injection h with h; subst h
    simp [execOp, Action.sem, ev_agree hag hx, ev_agree hag hv, Instr.storeAt, Instr.sureAddr]
   ·cases h
  ·cases h
 ·injection h with h; subst h
  simp [execOp, Action.sem]
 ·split at h
  ·rename_i v hv
   injection h with h; subst h
   simp [execOp, Action.sem, ev_agree hag hv]
  ·cases h
 ·split at h
  ·rename_i ps hps
   injection h with h; subst h
   have he := evP_agree hag hps
   simp [execOp, Action.sem, ← he]
  ·cases h
 ·split at h
  ·rename_i x hx
   split at h
   ·rename_i y hy
    injection h with h; subst h
    simp [execOp, Action.sem, ev_agree hag hx, ev_agree hag hy]
   ·cases h
  ·cases h
 ·split at h
  ·rename_i vs hvs
   injection h with h; subst h
   have he := evL_agree hag hvs
   simp [execOp, Action.sem, resolve, invoke, Act.eval, Deferred.ofValue, he]
  ·cases h
 ·split at h
  ·rename_i f first cap hf
   split at h
   ·rename_i vs hvs
    injection h with h; subst h
    have he := evL_agree hag hvs
    have hq : a.eval (.tmp _) = _ := ev_agree (x := .tmp _) hag hf
    simp [execOp, Action.sem, resolve, invoke, hq, Deferred.ofValue, he]
   ·cases h
  ·cases h
 ·split at h
  ·rename_i x hx
   split at h
   ·rename_i y hy
    injection h with h; subst h
    simp [execOp, Action.sem, resolve, invoke, builtin, ev_agree hag hx, ev_agree hag hy]
   ·cases h
  ·cases h
 ·split at h
  ·rename_i x hx
   split at h
   ·rename_i y hy
    injection h with h; subst h
    simp [execOp, Action.sem, resolve, invoke, builtin, ev_agree hag hx, ev_agree hag hy]
   ·cases h
  ·cases h
 ·cases h
theorem sfx_cons {ops : Array Oper} {pre : List Oper} {o : Oper} {rest : List Oper} (h : ops.toList = pre ++ o :: rest) : sfx ops (o :: rest) = (o, flagAt ops rest) :: sfx ops rest := by
 have hl : (flagged ops.toList).length = ops.toList.length := by
  have := congrArg List.length (flagged_map ops.toList)
  simpa using this
 have hn : ops.toList.length - (rest.length + 1) = pre.length := by rw [h]; simp
 have hn2 : ops.toList.length - rest.length = pre.length + 1 := by rw [h]; simp; omega
 have hlt : pre.length < (flagged ops.toList).length := by rw [hl, h]; simp
 unfold sfx flagAt
 rw [List.length_cons, hn, hn2, List.drop_eq_getElem_cons hlt, List.getElem?_eq_getElem hlt]
 congr 1
 have hm := congrArg (fun l => l[pre.length]?) (flagged_map ops.toList)
 simp only [List.getElem?_map, List.getElem?_eq_getElem hlt, Option.map_some] at hm
 have ho : ops.toList[pre.length]? = some o := by rw [h]; simp
 rw [ho] at hm
 injection hm with hm
 exact Prod.ext hm rfl
theorem sfx_nil {ops : Array Oper} : sfx ops [] = [] := by
 have hl : (flagged ops.toList).length = ops.toList.length := by
  have := congrArg List.length (flagged_map ops.toList)
  simpa using this
 unfold sfx
 rw [List.drop_eq_nil_iff]
 rw [hl]
 exact Nat.le_refl _
theorem sfx_all {ops : Array Oper} : sfx ops ops.toList = flagged ops.toList := by
 unfold sfx
 simp
theorem kind_pure {wr : Bool} {tt : TT} {env : Env} {op : Op} {r : Value × Option Prop} (h : pureV wr tt env op = some r) : kindOf op = .pure := by
 unfold pureV at h
 split at h <;> first | rfl | cases h
theorem kind_act {env : Env} {op : Op} {ty : TypeId} {A : Action} (h : actOf env op ty = some A) : kindOf op = match isLoadA A with
  | true => Kind.load
  | false => Kind.eff := by
 unfold actOf at h
 split at h
 all_goals (repeat' (split at h))
 all_goals first | (injection h with h; subst h; rfl) | (cases h)
theorem does_of_act {P : Program} {env : Env} {o : Oper} {A : Action} {w : World} (hA : actOf env o.op o.type = some A) {a : Act} (hag : Agree env a) {Q : Value → World → Prop} {K : Act → World → Prop}
  (h : Does P A w Q) (hk : ∀ v w', Q v w' → K (a.put o.dst v) w') : DoesO P o a w K := by
 unfold DoesO
 rw [actOf_sound hag hA]
 unfold Does at h
 generalize A.sem.run P w = r at h
 cases r with
 | halt x w' => exact h.elim
 | ok n w' =>
  cases n <;> first | exact h.elim | skip
  case value v => exact hk _ _ h
  case skip => exact hk _ _ h
  case enter f args =>
   refine Calls.mono h ?_
   rintro e w'' ⟨v, rfl, hq⟩
   exact ⟨v, rfl, hk _ _ hq⟩
section
variable {S : Setting} {sz : Nat} {R : Value → World → Prop} {C : World → Prop} {q : Bool} {ops : Array Oper} {o : Oper} {rest : List Oper} {k : List Item} {env : Env} {w : World}
theorem opx_of_act {A : Action} (hpre : q = true → ∃ pre, ops.toList = pre ++ o :: rest) (hA : actOf env o.op o.type = some A) (hd : okDst sz o.dst = true) (h : ActT S sz R C A ⟨q, ops, rest, o.dst, k, env⟩ w) : OpxT S sz R C q ops o rest k env w := by
 cases q with
 | false => exact fun a ha => (does_of_act hA ha.agree h fun v w' hq => hq _ (ha.put hd v)).wp
 | true =>
  obtain ⟨pre, hpre⟩ := hpre rfl
  refine ⟨⟨pre, hpre⟩, fun a ha hw => ?_⟩
  rw [sfx_cons hpre]
  have hk := kind_act hA
  unfold ActT at h
  unfold wpLex
  rw [if_pos hw]
  cases hl : isLoadA A with
  | true =>
   simp only [hl] at h hk
   simp only [hk]
   obtain ⟨v, h1, h2⟩ := h
   exact ⟨v, fun w' hw' => by rw [actOf_sound ha.agree hA]; exact h1 w' hw', h2.2 _ (ha.put hd v)⟩
  | false =>
   simp only [hl] at h hk
   simp only [hk]
   exact does_of_act hA ha.agree h fun v w' hq => ⟨hq.1, hq.2.2 _ (ha.put hd v)⟩
theorem opx_of_pure (hS : S.Ok) (hpre : q = true → ∃ pre, ops.toList = pre ++ o :: rest) {v : Value} {p : Option Prop} (hv : pureV S.wr S.tt env o.op = some (v, p)) (hp : Ob p) (hd : okDst sz o.dst = true)
  (h : OpsT S sz R C q ops rest k (putE env o.dst v) w) : OpxT S sz R C q ops o rest k env w := by
 cases q with
 | false =>
  intro a ha
  unfold Oper.wp
  rw [pureV_sound hS.tt ha.agree hv hp w]
  exact h _ (ha.put hd v)
 | true =>
  obtain ⟨pre, hpre⟩ := hpre rfl
  refine ⟨⟨pre, hpre⟩, fun a ha hw => ?_⟩
  rw [sfx_cons hpre]
  unfold wpLex
  rw [if_pos hw]
  simp only [kind_pure hv]
  exact ⟨v, fun w' => pureV_sound hS.tt ha.agree hv hp w', h.2 _ (ha.put hd v)⟩
theorem stepO_sound (hpre : q = true → ∃ pre, ops.toList = pre ++ o :: rest) (hd : okDst sz o.dst = true) (h : Holds S sz R C w (stepO q ops o rest k env)) : OpxT S sz R C q ops o rest k env w := by
 unfold stepO at h
 split at h
 ·rename_i A hA
  exact opx_of_act hpre hA hd h
 ·exact h
theorem wpList_want {P : Program} {ops : Array Oper} {Q : Exit → Act → World → Prop} {o : Oper} {rest : List Oper} {a : Act} {w : World}
  (hw : Region.wanted o (yielded ops a.tmps) = true) (h : o.wp P a w (wpList P ops Q rest) Q) : wpList P ops Q (o :: rest) a w := by
 unfold wpList
 rw [if_pos hw]
 exact .inl h
theorem ops_of_opx (hw : ∀ a, Fits sz env a → Region.wanted o (yielded ops a.tmps) = true) (h : OpxT S sz R C q ops o rest k env w) : OpsT S sz R C q ops (o :: rest) k env w := by
 cases q with
 | false => exact fun a ha => wpList_want (hw a ha) (h a ha)
 | true => exact ⟨h.1, fun a ha => h.2 a ha (hw a ha)⟩
theorem ops_of_skip (hpre : q = true → ∃ pre, ops.toList = pre ++ o :: rest) (hd : okDst sz o.dst = true) (hw : ∀ a, Fits sz env a → Region.wanted o (yielded ops a.tmps) = false)
  (h : OpsT S sz R C q ops rest k (putE env o.dst undef) w) : OpsT S sz R C q ops (o :: rest) k env w := by
 cases q with
 | false => exact fun a ha => wpList_skip (hw a ha) (h _ (ha.put hd undef))
 | true =>
  obtain ⟨pre, hpre⟩ := hpre rfl
  refine ⟨⟨pre, hpre⟩, fun a ha => ?_⟩
  rw [sfx_cons hpre]
  exact wpLex_skip (hw a ha) (h.2 _ (ha.put hd undef))
theorem pre_next (hpre : q = true → ∃ pre, ops.toList = pre ++ o :: rest) : q = true → ∃ pre, ops.toList = pre ++ rest := fun hq => by
 obtain ⟨pre, h⟩ := hpre hq
 exact ⟨pre ++ [o], by simp [h]⟩
theorem stepOps_sound (hS : S.Ok) :
  ∀ (l : List Oper) (env : Env) (obl : List Prop) (g : G) (obl' : List Prop), (q = true → ∃ pre, ops.toList = pre ++ l) → stepOps S.wr S.tt sz q ops l k env obl = (g, obl') → All obl' → Holds S sz R C w g →
   OpsT S sz R C q ops l k env w ∧ All obl
 | [], env, obl, g, obl', hpre, h, ho, hg => by
  simp only [stepOps, Prod.mk.injEq] at h
  obtain ⟨rfl, rfl⟩ := h
  refine ⟨?_, ho⟩
  cases q with
  | false => exact fun a ha => ⟨rfl, hg a ha⟩
  | true => exact ⟨hpre rfl, fun a ha => by rw [sfx_nil]; exact hg a ha⟩
 | o :: rest, env, obl, g, obl', hpre, h, ho, hg => by
  have same : (G.ops q ops (o :: rest) k env, obl) = (g, obl') → OpsT S sz R C q ops (o :: rest) k env w ∧ All obl := fun e => by
   injection e with e1 e2
   subst e1; subst e2
   exact ⟨hg, ho⟩
  simp only [stepOps] at h
  split at h
  ·exact same h
  ·rename_i hd
   split at h
   ·rename_i j want hgd
    split at h
    ·rename_i oj hoj
     split at h
     ·rename_i d hdj
      split at h
      ·rename_i b hb
       injection h with e1 e2
       subst e1; subst e2
       refine ⟨?_, ho⟩
       have hy : ∀ a, Fits sz env a → yielded ops a.tmps j = some b := fun a ha => by simp [yielded, hoj, hdj, ha.agree _ _ hb]
       simp only [Holds] at hg
       by_cases hbw : b = want
       ·rw [if_pos hbw] at hg
        exact ops_of_opx (fun a ha => by simp [Region.wanted, hgd, hy a ha, hbw]) hg
       ·rw [if_neg hbw] at hg
        exact ops_of_skip hpre hd (fun a ha => by simp [Region.wanted, hgd, hy a ha, hbw]) hg
      ·rename_i hb
       rw [putK_eq] at h
       obtain ⟨h1, h2⟩ := stepOps_sound hS rest _ _ _ _ (pre_next hpre) h ho hg
       refine ⟨?_, h2⟩
       have hy : ∀ a, Fits sz env a → yielded ops a.tmps j = none := fun a ha => by simp [yielded, hoj, hdj, ha.agree _ _ hb]
       exact ops_of_skip hpre hd (fun a ha => by simp [Region.wanted, hgd, hy a ha]) h1
      ·exact same h
     ·exact same h
    ·exact same h
   ·rename_i hgd
    have hwn : ∀ a, Fits sz env a → Region.wanted o (yielded ops a.tmps) = true := fun a _ => by simp [Region.wanted, hgd]
    split at h
    ·rename_i v hv
     rw [putK_eq] at h
     obtain ⟨h1, h2⟩ := stepOps_sound hS rest _ _ _ _ (pre_next hpre) h ho hg
     exact ⟨ops_of_opx hwn (opx_of_pure hS hpre hv trivial hd h1), h2⟩
    ·rename_i v p hv
     rw [putK_eq] at h
     obtain ⟨h1, h2⟩ := stepOps_sound hS rest _ _ _ _ (pre_next hpre) h ho hg
     rw [All_cons] at h2
     exact ⟨ops_of_opx hwn (opx_of_pure hS hpre hv h2.1 hd h1), h2.2⟩
    ·rename_i hv
     rw [forceR_eq] at h
     injection h with e1 e2
     subst e1; subst e2
     exact ⟨ops_of_opx hwn (stepO_sound hpre hd hg), ho⟩
end
def resSem (a : Act) : ResultVar → Sem Value
 | .tmp t => pure (a.tmps.getD t undef)
 | .cell p t => do loadVar t (← asAddr (a.tmps.getD p undef))
theorem retF_run {S : Setting} {env : Env} {a : Act} {w : World} (hag : Agree env a) : ∀ {res : List ResultVar} {l : List RV} {vs : List Value}, retF env res = some l → RVs S.P w l vs →
  (res.mapM (resSem a)).run S.P w = .ok vs w
 | [], l, vs, h, hr => by
  simp [retF] at h; subst h
  cases vs with
  | nil => simp
  | cons v vs => exact hr.elim
 | .tmp t :: res, l, vs, h, hr => by
  simp only [retF] at h
  split at h
  ·rename_i v hv
   split at h
   ·rename_i l' hl
    injection h with h; subst h
    cases vs with
    | nil => exact hr.elim
    | cons u us =>
     obtain ⟨rfl, hr⟩ := hr
     have ih := retF_run (S := S) hag hl hr
     have hq := look_agree hag hv
     simp only [List.mapM_cons, Sem.run_bind, Sem.run_pure, Result.andThen_ok, ih, resSem, hq]
   ·cases h
  ·cases h
 | .cell p t :: res, l, vs, h, hr => by
  simp only [retF] at h
  split at h
  ·rename_i ad hv
   split at h
   ·rename_i l' hl
    injection h with h; subst h
    cases vs with
    | nil => exact hr.elim
    | cons u us =>
     obtain ⟨h1, hr⟩ := hr
     have ih := retF_run (S := S) hag hl hr
     have hq := look_agree hag hv
     simp only [List.mapM_cons, Sem.run_bind, Sem.run_pure, Result.andThen_ok, ih, resSem, hq, asAddr, h1]
   ·cases h
  ·cases h
theorem valsF_spec {P : Program} {w : World} : ∀ {l : List RV} {vs : List Value}, valsF l = some vs → RVs P w l vs
 | [], vs, h => by simp [valsF] at h; subst h; trivial
 | .val v :: r, vs, h => by
  simp only [valsF] at h
  split at h
  ·rename_i l hl
   injection h with h; subst h
   exact ⟨rfl, valsF_spec hl⟩
  ·cases h
 | .at_ _ _ :: _, vs, h => by simp [valsF] at h
theorem pack_results {vs : List Value} : (if h : vs.toArray.size = 1 then vs.toArray[0] else Value.tuple vs.toArray) = packV vs := by
 match vs with
 | [] => rfl
 | [v] => rfl
 | v :: u :: r => simp [packV]
theorem leaving_ok {S : Setting} (hS : S.Ok) {env : Env} {a : Act} {w : World} (hag : Agree env a) {l : List RV} {vs : List Value} (h : retF env S.res = some l) (hr : RVs S.P w l vs) :
  (results S.fn a.tmps).run S.P w = .ok (packV vs) w := by
 have h1 := retF_run (S := S) hag h hr
 have h2 : results S.fn a.tmps = (do let vs ← S.fn.results.mapM (resSem a); pure (if h : vs.size = 1 then vs[0] else .tuple vs)) := rfl
 rw [h2, Array.mapM_eq_mapM_toList, hS.res]
 simp only [Sem.run_bind, Sem.run_map, Sem.run_pure, h1, Result.andThen_ok]
 rw [pack_results]
theorem retG_sound {S : Setting} (hS : S.Ok) {sz : Nat} {R : Value → World → Prop} {C : World → Prop} {w : World} {k : List Item} {env : Env}
  (hk : k = [] ∨ ∃ k', k = .code .ret :: k') (h : Holds S sz R C w (retG S.res k env)) : Holds S sz R C w (.code k env) := by
 have key : ∀ (l : List RV) (vs : List Value), retF env S.res = some l → RVs S.P w l vs → R (packV vs) w → Holds S sz R C w (.code k env) := by
  intro l vs hl hr hR a ha b cs hb1 hb2
  have hres := leaving_ok hS ha.agree hl hr
  rcases hk with rfl | ⟨k', rfl⟩
  ·refine ⟨packV vs, w, _, hR, Steps.one step_end, hb1, rfl, ha.defers, hb2, S.fn, ?_, hres⟩
   show S.P.funcs[b.fn]? = _
   rw [hb1]; exact hS.fn
  ·refine ⟨packV vs, w, _, hR, Steps.one step_ret, hb1, rfl, ha.defers, hb2, S.fn, ?_, hres⟩
   show S.P.funcs[b.fn]? = _
   rw [hb1]; exact hS.fn
 unfold retG at h
 split at h
 ·rename_i l hl
  split at h
  ·rename_i v hv
   exact key l [v] hl (valsF_spec hv) h
  ·rename_i vs hv hvs
   refine key l vs hl (valsF_spec hvs) ?_
   have : packV vs = .tuple ⟨vs⟩ := by
    match vs, hv with
    | [], _ => rfl
    | [v], hv => exact absurd rfl (hv v)
    | _ :: _ :: _, _ => rfl
   rw [this]; exact h
  ·obtain ⟨vs, hr, hR⟩ := h
   exact key l vs hl hr hR
 ·exact h
theorem todo_of_step {P : Program} {f : FuncId} {R : Value → World → Prop} {k k' : List Item} {a : Act} {w : World}
  (hs : ∀ (b : Frame) cs, step P (lone (b.at a k) cs w) = .next (lone (b.at a k') cs w)) (h : TodoA P f R k' a w) : TodoA P f R k a w := by
 intro b cs h1 h2
 obtain ⟨v, w', fr, hR, hst, hl⟩ := h b cs h1 h2
 exact ⟨v, w', fr, hR, .head (hs b cs) hst, hl⟩
theorem todo_of_wp {P : Program} {f : FuncId} {R : Value → World → Prop} {c : Code} {k : List Item} {a : Act} {w : World} (h : c.wp P (Post P f R k) a w) : TodoA P f R (.code c :: k) a w := by
 intro b cs h1 h2
 obtain ⟨e, a', w', ⟨rfl, hq⟩, harr⟩ := h b k cs
 obtain ⟨v, w'', fr, hR, hst, hl⟩ := hq b cs h1 h2
 exact ⟨v, w'', fr, hR, harr.trans hst, hl⟩
def PreG : G → Prop
 | .ops q ops l _ _ => q = true → ∃ pre, ops.toList = pre ++ l
 | .opx q ops o rest _ _ => q = true → ∃ pre, ops.toList = pre ++ o :: rest
 | _ => True
theorem run_sound {S : Setting} (hS : S.Ok) {sz : Nat} {R : Value → World → Prop} {C : World → Prop} {w : World} : ∀ (n : Nat) (g : G) (obl : List Prop) (g' : G) (obl' : List Prop),
  run S sz n g obl = (g', obl') → PreG g → All obl' → Holds S sz R C w g' → Holds S sz R C w g ∧ All obl
 | 0, g, obl, g', obl', h, hp, ho, hg => by
  simp only [run, Prod.mk.injEq] at h
  obtain ⟨rfl, rfl⟩ := h
  exact ⟨hg, ho⟩
 | n + 1, g, obl, g', obl', h, hp, ho, hg => by
  have same : (g, obl) = (g', obl') → Holds S sz R C w g ∧ All obl := fun e => by
   injection e with e1 e2
   subst e1; subst e2
   exact ⟨hg, ho⟩
  unfold run at h
  split at h
  ·rw [forceR_eq] at h
   simp only [Prod.mk.injEq] at h
   obtain ⟨rfl, rfl⟩ := h
   exact ⟨retG_sound hS (.inl rfl) hg, ho⟩
  ·rw [forceR_eq] at h
   simp only [Prod.mk.injEq] at h
   obtain ⟨rfl, rfl⟩ := h
   exact ⟨retG_sound hS (.inr ⟨_, rfl⟩) hg, ho⟩
  ·obtain ⟨h1, h2⟩ := run_sound hS n _ _ _ _ h trivial ho hg
   exact ⟨fun a ha => todo_of_step (fun _ _ => step_seq) (h1 a ha), h2⟩
  ·obtain ⟨h1, h2⟩ := run_sound hS n _ _ _ _ h trivial ho hg
   exact ⟨fun a ha => todo_of_step (fun _ _ => step_block) (h1 a ha), h2⟩
  ·obtain ⟨h1, h2⟩ := run_sound hS n _ _ _ _ h trivial ho hg
   exact ⟨fun a ha => todo_of_step (fun _ _ => step_skip) (h1 a ha), h2⟩
  ·obtain ⟨h1, h2⟩ := run_sound hS n _ _ _ _ h trivial ho hg
   exact ⟨fun a ha => todo_of_step (fun _ _ => step_label) (h1 a ha), h2⟩
  ·obtain ⟨h1, h2⟩ := run_sound hS n _ _ _ _ h trivial ho hg
   exact ⟨fun a ha => todo_of_step (fun _ _ => step_inBlock) (h1 a ha), h2⟩
  ·split at h
   ·rename_i k' hk
    obtain ⟨h1, h2⟩ := run_sound hS n _ _ _ _ h trivial ho hg
    exact ⟨fun a ha => todo_of_step (fun _ _ => step_exit hk) (h1 a ha), h2⟩
   ·exact same h
  ·split at h
   ·rename_i b hb
    injection h with e1 e2
    subst e1; subst e2
    refine ⟨fun a ha => ?_, ho⟩
    have h1 := hg a ha
    refine todo_of_step (fun _ _ => step_cond (ev_agree ha.agree hb)) ?_
    cases b <;> exact h1
   ·exact same h
  ·split at h
   ·rename_i e he
    obtain ⟨h1, h2⟩ := run_sound hS n _ _ _ _ h (fun hq => by cases hq) ho hg
    exact ⟨fun a ha => todo_of_wp (wp_region_list (h1 a (ha.prune he))), h2⟩
   ·exact same h
  ·split at h
   ·rename_i k' env' obl1 hst
    obtain ⟨h1, h2⟩ := run_sound hS n _ _ _ _ h trivial ho hg
    exact stepOps_sound hS _ _ _ _ _ hp hst h2 h1
   ·rename_i g1 obl1 hne hst
    injection h with e1 e2
    subst e1; subst e2
    exact stepOps_sound hS _ _ _ _ _ hp hst ho hg
  ·split at h
   ·exact same h
   ·rename_i hd
    split at h
    ·rename_i v hv
     rw [putK_eq] at h
     obtain ⟨h1, h2⟩ := run_sound hS n _ _ _ _ h (pre_next hp) ho hg
     exact ⟨opx_of_pure hS hp hv trivial hd h1, h2⟩
    ·rename_i v p hv
     rw [putK_eq] at h
     obtain ⟨h1, h2⟩ := run_sound hS n _ _ _ _ h (pre_next hp) ho hg
     rw [All_cons] at h2
     exact ⟨opx_of_pure hS hp hv h2.1 hd h1, h2.2⟩
    ·rw [forceR_eq] at h
     injection h with e1 e2
     subst e1; subst e2
     exact ⟨stepO_sound hp hd hg, ho⟩
  ·exact same h
def Ret (P : Program) (f : FuncId) (args : List Value) (w : World) (Q : Value → World → Prop) : Prop :=
 Calls P f ⟨args⟩ w fun e w' => ∃ v, e = .returned v ∧ Q v w'
theorem Ret.mono {P : Program} {f : FuncId} {args : List Value} {w : World} {Q Q' : Value → World → Prop} (h : Ret P f args w Q) (hq : ∀ v w', Q v w' → Q' v w') : Ret P f args w Q' :=
 Calls.mono h fun _ _ ⟨v, e, q⟩ => ⟨v, e, hq _ _ q⟩
def argEnv : Nat → List Value → Env
 | _, [] => []
 | n, v :: r => (n, v) :: argEnv (n + 1) r
theorem look_argEnv : ∀ (args : List Value) (n t : Nat) (v : Value), look (argEnv n args) t = some v → n ≤ t ∧ args[t - n]? = some v
 | [], n, t, v, h => by simp [argEnv, look] at h
 | u :: r, n, t, v, h => by
  simp only [argEnv, look] at h
  split at h
  ·rename_i hb
   obtain rfl := Nat.eq_of_beq_eq_true hb
   injection h with h
   subst h
   simp
  ·obtain ⟨h1, h2⟩ := look_argEnv r (n + 1) t v h
   refine ⟨by omega, ?_⟩
   rw [show t - n = (t - (n + 1)) + 1 by omega]
   simpa using h2
theorem enter {S : Setting} (hS : S.Ok) {args : List Value} {w : World} {Q : Value → World → Prop} (c : Code) (sz : Nat) (hb : S.fn.body = some c) (hn : S.fn.ntmps = sz) (hle : args.length ≤ sz)
  (h : ∀ C, Holds S sz Q C w (.code [.code c] (argEnv 0 args))) : Ret S.P S.f args w Q := by
 intro cs
 let b : Frame := { (default : Frame) with fn := S.f, kind := .normal }
 have henter : Frame.enter S.P S.f ⟨args⟩ .normal =
   b.at { tmps := args.toArray ++ Array.replicate (S.fn.ntmps - args.length) undef, defers := [] } [.code c] := by
  simp [Frame.enter, Frame.at, hS.fn, hb, b]
 have hfit : Fits sz (argEnv 0 args) { tmps := args.toArray ++ Array.replicate (S.fn.ntmps - args.length) undef, defers := [] } := by
  refine ⟨rfl, by simp [hn]; omega, fun t v hl => ?_⟩
  obtain ⟨_, h2⟩ := look_argEnv args 0 t v hl
  simp only [Nat.sub_zero] at h2
  have hlt : t < args.length := by
   rcases Nat.lt_or_ge t args.length with h | h
   ·exact h
   ·rw [List.getElem?_eq_none h] at h2; cases h2
  rw [Array.getElem?_append_left (by simpa using hlt)]
  simpa using h2
 obtain ⟨v, w', fr, hR, hst, hf, hl⟩ := h (fun _ => True) _ hfit b cs rfl rfl
 exact ⟨.returned v, w', fr, ⟨v, rfl, hR⟩, by rw [henter]; exact hst, hf, hl⟩
end Go.Xw
