/- Rows of rows of the call's own, and strings out of bytes; each under its stated conditions. -/
import Derived.Test.YtbjgekllkfnjnaaFam
import Derived.Laws.BytesString
set_option linter.all false
namespace Go.Xw
open Go.RowKit

/-! ### rows of rows -/
theorem set_getE {α : Type} [Inhabited α] {X : List α} {i j : Nat} {y : α} (hi : i < X.length) : (X.set i y).getD j default = if j = i then y else X.getD j default := by
  simp only [List.getD_eq_getElem?_getD, List.getElem?_set]
  by_cases h : i = j
  · subst h; simp [hi]
  · rw [if_neg h, if_neg (fun e => h e.symm)]
theorem take_snocC {α : Type} [Inhabited α] {xs : List α} {i : Nat} (h : i < xs.length) : xs.take (i + 1) = xs.take i ++ [xs.getD i default] := by
  rw [List.take_succ_eq_append_getElem h]
  simp [List.getD_eq_getElem?_getD, h]
theorem getD_memR {α : Type} [Inhabited α] {X : List α} {i : Nat} (h : i < X.length) : X.getD i default ∈ X := by
  rw [List.getD_eq_getElem?_getD, List.getElem?_eq_getElem h]; exact List.getElem_mem h
structure RowA (α : Type) where
  ins : List α
  ia : Option Addr
  ic : Nat
instance {α : Type} : Inhabited (RowA α) := ⟨⟨[], none, 0⟩⟩
def eRo {α : Type} (r : RowA α) : List Value := [.slice r.ia r.ins.length r.ic]
instance eRo_ok {α : Type} : EncOk (eRo (α := α)) 1 := ⟨fun _ => rfl, fun x u hu => by simp [eRo] at hu; subst hu; rfl⟩
/-- the lists -/
def insOf {α : Type} (R : List (RowA α)) : List (List α) := R.map RowA.ins
theorem insOf_len {α : Type} (R : List (RowA α)) : (insOf R).length = R.length := by simp [insOf]
theorem insOf_get {α : Type} (R : List (RowA α)) (i : Nat) : (insOf R).getD i default = (R.getD i default).ins := by
  simp only [insOf, List.getD_eq_getElem?_getD, List.getElem?_map]
  cases R[i]? <;> rfl
/-- all rows are of the call's own -/
def rRows {α : Type} (e : TypeId) (s : Nat) (enc : α → List Value) (R : List (RowA α)) : Res := rAll (R.map fun r => rO e s enc r.ia r.ic r.ins)
section
variable {α : Type} {e : TypeId} {s : Nat} {enc : α → List Value} {w0 w w' : World} {L : List Res} {R : List (RowA α)}
theorem rRows_nil (h : Hp w0 w L) : Hp w0 w (rRows e s enc ([] : List (RowA α)) :: L) := Hp.pack (Rs := []) h
theorem rRows_add {y : RowA α} (h : Hp w0 w (rO e s enc y.ia y.ic y.ins :: rRows e s enc R :: L)) : Hp w0 w (rRows e s enc (R ++ [y]) :: L) := by
  have h1 : Hp w0 w (R.map (fun r => rO e s enc r.ia r.ic r.ins) ++ (rO e s enc y.ia y.ic y.ins :: L)) := h.f1.unpack
  refine Hp.pack (Hp.perm h1 ?_)
  simp only [List.map_append, List.map_cons, List.map_nil, List.append_assoc]
  exact .refl _
theorem rRows_snoc {y : RowA α} (h : Hp w0 w (rRows e s enc R :: L)) (hy : Hp w w' [rO e s enc y.ia y.ic y.ins]) : Hp w0 w' (rRows e s enc (R ++ [y]) :: L) := rRows_add (h.call1 hy)
theorem rRows_nils : ∀ (n : Nat), Hp w0 w L → Hp w0 w (rRows e s enc (List.replicate n (⟨[], none, 0⟩ : RowA α)) :: L)
  | 0, h => rRows_nil h
  | n + 1, h => by
    rw [List.replicate_succ']
    exact rRows_snoc (rRows_nils n h) ((Hp.nil w).ownN (Ext.refl _) (Own.nil _ _ _ _ _))
theorem rRows_at (h : Hp w0 w (rRows e s enc R :: L)) {i : Nat} (hi : i < R.length) :
    ∃ Q, Hp w0 w (rO e s enc (R.getD i default).ia (R.getD i default).ic (R.getD i default).ins :: Q :: L) ∧ ∀ w' L' y, Hp w0 w' (rO e s enc y.ia y.ic y.ins :: Q :: L') → Hp w0 w' (rRows e s enc (R.set i y) :: L') := by
  obtain ⟨Q, h1, h2⟩ := Hp.allAt (i := i) (R := rO e s enc (R.getD i default).ia (R.getD i default).ic (R.getD i default).ins) h (by
    rw [List.getElem?_map, List.getElem?_eq_getElem hi, List.getD_eq_getElem?_getD, List.getElem?_eq_getElem hi]; rfl)
  refine ⟨Q, h1, fun w' L' y hy => ?_⟩
  have h3 := h2 w' _ _ hy
  unfold rRows
  rw [List.map_set]
  exact h3
end
/-- the rows can be read in every world of this kind -/
class RowsH (w0 : World) (L : List Res) {α : Type} [Inhabited α] (s : outParam Nat) (enc : outParam (α → List Value)) (R : List (RowA α)) : Prop where
  h : ∀ w, Hp w0 w L → ∀ r, r ∈ R → Sl w r.ia r.ins.length s (fL enc r.ins)
instance RowsH.head {w0 : World} {L : List Res} {α : Type} [Inhabited α] {e : TypeId} {s : Nat} {enc : α → List Value} [he : EncOk enc s] {R : List (RowA α)} : RowsH w0 (rRows e s enc R :: L) s enc R :=
  ⟨fun w hp r hr => Own.sl (hp.g0 (rO e s enc r.ia r.ic r.ins) (List.mem_map.2 ⟨r, hr, rfl⟩)) he.len⟩
instance RowsH.tail {w0 : World} {L : List Res} {A : Res} {α : Type} [Inhabited α] {s : Nat} {enc : α → List Value} {R : List (RowA α)} [h : RowsH w0 L s enc R] : RowsH w0 (A :: L) s enc R := ⟨fun w hp => h.h w hp.drop⟩
theorem RowsH.at_ {w0 : World} {L : List Res} {α : Type} [Inhabited α] {s : Nat} {enc : α → List Value} {R : List (RowA α)} (h : RowsH w0 L s enc R) {i : Nat} (hi : i < R.length) : RdH w0 L (R.getD i default).ia s enc (R.getD i default).ins :=
  ⟨fun w hp => h.h w hp _ (getD_memR hi)⟩
theorem RowsH.mem_ {w0 : World} {L : List Res} {α : Type} [Inhabited α] {s : Nat} {enc : α → List Value} {R : List (RowA α)} (h : RowsH w0 L s enc R) {r : RowA α} (hr : r ∈ R) : RdH w0 L r.ia s enc r.ins :=
  ⟨fun w hp => h.h w hp r hr⟩

/-! ### strings -/
def strOf (X : List Int) : ByteArray := X.foldl (fun r n => r.push (UInt8.ofNat n.toNat)) ByteArray.empty
theorem strOf_list : ∀ (X : List Int) (s : ByteArray), (X.foldl (fun r n => r.push (UInt8.ofNat n.toNat)) s).data.toList = s.data.toList ++ X.map (fun n => UInt8.ofNat n.toNat)
  | [], s => by simp
  | x :: X, s => by
    rw [List.foldl_cons, strOf_list X, List.map_cons]
    show (s.data.push _).toList ++ _ = _
    simp
theorem strOf_inj {X Y : List Int} (hX : ∀ x, x ∈ X → 0 ≤ x ∧ x ≤ 255) (hY : ∀ x, x ∈ Y → 0 ≤ x ∧ x ≤ 255) (h : strOf X = strOf Y) : X = Y := by
  have h1 := congrArg (fun s : ByteArray => s.data.toList) h
  unfold strOf at h1
  rw [strOf_list, strOf_list] at h1
  simp only [ByteArray.empty, ByteArray.emptyWithCapacity, List.nil_append] at h1
  have h2 : X.map (fun n => UInt8.ofNat n.toNat) = Y.map (fun n => UInt8.ofNat n.toNat) := by simpa using h1
  have hl : X.length = Y.length := by have := congrArg List.length h2; simpa using this
  refine List.ext_getElem hl fun i a b => ?_
  have h3 := congrArg (fun l : List UInt8 => l[i]?) h2
  simp only [List.getElem?_map, List.getElem?_eq_getElem a, List.getElem?_eq_getElem b, Option.map_some, Option.some.injEq] at h3
  have h4 := congrArg UInt8.toNat h3
  simp only [UInt8.toNat_ofNat'] at h4
  have hx := hX _ (List.getElem_mem a)
  have hy := hY _ (List.getElem_mem b)
  omega
def eStr (s : ByteArray) : List Value := [.string s]
instance eStr_ok : EncOk eStr 1 := ⟨fun _ => rfl, fun x u hu => by simp [eStr] at hu; subst hu; rfl⟩
theorem toD_string {d : TypeDesc} (h : toD d = .string) : d = .string := by cases d <;> simp_all [toD]
theorem H_b2s {S : Setting} {sz : Nat} {R : Value → World → Prop} {C : World → Prop} {w w0 : World} {F : List Res} {ops : Array Oper} {o : Oper} {rest : List Oper} {k : List Item} {env : Env} [hS : S.Ok] (hp : Hp w0 w F)
    {s d e : TypeId} {x : Operand} {dst : Nat} {i j q : TI} {a : Option Addr} {c n : Nat} {X : List Int} [hr : RdH w0 F a 1 eU8 X] (hn : X.length = n)
    (hop : o.op = .convert s d x) (hdst : o.dst = some dst) (hx : ev env x = some (.slice a n c)) (hi : tl S.tt s = some i) (hid : i.desc = .slice e) (hj : tl S.tt e = some j) (hjd : j.desc = .int .u8) (hq : tl S.tt d = some q) (hqd : q.desc = .string) (hsz : okDst sz (some dst) = true)
    (hk : Holds S sz R C w (.ops false ops rest k ((dst, .string (strOf X)) :: env))) : Holds S sz R C w (.opx false ops o rest k env) := by
  subst hn
  show OpxT S sz R C false ops o rest k env w
  refine fun b hb => DoesO.wp ?_
  obtain ⟨info, td, _, _, _, _, h5, htd, _⟩ := hS.tt.get hi
  obtain ⟨info', td', _, _, _, _, g5, gtd, _⟩ := hS.tt.get hj
  obtain ⟨info2, td2, _, _, _, _, q5, qtd, _⟩ := hS.tt.get hq
  rw [toD_slice (htd.trans hid)] at h5
  rw [toD_int (gtd.trans hjd)] at g5
  rw [toD_string (qtd.trans hqd)] at q5
  have hc : (convert s d (.slice a X.length c)).run S.P w = .ok (.string (strOf X)) w := by
    rcases a with _ | a
    · have hl : X = [] := by
        have := (hr.h w hp).1
        cases X with
        | nil => rfl
        | cons y Y => exact absurd rfl (this (by simp))
      subst hl
      simp [convert, run_underlying h5, run_underlying q5, run_underlying g5, Conv.bytesToString, strOf]
    · rw [run_convert_bytes_string w s d e a _ _ h5 g5 q5]
      refine run_bytesToString w a _ _ X ?_
      have hcl := run_loadCells_list (P := S.P) (w := w) a (X.map (Value.int .u8)) fun m u hu => by
        rw [List.getElem?_map] at hu
        cases hg : X[m]? with
        | none => rw [hg] at hu; cases hu
        | some y =>
          rw [hg] at hu
          injection hu with hu
          have hlt := (List.getElem?_eq_some_iff.1 hg).1
          have h1 := (hr.h w hp).2 m 0 hlt (by decide)
          have e1 : fL eU8 X m 0 = u := by
            refine fL_cell ?_
            rw [List.getD_eq_getElem?_getD, hg]
            exact congrArg some hu
          rw [e1] at h1
          have e2 : (elemAddr (some a) 1 (m : Int)).add 0 = a.add m := by
            simp [elemAddr, Addr.add]
          rwa [e2] at h1
      rw [List.length_map] at hcl
      exact hcl
  unfold DoesO
  have hrun : execOp b.eval o = (do pure (.value (← convert s d (b.eval x)))) := by
    have : ∀ op, o.op = op → execOp b.eval o = execOp b.eval { o with op := op } := fun op e => by subst e; rfl
    rw [this _ hop]
    rfl
  rw [hrun, ev_agree hb.agree hx]
  simp only [Sem.run_bind, hc, Result.andThen_ok, Sem.run_pure]
  rw [hdst]
  exact hk _ (hb.put hsz _)
end Go.Xw
