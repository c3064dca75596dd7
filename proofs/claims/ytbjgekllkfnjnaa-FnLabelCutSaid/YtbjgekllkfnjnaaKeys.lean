/- The two kinds of keys of the maps: a step, and two numbers; each under its stated conditions. -/
import Derived.Test.YtbjgekllkfnjnaaMaps4
import Derived.Test.YtbjgekllkfnjnaaTab
set_option linter.all false
namespace Go.Xw
set_option maxHeartbeats 1000000
theorem lits_int {P : Program} {t : TypeId} (h : P.underlying t = some (.int .i64)) {a : Int} (hw : (Lit.int .i64 a).wf = true) (n : Nat) : P.keyLits (n + 1) t [.int .i64 a] = some [.int .i64 a] := by
 unfold Program.keyLits
 rw [h]
 simp [hw]
theorem lits_bool {P : Program} {t : TypeId} (h : P.underlying t = some .bool) (b : Bool) (n : Nat) : P.keyLits (n + 1) t [.bool b] = some [.bool b] := by
 unfold Program.keyLits
 rw [h]
theorem keyOf_two {P : Program} {k t1 t2 : TypeId} {fs : Array Field} (hu : P.underlying k = some (.struct fs)) (hfs : fs.toList.map (fun f => (f.offset, f.type)) = [(0, t1), (1, t2)]) (hnm : fs.all (·.name != "_") = true) (hc : P.cellsOf k = 2) (hc1 : P.cellsOf t1 = 1) (hc2 : P.cellsOf t2 = 1) (hkt : P.keyType k = true)
  (h1 : P.underlying t1 = some (.int .i64)) (h2 : P.underlying t2 = some .bool) (hs : 0 < P.types.size) {a : Int} (b : Bool) (hw : (Lit.int .i64 a).wf = true) : ∃ l, keyOf P k (.agg ⟨[.int .i64 a, .bool b]⟩) = some l := by
 obtain ⟨n, hn⟩ : ∃ n, P.types.size = n + 1 := ⟨P.types.size - 1, by omega⟩
 obtain ⟨f1, f2, hl⟩ : ∃ f1 f2, fs.toList = [f1, f2] := by
  match h : fs.toList with
  | [] => rw [h] at hfs; simp at hfs
  | [x] => rw [h] at hfs; simp at hfs
  | [x, y] => exact ⟨x, y, rfl⟩
  | x :: y :: z :: r => rw [h] at hfs; simp at hfs
 rw [hl] at hfs
 simp only [List.map_cons, List.map_nil, List.cons.injEq, Prod.mk.injEq, and_true] at hfs
 obtain ⟨⟨o1, y1⟩, o2, y2⟩ := hfs
 have hlits : P.keyLits (P.types.size + 1) k [.int .i64 a, .bool b] = some [.int .i64 a, .bool b] := by
  unfold Program.keyLits
  rw [hu]
  simp only [hc, hnm, List.length_cons, List.length_nil, and_self, if_true, hl]
  simp only [List.mapM_cons, List.mapM_nil, o1, o2, y1, y2, hc1, hc2, hn]
  rw [show ([Value.int .i64 a, .bool b].drop 0).take 1 = [.int .i64 a] from rfl, show ([Value.int .i64 a, .bool b].drop 1).take 1 = [.bool b] from rfl, lits_int h1 hw, lits_bool h2]
  rfl
 unfold keyOf
 rw [hu]
 have hf : Value.formed P k (.agg ⟨[.int .i64 a, .bool b]⟩) = true := by
  simp only [Value.formed, hu, hc]; rfl
 simp only [hkt, hf, Bool.and_self, if_true]
 have hcs : (Value.cells (.agg ⟨[.int .i64 a, .bool b]⟩)).toList = [.int .i64 a, .bool b] := rfl
 rw [hcs, hlits]
 exact ⟨_, rfl⟩
theorem keyOf_pair {P : Program} {k t : TypeId} (hu : P.underlying k = some (.array 2 t)) (hc : P.cellsOf k = 2) (hc1 : P.cellsOf t = 1) (hkt : P.keyType k = true) (h1 : P.underlying t = some (.int .i64)) (hs : 0 < P.types.size) {a b : Int} (hw : (Lit.int .i64 a).wf = true) (hw2 : (Lit.int .i64 b).wf = true) : ∃ l, keyOf P k (.agg ⟨[.int .i64 a, .int .i64 b]⟩) = some l := by
 obtain ⟨n, hn⟩ : ∃ n, P.types.size = n + 1 := ⟨P.types.size - 1, by omega⟩
 have hlits : P.keyLits (P.types.size + 1) k [.int .i64 a, .int .i64 b] = some [.int .i64 a, .int .i64 b] := by
  unfold Program.keyLits
  rw [hu]
  simp only [hc, List.length_cons, List.length_nil, if_true]
  rw [show List.range 2 = [0, 1] from rfl]
  simp only [List.mapM_cons, List.mapM_nil, hc1, hn]
  rw [show ([Value.int .i64 a, .int .i64 b].drop (0 * 1)).take 1 = [.int .i64 a] from rfl, show ([Value.int .i64 a, .int .i64 b].drop (1 * 1)).take 1 = [.int .i64 b] from rfl, lits_int h1 hw, lits_int h1 hw2]
  rfl
 unfold keyOf
 rw [hu]
 have hf : Value.formed P k (.agg ⟨[.int .i64 a, .int .i64 b]⟩) = true := by
  simp only [Value.formed, hu, hc]; rfl
 simp only [hkt, hf, Bool.and_self, if_true]
 have hcs : (Value.cells (.agg ⟨[.int .i64 a, .int .i64 b]⟩)).toList = [.int .i64 a, .int .i64 b] := rfl
 rw [hcs, hlits]
 exact ⟨_, rfl⟩
theorem wf_nat {a : Nat} (h : a < 1000000) : (Lit.int .i64 (a : Int)).wf = true := by
 have h1 : IntKind.i64.min = -9223372036854775808 := rfl
 have h2 : IntKind.i64.max = 9223372036854775807 := rfl
 simp [Lit.wf, h1, h2]
 omega
def eSt (x : Nat × Bool) : Value := .agg ⟨[.int .i64 (x.1 : Int), .bool x.2]⟩
def ePr (x : Nat × Nat) : Value := .agg ⟨[.int .i64 (x.1 : Int), .int .i64 (x.2 : Int)]⟩
def eIV (z : Int) : Value := .int .i64 z
def dSt (x : Nat × Bool) : Prop := x.1 < 1000000
def dPr (x : Nat × Nat) : Prop := x.1 < 1000000 ∧ x.2 < 1000000
end Go.Xw
namespace Go.Proofs
open Go.Xw
set_option maxRecDepth 100000
set_option maxHeartbeats 1000000
theorem step_key : KeyE Try.prog 108 eSt dSt where
 law := deep_law (m := 2) (by decide) (by kernel_rfl) (by kernel_rfl) (by kernel_rfl)
 ok x hx := keyOf_two (t1 := 3) (t2 := 4) (fs := Try.prog.fieldsOf 108) (by kernel_rfl) (by kernel_rfl) (by kernel_rfl) (by kernel_rfl) (by kernel_rfl) (by kernel_rfl) (by kernel_rfl) (by kernel_rfl) (by kernel_rfl) (by decide) _ (wf_nat hx)
 inj x y h := by
  obtain ⟨a, b⟩ := x
  obtain ⟨c, d⟩ := y
  simp [eSt] at h
  obtain ⟨h1, h2⟩ := h
  rw [Prod.mk.injEq]
  exact ⟨by omega, h2⟩
theorem pair_key : KeyE Try.prog 142 ePr dPr where
 law := deep_law (m := 2) (by decide) (by kernel_rfl) (by kernel_rfl) (by kernel_rfl)
 ok x hx := keyOf_pair (t := 3) (by kernel_rfl) (by kernel_rfl) (by kernel_rfl) (by kernel_rfl) (by kernel_rfl) (by decide) (wf_nat hx.1) (wf_nat hx.2)
 inj x y h := by
  obtain ⟨a, b⟩ := x
  obtain ⟨c, d⟩ := y
  simp [ePr] at h
  simp; omega
end Go.Proofs
