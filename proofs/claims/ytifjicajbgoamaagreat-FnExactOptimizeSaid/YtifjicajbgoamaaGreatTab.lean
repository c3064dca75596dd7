/- The table of the types and the settings of the functions, by program (fill.py); no condition. -/
import Derived.Test.YtifjicajbgoamaaGreatProg
import Derived.Test.YtifjicajbgoamaaGreatCore
import Derived.KernelRfl
set_option linter.all false
namespace Go.Proofs
open Go.Xw
set_option maxRecDepth 100000
noncomputable def Tryz.ti2 : TI := { desc := .int .i64, size := 1, bytes := 8, zero := .int .i64 0, plain := false }
theorem Tryz.ti2ok : tiOk Tryz.prog 2 Tryz.ti2 := by
  refine ⟨_, _, rfl, ?_, ?_, ?_, Tryz.underlying2, ?_, fun h => by cases h⟩ <;> kernel_rfl
noncomputable def Tryz.ti3 : TI := { desc := .int .i64, size := 1, bytes := 8, zero := .int .i64 0, plain := false }
theorem Tryz.ti3ok : tiOk Tryz.prog 3 Tryz.ti3 := by
  refine ⟨_, _, rfl, ?_, ?_, ?_, Tryz.underlying3, ?_, fun h => by cases h⟩ <;> kernel_rfl
noncomputable def Tryz.ti4 : TI := { desc := .bool, size := 1, bytes := 1, zero := .bool false, plain := false }
theorem Tryz.ti4ok : tiOk Tryz.prog 4 Tryz.ti4 := by
  refine ⟨_, _, rfl, ?_, ?_, ?_, Tryz.underlying4, ?_, fun h => by cases h⟩ <;> kernel_rfl
noncomputable def Tryz.ti5 : TI := { desc := .int .u8, size := 1, bytes := 1, zero := .int .u8 0, plain := false }
theorem Tryz.ti5ok : tiOk Tryz.prog 5 Tryz.ti5 := by
  refine ⟨_, _, rfl, ?_, ?_, ?_, Tryz.underlying5, ?_, fun h => by cases h⟩ <;> kernel_rfl
noncomputable def Tryz.ti9 : TI := { desc := .string, size := 1, bytes := 16, zero := .string ByteArray.empty, plain := false }
theorem Tryz.ti9ok : tiOk Tryz.prog 9 Tryz.ti9 := by
  refine ⟨_, _, rfl, ?_, ?_, ?_, Tryz.underlying9, ?_, fun h => by cases h⟩ <;> kernel_rfl
noncomputable def Tryz.ti12 : TI := { desc := .int .u64, size := 1, bytes := 8, zero := .int .u64 0, plain := false }
theorem Tryz.ti12ok : tiOk Tryz.prog 12 Tryz.ti12 := by
  refine ⟨_, _, rfl, ?_, ?_, ?_, Tryz.underlying12, ?_, fun h => by cases h⟩ <;> kernel_rfl
noncomputable def Tryz.ti21 : TI := { desc := .int .i32, size := 1, bytes := 4, zero := .int .i32 0, plain := false }
theorem Tryz.ti21ok : tiOk Tryz.prog 21 Tryz.ti21 := by
  refine ⟨_, _, rfl, ?_, ?_, ?_, Tryz.underlying21, ?_, fun h => by cases h⟩ <;> kernel_rfl
noncomputable def Tryz.ti22 : TI := { desc := .slice 78, size := 1, bytes := 24, zero := .slice none 0 0, plain := false }
theorem Tryz.ti22ok : tiOk Tryz.prog 22 Tryz.ti22 := by
  refine ⟨_, _, rfl, ?_, ?_, ?_, Tryz.underlying22, ?_, fun h => by cases h⟩ <;> kernel_rfl
noncomputable def Tryz.ti23 : TI := { desc := .slice 93, size := 1, bytes := 24, zero := .slice none 0 0, plain := false }
theorem Tryz.ti23ok : tiOk Tryz.prog 23 Tryz.ti23 := by
  refine ⟨_, _, rfl, ?_, ?_, ?_, Tryz.underlying23, ?_, fun h => by cases h⟩ <;> kernel_rfl
noncomputable def Tryz.ti24 : TI := { desc := .slice 3, size := 1, bytes := 24, zero := .slice none 0 0, plain := false }
theorem Tryz.ti24ok : tiOk Tryz.prog 24 Tryz.ti24 := by
  refine ⟨_, _, rfl, ?_, ?_, ?_, Tryz.underlying24, ?_, fun h => by cases h⟩ <;> kernel_rfl
noncomputable def Tryz.ti25 : TI := { desc := .struct [(0, 3), (1, 22), (2, 23), (3, 24)], size := 4, bytes := 80, zero := .agg #[.int .i64 0, .slice none 0 0, .slice none 0 0, .slice none 0 0], plain := false }
theorem Tryz.ti25ok : tiOk Tryz.prog 25 Tryz.ti25 := by
  refine ⟨_, _, rfl, ?_, ?_, ?_, Tryz.underlying25, ?_, fun h => by cases h⟩ <;> kernel_rfl
noncomputable def Tryz.ti26 : TI := { desc := .struct [(0, 3), (1, 22), (2, 23), (3, 24)], size := 4, bytes := 80, zero := .agg #[.int .i64 0, .slice none 0 0, .slice none 0 0, .slice none 0 0], plain := false }
theorem Tryz.ti26ok : tiOk Tryz.prog 26 Tryz.ti26 := by
  refine ⟨_, _, rfl, ?_, ?_, ?_, Tryz.underlying26, ?_, fun h => by cases h⟩ <;> kernel_rfl
noncomputable def Tryz.ti28 : TI := { desc := .slice 88, size := 1, bytes := 24, zero := .slice none 0 0, plain := false }
theorem Tryz.ti28ok : tiOk Tryz.prog 28 Tryz.ti28 := by
  refine ⟨_, _, rfl, ?_, ?_, ?_, Tryz.underlying28, ?_, fun h => by cases h⟩ <;> kernel_rfl
noncomputable def Tryz.ti29 : TI := { desc := .slice 62, size := 1, bytes := 24, zero := .slice none 0 0, plain := false }
theorem Tryz.ti29ok : tiOk Tryz.prog 29 Tryz.ti29 := by
  refine ⟨_, _, rfl, ?_, ?_, ?_, Tryz.underlying29, ?_, fun h => by cases h⟩ <;> kernel_rfl
noncomputable def Tryz.ti30 : TI := { desc := .struct [(0, 3), (1, 28), (2, 29), (3, 24)], size := 4, bytes := 80, zero := .agg #[.int .i64 0, .slice none 0 0, .slice none 0 0, .slice none 0 0], plain := false }
theorem Tryz.ti30ok : tiOk Tryz.prog 30 Tryz.ti30 := by
  refine ⟨_, _, rfl, ?_, ?_, ?_, Tryz.underlying30, ?_, fun h => by cases h⟩ <;> kernel_rfl
noncomputable def Tryz.ti31 : TI := { desc := .struct [(0, 3), (1, 28), (2, 29), (3, 24)], size := 4, bytes := 80, zero := .agg #[.int .i64 0, .slice none 0 0, .slice none 0 0, .slice none 0 0], plain := false }
theorem Tryz.ti31ok : tiOk Tryz.prog 31 Tryz.ti31 := by
  refine ⟨_, _, rfl, ?_, ?_, ?_, Tryz.underlying31, ?_, fun h => by cases h⟩ <;> kernel_rfl
noncomputable def Tryz.ti48 : TI := { desc := .struct [(0, 3), (1, 3)], size := 2, bytes := 16, zero := .agg #[.int .i64 0, .int .i64 0], plain := true }
theorem Tryz.ti48ok : tiOk Tryz.prog 48 Tryz.ti48 := by
  refine ⟨_, _, rfl, ?_, ?_, ?_, Tryz.underlying48, ?_, fun _ => ⟨by kernel_rfl, by kernel_rfl, by intro f hf; simp at hf; (repeat (first | (rcases hf with rfl | hf; · decide) | (subst hf; decide)))⟩⟩ <;> kernel_rfl
noncomputable def Tryz.ti49 : TI := { desc := .struct [(0, 3), (1, 3)], size := 2, bytes := 16, zero := .agg #[.int .i64 0, .int .i64 0], plain := true }
theorem Tryz.ti49ok : tiOk Tryz.prog 49 Tryz.ti49 := by
  refine ⟨_, _, rfl, ?_, ?_, ?_, Tryz.underlying49, ?_, fun _ => ⟨by kernel_rfl, by kernel_rfl, by intro f hf; simp at hf; (repeat (first | (rcases hf with rfl | hf; · decide) | (subst hf; decide)))⟩⟩ <;> kernel_rfl
noncomputable def Tryz.ti51 : TI := { desc := .slice 87, size := 1, bytes := 24, zero := .slice none 0 0, plain := false }
theorem Tryz.ti51ok : tiOk Tryz.prog 51 Tryz.ti51 := by
  refine ⟨_, _, rfl, ?_, ?_, ?_, Tryz.underlying51, ?_, fun h => by cases h⟩ <;> kernel_rfl
noncomputable def Tryz.ti61 : TI := { desc := .struct [(0, 3), (1, 3)], size := 2, bytes := 16, zero := .agg #[.int .i64 0, .int .i64 0], plain := true }
theorem Tryz.ti61ok : tiOk Tryz.prog 61 Tryz.ti61 := by
  refine ⟨_, _, rfl, ?_, ?_, ?_, Tryz.underlying61, ?_, fun _ => ⟨by kernel_rfl, by kernel_rfl, by intro f hf; simp at hf; (repeat (first | (rcases hf with rfl | hf; · decide) | (subst hf; decide)))⟩⟩ <;> kernel_rfl
noncomputable def Tryz.ti62 : TI := { desc := .struct [(0, 3), (1, 3)], size := 2, bytes := 16, zero := .agg #[.int .i64 0, .int .i64 0], plain := true }
theorem Tryz.ti62ok : tiOk Tryz.prog 62 Tryz.ti62 := by
  refine ⟨_, _, rfl, ?_, ?_, ?_, Tryz.underlying62, ?_, fun _ => ⟨by kernel_rfl, by kernel_rfl, by intro f hf; simp at hf; (repeat (first | (rcases hf with rfl | hf; · decide) | (subst hf; decide)))⟩⟩ <;> kernel_rfl
noncomputable def Tryz.ti72 : TI := { desc := .slice 24, size := 1, bytes := 24, zero := .slice none 0 0, plain := false }
theorem Tryz.ti72ok : tiOk Tryz.prog 72 Tryz.ti72 := by
  refine ⟨_, _, rfl, ?_, ?_, ?_, Tryz.underlying72, ?_, fun h => by cases h⟩ <;> kernel_rfl
noncomputable def Tryz.ti74 : TI := { desc := .slice 72, size := 1, bytes := 24, zero := .slice none 0 0, plain := false }
theorem Tryz.ti74ok : tiOk Tryz.prog 74 Tryz.ti74 := by
  refine ⟨_, _, rfl, ?_, ?_, ?_, Tryz.underlying74, ?_, fun h => by cases h⟩ <;> kernel_rfl
noncomputable def Tryz.ti77 : TI := { desc := .struct [(0, 3), (1, 3), (2, 24)], size := 3, bytes := 40, zero := .agg #[.int .i64 0, .int .i64 0, .slice none 0 0], plain := false }
theorem Tryz.ti77ok : tiOk Tryz.prog 77 Tryz.ti77 := by
  refine ⟨_, _, rfl, ?_, ?_, ?_, Tryz.underlying77, ?_, fun h => by cases h⟩ <;> kernel_rfl
noncomputable def Tryz.ti78 : TI := { desc := .struct [(0, 3), (1, 3), (2, 24)], size := 3, bytes := 40, zero := .agg #[.int .i64 0, .int .i64 0, .slice none 0 0], plain := false }
theorem Tryz.ti78ok : tiOk Tryz.prog 78 Tryz.ti78 := by
  refine ⟨_, _, rfl, ?_, ?_, ?_, Tryz.underlying78, ?_, fun h => by cases h⟩ <;> kernel_rfl
noncomputable def Tryz.ti80 : TI := { desc := .slice 4, size := 1, bytes := 24, zero := .slice none 0 0, plain := false }
theorem Tryz.ti80ok : tiOk Tryz.prog 80 Tryz.ti80 := by
  refine ⟨_, _, rfl, ?_, ?_, ?_, Tryz.underlying80, ?_, fun h => by cases h⟩ <;> kernel_rfl
noncomputable def Tryz.ti86 : TI := { desc := .struct [(0, 3), (1, 3)], size := 2, bytes := 16, zero := .agg #[.int .i64 0, .int .i64 0], plain := true }
theorem Tryz.ti86ok : tiOk Tryz.prog 86 Tryz.ti86 := by
  refine ⟨_, _, rfl, ?_, ?_, ?_, Tryz.underlying86, ?_, fun _ => ⟨by kernel_rfl, by kernel_rfl, by intro f hf; simp at hf; (repeat (first | (rcases hf with rfl | hf; · decide) | (subst hf; decide)))⟩⟩ <;> kernel_rfl
noncomputable def Tryz.ti87 : TI := { desc := .struct [(0, 3), (1, 3)], size := 2, bytes := 16, zero := .agg #[.int .i64 0, .int .i64 0], plain := true }
theorem Tryz.ti87ok : tiOk Tryz.prog 87 Tryz.ti87 := by
  refine ⟨_, _, rfl, ?_, ?_, ?_, Tryz.underlying87, ?_, fun _ => ⟨by kernel_rfl, by kernel_rfl, by intro f hf; simp at hf; (repeat (first | (rcases hf with rfl | hf; · decide) | (subst hf; decide)))⟩⟩ <;> kernel_rfl
noncomputable def Tryz.ti88 : TI := { desc := .struct [(0, 3), (1, 3), (2, 24)], size := 3, bytes := 40, zero := .agg #[.int .i64 0, .int .i64 0, .slice none 0 0], plain := false }
theorem Tryz.ti88ok : tiOk Tryz.prog 88 Tryz.ti88 := by
  refine ⟨_, _, rfl, ?_, ?_, ?_, Tryz.underlying88, ?_, fun h => by cases h⟩ <;> kernel_rfl
noncomputable def Tryz.ti93 : TI := { desc := .struct [(0, 3), (1, 3)], size := 2, bytes := 16, zero := .agg #[.int .i64 0, .int .i64 0], plain := true }
theorem Tryz.ti93ok : tiOk Tryz.prog 93 Tryz.ti93 := by
  refine ⟨_, _, rfl, ?_, ?_, ?_, Tryz.underlying93, ?_, fun _ => ⟨by kernel_rfl, by kernel_rfl, by intro f hf; simp at hf; (repeat (first | (rcases hf with rfl | hf; · decide) | (subst hf; decide)))⟩⟩ <;> kernel_rfl
noncomputable def Tryz.ti97 : TI := { desc := .pointer 31, size := 1, bytes := 8, zero := .pointer none, plain := false }
theorem Tryz.ti97ok : tiOk Tryz.prog 97 Tryz.ti97 := by
  refine ⟨_, _, rfl, ?_, ?_, ?_, Tryz.underlying97, ?_, fun h => by cases h⟩ <;> kernel_rfl
noncomputable def Tryz.ti106 : TI := { desc := .pointer 108, size := 1, bytes := 8, zero := .pointer none, plain := false }
theorem Tryz.ti106ok : tiOk Tryz.prog 106 Tryz.ti106 := by
  refine ⟨_, _, rfl, ?_, ?_, ?_, Tryz.underlying106, ?_, fun h => by cases h⟩ <;> kernel_rfl
noncomputable def Tryz.ti107 : TI := { desc := .struct [(0, 31), (4, 24)], size := 5, bytes := 104, zero := .agg #[.int .i64 0, .slice none 0 0, .slice none 0 0, .slice none 0 0, .slice none 0 0], plain := false }
theorem Tryz.ti107ok : tiOk Tryz.prog 107 Tryz.ti107 := by
  refine ⟨_, _, rfl, ?_, ?_, ?_, Tryz.underlying107, ?_, fun h => by cases h⟩ <;> kernel_rfl
noncomputable def Tryz.ti108 : TI := { desc := .struct [(0, 31), (4, 24)], size := 5, bytes := 104, zero := .agg #[.int .i64 0, .slice none 0 0, .slice none 0 0, .slice none 0 0, .slice none 0 0], plain := false }
theorem Tryz.ti108ok : tiOk Tryz.prog 108 Tryz.ti108 := by
  refine ⟨_, _, rfl, ?_, ?_, ?_, Tryz.underlying108, ?_, fun h => by cases h⟩ <;> kernel_rfl
noncomputable def Tryz.ti113 : TI := { desc := .int .u64, size := 1, bytes := 8, zero := .int .u64 0, plain := false }
theorem Tryz.ti113ok : tiOk Tryz.prog 113 Tryz.ti113 := by
  refine ⟨_, _, rfl, ?_, ?_, ?_, Tryz.underlying113, ?_, fun h => by cases h⟩ <;> kernel_rfl
noncomputable def Tryz.ti134 : TI := { desc := .int .u32, size := 1, bytes := 4, zero := .int .u32 0, plain := false }
theorem Tryz.ti134ok : tiOk Tryz.prog 134 Tryz.ti134 := by
  refine ⟨_, _, rfl, ?_, ?_, ?_, Tryz.underlying134, ?_, fun h => by cases h⟩ <;> kernel_rfl
noncomputable def Tryz.ti138 : TI := { desc := .pointer 5, size := 1, bytes := 8, zero := .pointer none, plain := false }
theorem Tryz.ti138ok : tiOk Tryz.prog 138 Tryz.ti138 := by
  refine ⟨_, _, rfl, ?_, ?_, ?_, Tryz.underlying138, ?_, fun h => by cases h⟩ <;> kernel_rfl
noncomputable def Tryz.tt : TT := [(3, Tryz.ti3), (24, Tryz.ti24), (4, Tryz.ti4), (2, Tryz.ti2), (5, Tryz.ti5), (9, Tryz.ti9), (12, Tryz.ti12), (21, Tryz.ti21), (22, Tryz.ti22), (23, Tryz.ti23), (25, Tryz.ti25), (26, Tryz.ti26), (28, Tryz.ti28), (29, Tryz.ti29), (30, Tryz.ti30), (31, Tryz.ti31), (48, Tryz.ti48), (49, Tryz.ti49), (51, Tryz.ti51), (61, Tryz.ti61), (62, Tryz.ti62), (72, Tryz.ti72), (74, Tryz.ti74), (77, Tryz.ti77), (78, Tryz.ti78), (80, Tryz.ti80), (86, Tryz.ti86), (87, Tryz.ti87), (88, Tryz.ti88), (93, Tryz.ti93), (97, Tryz.ti97), (106, Tryz.ti106), (107, Tryz.ti107), (108, Tryz.ti108), (113, Tryz.ti113), (134, Tryz.ti134), (138, Tryz.ti138)]
theorem Tryz.ttOk : TTok Tryz.prog Tryz.tt := ⟨Tryz.ti3ok, Tryz.ti24ok, Tryz.ti4ok, Tryz.ti2ok, Tryz.ti5ok, Tryz.ti9ok, Tryz.ti12ok, Tryz.ti21ok, Tryz.ti22ok, Tryz.ti23ok, Tryz.ti25ok, Tryz.ti26ok, Tryz.ti28ok, Tryz.ti29ok, Tryz.ti30ok, Tryz.ti31ok, Tryz.ti48ok, Tryz.ti49ok, Tryz.ti51ok, Tryz.ti61ok, Tryz.ti62ok, Tryz.ti72ok, Tryz.ti74ok, Tryz.ti77ok, Tryz.ti78ok, Tryz.ti80ok, Tryz.ti86ok, Tryz.ti87ok, Tryz.ti88ok, Tryz.ti93ok, Tryz.ti97ok, Tryz.ti106ok, Tryz.ti107ok, Tryz.ti108ok, Tryz.ti113ok, Tryz.ti134ok, Tryz.ti138ok, trivial⟩
noncomputable def Tryz.S3 : Setting := { P := Tryz.prog, tt := Tryz.tt, f := 3, fn := Tryz.f3, live := [0, 1, 2, 3, 6, 7, 8, 9, 10, 11, 12, 13, 14, 15, 16, 17, 18], res := [.tmp 6] }
instance Tryz.S3ok : Tryz.S3.Ok := ⟨Tryz.ttOk, Tryz.func3, rfl⟩
noncomputable def Tryz.S4 : Setting := { P := Tryz.prog, tt := Tryz.tt, f := 4, fn := Tryz.f4, live := [0, 1, 2, 3, 4, 5, 6, 7, 8, 9, 10], res := [.tmp 2] }
instance Tryz.S4ok : Tryz.S4.Ok := ⟨Tryz.ttOk, Tryz.func4, rfl⟩
noncomputable def Tryz.S5 : Setting := { P := Tryz.prog, tt := Tryz.tt, f := 5, fn := Tryz.f5, live := [0, 1, 2, 3, 4, 5, 6, 7, 8, 9, 10], res := [.tmp 2] }
instance Tryz.S5ok : Tryz.S5.Ok := ⟨Tryz.ttOk, Tryz.func5, rfl⟩
noncomputable def Tryz.S6 : Setting := { P := Tryz.prog, tt := Tryz.tt, f := 6, fn := Tryz.f6, live := [0, 1, 2, 4], res := [.tmp 4] }
instance Tryz.S6ok : Tryz.S6.Ok := ⟨Tryz.ttOk, Tryz.func6, rfl⟩
noncomputable def Tryz.S7 : Setting := { P := Tryz.prog, tt := Tryz.tt, f := 7, fn := Tryz.f7, live := [0, 1, 2, 3, 6, 7, 8, 9, 10, 11, 12, 13, 14, 15, 16, 17, 18], res := [.cell 6 31, .tmp 7] }
instance Tryz.S7ok : Tryz.S7.Ok := ⟨Tryz.ttOk, Tryz.func7, rfl⟩
noncomputable def Tryz.S8 : Setting := { P := Tryz.prog, tt := Tryz.tt, f := 8, fn := Tryz.f8, live := [0, 1, 2, 3], res := [.cell 2 31] }
instance Tryz.S8ok : Tryz.S8.Ok := ⟨Tryz.ttOk, Tryz.func8, rfl⟩
noncomputable def Tryz.S9 : Setting := { P := Tryz.prog, tt := Tryz.tt, f := 9, fn := Tryz.f9, live := [0, 2, 3, 4], res := [.tmp 2] }
instance Tryz.S9ok : Tryz.S9.Ok := ⟨Tryz.ttOk, Tryz.func9, rfl⟩
noncomputable def Tryz.S10 : Setting := { P := Tryz.prog, tt := Tryz.tt, f := 10, fn := Tryz.f10, live := [0, 1, 2, 3, 6, 7, 8, 9], res := [.cell 6 31, .tmp 7] }
instance Tryz.S10ok : Tryz.S10.Ok := ⟨Tryz.ttOk, Tryz.func10, rfl⟩
noncomputable def Tryz.S11 : Setting := { P := Tryz.prog, tt := Tryz.tt, f := 11, fn := Tryz.f11, live := [0, 1, 2, 3, 4], res := [.tmp 4] }
instance Tryz.S11ok : Tryz.S11.Ok := ⟨Tryz.ttOk, Tryz.func11, rfl⟩
noncomputable def Tryz.S12 : Setting := { P := Tryz.prog, tt := Tryz.tt, f := 12, fn := Tryz.f12, live := [0, 1, 4, 5], res := [.tmp 4] }
instance Tryz.S12ok : Tryz.S12.Ok := ⟨Tryz.ttOk, Tryz.func12, rfl⟩
noncomputable def Tryz.S13 : Setting := { P := Tryz.prog, tt := Tryz.tt, f := 13, fn := Tryz.f13, live := [0, 1, 2, 4], res := [.tmp 4] }
instance Tryz.S13ok : Tryz.S13.Ok := ⟨Tryz.ttOk, Tryz.func13, rfl⟩
noncomputable def Tryz.S14 : Setting := { P := Tryz.prog, tt := Tryz.tt, f := 14, fn := Tryz.f14, live := [0, 1, 4, 5], res := [.tmp 4] }
instance Tryz.S14ok : Tryz.S14.Ok := ⟨Tryz.ttOk, Tryz.func14, rfl⟩
noncomputable def Tryz.S15 : Setting := { P := Tryz.prog, tt := Tryz.tt, f := 15, fn := Tryz.f15, live := [0, 1, 2, 4], res := [.tmp 4] }
instance Tryz.S15ok : Tryz.S15.Ok := ⟨Tryz.ttOk, Tryz.func15, rfl⟩
noncomputable def Tryz.S16 : Setting := { P := Tryz.prog, tt := Tryz.tt, f := 16, fn := Tryz.f16, live := [0, 1, 2, 3, 4, 5, 6, 7, 8], res := [.cell 2 31] }
instance Tryz.S16ok : Tryz.S16.Ok := ⟨Tryz.ttOk, Tryz.func16, rfl⟩
noncomputable def Tryz.S17 : Setting := { P := Tryz.prog, tt := Tryz.tt, f := 17, fn := Tryz.f17, live := [0, 1, 2, 3, 4, 5, 6, 8, 9, 10, 43, 44, 45], res := [.cell 2 31] }
instance Tryz.S17ok : Tryz.S17.Ok := ⟨Tryz.ttOk, Tryz.func17, rfl⟩
noncomputable def Tryz.S18 : Setting := { P := Tryz.prog, tt := Tryz.tt, f := 18, fn := Tryz.f18, live := [0, 1, 2, 3, 4], res := [.cell 2 31] }
instance Tryz.S18ok : Tryz.S18.Ok := ⟨Tryz.ttOk, Tryz.func18, rfl⟩
noncomputable def Tryz.S19 : Setting := { P := Tryz.prog, tt := Tryz.tt, f := 19, fn := Tryz.f19, live := [0, 1, 2, 3, 4], res := [.cell 2 31] }
instance Tryz.S19ok : Tryz.S19.Ok := ⟨Tryz.ttOk, Tryz.func19, rfl⟩
noncomputable def Tryz.S20 : Setting := { P := Tryz.prog, tt := Tryz.tt, f := 20, fn := Tryz.f20, live := [0, 1, 4, 5], res := [.tmp 4] }
instance Tryz.S20ok : Tryz.S20.Ok := ⟨Tryz.ttOk, Tryz.func20, rfl⟩
noncomputable def Tryz.S21 : Setting := { P := Tryz.prog, tt := Tryz.tt, f := 21, fn := Tryz.f21, live := [0, 1, 4], res := [.tmp 4] }
instance Tryz.S21ok : Tryz.S21.Ok := ⟨Tryz.ttOk, Tryz.func21, rfl⟩
noncomputable def Tryz.S22 : Setting := { P := Tryz.prog, tt := Tryz.tt, f := 22, fn := Tryz.f22, live := [0, 1, 4], res := [.tmp 4] }
instance Tryz.S22ok : Tryz.S22.Ok := ⟨Tryz.ttOk, Tryz.func22, rfl⟩
noncomputable def Tryz.S23 : Setting := { P := Tryz.prog, tt := Tryz.tt, f := 23, fn := Tryz.f23, live := [0, 1, 2, 3, 6, 7, 8, 9, 10, 11], res := [.tmp 6] }
instance Tryz.S23ok : Tryz.S23.Ok := ⟨Tryz.ttOk, Tryz.func23, rfl⟩
noncomputable def Tryz.S24 : Setting := { P := Tryz.prog, tt := Tryz.tt, f := 24, fn := Tryz.f24, live := [0, 1, 2], res := [.tmp 2] }
instance Tryz.S24ok : Tryz.S24.Ok := ⟨Tryz.ttOk, Tryz.func24, rfl⟩
noncomputable def Tryz.S25 : Setting := { P := Tryz.prog, tt := Tryz.tt, f := 25, fn := Tryz.f25, live := [0, 1, 4, 5], res := [.tmp 4] }
instance Tryz.S25ok : Tryz.S25.Ok := ⟨Tryz.ttOk, Tryz.func25, rfl⟩
noncomputable def Tryz.S26 : Setting := { P := Tryz.prog, tt := Tryz.tt, f := 26, fn := Tryz.f26, live := [0, 1, 2], res := [.cell 2 31] }
instance Tryz.S26ok : Tryz.S26.Ok := ⟨Tryz.ttOk, Tryz.func26, rfl⟩
noncomputable def Tryz.S27 : Setting := { P := Tryz.prog, tt := Tryz.tt, f := 27, fn := Tryz.f27, live := [0, 1, 2, 3, 6, 7, 8, 9, 10, 11, 12, 13], res := [.cell 6 49] }
instance Tryz.S27ok : Tryz.S27.Ok := ⟨Tryz.ttOk, Tryz.func27, rfl⟩
noncomputable def Tryz.S28 : Setting := { P := Tryz.prog, tt := Tryz.tt, f := 28, fn := Tryz.f28, live := [0, 1, 2, 3, 4], res := [.tmp 2] }
instance Tryz.S28ok : Tryz.S28.Ok := ⟨Tryz.ttOk, Tryz.func28, rfl⟩
noncomputable def Tryz.S29 : Setting := { P := Tryz.prog, tt := Tryz.tt, f := 29, fn := Tryz.f29, live := [0, 1, 2], res := [.cell 2 49] }
instance Tryz.S29ok : Tryz.S29.Ok := ⟨Tryz.ttOk, Tryz.func29, rfl⟩
noncomputable def Tryz.S30 : Setting := { P := Tryz.prog, tt := Tryz.tt, f := 30, fn := Tryz.f30, live := [0, 1, 4, 5, 6, 7], res := [.tmp 4] }
instance Tryz.S30ok : Tryz.S30.Ok := ⟨Tryz.ttOk, Tryz.func30, rfl⟩
noncomputable def Tryz.S31 : Setting := { P := Tryz.prog, tt := Tryz.tt, f := 31, fn := Tryz.f31, live := [0, 1, 2, 3, 4, 5, 6, 7], res := [.cell 2 31, .tmp 3] }
instance Tryz.S31ok : Tryz.S31.Ok := ⟨Tryz.ttOk, Tryz.func31, rfl⟩
noncomputable def Tryz.S32 : Setting := { P := Tryz.prog, tt := Tryz.tt, f := 32, fn := Tryz.f32, live := [0, 1, 2, 3, 6, 7, 8, 9, 10, 11, 12, 13, 14, 15, 16, 17], res := [.cell 6 31, .tmp 7] }
instance Tryz.S32ok : Tryz.S32.Ok := ⟨Tryz.ttOk, Tryz.func32, rfl⟩
noncomputable def Tryz.S33 : Setting := { P := Tryz.prog, tt := Tryz.tt, f := 33, fn := Tryz.f33, live := [0, 2], res := [.tmp 2] }
instance Tryz.S33ok : Tryz.S33.Ok := ⟨Tryz.ttOk, Tryz.func33, rfl⟩
noncomputable def Tryz.S34 : Setting := { P := Tryz.prog, tt := Tryz.tt, f := 34, fn := Tryz.f34, live := [0, 1, 2, 3, 6, 7, 8, 9, 10, 11], res := [.cell 6 31, .tmp 7] }
instance Tryz.S34ok : Tryz.S34.Ok := ⟨Tryz.ttOk, Tryz.func34, rfl⟩
noncomputable def Tryz.S35 : Setting := { P := Tryz.prog, tt := Tryz.tt, f := 35, fn := Tryz.f35, live := [0, 1, 2, 3, 4, 6, 7], res := [.cell 6 31] }
instance Tryz.S35ok : Tryz.S35.Ok := ⟨Tryz.ttOk, Tryz.func35, rfl⟩
noncomputable def Tryz.S36 : Setting := { P := Tryz.prog, tt := Tryz.tt, f := 36, fn := Tryz.f36, live := [0, 2, 3, 4], res := [.tmp 2] }
instance Tryz.S36ok : Tryz.S36.Ok := ⟨Tryz.ttOk, Tryz.func36, rfl⟩
noncomputable def Tryz.S37 : Setting := { P := Tryz.prog, tt := Tryz.tt, f := 37, fn := Tryz.f37, live := [0, 2, 3, 4], res := [.tmp 2] }
instance Tryz.S37ok : Tryz.S37.Ok := ⟨Tryz.ttOk, Tryz.func37, rfl⟩
noncomputable def Tryz.S38 : Setting := { P := Tryz.prog, tt := Tryz.tt, f := 38, fn := Tryz.f38, live := [0, 1, 2, 3, 6], res := [.tmp 6] }
instance Tryz.S38ok : Tryz.S38.Ok := ⟨Tryz.ttOk, Tryz.func38, rfl⟩
noncomputable def Tryz.S39 : Setting := { P := Tryz.prog, tt := Tryz.tt, f := 39, fn := Tryz.f39, live := [0, 1, 2, 4], res := [.tmp 4] }
instance Tryz.S39ok : Tryz.S39.Ok := ⟨Tryz.ttOk, Tryz.func39, rfl⟩
noncomputable def Tryz.S40 : Setting := { P := Tryz.prog, tt := Tryz.tt, f := 40, fn := Tryz.f40, live := [0, 1, 4, 6, 7, 8, 9], res := [.tmp 4] }
instance Tryz.S40ok : Tryz.S40.Ok := ⟨Tryz.ttOk, Tryz.func40, rfl⟩
noncomputable def Tryz.S41 : Setting := { P := Tryz.prog, tt := Tryz.tt, f := 41, fn := Tryz.f41, live := [0, 1, 2], res := [.cell 2 31] }
instance Tryz.S41ok : Tryz.S41.Ok := ⟨Tryz.ttOk, Tryz.func41, rfl⟩
noncomputable def Tryz.S42 : Setting := { P := Tryz.prog, tt := Tryz.tt, f := 42, fn := Tryz.f42, live := [0, 1, 2, 3, 6, 7, 8, 9, 10, 11, 12, 13, 14, 15, 16, 17, 18, 20, 45, 46, 47, 59, 60, 61], res := [.cell 6 31, .tmp 7] }
instance Tryz.S42ok : Tryz.S42.Ok := ⟨Tryz.ttOk, Tryz.func42, rfl⟩
noncomputable def Tryz.S43 : Setting := { P := Tryz.prog, tt := Tryz.tt, f := 43, fn := Tryz.f43, live := [0, 1, 4, 5], res := [.tmp 4] }
instance Tryz.S43ok : Tryz.S43.Ok := ⟨Tryz.ttOk, Tryz.func43, rfl⟩
noncomputable def Tryz.S44 : Setting := { P := Tryz.prog, tt := Tryz.tt, f := 44, fn := Tryz.f44, live := [0, 1, 4, 5], res := [.tmp 4] }
instance Tryz.S44ok : Tryz.S44.Ok := ⟨Tryz.ttOk, Tryz.func44, rfl⟩
noncomputable def Tryz.S45 : Setting := { P := Tryz.prog, tt := Tryz.tt, f := 45, fn := Tryz.f45, live := [0, 1, 4, 5], res := [.tmp 4] }
instance Tryz.S45ok : Tryz.S45.Ok := ⟨Tryz.ttOk, Tryz.func45, rfl⟩
noncomputable def Tryz.S46 : Setting := { P := Tryz.prog, tt := Tryz.tt, f := 46, fn := Tryz.f46, live := [0, 1, 4, 5], res := [.tmp 4] }
instance Tryz.S46ok : Tryz.S46.Ok := ⟨Tryz.ttOk, Tryz.func46, rfl⟩
noncomputable def Tryz.S47 : Setting := { P := Tryz.prog, tt := Tryz.tt, f := 47, fn := Tryz.f47, live := [0, 1, 4, 5], res := [.tmp 4] }
instance Tryz.S47ok : Tryz.S47.Ok := ⟨Tryz.ttOk, Tryz.func47, rfl⟩
noncomputable def Tryz.S48 : Setting := { P := Tryz.prog, tt := Tryz.tt, f := 48, fn := Tryz.f48, live := [0, 1, 4, 5], res := [.tmp 4] }
instance Tryz.S48ok : Tryz.S48.Ok := ⟨Tryz.ttOk, Tryz.func48, rfl⟩
noncomputable def Tryz.S49 : Setting := { P := Tryz.prog, tt := Tryz.tt, f := 49, fn := Tryz.f49, live := [0, 1, 4, 5], res := [.tmp 4] }
instance Tryz.S49ok : Tryz.S49.Ok := ⟨Tryz.ttOk, Tryz.func49, rfl⟩
noncomputable def Tryz.S50 : Setting := { P := Tryz.prog, tt := Tryz.tt, f := 50, fn := Tryz.f50, live := [0, 1, 2, 3, 4, 5, 6, 7, 8], res := [.tmp 2] }
instance Tryz.S50ok : Tryz.S50.Ok := ⟨Tryz.ttOk, Tryz.func50, rfl⟩
noncomputable def Tryz.S51 : Setting := { P := Tryz.prog, tt := Tryz.tt, f := 51, fn := Tryz.f51, live := [0, 1, 2, 3, 4, 5, 6, 7], res := [.cell 2 31] }
instance Tryz.S51ok : Tryz.S51.Ok := ⟨Tryz.ttOk, Tryz.func51, rfl⟩
noncomputable def Tryz.S52 : Setting := { P := Tryz.prog, tt := Tryz.tt, f := 52, fn := Tryz.f52, live := [0, 1, 2, 4, 5, 6, 7], res := [.tmp 4] }
instance Tryz.S52ok : Tryz.S52.Ok := ⟨Tryz.ttOk, Tryz.func52, rfl⟩
noncomputable def Tryz.S53 : Setting := { P := Tryz.prog, tt := Tryz.tt, f := 53, fn := Tryz.f53, live := [0, 1, 2, 3, 5, 7, 8, 9, 10, 16, 17, 18, 27, 28, 29, 41, 42, 43], res := [.tmp 2] }
instance Tryz.S53ok : Tryz.S53.Ok := ⟨Tryz.ttOk, Tryz.func53, rfl⟩
noncomputable def Tryz.S54 : Setting := { P := Tryz.prog, tt := Tryz.tt, f := 54, fn := Tryz.f54, live := [0, 1, 2, 3, 4, 5, 6, 12, 13, 14], res := [.cell 2 31] }
instance Tryz.S54ok : Tryz.S54.Ok := ⟨Tryz.ttOk, Tryz.func54, rfl⟩
noncomputable def Tryz.S55 : Setting := { P := Tryz.prog, tt := Tryz.tt, f := 55, fn := Tryz.f55, live := [0, 1, 2], res := [.tmp 2] }
instance Tryz.S55ok : Tryz.S55.Ok := ⟨Tryz.ttOk, Tryz.func55, rfl⟩
noncomputable def Tryz.S56 : Setting := { P := Tryz.prog, tt := Tryz.tt, f := 56, fn := Tryz.f56, live := [0, 1, 2, 4, 5, 6, 7, 8], res := [.tmp 4] }
instance Tryz.S56ok : Tryz.S56.Ok := ⟨Tryz.ttOk, Tryz.func56, rfl⟩
noncomputable def Tryz.S57 : Setting := { P := Tryz.prog, tt := Tryz.tt, f := 57, fn := Tryz.f57, live := [0, 1, 2, 3, 4, 5, 6, 7, 8, 9, 10, 11, 12, 13, 14, 15, 16, 17, 18, 19], res := [.cell 2 31] }
instance Tryz.S57ok : Tryz.S57.Ok := ⟨Tryz.ttOk, Tryz.func57, rfl⟩
noncomputable def Tryz.S58 : Setting := { P := Tryz.prog, tt := Tryz.tt, f := 58, fn := Tryz.f58, live := [0, 1, 2, 3, 4, 5, 6], res := [.tmp 2] }
instance Tryz.S58ok : Tryz.S58.Ok := ⟨Tryz.ttOk, Tryz.func58, rfl⟩
noncomputable def Tryz.S59 : Setting := { P := Tryz.prog, tt := Tryz.tt, f := 59, fn := Tryz.f59, live := [0, 1, 2, 3, 4, 5, 6, 7, 8, 10, 11, 44, 45, 46], res := [.cell 2 31] }
instance Tryz.S59ok : Tryz.S59.Ok := ⟨Tryz.ttOk, Tryz.func59, rfl⟩
noncomputable def Tryz.S60 : Setting := { P := Tryz.prog, tt := Tryz.tt, f := 60, fn := Tryz.f60, live := [0, 1, 2, 3, 4, 6, 13, 14, 15], res := [.tmp 2] }
instance Tryz.S60ok : Tryz.S60.Ok := ⟨Tryz.ttOk, Tryz.func60, rfl⟩
noncomputable def Tryz.S61 : Setting := { P := Tryz.prog, tt := Tryz.tt, f := 61, fn := Tryz.f61, live := [0, 1, 2, 4], res := [.tmp 4] }
instance Tryz.S61ok : Tryz.S61.Ok := ⟨Tryz.ttOk, Tryz.func61, rfl⟩
noncomputable def Tryz.S62 : Setting := { P := Tryz.prog, tt := Tryz.tt, f := 62, fn := Tryz.f62, live := [0, 1, 2], res := [.tmp 2] }
instance Tryz.S62ok : Tryz.S62.Ok := ⟨Tryz.ttOk, Tryz.func62, rfl⟩
noncomputable def Tryz.S63 : Setting := { P := Tryz.prog, tt := Tryz.tt, f := 63, fn := Tryz.f63, live := [0, 1, 2, 4, 5, 6, 7], res := [.tmp 4] }
instance Tryz.S63ok : Tryz.S63.Ok := ⟨Tryz.ttOk, Tryz.func63, rfl⟩
noncomputable def Tryz.S64 : Setting := { P := Tryz.prog, tt := Tryz.tt, f := 64, fn := Tryz.f64, live := [0, 2, 3, 4], res := [.tmp 2] }
instance Tryz.S64ok : Tryz.S64.Ok := ⟨Tryz.ttOk, Tryz.func64, rfl⟩
noncomputable def Tryz.S65 : Setting := { P := Tryz.prog, tt := Tryz.tt, f := 65, fn := Tryz.f65, live := [0, 1, 4], res := [.tmp 4] }
instance Tryz.S65ok : Tryz.S65.Ok := ⟨Tryz.ttOk, Tryz.func65, rfl⟩
noncomputable def Tryz.S66 : Setting := { P := Tryz.prog, tt := Tryz.tt, f := 66, fn := Tryz.f66, live := [0, 1, 2, 3, 4, 5, 6, 7, 8], res := [.tmp 2] }
instance Tryz.S66ok : Tryz.S66.Ok := ⟨Tryz.ttOk, Tryz.func66, rfl⟩
noncomputable def Tryz.S67 : Setting := { P := Tryz.prog, tt := Tryz.tt, f := 67, fn := Tryz.f67, live := [0, 1, 2], res := [.tmp 2] }
instance Tryz.S67ok : Tryz.S67.Ok := ⟨Tryz.ttOk, Tryz.func67, rfl⟩
noncomputable def Tryz.S68 : Setting := { P := Tryz.prog, tt := Tryz.tt, f := 68, fn := Tryz.f68, live := [0, 1, 2, 6, 7, 8, 9], res := [.cell 6 49] }
instance Tryz.S68ok : Tryz.S68.Ok := ⟨Tryz.ttOk, Tryz.func68, rfl⟩
noncomputable def Tryz.S69 : Setting := { P := Tryz.prog, tt := Tryz.tt, f := 69, fn := Tryz.f69, live := [0, 2], res := [.tmp 2] }
instance Tryz.S69ok : Tryz.S69.Ok := ⟨Tryz.ttOk, Tryz.func69, rfl⟩
noncomputable def Tryz.S70 : Setting := { P := Tryz.prog, tt := Tryz.tt, f := 70, fn := Tryz.f70, live := [0, 1, 4, 5], res := [.tmp 4] }
instance Tryz.S70ok : Tryz.S70.Ok := ⟨Tryz.ttOk, Tryz.func70, rfl⟩
noncomputable def Tryz.S71 : Setting := { P := Tryz.prog, tt := Tryz.tt, f := 71, fn := Tryz.f71, live := [0, 1, 4], res := [.tmp 4] }
instance Tryz.S71ok : Tryz.S71.Ok := ⟨Tryz.ttOk, Tryz.func71, rfl⟩
noncomputable def Tryz.S72 : Setting := { P := Tryz.prog, tt := Tryz.tt, f := 72, fn := Tryz.f72, live := [0, 1, 2, 3, 6, 7, 8, 9], res := [.cell 6 31, .tmp 7] }
instance Tryz.S72ok : Tryz.S72.Ok := ⟨Tryz.ttOk, Tryz.func72, rfl⟩
noncomputable def Tryz.S73 : Setting := { P := Tryz.prog, tt := Tryz.tt, f := 73, fn := Tryz.f73, live := [0, 1, 4, 5, 6], res := [.tmp 4] }
instance Tryz.S73ok : Tryz.S73.Ok := ⟨Tryz.ttOk, Tryz.func73, rfl⟩
noncomputable def Tryz.S74 : Setting := { P := Tryz.prog, tt := Tryz.tt, f := 74, fn := Tryz.f74, live := [0, 1, 2, 3, 4, 5, 6, 7, 8, 9], res := [.cell 2 31] }
instance Tryz.S74ok : Tryz.S74.Ok := ⟨Tryz.ttOk, Tryz.func74, rfl⟩
noncomputable def Tryz.S75 : Setting := { P := Tryz.prog, tt := Tryz.tt, f := 75, fn := Tryz.f75, live := [0, 1, 2, 3], res := [.cell 2 88] }
instance Tryz.S75ok : Tryz.S75.Ok := ⟨Tryz.ttOk, Tryz.func75, rfl⟩
noncomputable def Tryz.S76 : Setting := { P := Tryz.prog, tt := Tryz.tt, f := 76, fn := Tryz.f76, live := [0, 1, 2, 3], res := [.cell 2 62] }
instance Tryz.S76ok : Tryz.S76.Ok := ⟨Tryz.ttOk, Tryz.func76, rfl⟩
noncomputable def Tryz.S77 : Setting := { P := Tryz.prog, tt := Tryz.tt, f := 77, fn := Tryz.f77, live := [0, 1, 2, 6], res := [.tmp 6] }
instance Tryz.S77ok : Tryz.S77.Ok := ⟨Tryz.ttOk, Tryz.func77, rfl⟩
noncomputable def Tryz.S78 : Setting := { P := Tryz.prog, tt := Tryz.tt, f := 78, fn := Tryz.f78, live := [0, 1, 2], res := [.tmp 2] }
instance Tryz.S78ok : Tryz.S78.Ok := ⟨Tryz.ttOk, Tryz.func78, rfl⟩
noncomputable def Tryz.S79 : Setting := { P := Tryz.prog, tt := Tryz.tt, f := 79, fn := Tryz.f79, live := [0, 1, 2, 3, 6, 7, 9, 21, 22, 23], res := [.tmp 6] }
instance Tryz.S79ok : Tryz.S79.Ok := ⟨Tryz.ttOk, Tryz.func79, rfl⟩
noncomputable def Tryz.S80 : Setting := { P := Tryz.prog, tt := Tryz.tt, f := 80, fn := Tryz.f80, live := [0, 2, 3, 5, 6, 7, 8], res := [.tmp 2] }
instance Tryz.S80ok : Tryz.S80.Ok := ⟨Tryz.ttOk, Tryz.func80, rfl⟩
noncomputable def Tryz.S81 : Setting := { P := Tryz.prog, tt := Tryz.tt, f := 81, fn := Tryz.f81, live := [0, 2], res := [.tmp 2] }
instance Tryz.S81ok : Tryz.S81.Ok := ⟨Tryz.ttOk, Tryz.func81, rfl⟩
noncomputable def Tryz.S82 : Setting := { P := Tryz.prog, tt := Tryz.tt, f := 82, fn := Tryz.f82, live := [0, 1, 2, 3, 4, 5, 6], res := [.cell 6 49] }
instance Tryz.S82ok : Tryz.S82.Ok := ⟨Tryz.ttOk, Tryz.func82, rfl⟩
noncomputable def Tryz.S83 : Setting := { P := Tryz.prog, tt := Tryz.tt, f := 83, fn := Tryz.f83, live := [0, 1, 2, 3, 4, 5], res := [.tmp 2] }
instance Tryz.S83ok : Tryz.S83.Ok := ⟨Tryz.ttOk, Tryz.func83, rfl⟩
noncomputable def Tryz.S84 : Setting := { P := Tryz.prog, tt := Tryz.tt, f := 84, fn := Tryz.f84, live := [0, 1, 2], res := [.cell 2 49] }
instance Tryz.S84ok : Tryz.S84.Ok := ⟨Tryz.ttOk, Tryz.func84, rfl⟩
noncomputable def Tryz.S85 : Setting := { P := Tryz.prog, tt := Tryz.tt, f := 85, fn := Tryz.f85, live := [0, 1, 4, 5, 7, 12, 13, 14], res := [.tmp 4] }
instance Tryz.S85ok : Tryz.S85.Ok := ⟨Tryz.ttOk, Tryz.func85, rfl⟩
noncomputable def Tryz.S86 : Setting := { P := Tryz.prog, tt := Tryz.tt, f := 86, fn := Tryz.f86, live := [0, 1, 2, 3, 5, 10, 11, 12], res := [.cell 2 31] }
instance Tryz.S86ok : Tryz.S86.Ok := ⟨Tryz.ttOk, Tryz.func86, rfl⟩
noncomputable def Tryz.S87 : Setting := { P := Tryz.prog, tt := Tryz.tt, f := 87, fn := Tryz.f87, live := [0, 1, 2, 3, 4], res := [.tmp 2] }
instance Tryz.S87ok : Tryz.S87.Ok := ⟨Tryz.ttOk, Tryz.func87, rfl⟩
noncomputable def Tryz.S88 : Setting := { P := Tryz.prog, tt := Tryz.tt, f := 88, fn := Tryz.f88, live := [0, 1, 2, 6, 7, 9, 10, 11, 12, 13, 14, 15, 19, 20, 21], res := [.tmp 6] }
instance Tryz.S88ok : Tryz.S88.Ok := ⟨Tryz.ttOk, Tryz.func88, rfl⟩
noncomputable def Tryz.S89 : Setting := { P := Tryz.prog, tt := Tryz.tt, f := 89, fn := Tryz.f89, live := [0, 1, 2, 6, 7, 8, 9, 46, 47, 48], res := [.tmp 6] }
instance Tryz.S89ok : Tryz.S89.Ok := ⟨Tryz.ttOk, Tryz.func89, rfl⟩
noncomputable def Tryz.S90 : Setting := { P := Tryz.prog, tt := Tryz.tt, f := 90, fn := Tryz.f90, live := [0, 1, 4], res := [.tmp 4] }
instance Tryz.S90ok : Tryz.S90.Ok := ⟨Tryz.ttOk, Tryz.func90, rfl⟩
noncomputable def Tryz.S91 : Setting := { P := Tryz.prog, tt := Tryz.tt, f := 91, fn := Tryz.f91, live := [0, 1, 2, 4, 6, 7, 9, 10, 11], res := [] }
instance Tryz.S91ok : Tryz.S91.Ok := ⟨Tryz.ttOk, Tryz.func91, rfl⟩
noncomputable def Tryz.S92 : Setting := { P := Tryz.prog, tt := Tryz.tt, f := 92, fn := Tryz.f92, live := [0, 1, 2, 3, 4, 5, 6, 7, 8, 16, 17, 18], res := [.cell 2 31] }
instance Tryz.S92ok : Tryz.S92.Ok := ⟨Tryz.ttOk, Tryz.func92, rfl⟩
noncomputable def Tryz.S93 : Setting := { P := Tryz.prog, tt := Tryz.tt, f := 93, fn := Tryz.f93, live := [0, 1, 2, 3, 4], res := [.tmp 4] }
instance Tryz.S93ok : Tryz.S93.Ok := ⟨Tryz.ttOk, Tryz.func93, rfl⟩
noncomputable def Tryz.S94 : Setting := { P := Tryz.prog, tt := Tryz.tt, f := 94, fn := Tryz.f94, live := [0, 1, 2, 3, 4], res := [.tmp 4] }
instance Tryz.S94ok : Tryz.S94.Ok := ⟨Tryz.ttOk, Tryz.func94, rfl⟩
noncomputable def Tryz.S95 : Setting := { P := Tryz.prog, tt := Tryz.tt, f := 95, fn := Tryz.f95, live := [0, 1, 2, 6], res := [.tmp 6] }
instance Tryz.S95ok : Tryz.S95.Ok := ⟨Tryz.ttOk, Tryz.func95, rfl⟩
noncomputable def Tryz.S96 : Setting := { P := Tryz.prog, tt := Tryz.tt, f := 96, fn := Tryz.f96, live := [0, 1, 2, 3, 4], res := [.tmp 2] }
instance Tryz.S96ok : Tryz.S96.Ok := ⟨Tryz.ttOk, Tryz.func96, rfl⟩
noncomputable def Tryz.S97 : Setting := { P := Tryz.prog, tt := Tryz.tt, f := 97, fn := Tryz.f97, live := [0, 1, 2, 4, 5, 6, 7, 8], res := [.tmp 4] }
instance Tryz.S97ok : Tryz.S97.Ok := ⟨Tryz.ttOk, Tryz.func97, rfl⟩
noncomputable def Tryz.S98 : Setting := { P := Tryz.prog, tt := Tryz.tt, f := 98, fn := Tryz.f98, live := [0, 1, 2], res := [.tmp 2] }
instance Tryz.S98ok : Tryz.S98.Ok := ⟨Tryz.ttOk, Tryz.func98, rfl⟩
noncomputable def Tryz.S99 : Setting := { P := Tryz.prog, tt := Tryz.tt, f := 99, fn := Tryz.f99, live := [0, 1, 2, 4], res := [.tmp 2] }
instance Tryz.S99ok : Tryz.S99.Ok := ⟨Tryz.ttOk, Tryz.func99, rfl⟩
noncomputable def Tryz.S100 : Setting := { P := Tryz.prog, tt := Tryz.tt, f := 100, fn := Tryz.f100, live := [0, 1, 2, 3, 5, 10, 11, 12], res := [.tmp 2] }
instance Tryz.S100ok : Tryz.S100.Ok := ⟨Tryz.ttOk, Tryz.func100, rfl⟩
noncomputable def Tryz.S101 : Setting := { P := Tryz.prog, tt := Tryz.tt, f := 101, fn := Tryz.f101, live := [0, 1, 4, 5, 7, 9, 10, 11, 12, 13, 15, 16, 18, 19, 20, 21, 25, 26, 27, 82, 83, 84, 88, 89, 90], res := [.tmp 4] }
instance Tryz.S101ok : Tryz.S101.Ok := ⟨Tryz.ttOk, Tryz.func101, rfl⟩
noncomputable def Tryz.S102 : Setting := { P := Tryz.prog, tt := Tryz.tt, f := 102, fn := Tryz.f102, live := [0, 1, 2, 4, 5, 6, 7, 8, 9], res := [.tmp 4] }
instance Tryz.S102ok : Tryz.S102.Ok := ⟨Tryz.ttOk, Tryz.func102, rfl⟩
noncomputable def Tryz.S103 : Setting := { P := Tryz.prog, tt := Tryz.tt, f := 103, fn := Tryz.f103, live := [0, 1, 2, 3, 4], res := [.tmp 2] }
instance Tryz.S103ok : Tryz.S103.Ok := ⟨Tryz.ttOk, Tryz.func103, rfl⟩
noncomputable def Tryz.S104 : Setting := { P := Tryz.prog, tt := Tryz.tt, f := 104, fn := Tryz.f104, live := [0, 1, 2, 6, 7, 8, 9, 10, 11], res := [.tmp 6] }
instance Tryz.S104ok : Tryz.S104.Ok := ⟨Tryz.ttOk, Tryz.func104, rfl⟩
noncomputable def Tryz.S105 : Setting := { P := Tryz.prog, tt := Tryz.tt, f := 105, fn := Tryz.f105, live := [0, 1, 2, 3, 5, 6, 8, 13, 14, 15, 40, 41, 42], res := [.tmp 2] }
instance Tryz.S105ok : Tryz.S105.Ok := ⟨Tryz.ttOk, Tryz.func105, rfl⟩
noncomputable def Tryz.S106 : Setting := { P := Tryz.prog, tt := Tryz.tt, f := 106, fn := Tryz.f106, live := [0, 1, 2, 4, 5, 6, 7, 8, 9, 10, 11, 26, 27, 28], res := [.tmp 4] }
instance Tryz.S106ok : Tryz.S106.Ok := ⟨Tryz.ttOk, Tryz.func106, rfl⟩
noncomputable def Tryz.S107 : Setting := { P := Tryz.prog, tt := Tryz.tt, f := 107, fn := Tryz.f107, live := [0, 1, 2, 6, 7, 8], res := [.tmp 6] }
instance Tryz.S107ok : Tryz.S107.Ok := ⟨Tryz.ttOk, Tryz.func107, rfl⟩
noncomputable def Tryz.S108 : Setting := { P := Tryz.prog, tt := Tryz.tt, f := 108, fn := Tryz.f108, live := [0, 1, 2, 6, 7, 8], res := [.tmp 6] }
instance Tryz.S108ok : Tryz.S108.Ok := ⟨Tryz.ttOk, Tryz.func108, rfl⟩
noncomputable def Tryz.S109 : Setting := { P := Tryz.prog, tt := Tryz.tt, f := 109, fn := Tryz.f109, live := [0, 1, 2, 3, 4, 5, 10, 11, 12], res := [.tmp 2] }
instance Tryz.S109ok : Tryz.S109.Ok := ⟨Tryz.ttOk, Tryz.func109, rfl⟩
noncomputable def Tryz.S110 : Setting := { P := Tryz.prog, tt := Tryz.tt, f := 110, fn := Tryz.f110, live := [0, 1, 2, 4, 5, 6], res := [.tmp 4] }
instance Tryz.S110ok : Tryz.S110.Ok := ⟨Tryz.ttOk, Tryz.func110, rfl⟩
noncomputable def Tryz.S111 : Setting := { P := Tryz.prog, tt := Tryz.tt, f := 111, fn := Tryz.f111, live := [0, 1, 2, 3, 4, 5], res := [.tmp 4] }
instance Tryz.S111ok : Tryz.S111.Ok := ⟨Tryz.ttOk, Tryz.func111, rfl⟩
noncomputable def Tryz.S112 : Setting := { P := Tryz.prog, tt := Tryz.tt, f := 112, fn := Tryz.f112, live := [0, 1, 3, 4], res := [.tmp 4] }
instance Tryz.S112ok : Tryz.S112.Ok := ⟨Tryz.ttOk, Tryz.func112, rfl⟩
noncomputable def Tryz.S113 : Setting := { P := Tryz.prog, tt := Tryz.tt, f := 113, fn := Tryz.f113, live := [0, 2], res := [.tmp 2] }
instance Tryz.S113ok : Tryz.S113.Ok := ⟨Tryz.ttOk, Tryz.func113, rfl⟩
noncomputable def Tryz.S114 : Setting := { P := Tryz.prog, tt := Tryz.tt, f := 114, fn := Tryz.f114, live := [0, 1, 2, 3, 4, 5], res := [.tmp 2] }
instance Tryz.S114ok : Tryz.S114.Ok := ⟨Tryz.ttOk, Tryz.func114, rfl⟩
noncomputable def Tryz.S115 : Setting := { P := Tryz.prog, tt := Tryz.tt, f := 115, fn := Tryz.f115, live := [0, 2, 3], res := [.tmp 2] }
instance Tryz.S115ok : Tryz.S115.Ok := ⟨Tryz.ttOk, Tryz.func115, rfl⟩
noncomputable def Tryz.S116 : Setting := { P := Tryz.prog, tt := Tryz.tt, f := 116, fn := Tryz.f116, live := [0, 1, 2, 4, 5], res := [.tmp 4] }
instance Tryz.S116ok : Tryz.S116.Ok := ⟨Tryz.ttOk, Tryz.func116, rfl⟩
noncomputable def Tryz.S117 : Setting := { P := Tryz.prog, tt := Tryz.tt, f := 117, fn := Tryz.f117, live := [0, 1, 2, 3, 4, 8, 9], res := [.tmp 8] }
instance Tryz.S117ok : Tryz.S117.Ok := ⟨Tryz.ttOk, Tryz.func117, rfl⟩
noncomputable def Tryz.S118 : Setting := { P := Tryz.prog, tt := Tryz.tt, f := 118, fn := Tryz.f118, live := [0, 1, 4, 5, 6], res := [.cell 4 49] }
instance Tryz.S118ok : Tryz.S118.Ok := ⟨Tryz.ttOk, Tryz.func118, rfl⟩
noncomputable def Tryz.S119 : Setting := { P := Tryz.prog, tt := Tryz.tt, f := 119, fn := Tryz.f119, live := [0, 1, 2, 3, 5], res := [.tmp 5] }
instance Tryz.S119ok : Tryz.S119.Ok := ⟨Tryz.ttOk, Tryz.func119, rfl⟩
noncomputable def Tryz.S120 : Setting := { P := Tryz.prog, tt := Tryz.tt, f := 120, fn := Tryz.f120, live := [0, 1, 2, 3, 4, 5, 10, 11, 12, 13, 14, 15, 16, 17, 18], res := [.tmp 10] }
instance Tryz.S120ok : Tryz.S120.Ok := ⟨Tryz.ttOk, Tryz.func120, rfl⟩
noncomputable def Tryz.S121 : Setting := { P := Tryz.prog, tt := Tryz.tt, f := 121, fn := Tryz.f121, live := [0, 1, 2], res := [.tmp 2] }
instance Tryz.S121ok : Tryz.S121.Ok := ⟨Tryz.ttOk, Tryz.func121, rfl⟩
noncomputable def Tryz.S122 : Setting := { P := Tryz.prog, tt := Tryz.tt, f := 122, fn := Tryz.f122, live := [0, 1, 2, 3, 4, 5, 6, 7, 9, 10, 12, 45, 46, 47, 51, 52, 53], res := [.tmp 2] }
instance Tryz.S122ok : Tryz.S122.Ok := ⟨Tryz.ttOk, Tryz.func122, rfl⟩
noncomputable def Tryz.S123 : Setting := { P := Tryz.prog, tt := Tryz.tt, f := 123, fn := Tryz.f123, live := [0, 1, 3, 4], res := [.cell 4 49] }
instance Tryz.S123ok : Tryz.S123.Ok := ⟨Tryz.ttOk, Tryz.func123, rfl⟩
noncomputable def Tryz.S124 : Setting := { P := Tryz.prog, tt := Tryz.tt, f := 124, fn := Tryz.f124, live := [0, 1, 3], res := [.tmp 3] }
instance Tryz.S124ok : Tryz.S124.Ok := ⟨Tryz.ttOk, Tryz.func124, rfl⟩
noncomputable def Tryz.S125 : Setting := { P := Tryz.prog, tt := Tryz.tt, f := 125, fn := Tryz.f125, live := [0, 1, 2, 4], res := [.tmp 4] }
instance Tryz.S125ok : Tryz.S125.Ok := ⟨Tryz.ttOk, Tryz.func125, rfl⟩
noncomputable def Tryz.S126 : Setting := { P := Tryz.prog, tt := Tryz.tt, f := 126, fn := Tryz.f126, live := [0, 1, 4, 6, 15, 16, 17], res := [.tmp 4] }
instance Tryz.S126ok : Tryz.S126.Ok := ⟨Tryz.ttOk, Tryz.func126, rfl⟩
noncomputable def Tryz.S127 : Setting := { P := Tryz.prog, tt := Tryz.tt, f := 127, fn := Tryz.f127, live := [0, 2, 3], res := [.tmp 2] }
instance Tryz.S127ok : Tryz.S127.Ok := ⟨Tryz.ttOk, Tryz.func127, rfl⟩
noncomputable def Tryz.S128 : Setting := { P := Tryz.prog, tt := Tryz.tt, f := 128, fn := Tryz.f128, live := [0, 1, 2, 6, 7], res := [.tmp 6] }
instance Tryz.S128ok : Tryz.S128.Ok := ⟨Tryz.ttOk, Tryz.func128, rfl⟩
noncomputable def Tryz.S129 : Setting := { P := Tryz.prog, tt := Tryz.tt, f := 129, fn := Tryz.f129, live := [0, 1, 4, 5, 7, 8, 9, 10], res := [.tmp 4] }
instance Tryz.S129ok : Tryz.S129.Ok := ⟨Tryz.ttOk, Tryz.func129, rfl⟩
noncomputable def Tryz.S130 : Setting := { P := Tryz.prog, tt := Tryz.tt, f := 130, fn := Tryz.f130, live := [0, 1, 2, 3, 5, 10, 11, 12], res := [.tmp 2] }
instance Tryz.S130ok : Tryz.S130.Ok := ⟨Tryz.ttOk, Tryz.func130, rfl⟩
noncomputable def Tryz.S131 : Setting := { P := Tryz.prog, tt := Tryz.tt, f := 131, fn := Tryz.f131, live := [0, 1, 4, 5, 6, 7, 8, 9, 10, 11, 12, 13], res := [.tmp 4] }
instance Tryz.S131ok : Tryz.S131.Ok := ⟨Tryz.ttOk, Tryz.func131, rfl⟩
noncomputable def Tryz.S132 : Setting := { P := Tryz.prog, tt := Tryz.tt, f := 132, fn := Tryz.f132, live := [0, 1, 4, 5, 6, 8, 41, 42, 43], res := [.tmp 4, .tmp 5] }
instance Tryz.S132ok : Tryz.S132.Ok := ⟨Tryz.ttOk, Tryz.func132, rfl⟩
noncomputable def Tryz.S133 : Setting := { P := Tryz.prog, tt := Tryz.tt, f := 133, fn := Tryz.f133, live := [0, 1, 4, 5, 17, 18], res := [.tmp 4] }
instance Tryz.S133ok : Tryz.S133.Ok := ⟨Tryz.ttOk, Tryz.func133, rfl⟩
noncomputable def Tryz.S134 : Setting := { P := Tryz.prog, tt := Tryz.tt, f := 134, fn := Tryz.f134, live := [0, 1, 4, 5, 12, 13], res := [.tmp 4] }
instance Tryz.S134ok : Tryz.S134.Ok := ⟨Tryz.ttOk, Tryz.func134, rfl⟩
noncomputable def Tryz.S135 : Setting := { P := Tryz.prog, tt := Tryz.tt, f := 135, fn := Tryz.f135, live := [0, 1, 4, 6, 7, 8, 9], res := [.tmp 4] }
instance Tryz.S135ok : Tryz.S135.Ok := ⟨Tryz.ttOk, Tryz.func135, rfl⟩
noncomputable def Tryz.S136 : Setting := { P := Tryz.prog, tt := Tryz.tt, f := 136, fn := Tryz.f136, live := [0, 1, 4, 5, 6], res := [.tmp 4] }
instance Tryz.S136ok : Tryz.S136.Ok := ⟨Tryz.ttOk, Tryz.func136, rfl⟩
noncomputable def Tryz.S137 : Setting := { P := Tryz.prog, tt := Tryz.tt, f := 137, fn := Tryz.f137, live := [0, 1, 2, 6], res := [.tmp 6] }
instance Tryz.S137ok : Tryz.S137.Ok := ⟨Tryz.ttOk, Tryz.func137, rfl⟩
noncomputable def Tryz.S138 : Setting := { P := Tryz.prog, tt := Tryz.tt, f := 138, fn := Tryz.f138, live := [0, 1, 2, 3, 6], res := [] }
instance Tryz.S138ok : Tryz.S138.Ok := ⟨Tryz.ttOk, Tryz.func138, rfl⟩
noncomputable def Tryz.S139 : Setting := { P := Tryz.prog, tt := Tryz.tt, f := 139, fn := Tryz.f139, live := [0, 2, 3, 4, 5, 6, 7, 8], res := [.tmp 2] }
instance Tryz.S139ok : Tryz.S139.Ok := ⟨Tryz.ttOk, Tryz.func139, rfl⟩
noncomputable def Tryz.S140 : Setting := { P := Tryz.prog, tt := Tryz.tt, f := 140, fn := Tryz.f140, live := [0, 1, 2, 3, 4, 5], res := [.tmp 4] }
instance Tryz.S140ok : Tryz.S140.Ok := ⟨Tryz.ttOk, Tryz.func140, rfl⟩
noncomputable def Tryz.S141 : Setting := { P := Tryz.prog, tt := Tryz.tt, f := 141, fn := Tryz.f141, live := [0, 1, 3, 5, 6, 7, 8], res := [.tmp 3] }
instance Tryz.S141ok : Tryz.S141.Ok := ⟨Tryz.ttOk, Tryz.func141, rfl⟩
noncomputable def Tryz.S142 : Setting := { P := Tryz.prog, tt := Tryz.tt, f := 142, fn := Tryz.f142, live := [0, 1, 3, 4], res := [.tmp 4] }
instance Tryz.S142ok : Tryz.S142.Ok := ⟨Tryz.ttOk, Tryz.func142, rfl⟩
noncomputable def Tryz.S143 : Setting := { P := Tryz.prog, tt := Tryz.tt, f := 143, fn := Tryz.f143, live := [0, 1, 4, 5, 6, 7, 8], res := [.tmp 4, .tmp 5] }
instance Tryz.S143ok : Tryz.S143.Ok := ⟨Tryz.ttOk, Tryz.func143, rfl⟩
noncomputable def Tryz.S144 : Setting := { P := Tryz.prog, tt := Tryz.tt, f := 144, fn := Tryz.f144, live := [0, 1, 4, 5, 6, 7], res := [.tmp 4] }
instance Tryz.S144ok : Tryz.S144.Ok := ⟨Tryz.ttOk, Tryz.func144, rfl⟩
noncomputable def Tryz.S145 : Setting := { P := Tryz.prog, tt := Tryz.tt, f := 145, fn := Tryz.f145, live := [0, 1, 4, 5], res := [.tmp 4] }
instance Tryz.S145ok : Tryz.S145.Ok := ⟨Tryz.ttOk, Tryz.func145, rfl⟩
noncomputable def Tryz.S146 : Setting := { P := Tryz.prog, tt := Tryz.tt, f := 146, fn := Tryz.f146, live := [0, 2, 3], res := [.tmp 2] }
instance Tryz.S146ok : Tryz.S146.Ok := ⟨Tryz.ttOk, Tryz.func146, rfl⟩
noncomputable def Tryz.S147 : Setting := { P := Tryz.prog, tt := Tryz.tt, f := 147, fn := Tryz.f147, live := [0, 1, 4, 5], res := [.tmp 4] }
instance Tryz.S147ok : Tryz.S147.Ok := ⟨Tryz.ttOk, Tryz.func147, rfl⟩
end Go.Proofs
