/- The table of the types and the settings of the functions, by program (fill.py); no condition. -/
import Derived.Test.YtiepmliokblkjaaProg
import Derived.Test.YtiepmliokblkjaaCore
import Derived.KernelRfl
set_option linter.all false
namespace Go.Proofs
open Go.Xw
set_option maxRecDepth 100000
noncomputable def Try.ti2 : TI := { desc := .int .i64, size := 1, bytes := 8, zero := .int .i64 0, plain := false }
theorem Try.ti2ok : tiOk Try.prog 2 Try.ti2 := by
  refine ⟨_, _, rfl, ?_, ?_, ?_, Try.underlying2, ?_, fun h => by cases h⟩ <;> kernel_rfl
noncomputable def Try.ti3 : TI := { desc := .int .i64, size := 1, bytes := 8, zero := .int .i64 0, plain := false }
theorem Try.ti3ok : tiOk Try.prog 3 Try.ti3 := by
  refine ⟨_, _, rfl, ?_, ?_, ?_, Try.underlying3, ?_, fun h => by cases h⟩ <;> kernel_rfl
noncomputable def Try.ti4 : TI := { desc := .bool, size := 1, bytes := 1, zero := .bool false, plain := false }
theorem Try.ti4ok : tiOk Try.prog 4 Try.ti4 := by
  refine ⟨_, _, rfl, ?_, ?_, ?_, Try.underlying4, ?_, fun h => by cases h⟩ <;> kernel_rfl
noncomputable def Try.ti5 : TI := { desc := .int .u8, size := 1, bytes := 1, zero := .int .u8 0, plain := false }
theorem Try.ti5ok : tiOk Try.prog 5 Try.ti5 := by
  refine ⟨_, _, rfl, ?_, ?_, ?_, Try.underlying5, ?_, fun h => by cases h⟩ <;> kernel_rfl
noncomputable def Try.ti9 : TI := { desc := .string, size := 1, bytes := 16, zero := .string ByteArray.empty, plain := false }
theorem Try.ti9ok : tiOk Try.prog 9 Try.ti9 := by
  refine ⟨_, _, rfl, ?_, ?_, ?_, Try.underlying9, ?_, fun h => by cases h⟩ <;> kernel_rfl
noncomputable def Try.ti12 : TI := { desc := .int .u64, size := 1, bytes := 8, zero := .int .u64 0, plain := false }
theorem Try.ti12ok : tiOk Try.prog 12 Try.ti12 := by
  refine ⟨_, _, rfl, ?_, ?_, ?_, Try.underlying12, ?_, fun h => by cases h⟩ <;> kernel_rfl
noncomputable def Try.ti21 : TI := { desc := .int .i32, size := 1, bytes := 4, zero := .int .i32 0, plain := false }
theorem Try.ti21ok : tiOk Try.prog 21 Try.ti21 := by
  refine ⟨_, _, rfl, ?_, ?_, ?_, Try.underlying21, ?_, fun h => by cases h⟩ <;> kernel_rfl
noncomputable def Try.ti22 : TI := { desc := .slice 82, size := 1, bytes := 24, zero := .slice none 0 0, plain := false }
theorem Try.ti22ok : tiOk Try.prog 22 Try.ti22 := by
  refine ⟨_, _, rfl, ?_, ?_, ?_, Try.underlying22, ?_, fun h => by cases h⟩ <;> kernel_rfl
noncomputable def Try.ti23 : TI := { desc := .slice 96, size := 1, bytes := 24, zero := .slice none 0 0, plain := false }
theorem Try.ti23ok : tiOk Try.prog 23 Try.ti23 := by
  refine ⟨_, _, rfl, ?_, ?_, ?_, Try.underlying23, ?_, fun h => by cases h⟩ <;> kernel_rfl
noncomputable def Try.ti24 : TI := { desc := .slice 3, size := 1, bytes := 24, zero := .slice none 0 0, plain := false }
theorem Try.ti24ok : tiOk Try.prog 24 Try.ti24 := by
  refine ⟨_, _, rfl, ?_, ?_, ?_, Try.underlying24, ?_, fun h => by cases h⟩ <;> kernel_rfl
noncomputable def Try.ti25 : TI := { desc := .struct [(0, 3), (1, 22), (2, 23), (3, 24)], size := 4, bytes := 80, zero := .agg #[.int .i64 0, .slice none 0 0, .slice none 0 0, .slice none 0 0], plain := false }
theorem Try.ti25ok : tiOk Try.prog 25 Try.ti25 := by
  refine ⟨_, _, rfl, ?_, ?_, ?_, Try.underlying25, ?_, fun h => by cases h⟩ <;> kernel_rfl
noncomputable def Try.ti26 : TI := { desc := .struct [(0, 3), (1, 22), (2, 23), (3, 24)], size := 4, bytes := 80, zero := .agg #[.int .i64 0, .slice none 0 0, .slice none 0 0, .slice none 0 0], plain := false }
theorem Try.ti26ok : tiOk Try.prog 26 Try.ti26 := by
  refine ⟨_, _, rfl, ?_, ?_, ?_, Try.underlying26, ?_, fun h => by cases h⟩ <;> kernel_rfl
noncomputable def Try.ti27 : TI := { desc := .slice 24, size := 1, bytes := 24, zero := .slice none 0 0, plain := false }
theorem Try.ti27ok : tiOk Try.prog 27 Try.ti27 := by
  refine ⟨_, _, rfl, ?_, ?_, ?_, Try.underlying27, ?_, fun h => by cases h⟩ <;> kernel_rfl
noncomputable def Try.ti28 : TI := { desc := .slice 67, size := 1, bytes := 24, zero := .slice none 0 0, plain := false }
theorem Try.ti28ok : tiOk Try.prog 28 Try.ti28 := by
  refine ⟨_, _, rfl, ?_, ?_, ?_, Try.underlying28, ?_, fun h => by cases h⟩ <;> kernel_rfl
noncomputable def Try.ti32 : TI := { desc := .slice 83, size := 1, bytes := 24, zero := .slice none 0 0, plain := false }
theorem Try.ti32ok : tiOk Try.prog 32 Try.ti32 := by
  refine ⟨_, _, rfl, ?_, ?_, ?_, Try.underlying32, ?_, fun h => by cases h⟩ <;> kernel_rfl
noncomputable def Try.ti33 : TI := { desc := .slice 86, size := 1, bytes := 24, zero := .slice none 0 0, plain := false }
theorem Try.ti33ok : tiOk Try.prog 33 Try.ti33 := by
  refine ⟨_, _, rfl, ?_, ?_, ?_, Try.underlying33, ?_, fun h => by cases h⟩ <;> kernel_rfl
noncomputable def Try.ti34 : TI := { desc := .struct [(0, 3), (1, 32), (2, 33), (3, 24)], size := 4, bytes := 80, zero := .agg #[.int .i64 0, .slice none 0 0, .slice none 0 0, .slice none 0 0], plain := false }
theorem Try.ti34ok : tiOk Try.prog 34 Try.ti34 := by
  refine ⟨_, _, rfl, ?_, ?_, ?_, Try.underlying34, ?_, fun h => by cases h⟩ <;> kernel_rfl
noncomputable def Try.ti35 : TI := { desc := .struct [(0, 3), (1, 32), (2, 33), (3, 24)], size := 4, bytes := 80, zero := .agg #[.int .i64 0, .slice none 0 0, .slice none 0 0, .slice none 0 0], plain := false }
theorem Try.ti35ok : tiOk Try.prog 35 Try.ti35 := by
  refine ⟨_, _, rfl, ?_, ?_, ?_, Try.underlying35, ?_, fun h => by cases h⟩ <;> kernel_rfl
noncomputable def Try.ti40 : TI := { desc := .slice 59, size := 1, bytes := 24, zero := .slice none 0 0, plain := false }
theorem Try.ti40ok : tiOk Try.prog 40 Try.ti40 := by
  refine ⟨_, _, rfl, ?_, ?_, ?_, Try.underlying40, ?_, fun h => by cases h⟩ <;> kernel_rfl
noncomputable def Try.ti58 : TI := { desc := .struct [(0, 3), (1, 3), (2, 3)], size := 3, bytes := 24, zero := .agg #[.int .i64 0, .int .i64 0, .int .i64 0], plain := true }
theorem Try.ti58ok : tiOk Try.prog 58 Try.ti58 := by
  refine ⟨_, _, rfl, ?_, ?_, ?_, Try.underlying58, ?_, fun _ => ⟨by kernel_rfl, by kernel_rfl, by intro f hf; simp at hf; (repeat (first | (rcases hf with rfl | hf; · decide) | (subst hf; decide)))⟩⟩ <;> kernel_rfl
noncomputable def Try.ti59 : TI := { desc := .struct [(0, 3), (1, 3), (2, 3)], size := 3, bytes := 24, zero := .agg #[.int .i64 0, .int .i64 0, .int .i64 0], plain := true }
theorem Try.ti59ok : tiOk Try.prog 59 Try.ti59 := by
  refine ⟨_, _, rfl, ?_, ?_, ?_, Try.underlying59, ?_, fun _ => ⟨by kernel_rfl, by kernel_rfl, by intro f hf; simp at hf; (repeat (first | (rcases hf with rfl | hf; · decide) | (subst hf; decide)))⟩⟩ <;> kernel_rfl
noncomputable def Try.ti67 : TI := { desc := .struct [(0, 3), (1, 3), (2, 3)], size := 3, bytes := 24, zero := .agg #[.int .i64 0, .int .i64 0, .int .i64 0], plain := true }
theorem Try.ti67ok : tiOk Try.prog 67 Try.ti67 := by
  refine ⟨_, _, rfl, ?_, ?_, ?_, Try.underlying67, ?_, fun _ => ⟨by kernel_rfl, by kernel_rfl, by intro f hf; simp at hf; (repeat (first | (rcases hf with rfl | hf; · decide) | (subst hf; decide)))⟩⟩ <;> kernel_rfl
noncomputable def Try.ti69 : TI := { desc := .pointer 72, size := 1, bytes := 8, zero := .pointer none, plain := false }
theorem Try.ti69ok : tiOk Try.prog 69 Try.ti69 := by
  refine ⟨_, _, rfl, ?_, ?_, ?_, Try.underlying69, ?_, fun h => by cases h⟩ <;> kernel_rfl
noncomputable def Try.ti70 : TI := { desc := .pointer 35, size := 1, bytes := 8, zero := .pointer none, plain := false }
theorem Try.ti70ok : tiOk Try.prog 70 Try.ti70 := by
  refine ⟨_, _, rfl, ?_, ?_, ?_, Try.underlying70, ?_, fun h => by cases h⟩ <;> kernel_rfl
noncomputable def Try.ti71 : TI := { desc := .struct [(0, 70), (1, 27), (2, 3), (3, 4)], size := 4, bytes := 48, zero := .agg #[.pointer none, .slice none 0 0, .int .i64 0, .bool false], plain := false }
theorem Try.ti71ok : tiOk Try.prog 71 Try.ti71 := by
  refine ⟨_, _, rfl, ?_, ?_, ?_, Try.underlying71, ?_, fun h => by cases h⟩ <;> kernel_rfl
noncomputable def Try.ti72 : TI := { desc := .struct [(0, 70), (1, 27), (2, 3), (3, 4)], size := 4, bytes := 48, zero := .agg #[.pointer none, .slice none 0 0, .int .i64 0, .bool false], plain := false }
theorem Try.ti72ok : tiOk Try.prog 72 Try.ti72 := by
  refine ⟨_, _, rfl, ?_, ?_, ?_, Try.underlying72, ?_, fun h => by cases h⟩ <;> kernel_rfl
noncomputable def Try.ti81 : TI := { desc := .struct [(0, 3), (1, 3), (2, 24)], size := 3, bytes := 40, zero := .agg #[.int .i64 0, .int .i64 0, .slice none 0 0], plain := false }
theorem Try.ti81ok : tiOk Try.prog 81 Try.ti81 := by
  refine ⟨_, _, rfl, ?_, ?_, ?_, Try.underlying81, ?_, fun h => by cases h⟩ <;> kernel_rfl
noncomputable def Try.ti82 : TI := { desc := .struct [(0, 3), (1, 3), (2, 24)], size := 3, bytes := 40, zero := .agg #[.int .i64 0, .int .i64 0, .slice none 0 0], plain := false }
theorem Try.ti82ok : tiOk Try.prog 82 Try.ti82 := by
  refine ⟨_, _, rfl, ?_, ?_, ?_, Try.underlying82, ?_, fun h => by cases h⟩ <;> kernel_rfl
noncomputable def Try.ti83 : TI := { desc := .struct [(0, 3), (1, 3), (2, 24)], size := 3, bytes := 40, zero := .agg #[.int .i64 0, .int .i64 0, .slice none 0 0], plain := false }
theorem Try.ti83ok : tiOk Try.prog 83 Try.ti83 := by
  refine ⟨_, _, rfl, ?_, ?_, ?_, Try.underlying83, ?_, fun h => by cases h⟩ <;> kernel_rfl
noncomputable def Try.ti85 : TI := { desc := .struct [(0, 3), (1, 3)], size := 2, bytes := 16, zero := .agg #[.int .i64 0, .int .i64 0], plain := true }
theorem Try.ti85ok : tiOk Try.prog 85 Try.ti85 := by
  refine ⟨_, _, rfl, ?_, ?_, ?_, Try.underlying85, ?_, fun _ => ⟨by kernel_rfl, by kernel_rfl, by intro f hf; simp at hf; (repeat (first | (rcases hf with rfl | hf; · decide) | (subst hf; decide)))⟩⟩ <;> kernel_rfl
noncomputable def Try.ti86 : TI := { desc := .struct [(0, 3), (1, 3)], size := 2, bytes := 16, zero := .agg #[.int .i64 0, .int .i64 0], plain := true }
theorem Try.ti86ok : tiOk Try.prog 86 Try.ti86 := by
  refine ⟨_, _, rfl, ?_, ?_, ?_, Try.underlying86, ?_, fun _ => ⟨by kernel_rfl, by kernel_rfl, by intro f hf; simp at hf; (repeat (first | (rcases hf with rfl | hf; · decide) | (subst hf; decide)))⟩⟩ <;> kernel_rfl
noncomputable def Try.ti96 : TI := { desc := .struct [(0, 3), (1, 3)], size := 2, bytes := 16, zero := .agg #[.int .i64 0, .int .i64 0], plain := true }
theorem Try.ti96ok : tiOk Try.prog 96 Try.ti96 := by
  refine ⟨_, _, rfl, ?_, ?_, ?_, Try.underlying96, ?_, fun _ => ⟨by kernel_rfl, by kernel_rfl, by intro f hf; simp at hf; (repeat (first | (rcases hf with rfl | hf; · decide) | (subst hf; decide)))⟩⟩ <;> kernel_rfl
noncomputable def Try.ti108 : TI := { desc := .int .u64, size := 1, bytes := 8, zero := .int .u64 0, plain := false }
theorem Try.ti108ok : tiOk Try.prog 108 Try.ti108 := by
  refine ⟨_, _, rfl, ?_, ?_, ?_, Try.underlying108, ?_, fun h => by cases h⟩ <;> kernel_rfl
noncomputable def Try.ti119 : TI := { desc := .int .u32, size := 1, bytes := 4, zero := .int .u32 0, plain := false }
theorem Try.ti119ok : tiOk Try.prog 119 Try.ti119 := by
  refine ⟨_, _, rfl, ?_, ?_, ?_, Try.underlying119, ?_, fun h => by cases h⟩ <;> kernel_rfl
noncomputable def Try.ti123 : TI := { desc := .pointer 5, size := 1, bytes := 8, zero := .pointer none, plain := false }
theorem Try.ti123ok : tiOk Try.prog 123 Try.ti123 := by
  refine ⟨_, _, rfl, ?_, ?_, ?_, Try.underlying123, ?_, fun h => by cases h⟩ <;> kernel_rfl
noncomputable def Try.tt : TT := [(3, Try.ti3), (24, Try.ti24), (4, Try.ti4), (2, Try.ti2), (5, Try.ti5), (9, Try.ti9), (12, Try.ti12), (21, Try.ti21), (22, Try.ti22), (23, Try.ti23), (25, Try.ti25), (26, Try.ti26), (27, Try.ti27), (28, Try.ti28), (32, Try.ti32), (33, Try.ti33), (34, Try.ti34), (35, Try.ti35), (40, Try.ti40), (58, Try.ti58), (59, Try.ti59), (67, Try.ti67), (69, Try.ti69), (70, Try.ti70), (71, Try.ti71), (72, Try.ti72), (81, Try.ti81), (82, Try.ti82), (83, Try.ti83), (85, Try.ti85), (86, Try.ti86), (96, Try.ti96), (108, Try.ti108), (119, Try.ti119), (123, Try.ti123)]
theorem Try.ttOk : TTok Try.prog Try.tt := ⟨Try.ti3ok, Try.ti24ok, Try.ti4ok, Try.ti2ok, Try.ti5ok, Try.ti9ok, Try.ti12ok, Try.ti21ok, Try.ti22ok, Try.ti23ok, Try.ti25ok, Try.ti26ok, Try.ti27ok, Try.ti28ok, Try.ti32ok, Try.ti33ok, Try.ti34ok, Try.ti35ok, Try.ti40ok, Try.ti58ok, Try.ti59ok, Try.ti67ok, Try.ti69ok, Try.ti70ok, Try.ti71ok, Try.ti72ok, Try.ti81ok, Try.ti82ok, Try.ti83ok, Try.ti85ok, Try.ti86ok, Try.ti96ok, Try.ti108ok, Try.ti119ok, Try.ti123ok, trivial⟩
noncomputable def Try.S3 : Setting := { P := Try.prog, tt := Try.tt, f := 3, fn := Try.f3, live := [0, 1, 2, 3, 4, 8, 9, 10, 11, 12, 13, 14, 15, 16, 17, 18, 19, 20, 21], res := [.tmp 8] }
instance Try.S3ok : Try.S3.Ok := ⟨Try.ttOk, Try.func3, rfl⟩
noncomputable def Try.S4 : Setting := { P := Try.prog, tt := Try.tt, f := 4, fn := Try.f4, live := [0, 1, 2, 4], res := [.tmp 4] }
instance Try.S4ok : Try.S4.Ok := ⟨Try.ttOk, Try.func4, rfl⟩
noncomputable def Try.S5 : Setting := { P := Try.prog, tt := Try.tt, f := 5, fn := Try.f5, live := [0, 1, 4, 5], res := [.tmp 4] }
instance Try.S5ok : Try.S5.Ok := ⟨Try.ttOk, Try.func5, rfl⟩
noncomputable def Try.S6 : Setting := { P := Try.prog, tt := Try.tt, f := 6, fn := Try.f6, live := [0, 1, 4], res := [.tmp 4] }
instance Try.S6ok : Try.S6.Ok := ⟨Try.ttOk, Try.func6, rfl⟩
noncomputable def Try.S7 : Setting := { P := Try.prog, tt := Try.tt, f := 7, fn := Try.f7, live := [0, 1, 2, 3, 4, 8, 9, 10, 11, 12, 13, 14, 15], res := [.cell 8 35, .tmp 9] }
instance Try.S7ok : Try.S7.Ok := ⟨Try.ttOk, Try.func7, rfl⟩
noncomputable def Try.S8 : Setting := { P := Try.prog, tt := Try.tt, f := 8, fn := Try.f8, live := [0, 1, 2, 3], res := [.cell 2 35] }
instance Try.S8ok : Try.S8.Ok := ⟨Try.ttOk, Try.func8, rfl⟩
noncomputable def Try.S9 : Setting := { P := Try.prog, tt := Try.tt, f := 9, fn := Try.f9, live := [0, 2, 3, 4], res := [.tmp 2] }
instance Try.S9ok : Try.S9.Ok := ⟨Try.ttOk, Try.func9, rfl⟩
noncomputable def Try.S10 : Setting := { P := Try.prog, tt := Try.tt, f := 10, fn := Try.f10, live := [0, 2, 3, 4], res := [.tmp 2] }
instance Try.S10ok : Try.S10.Ok := ⟨Try.ttOk, Try.func10, rfl⟩
noncomputable def Try.S11 : Setting := { P := Try.prog, tt := Try.tt, f := 11, fn := Try.f11, live := [0, 1, 2, 3, 4, 8, 9, 11, 13, 14, 15, 16, 44, 45, 46, 55, 56, 57], res := [.cell 8 35, .tmp 9] }
instance Try.S11ok : Try.S11.Ok := ⟨Try.ttOk, Try.func11, rfl⟩
noncomputable def Try.S12 : Setting := { P := Try.prog, tt := Try.tt, f := 12, fn := Try.f12, live := [0, 1, 2, 3, 4], res := [.tmp 4] }
instance Try.S12ok : Try.S12.Ok := ⟨Try.ttOk, Try.func12, rfl⟩
noncomputable def Try.S13 : Setting := { P := Try.prog, tt := Try.tt, f := 13, fn := Try.f13, live := [0, 1, 4, 5], res := [.tmp 4] }
instance Try.S13ok : Try.S13.Ok := ⟨Try.ttOk, Try.func13, rfl⟩
noncomputable def Try.S14 : Setting := { P := Try.prog, tt := Try.tt, f := 14, fn := Try.f14, live := [0, 1, 4, 5], res := [.tmp 4] }
instance Try.S14ok : Try.S14.Ok := ⟨Try.ttOk, Try.func14, rfl⟩
noncomputable def Try.S15 : Setting := { P := Try.prog, tt := Try.tt, f := 15, fn := Try.f15, live := [0, 1, 4, 5], res := [.tmp 4] }
instance Try.S15ok : Try.S15.Ok := ⟨Try.ttOk, Try.func15, rfl⟩
noncomputable def Try.S16 : Setting := { P := Try.prog, tt := Try.tt, f := 16, fn := Try.f16, live := [0, 1, 2, 4], res := [.tmp 4] }
instance Try.S16ok : Try.S16.Ok := ⟨Try.ttOk, Try.func16, rfl⟩
noncomputable def Try.S17 : Setting := { P := Try.prog, tt := Try.tt, f := 17, fn := Try.f17, live := [0, 1, 4, 5], res := [.tmp 4] }
instance Try.S17ok : Try.S17.Ok := ⟨Try.ttOk, Try.func17, rfl⟩
noncomputable def Try.S18 : Setting := { P := Try.prog, tt := Try.tt, f := 18, fn := Try.f18, live := [0, 1, 4, 5], res := [.tmp 4] }
instance Try.S18ok : Try.S18.Ok := ⟨Try.ttOk, Try.func18, rfl⟩
noncomputable def Try.S19 : Setting := { P := Try.prog, tt := Try.tt, f := 19, fn := Try.f19, live := [0, 1, 4, 5], res := [.tmp 4] }
instance Try.S19ok : Try.S19.Ok := ⟨Try.ttOk, Try.func19, rfl⟩
noncomputable def Try.S20 : Setting := { P := Try.prog, tt := Try.tt, f := 20, fn := Try.f20, live := [0, 1, 2, 4], res := [.tmp 4] }
instance Try.S20ok : Try.S20.Ok := ⟨Try.ttOk, Try.func20, rfl⟩
noncomputable def Try.S21 : Setting := { P := Try.prog, tt := Try.tt, f := 21, fn := Try.f21, live := [0, 1, 4, 5], res := [.tmp 4] }
instance Try.S21ok : Try.S21.Ok := ⟨Try.ttOk, Try.func21, rfl⟩
noncomputable def Try.S22 : Setting := { P := Try.prog, tt := Try.tt, f := 22, fn := Try.f22, live := [0, 1, 4, 5], res := [.tmp 4] }
instance Try.S22ok : Try.S22.Ok := ⟨Try.ttOk, Try.func22, rfl⟩
noncomputable def Try.S23 : Setting := { P := Try.prog, tt := Try.tt, f := 23, fn := Try.f23, live := [0, 1, 4], res := [.tmp 4] }
instance Try.S23ok : Try.S23.Ok := ⟨Try.ttOk, Try.func23, rfl⟩
noncomputable def Try.S24 : Setting := { P := Try.prog, tt := Try.tt, f := 24, fn := Try.f24, live := [0, 1, 4], res := [.tmp 4] }
instance Try.S24ok : Try.S24.Ok := ⟨Try.ttOk, Try.func24, rfl⟩
noncomputable def Try.S25 : Setting := { P := Try.prog, tt := Try.tt, f := 25, fn := Try.f25, live := [0, 1, 2, 3, 4, 5, 6, 7, 8], res := [.tmp 2] }
instance Try.S25ok : Try.S25.Ok := ⟨Try.ttOk, Try.func25, rfl⟩
noncomputable def Try.S26 : Setting := { P := Try.prog, tt := Try.tt, f := 26, fn := Try.f26, live := [0, 1, 4, 5, 6], res := [.tmp 4] }
instance Try.S26ok : Try.S26.Ok := ⟨Try.ttOk, Try.func26, rfl⟩
noncomputable def Try.S27 : Setting := { P := Try.prog, tt := Try.tt, f := 27, fn := Try.f27, live := [0, 1, 2, 6], res := [.tmp 6] }
instance Try.S27ok : Try.S27.Ok := ⟨Try.ttOk, Try.func27, rfl⟩
noncomputable def Try.S28 : Setting := { P := Try.prog, tt := Try.tt, f := 28, fn := Try.f28, live := [0, 1, 2], res := [.cell 2 35] }
instance Try.S28ok : Try.S28.Ok := ⟨Try.ttOk, Try.func28, rfl⟩
noncomputable def Try.S29 : Setting := { P := Try.prog, tt := Try.tt, f := 29, fn := Try.f29, live := [0, 1, 4], res := [.tmp 4] }
instance Try.S29ok : Try.S29.Ok := ⟨Try.ttOk, Try.func29, rfl⟩
noncomputable def Try.S30 : Setting := { P := Try.prog, tt := Try.tt, f := 30, fn := Try.f30, live := [0, 1, 2], res := [.tmp 2] }
instance Try.S30ok : Try.S30.Ok := ⟨Try.ttOk, Try.func30, rfl⟩
noncomputable def Try.S31 : Setting := { P := Try.prog, tt := Try.tt, f := 31, fn := Try.f31, live := [0, 1, 2, 3, 4, 5, 10, 11, 12, 13, 14, 15, 16, 17, 18, 19, 20, 21, 22, 23], res := [.cell 10 35, .tmp 11, .tmp 12] }
instance Try.S31ok : Try.S31.Ok := ⟨Try.ttOk, Try.func31, rfl⟩
noncomputable def Try.S32 : Setting := { P := Try.prog, tt := Try.tt, f := 32, fn := Try.f32, live := [0, 2, 3], res := [.tmp 2] }
instance Try.S32ok : Try.S32.Ok := ⟨Try.ttOk, Try.func32, rfl⟩
noncomputable def Try.S33 : Setting := { P := Try.prog, tt := Try.tt, f := 33, fn := Try.f33, live := [0, 2, 3, 4], res := [.tmp 2] }
instance Try.S33ok : Try.S33.Ok := ⟨Try.ttOk, Try.func33, rfl⟩
noncomputable def Try.S34 : Setting := { P := Try.prog, tt := Try.tt, f := 34, fn := Try.f34, live := [0, 2, 3, 4], res := [.tmp 2] }
instance Try.S34ok : Try.S34.Ok := ⟨Try.ttOk, Try.func34, rfl⟩
noncomputable def Try.S35 : Setting := { P := Try.prog, tt := Try.tt, f := 35, fn := Try.f35, live := [0, 2, 3, 4], res := [.tmp 2] }
instance Try.S35ok : Try.S35.Ok := ⟨Try.ttOk, Try.func35, rfl⟩
noncomputable def Try.S36 : Setting := { P := Try.prog, tt := Try.tt, f := 36, fn := Try.f36, live := [0, 1, 2, 3], res := [.cell 2 59] }
instance Try.S36ok : Try.S36.Ok := ⟨Try.ttOk, Try.func36, rfl⟩
noncomputable def Try.S37 : Setting := { P := Try.prog, tt := Try.tt, f := 37, fn := Try.f37, live := [0, 1, 2, 3, 5, 7, 8, 9, 10, 16, 17, 18, 27, 28, 29, 41, 42, 43], res := [.tmp 2] }
instance Try.S37ok : Try.S37.Ok := ⟨Try.ttOk, Try.func37, rfl⟩
noncomputable def Try.S38 : Setting := { P := Try.prog, tt := Try.tt, f := 38, fn := Try.f38, live := [0, 1, 4, 5, 7, 16, 17, 18], res := [.tmp 4] }
instance Try.S38ok : Try.S38.Ok := ⟨Try.ttOk, Try.func38, rfl⟩
noncomputable def Try.S39 : Setting := { P := Try.prog, tt := Try.tt, f := 39, fn := Try.f39, live := [0, 2, 4, 5, 6, 7], res := [.tmp 2] }
instance Try.S39ok : Try.S39.Ok := ⟨Try.ttOk, Try.func39, rfl⟩
noncomputable def Try.S40 : Setting := { P := Try.prog, tt := Try.tt, f := 40, fn := Try.f40, live := [0, 1, 2, 6], res := [.tmp 6] }
instance Try.S40ok : Try.S40.Ok := ⟨Try.ttOk, Try.func40, rfl⟩
noncomputable def Try.S41 : Setting := { P := Try.prog, tt := Try.tt, f := 41, fn := Try.f41, live := [0, 1, 2], res := [.cell 2 35] }
instance Try.S41ok : Try.S41.Ok := ⟨Try.ttOk, Try.func41, rfl⟩
noncomputable def Try.S42 : Setting := { P := Try.prog, tt := Try.tt, f := 42, fn := Try.f42, live := [0, 1, 2], res := [.tmp 2] }
instance Try.S42ok : Try.S42.Ok := ⟨Try.ttOk, Try.func42, rfl⟩
noncomputable def Try.S43 : Setting := { P := Try.prog, tt := Try.tt, f := 43, fn := Try.f43, live := [0, 1, 2, 6, 7, 8, 9, 10, 11, 12, 13, 14, 15, 17, 18, 52, 55, 56, 57, 69, 70, 105, 106, 110], res := [.tmp 6, .tmp 7] }
instance Try.S43ok : Try.S43.Ok := ⟨Try.ttOk, Try.func43, rfl⟩
noncomputable def Try.S44 : Setting := { P := Try.prog, tt := Try.tt, f := 44, fn := Try.f44, live := [0, 1, 4, 5], res := [.tmp 4] }
instance Try.S44ok : Try.S44.Ok := ⟨Try.ttOk, Try.func44, rfl⟩
noncomputable def Try.S45 : Setting := { P := Try.prog, tt := Try.tt, f := 45, fn := Try.f45, live := [0, 1, 4, 5], res := [.tmp 4] }
instance Try.S45ok : Try.S45.Ok := ⟨Try.ttOk, Try.func45, rfl⟩
noncomputable def Try.S46 : Setting := { P := Try.prog, tt := Try.tt, f := 46, fn := Try.f46, live := [0, 1, 2, 3, 4], res := [.tmp 4] }
instance Try.S46ok : Try.S46.Ok := ⟨Try.ttOk, Try.func46, rfl⟩
noncomputable def Try.S47 : Setting := { P := Try.prog, tt := Try.tt, f := 47, fn := Try.f47, live := [0, 1, 4, 5], res := [.tmp 4] }
instance Try.S47ok : Try.S47.Ok := ⟨Try.ttOk, Try.func47, rfl⟩
noncomputable def Try.S48 : Setting := { P := Try.prog, tt := Try.tt, f := 48, fn := Try.f48, live := [0, 1, 4, 5], res := [.tmp 4] }
instance Try.S48ok : Try.S48.Ok := ⟨Try.ttOk, Try.func48, rfl⟩
noncomputable def Try.S49 : Setting := { P := Try.prog, tt := Try.tt, f := 49, fn := Try.f49, live := [0, 1, 4, 5], res := [.tmp 4] }
instance Try.S49ok : Try.S49.Ok := ⟨Try.ttOk, Try.func49, rfl⟩
noncomputable def Try.S50 : Setting := { P := Try.prog, tt := Try.tt, f := 50, fn := Try.f50, live := [0, 1, 4, 5], res := [.tmp 4] }
instance Try.S50ok : Try.S50.Ok := ⟨Try.ttOk, Try.func50, rfl⟩
noncomputable def Try.S51 : Setting := { P := Try.prog, tt := Try.tt, f := 51, fn := Try.f51, live := [0, 1, 2, 4], res := [.tmp 4] }
instance Try.S51ok : Try.S51.Ok := ⟨Try.ttOk, Try.func51, rfl⟩
noncomputable def Try.S52 : Setting := { P := Try.prog, tt := Try.tt, f := 52, fn := Try.f52, live := [0, 1, 2, 3, 4], res := [.tmp 2] }
instance Try.S52ok : Try.S52.Ok := ⟨Try.ttOk, Try.func52, rfl⟩
noncomputable def Try.S53 : Setting := { P := Try.prog, tt := Try.tt, f := 53, fn := Try.f53, live := [0, 1, 2], res := [.tmp 2] }
instance Try.S53ok : Try.S53.Ok := ⟨Try.ttOk, Try.func53, rfl⟩
noncomputable def Try.S54 : Setting := { P := Try.prog, tt := Try.tt, f := 54, fn := Try.f54, live := [0, 1, 2, 4, 6], res := [.tmp 4] }
instance Try.S54ok : Try.S54.Ok := ⟨Try.ttOk, Try.func54, rfl⟩
noncomputable def Try.S55 : Setting := { P := Try.prog, tt := Try.tt, f := 55, fn := Try.f55, live := [0, 2], res := [.tmp 2] }
instance Try.S55ok : Try.S55.Ok := ⟨Try.ttOk, Try.func55, rfl⟩
noncomputable def Try.S56 : Setting := { P := Try.prog, tt := Try.tt, f := 56, fn := Try.f56, live := [0, 2, 3, 4], res := [.tmp 2] }
instance Try.S56ok : Try.S56.Ok := ⟨Try.ttOk, Try.func56, rfl⟩
noncomputable def Try.S57 : Setting := { P := Try.prog, tt := Try.tt, f := 57, fn := Try.f57, live := [0, 1, 4], res := [.tmp 4] }
instance Try.S57ok : Try.S57.Ok := ⟨Try.ttOk, Try.func57, rfl⟩
noncomputable def Try.S58 : Setting := { P := Try.prog, tt := Try.tt, f := 58, fn := Try.f58, live := [0, 2, 3, 4], res := [.tmp 2] }
instance Try.S58ok : Try.S58.Ok := ⟨Try.ttOk, Try.func58, rfl⟩
noncomputable def Try.S59 : Setting := { P := Try.prog, tt := Try.tt, f := 59, fn := Try.f59, live := [0, 1, 2, 3, 4, 8, 9, 10, 11, 12, 13, 14, 15, 16, 17, 18, 102], res := [.cell 8 35, .tmp 9] }
instance Try.S59ok : Try.S59.Ok := ⟨Try.ttOk, Try.func59, rfl⟩
noncomputable def Try.S60 : Setting := { P := Try.prog, tt := Try.tt, f := 60, fn := Try.f60, live := [0, 1, 2, 3, 6, 7, 8, 9], res := [.cell 6 35, .tmp 7] }
instance Try.S60ok : Try.S60.Ok := ⟨Try.ttOk, Try.func60, rfl⟩
noncomputable def Try.S61 : Setting := { P := Try.prog, tt := Try.tt, f := 61, fn := Try.f61, live := [0, 1, 2, 3, 4, 8, 9, 10, 11, 12, 13], res := [.cell 8 35, .tmp 9] }
instance Try.S61ok : Try.S61.Ok := ⟨Try.ttOk, Try.func61, rfl⟩
noncomputable def Try.S62 : Setting := { P := Try.prog, tt := Try.tt, f := 62, fn := Try.f62, live := [0, 1, 2, 3], res := [.cell 2 83] }
instance Try.S62ok : Try.S62.Ok := ⟨Try.ttOk, Try.func62, rfl⟩
noncomputable def Try.S63 : Setting := { P := Try.prog, tt := Try.tt, f := 63, fn := Try.f63, live := [0, 1, 2, 3], res := [.cell 2 86] }
instance Try.S63ok : Try.S63.Ok := ⟨Try.ttOk, Try.func63, rfl⟩
noncomputable def Try.S64 : Setting := { P := Try.prog, tt := Try.tt, f := 64, fn := Try.f64, live := [0, 1, 2], res := [.tmp 2] }
instance Try.S64ok : Try.S64.Ok := ⟨Try.ttOk, Try.func64, rfl⟩
noncomputable def Try.S65 : Setting := { P := Try.prog, tt := Try.tt, f := 65, fn := Try.f65, live := [0, 1, 2, 4], res := [.tmp 2] }
instance Try.S65ok : Try.S65.Ok := ⟨Try.ttOk, Try.func65, rfl⟩
noncomputable def Try.S66 : Setting := { P := Try.prog, tt := Try.tt, f := 66, fn := Try.f66, live := [0, 1, 2, 3, 5, 10, 11, 12], res := [.tmp 2] }
instance Try.S66ok : Try.S66.Ok := ⟨Try.ttOk, Try.func66, rfl⟩
noncomputable def Try.S67 : Setting := { P := Try.prog, tt := Try.tt, f := 67, fn := Try.f67, live := [0, 1, 2], res := [.tmp 2] }
instance Try.S67ok : Try.S67.Ok := ⟨Try.ttOk, Try.func67, rfl⟩
noncomputable def Try.S68 : Setting := { P := Try.prog, tt := Try.tt, f := 68, fn := Try.f68, live := [0, 1, 2, 4], res := [.tmp 4] }
instance Try.S68ok : Try.S68.Ok := ⟨Try.ttOk, Try.func68, rfl⟩
noncomputable def Try.S69 : Setting := { P := Try.prog, tt := Try.tt, f := 69, fn := Try.f69, live := [0, 2], res := [.tmp 2] }
instance Try.S69ok : Try.S69.Ok := ⟨Try.ttOk, Try.func69, rfl⟩
noncomputable def Try.S70 : Setting := { P := Try.prog, tt := Try.tt, f := 70, fn := Try.f70, live := [0, 2, 3, 5, 6, 7, 8], res := [.tmp 2] }
instance Try.S70ok : Try.S70.Ok := ⟨Try.ttOk, Try.func70, rfl⟩
noncomputable def Try.S71 : Setting := { P := Try.prog, tt := Try.tt, f := 71, fn := Try.f71, live := [0, 2], res := [.tmp 2] }
instance Try.S71ok : Try.S71.Ok := ⟨Try.ttOk, Try.func71, rfl⟩
noncomputable def Try.S72 : Setting := { P := Try.prog, tt := Try.tt, f := 72, fn := Try.f72, live := [0, 1, 3, 4, 5, 6, 7, 14, 18, 19, 35, 36], res := [.tmp 4] }
instance Try.S72ok : Try.S72.Ok := ⟨Try.ttOk, Try.func72, rfl⟩
noncomputable def Try.S73 : Setting := { P := Try.prog, tt := Try.tt, f := 73, fn := Try.f73, live := [0, 2, 3, 5, 6, 7, 8], res := [.tmp 2] }
instance Try.S73ok : Try.S73.Ok := ⟨Try.ttOk, Try.func73, rfl⟩
noncomputable def Try.S74 : Setting := { P := Try.prog, tt := Try.tt, f := 74, fn := Try.f74, live := [0, 1, 2, 6], res := [.tmp 6] }
instance Try.S74ok : Try.S74.Ok := ⟨Try.ttOk, Try.func74, rfl⟩
noncomputable def Try.S75 : Setting := { P := Try.prog, tt := Try.tt, f := 75, fn := Try.f75, live := [0, 1, 2, 6], res := [.tmp 6] }
instance Try.S75ok : Try.S75.Ok := ⟨Try.ttOk, Try.func75, rfl⟩
noncomputable def Try.S76 : Setting := { P := Try.prog, tt := Try.tt, f := 76, fn := Try.f76, live := [0, 1, 2, 6], res := [.tmp 6] }
instance Try.S76ok : Try.S76.Ok := ⟨Try.ttOk, Try.func76, rfl⟩
noncomputable def Try.S77 : Setting := { P := Try.prog, tt := Try.tt, f := 77, fn := Try.f77, live := [0, 1, 2, 3, 8, 9, 10, 11, 12, 13, 15, 16], res := [.tmp 8] }
instance Try.S77ok : Try.S77.Ok := ⟨Try.ttOk, Try.func77, rfl⟩
noncomputable def Try.S78 : Setting := { P := Try.prog, tt := Try.tt, f := 78, fn := Try.f78, live := [0, 1, 2, 3, 8, 9, 10, 11, 15, 16], res := [.tmp 8] }
instance Try.S78ok : Try.S78.Ok := ⟨Try.ttOk, Try.func78, rfl⟩
noncomputable def Try.S79 : Setting := { P := Try.prog, tt := Try.tt, f := 79, fn := Try.f79, live := [0, 1, 2, 3, 8], res := [.tmp 8] }
instance Try.S79ok : Try.S79.Ok := ⟨Try.ttOk, Try.func79, rfl⟩
noncomputable def Try.S80 : Setting := { P := Try.prog, tt := Try.tt, f := 80, fn := Try.f80, live := [0, 1, 2, 3, 4], res := [.tmp 4] }
instance Try.S80ok : Try.S80.Ok := ⟨Try.ttOk, Try.func80, rfl⟩
noncomputable def Try.S81 : Setting := { P := Try.prog, tt := Try.tt, f := 81, fn := Try.f81, live := [0, 1, 2, 3, 4], res := [.tmp 4] }
instance Try.S81ok : Try.S81.Ok := ⟨Try.ttOk, Try.func81, rfl⟩
noncomputable def Try.S82 : Setting := { P := Try.prog, tt := Try.tt, f := 82, fn := Try.f82, live := [0, 2], res := [.tmp 2] }
instance Try.S82ok : Try.S82.Ok := ⟨Try.ttOk, Try.func82, rfl⟩
noncomputable def Try.S83 : Setting := { P := Try.prog, tt := Try.tt, f := 83, fn := Try.f83, live := [0, 1, 2, 3, 4, 8, 9, 10, 11, 12, 13, 14, 15, 16], res := [.cell 8 35, .tmp 9] }
instance Try.S83ok : Try.S83.Ok := ⟨Try.ttOk, Try.func83, rfl⟩
noncomputable def Try.S84 : Setting := { P := Try.prog, tt := Try.tt, f := 84, fn := Try.f84, live := [0, 2], res := [.tmp 2] }
instance Try.S84ok : Try.S84.Ok := ⟨Try.ttOk, Try.func84, rfl⟩
noncomputable def Try.S85 : Setting := { P := Try.prog, tt := Try.tt, f := 85, fn := Try.f85, live := [0, 1, 2, 3, 6, 7, 8, 9, 10], res := [.cell 6 35, .tmp 7] }
instance Try.S85ok : Try.S85.Ok := ⟨Try.ttOk, Try.func85, rfl⟩
noncomputable def Try.S86 : Setting := { P := Try.prog, tt := Try.tt, f := 86, fn := Try.f86, live := [0, 1, 2, 3, 6, 7, 8, 9, 10, 11], res := [.cell 6 35, .tmp 7] }
instance Try.S86ok : Try.S86.Ok := ⟨Try.ttOk, Try.func86, rfl⟩
noncomputable def Try.S87 : Setting := { P := Try.prog, tt := Try.tt, f := 87, fn := Try.f87, live := [0, 1, 2, 3, 4, 5, 8, 9, 10, 11], res := [.cell 8 35, .tmp 9] }
instance Try.S87ok : Try.S87.Ok := ⟨Try.ttOk, Try.func87, rfl⟩
noncomputable def Try.S88 : Setting := { P := Try.prog, tt := Try.tt, f := 88, fn := Try.f88, live := [0, 1, 2, 6], res := [.tmp 6] }
instance Try.S88ok : Try.S88.Ok := ⟨Try.ttOk, Try.func88, rfl⟩
noncomputable def Try.S89 : Setting := { P := Try.prog, tt := Try.tt, f := 89, fn := Try.f89, live := [0, 1, 4], res := [.tmp 4] }
instance Try.S89ok : Try.S89.Ok := ⟨Try.ttOk, Try.func89, rfl⟩
noncomputable def Try.S90 : Setting := { P := Try.prog, tt := Try.tt, f := 90, fn := Try.f90, live := [0, 1, 2, 6, 7, 8, 9, 46, 47, 48], res := [.tmp 6] }
instance Try.S90ok : Try.S90.Ok := ⟨Try.ttOk, Try.func90, rfl⟩
noncomputable def Try.S91 : Setting := { P := Try.prog, tt := Try.tt, f := 91, fn := Try.f91, live := [0, 1, 2, 6, 7], res := [.tmp 6] }
instance Try.S91ok : Try.S91.Ok := ⟨Try.ttOk, Try.func91, rfl⟩
noncomputable def Try.S92 : Setting := { P := Try.prog, tt := Try.tt, f := 92, fn := Try.f92, live := [0, 1, 2, 6, 7, 8], res := [.tmp 6] }
instance Try.S92ok : Try.S92.Ok := ⟨Try.ttOk, Try.func92, rfl⟩
noncomputable def Try.S93 : Setting := { P := Try.prog, tt := Try.tt, f := 93, fn := Try.f93, live := [0, 1, 4, 5], res := [.tmp 4] }
instance Try.S93ok : Try.S93.Ok := ⟨Try.ttOk, Try.func93, rfl⟩
noncomputable def Try.S94 : Setting := { P := Try.prog, tt := Try.tt, f := 94, fn := Try.f94, live := [0, 1, 2, 3, 8, 9, 10], res := [.tmp 8] }
instance Try.S94ok : Try.S94.Ok := ⟨Try.ttOk, Try.func94, rfl⟩
end Go.Proofs
