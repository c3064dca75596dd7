/- The table of the types and the settings of the functions, by program (fill.py); no condition. -/
import Derived.Test.YtgcgoeahjlgiiaaProg
import Derived.Test.YtgcgoeahjlgiiaaCore
import Derived.KernelRfl
namespace Go.Proofs
open Go.Xw
set_option maxRecDepth 100000
noncomputable def Try.ti2 : TI := { desc := .int .i64, size := 1, bytes := 8, zero := .int .i64 0, plain := false }
theorem Try.ti2ok : tiOk Try.prog 2 Try.ti2 := by
  refine ⟨_, _, rfl, ?_, ?_, ?_, Try.underlying2, ?_, fun h => by cases h⟩ <;> kernel_rfl
noncomputable def Try.ti3 : TI := { desc := .int .i64, size := 1, bytes := 8, zero := .int .i64 0, plain := false }
theorem Try.ti3ok : tiOk Try.prog 3 Try.ti3 := by
  refine ⟨_, _, rfl, ?_, ?_, ?_, Try.underlying3, ?_, fun h => by cases h⟩ <;> kernel_rfl
noncomputable def Try.ti4 : TI := { desc := .bool, size := 1, bytes := 1, zero := .bool false, plain := false }
theorem Try.ti4ok : tiOk Try.prog 4 Try.ti4 := by
  refine ⟨_, _, rfl, ?_, ?_, ?_, Try.underlying4, ?_, fun h => by cases h⟩ <;> kernel_rfl
noncomputable def Try.ti5 : TI := { desc := .int .u8, size := 1, bytes := 1, zero := .int .u8 0, plain := false }
theorem Try.ti5ok : tiOk Try.prog 5 Try.ti5 := by
  refine ⟨_, _, rfl, ?_, ?_, ?_, Try.underlying5, ?_, fun h => by cases h⟩ <;> kernel_rfl
noncomputable def Try.ti9 : TI := { desc := .string, size := 1, bytes := 16, zero := .string ByteArray.empty, plain := false }
theorem Try.ti9ok : tiOk Try.prog 9 Try.ti9 := by
  refine ⟨_, _, rfl, ?_, ?_, ?_, Try.underlying9, ?_, fun h => by cases h⟩ <;> kernel_rfl
noncomputable def Try.ti12 : TI := { desc := .int .u64, size := 1, bytes := 8, zero := .int .u64 0, plain := false }
theorem Try.ti12ok : tiOk Try.prog 12 Try.ti12 := by
  refine ⟨_, _, rfl, ?_, ?_, ?_, Try.underlying12, ?_, fun h => by cases h⟩ <;> kernel_rfl
noncomputable def Try.ti21 : TI := { desc := .int .i32, size := 1, bytes := 4, zero := .int .i32 0, plain := false }
theorem Try.ti21ok : tiOk Try.prog 21 Try.ti21 := by
  refine ⟨_, _, rfl, ?_, ?_, ?_, Try.underlying21, ?_, fun h => by cases h⟩ <;> kernel_rfl
noncomputable def Try.ti22 : TI := { desc := .slice 3, size := 1, bytes := 24, zero := .slice none 0 0, plain := false }
theorem Try.ti22ok : tiOk Try.prog 22 Try.ti22 := by
  refine ⟨_, _, rfl, ?_, ?_, ?_, Try.underlying22, ?_, fun h => by cases h⟩ <;> kernel_rfl
noncomputable def Try.ti33 : TI := { desc := .int .u64, size := 1, bytes := 8, zero := .int .u64 0, plain := false }
theorem Try.ti33ok : tiOk Try.prog 33 Try.ti33 := by
  refine ⟨_, _, rfl, ?_, ?_, ?_, Try.underlying33, ?_, fun h => by cases h⟩ <;> kernel_rfl
noncomputable def Try.ti43 : TI := { desc := .int .u32, size := 1, bytes := 4, zero := .int .u32 0, plain := false }
theorem Try.ti43ok : tiOk Try.prog 43 Try.ti43 := by
  refine ⟨_, _, rfl, ?_, ?_, ?_, Try.underlying43, ?_, fun h => by cases h⟩ <;> kernel_rfl
noncomputable def Try.ti47 : TI := { desc := .pointer 5, size := 1, bytes := 8, zero := .pointer none, plain := false }
theorem Try.ti47ok : tiOk Try.prog 47 Try.ti47 := by
  refine ⟨_, _, rfl, ?_, ?_, ?_, Try.underlying47, ?_, fun h => by cases h⟩ <;> kernel_rfl
noncomputable def Try.tt : TT := [(3, Try.ti3), (22, Try.ti22), (4, Try.ti4), (2, Try.ti2), (5, Try.ti5), (9, Try.ti9), (12, Try.ti12), (21, Try.ti21), (33, Try.ti33), (43, Try.ti43), (47, Try.ti47)]
theorem Try.ttOk : TTok Try.prog Try.tt := ⟨Try.ti3ok, Try.ti22ok, Try.ti4ok, Try.ti2ok, Try.ti5ok, Try.ti9ok, Try.ti12ok, Try.ti21ok, Try.ti33ok, Try.ti43ok, Try.ti47ok, trivial⟩
noncomputable def Try.S3 : Setting := { P := Try.prog, tt := Try.tt, f := 3, fn := Try.f3, live := [0, 1, 4, 5, 6, 7], res := [.tmp 4] }
instance Try.S3ok : Try.S3.Ok := ⟨Try.ttOk, Try.func3, rfl⟩
noncomputable def Try.S4 : Setting := { P := Try.prog, tt := Try.tt, f := 4, fn := Try.f4, live := [0, 1, 2, 6, 7, 8], res := [.tmp 6] }
instance Try.S4ok : Try.S4.Ok := ⟨Try.ttOk, Try.func4, rfl⟩
noncomputable def Try.S5 : Setting := { P := Try.prog, tt := Try.tt, f := 5, fn := Try.f5, live := [0, 1, 4, 5, 6, 7, 8], res := [.tmp 4] }
instance Try.S5ok : Try.S5.Ok := ⟨Try.ttOk, Try.func5, rfl⟩
noncomputable def Try.S6 : Setting := { P := Try.prog, tt := Try.tt, f := 6, fn := Try.f6, live := [0, 1, 4, 5, 6, 7, 8], res := [.tmp 4] }
instance Try.S6ok : Try.S6.Ok := ⟨Try.ttOk, Try.func6, rfl⟩
noncomputable def Try.S7 : Setting := { P := Try.prog, tt := Try.tt, f := 7, fn := Try.f7, live := [0, 1, 4, 5, 6, 7, 8, 9, 10, 11], res := [.tmp 4] }
instance Try.S7ok : Try.S7.Ok := ⟨Try.ttOk, Try.func7, rfl⟩
noncomputable def Try.S8 : Setting := { P := Try.prog, tt := Try.tt, f := 8, fn := Try.f8, live := [0, 1, 4, 5, 6, 7, 8, 9, 10, 11, 12, 13, 14, 15], res := [.tmp 4] }
instance Try.S8ok : Try.S8.Ok := ⟨Try.ttOk, Try.func8, rfl⟩
noncomputable def Try.S9 : Setting := { P := Try.prog, tt := Try.tt, f := 9, fn := Try.f9, live := [0, 1, 4], res := [.tmp 4] }
instance Try.S9ok : Try.S9.Ok := ⟨Try.ttOk, Try.func9, rfl⟩
noncomputable def Try.S10 : Setting := { P := Try.prog, tt := Try.tt, f := 10, fn := Try.f10, live := [0, 2, 3, 4], res := [.tmp 2] }
instance Try.S10ok : Try.S10.Ok := ⟨Try.ttOk, Try.func10, rfl⟩
noncomputable def Try.S11 : Setting := { P := Try.prog, tt := Try.tt, f := 11, fn := Try.f11, live := [0, 1, 4], res := [.tmp 4] }
instance Try.S11ok : Try.S11.Ok := ⟨Try.ttOk, Try.func11, rfl⟩
noncomputable def Try.S12 : Setting := { P := Try.prog, tt := Try.tt, f := 12, fn := Try.f12, live := [0, 1, 4, 5], res := [.tmp 4] }
instance Try.S12ok : Try.S12.Ok := ⟨Try.ttOk, Try.func12, rfl⟩
noncomputable def Try.S13 : Setting := { P := Try.prog, tt := Try.tt, f := 13, fn := Try.f13, live := [0, 1, 2, 6, 7, 8], res := [.tmp 6] }
instance Try.S13ok : Try.S13.Ok := ⟨Try.ttOk, Try.func13, rfl⟩
noncomputable def Try.S14 : Setting := { P := Try.prog, tt := Try.tt, f := 14, fn := Try.f14, live := [0, 1, 2, 6, 7, 8], res := [.tmp 6] }
instance Try.S14ok : Try.S14.Ok := ⟨Try.ttOk, Try.func14, rfl⟩
noncomputable def Try.S15 : Setting := { P := Try.prog, tt := Try.tt, f := 15, fn := Try.f15, live := [0, 1, 4, 5], res := [.tmp 4] }
instance Try.S15ok : Try.S15.Ok := ⟨Try.ttOk, Try.func15, rfl⟩
noncomputable def Try.S16 : Setting := { P := Try.prog, tt := Try.tt, f := 16, fn := Try.f16, live := [0, 1, 4, 5, 17, 18], res := [.tmp 4] }
instance Try.S16ok : Try.S16.Ok := ⟨Try.ttOk, Try.func16, rfl⟩
noncomputable def Try.S17 : Setting := { P := Try.prog, tt := Try.tt, f := 17, fn := Try.f17, live := [0, 1, 4, 5, 6, 7], res := [.tmp 4] }
instance Try.S17ok : Try.S17.Ok := ⟨Try.ttOk, Try.func17, rfl⟩
noncomputable def Try.S18 : Setting := { P := Try.prog, tt := Try.tt, f := 18, fn := Try.f18, live := [0, 1, 4, 5, 6, 7, 8, 19, 20, 21], res := [.tmp 4] }
instance Try.S18ok : Try.S18.Ok := ⟨Try.ttOk, Try.func18, rfl⟩
noncomputable def Try.S19 : Setting := { P := Try.prog, tt := Try.tt, f := 19, fn := Try.f19, live := [0, 1, 4, 5, 6, 7], res := [.tmp 4] }
instance Try.S19ok : Try.S19.Ok := ⟨Try.ttOk, Try.func19, rfl⟩
noncomputable def Try.S20 : Setting := { P := Try.prog, tt := Try.tt, f := 20, fn := Try.f20, live := [0, 1, 4, 5, 7, 11, 12, 13], res := [.tmp 4] }
instance Try.S20ok : Try.S20.Ok := ⟨Try.ttOk, Try.func20, rfl⟩
noncomputable def Try.S21 : Setting := { P := Try.prog, tt := Try.tt, f := 21, fn := Try.f21, live := [0, 1, 4, 5], res := [.tmp 4] }
instance Try.S21ok : Try.S21.Ok := ⟨Try.ttOk, Try.func21, rfl⟩
noncomputable def Try.S22 : Setting := { P := Try.prog, tt := Try.tt, f := 22, fn := Try.f22, live := [0, 1, 4, 5], res := [.tmp 4] }
instance Try.S22ok : Try.S22.Ok := ⟨Try.ttOk, Try.func22, rfl⟩
noncomputable def Try.S23 : Setting := { P := Try.prog, tt := Try.tt, f := 23, fn := Try.f23, live := [0, 1, 4, 5, 6, 7, 8], res := [.tmp 4, .tmp 5] }
instance Try.S23ok : Try.S23.Ok := ⟨Try.ttOk, Try.func23, rfl⟩
noncomputable def Try.S24 : Setting := { P := Try.prog, tt := Try.tt, f := 24, fn := Try.f24, live := [0, 1, 4, 5, 6, 8, 41, 42, 43], res := [.tmp 4, .tmp 5] }
instance Try.S24ok : Try.S24.Ok := ⟨Try.ttOk, Try.func24, rfl⟩
noncomputable def Try.S25 : Setting := { P := Try.prog, tt := Try.tt, f := 25, fn := Try.f25, live := [0, 1, 2, 6], res := [.tmp 6] }
instance Try.S25ok : Try.S25.Ok := ⟨Try.ttOk, Try.func25, rfl⟩
noncomputable def Try.S26 : Setting := { P := Try.prog, tt := Try.tt, f := 26, fn := Try.f26, live := [0, 1, 4], res := [.tmp 4] }
instance Try.S26ok : Try.S26.Ok := ⟨Try.ttOk, Try.func26, rfl⟩
noncomputable def Try.S27 : Setting := { P := Try.prog, tt := Try.tt, f := 27, fn := Try.f27, live := [0, 1, 2, 6], res := [.tmp 6] }
instance Try.S27ok : Try.S27.Ok := ⟨Try.ttOk, Try.func27, rfl⟩
noncomputable def Try.S28 : Setting := { P := Try.prog, tt := Try.tt, f := 28, fn := Try.f28, live := [0, 1, 4], res := [.tmp 4] }
instance Try.S28ok : Try.S28.Ok := ⟨Try.ttOk, Try.func28, rfl⟩
noncomputable def Try.S29 : Setting := { P := Try.prog, tt := Try.tt, f := 29, fn := Try.f29, live := [0, 2, 3], res := [.tmp 2] }
instance Try.S29ok : Try.S29.Ok := ⟨Try.ttOk, Try.func29, rfl⟩
noncomputable def Try.S30 : Setting := { P := Try.prog, tt := Try.tt, f := 30, fn := Try.f30, live := [0, 2, 3, 4], res := [.tmp 2] }
instance Try.S30ok : Try.S30.Ok := ⟨Try.ttOk, Try.func30, rfl⟩
noncomputable def Try.S31 : Setting := { P := Try.prog, tt := Try.tt, f := 31, fn := Try.f31, live := [0, 2, 3, 5, 6, 7, 8], res := [.tmp 2] }
instance Try.S31ok : Try.S31.Ok := ⟨Try.ttOk, Try.func31, rfl⟩
noncomputable def Try.S32 : Setting := { P := Try.prog, tt := Try.tt, f := 32, fn := Try.f32, live := [0, 2], res := [.tmp 2] }
instance Try.S32ok : Try.S32.Ok := ⟨Try.ttOk, Try.func32, rfl⟩
noncomputable def Try.S33 : Setting := { P := Try.prog, tt := Try.tt, f := 33, fn := Try.f33, live := [0, 2, 3], res := [.tmp 2] }
instance Try.S33ok : Try.S33.Ok := ⟨Try.ttOk, Try.func33, rfl⟩
noncomputable def Try.S34 : Setting := { P := Try.prog, tt := Try.tt, f := 34, fn := Try.f34, live := [0, 2, 3], res := [.tmp 2] }
instance Try.S34ok : Try.S34.Ok := ⟨Try.ttOk, Try.func34, rfl⟩
noncomputable def Try.S35 : Setting := { P := Try.prog, tt := Try.tt, f := 35, fn := Try.f35, live := [0, 2], res := [.tmp 2] }
instance Try.S35ok : Try.S35.Ok := ⟨Try.ttOk, Try.func35, rfl⟩
noncomputable def Try.S36 : Setting := { P := Try.prog, tt := Try.tt, f := 36, fn := Try.f36, live := [0, 1, 4, 5, 6], res := [.tmp 4] }
instance Try.S36ok : Try.S36.Ok := ⟨Try.ttOk, Try.func36, rfl⟩
end Go.Proofs
