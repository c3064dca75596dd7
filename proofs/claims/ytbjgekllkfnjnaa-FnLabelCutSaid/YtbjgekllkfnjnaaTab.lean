/- The table of the types and the settings of the functions, by program (fill.py); no condition. -/
import Derived.Test.YtbjgekllkfnjnaaProg
import Derived.Test.YtbjgekllkfnjnaaCore
import Derived.KernelRfl
set_option linter.all false
namespace Go.Proofs
open Go.Xw
set_option maxRecDepth 100000
noncomputable def Try.ti2 : TI := { desc := .int .i64, size := 1, bytes := 8, zero := .int .i64 0, plain := false }
theorem Try.ti2ok : tiOk Try.prog 2 Try.ti2 := by
  refine ⟨_, _, rfl, ?_, ?_, ?_, Try.underlying2, ?_, fun h => by cases h⟩ <;> kernel_rfl
noncomputable def Try.ti3 : TI := { desc := .int .i64, size := 1, bytes := 8, zero := .int .i64 0, plain := false }
theorem Try.ti3ok : tiOk Try.prog 3 Try.ti3 := by
  refine ⟨_, _, rfl, ?_, ?_, ?_, Try.underlying3, ?_, fun h => by cases h⟩ <;> kernel_rfl
noncomputable def Try.ti4 : TI := { desc := .bool, size := 1, bytes := 1, zero := .bool false, plain := false }
theorem Try.ti4ok : tiOk Try.prog 4 Try.ti4 := by
  refine ⟨_, _, rfl, ?_, ?_, ?_, Try.underlying4, ?_, fun h => by cases h⟩ <;> kernel_rfl
noncomputable def Try.ti5 : TI := { desc := .int .u8, size := 1, bytes := 1, zero := .int .u8 0, plain := false }
theorem Try.ti5ok : tiOk Try.prog 5 Try.ti5 := by
  refine ⟨_, _, rfl, ?_, ?_, ?_, Try.underlying5, ?_, fun h => by cases h⟩ <;> kernel_rfl
noncomputable def Try.ti9 : TI := { desc := .string, size := 1, bytes := 16, zero := .string ByteArray.empty, plain := false }
theorem Try.ti9ok : tiOk Try.prog 9 Try.ti9 := by
  refine ⟨_, _, rfl, ?_, ?_, ?_, Try.underlying9, ?_, fun h => by cases h⟩ <;> kernel_rfl
noncomputable def Try.ti12 : TI := { desc := .int .u64, size := 1, bytes := 8, zero := .int .u64 0, plain := false }
theorem Try.ti12ok : tiOk Try.prog 12 Try.ti12 := by
  refine ⟨_, _, rfl, ?_, ?_, ?_, Try.underlying12, ?_, fun h => by cases h⟩ <;> kernel_rfl
noncomputable def Try.ti21 : TI := { desc := .int .i32, size := 1, bytes := 4, zero := .int .i32 0, plain := false }
theorem Try.ti21ok : tiOk Try.prog 21 Try.ti21 := by
  refine ⟨_, _, rfl, ?_, ?_, ?_, Try.underlying21, ?_, fun h => by cases h⟩ <;> kernel_rfl
noncomputable def Try.ti22 : TI := { desc := .slice 5, size := 1, bytes := 24, zero := .slice none 0 0, plain := false }
theorem Try.ti22ok : tiOk Try.prog 22 Try.ti22 := by
  refine ⟨_, _, rfl, ?_, ?_, ?_, Try.underlying22, ?_, fun h => by cases h⟩ <;> kernel_rfl
noncomputable def Try.ti24 : TI := { desc := .slice 91, size := 1, bytes := 24, zero := .slice none 0 0, plain := false }
theorem Try.ti24ok : tiOk Try.prog 24 Try.ti24 := by
  refine ⟨_, _, rfl, ?_, ?_, ?_, Try.underlying24, ?_, fun h => by cases h⟩ <;> kernel_rfl
noncomputable def Try.ti25 : TI := { desc := .slice 79, size := 1, bytes := 24, zero := .slice none 0 0, plain := false }
theorem Try.ti25ok : tiOk Try.prog 25 Try.ti25 := by
  refine ⟨_, _, rfl, ?_, ?_, ?_, Try.underlying25, ?_, fun h => by cases h⟩ <;> kernel_rfl
noncomputable def Try.ti26 : TI := { desc := .slice 3, size := 1, bytes := 24, zero := .slice none 0 0, plain := false }
theorem Try.ti26ok : tiOk Try.prog 26 Try.ti26 := by
  refine ⟨_, _, rfl, ?_, ?_, ?_, Try.underlying26, ?_, fun h => by cases h⟩ <;> kernel_rfl
noncomputable def Try.ti27 : TI := { desc := .struct [(0, 3), (1, 24), (2, 25), (3, 26)], size := 4, bytes := 80, zero := .agg #[.int .i64 0, .slice none 0 0, .slice none 0 0, .slice none 0 0], plain := false }
theorem Try.ti27ok : tiOk Try.prog 27 Try.ti27 := by
  refine ⟨_, _, rfl, ?_, ?_, ?_, Try.underlying27, ?_, fun h => by cases h⟩ <;> kernel_rfl
noncomputable def Try.ti28 : TI := { desc := .struct [(0, 3), (1, 24), (2, 25), (3, 26)], size := 4, bytes := 80, zero := .agg #[.int .i64 0, .slice none 0 0, .slice none 0 0, .slice none 0 0], plain := false }
theorem Try.ti28ok : tiOk Try.prog 28 Try.ti28 := by
  refine ⟨_, _, rfl, ?_, ?_, ?_, Try.underlying28, ?_, fun h => by cases h⟩ <;> kernel_rfl
noncomputable def Try.ti37 : TI := { desc := .slice 26, size := 1, bytes := 24, zero := .slice none 0 0, plain := false }
theorem Try.ti37ok : tiOk Try.prog 37 Try.ti37 := by
  refine ⟨_, _, rfl, ?_, ?_, ?_, Try.underlying37, ?_, fun h => by cases h⟩ <;> kernel_rfl
noncomputable def Try.ti39 : TI := { desc := .slice 115, size := 1, bytes := 24, zero := .slice none 0 0, plain := false }
theorem Try.ti39ok : tiOk Try.prog 39 Try.ti39 := by
  refine ⟨_, _, rfl, ?_, ?_, ?_, Try.underlying39, ?_, fun h => by cases h⟩ <;> kernel_rfl
noncomputable def Try.ti40 : TI := { desc := .slice 119, size := 1, bytes := 24, zero := .slice none 0 0, plain := false }
theorem Try.ti40ok : tiOk Try.prog 40 Try.ti40 := by
  refine ⟨_, _, rfl, ?_, ?_, ?_, Try.underlying40, ?_, fun h => by cases h⟩ <;> kernel_rfl
noncomputable def Try.ti41 : TI := { desc := .struct [(0, 3), (1, 39), (2, 40), (3, 26)], size := 4, bytes := 80, zero := .agg #[.int .i64 0, .slice none 0 0, .slice none 0 0, .slice none 0 0], plain := false }
theorem Try.ti41ok : tiOk Try.prog 41 Try.ti41 := by
  refine ⟨_, _, rfl, ?_, ?_, ?_, Try.underlying41, ?_, fun h => by cases h⟩ <;> kernel_rfl
noncomputable def Try.ti42 : TI := { desc := .struct [(0, 3), (1, 39), (2, 40), (3, 26)], size := 4, bytes := 80, zero := .agg #[.int .i64 0, .slice none 0 0, .slice none 0 0, .slice none 0 0], plain := false }
theorem Try.ti42ok : tiOk Try.prog 42 Try.ti42 := by
  refine ⟨_, _, rfl, ?_, ?_, ?_, Try.underlying42, ?_, fun h => by cases h⟩ <;> kernel_rfl
noncomputable def Try.ti61 : TI := { desc := .pointer 93, size := 1, bytes := 8, zero := .pointer none, plain := false }
theorem Try.ti61ok : tiOk Try.prog 61 Try.ti61 := by
  refine ⟨_, _, rfl, ?_, ?_, ?_, Try.underlying61, ?_, fun h => by cases h⟩ <;> kernel_rfl
noncomputable def Try.ti70 : TI := { desc := .slice 37, size := 1, bytes := 24, zero := .slice none 0 0, plain := false }
theorem Try.ti70ok : tiOk Try.prog 70 Try.ti70 := by
  refine ⟨_, _, rfl, ?_, ?_, ?_, Try.underlying70, ?_, fun h => by cases h⟩ <;> kernel_rfl
noncomputable def Try.ti78 : TI := { desc := .struct [(0, 3), (1, 3)], size := 2, bytes := 16, zero := .agg #[.int .i64 0, .int .i64 0], plain := true }
theorem Try.ti78ok : tiOk Try.prog 78 Try.ti78 := by
  refine ⟨_, _, rfl, ?_, ?_, ?_, Try.underlying78, ?_, fun _ => ⟨by kernel_rfl, by kernel_rfl, by intro f hf; simp at hf; (repeat (first | (rcases hf with rfl | hf; · decide) | (subst hf; decide)))⟩⟩ <;> kernel_rfl
noncomputable def Try.ti79 : TI := { desc := .struct [(0, 3), (1, 3)], size := 2, bytes := 16, zero := .agg #[.int .i64 0, .int .i64 0], plain := true }
theorem Try.ti79ok : tiOk Try.prog 79 Try.ti79 := by
  refine ⟨_, _, rfl, ?_, ?_, ?_, Try.underlying79, ?_, fun _ => ⟨by kernel_rfl, by kernel_rfl, by intro f hf; simp at hf; (repeat (first | (rcases hf with rfl | hf; · decide) | (subst hf; decide)))⟩⟩ <;> kernel_rfl
noncomputable def Try.ti86 : TI := { desc := .pointer 28, size := 1, bytes := 8, zero := .pointer none, plain := false }
theorem Try.ti86ok : tiOk Try.prog 86 Try.ti86 := by
  refine ⟨_, _, rfl, ?_, ?_, ?_, Try.underlying86, ?_, fun h => by cases h⟩ <;> kernel_rfl
noncomputable def Try.ti90 : TI := { desc := .struct [(0, 3), (1, 3), (2, 26)], size := 3, bytes := 40, zero := .agg #[.int .i64 0, .int .i64 0, .slice none 0 0], plain := false }
theorem Try.ti90ok : tiOk Try.prog 90 Try.ti90 := by
  refine ⟨_, _, rfl, ?_, ?_, ?_, Try.underlying90, ?_, fun h => by cases h⟩ <;> kernel_rfl
noncomputable def Try.ti91 : TI := { desc := .struct [(0, 3), (1, 3), (2, 26)], size := 3, bytes := 40, zero := .agg #[.int .i64 0, .int .i64 0, .slice none 0 0], plain := false }
theorem Try.ti91ok : tiOk Try.prog 91 Try.ti91 := by
  refine ⟨_, _, rfl, ?_, ?_, ?_, Try.underlying91, ?_, fun h => by cases h⟩ <;> kernel_rfl
noncomputable def Try.ti92 : TI := { desc := .struct [(0, 22), (1, 3), (2, 3)], size := 3, bytes := 40, zero := .agg #[.slice none 0 0, .int .i64 0, .int .i64 0], plain := false }
theorem Try.ti92ok : tiOk Try.prog 92 Try.ti92 := by
  refine ⟨_, _, rfl, ?_, ?_, ?_, Try.underlying92, ?_, fun h => by cases h⟩ <;> kernel_rfl
noncomputable def Try.ti93 : TI := { desc := .struct [(0, 22), (1, 3), (2, 3)], size := 3, bytes := 40, zero := .agg #[.slice none 0 0, .int .i64 0, .int .i64 0], plain := false }
theorem Try.ti93ok : tiOk Try.prog 93 Try.ti93 := by
  refine ⟨_, _, rfl, ?_, ?_, ?_, Try.underlying93, ?_, fun h => by cases h⟩ <;> kernel_rfl
noncomputable def Try.ti97 : TI := { desc := .pointer 101, size := 1, bytes := 8, zero := .pointer none, plain := false }
theorem Try.ti97ok : tiOk Try.prog 97 Try.ti97 := by
  refine ⟨_, _, rfl, ?_, ?_, ?_, Try.underlying97, ?_, fun h => by cases h⟩ <;> kernel_rfl
noncomputable def Try.ti98 : TI := { desc := .slice 4, size := 1, bytes := 24, zero := .slice none 0 0, plain := false }
theorem Try.ti98ok : tiOk Try.prog 98 Try.ti98 := by
  refine ⟨_, _, rfl, ?_, ?_, ?_, Try.underlying98, ?_, fun h => by cases h⟩ <;> kernel_rfl
noncomputable def Try.ti99 : TI := { desc := .map 142 3, size := 1, bytes := 8, zero := .map none, plain := false }
theorem Try.ti99ok : tiOk Try.prog 99 Try.ti99 := by
  refine ⟨_, _, rfl, ?_, ?_, ?_, Try.underlying99, ?_, fun h => by cases h⟩ <;> kernel_rfl
noncomputable def Try.ti100 : TI := { desc := .struct [(0, 28), (4, 3), (5, 98), (6, 98), (7, 26), (8, 99)], size := 9, bytes := 168, zero := .agg #[.int .i64 0, .slice none 0 0, .slice none 0 0, .slice none 0 0, .int .i64 0, .slice none 0 0, .slice none 0 0, .slice none 0 0, .map none], plain := false }
theorem Try.ti100ok : tiOk Try.prog 100 Try.ti100 := by
  refine ⟨_, _, rfl, ?_, ?_, ?_, Try.underlying100, ?_, fun h => by cases h⟩ <;> kernel_rfl
noncomputable def Try.ti101 : TI := { desc := .struct [(0, 28), (4, 3), (5, 98), (6, 98), (7, 26), (8, 99)], size := 9, bytes := 168, zero := .agg #[.int .i64 0, .slice none 0 0, .slice none 0 0, .slice none 0 0, .int .i64 0, .slice none 0 0, .slice none 0 0, .slice none 0 0, .map none], plain := false }
theorem Try.ti101ok : tiOk Try.prog 101 Try.ti101 := by
  refine ⟨_, _, rfl, ?_, ?_, ?_, Try.underlying101, ?_, fun h => by cases h⟩ <;> kernel_rfl
noncomputable def Try.ti103 : TI := { desc := .map 108 108, size := 1, bytes := 8, zero := .map none, plain := false }
theorem Try.ti103ok : tiOk Try.prog 103 Try.ti103 := by
  refine ⟨_, _, rfl, ?_, ?_, ?_, Try.underlying103, ?_, fun h => by cases h⟩ <;> kernel_rfl
noncomputable def Try.ti104 : TI := { desc := .pointer 108, size := 1, bytes := 8, zero := .pointer none, plain := false }
theorem Try.ti104ok : tiOk Try.prog 104 Try.ti104 := by
  refine ⟨_, _, rfl, ?_, ?_, ?_, Try.underlying104, ?_, fun h => by cases h⟩ <;> kernel_rfl
noncomputable def Try.ti107 : TI := { desc := .struct [(0, 3), (1, 4)], size := 2, bytes := 16, zero := .agg #[.int .i64 0, .bool false], plain := true }
theorem Try.ti107ok : tiOk Try.prog 107 Try.ti107 := by
  refine ⟨_, _, rfl, ?_, ?_, ?_, Try.underlying107, ?_, fun _ => ⟨by kernel_rfl, by kernel_rfl, by intro f hf; simp at hf; (repeat (first | (rcases hf with rfl | hf; · decide) | (subst hf; decide)))⟩⟩ <;> kernel_rfl
noncomputable def Try.ti108 : TI := { desc := .struct [(0, 3), (1, 4)], size := 2, bytes := 16, zero := .agg #[.int .i64 0, .bool false], plain := true }
theorem Try.ti108ok : tiOk Try.prog 108 Try.ti108 := by
  refine ⟨_, _, rfl, ?_, ?_, ?_, Try.underlying108, ?_, fun _ => ⟨by kernel_rfl, by kernel_rfl, by intro f hf; simp at hf; (repeat (first | (rcases hf with rfl | hf; · decide) | (subst hf; decide)))⟩⟩ <;> kernel_rfl
noncomputable def Try.ti115 : TI := { desc := .struct [(0, 3), (1, 3), (2, 26)], size := 3, bytes := 40, zero := .agg #[.int .i64 0, .int .i64 0, .slice none 0 0], plain := false }
theorem Try.ti115ok : tiOk Try.prog 115 Try.ti115 := by
  refine ⟨_, _, rfl, ?_, ?_, ?_, Try.underlying115, ?_, fun h => by cases h⟩ <;> kernel_rfl
noncomputable def Try.ti119 : TI := { desc := .struct [(0, 3), (1, 3)], size := 2, bytes := 16, zero := .agg #[.int .i64 0, .int .i64 0], plain := true }
theorem Try.ti119ok : tiOk Try.prog 119 Try.ti119 := by
  refine ⟨_, _, rfl, ?_, ?_, ?_, Try.underlying119, ?_, fun _ => ⟨by kernel_rfl, by kernel_rfl, by intro f hf; simp at hf; (repeat (first | (rcases hf with rfl | hf; · decide) | (subst hf; decide)))⟩⟩ <;> kernel_rfl
noncomputable def Try.ti127 : TI := { desc := .slice 9, size := 1, bytes := 24, zero := .slice none 0 0, plain := false }
theorem Try.ti127ok : tiOk Try.prog 127 Try.ti127 := by
  refine ⟨_, _, rfl, ?_, ?_, ?_, Try.underlying127, ?_, fun h => by cases h⟩ <;> kernel_rfl
noncomputable def Try.ti139 : TI := { desc := .int .u64, size := 1, bytes := 8, zero := .int .u64 0, plain := false }
theorem Try.ti139ok : tiOk Try.prog 139 Try.ti139 := by
  refine ⟨_, _, rfl, ?_, ?_, ?_, Try.underlying139, ?_, fun h => by cases h⟩ <;> kernel_rfl
noncomputable def Try.ti140 : TI := { desc := .slice 108, size := 1, bytes := 24, zero := .slice none 0 0, plain := false }
theorem Try.ti140ok : tiOk Try.prog 140 Try.ti140 := by
  refine ⟨_, _, rfl, ?_, ?_, ?_, Try.underlying140, ?_, fun h => by cases h⟩ <;> kernel_rfl
noncomputable def Try.ti142 : TI := { desc := .array 2 3, size := 2, bytes := 16, zero := .agg #[.int .i64 0, .int .i64 0], plain := false }
theorem Try.ti142ok : tiOk Try.prog 142 Try.ti142 := by
  refine ⟨_, _, rfl, ?_, ?_, ?_, Try.underlying142, ?_, fun h => by cases h⟩ <;> kernel_rfl
noncomputable def Try.ti146 : TI := { desc := .slice 22, size := 1, bytes := 24, zero := .slice none 0 0, plain := false }
theorem Try.ti146ok : tiOk Try.prog 146 Try.ti146 := by
  refine ⟨_, _, rfl, ?_, ?_, ?_, Try.underlying146, ?_, fun h => by cases h⟩ <;> kernel_rfl
noncomputable def Try.ti150 : TI := { desc := .slice 98, size := 1, bytes := 24, zero := .slice none 0 0, plain := false }
theorem Try.ti150ok : tiOk Try.prog 150 Try.ti150 := by
  refine ⟨_, _, rfl, ?_, ?_, ?_, Try.underlying150, ?_, fun h => by cases h⟩ <;> kernel_rfl
noncomputable def Try.ti159 : TI := { desc := .int .u32, size := 1, bytes := 4, zero := .int .u32 0, plain := false }
theorem Try.ti159ok : tiOk Try.prog 159 Try.ti159 := by
  refine ⟨_, _, rfl, ?_, ?_, ?_, Try.underlying159, ?_, fun h => by cases h⟩ <;> kernel_rfl
noncomputable def Try.ti163 : TI := { desc := .pointer 5, size := 1, bytes := 8, zero := .pointer none, plain := false }
theorem Try.ti163ok : tiOk Try.prog 163 Try.ti163 := by
  refine ⟨_, _, rfl, ?_, ?_, ?_, Try.underlying163, ?_, fun h => by cases h⟩ <;> kernel_rfl
noncomputable def Try.tt : TT := [(3, Try.ti3), (26, Try.ti26), (4, Try.ti4), (2, Try.ti2), (5, Try.ti5), (9, Try.ti9), (12, Try.ti12), (21, Try.ti21), (22, Try.ti22), (24, Try.ti24), (25, Try.ti25), (27, Try.ti27), (28, Try.ti28), (37, Try.ti37), (39, Try.ti39), (40, Try.ti40), (41, Try.ti41), (42, Try.ti42), (61, Try.ti61), (70, Try.ti70), (78, Try.ti78), (79, Try.ti79), (86, Try.ti86), (90, Try.ti90), (91, Try.ti91), (92, Try.ti92), (93, Try.ti93), (97, Try.ti97), (98, Try.ti98), (99, Try.ti99), (100, Try.ti100), (101, Try.ti101), (103, Try.ti103), (104, Try.ti104), (107, Try.ti107), (108, Try.ti108), (115, Try.ti115), (119, Try.ti119), (127, Try.ti127), (139, Try.ti139), (140, Try.ti140), (142, Try.ti142), (146, Try.ti146), (150, Try.ti150), (159, Try.ti159), (163, Try.ti163)]
theorem Try.ttOk : TTok Try.prog Try.tt := ⟨Try.ti3ok, Try.ti26ok, Try.ti4ok, Try.ti2ok, Try.ti5ok, Try.ti9ok, Try.ti12ok, Try.ti21ok, Try.ti22ok, Try.ti24ok, Try.ti25ok, Try.ti27ok, Try.ti28ok, Try.ti37ok, Try.ti39ok, Try.ti40ok, Try.ti41ok, Try.ti42ok, Try.ti61ok, Try.ti70ok, Try.ti78ok, Try.ti79ok, Try.ti86ok, Try.ti90ok, Try.ti91ok, Try.ti92ok, Try.ti93ok, Try.ti97ok, Try.ti98ok, Try.ti99ok, Try.ti100ok, Try.ti101ok, Try.ti103ok, Try.ti104ok, Try.ti107ok, Try.ti108ok, Try.ti115ok, Try.ti119ok, Try.ti127ok, Try.ti139ok, Try.ti140ok, Try.ti142ok, Try.ti146ok, Try.ti150ok, Try.ti159ok, Try.ti163ok, trivial⟩
noncomputable def Try.S3 : Setting := { P := Try.prog, tt := Try.tt, f := 3, fn := Try.f3, live := [0, 2, 3, 4, 5, 6, 7, 8, 9], res := [.tmp 2] }
instance Try.S3ok : Try.S3.Ok := ⟨Try.ttOk, Try.func3, rfl⟩
noncomputable def Try.S4 : Setting := { P := Try.prog, tt := Try.tt, f := 4, fn := Try.f4, live := [0, 1, 2, 4, 5, 6, 7, 8, 9], res := [.tmp 4] }
instance Try.S4ok : Try.S4.Ok := ⟨Try.ttOk, Try.func4, rfl⟩
noncomputable def Try.S5 : Setting := { P := Try.prog, tt := Try.tt, f := 5, fn := Try.f5, live := [0, 1, 2, 3, 4, 5, 6, 7, 8, 9, 10], res := [.tmp 2] }
instance Try.S5ok : Try.S5.Ok := ⟨Try.ttOk, Try.func5, rfl⟩
noncomputable def Try.S6 : Setting := { P := Try.prog, tt := Try.tt, f := 6, fn := Try.f6, live := [0, 1, 2, 4, 5, 6, 7, 8, 9, 10, 11, 12], res := [.tmp 4] }
instance Try.S6ok : Try.S6.Ok := ⟨Try.ttOk, Try.func6, rfl⟩
noncomputable def Try.S7 : Setting := { P := Try.prog, tt := Try.tt, f := 7, fn := Try.f7, live := [0, 1, 2, 3, 6, 7, 8, 9, 10, 11, 12, 13, 14, 15, 16, 17], res := [.tmp 6] }
instance Try.S7ok : Try.S7.Ok := ⟨Try.ttOk, Try.func7, rfl⟩
noncomputable def Try.S8 : Setting := { P := Try.prog, tt := Try.tt, f := 8, fn := Try.f8, live := [0, 2, 3, 5, 6, 7], res := [.tmp 2] }
instance Try.S8ok : Try.S8.Ok := ⟨Try.ttOk, Try.func8, rfl⟩
noncomputable def Try.S9 : Setting := { P := Try.prog, tt := Try.tt, f := 9, fn := Try.f9, live := [0, 1, 2, 3, 4, 5, 6, 7, 8, 9, 10], res := [.tmp 2] }
instance Try.S9ok : Try.S9.Ok := ⟨Try.ttOk, Try.func9, rfl⟩
noncomputable def Try.S10 : Setting := { P := Try.prog, tt := Try.tt, f := 10, fn := Try.f10, live := [0, 2], res := [.tmp 2] }
instance Try.S10ok : Try.S10.Ok := ⟨Try.ttOk, Try.func10, rfl⟩
noncomputable def Try.S11 : Setting := { P := Try.prog, tt := Try.tt, f := 11, fn := Try.f11, live := [0, 2, 3, 4, 5], res := [.cell 2 28, .tmp 3] }
instance Try.S11ok : Try.S11.Ok := ⟨Try.ttOk, Try.func11, rfl⟩
noncomputable def Try.S12 : Setting := { P := Try.prog, tt := Try.tt, f := 12, fn := Try.f12, live := [0, 1, 2], res := [.tmp 2] }
instance Try.S12ok : Try.S12.Ok := ⟨Try.ttOk, Try.func12, rfl⟩
noncomputable def Try.S13 : Setting := { P := Try.prog, tt := Try.tt, f := 13, fn := Try.f13, live := [0, 1, 2], res := [.tmp 2] }
instance Try.S13ok : Try.S13.Ok := ⟨Try.ttOk, Try.func13, rfl⟩
noncomputable def Try.S14 : Setting := { P := Try.prog, tt := Try.tt, f := 14, fn := Try.f14, live := [0, 1, 2, 4, 5, 6], res := [.tmp 4] }
instance Try.S14ok : Try.S14.Ok := ⟨Try.ttOk, Try.func14, rfl⟩
noncomputable def Try.S15 : Setting := { P := Try.prog, tt := Try.tt, f := 15, fn := Try.f15, live := [0, 1, 2, 3, 6], res := [.tmp 6] }
instance Try.S15ok : Try.S15.Ok := ⟨Try.ttOk, Try.func15, rfl⟩
noncomputable def Try.S16 : Setting := { P := Try.prog, tt := Try.tt, f := 16, fn := Try.f16, live := [0, 1, 4, 5], res := [.tmp 4] }
instance Try.S16ok : Try.S16.Ok := ⟨Try.ttOk, Try.func16, rfl⟩
noncomputable def Try.S17 : Setting := { P := Try.prog, tt := Try.tt, f := 17, fn := Try.f17, live := [0, 1, 2, 4, 5, 6, 8, 14, 15, 16], res := [.tmp 4] }
instance Try.S17ok : Try.S17.Ok := ⟨Try.ttOk, Try.func17, rfl⟩
noncomputable def Try.S18 : Setting := { P := Try.prog, tt := Try.tt, f := 18, fn := Try.f18, live := [0, 1, 2, 4], res := [.tmp 4] }
instance Try.S18ok : Try.S18.Ok := ⟨Try.ttOk, Try.func18, rfl⟩
noncomputable def Try.S19 : Setting := { P := Try.prog, tt := Try.tt, f := 19, fn := Try.f19, live := [0, 1, 2, 4], res := [.tmp 4] }
instance Try.S19ok : Try.S19.Ok := ⟨Try.ttOk, Try.func19, rfl⟩
noncomputable def Try.S20 : Setting := { P := Try.prog, tt := Try.tt, f := 20, fn := Try.f20, live := [0, 1, 2, 4, 5, 6, 7], res := [.tmp 4] }
instance Try.S20ok : Try.S20.Ok := ⟨Try.ttOk, Try.func20, rfl⟩
noncomputable def Try.S21 : Setting := { P := Try.prog, tt := Try.tt, f := 21, fn := Try.f21, live := [0, 1, 2, 3], res := [.cell 2 28] }
instance Try.S21ok : Try.S21.Ok := ⟨Try.ttOk, Try.func21, rfl⟩
noncomputable def Try.S22 : Setting := { P := Try.prog, tt := Try.tt, f := 22, fn := Try.f22, live := [0, 2, 3, 4], res := [.tmp 2] }
instance Try.S22ok : Try.S22.Ok := ⟨Try.ttOk, Try.func22, rfl⟩
noncomputable def Try.S23 : Setting := { P := Try.prog, tt := Try.tt, f := 23, fn := Try.f23, live := [0, 1, 2, 3, 4], res := [.tmp 4] }
instance Try.S23ok : Try.S23.Ok := ⟨Try.ttOk, Try.func23, rfl⟩
noncomputable def Try.S24 : Setting := { P := Try.prog, tt := Try.tt, f := 24, fn := Try.f24, live := [0, 1, 4, 5], res := [.tmp 4] }
instance Try.S24ok : Try.S24.Ok := ⟨Try.ttOk, Try.func24, rfl⟩
noncomputable def Try.S25 : Setting := { P := Try.prog, tt := Try.tt, f := 25, fn := Try.f25, live := [0, 1, 2, 3, 4, 5, 6, 8], res := [.tmp 2] }
instance Try.S25ok : Try.S25.Ok := ⟨Try.ttOk, Try.func25, rfl⟩
noncomputable def Try.S26 : Setting := { P := Try.prog, tt := Try.tt, f := 26, fn := Try.f26, live := [0, 1, 2, 4], res := [.tmp 4] }
instance Try.S26ok : Try.S26.Ok := ⟨Try.ttOk, Try.func26, rfl⟩
noncomputable def Try.S27 : Setting := { P := Try.prog, tt := Try.tt, f := 27, fn := Try.f27, live := [0, 1, 4, 5], res := [.tmp 4] }
instance Try.S27ok : Try.S27.Ok := ⟨Try.ttOk, Try.func27, rfl⟩
noncomputable def Try.S28 : Setting := { P := Try.prog, tt := Try.tt, f := 28, fn := Try.f28, live := [0, 1, 4, 5], res := [.tmp 4] }
instance Try.S28ok : Try.S28.Ok := ⟨Try.ttOk, Try.func28, rfl⟩
noncomputable def Try.S29 : Setting := { P := Try.prog, tt := Try.tt, f := 29, fn := Try.f29, live := [0, 1, 2, 4, 5, 6], res := [.tmp 4] }
instance Try.S29ok : Try.S29.Ok := ⟨Try.ttOk, Try.func29, rfl⟩
noncomputable def Try.S30 : Setting := { P := Try.prog, tt := Try.tt, f := 30, fn := Try.f30, live := [0, 1, 2, 3, 6, 7, 8, 9], res := [.tmp 6, .tmp 7] }
instance Try.S30ok : Try.S30.Ok := ⟨Try.ttOk, Try.func30, rfl⟩
noncomputable def Try.S31 : Setting := { P := Try.prog, tt := Try.tt, f := 31, fn := Try.f31, live := [0, 1, 2, 3, 6, 7, 8, 9], res := [.tmp 6, .tmp 7] }
instance Try.S31ok : Try.S31.Ok := ⟨Try.ttOk, Try.func31, rfl⟩
noncomputable def Try.S32 : Setting := { P := Try.prog, tt := Try.tt, f := 32, fn := Try.f32, live := [0, 2, 3, 4, 5, 6], res := [.cell 2 28, .tmp 3] }
instance Try.S32ok : Try.S32.Ok := ⟨Try.ttOk, Try.func32, rfl⟩
noncomputable def Try.S33 : Setting := { P := Try.prog, tt := Try.tt, f := 33, fn := Try.f33, live := [0, 2, 3], res := [.tmp 2] }
instance Try.S33ok : Try.S33.Ok := ⟨Try.ttOk, Try.func33, rfl⟩
noncomputable def Try.S34 : Setting := { P := Try.prog, tt := Try.tt, f := 34, fn := Try.f34, live := [0, 1, 2, 3, 4, 5, 6, 7, 9, 18, 19, 29, 30, 31, 51, 52, 53], res := [.cell 2 28] }
instance Try.S34ok : Try.S34.Ok := ⟨Try.ttOk, Try.func34, rfl⟩
noncomputable def Try.S35 : Setting := { P := Try.prog, tt := Try.tt, f := 35, fn := Try.f35, live := [0, 1, 4, 5], res := [.tmp 4] }
instance Try.S35ok : Try.S35.Ok := ⟨Try.ttOk, Try.func35, rfl⟩
noncomputable def Try.S36 : Setting := { P := Try.prog, tt := Try.tt, f := 36, fn := Try.f36, live := [0, 1, 2, 4, 5, 6, 8, 9, 10, 21, 22, 23], res := [.tmp 4] }
instance Try.S36ok : Try.S36.Ok := ⟨Try.ttOk, Try.func36, rfl⟩
noncomputable def Try.S37 : Setting := { P := Try.prog, tt := Try.tt, f := 37, fn := Try.f37, live := [0, 1, 2, 4, 5, 6, 7, 8, 9], res := [.tmp 4] }
instance Try.S37ok : Try.S37.Ok := ⟨Try.ttOk, Try.func37, rfl⟩
noncomputable def Try.S38 : Setting := { P := Try.prog, tt := Try.tt, f := 38, fn := Try.f38, live := [0, 1, 2, 3, 4, 5, 6, 7, 8, 9, 10], res := [.cell 2 28] }
instance Try.S38ok : Try.S38.Ok := ⟨Try.ttOk, Try.func38, rfl⟩
noncomputable def Try.S39 : Setting := { P := Try.prog, tt := Try.tt, f := 39, fn := Try.f39, live := [0, 1, 2, 4], res := [.tmp 4] }
instance Try.S39ok : Try.S39.Ok := ⟨Try.ttOk, Try.func39, rfl⟩
noncomputable def Try.S40 : Setting := { P := Try.prog, tt := Try.tt, f := 40, fn := Try.f40, live := [0, 2, 3, 4], res := [.tmp 2] }
instance Try.S40ok : Try.S40.Ok := ⟨Try.ttOk, Try.func40, rfl⟩
noncomputable def Try.S41 : Setting := { P := Try.prog, tt := Try.tt, f := 41, fn := Try.f41, live := [0, 2], res := [.cell 2 28] }
instance Try.S41ok : Try.S41.Ok := ⟨Try.ttOk, Try.func41, rfl⟩
noncomputable def Try.S42 : Setting := { P := Try.prog, tt := Try.tt, f := 42, fn := Try.f42, live := [0, 1, 4, 5, 6, 7, 8], res := [.tmp 4] }
instance Try.S42ok : Try.S42.Ok := ⟨Try.ttOk, Try.func42, rfl⟩
noncomputable def Try.S43 : Setting := { P := Try.prog, tt := Try.tt, f := 43, fn := Try.f43, live := [0, 1, 2, 3, 5, 7, 8, 9, 10, 16, 17, 18, 27, 28, 29, 41, 42, 43], res := [.tmp 2] }
instance Try.S43ok : Try.S43.Ok := ⟨Try.ttOk, Try.func43, rfl⟩
noncomputable def Try.S44 : Setting := { P := Try.prog, tt := Try.tt, f := 44, fn := Try.f44, live := [0, 1, 2, 3, 4, 5, 7, 9, 23, 24, 25], res := [.tmp 2] }
instance Try.S44ok : Try.S44.Ok := ⟨Try.ttOk, Try.func44, rfl⟩
noncomputable def Try.S45 : Setting := { P := Try.prog, tt := Try.tt, f := 45, fn := Try.f45, live := [0, 1, 2, 6], res := [.tmp 6] }
instance Try.S45ok : Try.S45.Ok := ⟨Try.ttOk, Try.func45, rfl⟩
noncomputable def Try.S46 : Setting := { P := Try.prog, tt := Try.tt, f := 46, fn := Try.f46, live := [0, 1, 2, 4], res := [.tmp 4] }
instance Try.S46ok : Try.S46.Ok := ⟨Try.ttOk, Try.func46, rfl⟩
noncomputable def Try.S47 : Setting := { P := Try.prog, tt := Try.tt, f := 47, fn := Try.f47, live := [0, 1, 2, 3, 4, 8, 9, 10, 11, 12, 13, 14, 15, 16, 18, 20, 46, 47, 90, 91], res := [.tmp 8, .tmp 9] }
instance Try.S47ok : Try.S47.Ok := ⟨Try.ttOk, Try.func47, rfl⟩
noncomputable def Try.S48 : Setting := { P := Try.prog, tt := Try.tt, f := 48, fn := Try.f48, live := [0, 1, 2, 6], res := [.tmp 6] }
instance Try.S48ok : Try.S48.Ok := ⟨Try.ttOk, Try.func48, rfl⟩
noncomputable def Try.S49 : Setting := { P := Try.prog, tt := Try.tt, f := 49, fn := Try.f49, live := [0, 1, 2], res := [.tmp 2] }
instance Try.S49ok : Try.S49.Ok := ⟨Try.ttOk, Try.func49, rfl⟩
noncomputable def Try.S50 : Setting := { P := Try.prog, tt := Try.tt, f := 50, fn := Try.f50, live := [0, 1, 2, 3, 6, 7, 9, 21, 22, 23], res := [.tmp 6] }
instance Try.S50ok : Try.S50.Ok := ⟨Try.ttOk, Try.func50, rfl⟩
noncomputable def Try.S51 : Setting := { P := Try.prog, tt := Try.tt, f := 51, fn := Try.f51, live := [0, 2, 3, 5, 6, 7, 8], res := [.tmp 2] }
instance Try.S51ok : Try.S51.Ok := ⟨Try.ttOk, Try.func51, rfl⟩
noncomputable def Try.S52 : Setting := { P := Try.prog, tt := Try.tt, f := 52, fn := Try.f52, live := [0, 1, 2, 4, 5, 6, 7, 8], res := [.tmp 4] }
instance Try.S52ok : Try.S52.Ok := ⟨Try.ttOk, Try.func52, rfl⟩
noncomputable def Try.S53 : Setting := { P := Try.prog, tt := Try.tt, f := 53, fn := Try.f53, live := [0, 1, 4, 5], res := [.tmp 4] }
instance Try.S53ok : Try.S53.Ok := ⟨Try.ttOk, Try.func53, rfl⟩
noncomputable def Try.S54 : Setting := { P := Try.prog, tt := Try.tt, f := 54, fn := Try.f54, live := [0, 1, 4], res := [.tmp 4] }
instance Try.S54ok : Try.S54.Ok := ⟨Try.ttOk, Try.func54, rfl⟩
noncomputable def Try.S55 : Setting := { P := Try.prog, tt := Try.tt, f := 55, fn := Try.f55, live := [0, 1, 4], res := [.tmp 4] }
instance Try.S55ok : Try.S55.Ok := ⟨Try.ttOk, Try.func55, rfl⟩
noncomputable def Try.S56 : Setting := { P := Try.prog, tt := Try.tt, f := 56, fn := Try.f56, live := [0, 1, 2, 3, 4, 5, 6, 7, 8], res := [.tmp 2] }
instance Try.S56ok : Try.S56.Ok := ⟨Try.ttOk, Try.func56, rfl⟩
noncomputable def Try.S57 : Setting := { P := Try.prog, tt := Try.tt, f := 57, fn := Try.f57, live := [0, 2, 3, 4], res := [.tmp 2] }
instance Try.S57ok : Try.S57.Ok := ⟨Try.ttOk, Try.func57, rfl⟩
noncomputable def Try.S58 : Setting := { P := Try.prog, tt := Try.tt, f := 58, fn := Try.f58, live := [0, 2, 3, 4], res := [.tmp 2] }
instance Try.S58ok : Try.S58.Ok := ⟨Try.ttOk, Try.func58, rfl⟩
noncomputable def Try.S59 : Setting := { P := Try.prog, tt := Try.tt, f := 59, fn := Try.f59, live := [0, 1, 4, 5], res := [.tmp 4] }
instance Try.S59ok : Try.S59.Ok := ⟨Try.ttOk, Try.func59, rfl⟩
noncomputable def Try.S60 : Setting := { P := Try.prog, tt := Try.tt, f := 60, fn := Try.f60, live := [0, 1, 4, 5], res := [.tmp 4] }
instance Try.S60ok : Try.S60.Ok := ⟨Try.ttOk, Try.func60, rfl⟩
noncomputable def Try.S61 : Setting := { P := Try.prog, tt := Try.tt, f := 61, fn := Try.f61, live := [0, 1, 2], res := [.tmp 2] }
instance Try.S61ok : Try.S61.Ok := ⟨Try.ttOk, Try.func61, rfl⟩
noncomputable def Try.S62 : Setting := { P := Try.prog, tt := Try.tt, f := 62, fn := Try.f62, live := [0, 1, 2, 3, 4, 8, 9, 10, 11, 12, 13, 14, 15, 16, 17, 18, 19, 20, 21, 22], res := [.tmp 8, .tmp 9] }
instance Try.S62ok : Try.S62.Ok := ⟨Try.ttOk, Try.func62, rfl⟩
noncomputable def Try.S63 : Setting := { P := Try.prog, tt := Try.tt, f := 63, fn := Try.f63, live := [0, 1, 4, 5], res := [.tmp 4] }
instance Try.S63ok : Try.S63.Ok := ⟨Try.ttOk, Try.func63, rfl⟩
noncomputable def Try.S64 : Setting := { P := Try.prog, tt := Try.tt, f := 64, fn := Try.f64, live := [0, 1, 4, 5], res := [.tmp 4] }
instance Try.S64ok : Try.S64.Ok := ⟨Try.ttOk, Try.func64, rfl⟩
noncomputable def Try.S65 : Setting := { P := Try.prog, tt := Try.tt, f := 65, fn := Try.f65, live := [0, 2, 3, 4], res := [.cell 2 28] }
instance Try.S65ok : Try.S65.Ok := ⟨Try.ttOk, Try.func65, rfl⟩
noncomputable def Try.S66 : Setting := { P := Try.prog, tt := Try.tt, f := 66, fn := Try.f66, live := [0, 1, 3, 4, 5, 6, 7], res := [.tmp 4] }
instance Try.S66ok : Try.S66.Ok := ⟨Try.ttOk, Try.func66, rfl⟩
noncomputable def Try.S67 : Setting := { P := Try.prog, tt := Try.tt, f := 67, fn := Try.f67, live := [0, 1, 4, 5, 6, 7], res := [.tmp 4] }
instance Try.S67ok : Try.S67.Ok := ⟨Try.ttOk, Try.func67, rfl⟩
noncomputable def Try.S68 : Setting := { P := Try.prog, tt := Try.tt, f := 68, fn := Try.f68, live := [0, 1, 2, 3, 4, 5, 6, 7, 8, 10, 11, 12], res := [.tmp 2] }
instance Try.S68ok : Try.S68.Ok := ⟨Try.ttOk, Try.func68, rfl⟩
noncomputable def Try.S69 : Setting := { P := Try.prog, tt := Try.tt, f := 69, fn := Try.f69, live := [0, 1, 2], res := [.tmp 2] }
instance Try.S69ok : Try.S69.Ok := ⟨Try.ttOk, Try.func69, rfl⟩
noncomputable def Try.S70 : Setting := { P := Try.prog, tt := Try.tt, f := 70, fn := Try.f70, live := [0, 1, 2, 3, 5, 10, 11, 12], res := [.cell 2 28] }
instance Try.S70ok : Try.S70.Ok := ⟨Try.ttOk, Try.func70, rfl⟩
noncomputable def Try.S71 : Setting := { P := Try.prog, tt := Try.tt, f := 71, fn := Try.f71, live := [0, 1, 4], res := [.tmp 4] }
instance Try.S71ok : Try.S71.Ok := ⟨Try.ttOk, Try.func71, rfl⟩
noncomputable def Try.S72 : Setting := { P := Try.prog, tt := Try.tt, f := 72, fn := Try.f72, live := [0, 1, 2, 4, 6, 7, 9, 10, 11], res := [] }
instance Try.S72ok : Try.S72.Ok := ⟨Try.ttOk, Try.func72, rfl⟩
noncomputable def Try.S73 : Setting := { P := Try.prog, tt := Try.tt, f := 73, fn := Try.f73, live := [0, 1, 2, 3, 4, 5, 6, 7, 8, 9, 10, 11, 12, 13, 14, 35, 36, 37, 79, 80, 81, 116, 117, 118], res := [.cell 2 28] }
instance Try.S73ok : Try.S73.Ok := ⟨Try.ttOk, Try.func73, rfl⟩
noncomputable def Try.S74 : Setting := { P := Try.prog, tt := Try.tt, f := 74, fn := Try.f74, live := [0, 1, 2, 3, 4, 5, 6, 12, 13, 14], res := [.cell 2 28] }
instance Try.S74ok : Try.S74.Ok := ⟨Try.ttOk, Try.func74, rfl⟩
noncomputable def Try.S75 : Setting := { P := Try.prog, tt := Try.tt, f := 75, fn := Try.f75, live := [0, 1, 2, 3, 5, 7, 8, 9], res := [.tmp 2] }
instance Try.S75ok : Try.S75.Ok := ⟨Try.ttOk, Try.func75, rfl⟩
noncomputable def Try.S76 : Setting := { P := Try.prog, tt := Try.tt, f := 76, fn := Try.f76, live := [0, 1, 2, 3, 6, 7, 8, 9, 10, 11, 17, 18, 19], res := [.tmp 6, .tmp 7] }
instance Try.S76ok : Try.S76.Ok := ⟨Try.ttOk, Try.func76, rfl⟩
noncomputable def Try.S77 : Setting := { P := Try.prog, tt := Try.tt, f := 77, fn := Try.f77, live := [0, 1, 2, 3, 4], res := [.tmp 2] }
instance Try.S77ok : Try.S77.Ok := ⟨Try.ttOk, Try.func77, rfl⟩
noncomputable def Try.S78 : Setting := { P := Try.prog, tt := Try.tt, f := 78, fn := Try.f78, live := [0, 1, 2, 3, 6, 7, 8, 9, 10], res := [.tmp 6, .tmp 7] }
instance Try.S78ok : Try.S78.Ok := ⟨Try.ttOk, Try.func78, rfl⟩
noncomputable def Try.S79 : Setting := { P := Try.prog, tt := Try.tt, f := 79, fn := Try.f79, live := [0, 1, 2, 3, 4, 5, 6, 7, 8], res := [.tmp 2] }
instance Try.S79ok : Try.S79.Ok := ⟨Try.ttOk, Try.func79, rfl⟩
noncomputable def Try.S80 : Setting := { P := Try.prog, tt := Try.tt, f := 80, fn := Try.f80, live := [0, 1, 2], res := [.cell 2 28] }
instance Try.S80ok : Try.S80.Ok := ⟨Try.ttOk, Try.func80, rfl⟩
noncomputable def Try.S81 : Setting := { P := Try.prog, tt := Try.tt, f := 81, fn := Try.f81, live := [0, 1, 4, 5, 6], res := [.tmp 4] }
instance Try.S81ok : Try.S81.Ok := ⟨Try.ttOk, Try.func81, rfl⟩
noncomputable def Try.S82 : Setting := { P := Try.prog, tt := Try.tt, f := 82, fn := Try.f82, live := [0, 1, 2, 3, 4, 5, 6, 7, 8, 9, 10], res := [.cell 2 28] }
instance Try.S82ok : Try.S82.Ok := ⟨Try.ttOk, Try.func82, rfl⟩
noncomputable def Try.S83 : Setting := { P := Try.prog, tt := Try.tt, f := 83, fn := Try.f83, live := [0, 1, 2, 3, 4, 5, 6, 7], res := [.cell 2 28] }
instance Try.S83ok : Try.S83.Ok := ⟨Try.ttOk, Try.func83, rfl⟩
noncomputable def Try.S84 : Setting := { P := Try.prog, tt := Try.tt, f := 84, fn := Try.f84, live := [0, 1, 4, 5], res := [.tmp 4] }
instance Try.S84ok : Try.S84.Ok := ⟨Try.ttOk, Try.func84, rfl⟩
noncomputable def Try.S85 : Setting := { P := Try.prog, tt := Try.tt, f := 85, fn := Try.f85, live := [0, 1, 4, 5], res := [.tmp 4] }
instance Try.S85ok : Try.S85.Ok := ⟨Try.ttOk, Try.func85, rfl⟩
noncomputable def Try.S86 : Setting := { P := Try.prog, tt := Try.tt, f := 86, fn := Try.f86, live := [0, 1, 2, 3, 8, 9, 10, 11, 12, 13, 14, 15, 16, 17, 18], res := [.cell 8 28] }
instance Try.S86ok : Try.S86.Ok := ⟨Try.ttOk, Try.func86, rfl⟩
noncomputable def Try.S87 : Setting := { P := Try.prog, tt := Try.tt, f := 87, fn := Try.f87, live := [0, 2, 3], res := [.tmp 2] }
instance Try.S87ok : Try.S87.Ok := ⟨Try.ttOk, Try.func87, rfl⟩
noncomputable def Try.S88 : Setting := { P := Try.prog, tt := Try.tt, f := 88, fn := Try.f88, live := [0, 1, 2], res := [.tmp 2] }
instance Try.S88ok : Try.S88.Ok := ⟨Try.ttOk, Try.func88, rfl⟩
noncomputable def Try.S89 : Setting := { P := Try.prog, tt := Try.tt, f := 89, fn := Try.f89, live := [0, 1, 2, 4], res := [.tmp 2] }
instance Try.S89ok : Try.S89.Ok := ⟨Try.ttOk, Try.func89, rfl⟩
noncomputable def Try.S90 : Setting := { P := Try.prog, tt := Try.tt, f := 90, fn := Try.f90, live := [0, 1, 2, 3, 5, 10, 11, 12], res := [.tmp 2] }
instance Try.S90ok : Try.S90.Ok := ⟨Try.ttOk, Try.func90, rfl⟩
noncomputable def Try.S91 : Setting := { P := Try.prog, tt := Try.tt, f := 91, fn := Try.f91, live := [0, 1, 2], res := [.tmp 2] }
instance Try.S91ok : Try.S91.Ok := ⟨Try.ttOk, Try.func91, rfl⟩
noncomputable def Try.S92 : Setting := { P := Try.prog, tt := Try.tt, f := 92, fn := Try.f92, live := [0, 1, 2, 4, 5], res := [.tmp 4] }
instance Try.S92ok : Try.S92.Ok := ⟨Try.ttOk, Try.func92, rfl⟩
noncomputable def Try.S93 : Setting := { P := Try.prog, tt := Try.tt, f := 93, fn := Try.f93, live := [0, 1, 2, 3, 6], res := [] }
instance Try.S93ok : Try.S93.Ok := ⟨Try.ttOk, Try.func93, rfl⟩
noncomputable def Try.S94 : Setting := { P := Try.prog, tt := Try.tt, f := 94, fn := Try.f94, live := [0, 2, 3, 4, 5, 6, 7, 8, 9, 10, 12, 63, 64, 94, 95, 96], res := [.tmp 2, .tmp 3] }
instance Try.S94ok : Try.S94.Ok := ⟨Try.ttOk, Try.func94, rfl⟩
noncomputable def Try.S95 : Setting := { P := Try.prog, tt := Try.tt, f := 95, fn := Try.f95, live := [0, 1, 2, 5, 6, 7, 81], res := [] }
instance Try.S95ok : Try.S95.Ok := ⟨Try.ttOk, Try.func95, rfl⟩
noncomputable def Try.S96 : Setting := { P := Try.prog, tt := Try.tt, f := 96, fn := Try.f96, live := [0, 2, 3], res := [.tmp 2] }
instance Try.S96ok : Try.S96.Ok := ⟨Try.ttOk, Try.func96, rfl⟩
noncomputable def Try.S97 : Setting := { P := Try.prog, tt := Try.tt, f := 97, fn := Try.f97, live := [0, 1, 2, 4, 5], res := [.tmp 4] }
instance Try.S97ok : Try.S97.Ok := ⟨Try.ttOk, Try.func97, rfl⟩
noncomputable def Try.S98 : Setting := { P := Try.prog, tt := Try.tt, f := 98, fn := Try.f98, live := [0, 1, 4, 6, 7, 8, 9], res := [.tmp 4] }
instance Try.S98ok : Try.S98.Ok := ⟨Try.ttOk, Try.func98, rfl⟩
noncomputable def Try.S99 : Setting := { P := Try.prog, tt := Try.tt, f := 99, fn := Try.f99, live := [0, 1, 2, 3, 4, 8, 9], res := [.tmp 8] }
instance Try.S99ok : Try.S99.Ok := ⟨Try.ttOk, Try.func99, rfl⟩
noncomputable def Try.S100 : Setting := { P := Try.prog, tt := Try.tt, f := 100, fn := Try.f100, live := [0, 2], res := [.tmp 2] }
instance Try.S100ok : Try.S100.Ok := ⟨Try.ttOk, Try.func100, rfl⟩
noncomputable def Try.S101 : Setting := { P := Try.prog, tt := Try.tt, f := 101, fn := Try.f101, live := [0, 1, 4, 5, 7, 9, 10, 11, 12, 13, 15, 16, 18, 19, 20, 21, 25, 26, 27, 82, 83, 84, 88, 89, 90], res := [.tmp 4] }
instance Try.S101ok : Try.S101.Ok := ⟨Try.ttOk, Try.func101, rfl⟩
noncomputable def Try.S102 : Setting := { P := Try.prog, tt := Try.tt, f := 102, fn := Try.f102, live := [0, 1, 2, 4], res := [.tmp 4] }
instance Try.S102ok : Try.S102.Ok := ⟨Try.ttOk, Try.func102, rfl⟩
noncomputable def Try.S103 : Setting := { P := Try.prog, tt := Try.tt, f := 103, fn := Try.f103, live := [0, 1, 2, 3, 4], res := [.tmp 2] }
instance Try.S103ok : Try.S103.Ok := ⟨Try.ttOk, Try.func103, rfl⟩
noncomputable def Try.S104 : Setting := { P := Try.prog, tt := Try.tt, f := 104, fn := Try.f104, live := [0, 1, 4], res := [.tmp 4] }
instance Try.S104ok : Try.S104.Ok := ⟨Try.ttOk, Try.func104, rfl⟩
noncomputable def Try.S105 : Setting := { P := Try.prog, tt := Try.tt, f := 105, fn := Try.f105, live := [0, 1, 2, 3], res := [.cell 2 91] }
instance Try.S105ok : Try.S105.Ok := ⟨Try.ttOk, Try.func105, rfl⟩
noncomputable def Try.S106 : Setting := { P := Try.prog, tt := Try.tt, f := 106, fn := Try.f106, live := [0, 1, 2, 3], res := [.cell 2 79] }
instance Try.S106ok : Try.S106.Ok := ⟨Try.ttOk, Try.func106, rfl⟩
noncomputable def Try.S107 : Setting := { P := Try.prog, tt := Try.tt, f := 107, fn := Try.f107, live := [0, 1, 2, 3, 4], res := [.tmp 4] }
instance Try.S107ok : Try.S107.Ok := ⟨Try.ttOk, Try.func107, rfl⟩
noncomputable def Try.S108 : Setting := { P := Try.prog, tt := Try.tt, f := 108, fn := Try.f108, live := [0, 1, 2, 3, 4], res := [.tmp 4] }
instance Try.S108ok : Try.S108.Ok := ⟨Try.ttOk, Try.func108, rfl⟩
noncomputable def Try.S109 : Setting := { P := Try.prog, tt := Try.tt, f := 109, fn := Try.f109, live := [0, 1, 2, 4, 5, 6, 7], res := [.tmp 4] }
instance Try.S109ok : Try.S109.Ok := ⟨Try.ttOk, Try.func109, rfl⟩
noncomputable def Try.S110 : Setting := { P := Try.prog, tt := Try.tt, f := 110, fn := Try.f110, live := [0, 1, 2, 3, 4, 8, 9, 10, 11, 12, 13, 14, 15, 16, 17, 18, 19, 20, 21], res := [.tmp 8, .tmp 9] }
instance Try.S110ok : Try.S110.Ok := ⟨Try.ttOk, Try.func110, rfl⟩
noncomputable def Try.S111 : Setting := { P := Try.prog, tt := Try.tt, f := 111, fn := Try.f111, live := [0, 2, 3, 4, 5], res := [.cell 2 28] }
instance Try.S111ok : Try.S111.Ok := ⟨Try.ttOk, Try.func111, rfl⟩
noncomputable def Try.S112 : Setting := { P := Try.prog, tt := Try.tt, f := 112, fn := Try.f112, live := [0, 1, 4], res := [.tmp 4] }
instance Try.S112ok : Try.S112.Ok := ⟨Try.ttOk, Try.func112, rfl⟩
noncomputable def Try.S113 : Setting := { P := Try.prog, tt := Try.tt, f := 113, fn := Try.f113, live := [0, 1, 4], res := [.tmp 4] }
instance Try.S113ok : Try.S113.Ok := ⟨Try.ttOk, Try.func113, rfl⟩
noncomputable def Try.S114 : Setting := { P := Try.prog, tt := Try.tt, f := 114, fn := Try.f114, live := [0, 1, 4], res := [.tmp 4] }
instance Try.S114ok : Try.S114.Ok := ⟨Try.ttOk, Try.func114, rfl⟩
noncomputable def Try.S115 : Setting := { P := Try.prog, tt := Try.tt, f := 115, fn := Try.f115, live := [0, 2, 3, 4, 5, 6, 7, 8], res := [.tmp 2] }
instance Try.S115ok : Try.S115.Ok := ⟨Try.ttOk, Try.func115, rfl⟩
noncomputable def Try.S116 : Setting := { P := Try.prog, tt := Try.tt, f := 116, fn := Try.f116, live := [0, 1, 2, 3, 4, 7, 8], res := [.tmp 2] }
instance Try.S116ok : Try.S116.Ok := ⟨Try.ttOk, Try.func116, rfl⟩
noncomputable def Try.S117 : Setting := { P := Try.prog, tt := Try.tt, f := 117, fn := Try.f117, live := [0, 1, 4, 5, 6, 7, 8, 10, 11], res := [.tmp 4] }
instance Try.S117ok : Try.S117.Ok := ⟨Try.ttOk, Try.func117, rfl⟩
noncomputable def Try.S118 : Setting := { P := Try.prog, tt := Try.tt, f := 118, fn := Try.f118, live := [0, 1, 2, 4, 5, 6, 7, 8, 9, 10, 11, 12, 13, 14, 15, 17, 40, 41, 42, 73, 74, 75, 97, 98, 99], res := [.tmp 4] }
instance Try.S118ok : Try.S118.Ok := ⟨Try.ttOk, Try.func118, rfl⟩
noncomputable def Try.S119 : Setting := { P := Try.prog, tt := Try.tt, f := 119, fn := Try.f119, live := [0, 1, 4, 5, 12, 13], res := [.tmp 4] }
instance Try.S119ok : Try.S119.Ok := ⟨Try.ttOk, Try.func119, rfl⟩
noncomputable def Try.S120 : Setting := { P := Try.prog, tt := Try.tt, f := 120, fn := Try.f120, live := [0, 1, 4, 5, 7, 8, 9, 10], res := [.tmp 4] }
instance Try.S120ok : Try.S120.Ok := ⟨Try.ttOk, Try.func120, rfl⟩
noncomputable def Try.S121 : Setting := { P := Try.prog, tt := Try.tt, f := 121, fn := Try.f121, live := [0, 1, 2, 3, 4, 5, 7, 8, 9, 11, 17, 18, 19, 74, 75, 76], res := [.tmp 2] }
instance Try.S121ok : Try.S121.Ok := ⟨Try.ttOk, Try.func121, rfl⟩
noncomputable def Try.S122 : Setting := { P := Try.prog, tt := Try.tt, f := 122, fn := Try.f122, live := [0, 1, 2, 3, 4], res := [.tmp 2] }
instance Try.S122ok : Try.S122.Ok := ⟨Try.ttOk, Try.func122, rfl⟩
noncomputable def Try.S123 : Setting := { P := Try.prog, tt := Try.tt, f := 123, fn := Try.f123, live := [0, 1, 2, 6, 7, 8, 9, 46, 47, 48], res := [.tmp 6] }
instance Try.S123ok : Try.S123.Ok := ⟨Try.ttOk, Try.func123, rfl⟩
noncomputable def Try.S124 : Setting := { P := Try.prog, tt := Try.tt, f := 124, fn := Try.f124, live := [0, 1, 2, 3, 4, 5, 6, 7, 8, 16, 17, 18], res := [.cell 2 28] }
instance Try.S124ok : Try.S124.Ok := ⟨Try.ttOk, Try.func124, rfl⟩
noncomputable def Try.S125 : Setting := { P := Try.prog, tt := Try.tt, f := 125, fn := Try.f125, live := [0, 1, 2, 3, 6, 7, 8, 9, 10, 11, 12, 31, 32, 33, 48, 49, 50], res := [.tmp 6] }
instance Try.S125ok : Try.S125.Ok := ⟨Try.ttOk, Try.func125, rfl⟩
noncomputable def Try.S126 : Setting := { P := Try.prog, tt := Try.tt, f := 126, fn := Try.f126, live := [0, 1, 2, 6, 7, 8], res := [.tmp 6] }
instance Try.S126ok : Try.S126.Ok := ⟨Try.ttOk, Try.func126, rfl⟩
noncomputable def Try.S127 : Setting := { P := Try.prog, tt := Try.tt, f := 127, fn := Try.f127, live := [0, 1, 4, 5, 6, 7, 8, 9, 10], res := [.tmp 4] }
instance Try.S127ok : Try.S127.Ok := ⟨Try.ttOk, Try.func127, rfl⟩
noncomputable def Try.S128 : Setting := { P := Try.prog, tt := Try.tt, f := 128, fn := Try.f128, live := [0, 1, 2, 4, 5], res := [.tmp 4] }
instance Try.S128ok : Try.S128.Ok := ⟨Try.ttOk, Try.func128, rfl⟩
noncomputable def Try.S129 : Setting := { P := Try.prog, tt := Try.tt, f := 129, fn := Try.f129, live := [0, 1, 2, 3, 6, 7, 8, 9, 10], res := [.tmp 6] }
instance Try.S129ok : Try.S129.Ok := ⟨Try.ttOk, Try.func129, rfl⟩
noncomputable def Try.S130 : Setting := { P := Try.prog, tt := Try.tt, f := 130, fn := Try.f130, live := [0, 1, 2, 6, 7, 8], res := [.tmp 6] }
instance Try.S130ok : Try.S130.Ok := ⟨Try.ttOk, Try.func130, rfl⟩
noncomputable def Try.S131 : Setting := { P := Try.prog, tt := Try.tt, f := 131, fn := Try.f131, live := [0, 1, 4, 5, 6], res := [.tmp 4] }
instance Try.S131ok : Try.S131.Ok := ⟨Try.ttOk, Try.func131, rfl⟩
noncomputable def Try.S132 : Setting := { P := Try.prog, tt := Try.tt, f := 132, fn := Try.f132, live := [0, 2, 3, 4], res := [.tmp 2] }
instance Try.S132ok : Try.S132.Ok := ⟨Try.ttOk, Try.func132, rfl⟩
noncomputable def Try.S133 : Setting := { P := Try.prog, tt := Try.tt, f := 133, fn := Try.f133, live := [0, 1, 2, 4, 5, 6, 7, 8, 9, 10, 11, 12, 13, 14, 15, 16, 17, 18], res := [.tmp 4] }
instance Try.S133ok : Try.S133.Ok := ⟨Try.ttOk, Try.func133, rfl⟩
noncomputable def Try.S134 : Setting := { P := Try.prog, tt := Try.tt, f := 134, fn := Try.f134, live := [0, 1, 4, 5], res := [.tmp 4] }
instance Try.S134ok : Try.S134.Ok := ⟨Try.ttOk, Try.func134, rfl⟩
noncomputable def Try.S135 : Setting := { P := Try.prog, tt := Try.tt, f := 135, fn := Try.f135, live := [0, 2, 3, 4], res := [.tmp 2] }
instance Try.S135ok : Try.S135.Ok := ⟨Try.ttOk, Try.func135, rfl⟩
noncomputable def Try.S136 : Setting := { P := Try.prog, tt := Try.tt, f := 136, fn := Try.f136, live := [0, 1, 2, 3, 4, 5, 6, 7], res := [.tmp 2] }
instance Try.S136ok : Try.S136.Ok := ⟨Try.ttOk, Try.func136, rfl⟩
noncomputable def Try.S137 : Setting := { P := Try.prog, tt := Try.tt, f := 137, fn := Try.f137, live := [0, 1, 2, 3, 4, 5, 6, 7], res := [.cell 2 28, .tmp 3] }
instance Try.S137ok : Try.S137.Ok := ⟨Try.ttOk, Try.func137, rfl⟩
noncomputable def Try.S138 : Setting := { P := Try.prog, tt := Try.tt, f := 138, fn := Try.f138, live := [0, 1, 2, 3, 6, 7, 8, 9, 10, 11], res := [.cell 6 28, .tmp 7] }
instance Try.S138ok : Try.S138.Ok := ⟨Try.ttOk, Try.func138, rfl⟩
noncomputable def Try.S139 : Setting := { P := Try.prog, tt := Try.tt, f := 139, fn := Try.f139, live := [0, 1, 2, 3, 4, 6, 7], res := [.cell 6 28] }
instance Try.S139ok : Try.S139.Ok := ⟨Try.ttOk, Try.func139, rfl⟩
noncomputable def Try.S140 : Setting := { P := Try.prog, tt := Try.tt, f := 140, fn := Try.f140, live := [0, 1, 2, 3, 4, 5, 7], res := [] }
instance Try.S140ok : Try.S140.Ok := ⟨Try.ttOk, Try.func140, rfl⟩
noncomputable def Try.S141 : Setting := { P := Try.prog, tt := Try.tt, f := 141, fn := Try.f141, live := [0, 1, 2, 4], res := [.tmp 4] }
instance Try.S141ok : Try.S141.Ok := ⟨Try.ttOk, Try.func141, rfl⟩
noncomputable def Try.S142 : Setting := { P := Try.prog, tt := Try.tt, f := 142, fn := Try.f142, live := [0, 2, 3, 4, 5, 6, 7, 8], res := [.tmp 2] }
instance Try.S142ok : Try.S142.Ok := ⟨Try.ttOk, Try.func142, rfl⟩
noncomputable def Try.S143 : Setting := { P := Try.prog, tt := Try.tt, f := 143, fn := Try.f143, live := [0, 1, 4, 5, 6, 8, 41, 42, 43], res := [.tmp 4, .tmp 5] }
instance Try.S143ok : Try.S143.Ok := ⟨Try.ttOk, Try.func143, rfl⟩
noncomputable def Try.S144 : Setting := { P := Try.prog, tt := Try.tt, f := 144, fn := Try.f144, live := [0, 1, 4, 5, 17, 18], res := [.tmp 4] }
instance Try.S144ok : Try.S144.Ok := ⟨Try.ttOk, Try.func144, rfl⟩
noncomputable def Try.S145 : Setting := { P := Try.prog, tt := Try.tt, f := 145, fn := Try.f145, live := [0, 1, 4, 6, 7, 8, 9], res := [.tmp 4] }
instance Try.S145ok : Try.S145.Ok := ⟨Try.ttOk, Try.func145, rfl⟩
noncomputable def Try.S146 : Setting := { P := Try.prog, tt := Try.tt, f := 146, fn := Try.f146, live := [0, 1, 2, 4, 5, 6], res := [.tmp 4] }
instance Try.S146ok : Try.S146.Ok := ⟨Try.ttOk, Try.func146, rfl⟩
noncomputable def Try.S147 : Setting := { P := Try.prog, tt := Try.tt, f := 147, fn := Try.f147, live := [0, 1, 2, 4, 5, 6], res := [.tmp 4] }
instance Try.S147ok : Try.S147.Ok := ⟨Try.ttOk, Try.func147, rfl⟩
noncomputable def Try.S148 : Setting := { P := Try.prog, tt := Try.tt, f := 148, fn := Try.f148, live := [0, 1, 4], res := [.tmp 4] }
instance Try.S148ok : Try.S148.Ok := ⟨Try.ttOk, Try.func148, rfl⟩
noncomputable def Try.S149 : Setting := { P := Try.prog, tt := Try.tt, f := 149, fn := Try.f149, live := [0, 1, 2], res := [] }
instance Try.S149ok : Try.S149.Ok := ⟨Try.ttOk, Try.func149, rfl⟩
noncomputable def Try.S150 : Setting := { P := Try.prog, tt := Try.tt, f := 150, fn := Try.f150, live := [0, 1, 2, 3, 5, 10, 11, 12], res := [.tmp 2] }
instance Try.S150ok : Try.S150.Ok := ⟨Try.ttOk, Try.func150, rfl⟩
noncomputable def Try.S151 : Setting := { P := Try.prog, tt := Try.tt, f := 151, fn := Try.f151, live := [0, 2, 3], res := [.tmp 2] }
instance Try.S151ok : Try.S151.Ok := ⟨Try.ttOk, Try.func151, rfl⟩
noncomputable def Try.S152 : Setting := { P := Try.prog, tt := Try.tt, f := 152, fn := Try.f152, live := [0, 1, 4], res := [.tmp 4] }
instance Try.S152ok : Try.S152.Ok := ⟨Try.ttOk, Try.func152, rfl⟩
noncomputable def Try.S153 : Setting := { P := Try.prog, tt := Try.tt, f := 153, fn := Try.f153, live := [0, 2], res := [.tmp 2] }
instance Try.S153ok : Try.S153.Ok := ⟨Try.ttOk, Try.func153, rfl⟩
noncomputable def Try.S154 : Setting := { P := Try.prog, tt := Try.tt, f := 154, fn := Try.f154, live := [0, 1, 2, 3, 4, 5, 6, 7, 8, 9], res := [.cell 2 28] }
instance Try.S154ok : Try.S154.Ok := ⟨Try.ttOk, Try.func154, rfl⟩
noncomputable def Try.S155 : Setting := { P := Try.prog, tt := Try.tt, f := 155, fn := Try.f155, live := [0, 1, 4, 5, 6], res := [.tmp 4] }
instance Try.S155ok : Try.S155.Ok := ⟨Try.ttOk, Try.func155, rfl⟩
noncomputable def Try.S156 : Setting := { P := Try.prog, tt := Try.tt, f := 156, fn := Try.f156, live := [0, 1, 2, 3, 4, 5], res := [.tmp 2] }
instance Try.S156ok : Try.S156.Ok := ⟨Try.ttOk, Try.func156, rfl⟩
end Go.Proofs
