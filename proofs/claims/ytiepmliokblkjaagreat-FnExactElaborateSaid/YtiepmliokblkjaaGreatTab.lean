/- The table of the types and the settings of the functions, by program (fill.py); no condition. -/
import Derived.Test.YtiepmliokblkjaaGreatProg
import Derived.Test.YtiepmliokblkjaaGreatCore
import Derived.KernelRfl
set_option linter.all false
namespace Go.Proofs
open Go.Xw
set_option maxRecDepth 100000
noncomputable def Tryz.ti2 : TI := { desc := .int .i64, size := 1, bytes := 8, zero := .int .i64 0, plain := false }
theorem Tryz.ti2ok : tiOk Tryz.prog 2 Tryz.ti2 := by
  refine ⟨_, _, rfl, ?_, ?_, ?_, Tryz.underlying2, ?_, fun h => by cases h⟩ <;> kernel_rfl
noncomputable def Tryz.ti3 : TI := { desc := .int .i64, size := 1, bytes := 8, zero := .int .i64 0, plain := false }
theorem Tryz.ti3ok : tiOk Tryz.prog 3 Tryz.ti3 := by
  refine ⟨_, _, rfl, ?_, ?_, ?_, Tryz.underlying3, ?_, fun h => by cases h⟩ <;> kernel_rfl
noncomputable def Tryz.ti4 : TI := { desc := .bool, size := 1, bytes := 1, zero := .bool false, plain := false }
theorem Tryz.ti4ok : tiOk Tryz.prog 4 Tryz.ti4 := by
  refine ⟨_, _, rfl, ?_, ?_, ?_, Tryz.underlying4, ?_, fun h => by cases h⟩ <;> kernel_rfl
noncomputable def Tryz.ti5 : TI := { desc := .int .u8, size := 1, bytes := 1, zero := .int .u8 0, plain := false }
theorem Tryz.ti5ok : tiOk Tryz.prog 5 Tryz.ti5 := by
  refine ⟨_, _, rfl, ?_, ?_, ?_, Tryz.underlying5, ?_, fun h => by cases h⟩ <;> kernel_rfl
noncomputable def Tryz.ti9 : TI := { desc := .string, size := 1, bytes := 16, zero := .string ByteArray.empty, plain := false }
theorem Tryz.ti9ok : tiOk Tryz.prog 9 Tryz.ti9 := by
  refine ⟨_, _, rfl, ?_, ?_, ?_, Tryz.underlying9, ?_, fun h => by cases h⟩ <;> kernel_rfl
noncomputable def Tryz.ti12 : TI := { desc := .int .u64, size := 1, bytes := 8, zero := .int .u64 0, plain := false }
theorem Tryz.ti12ok : tiOk Tryz.prog 12 Tryz.ti12 := by
  refine ⟨_, _, rfl, ?_, ?_, ?_, Tryz.underlying12, ?_, fun h => by cases h⟩ <;> kernel_rfl
noncomputable def Tryz.ti21 : TI := { desc := .int .i32, size := 1, bytes := 4, zero := .int .i32 0, plain := false }
theorem Tryz.ti21ok : tiOk Tryz.prog 21 Tryz.ti21 := by
  refine ⟨_, _, rfl, ?_, ?_, ?_, Tryz.underlying21, ?_, fun h => by cases h⟩ <;> kernel_rfl
noncomputable def Tryz.ti22 : TI := { desc := .slice 148, size := 1, bytes := 24, zero := .slice none 0 0, plain := false }
theorem Tryz.ti22ok : tiOk Tryz.prog 22 Tryz.ti22 := by
  refine ⟨_, _, rfl, ?_, ?_, ?_, Tryz.underlying22, ?_, fun h => by cases h⟩ <;> kernel_rfl
noncomputable def Tryz.ti23 : TI := { desc := .slice 127, size := 1, bytes := 24, zero := .slice none 0 0, plain := false }
theorem Tryz.ti23ok : tiOk Tryz.prog 23 Tryz.ti23 := by
  refine ⟨_, _, rfl, ?_, ?_, ?_, Tryz.underlying23, ?_, fun h => by cases h⟩ <;> kernel_rfl
noncomputable def Tryz.ti24 : TI := { desc := .slice 130, size := 1, bytes := 24, zero := .slice none 0 0, plain := false }
theorem Tryz.ti24ok : tiOk Tryz.prog 24 Tryz.ti24 := by
  refine ⟨_, _, rfl, ?_, ?_, ?_, Tryz.underlying24, ?_, fun h => by cases h⟩ <;> kernel_rfl
noncomputable def Tryz.ti25 : TI := { desc := .slice 153, size := 1, bytes := 24, zero := .slice none 0 0, plain := false }
theorem Tryz.ti25ok : tiOk Tryz.prog 25 Tryz.ti25 := by
  refine ⟨_, _, rfl, ?_, ?_, ?_, Tryz.underlying25, ?_, fun h => by cases h⟩ <;> kernel_rfl
noncomputable def Tryz.ti26 : TI := { desc := .struct [(0, 22), (1, 23), (2, 24), (3, 25)], size := 4, bytes := 96, zero := .agg #[.slice none 0 0, .slice none 0 0, .slice none 0 0, .slice none 0 0], plain := false }
theorem Tryz.ti26ok : tiOk Tryz.prog 26 Tryz.ti26 := by
  refine ⟨_, _, rfl, ?_, ?_, ?_, Tryz.underlying26, ?_, fun h => by cases h⟩ <;> kernel_rfl
noncomputable def Tryz.ti27 : TI := { desc := .struct [(0, 22), (1, 23), (2, 24), (3, 25)], size := 4, bytes := 96, zero := .agg #[.slice none 0 0, .slice none 0 0, .slice none 0 0, .slice none 0 0], plain := false }
theorem Tryz.ti27ok : tiOk Tryz.prog 27 Tryz.ti27 := by
  refine ⟨_, _, rfl, ?_, ?_, ?_, Tryz.underlying27, ?_, fun h => by cases h⟩ <;> kernel_rfl
noncomputable def Tryz.ti29 : TI := { desc := .slice 68, size := 1, bytes := 24, zero := .slice none 0 0, plain := false }
theorem Tryz.ti29ok : tiOk Tryz.prog 29 Tryz.ti29 := by
  refine ⟨_, _, rfl, ?_, ?_, ?_, Tryz.underlying29, ?_, fun h => by cases h⟩ <;> kernel_rfl
noncomputable def Tryz.ti30 : TI := { desc := .slice 120, size := 1, bytes := 24, zero := .slice none 0 0, plain := false }
theorem Tryz.ti30ok : tiOk Tryz.prog 30 Tryz.ti30 := by
  refine ⟨_, _, rfl, ?_, ?_, ?_, Tryz.underlying30, ?_, fun h => by cases h⟩ <;> kernel_rfl
noncomputable def Tryz.ti31 : TI := { desc := .slice 3, size := 1, bytes := 24, zero := .slice none 0 0, plain := false }
theorem Tryz.ti31ok : tiOk Tryz.prog 31 Tryz.ti31 := by
  refine ⟨_, _, rfl, ?_, ?_, ?_, Tryz.underlying31, ?_, fun h => by cases h⟩ <;> kernel_rfl
noncomputable def Tryz.ti32 : TI := { desc := .struct [(0, 3), (1, 29), (2, 30), (3, 31)], size := 4, bytes := 80, zero := .agg #[.int .i64 0, .slice none 0 0, .slice none 0 0, .slice none 0 0], plain := false }
theorem Tryz.ti32ok : tiOk Tryz.prog 32 Tryz.ti32 := by
  refine ⟨_, _, rfl, ?_, ?_, ?_, Tryz.underlying32, ?_, fun h => by cases h⟩ <;> kernel_rfl
noncomputable def Tryz.ti33 : TI := { desc := .struct [(0, 3), (1, 29), (2, 30), (3, 31)], size := 4, bytes := 80, zero := .agg #[.int .i64 0, .slice none 0 0, .slice none 0 0, .slice none 0 0], plain := false }
theorem Tryz.ti33ok : tiOk Tryz.prog 33 Tryz.ti33 := by
  refine ⟨_, _, rfl, ?_, ?_, ?_, Tryz.underlying33, ?_, fun h => by cases h⟩ <;> kernel_rfl
noncomputable def Tryz.ti36 : TI := { desc := .slice 66, size := 1, bytes := 24, zero := .slice none 0 0, plain := false }
theorem Tryz.ti36ok : tiOk Tryz.prog 36 Tryz.ti36 := by
  refine ⟨_, _, rfl, ?_, ?_, ?_, Tryz.underlying36, ?_, fun h => by cases h⟩ <;> kernel_rfl
noncomputable def Tryz.ti37 : TI := { desc := .slice 75, size := 1, bytes := 24, zero := .slice none 0 0, plain := false }
theorem Tryz.ti37ok : tiOk Tryz.prog 37 Tryz.ti37 := by
  refine ⟨_, _, rfl, ?_, ?_, ?_, Tryz.underlying37, ?_, fun h => by cases h⟩ <;> kernel_rfl
noncomputable def Tryz.ti38 : TI := { desc := .slice 150, size := 1, bytes := 24, zero := .slice none 0 0, plain := false }
theorem Tryz.ti38ok : tiOk Tryz.prog 38 Tryz.ti38 := by
  refine ⟨_, _, rfl, ?_, ?_, ?_, Tryz.underlying38, ?_, fun h => by cases h⟩ <;> kernel_rfl
noncomputable def Tryz.ti39 : TI := { desc := .slice 70, size := 1, bytes := 24, zero := .slice none 0 0, plain := false }
theorem Tryz.ti39ok : tiOk Tryz.prog 39 Tryz.ti39 := by
  refine ⟨_, _, rfl, ?_, ?_, ?_, Tryz.underlying39, ?_, fun h => by cases h⟩ <;> kernel_rfl
noncomputable def Tryz.ti40 : TI := { desc := .struct [(0, 36), (1, 37), (2, 38), (3, 39)], size := 4, bytes := 96, zero := .agg #[.slice none 0 0, .slice none 0 0, .slice none 0 0, .slice none 0 0], plain := false }
theorem Tryz.ti40ok : tiOk Tryz.prog 40 Tryz.ti40 := by
  refine ⟨_, _, rfl, ?_, ?_, ?_, Tryz.underlying40, ?_, fun h => by cases h⟩ <;> kernel_rfl
noncomputable def Tryz.ti41 : TI := { desc := .struct [(0, 36), (1, 37), (2, 38), (3, 39)], size := 4, bytes := 96, zero := .agg #[.slice none 0 0, .slice none 0 0, .slice none 0 0, .slice none 0 0], plain := false }
theorem Tryz.ti41ok : tiOk Tryz.prog 41 Tryz.ti41 := by
  refine ⟨_, _, rfl, ?_, ?_, ?_, Tryz.underlying41, ?_, fun h => by cases h⟩ <;> kernel_rfl
noncomputable def Tryz.ti48 : TI := { desc := .slice 5, size := 1, bytes := 24, zero := .slice none 0 0, plain := false }
theorem Tryz.ti48ok : tiOk Tryz.prog 48 Tryz.ti48 := by
  refine ⟨_, _, rfl, ?_, ?_, ?_, Tryz.underlying48, ?_, fun h => by cases h⟩ <;> kernel_rfl
noncomputable def Tryz.ti50 : TI := { desc := .slice 31, size := 1, bytes := 24, zero := .slice none 0 0, plain := false }
theorem Tryz.ti50ok : tiOk Tryz.prog 50 Tryz.ti50 := by
  refine ⟨_, _, rfl, ?_, ?_, ?_, Tryz.underlying50, ?_, fun h => by cases h⟩ <;> kernel_rfl
noncomputable def Tryz.ti65 : TI := { desc := .struct [(0, 3), (1, 3), (2, 3)], size := 3, bytes := 24, zero := .agg #[.int .i64 0, .int .i64 0, .int .i64 0], plain := true }
theorem Tryz.ti65ok : tiOk Tryz.prog 65 Tryz.ti65 := by
  refine ⟨_, _, rfl, ?_, ?_, ?_, Tryz.underlying65, ?_, fun _ => ⟨by kernel_rfl, by kernel_rfl, by intro f hf; simp at hf; (repeat (first | (rcases hf with rfl | hf; · decide) | (subst hf; decide)))⟩⟩ <;> kernel_rfl
noncomputable def Tryz.ti66 : TI := { desc := .struct [(0, 3), (1, 3), (2, 3)], size := 3, bytes := 24, zero := .agg #[.int .i64 0, .int .i64 0, .int .i64 0], plain := true }
theorem Tryz.ti66ok : tiOk Tryz.prog 66 Tryz.ti66 := by
  refine ⟨_, _, rfl, ?_, ?_, ?_, Tryz.underlying66, ?_, fun _ => ⟨by kernel_rfl, by kernel_rfl, by intro f hf; simp at hf; (repeat (first | (rcases hf with rfl | hf; · decide) | (subst hf; decide)))⟩⟩ <;> kernel_rfl
noncomputable def Tryz.ti67 : TI := { desc := .struct [(0, 3), (1, 3), (2, 31)], size := 3, bytes := 40, zero := .agg #[.int .i64 0, .int .i64 0, .slice none 0 0], plain := false }
theorem Tryz.ti67ok : tiOk Tryz.prog 67 Tryz.ti67 := by
  refine ⟨_, _, rfl, ?_, ?_, ?_, Tryz.underlying67, ?_, fun h => by cases h⟩ <;> kernel_rfl
noncomputable def Tryz.ti68 : TI := { desc := .struct [(0, 3), (1, 3), (2, 31)], size := 3, bytes := 40, zero := .agg #[.int .i64 0, .int .i64 0, .slice none 0 0], plain := false }
theorem Tryz.ti68ok : tiOk Tryz.prog 68 Tryz.ti68 := by
  refine ⟨_, _, rfl, ?_, ?_, ?_, Tryz.underlying68, ?_, fun h => by cases h⟩ <;> kernel_rfl
noncomputable def Tryz.ti69 : TI := { desc := .struct [(0, 3), (1, 3), (2, 3), (3, 3)], size := 4, bytes := 32, zero := .agg #[.int .i64 0, .int .i64 0, .int .i64 0, .int .i64 0], plain := true }
theorem Tryz.ti69ok : tiOk Tryz.prog 69 Tryz.ti69 := by
  refine ⟨_, _, rfl, ?_, ?_, ?_, Tryz.underlying69, ?_, fun _ => ⟨by kernel_rfl, by kernel_rfl, by intro f hf; simp at hf; (repeat (first | (rcases hf with rfl | hf; · decide) | (subst hf; decide)))⟩⟩ <;> kernel_rfl
noncomputable def Tryz.ti70 : TI := { desc := .struct [(0, 3), (1, 3), (2, 3), (3, 3)], size := 4, bytes := 32, zero := .agg #[.int .i64 0, .int .i64 0, .int .i64 0, .int .i64 0], plain := true }
theorem Tryz.ti70ok : tiOk Tryz.prog 70 Tryz.ti70 := by
  refine ⟨_, _, rfl, ?_, ?_, ?_, Tryz.underlying70, ?_, fun _ => ⟨by kernel_rfl, by kernel_rfl, by intro f hf; simp at hf; (repeat (first | (rcases hf with rfl | hf; · decide) | (subst hf; decide)))⟩⟩ <;> kernel_rfl
noncomputable def Tryz.ti73 : TI := { desc := .slice 132, size := 1, bytes := 24, zero := .slice none 0 0, plain := false }
theorem Tryz.ti73ok : tiOk Tryz.prog 73 Tryz.ti73 := by
  refine ⟨_, _, rfl, ?_, ?_, ?_, Tryz.underlying73, ?_, fun h => by cases h⟩ <;> kernel_rfl
noncomputable def Tryz.ti74 : TI := { desc := .struct [(0, 3), (1, 73)], size := 2, bytes := 32, zero := .agg #[.int .i64 0, .slice none 0 0], plain := false }
theorem Tryz.ti74ok : tiOk Tryz.prog 74 Tryz.ti74 := by
  refine ⟨_, _, rfl, ?_, ?_, ?_, Tryz.underlying74, ?_, fun h => by cases h⟩ <;> kernel_rfl
noncomputable def Tryz.ti75 : TI := { desc := .struct [(0, 3), (1, 73)], size := 2, bytes := 32, zero := .agg #[.int .i64 0, .slice none 0 0], plain := false }
theorem Tryz.ti75ok : tiOk Tryz.prog 75 Tryz.ti75 := by
  refine ⟨_, _, rfl, ?_, ?_, ?_, Tryz.underlying75, ?_, fun h => by cases h⟩ <;> kernel_rfl
noncomputable def Tryz.ti84 : TI := { desc := .int .u64, size := 1, bytes := 8, zero := .int .u64 0, plain := false }
theorem Tryz.ti84ok : tiOk Tryz.prog 84 Tryz.ti84 := by
  refine ⟨_, _, rfl, ?_, ?_, ?_, Tryz.underlying84, ?_, fun h => by cases h⟩ <;> kernel_rfl
noncomputable def Tryz.ti85 : TI := { desc := .pointer 88, size := 1, bytes := 8, zero := .pointer none, plain := false }
theorem Tryz.ti85ok : tiOk Tryz.prog 85 Tryz.ti85 := by
  refine ⟨_, _, rfl, ?_, ?_, ?_, Tryz.underlying85, ?_, fun h => by cases h⟩ <;> kernel_rfl
noncomputable def Tryz.ti86 : TI := { desc := .pointer 33, size := 1, bytes := 8, zero := .pointer none, plain := false }
theorem Tryz.ti86ok : tiOk Tryz.prog 86 Tryz.ti86 := by
  refine ⟨_, _, rfl, ?_, ?_, ?_, Tryz.underlying86, ?_, fun h => by cases h⟩ <;> kernel_rfl
noncomputable def Tryz.ti87 : TI := { desc := .struct [(0, 86), (1, 50), (2, 3), (3, 4)], size := 4, bytes := 48, zero := .agg #[.pointer none, .slice none 0 0, .int .i64 0, .bool false], plain := false }
theorem Tryz.ti87ok : tiOk Tryz.prog 87 Tryz.ti87 := by
  refine ⟨_, _, rfl, ?_, ?_, ?_, Tryz.underlying87, ?_, fun h => by cases h⟩ <;> kernel_rfl
noncomputable def Tryz.ti88 : TI := { desc := .struct [(0, 86), (1, 50), (2, 3), (3, 4)], size := 4, bytes := 48, zero := .agg #[.pointer none, .slice none 0 0, .int .i64 0, .bool false], plain := false }
theorem Tryz.ti88ok : tiOk Tryz.prog 88 Tryz.ti88 := by
  refine ⟨_, _, rfl, ?_, ?_, ?_, Tryz.underlying88, ?_, fun h => by cases h⟩ <;> kernel_rfl
noncomputable def Tryz.ti104 : TI := { desc := .pointer 171, size := 1, bytes := 8, zero := .pointer none, plain := false }
theorem Tryz.ti104ok : tiOk Tryz.prog 104 Tryz.ti104 := by
  refine ⟨_, _, rfl, ?_, ?_, ?_, Tryz.underlying104, ?_, fun h => by cases h⟩ <;> kernel_rfl
noncomputable def Tryz.ti110 : TI := { desc := .struct [(0, 31), (1, 31)], size := 2, bytes := 48, zero := .agg #[.slice none 0 0, .slice none 0 0], plain := false }
theorem Tryz.ti110ok : tiOk Tryz.prog 110 Tryz.ti110 := by
  refine ⟨_, _, rfl, ?_, ?_, ?_, Tryz.underlying110, ?_, fun h => by cases h⟩ <;> kernel_rfl
noncomputable def Tryz.ti111 : TI := { desc := .struct [(0, 31), (1, 31)], size := 2, bytes := 48, zero := .agg #[.slice none 0 0, .slice none 0 0], plain := false }
theorem Tryz.ti111ok : tiOk Tryz.prog 111 Tryz.ti111 := by
  refine ⟨_, _, rfl, ?_, ?_, ?_, Tryz.underlying111, ?_, fun h => by cases h⟩ <;> kernel_rfl
noncomputable def Tryz.ti117 : TI := { desc := .slice 4, size := 1, bytes := 24, zero := .slice none 0 0, plain := false }
theorem Tryz.ti117ok : tiOk Tryz.prog 117 Tryz.ti117 := by
  refine ⟨_, _, rfl, ?_, ?_, ?_, Tryz.underlying117, ?_, fun h => by cases h⟩ <;> kernel_rfl
noncomputable def Tryz.ti119 : TI := { desc := .struct [(0, 3), (1, 3)], size := 2, bytes := 16, zero := .agg #[.int .i64 0, .int .i64 0], plain := true }
theorem Tryz.ti119ok : tiOk Tryz.prog 119 Tryz.ti119 := by
  refine ⟨_, _, rfl, ?_, ?_, ?_, Tryz.underlying119, ?_, fun _ => ⟨by kernel_rfl, by kernel_rfl, by intro f hf; simp at hf; (repeat (first | (rcases hf with rfl | hf; · decide) | (subst hf; decide)))⟩⟩ <;> kernel_rfl
noncomputable def Tryz.ti120 : TI := { desc := .struct [(0, 3), (1, 3)], size := 2, bytes := 16, zero := .agg #[.int .i64 0, .int .i64 0], plain := true }
theorem Tryz.ti120ok : tiOk Tryz.prog 120 Tryz.ti120 := by
  refine ⟨_, _, rfl, ?_, ?_, ?_, Tryz.underlying120, ?_, fun _ => ⟨by kernel_rfl, by kernel_rfl, by intro f hf; simp at hf; (repeat (first | (rcases hf with rfl | hf; · decide) | (subst hf; decide)))⟩⟩ <;> kernel_rfl
noncomputable def Tryz.ti125 : TI := { desc := .slice 205, size := 1, bytes := 24, zero := .slice none 0 0, plain := false }
theorem Tryz.ti125ok : tiOk Tryz.prog 125 Tryz.ti125 := by
  refine ⟨_, _, rfl, ?_, ?_, ?_, Tryz.underlying125, ?_, fun h => by cases h⟩ <;> kernel_rfl
noncomputable def Tryz.ti126 : TI := { desc := .struct [(0, 3), (1, 125)], size := 2, bytes := 32, zero := .agg #[.int .i64 0, .slice none 0 0], plain := false }
theorem Tryz.ti126ok : tiOk Tryz.prog 126 Tryz.ti126 := by
  refine ⟨_, _, rfl, ?_, ?_, ?_, Tryz.underlying126, ?_, fun h => by cases h⟩ <;> kernel_rfl
noncomputable def Tryz.ti127 : TI := { desc := .struct [(0, 3), (1, 125)], size := 2, bytes := 32, zero := .agg #[.int .i64 0, .slice none 0 0], plain := false }
theorem Tryz.ti127ok : tiOk Tryz.prog 127 Tryz.ti127 := by
  refine ⟨_, _, rfl, ?_, ?_, ?_, Tryz.underlying127, ?_, fun h => by cases h⟩ <;> kernel_rfl
noncomputable def Tryz.ti129 : TI := { desc := .struct [(0, 3), (1, 3), (2, 31)], size := 3, bytes := 40, zero := .agg #[.int .i64 0, .int .i64 0, .slice none 0 0], plain := false }
theorem Tryz.ti129ok : tiOk Tryz.prog 129 Tryz.ti129 := by
  refine ⟨_, _, rfl, ?_, ?_, ?_, Tryz.underlying129, ?_, fun h => by cases h⟩ <;> kernel_rfl
noncomputable def Tryz.ti130 : TI := { desc := .struct [(0, 3), (1, 3), (2, 31)], size := 3, bytes := 40, zero := .agg #[.int .i64 0, .int .i64 0, .slice none 0 0], plain := false }
theorem Tryz.ti130ok : tiOk Tryz.prog 130 Tryz.ti130 := by
  refine ⟨_, _, rfl, ?_, ?_, ?_, Tryz.underlying130, ?_, fun h => by cases h⟩ <;> kernel_rfl
noncomputable def Tryz.ti131 : TI := { desc := .struct [(0, 3), (1, 3), (2, 3)], size := 3, bytes := 24, zero := .agg #[.int .i64 0, .int .i64 0, .int .i64 0], plain := true }
theorem Tryz.ti131ok : tiOk Tryz.prog 131 Tryz.ti131 := by
  refine ⟨_, _, rfl, ?_, ?_, ?_, Tryz.underlying131, ?_, fun _ => ⟨by kernel_rfl, by kernel_rfl, by intro f hf; simp at hf; (repeat (first | (rcases hf with rfl | hf; · decide) | (subst hf; decide)))⟩⟩ <;> kernel_rfl
noncomputable def Tryz.ti132 : TI := { desc := .struct [(0, 3), (1, 3), (2, 3)], size := 3, bytes := 24, zero := .agg #[.int .i64 0, .int .i64 0, .int .i64 0], plain := true }
theorem Tryz.ti132ok : tiOk Tryz.prog 132 Tryz.ti132 := by
  refine ⟨_, _, rfl, ?_, ?_, ?_, Tryz.underlying132, ?_, fun _ => ⟨by kernel_rfl, by kernel_rfl, by intro f hf; simp at hf; (repeat (first | (rcases hf with rfl | hf; · decide) | (subst hf; decide)))⟩⟩ <;> kernel_rfl
noncomputable def Tryz.ti134 : TI := { desc := .slice 41, size := 1, bytes := 24, zero := .slice none 0 0, plain := false }
theorem Tryz.ti134ok : tiOk Tryz.prog 134 Tryz.ti134 := by
  refine ⟨_, _, rfl, ?_, ?_, ?_, Tryz.underlying134, ?_, fun h => by cases h⟩ <;> kernel_rfl
noncomputable def Tryz.ti135 : TI := { desc := .struct [(0, 134)], size := 1, bytes := 24, zero := .agg #[.slice none 0 0], plain := false }
theorem Tryz.ti135ok : tiOk Tryz.prog 135 Tryz.ti135 := by
  refine ⟨_, _, rfl, ?_, ?_, ?_, Tryz.underlying135, ?_, fun h => by cases h⟩ <;> kernel_rfl
noncomputable def Tryz.ti136 : TI := { desc := .struct [(0, 134)], size := 1, bytes := 24, zero := .agg #[.slice none 0 0], plain := false }
theorem Tryz.ti136ok : tiOk Tryz.prog 136 Tryz.ti136 := by
  refine ⟨_, _, rfl, ?_, ?_, ?_, Tryz.underlying136, ?_, fun h => by cases h⟩ <;> kernel_rfl
noncomputable def Tryz.ti148 : TI := { desc := .struct [(0, 3), (1, 3), (2, 3)], size := 3, bytes := 24, zero := .agg #[.int .i64 0, .int .i64 0, .int .i64 0], plain := true }
theorem Tryz.ti148ok : tiOk Tryz.prog 148 Tryz.ti148 := by
  refine ⟨_, _, rfl, ?_, ?_, ?_, Tryz.underlying148, ?_, fun _ => ⟨by kernel_rfl, by kernel_rfl, by intro f hf; simp at hf; (repeat (first | (rcases hf with rfl | hf; · decide) | (subst hf; decide)))⟩⟩ <;> kernel_rfl
noncomputable def Tryz.ti150 : TI := { desc := .struct [(0, 3), (1, 3), (2, 31)], size := 3, bytes := 40, zero := .agg #[.int .i64 0, .int .i64 0, .slice none 0 0], plain := false }
theorem Tryz.ti150ok : tiOk Tryz.prog 150 Tryz.ti150 := by
  refine ⟨_, _, rfl, ?_, ?_, ?_, Tryz.underlying150, ?_, fun h => by cases h⟩ <;> kernel_rfl
noncomputable def Tryz.ti153 : TI := { desc := .struct [(0, 3), (1, 3), (2, 3), (3, 3)], size := 4, bytes := 32, zero := .agg #[.int .i64 0, .int .i64 0, .int .i64 0, .int .i64 0], plain := true }
theorem Tryz.ti153ok : tiOk Tryz.prog 153 Tryz.ti153 := by
  refine ⟨_, _, rfl, ?_, ?_, ?_, Tryz.underlying153, ?_, fun _ => ⟨by kernel_rfl, by kernel_rfl, by intro f hf; simp at hf; (repeat (first | (rcases hf with rfl | hf; · decide) | (subst hf; decide)))⟩⟩ <;> kernel_rfl
noncomputable def Tryz.ti170 : TI := { desc := .struct [(0, 48), (1, 3), (2, 3)], size := 3, bytes := 40, zero := .agg #[.slice none 0 0, .int .i64 0, .int .i64 0], plain := false }
theorem Tryz.ti170ok : tiOk Tryz.prog 170 Tryz.ti170 := by
  refine ⟨_, _, rfl, ?_, ?_, ?_, Tryz.underlying170, ?_, fun h => by cases h⟩ <;> kernel_rfl
noncomputable def Tryz.ti171 : TI := { desc := .struct [(0, 48), (1, 3), (2, 3)], size := 3, bytes := 40, zero := .agg #[.slice none 0 0, .int .i64 0, .int .i64 0], plain := false }
theorem Tryz.ti171ok : tiOk Tryz.prog 171 Tryz.ti171 := by
  refine ⟨_, _, rfl, ?_, ?_, ?_, Tryz.underlying171, ?_, fun h => by cases h⟩ <;> kernel_rfl
noncomputable def Tryz.ti205 : TI := { desc := .struct [(0, 3), (1, 3), (2, 3)], size := 3, bytes := 24, zero := .agg #[.int .i64 0, .int .i64 0, .int .i64 0], plain := true }
theorem Tryz.ti205ok : tiOk Tryz.prog 205 Tryz.ti205 := by
  refine ⟨_, _, rfl, ?_, ?_, ?_, Tryz.underlying205, ?_, fun _ => ⟨by kernel_rfl, by kernel_rfl, by intro f hf; simp at hf; (repeat (first | (rcases hf with rfl | hf; · decide) | (subst hf; decide)))⟩⟩ <;> kernel_rfl
noncomputable def Tryz.ti223 : TI := { desc := .int .u32, size := 1, bytes := 4, zero := .int .u32 0, plain := false }
theorem Tryz.ti223ok : tiOk Tryz.prog 223 Tryz.ti223 := by
  refine ⟨_, _, rfl, ?_, ?_, ?_, Tryz.underlying223, ?_, fun h => by cases h⟩ <;> kernel_rfl
noncomputable def Tryz.ti227 : TI := { desc := .pointer 5, size := 1, bytes := 8, zero := .pointer none, plain := false }
theorem Tryz.ti227ok : tiOk Tryz.prog 227 Tryz.ti227 := by
  refine ⟨_, _, rfl, ?_, ?_, ?_, Tryz.underlying227, ?_, fun h => by cases h⟩ <;> kernel_rfl
noncomputable def Tryz.tt : TT := [(3, Tryz.ti3), (31, Tryz.ti31), (4, Tryz.ti4), (2, Tryz.ti2), (5, Tryz.ti5), (9, Tryz.ti9), (12, Tryz.ti12), (21, Tryz.ti21), (22, Tryz.ti22), (23, Tryz.ti23), (24, Tryz.ti24), (25, Tryz.ti25), (26, Tryz.ti26), (27, Tryz.ti27), (29, Tryz.ti29), (30, Tryz.ti30), (32, Tryz.ti32), (33, Tryz.ti33), (36, Tryz.ti36), (37, Tryz.ti37), (38, Tryz.ti38), (39, Tryz.ti39), (40, Tryz.ti40), (41, Tryz.ti41), (48, Tryz.ti48), (50, Tryz.ti50), (65, Tryz.ti65), (66, Tryz.ti66), (67, Tryz.ti67), (68, Tryz.ti68), (69, Tryz.ti69), (70, Tryz.ti70), (73, Tryz.ti73), (74, Tryz.ti74), (75, Tryz.ti75), (84, Tryz.ti84), (85, Tryz.ti85), (86, Tryz.ti86), (87, Tryz.ti87), (88, Tryz.ti88), (104, Tryz.ti104), (110, Tryz.ti110), (111, Tryz.ti111), (117, Tryz.ti117), (119, Tryz.ti119), (120, Tryz.ti120), (125, Tryz.ti125), (126, Tryz.ti126), (127, Tryz.ti127), (129, Tryz.ti129), (130, Tryz.ti130), (131, Tryz.ti131), (132, Tryz.ti132), (134, Tryz.ti134), (135, Tryz.ti135), (136, Tryz.ti136), (148, Tryz.ti148), (150, Tryz.ti150), (153, Tryz.ti153), (170, Tryz.ti170), (171, Tryz.ti171), (205, Tryz.ti205), (223, Tryz.ti223), (227, Tryz.ti227)]
theorem Tryz.ttOk : TTok Tryz.prog Tryz.tt := ⟨Tryz.ti3ok, Tryz.ti31ok, Tryz.ti4ok, Tryz.ti2ok, Tryz.ti5ok, Tryz.ti9ok, Tryz.ti12ok, Tryz.ti21ok, Tryz.ti22ok, Tryz.ti23ok, Tryz.ti24ok, Tryz.ti25ok, Tryz.ti26ok, Tryz.ti27ok, Tryz.ti29ok, Tryz.ti30ok, Tryz.ti32ok, Tryz.ti33ok, Tryz.ti36ok, Tryz.ti37ok, Tryz.ti38ok, Tryz.ti39ok, Tryz.ti40ok, Tryz.ti41ok, Tryz.ti48ok, Tryz.ti50ok, Tryz.ti65ok, Tryz.ti66ok, Tryz.ti67ok, Tryz.ti68ok, Tryz.ti69ok, Tryz.ti70ok, Tryz.ti73ok, Tryz.ti74ok, Tryz.ti75ok, Tryz.ti84ok, Tryz.ti85ok, Tryz.ti86ok, Tryz.ti87ok, Tryz.ti88ok, Tryz.ti104ok, Tryz.ti110ok, Tryz.ti111ok, Tryz.ti117ok, Tryz.ti119ok, Tryz.ti120ok, Tryz.ti125ok, Tryz.ti126ok, Tryz.ti127ok, Tryz.ti129ok, Tryz.ti130ok, Tryz.ti131ok, Tryz.ti132ok, Tryz.ti134ok, Tryz.ti135ok, Tryz.ti136ok, Tryz.ti148ok, Tryz.ti150ok, Tryz.ti153ok, Tryz.ti170ok, Tryz.ti171ok, Tryz.ti205ok, Tryz.ti223ok, Tryz.ti227ok, trivial⟩
noncomputable def Tryz.S3 : Setting := { P := Tryz.prog, tt := Tryz.tt, f := 3, fn := Tryz.f3, live := [0, 1, 2, 3, 4, 5, 6, 7, 8, 9, 10, 11, 12, 13], res := [.tmp 2] }
instance Tryz.S3ok : Tryz.S3.Ok := ⟨Tryz.ttOk, Tryz.func3, rfl⟩
noncomputable def Tryz.S4 : Setting := { P := Tryz.prog, tt := Tryz.tt, f := 4, fn := Tryz.f4, live := [0, 2, 3, 4, 6, 7, 8, 9, 10, 11, 12], res := [.tmp 2] }
instance Tryz.S4ok : Tryz.S4.Ok := ⟨Tryz.ttOk, Tryz.func4, rfl⟩
noncomputable def Tryz.S5 : Setting := { P := Tryz.prog, tt := Tryz.tt, f := 5, fn := Tryz.f5, live := [0, 1, 2, 4], res := [.tmp 4] }
instance Tryz.S5ok : Tryz.S5.Ok := ⟨Tryz.ttOk, Tryz.func5, rfl⟩
noncomputable def Tryz.S6 : Setting := { P := Tryz.prog, tt := Tryz.tt, f := 6, fn := Tryz.f6, live := [0, 1, 2, 3, 4, 5, 6, 7, 8, 9, 10, 11, 12, 13, 15, 16, 17, 18, 19, 20, 21, 22, 23, 24, 25, 26, 27, 28], res := [.cell 2 33, .tmp 3] }
instance Tryz.S6ok : Tryz.S6.Ok := ⟨Tryz.ttOk, Tryz.func6, rfl⟩
noncomputable def Tryz.S7 : Setting := { P := Tryz.prog, tt := Tryz.tt, f := 7, fn := Tryz.f7, live := [0, 1, 2, 3], res := [.cell 2 41] }
instance Tryz.S7ok : Tryz.S7.Ok := ⟨Tryz.ttOk, Tryz.func7, rfl⟩
noncomputable def Tryz.S8 : Setting := { P := Tryz.prog, tt := Tryz.tt, f := 8, fn := Tryz.f8, live := [0, 1, 2, 3, 4, 5, 6, 7, 8, 9, 10, 11, 12, 14, 15, 16, 17, 20, 21, 22, 23, 24, 26, 27, 30, 32, 33, 34, 35, 50, 51, 52, 65, 66, 67, 98, 99, 100, 134, 135, 136, 168, 169, 170, 179, 180, 181, 201, 202, 203, 225, 226, 227, 281, 282, 283], res := [.cell 2 33, .tmp 3] }
instance Tryz.S8ok : Tryz.S8.Ok := ⟨Tryz.ttOk, Tryz.func8, rfl⟩
noncomputable def Tryz.S9 : Setting := { P := Tryz.prog, tt := Tryz.tt, f := 9, fn := Tryz.f9, live := [0, 1, 2, 3, 4], res := [.tmp 4] }
instance Tryz.S9ok : Tryz.S9.Ok := ⟨Tryz.ttOk, Tryz.func9, rfl⟩
noncomputable def Tryz.S10 : Setting := { P := Tryz.prog, tt := Tryz.tt, f := 10, fn := Tryz.f10, live := [0, 1, 2, 3, 4], res := [.tmp 4] }
instance Tryz.S10ok : Tryz.S10.Ok := ⟨Tryz.ttOk, Tryz.func10, rfl⟩
noncomputable def Tryz.S11 : Setting := { P := Tryz.prog, tt := Tryz.tt, f := 11, fn := Tryz.f11, live := [0, 1, 2, 4], res := [.tmp 4] }
instance Tryz.S11ok : Tryz.S11.Ok := ⟨Tryz.ttOk, Tryz.func11, rfl⟩
noncomputable def Tryz.S12 : Setting := { P := Tryz.prog, tt := Tryz.tt, f := 12, fn := Tryz.f12, live := [0, 1, 2, 4], res := [.tmp 4] }
instance Tryz.S12ok : Tryz.S12.Ok := ⟨Tryz.ttOk, Tryz.func12, rfl⟩
noncomputable def Tryz.S13 : Setting := { P := Tryz.prog, tt := Tryz.tt, f := 13, fn := Tryz.f13, live := [0, 1, 2, 4], res := [.tmp 4] }
instance Tryz.S13ok : Tryz.S13.Ok := ⟨Tryz.ttOk, Tryz.func13, rfl⟩
noncomputable def Tryz.S14 : Setting := { P := Tryz.prog, tt := Tryz.tt, f := 14, fn := Tryz.f14, live := [0, 2], res := [.tmp 2] }
instance Tryz.S14ok : Tryz.S14.Ok := ⟨Tryz.ttOk, Tryz.func14, rfl⟩
noncomputable def Tryz.S15 : Setting := { P := Tryz.prog, tt := Tryz.tt, f := 15, fn := Tryz.f15, live := [0, 2, 3, 4, 5], res := [.cell 2 41, .tmp 3] }
instance Tryz.S15ok : Tryz.S15.Ok := ⟨Tryz.ttOk, Tryz.func15, rfl⟩
noncomputable def Tryz.S16 : Setting := { P := Tryz.prog, tt := Tryz.tt, f := 16, fn := Tryz.f16, live := [0, 1, 2, 4, 5, 6, 7, 8, 9], res := [.tmp 4] }
instance Tryz.S16ok : Tryz.S16.Ok := ⟨Tryz.ttOk, Tryz.func16, rfl⟩
noncomputable def Tryz.S17 : Setting := { P := Tryz.prog, tt := Tryz.tt, f := 17, fn := Tryz.f17, live := [0, 1, 4, 5, 6, 7, 8, 19, 20, 21], res := [.tmp 4] }
instance Tryz.S17ok : Tryz.S17.Ok := ⟨Tryz.ttOk, Tryz.func17, rfl⟩
noncomputable def Tryz.S18 : Setting := { P := Tryz.prog, tt := Tryz.tt, f := 18, fn := Tryz.f18, live := [0, 1, 2, 4, 5, 7, 13, 14, 15], res := [.tmp 4] }
instance Tryz.S18ok : Tryz.S18.Ok := ⟨Tryz.ttOk, Tryz.func18, rfl⟩
noncomputable def Tryz.S19 : Setting := { P := Tryz.prog, tt := Tryz.tt, f := 19, fn := Tryz.f19, live := [0, 1, 2, 3, 4, 5, 7, 14, 15, 16, 58, 59, 60], res := [.tmp 2] }
instance Tryz.S19ok : Tryz.S19.Ok := ⟨Tryz.ttOk, Tryz.func19, rfl⟩
noncomputable def Tryz.S20 : Setting := { P := Tryz.prog, tt := Tryz.tt, f := 20, fn := Tryz.f20, live := [0, 1, 4, 5], res := [.tmp 4] }
instance Tryz.S20ok : Tryz.S20.Ok := ⟨Tryz.ttOk, Tryz.func20, rfl⟩
noncomputable def Tryz.S21 : Setting := { P := Tryz.prog, tt := Tryz.tt, f := 21, fn := Tryz.f21, live := [0, 1, 2, 4, 5, 6, 8, 9, 10, 21, 22, 23], res := [.tmp 4] }
instance Tryz.S21ok : Tryz.S21.Ok := ⟨Tryz.ttOk, Tryz.func21, rfl⟩
noncomputable def Tryz.S22 : Setting := { P := Tryz.prog, tt := Tryz.tt, f := 22, fn := Tryz.f22, live := [0, 1, 4], res := [.tmp 4] }
instance Tryz.S22ok : Tryz.S22.Ok := ⟨Tryz.ttOk, Tryz.func22, rfl⟩
noncomputable def Tryz.S23 : Setting := { P := Tryz.prog, tt := Tryz.tt, f := 23, fn := Tryz.f23, live := [0, 1, 4, 5], res := [.tmp 4] }
instance Tryz.S23ok : Tryz.S23.Ok := ⟨Tryz.ttOk, Tryz.func23, rfl⟩
noncomputable def Tryz.S24 : Setting := { P := Tryz.prog, tt := Tryz.tt, f := 24, fn := Tryz.f24, live := [0, 1, 4, 5], res := [.tmp 4] }
instance Tryz.S24ok : Tryz.S24.Ok := ⟨Tryz.ttOk, Tryz.func24, rfl⟩
noncomputable def Tryz.S25 : Setting := { P := Tryz.prog, tt := Tryz.tt, f := 25, fn := Tryz.f25, live := [0, 1, 4], res := [.tmp 4] }
instance Tryz.S25ok : Tryz.S25.Ok := ⟨Tryz.ttOk, Tryz.func25, rfl⟩
noncomputable def Tryz.S26 : Setting := { P := Tryz.prog, tt := Tryz.tt, f := 26, fn := Tryz.f26, live := [0, 1, 2, 4, 5, 6, 7, 8, 9, 10], res := [.tmp 2] }
instance Tryz.S26ok : Tryz.S26.Ok := ⟨Tryz.ttOk, Tryz.func26, rfl⟩
noncomputable def Tryz.S27 : Setting := { P := Tryz.prog, tt := Tryz.tt, f := 27, fn := Tryz.f27, live := [0, 2, 3, 4], res := [.tmp 2] }
instance Tryz.S27ok : Tryz.S27.Ok := ⟨Tryz.ttOk, Tryz.func27, rfl⟩
noncomputable def Tryz.S28 : Setting := { P := Tryz.prog, tt := Tryz.tt, f := 28, fn := Tryz.f28, live := [0, 1, 2, 4, 5, 6], res := [.tmp 4] }
instance Tryz.S28ok : Tryz.S28.Ok := ⟨Tryz.ttOk, Tryz.func28, rfl⟩
noncomputable def Tryz.S29 : Setting := { P := Tryz.prog, tt := Tryz.tt, f := 29, fn := Tryz.f29, live := [0, 1, 2, 3, 4, 5, 6, 7, 8, 9], res := [.tmp 2, .tmp 3] }
instance Tryz.S29ok : Tryz.S29.Ok := ⟨Tryz.ttOk, Tryz.func29, rfl⟩
noncomputable def Tryz.S30 : Setting := { P := Tryz.prog, tt := Tryz.tt, f := 30, fn := Tryz.f30, live := [0, 1, 2, 3, 4, 8, 9, 10, 11, 12, 13, 14, 15], res := [.cell 8 33, .tmp 9] }
instance Tryz.S30ok : Tryz.S30.Ok := ⟨Tryz.ttOk, Tryz.func30, rfl⟩
noncomputable def Tryz.S31 : Setting := { P := Tryz.prog, tt := Tryz.tt, f := 31, fn := Tryz.f31, live := [0, 1, 2, 3, 4, 5, 6, 7], res := [.cell 2 33] }
instance Tryz.S31ok : Tryz.S31.Ok := ⟨Tryz.ttOk, Tryz.func31, rfl⟩
noncomputable def Tryz.S32 : Setting := { P := Tryz.prog, tt := Tryz.tt, f := 32, fn := Tryz.f32, live := [0, 2, 3, 4], res := [.tmp 2] }
instance Tryz.S32ok : Tryz.S32.Ok := ⟨Tryz.ttOk, Tryz.func32, rfl⟩
noncomputable def Tryz.S33 : Setting := { P := Tryz.prog, tt := Tryz.tt, f := 33, fn := Tryz.f33, live := [0, 2, 3, 4], res := [.tmp 2] }
instance Tryz.S33ok : Tryz.S33.Ok := ⟨Tryz.ttOk, Tryz.func33, rfl⟩
noncomputable def Tryz.S34 : Setting := { P := Tryz.prog, tt := Tryz.tt, f := 34, fn := Tryz.f34, live := [0, 2, 3, 4], res := [.tmp 2] }
instance Tryz.S34ok : Tryz.S34.Ok := ⟨Tryz.ttOk, Tryz.func34, rfl⟩
noncomputable def Tryz.S35 : Setting := { P := Tryz.prog, tt := Tryz.tt, f := 35, fn := Tryz.f35, live := [0, 2, 3, 4], res := [.tmp 2] }
instance Tryz.S35ok : Tryz.S35.Ok := ⟨Tryz.ttOk, Tryz.func35, rfl⟩
noncomputable def Tryz.S36 : Setting := { P := Tryz.prog, tt := Tryz.tt, f := 36, fn := Tryz.f36, live := [0, 1, 2, 4, 6, 8, 9, 11, 20, 21, 22, 31, 32, 33, 45, 46, 47], res := [.tmp 2] }
instance Tryz.S36ok : Tryz.S36.Ok := ⟨Tryz.ttOk, Tryz.func36, rfl⟩
noncomputable def Tryz.S37 : Setting := { P := Tryz.prog, tt := Tryz.tt, f := 37, fn := Tryz.f37, live := [0, 2, 3, 5, 6, 7, 8], res := [.tmp 2] }
instance Tryz.S37ok : Tryz.S37.Ok := ⟨Tryz.ttOk, Tryz.func37, rfl⟩
noncomputable def Tryz.S38 : Setting := { P := Tryz.prog, tt := Tryz.tt, f := 38, fn := Tryz.f38, live := [0, 1, 2, 3, 5], res := [] }
instance Tryz.S38ok : Tryz.S38.Ok := ⟨Tryz.ttOk, Tryz.func38, rfl⟩
noncomputable def Tryz.S39 : Setting := { P := Tryz.prog, tt := Tryz.tt, f := 39, fn := Tryz.f39, live := [0, 1, 2, 3, 4, 5, 6, 7, 8, 9, 10, 11, 13, 26, 27, 28, 49, 50, 51, 56, 57, 58], res := [.tmp 2, .tmp 3] }
instance Tryz.S39ok : Tryz.S39.Ok := ⟨Tryz.ttOk, Tryz.func39, rfl⟩
noncomputable def Tryz.S40 : Setting := { P := Tryz.prog, tt := Tryz.tt, f := 40, fn := Tryz.f40, live := [0, 1, 2, 6, 7, 8, 9, 10, 11, 12, 13, 14, 15, 17, 18, 52, 55, 56, 57, 69, 70, 105, 106, 110], res := [.tmp 6, .tmp 7] }
instance Tryz.S40ok : Tryz.S40.Ok := ⟨Tryz.ttOk, Tryz.func40, rfl⟩
noncomputable def Tryz.S41 : Setting := { P := Tryz.prog, tt := Tryz.tt, f := 41, fn := Tryz.f41, live := [0, 1, 2, 3, 4, 5, 6, 12, 13, 14], res := [.cell 2 33] }
instance Tryz.S41ok : Tryz.S41.Ok := ⟨Tryz.ttOk, Tryz.func41, rfl⟩
noncomputable def Tryz.S42 : Setting := { P := Tryz.prog, tt := Tryz.tt, f := 42, fn := Tryz.f42, live := [0, 1, 4, 5], res := [.tmp 4] }
instance Tryz.S42ok : Tryz.S42.Ok := ⟨Tryz.ttOk, Tryz.func42, rfl⟩
noncomputable def Tryz.S43 : Setting := { P := Tryz.prog, tt := Tryz.tt, f := 43, fn := Tryz.f43, live := [0, 1, 4, 5], res := [.tmp 4] }
instance Tryz.S43ok : Tryz.S43.Ok := ⟨Tryz.ttOk, Tryz.func43, rfl⟩
noncomputable def Tryz.S44 : Setting := { P := Tryz.prog, tt := Tryz.tt, f := 44, fn := Tryz.f44, live := [0, 1, 4, 5], res := [.tmp 4] }
instance Tryz.S44ok : Tryz.S44.Ok := ⟨Tryz.ttOk, Tryz.func44, rfl⟩
noncomputable def Tryz.S45 : Setting := { P := Tryz.prog, tt := Tryz.tt, f := 45, fn := Tryz.f45, live := [0, 1, 4, 5], res := [.tmp 4] }
instance Tryz.S45ok : Tryz.S45.Ok := ⟨Tryz.ttOk, Tryz.func45, rfl⟩
noncomputable def Tryz.S46 : Setting := { P := Tryz.prog, tt := Tryz.tt, f := 46, fn := Tryz.f46, live := [0, 1, 4, 5], res := [.tmp 4] }
instance Tryz.S46ok : Tryz.S46.Ok := ⟨Tryz.ttOk, Tryz.func46, rfl⟩
noncomputable def Tryz.S47 : Setting := { P := Tryz.prog, tt := Tryz.tt, f := 47, fn := Tryz.f47, live := [0, 1, 4, 5], res := [.tmp 4] }
instance Tryz.S47ok : Tryz.S47.Ok := ⟨Tryz.ttOk, Tryz.func47, rfl⟩
noncomputable def Tryz.S48 : Setting := { P := Tryz.prog, tt := Tryz.tt, f := 48, fn := Tryz.f48, live := [0, 1, 4, 5], res := [.tmp 4] }
instance Tryz.S48ok : Tryz.S48.Ok := ⟨Tryz.ttOk, Tryz.func48, rfl⟩
noncomputable def Tryz.S49 : Setting := { P := Tryz.prog, tt := Tryz.tt, f := 49, fn := Tryz.f49, live := [0, 1, 4, 5], res := [.tmp 4] }
instance Tryz.S49ok : Tryz.S49.Ok := ⟨Tryz.ttOk, Tryz.func49, rfl⟩
noncomputable def Tryz.S50 : Setting := { P := Tryz.prog, tt := Tryz.tt, f := 50, fn := Tryz.f50, live := [0, 1, 4, 5], res := [.tmp 4] }
instance Tryz.S50ok : Tryz.S50.Ok := ⟨Tryz.ttOk, Tryz.func50, rfl⟩
noncomputable def Tryz.S51 : Setting := { P := Tryz.prog, tt := Tryz.tt, f := 51, fn := Tryz.f51, live := [0, 1, 4, 5], res := [.tmp 4] }
instance Tryz.S51ok : Tryz.S51.Ok := ⟨Tryz.ttOk, Tryz.func51, rfl⟩
noncomputable def Tryz.S52 : Setting := { P := Tryz.prog, tt := Tryz.tt, f := 52, fn := Tryz.f52, live := [0, 1, 4, 5], res := [.tmp 4] }
instance Tryz.S52ok : Tryz.S52.Ok := ⟨Tryz.ttOk, Tryz.func52, rfl⟩
noncomputable def Tryz.S53 : Setting := { P := Tryz.prog, tt := Tryz.tt, f := 53, fn := Tryz.f53, live := [0, 1, 4, 5], res := [.tmp 4] }
instance Tryz.S53ok : Tryz.S53.Ok := ⟨Tryz.ttOk, Tryz.func53, rfl⟩
noncomputable def Tryz.S54 : Setting := { P := Tryz.prog, tt := Tryz.tt, f := 54, fn := Tryz.f54, live := [0, 1, 4, 5], res := [.tmp 4] }
instance Tryz.S54ok : Tryz.S54.Ok := ⟨Tryz.ttOk, Tryz.func54, rfl⟩
noncomputable def Tryz.S55 : Setting := { P := Tryz.prog, tt := Tryz.tt, f := 55, fn := Tryz.f55, live := [0, 1, 4, 5], res := [.tmp 4] }
instance Tryz.S55ok : Tryz.S55.Ok := ⟨Tryz.ttOk, Tryz.func55, rfl⟩
noncomputable def Tryz.S56 : Setting := { P := Tryz.prog, tt := Tryz.tt, f := 56, fn := Tryz.f56, live := [0, 1, 4, 5], res := [.tmp 4] }
instance Tryz.S56ok : Tryz.S56.Ok := ⟨Tryz.ttOk, Tryz.func56, rfl⟩
noncomputable def Tryz.S57 : Setting := { P := Tryz.prog, tt := Tryz.tt, f := 57, fn := Tryz.f57, live := [0, 1, 4, 5], res := [.tmp 4] }
instance Tryz.S57ok : Tryz.S57.Ok := ⟨Tryz.ttOk, Tryz.func57, rfl⟩
noncomputable def Tryz.S58 : Setting := { P := Tryz.prog, tt := Tryz.tt, f := 58, fn := Tryz.f58, live := [0, 1, 4, 5], res := [.tmp 4] }
instance Tryz.S58ok : Tryz.S58.Ok := ⟨Tryz.ttOk, Tryz.func58, rfl⟩
noncomputable def Tryz.S59 : Setting := { P := Tryz.prog, tt := Tryz.tt, f := 59, fn := Tryz.f59, live := [0, 2, 3, 4], res := [.tmp 2] }
instance Tryz.S59ok : Tryz.S59.Ok := ⟨Tryz.ttOk, Tryz.func59, rfl⟩
noncomputable def Tryz.S60 : Setting := { P := Tryz.prog, tt := Tryz.tt, f := 60, fn := Tryz.f60, live := [0, 2, 3, 4, 5, 6], res := [.cell 2 41] }
instance Tryz.S60ok : Tryz.S60.Ok := ⟨Tryz.ttOk, Tryz.func60, rfl⟩
noncomputable def Tryz.S61 : Setting := { P := Tryz.prog, tt := Tryz.tt, f := 61, fn := Tryz.f61, live := [0, 1, 2, 4, 6, 7, 8, 9, 10, 11], res := [.tmp 6] }
instance Tryz.S61ok : Tryz.S61.Ok := ⟨Tryz.ttOk, Tryz.func61, rfl⟩
noncomputable def Tryz.S62 : Setting := { P := Tryz.prog, tt := Tryz.tt, f := 62, fn := Tryz.f62, live := [0, 1, 4, 5, 6, 7, 8], res := [.tmp 4] }
instance Tryz.S62ok : Tryz.S62.Ok := ⟨Tryz.ttOk, Tryz.func62, rfl⟩
noncomputable def Tryz.S63 : Setting := { P := Tryz.prog, tt := Tryz.tt, f := 63, fn := Tryz.f63, live := [0, 1, 2, 4, 5, 6], res := [.tmp 4] }
instance Tryz.S63ok : Tryz.S63.Ok := ⟨Tryz.ttOk, Tryz.func63, rfl⟩
noncomputable def Tryz.S64 : Setting := { P := Tryz.prog, tt := Tryz.tt, f := 64, fn := Tryz.f64, live := [0, 1, 2, 3, 4], res := [.cell 2 111] }
instance Tryz.S64ok : Tryz.S64.Ok := ⟨Tryz.ttOk, Tryz.func64, rfl⟩
noncomputable def Tryz.S65 : Setting := { P := Tryz.prog, tt := Tryz.tt, f := 65, fn := Tryz.f65, live := [0, 1, 2, 3, 4, 6, 7, 8, 9, 10, 11, 12, 13, 15, 16, 17], res := [.cell 6 111, .tmp 7] }
instance Tryz.S65ok : Tryz.S65.Ok := ⟨Tryz.ttOk, Tryz.func65, rfl⟩
noncomputable def Tryz.S66 : Setting := { P := Tryz.prog, tt := Tryz.tt, f := 66, fn := Tryz.f66, live := [0, 2, 3, 5, 6, 7, 8], res := [.tmp 2] }
instance Tryz.S66ok : Tryz.S66.Ok := ⟨Tryz.ttOk, Tryz.func66, rfl⟩
noncomputable def Tryz.S67 : Setting := { P := Tryz.prog, tt := Tryz.tt, f := 67, fn := Tryz.f67, live := [0, 2], res := [.tmp 2] }
instance Tryz.S67ok : Tryz.S67.Ok := ⟨Tryz.ttOk, Tryz.func67, rfl⟩
noncomputable def Tryz.S68 : Setting := { P := Tryz.prog, tt := Tryz.tt, f := 68, fn := Tryz.f68, live := [0, 1, 2, 3, 5, 7, 8, 9, 10, 16, 17, 18, 27, 28, 29, 41, 42, 43], res := [.tmp 2] }
instance Tryz.S68ok : Tryz.S68.Ok := ⟨Tryz.ttOk, Tryz.func68, rfl⟩
noncomputable def Tryz.S69 : Setting := { P := Tryz.prog, tt := Tryz.tt, f := 69, fn := Tryz.f69, live := [0, 1, 2, 3, 5, 10, 11, 12], res := [.tmp 2] }
instance Tryz.S69ok : Tryz.S69.Ok := ⟨Tryz.ttOk, Tryz.func69, rfl⟩
noncomputable def Tryz.S70 : Setting := { P := Tryz.prog, tt := Tryz.tt, f := 70, fn := Tryz.f70, live := [0, 1, 2], res := [.tmp 2] }
instance Tryz.S70ok : Tryz.S70.Ok := ⟨Tryz.ttOk, Tryz.func70, rfl⟩
noncomputable def Tryz.S71 : Setting := { P := Tryz.prog, tt := Tryz.tt, f := 71, fn := Tryz.f71, live := [0, 1, 2, 3, 5, 7, 8, 9], res := [.tmp 2] }
instance Tryz.S71ok : Tryz.S71.Ok := ⟨Tryz.ttOk, Tryz.func71, rfl⟩
noncomputable def Tryz.S72 : Setting := { P := Tryz.prog, tt := Tryz.tt, f := 72, fn := Tryz.f72, live := [0, 1, 2, 3, 6, 7, 8, 9, 10, 11, 17, 18, 19], res := [.tmp 6, .tmp 7] }
instance Tryz.S72ok : Tryz.S72.Ok := ⟨Tryz.ttOk, Tryz.func72, rfl⟩
noncomputable def Tryz.S73 : Setting := { P := Tryz.prog, tt := Tryz.tt, f := 73, fn := Tryz.f73, live := [0, 1, 2, 4], res := [.tmp 4] }
instance Tryz.S73ok : Tryz.S73.Ok := ⟨Tryz.ttOk, Tryz.func73, rfl⟩
noncomputable def Tryz.S74 : Setting := { P := Tryz.prog, tt := Tryz.tt, f := 74, fn := Tryz.f74, live := [0, 1, 2, 4], res := [.tmp 4] }
instance Tryz.S74ok : Tryz.S74.Ok := ⟨Tryz.ttOk, Tryz.func74, rfl⟩
noncomputable def Tryz.S75 : Setting := { P := Tryz.prog, tt := Tryz.tt, f := 75, fn := Tryz.f75, live := [0, 1, 2, 3], res := [.tmp 2] }
instance Tryz.S75ok : Tryz.S75.Ok := ⟨Tryz.ttOk, Tryz.func75, rfl⟩
noncomputable def Tryz.S76 : Setting := { P := Tryz.prog, tt := Tryz.tt, f := 76, fn := Tryz.f76, live := [0, 1, 4, 5], res := [.tmp 4] }
instance Tryz.S76ok : Tryz.S76.Ok := ⟨Tryz.ttOk, Tryz.func76, rfl⟩
noncomputable def Tryz.S77 : Setting := { P := Tryz.prog, tt := Tryz.tt, f := 77, fn := Tryz.f77, live := [0, 1, 2, 3, 4, 5, 6, 7, 8], res := [.tmp 2] }
instance Tryz.S77ok : Tryz.S77.Ok := ⟨Tryz.ttOk, Tryz.func77, rfl⟩
noncomputable def Tryz.S78 : Setting := { P := Tryz.prog, tt := Tryz.tt, f := 78, fn := Tryz.f78, live := [0, 1, 4, 5, 6], res := [.tmp 4] }
instance Tryz.S78ok : Tryz.S78.Ok := ⟨Tryz.ttOk, Tryz.func78, rfl⟩
noncomputable def Tryz.S79 : Setting := { P := Tryz.prog, tt := Tryz.tt, f := 79, fn := Tryz.f79, live := [0, 1, 2, 6], res := [.tmp 6] }
instance Tryz.S79ok : Tryz.S79.Ok := ⟨Tryz.ttOk, Tryz.func79, rfl⟩
noncomputable def Tryz.S80 : Setting := { P := Tryz.prog, tt := Tryz.tt, f := 80, fn := Tryz.f80, live := [0, 1, 2], res := [.cell 2 33] }
instance Tryz.S80ok : Tryz.S80.Ok := ⟨Tryz.ttOk, Tryz.func80, rfl⟩
noncomputable def Tryz.S81 : Setting := { P := Tryz.prog, tt := Tryz.tt, f := 81, fn := Tryz.f81, live := [0, 1, 4], res := [.tmp 4] }
instance Tryz.S81ok : Tryz.S81.Ok := ⟨Tryz.ttOk, Tryz.func81, rfl⟩
noncomputable def Tryz.S82 : Setting := { P := Tryz.prog, tt := Tryz.tt, f := 82, fn := Tryz.f82, live := [0, 1, 2], res := [.tmp 2] }
instance Tryz.S82ok : Tryz.S82.Ok := ⟨Tryz.ttOk, Tryz.func82, rfl⟩
noncomputable def Tryz.S83 : Setting := { P := Tryz.prog, tt := Tryz.tt, f := 83, fn := Tryz.f83, live := [0, 1, 2, 3, 4, 5, 10, 11, 12, 13, 14, 15, 16, 17, 18, 19, 20, 21, 22, 23], res := [.cell 10 33, .tmp 11, .tmp 12] }
instance Tryz.S83ok : Tryz.S83.Ok := ⟨Tryz.ttOk, Tryz.func83, rfl⟩
noncomputable def Tryz.S84 : Setting := { P := Tryz.prog, tt := Tryz.tt, f := 84, fn := Tryz.f84, live := [0, 2, 3], res := [.tmp 2] }
instance Tryz.S84ok : Tryz.S84.Ok := ⟨Tryz.ttOk, Tryz.func84, rfl⟩
noncomputable def Tryz.S85 : Setting := { P := Tryz.prog, tt := Tryz.tt, f := 85, fn := Tryz.f85, live := [0, 1, 2, 3, 4, 5, 6, 7], res := [.cell 2 33, .tmp 3] }
instance Tryz.S85ok : Tryz.S85.Ok := ⟨Tryz.ttOk, Tryz.func85, rfl⟩
noncomputable def Tryz.S86 : Setting := { P := Tryz.prog, tt := Tryz.tt, f := 86, fn := Tryz.f86, live := [0, 1, 2, 3, 6, 7, 8, 9, 10, 11], res := [.cell 6 33, .tmp 7] }
instance Tryz.S86ok : Tryz.S86.Ok := ⟨Tryz.ttOk, Tryz.func86, rfl⟩
noncomputable def Tryz.S87 : Setting := { P := Tryz.prog, tt := Tryz.tt, f := 87, fn := Tryz.f87, live := [0, 1, 2, 3, 4, 6, 7], res := [.cell 6 33] }
instance Tryz.S87ok : Tryz.S87.Ok := ⟨Tryz.ttOk, Tryz.func87, rfl⟩
noncomputable def Tryz.S88 : Setting := { P := Tryz.prog, tt := Tryz.tt, f := 88, fn := Tryz.f88, live := [0, 1, 2, 3], res := [.cell 2 66] }
instance Tryz.S88ok : Tryz.S88.Ok := ⟨Tryz.ttOk, Tryz.func88, rfl⟩
noncomputable def Tryz.S89 : Setting := { P := Tryz.prog, tt := Tryz.tt, f := 89, fn := Tryz.f89, live := [0, 1, 2, 3], res := [.cell 2 75] }
instance Tryz.S89ok : Tryz.S89.Ok := ⟨Tryz.ttOk, Tryz.func89, rfl⟩
noncomputable def Tryz.S90 : Setting := { P := Tryz.prog, tt := Tryz.tt, f := 90, fn := Tryz.f90, live := [0, 1, 2, 3], res := [.cell 2 150] }
instance Tryz.S90ok : Tryz.S90.Ok := ⟨Tryz.ttOk, Tryz.func90, rfl⟩
noncomputable def Tryz.S91 : Setting := { P := Tryz.prog, tt := Tryz.tt, f := 91, fn := Tryz.f91, live := [0, 1, 2, 3], res := [.cell 2 70] }
instance Tryz.S91ok : Tryz.S91.Ok := ⟨Tryz.ttOk, Tryz.func91, rfl⟩
noncomputable def Tryz.S92 : Setting := { P := Tryz.prog, tt := Tryz.tt, f := 92, fn := Tryz.f92, live := [0, 2, 4, 5, 6, 7], res := [.tmp 2] }
instance Tryz.S92ok : Tryz.S92.Ok := ⟨Tryz.ttOk, Tryz.func92, rfl⟩
noncomputable def Tryz.S93 : Setting := { P := Tryz.prog, tt := Tryz.tt, f := 93, fn := Tryz.f93, live := [0, 1, 2, 3, 6, 7], res := [.tmp 2] }
instance Tryz.S93ok : Tryz.S93.Ok := ⟨Tryz.ttOk, Tryz.func93, rfl⟩
noncomputable def Tryz.S94 : Setting := { P := Tryz.prog, tt := Tryz.tt, f := 94, fn := Tryz.f94, live := [0, 1, 4, 6, 7, 8, 9], res := [.tmp 4] }
instance Tryz.S94ok : Tryz.S94.Ok := ⟨Tryz.ttOk, Tryz.func94, rfl⟩
noncomputable def Tryz.S95 : Setting := { P := Tryz.prog, tt := Tryz.tt, f := 95, fn := Tryz.f95, live := [0, 2], res := [.tmp 2] }
instance Tryz.S95ok : Tryz.S95.Ok := ⟨Tryz.ttOk, Tryz.func95, rfl⟩
noncomputable def Tryz.S96 : Setting := { P := Tryz.prog, tt := Tryz.tt, f := 96, fn := Tryz.f96, live := [0, 1, 3, 4, 5, 6, 7, 14, 18, 19, 35, 36], res := [.tmp 4] }
instance Tryz.S96ok : Tryz.S96.Ok := ⟨Tryz.ttOk, Tryz.func96, rfl⟩
noncomputable def Tryz.S97 : Setting := { P := Tryz.prog, tt := Tryz.tt, f := 97, fn := Tryz.f97, live := [0, 2, 3, 5, 6, 7, 8], res := [.tmp 2] }
instance Tryz.S97ok : Tryz.S97.Ok := ⟨Tryz.ttOk, Tryz.func97, rfl⟩
noncomputable def Tryz.S98 : Setting := { P := Tryz.prog, tt := Tryz.tt, f := 98, fn := Tryz.f98, live := [0, 1, 2, 6], res := [.tmp 6] }
instance Tryz.S98ok : Tryz.S98.Ok := ⟨Tryz.ttOk, Tryz.func98, rfl⟩
noncomputable def Tryz.S99 : Setting := { P := Tryz.prog, tt := Tryz.tt, f := 99, fn := Tryz.f99, live := [0, 1, 2, 6], res := [.tmp 6] }
instance Tryz.S99ok : Tryz.S99.Ok := ⟨Tryz.ttOk, Tryz.func99, rfl⟩
noncomputable def Tryz.S100 : Setting := { P := Tryz.prog, tt := Tryz.tt, f := 100, fn := Tryz.f100, live := [0, 1, 2, 6], res := [.tmp 6] }
instance Tryz.S100ok : Tryz.S100.Ok := ⟨Tryz.ttOk, Tryz.func100, rfl⟩
noncomputable def Tryz.S101 : Setting := { P := Tryz.prog, tt := Tryz.tt, f := 101, fn := Tryz.f101, live := [0, 1, 2, 3, 8, 9, 10, 11, 12, 13, 15, 16], res := [.tmp 8] }
instance Tryz.S101ok : Tryz.S101.Ok := ⟨Tryz.ttOk, Tryz.func101, rfl⟩
noncomputable def Tryz.S102 : Setting := { P := Tryz.prog, tt := Tryz.tt, f := 102, fn := Tryz.f102, live := [0, 1, 2, 3, 8, 9, 10, 11, 15, 16], res := [.tmp 8] }
instance Tryz.S102ok : Tryz.S102.Ok := ⟨Tryz.ttOk, Tryz.func102, rfl⟩
noncomputable def Tryz.S103 : Setting := { P := Tryz.prog, tt := Tryz.tt, f := 103, fn := Tryz.f103, live := [0, 1, 2, 3, 8], res := [.tmp 8] }
instance Tryz.S103ok : Tryz.S103.Ok := ⟨Tryz.ttOk, Tryz.func103, rfl⟩
noncomputable def Tryz.S104 : Setting := { P := Tryz.prog, tt := Tryz.tt, f := 104, fn := Tryz.f104, live := [0, 1, 2, 3, 5, 10, 11, 12], res := [.cell 2 33] }
instance Tryz.S104ok : Tryz.S104.Ok := ⟨Tryz.ttOk, Tryz.func104, rfl⟩
noncomputable def Tryz.S105 : Setting := { P := Tryz.prog, tt := Tryz.tt, f := 105, fn := Tryz.f105, live := [0, 1, 2, 3, 4], res := [.tmp 2] }
instance Tryz.S105ok : Tryz.S105.Ok := ⟨Tryz.ttOk, Tryz.func105, rfl⟩
noncomputable def Tryz.S106 : Setting := { P := Tryz.prog, tt := Tryz.tt, f := 106, fn := Tryz.f106, live := [0, 1, 2, 6, 7, 8, 9, 46, 47, 48], res := [.tmp 6] }
instance Tryz.S106ok : Tryz.S106.Ok := ⟨Tryz.ttOk, Tryz.func106, rfl⟩
noncomputable def Tryz.S107 : Setting := { P := Tryz.prog, tt := Tryz.tt, f := 107, fn := Tryz.f107, live := [0, 1, 4], res := [.tmp 4] }
instance Tryz.S107ok : Tryz.S107.Ok := ⟨Tryz.ttOk, Tryz.func107, rfl⟩
noncomputable def Tryz.S108 : Setting := { P := Tryz.prog, tt := Tryz.tt, f := 108, fn := Tryz.f108, live := [0, 1, 2, 4, 6, 7, 9, 10, 11], res := [] }
instance Tryz.S108ok : Tryz.S108.Ok := ⟨Tryz.ttOk, Tryz.func108, rfl⟩
noncomputable def Tryz.S109 : Setting := { P := Tryz.prog, tt := Tryz.tt, f := 109, fn := Tryz.f109, live := [0, 1, 2, 3, 4, 5, 6, 7, 8, 16, 17, 18], res := [.cell 2 33] }
instance Tryz.S109ok : Tryz.S109.Ok := ⟨Tryz.ttOk, Tryz.func109, rfl⟩
noncomputable def Tryz.S110 : Setting := { P := Tryz.prog, tt := Tryz.tt, f := 110, fn := Tryz.f110, live := [0, 1, 2, 3, 4], res := [.tmp 4] }
instance Tryz.S110ok : Tryz.S110.Ok := ⟨Tryz.ttOk, Tryz.func110, rfl⟩
noncomputable def Tryz.S111 : Setting := { P := Tryz.prog, tt := Tryz.tt, f := 111, fn := Tryz.f111, live := [0, 1, 2, 3, 4], res := [.tmp 4] }
instance Tryz.S111ok : Tryz.S111.Ok := ⟨Tryz.ttOk, Tryz.func111, rfl⟩
noncomputable def Tryz.S112 : Setting := { P := Tryz.prog, tt := Tryz.tt, f := 112, fn := Tryz.f112, live := [0, 1, 2, 3, 4], res := [.tmp 4] }
instance Tryz.S112ok : Tryz.S112.Ok := ⟨Tryz.ttOk, Tryz.func112, rfl⟩
noncomputable def Tryz.S113 : Setting := { P := Tryz.prog, tt := Tryz.tt, f := 113, fn := Tryz.f113, live := [0, 1, 2, 3, 4], res := [.tmp 4] }
instance Tryz.S113ok : Tryz.S113.Ok := ⟨Tryz.ttOk, Tryz.func113, rfl⟩
noncomputable def Tryz.S114 : Setting := { P := Tryz.prog, tt := Tryz.tt, f := 114, fn := Tryz.f114, live := [0, 1, 2, 3, 4], res := [.tmp 4] }
instance Tryz.S114ok : Tryz.S114.Ok := ⟨Tryz.ttOk, Tryz.func114, rfl⟩
noncomputable def Tryz.S115 : Setting := { P := Tryz.prog, tt := Tryz.tt, f := 115, fn := Tryz.f115, live := [0, 1, 2, 3, 4], res := [.tmp 4] }
instance Tryz.S115ok : Tryz.S115.Ok := ⟨Tryz.ttOk, Tryz.func115, rfl⟩
noncomputable def Tryz.S116 : Setting := { P := Tryz.prog, tt := Tryz.tt, f := 116, fn := Tryz.f116, live := [0, 1, 4, 5], res := [.tmp 4] }
instance Tryz.S116ok : Tryz.S116.Ok := ⟨Tryz.ttOk, Tryz.func116, rfl⟩
noncomputable def Tryz.S117 : Setting := { P := Tryz.prog, tt := Tryz.tt, f := 117, fn := Tryz.f117, live := [0, 1, 2, 4, 5, 6, 7], res := [.cell 4 41, .tmp 5] }
instance Tryz.S117ok : Tryz.S117.Ok := ⟨Tryz.ttOk, Tryz.func117, rfl⟩
noncomputable def Tryz.S118 : Setting := { P := Tryz.prog, tt := Tryz.tt, f := 118, fn := Tryz.f118, live := [0, 2, 3, 4, 5], res := [.cell 2 136] }
instance Tryz.S118ok : Tryz.S118.Ok := ⟨Tryz.ttOk, Tryz.func118, rfl⟩
noncomputable def Tryz.S119 : Setting := { P := Tryz.prog, tt := Tryz.tt, f := 119, fn := Tryz.f119, live := [0, 1, 2, 3], res := [.cell 0 136] }
instance Tryz.S119ok : Tryz.S119.Ok := ⟨Tryz.ttOk, Tryz.func119, rfl⟩
noncomputable def Tryz.S120 : Setting := { P := Tryz.prog, tt := Tryz.tt, f := 120, fn := Tryz.f120, live := [0, 2, 3], res := [.tmp 2] }
instance Tryz.S120ok : Tryz.S120.Ok := ⟨Tryz.ttOk, Tryz.func120, rfl⟩
noncomputable def Tryz.S121 : Setting := { P := Tryz.prog, tt := Tryz.tt, f := 121, fn := Tryz.f121, live := [0, 1, 2, 3, 4, 5, 6, 7, 8], res := [.tmp 4] }
instance Tryz.S121ok : Tryz.S121.Ok := ⟨Tryz.ttOk, Tryz.func121, rfl⟩
noncomputable def Tryz.S122 : Setting := { P := Tryz.prog, tt := Tryz.tt, f := 122, fn := Tryz.f122, live := [0, 1, 2, 3, 4, 6, 7, 8, 9, 10, 12, 13, 14], res := [.tmp 6] }
instance Tryz.S122ok : Tryz.S122.Ok := ⟨Tryz.ttOk, Tryz.func122, rfl⟩
noncomputable def Tryz.S123 : Setting := { P := Tryz.prog, tt := Tryz.tt, f := 123, fn := Tryz.f123, live := [0, 1, 2, 3, 8, 9, 10, 11, 12, 13, 21, 78], res := [.tmp 8, .tmp 9] }
instance Tryz.S123ok : Tryz.S123.Ok := ⟨Tryz.ttOk, Tryz.func123, rfl⟩
noncomputable def Tryz.S124 : Setting := { P := Tryz.prog, tt := Tryz.tt, f := 124, fn := Tryz.f124, live := [0, 1, 2, 6], res := [.tmp 6] }
instance Tryz.S124ok : Tryz.S124.Ok := ⟨Tryz.ttOk, Tryz.func124, rfl⟩
noncomputable def Tryz.S125 : Setting := { P := Tryz.prog, tt := Tryz.tt, f := 125, fn := Tryz.f125, live := [0, 1, 2], res := [.tmp 2] }
instance Tryz.S125ok : Tryz.S125.Ok := ⟨Tryz.ttOk, Tryz.func125, rfl⟩
noncomputable def Tryz.S126 : Setting := { P := Tryz.prog, tt := Tryz.tt, f := 126, fn := Tryz.f126, live := [0, 1, 2, 4], res := [.tmp 2] }
instance Tryz.S126ok : Tryz.S126.Ok := ⟨Tryz.ttOk, Tryz.func126, rfl⟩
noncomputable def Tryz.S127 : Setting := { P := Tryz.prog, tt := Tryz.tt, f := 127, fn := Tryz.f127, live := [0, 1, 2, 3, 5, 10, 11, 12], res := [.tmp 2] }
instance Tryz.S127ok : Tryz.S127.Ok := ⟨Tryz.ttOk, Tryz.func127, rfl⟩
noncomputable def Tryz.S128 : Setting := { P := Tryz.prog, tt := Tryz.tt, f := 128, fn := Tryz.f128, live := [0, 1, 2], res := [.tmp 2] }
instance Tryz.S128ok : Tryz.S128.Ok := ⟨Tryz.ttOk, Tryz.func128, rfl⟩
noncomputable def Tryz.S129 : Setting := { P := Tryz.prog, tt := Tryz.tt, f := 129, fn := Tryz.f129, live := [0, 1, 2, 3, 6], res := [] }
instance Tryz.S129ok : Tryz.S129.Ok := ⟨Tryz.ttOk, Tryz.func129, rfl⟩
noncomputable def Tryz.S130 : Setting := { P := Tryz.prog, tt := Tryz.tt, f := 130, fn := Tryz.f130, live := [0, 1, 2, 3, 6, 7, 8, 9, 10, 11, 12, 31, 32, 33, 48, 49, 50], res := [.tmp 6] }
instance Tryz.S130ok : Tryz.S130.Ok := ⟨Tryz.ttOk, Tryz.func130, rfl⟩
noncomputable def Tryz.S131 : Setting := { P := Tryz.prog, tt := Tryz.tt, f := 131, fn := Tryz.f131, live := [0, 1, 2, 6, 7, 8], res := [.tmp 6] }
instance Tryz.S131ok : Tryz.S131.Ok := ⟨Tryz.ttOk, Tryz.func131, rfl⟩
noncomputable def Tryz.S132 : Setting := { P := Tryz.prog, tt := Tryz.tt, f := 132, fn := Tryz.f132, live := [0, 1, 4, 5, 6, 7, 8, 9, 10], res := [.tmp 4] }
instance Tryz.S132ok : Tryz.S132.Ok := ⟨Tryz.ttOk, Tryz.func132, rfl⟩
noncomputable def Tryz.S133 : Setting := { P := Tryz.prog, tt := Tryz.tt, f := 133, fn := Tryz.f133, live := [0, 1, 4], res := [.tmp 4] }
instance Tryz.S133ok : Tryz.S133.Ok := ⟨Tryz.ttOk, Tryz.func133, rfl⟩
noncomputable def Tryz.S134 : Setting := { P := Tryz.prog, tt := Tryz.tt, f := 134, fn := Tryz.f134, live := [0, 1, 4], res := [.tmp 4] }
instance Tryz.S134ok : Tryz.S134.Ok := ⟨Tryz.ttOk, Tryz.func134, rfl⟩
noncomputable def Tryz.S135 : Setting := { P := Tryz.prog, tt := Tryz.tt, f := 135, fn := Tryz.f135, live := [0, 1, 2, 4, 5, 6, 7, 8, 9, 10, 11, 12, 13, 14, 15, 16], res := [.tmp 4] }
instance Tryz.S135ok : Tryz.S135.Ok := ⟨Tryz.ttOk, Tryz.func135, rfl⟩
noncomputable def Tryz.S136 : Setting := { P := Tryz.prog, tt := Tryz.tt, f := 136, fn := Tryz.f136, live := [0, 1, 2, 3, 4], res := [.tmp 2] }
instance Tryz.S136ok : Tryz.S136.Ok := ⟨Tryz.ttOk, Tryz.func136, rfl⟩
noncomputable def Tryz.S137 : Setting := { P := Tryz.prog, tt := Tryz.tt, f := 137, fn := Tryz.f137, live := [0, 1, 2], res := [.tmp 2] }
instance Tryz.S137ok : Tryz.S137.Ok := ⟨Tryz.ttOk, Tryz.func137, rfl⟩
noncomputable def Tryz.S138 : Setting := { P := Tryz.prog, tt := Tryz.tt, f := 138, fn := Tryz.f138, live := [0, 1, 2, 4, 6], res := [.tmp 4] }
instance Tryz.S138ok : Tryz.S138.Ok := ⟨Tryz.ttOk, Tryz.func138, rfl⟩
noncomputable def Tryz.S139 : Setting := { P := Tryz.prog, tt := Tryz.tt, f := 139, fn := Tryz.f139, live := [0, 2], res := [.tmp 2] }
instance Tryz.S139ok : Tryz.S139.Ok := ⟨Tryz.ttOk, Tryz.func139, rfl⟩
noncomputable def Tryz.S140 : Setting := { P := Tryz.prog, tt := Tryz.tt, f := 140, fn := Tryz.f140, live := [0, 2, 3, 4], res := [.tmp 2] }
instance Tryz.S140ok : Tryz.S140.Ok := ⟨Tryz.ttOk, Tryz.func140, rfl⟩
noncomputable def Tryz.S141 : Setting := { P := Tryz.prog, tt := Tryz.tt, f := 141, fn := Tryz.f141, live := [0, 1, 4], res := [.tmp 4] }
instance Tryz.S141ok : Tryz.S141.Ok := ⟨Tryz.ttOk, Tryz.func141, rfl⟩
noncomputable def Tryz.S142 : Setting := { P := Tryz.prog, tt := Tryz.tt, f := 142, fn := Tryz.f142, live := [0, 2, 3, 4], res := [.tmp 2] }
instance Tryz.S142ok : Tryz.S142.Ok := ⟨Tryz.ttOk, Tryz.func142, rfl⟩
noncomputable def Tryz.S143 : Setting := { P := Tryz.prog, tt := Tryz.tt, f := 143, fn := Tryz.f143, live := [0, 1, 2, 3, 4, 8, 9, 10, 11, 12, 13, 14, 15, 16, 17, 18, 102], res := [.cell 8 33, .tmp 9] }
instance Tryz.S143ok : Tryz.S143.Ok := ⟨Tryz.ttOk, Tryz.func143, rfl⟩
noncomputable def Tryz.S144 : Setting := { P := Tryz.prog, tt := Tryz.tt, f := 144, fn := Tryz.f144, live := [0, 1, 2, 3, 6, 7, 8, 9], res := [.cell 6 33, .tmp 7] }
instance Tryz.S144ok : Tryz.S144.Ok := ⟨Tryz.ttOk, Tryz.func144, rfl⟩
noncomputable def Tryz.S145 : Setting := { P := Tryz.prog, tt := Tryz.tt, f := 145, fn := Tryz.f145, live := [0, 1, 2, 3, 4, 8, 9, 10, 11, 12, 13], res := [.cell 8 33, .tmp 9] }
instance Tryz.S145ok : Tryz.S145.Ok := ⟨Tryz.ttOk, Tryz.func145, rfl⟩
noncomputable def Tryz.S146 : Setting := { P := Tryz.prog, tt := Tryz.tt, f := 146, fn := Tryz.f146, live := [0, 1, 4, 5, 6], res := [.tmp 4] }
instance Tryz.S146ok : Tryz.S146.Ok := ⟨Tryz.ttOk, Tryz.func146, rfl⟩
noncomputable def Tryz.S147 : Setting := { P := Tryz.prog, tt := Tryz.tt, f := 147, fn := Tryz.f147, live := [0, 1, 2, 3, 4, 5, 6, 7, 8, 9], res := [.cell 2 33] }
instance Tryz.S147ok : Tryz.S147.Ok := ⟨Tryz.ttOk, Tryz.func147, rfl⟩
noncomputable def Tryz.S148 : Setting := { P := Tryz.prog, tt := Tryz.tt, f := 148, fn := Tryz.f148, live := [0, 2, 3, 4], res := [.tmp 2] }
instance Tryz.S148ok : Tryz.S148.Ok := ⟨Tryz.ttOk, Tryz.func148, rfl⟩
noncomputable def Tryz.S149 : Setting := { P := Tryz.prog, tt := Tryz.tt, f := 149, fn := Tryz.f149, live := [0, 2, 3, 4], res := [.tmp 2] }
instance Tryz.S149ok : Tryz.S149.Ok := ⟨Tryz.ttOk, Tryz.func149, rfl⟩
noncomputable def Tryz.S150 : Setting := { P := Tryz.prog, tt := Tryz.tt, f := 150, fn := Tryz.f150, live := [0, 1, 2, 4, 5, 6, 8, 10, 12, 14, 15, 16, 44, 45, 46, 55, 56, 57, 87, 88, 89, 100, 101, 102, 138, 139, 140], res := [.tmp 4] }
instance Tryz.S150ok : Tryz.S150.Ok := ⟨Tryz.ttOk, Tryz.func150, rfl⟩
noncomputable def Tryz.S151 : Setting := { P := Tryz.prog, tt := Tryz.tt, f := 151, fn := Tryz.f151, live := [0, 1, 2, 6], res := [.tmp 6] }
instance Tryz.S151ok : Tryz.S151.Ok := ⟨Tryz.ttOk, Tryz.func151, rfl⟩
noncomputable def Tryz.S152 : Setting := { P := Tryz.prog, tt := Tryz.tt, f := 152, fn := Tryz.f152, live := [0, 1, 4], res := [.tmp 4] }
instance Tryz.S152ok : Tryz.S152.Ok := ⟨Tryz.ttOk, Tryz.func152, rfl⟩
noncomputable def Tryz.S153 : Setting := { P := Tryz.prog, tt := Tryz.tt, f := 153, fn := Tryz.f153, live := [0, 1, 2, 6, 7], res := [.tmp 6] }
instance Tryz.S153ok : Tryz.S153.Ok := ⟨Tryz.ttOk, Tryz.func153, rfl⟩
noncomputable def Tryz.S154 : Setting := { P := Tryz.prog, tt := Tryz.tt, f := 154, fn := Tryz.f154, live := [0, 1, 2, 6, 7, 8], res := [.tmp 6] }
instance Tryz.S154ok : Tryz.S154.Ok := ⟨Tryz.ttOk, Tryz.func154, rfl⟩
noncomputable def Tryz.S155 : Setting := { P := Tryz.prog, tt := Tryz.tt, f := 155, fn := Tryz.f155, live := [0, 1, 4, 5], res := [.tmp 4] }
instance Tryz.S155ok : Tryz.S155.Ok := ⟨Tryz.ttOk, Tryz.func155, rfl⟩
noncomputable def Tryz.S156 : Setting := { P := Tryz.prog, tt := Tryz.tt, f := 156, fn := Tryz.f156, live := [0, 1, 2, 3, 8, 9, 10], res := [.tmp 8] }
instance Tryz.S156ok : Tryz.S156.Ok := ⟨Tryz.ttOk, Tryz.func156, rfl⟩
noncomputable def Tryz.S157 : Setting := { P := Tryz.prog, tt := Tryz.tt, f := 157, fn := Tryz.f157, live := [0, 1, 4, 5, 7, 8, 9, 10], res := [.tmp 4] }
instance Tryz.S157ok : Tryz.S157.Ok := ⟨Tryz.ttOk, Tryz.func157, rfl⟩
noncomputable def Tryz.S158 : Setting := { P := Tryz.prog, tt := Tryz.tt, f := 158, fn := Tryz.f158, live := [0, 1, 4, 5], res := [.tmp 4] }
instance Tryz.S158ok : Tryz.S158.Ok := ⟨Tryz.ttOk, Tryz.func158, rfl⟩
noncomputable def Tryz.S159 : Setting := { P := Tryz.prog, tt := Tryz.tt, f := 159, fn := Tryz.f159, live := [0, 1, 2, 3, 4, 5, 6, 11, 12, 13, 14, 15, 16, 17, 18, 19, 20, 21, 22, 23, 24, 25, 26, 27, 28, 29, 30, 31, 138], res := [.cell 12 41, .tmp 13] }
instance Tryz.S159ok : Tryz.S159.Ok := ⟨Tryz.ttOk, Tryz.func159, rfl⟩
noncomputable def Tryz.S160 : Setting := { P := Tryz.prog, tt := Tryz.tt, f := 160, fn := Tryz.f160, live := [0, 1, 3, 4, 5, 6, 7, 8, 9, 10, 11, 12, 13, 14, 15, 16, 17, 18, 19, 20, 21, 22, 23, 24], res := [.cell 4 41] }
instance Tryz.S160ok : Tryz.S160.Ok := ⟨Tryz.ttOk, Tryz.func160, rfl⟩
noncomputable def Tryz.S161 : Setting := { P := Tryz.prog, tt := Tryz.tt, f := 161, fn := Tryz.f161, live := [0, 1, 2, 3, 4, 5], res := [.tmp 2] }
instance Tryz.S161ok : Tryz.S161.Ok := ⟨Tryz.ttOk, Tryz.func161, rfl⟩
noncomputable def Tryz.S162 : Setting := { P := Tryz.prog, tt := Tryz.tt, f := 162, fn := Tryz.f162, live := [0, 2], res := [.tmp 2] }
instance Tryz.S162ok : Tryz.S162.Ok := ⟨Tryz.ttOk, Tryz.func162, rfl⟩
noncomputable def Tryz.S163 : Setting := { P := Tryz.prog, tt := Tryz.tt, f := 163, fn := Tryz.f163, live := [0, 2], res := [.tmp 2] }
instance Tryz.S163ok : Tryz.S163.Ok := ⟨Tryz.ttOk, Tryz.func163, rfl⟩
noncomputable def Tryz.S164 : Setting := { P := Tryz.prog, tt := Tryz.tt, f := 164, fn := Tryz.f164, live := [0, 1, 2], res := [.tmp 2] }
instance Tryz.S164ok : Tryz.S164.Ok := ⟨Tryz.ttOk, Tryz.func164, rfl⟩
noncomputable def Tryz.S165 : Setting := { P := Tryz.prog, tt := Tryz.tt, f := 165, fn := Tryz.f165, live := [0, 1, 4], res := [.tmp 4] }
instance Tryz.S165ok : Tryz.S165.Ok := ⟨Tryz.ttOk, Tryz.func165, rfl⟩
noncomputable def Tryz.S166 : Setting := { P := Tryz.prog, tt := Tryz.tt, f := 166, fn := Tryz.f166, live := [0, 2, 3], res := [.tmp 2] }
instance Tryz.S166ok : Tryz.S166.Ok := ⟨Tryz.ttOk, Tryz.func166, rfl⟩
noncomputable def Tryz.S167 : Setting := { P := Tryz.prog, tt := Tryz.tt, f := 167, fn := Tryz.f167, live := [0, 1, 2, 4, 5, 6, 7, 8], res := [.tmp 4] }
instance Tryz.S167ok : Tryz.S167.Ok := ⟨Tryz.ttOk, Tryz.func167, rfl⟩
noncomputable def Tryz.S168 : Setting := { P := Tryz.prog, tt := Tryz.tt, f := 168, fn := Tryz.f168, live := [0, 1, 2, 3, 6, 7, 8, 9, 10, 11, 12, 13, 14], res := [.tmp 6] }
instance Tryz.S168ok : Tryz.S168.Ok := ⟨Tryz.ttOk, Tryz.func168, rfl⟩
noncomputable def Tryz.S169 : Setting := { P := Tryz.prog, tt := Tryz.tt, f := 169, fn := Tryz.f169, live := [0, 1, 2, 4, 5], res := [.tmp 4] }
instance Tryz.S169ok : Tryz.S169.Ok := ⟨Tryz.ttOk, Tryz.func169, rfl⟩
noncomputable def Tryz.S170 : Setting := { P := Tryz.prog, tt := Tryz.tt, f := 170, fn := Tryz.f170, live := [0, 1, 2, 4], res := [.tmp 4] }
instance Tryz.S170ok : Tryz.S170.Ok := ⟨Tryz.ttOk, Tryz.func170, rfl⟩
noncomputable def Tryz.S171 : Setting := { P := Tryz.prog, tt := Tryz.tt, f := 171, fn := Tryz.f171, live := [0, 1, 2, 3, 4], res := [.tmp 2] }
instance Tryz.S171ok : Tryz.S171.Ok := ⟨Tryz.ttOk, Tryz.func171, rfl⟩
noncomputable def Tryz.S172 : Setting := { P := Tryz.prog, tt := Tryz.tt, f := 172, fn := Tryz.f172, live := [0, 2], res := [.tmp 2] }
instance Tryz.S172ok : Tryz.S172.Ok := ⟨Tryz.ttOk, Tryz.func172, rfl⟩
noncomputable def Tryz.S173 : Setting := { P := Tryz.prog, tt := Tryz.tt, f := 173, fn := Tryz.f173, live := [0, 1, 2, 3, 4, 8, 9, 10, 11, 12, 13, 14, 15, 16], res := [.cell 8 33, .tmp 9] }
instance Tryz.S173ok : Tryz.S173.Ok := ⟨Tryz.ttOk, Tryz.func173, rfl⟩
noncomputable def Tryz.S174 : Setting := { P := Tryz.prog, tt := Tryz.tt, f := 174, fn := Tryz.f174, live := [0, 1, 2, 3, 6, 7, 8, 9, 10], res := [.cell 6 33, .tmp 7] }
instance Tryz.S174ok : Tryz.S174.Ok := ⟨Tryz.ttOk, Tryz.func174, rfl⟩
noncomputable def Tryz.S175 : Setting := { P := Tryz.prog, tt := Tryz.tt, f := 175, fn := Tryz.f175, live := [0, 1, 2, 3, 4, 5, 8, 9, 10, 11], res := [.cell 8 33, .tmp 9] }
instance Tryz.S175ok : Tryz.S175.Ok := ⟨Tryz.ttOk, Tryz.func175, rfl⟩
noncomputable def Tryz.S176 : Setting := { P := Tryz.prog, tt := Tryz.tt, f := 176, fn := Tryz.f176, live := [0, 1, 2, 3, 4, 5], res := [.tmp 2] }
instance Tryz.S176ok : Tryz.S176.Ok := ⟨Tryz.ttOk, Tryz.func176, rfl⟩
noncomputable def Tryz.S177 : Setting := { P := Tryz.prog, tt := Tryz.tt, f := 177, fn := Tryz.f177, live := [0, 1, 2, 3], res := [.cell 2 132] }
instance Tryz.S177ok : Tryz.S177.Ok := ⟨Tryz.ttOk, Tryz.func177, rfl⟩
noncomputable def Tryz.S178 : Setting := { P := Tryz.prog, tt := Tryz.tt, f := 178, fn := Tryz.f178, live := [0, 1, 2, 4, 10, 11, 12], res := [.tmp 2] }
instance Tryz.S178ok : Tryz.S178.Ok := ⟨Tryz.ttOk, Tryz.func178, rfl⟩
noncomputable def Tryz.S179 : Setting := { P := Tryz.prog, tt := Tryz.tt, f := 179, fn := Tryz.f179, live := [0, 1, 2, 4, 6, 12, 13, 14], res := [.tmp 4] }
instance Tryz.S179ok : Tryz.S179.Ok := ⟨Tryz.ttOk, Tryz.func179, rfl⟩
noncomputable def Tryz.S180 : Setting := { P := Tryz.prog, tt := Tryz.tt, f := 180, fn := Tryz.f180, live := [0, 1, 2], res := [.tmp 2] }
instance Tryz.S180ok : Tryz.S180.Ok := ⟨Tryz.ttOk, Tryz.func180, rfl⟩
noncomputable def Tryz.S181 : Setting := { P := Tryz.prog, tt := Tryz.tt, f := 181, fn := Tryz.f181, live := [0, 2], res := [.tmp 2] }
instance Tryz.S181ok : Tryz.S181.Ok := ⟨Tryz.ttOk, Tryz.func181, rfl⟩
noncomputable def Tryz.S182 : Setting := { P := Tryz.prog, tt := Tryz.tt, f := 182, fn := Tryz.f182, live := [0, 1, 4, 5, 7, 16, 17, 18], res := [.tmp 4] }
instance Tryz.S182ok : Tryz.S182.Ok := ⟨Tryz.ttOk, Tryz.func182, rfl⟩
noncomputable def Tryz.S183 : Setting := { P := Tryz.prog, tt := Tryz.tt, f := 183, fn := Tryz.f183, live := [0, 1, 2, 3, 4, 5, 6, 7, 8, 9, 21, 22, 23], res := [.tmp 6] }
instance Tryz.S183ok : Tryz.S183.Ok := ⟨Tryz.ttOk, Tryz.func183, rfl⟩
noncomputable def Tryz.S184 : Setting := { P := Tryz.prog, tt := Tryz.tt, f := 184, fn := Tryz.f184, live := [0, 1, 2, 4], res := [.tmp 4] }
instance Tryz.S184ok : Tryz.S184.Ok := ⟨Tryz.ttOk, Tryz.func184, rfl⟩
noncomputable def Tryz.S185 : Setting := { P := Tryz.prog, tt := Tryz.tt, f := 185, fn := Tryz.f185, live := [0, 1, 2, 4, 5, 6, 7, 9, 11, 13, 14, 15, 16, 28, 29, 30, 40, 41, 42, 52, 53, 54, 65, 66, 67], res := [.tmp 4] }
instance Tryz.S185ok : Tryz.S185.Ok := ⟨Tryz.ttOk, Tryz.func185, rfl⟩
noncomputable def Tryz.S186 : Setting := { P := Tryz.prog, tt := Tryz.tt, f := 186, fn := Tryz.f186, live := [0, 1, 2, 3, 4], res := [.tmp 4] }
instance Tryz.S186ok : Tryz.S186.Ok := ⟨Tryz.ttOk, Tryz.func186, rfl⟩
noncomputable def Tryz.S187 : Setting := { P := Tryz.prog, tt := Tryz.tt, f := 187, fn := Tryz.f187, live := [0, 1, 4], res := [.tmp 4] }
instance Tryz.S187ok : Tryz.S187.Ok := ⟨Tryz.ttOk, Tryz.func187, rfl⟩
noncomputable def Tryz.S188 : Setting := { P := Tryz.prog, tt := Tryz.tt, f := 188, fn := Tryz.f188, live := [0, 1, 4], res := [.tmp 4] }
instance Tryz.S188ok : Tryz.S188.Ok := ⟨Tryz.ttOk, Tryz.func188, rfl⟩
noncomputable def Tryz.S189 : Setting := { P := Tryz.prog, tt := Tryz.tt, f := 189, fn := Tryz.f189, live := [0, 1, 2, 3, 5, 8], res := [.cell 8 41] }
instance Tryz.S189ok : Tryz.S189.Ok := ⟨Tryz.ttOk, Tryz.func189, rfl⟩
noncomputable def Tryz.S190 : Setting := { P := Tryz.prog, tt := Tryz.tt, f := 190, fn := Tryz.f190, live := [0, 1, 2, 4, 5, 6], res := [.tmp 4] }
instance Tryz.S190ok : Tryz.S190.Ok := ⟨Tryz.ttOk, Tryz.func190, rfl⟩
noncomputable def Tryz.S191 : Setting := { P := Tryz.prog, tt := Tryz.tt, f := 191, fn := Tryz.f191, live := [0, 1, 2, 3, 4, 5, 11, 12, 13], res := [.tmp 2] }
instance Tryz.S191ok : Tryz.S191.Ok := ⟨Tryz.ttOk, Tryz.func191, rfl⟩
noncomputable def Tryz.S192 : Setting := { P := Tryz.prog, tt := Tryz.tt, f := 192, fn := Tryz.f192, live := [0, 1, 2, 4], res := [.tmp 4] }
instance Tryz.S192ok : Tryz.S192.Ok := ⟨Tryz.ttOk, Tryz.func192, rfl⟩
noncomputable def Tryz.S193 : Setting := { P := Tryz.prog, tt := Tryz.tt, f := 193, fn := Tryz.f193, live := [0, 1], res := [] }
instance Tryz.S193ok : Tryz.S193.Ok := ⟨Tryz.ttOk, Tryz.func193, rfl⟩
noncomputable def Tryz.S194 : Setting := { P := Tryz.prog, tt := Tryz.tt, f := 194, fn := Tryz.f194, live := [0, 1, 2, 6, 7, 8, 9, 10, 18], res := [.tmp 6] }
instance Tryz.S194ok : Tryz.S194.Ok := ⟨Tryz.ttOk, Tryz.func194, rfl⟩
end Go.Proofs
