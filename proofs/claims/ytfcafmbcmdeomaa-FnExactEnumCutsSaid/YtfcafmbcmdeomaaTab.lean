/- The table of the types and the settings of the functions, by program (fill.py); no condition. -/
import Derived.Test.YtfcafmbcmdeomaaProg
import Derived.Test.YtfcafmbcmdeomaaCore
import Derived.KernelRfl
set_option linter.all false
namespace Go.Proofs
open Go.Xw
set_option maxRecDepth 100000
noncomputable def Try.ti2 : TI := { desc := .int .i64, size := 1, bytes := 8, zero := .int .i64 0, plain := false }
theorem Try.ti2ok : tiOk Try.prog 2 Try.ti2 := by
  refine ⟨_, _, rfl, ?_, ?_, ?_, Try.underlying2, ?_, fun h => by cases h⟩ <;> kernel_rfl
noncomputable def Try.ti3 : TI := { desc := .int .i64, size := 1, bytes := 8, zero := .int .i64 0, plain := false }
theorem Try.ti3ok : tiOk Try.prog 3 Try.ti3 := by
  refine ⟨_, _, rfl, ?_, ?_, ?_, Try.underlying3, ?_, fun h => by cases h⟩ <;> kernel_rfl
noncomputable def Try.ti4 : TI := { desc := .bool, size := 1, bytes := 1, zero := .bool false, plain := false }
theorem Try.ti4ok : tiOk Try.prog 4 Try.ti4 := by
  refine ⟨_, _, rfl, ?_, ?_, ?_, Try.underlying4, ?_, fun h => by cases h⟩ <;> kernel_rfl
noncomputable def Try.ti5 : TI := { desc := .int .u8, size := 1, bytes := 1, zero := .int .u8 0, plain := false }
theorem Try.ti5ok : tiOk Try.prog 5 Try.ti5 := by
  refine ⟨_, _, rfl, ?_, ?_, ?_, Try.underlying5, ?_, fun h => by cases h⟩ <;> kernel_rfl
noncomputable def Try.ti9 : TI := { desc := .string, size := 1, bytes := 16, zero := .string ByteArray.empty, plain := false }
theorem Try.ti9ok : tiOk Try.prog 9 Try.ti9 := by
  refine ⟨_, _, rfl, ?_, ?_, ?_, Try.underlying9, ?_, fun h => by cases h⟩ <;> kernel_rfl
noncomputable def Try.ti12 : TI := { desc := .int .u64, size := 1, bytes := 8, zero := .int .u64 0, plain := false }
theorem Try.ti12ok : tiOk Try.prog 12 Try.ti12 := by
  refine ⟨_, _, rfl, ?_, ?_, ?_, Try.underlying12, ?_, fun h => by cases h⟩ <;> kernel_rfl
noncomputable def Try.ti21 : TI := { desc := .int .i32, size := 1, bytes := 4, zero := .int .i32 0, plain := false }
theorem Try.ti21ok : tiOk Try.prog 21 Try.ti21 := by
  refine ⟨_, _, rfl, ?_, ?_, ?_, Try.underlying21, ?_, fun h => by cases h⟩ <;> kernel_rfl
noncomputable def Try.ti22 : TI := { desc := .slice 128, size := 1, bytes := 24, zero := .slice none 0 0, plain := false }
theorem Try.ti22ok : tiOk Try.prog 22 Try.ti22 := by
  refine ⟨_, _, rfl, ?_, ?_, ?_, Try.underlying22, ?_, fun h => by cases h⟩ <;> kernel_rfl
noncomputable def Try.ti23 : TI := { desc := .slice 132, size := 1, bytes := 24, zero := .slice none 0 0, plain := false }
theorem Try.ti23ok : tiOk Try.prog 23 Try.ti23 := by
  refine ⟨_, _, rfl, ?_, ?_, ?_, Try.underlying23, ?_, fun h => by cases h⟩ <;> kernel_rfl
noncomputable def Try.ti24 : TI := { desc := .slice 3, size := 1, bytes := 24, zero := .slice none 0 0, plain := false }
theorem Try.ti24ok : tiOk Try.prog 24 Try.ti24 := by
  refine ⟨_, _, rfl, ?_, ?_, ?_, Try.underlying24, ?_, fun h => by cases h⟩ <;> kernel_rfl
noncomputable def Try.ti25 : TI := { desc := .struct [(0, 3), (1, 22), (2, 23), (3, 24)], size := 4, bytes := 80, zero := .agg #[.int .i64 0, .slice none 0 0, .slice none 0 0, .slice none 0 0], plain := false }
theorem Try.ti25ok : tiOk Try.prog 25 Try.ti25 := by
  refine ⟨_, _, rfl, ?_, ?_, ?_, Try.underlying25, ?_, fun h => by cases h⟩ <;> kernel_rfl
noncomputable def Try.ti26 : TI := { desc := .struct [(0, 3), (1, 22), (2, 23), (3, 24)], size := 4, bytes := 80, zero := .agg #[.int .i64 0, .slice none 0 0, .slice none 0 0, .slice none 0 0], plain := false }
theorem Try.ti26ok : tiOk Try.prog 26 Try.ti26 := by
  refine ⟨_, _, rfl, ?_, ?_, ?_, Try.underlying26, ?_, fun h => by cases h⟩ <;> kernel_rfl
noncomputable def Try.ti29 : TI := { desc := .slice 99, size := 1, bytes := 24, zero := .slice none 0 0, plain := false }
theorem Try.ti29ok : tiOk Try.prog 29 Try.ti29 := by
  refine ⟨_, _, rfl, ?_, ?_, ?_, Try.underlying29, ?_, fun h => by cases h⟩ <;> kernel_rfl
noncomputable def Try.ti30 : TI := { desc := .slice 103, size := 1, bytes := 24, zero := .slice none 0 0, plain := false }
theorem Try.ti30ok : tiOk Try.prog 30 Try.ti30 := by
  refine ⟨_, _, rfl, ?_, ?_, ?_, Try.underlying30, ?_, fun h => by cases h⟩ <;> kernel_rfl
noncomputable def Try.ti31 : TI := { desc := .struct [(0, 3), (1, 29), (2, 30), (3, 24)], size := 4, bytes := 80, zero := .agg #[.int .i64 0, .slice none 0 0, .slice none 0 0, .slice none 0 0], plain := false }
theorem Try.ti31ok : tiOk Try.prog 31 Try.ti31 := by
  refine ⟨_, _, rfl, ?_, ?_, ?_, Try.underlying31, ?_, fun h => by cases h⟩ <;> kernel_rfl
noncomputable def Try.ti32 : TI := { desc := .struct [(0, 3), (1, 29), (2, 30), (3, 24)], size := 4, bytes := 80, zero := .agg #[.int .i64 0, .slice none 0 0, .slice none 0 0, .slice none 0 0], plain := false }
theorem Try.ti32ok : tiOk Try.prog 32 Try.ti32 := by
  refine ⟨_, _, rfl, ?_, ?_, ?_, Try.underlying32, ?_, fun h => by cases h⟩ <;> kernel_rfl
noncomputable def Try.ti39 : TI := { desc := .slice 5, size := 1, bytes := 24, zero := .slice none 0 0, plain := false }
theorem Try.ti39ok : tiOk Try.prog 39 Try.ti39 := by
  refine ⟨_, _, rfl, ?_, ?_, ?_, Try.underlying39, ?_, fun h => by cases h⟩ <;> kernel_rfl
noncomputable def Try.ti50 : TI := { desc := .slice 110, size := 1, bytes := 24, zero := .slice none 0 0, plain := false }
theorem Try.ti50ok : tiOk Try.prog 50 Try.ti50 := by
  refine ⟨_, _, rfl, ?_, ?_, ?_, Try.underlying50, ?_, fun h => by cases h⟩ <;> kernel_rfl
noncomputable def Try.ti55 : TI := { desc := .slice 107, size := 1, bytes := 24, zero := .slice none 0 0, plain := false }
theorem Try.ti55ok : tiOk Try.prog 55 Try.ti55 := by
  refine ⟨_, _, rfl, ?_, ?_, ?_, Try.underlying55, ?_, fun h => by cases h⟩ <;> kernel_rfl
noncomputable def Try.ti60 : TI := { desc := .slice 24, size := 1, bytes := 24, zero := .slice none 0 0, plain := false }
theorem Try.ti60ok : tiOk Try.prog 60 Try.ti60 := by
  refine ⟨_, _, rfl, ?_, ?_, ?_, Try.underlying60, ?_, fun h => by cases h⟩ <;> kernel_rfl
noncomputable def Try.ti81 : TI := { desc := .pointer 149, size := 1, bytes := 8, zero := .pointer none, plain := false }
theorem Try.ti81ok : tiOk Try.prog 81 Try.ti81 := by
  refine ⟨_, _, rfl, ?_, ?_, ?_, Try.underlying81, ?_, fun h => by cases h⟩ <;> kernel_rfl
noncomputable def Try.ti87 : TI := { desc := .slice 4, size := 1, bytes := 24, zero := .slice none 0 0, plain := false }
theorem Try.ti87ok : tiOk Try.prog 87 Try.ti87 := by
  refine ⟨_, _, rfl, ?_, ?_, ?_, Try.underlying87, ?_, fun h => by cases h⟩ <;> kernel_rfl
noncomputable def Try.ti89 : TI := { desc := .pointer 91, size := 1, bytes := 8, zero := .pointer none, plain := false }
theorem Try.ti89ok : tiOk Try.prog 89 Try.ti89 := by
  refine ⟨_, _, rfl, ?_, ?_, ?_, Try.underlying89, ?_, fun h => by cases h⟩ <;> kernel_rfl
noncomputable def Try.ti90 : TI := { desc := .struct [(0, 32), (4, 24)], size := 5, bytes := 104, zero := .agg #[.int .i64 0, .slice none 0 0, .slice none 0 0, .slice none 0 0, .slice none 0 0], plain := false }
theorem Try.ti90ok : tiOk Try.prog 90 Try.ti90 := by
  refine ⟨_, _, rfl, ?_, ?_, ?_, Try.underlying90, ?_, fun h => by cases h⟩ <;> kernel_rfl
noncomputable def Try.ti91 : TI := { desc := .struct [(0, 32), (4, 24)], size := 5, bytes := 104, zero := .agg #[.int .i64 0, .slice none 0 0, .slice none 0 0, .slice none 0 0, .slice none 0 0], plain := false }
theorem Try.ti91ok : tiOk Try.prog 91 Try.ti91 := by
  refine ⟨_, _, rfl, ?_, ?_, ?_, Try.underlying91, ?_, fun h => by cases h⟩ <;> kernel_rfl
noncomputable def Try.ti95 : TI := { desc := .pointer 32, size := 1, bytes := 8, zero := .pointer none, plain := false }
theorem Try.ti95ok : tiOk Try.prog 95 Try.ti95 := by
  refine ⟨_, _, rfl, ?_, ?_, ?_, Try.underlying95, ?_, fun h => by cases h⟩ <;> kernel_rfl
noncomputable def Try.ti98 : TI := { desc := .struct [(0, 3), (1, 3), (2, 24)], size := 3, bytes := 40, zero := .agg #[.int .i64 0, .int .i64 0, .slice none 0 0], plain := false }
theorem Try.ti98ok : tiOk Try.prog 98 Try.ti98 := by
  refine ⟨_, _, rfl, ?_, ?_, ?_, Try.underlying98, ?_, fun h => by cases h⟩ <;> kernel_rfl
noncomputable def Try.ti99 : TI := { desc := .struct [(0, 3), (1, 3), (2, 24)], size := 3, bytes := 40, zero := .agg #[.int .i64 0, .int .i64 0, .slice none 0 0], plain := false }
theorem Try.ti99ok : tiOk Try.prog 99 Try.ti99 := by
  refine ⟨_, _, rfl, ?_, ?_, ?_, Try.underlying99, ?_, fun h => by cases h⟩ <;> kernel_rfl
noncomputable def Try.ti102 : TI := { desc := .struct [(0, 3), (1, 3)], size := 2, bytes := 16, zero := .agg #[.int .i64 0, .int .i64 0], plain := true }
theorem Try.ti102ok : tiOk Try.prog 102 Try.ti102 := by
  refine ⟨_, _, rfl, ?_, ?_, ?_, Try.underlying102, ?_, fun _ => ⟨by kernel_rfl, by kernel_rfl, by intro f hf; simp at hf; (repeat (first | (rcases hf with rfl | hf; · decide) | (subst hf; decide)))⟩⟩ <;> kernel_rfl
noncomputable def Try.ti103 : TI := { desc := .struct [(0, 3), (1, 3)], size := 2, bytes := 16, zero := .agg #[.int .i64 0, .int .i64 0], plain := true }
theorem Try.ti103ok : tiOk Try.prog 103 Try.ti103 := by
  refine ⟨_, _, rfl, ?_, ?_, ?_, Try.underlying103, ?_, fun _ => ⟨by kernel_rfl, by kernel_rfl, by intro f hf; simp at hf; (repeat (first | (rcases hf with rfl | hf; · decide) | (subst hf; decide)))⟩⟩ <;> kernel_rfl
noncomputable def Try.ti106 : TI := { desc := .struct [(0, 3), (1, 3)], size := 2, bytes := 16, zero := .agg #[.int .i64 0, .int .i64 0], plain := true }
theorem Try.ti106ok : tiOk Try.prog 106 Try.ti106 := by
  refine ⟨_, _, rfl, ?_, ?_, ?_, Try.underlying106, ?_, fun _ => ⟨by kernel_rfl, by kernel_rfl, by intro f hf; simp at hf; (repeat (first | (rcases hf with rfl | hf; · decide) | (subst hf; decide)))⟩⟩ <;> kernel_rfl
noncomputable def Try.ti107 : TI := { desc := .struct [(0, 3), (1, 3)], size := 2, bytes := 16, zero := .agg #[.int .i64 0, .int .i64 0], plain := true }
theorem Try.ti107ok : tiOk Try.prog 107 Try.ti107 := by
  refine ⟨_, _, rfl, ?_, ?_, ?_, Try.underlying107, ?_, fun _ => ⟨by kernel_rfl, by kernel_rfl, by intro f hf; simp at hf; (repeat (first | (rcases hf with rfl | hf; · decide) | (subst hf; decide)))⟩⟩ <;> kernel_rfl
noncomputable def Try.ti110 : TI := { desc := .struct [(0, 3), (1, 3)], size := 2, bytes := 16, zero := .agg #[.int .i64 0, .int .i64 0], plain := true }
theorem Try.ti110ok : tiOk Try.prog 110 Try.ti110 := by
  refine ⟨_, _, rfl, ?_, ?_, ?_, Try.underlying110, ?_, fun _ => ⟨by kernel_rfl, by kernel_rfl, by intro f hf; simp at hf; (repeat (first | (rcases hf with rfl | hf; · decide) | (subst hf; decide)))⟩⟩ <;> kernel_rfl
noncomputable def Try.ti115 : TI := { desc := .slice 60, size := 1, bytes := 24, zero := .slice none 0 0, plain := false }
theorem Try.ti115ok : tiOk Try.prog 115 Try.ti115 := by
  refine ⟨_, _, rfl, ?_, ?_, ?_, Try.underlying115, ?_, fun h => by cases h⟩ <;> kernel_rfl
noncomputable def Try.ti128 : TI := { desc := .struct [(0, 3), (1, 3), (2, 24)], size := 3, bytes := 40, zero := .agg #[.int .i64 0, .int .i64 0, .slice none 0 0], plain := false }
theorem Try.ti128ok : tiOk Try.prog 128 Try.ti128 := by
  refine ⟨_, _, rfl, ?_, ?_, ?_, Try.underlying128, ?_, fun h => by cases h⟩ <;> kernel_rfl
noncomputable def Try.ti132 : TI := { desc := .struct [(0, 3), (1, 3)], size := 2, bytes := 16, zero := .agg #[.int .i64 0, .int .i64 0], plain := true }
theorem Try.ti132ok : tiOk Try.prog 132 Try.ti132 := by
  refine ⟨_, _, rfl, ?_, ?_, ?_, Try.underlying132, ?_, fun _ => ⟨by kernel_rfl, by kernel_rfl, by intro f hf; simp at hf; (repeat (first | (rcases hf with rfl | hf; · decide) | (subst hf; decide)))⟩⟩ <;> kernel_rfl
noncomputable def Try.ti133 : TI := { desc := .pointer 136, size := 1, bytes := 8, zero := .pointer none, plain := false }
theorem Try.ti133ok : tiOk Try.prog 133 Try.ti133 := by
  refine ⟨_, _, rfl, ?_, ?_, ?_, Try.underlying133, ?_, fun h => by cases h⟩ <;> kernel_rfl
noncomputable def Try.ti134 : TI := { desc := .map 169 3, size := 1, bytes := 8, zero := .map none, plain := false }
theorem Try.ti134ok : tiOk Try.prog 134 Try.ti134 := by
  refine ⟨_, _, rfl, ?_, ?_, ?_, Try.underlying134, ?_, fun h => by cases h⟩ <;> kernel_rfl
noncomputable def Try.ti135 : TI := { desc := .struct [(0, 32), (4, 3), (5, 87), (6, 87), (7, 24), (8, 134)], size := 9, bytes := 168, zero := .agg #[.int .i64 0, .slice none 0 0, .slice none 0 0, .slice none 0 0, .int .i64 0, .slice none 0 0, .slice none 0 0, .slice none 0 0, .map none], plain := false }
theorem Try.ti135ok : tiOk Try.prog 135 Try.ti135 := by
  refine ⟨_, _, rfl, ?_, ?_, ?_, Try.underlying135, ?_, fun h => by cases h⟩ <;> kernel_rfl
noncomputable def Try.ti136 : TI := { desc := .struct [(0, 32), (4, 3), (5, 87), (6, 87), (7, 24), (8, 134)], size := 9, bytes := 168, zero := .agg #[.int .i64 0, .slice none 0 0, .slice none 0 0, .slice none 0 0, .int .i64 0, .slice none 0 0, .slice none 0 0, .slice none 0 0, .map none], plain := false }
theorem Try.ti136ok : tiOk Try.prog 136 Try.ti136 := by
  refine ⟨_, _, rfl, ?_, ?_, ?_, Try.underlying136, ?_, fun h => by cases h⟩ <;> kernel_rfl
noncomputable def Try.ti138 : TI := { desc := .map 143 143, size := 1, bytes := 8, zero := .map none, plain := false }
theorem Try.ti138ok : tiOk Try.prog 138 Try.ti138 := by
  refine ⟨_, _, rfl, ?_, ?_, ?_, Try.underlying138, ?_, fun h => by cases h⟩ <;> kernel_rfl
noncomputable def Try.ti139 : TI := { desc := .pointer 143, size := 1, bytes := 8, zero := .pointer none, plain := false }
theorem Try.ti139ok : tiOk Try.prog 139 Try.ti139 := by
  refine ⟨_, _, rfl, ?_, ?_, ?_, Try.underlying139, ?_, fun h => by cases h⟩ <;> kernel_rfl
noncomputable def Try.ti142 : TI := { desc := .struct [(0, 3), (1, 4)], size := 2, bytes := 16, zero := .agg #[.int .i64 0, .bool false], plain := true }
theorem Try.ti142ok : tiOk Try.prog 142 Try.ti142 := by
  refine ⟨_, _, rfl, ?_, ?_, ?_, Try.underlying142, ?_, fun _ => ⟨by kernel_rfl, by kernel_rfl, by intro f hf; simp at hf; (repeat (first | (rcases hf with rfl | hf; · decide) | (subst hf; decide)))⟩⟩ <;> kernel_rfl
noncomputable def Try.ti143 : TI := { desc := .struct [(0, 3), (1, 4)], size := 2, bytes := 16, zero := .agg #[.int .i64 0, .bool false], plain := true }
theorem Try.ti143ok : tiOk Try.prog 143 Try.ti143 := by
  refine ⟨_, _, rfl, ?_, ?_, ?_, Try.underlying143, ?_, fun _ => ⟨by kernel_rfl, by kernel_rfl, by intro f hf; simp at hf; (repeat (first | (rcases hf with rfl | hf; · decide) | (subst hf; decide)))⟩⟩ <;> kernel_rfl
noncomputable def Try.ti148 : TI := { desc := .struct [(0, 39), (1, 3), (2, 3)], size := 3, bytes := 40, zero := .agg #[.slice none 0 0, .int .i64 0, .int .i64 0], plain := false }
theorem Try.ti148ok : tiOk Try.prog 148 Try.ti148 := by
  refine ⟨_, _, rfl, ?_, ?_, ?_, Try.underlying148, ?_, fun h => by cases h⟩ <;> kernel_rfl
noncomputable def Try.ti149 : TI := { desc := .struct [(0, 39), (1, 3), (2, 3)], size := 3, bytes := 40, zero := .agg #[.slice none 0 0, .int .i64 0, .int .i64 0], plain := false }
theorem Try.ti149ok : tiOk Try.prog 149 Try.ti149 := by
  refine ⟨_, _, rfl, ?_, ?_, ?_, Try.underlying149, ?_, fun h => by cases h⟩ <;> kernel_rfl
noncomputable def Try.ti160 : TI := { desc := .int .u64, size := 1, bytes := 8, zero := .int .u64 0, plain := false }
theorem Try.ti160ok : tiOk Try.prog 160 Try.ti160 := by
  refine ⟨_, _, rfl, ?_, ?_, ?_, Try.underlying160, ?_, fun h => by cases h⟩ <;> kernel_rfl
noncomputable def Try.ti164 : TI := { desc := .slice 9, size := 1, bytes := 24, zero := .slice none 0 0, plain := false }
theorem Try.ti164ok : tiOk Try.prog 164 Try.ti164 := by
  refine ⟨_, _, rfl, ?_, ?_, ?_, Try.underlying164, ?_, fun h => by cases h⟩ <;> kernel_rfl
noncomputable def Try.ti167 : TI := { desc := .slice 143, size := 1, bytes := 24, zero := .slice none 0 0, plain := false }
theorem Try.ti167ok : tiOk Try.prog 167 Try.ti167 := by
  refine ⟨_, _, rfl, ?_, ?_, ?_, Try.underlying167, ?_, fun h => by cases h⟩ <;> kernel_rfl
noncomputable def Try.ti169 : TI := { desc := .array 2 3, size := 2, bytes := 16, zero := .agg #[.int .i64 0, .int .i64 0], plain := false }
theorem Try.ti169ok : tiOk Try.prog 169 Try.ti169 := by
  refine ⟨_, _, rfl, ?_, ?_, ?_, Try.underlying169, ?_, fun h => by cases h⟩ <;> kernel_rfl
noncomputable def Try.ti173 : TI := { desc := .slice 39, size := 1, bytes := 24, zero := .slice none 0 0, plain := false }
theorem Try.ti173ok : tiOk Try.prog 173 Try.ti173 := by
  refine ⟨_, _, rfl, ?_, ?_, ?_, Try.underlying173, ?_, fun h => by cases h⟩ <;> kernel_rfl
noncomputable def Try.ti177 : TI := { desc := .slice 87, size := 1, bytes := 24, zero := .slice none 0 0, plain := false }
theorem Try.ti177ok : tiOk Try.prog 177 Try.ti177 := by
  refine ⟨_, _, rfl, ?_, ?_, ?_, Try.underlying177, ?_, fun h => by cases h⟩ <;> kernel_rfl
noncomputable def Try.ti185 : TI := { desc := .int .u32, size := 1, bytes := 4, zero := .int .u32 0, plain := false }
theorem Try.ti185ok : tiOk Try.prog 185 Try.ti185 := by
  refine ⟨_, _, rfl, ?_, ?_, ?_, Try.underlying185, ?_, fun h => by cases h⟩ <;> kernel_rfl
noncomputable def Try.ti189 : TI := { desc := .pointer 5, size := 1, bytes := 8, zero := .pointer none, plain := false }
theorem Try.ti189ok : tiOk Try.prog 189 Try.ti189 := by
  refine ⟨_, _, rfl, ?_, ?_, ?_, Try.underlying189, ?_, fun h => by cases h⟩ <;> kernel_rfl
noncomputable def Try.tt : TT := [(3, Try.ti3), (24, Try.ti24), (4, Try.ti4), (2, Try.ti2), (5, Try.ti5), (9, Try.ti9), (12, Try.ti12), (21, Try.ti21), (22, Try.ti22), (23, Try.ti23), (25, Try.ti25), (26, Try.ti26), (29, Try.ti29), (30, Try.ti30), (31, Try.ti31), (32, Try.ti32), (39, Try.ti39), (50, Try.ti50), (55, Try.ti55), (60, Try.ti60), (81, Try.ti81), (87, Try.ti87), (89, Try.ti89), (90, Try.ti90), (91, Try.ti91), (95, Try.ti95), (98, Try.ti98), (99, Try.ti99), (102, Try.ti102), (103, Try.ti103), (106, Try.ti106), (107, Try.ti107), (110, Try.ti110), (115, Try.ti115), (128, Try.ti128), (132, Try.ti132), (133, Try.ti133), (134, Try.ti134), (135, Try.ti135), (136, Try.ti136), (138, Try.ti138), (139, Try.ti139), (142, Try.ti142), (143, Try.ti143), (148, Try.ti148), (149, Try.ti149), (160, Try.ti160), (164, Try.ti164), (167, Try.ti167), (169, Try.ti169), (173, Try.ti173), (177, Try.ti177), (185, Try.ti185), (189, Try.ti189)]
theorem Try.ttOk : TTok Try.prog Try.tt := ⟨Try.ti3ok, Try.ti24ok, Try.ti4ok, Try.ti2ok, Try.ti5ok, Try.ti9ok, Try.ti12ok, Try.ti21ok, Try.ti22ok, Try.ti23ok, Try.ti25ok, Try.ti26ok, Try.ti29ok, Try.ti30ok, Try.ti31ok, Try.ti32ok, Try.ti39ok, Try.ti50ok, Try.ti55ok, Try.ti60ok, Try.ti81ok, Try.ti87ok, Try.ti89ok, Try.ti90ok, Try.ti91ok, Try.ti95ok, Try.ti98ok, Try.ti99ok, Try.ti102ok, Try.ti103ok, Try.ti106ok, Try.ti107ok, Try.ti110ok, Try.ti115ok, Try.ti128ok, Try.ti132ok, Try.ti133ok, Try.ti134ok, Try.ti135ok, Try.ti136ok, Try.ti138ok, Try.ti139ok, Try.ti142ok, Try.ti143ok, Try.ti148ok, Try.ti149ok, Try.ti160ok, Try.ti164ok, Try.ti167ok, Try.ti169ok, Try.ti173ok, Try.ti177ok, Try.ti185ok, Try.ti189ok, trivial⟩
noncomputable def Try.S3 : Setting := { P := Try.prog, tt := Try.tt, f := 3, fn := Try.f3, live := [0, 1, 2, 4, 5, 6, 7, 8, 9, 10, 11, 12], res := [.tmp 4] }
instance Try.S3ok : Try.S3.Ok := ⟨Try.ttOk, Try.func3, rfl⟩
noncomputable def Try.S4 : Setting := { P := Try.prog, tt := Try.tt, f := 4, fn := Try.f4, live := [0, 2, 3, 4, 5], res := [.tmp 2] }
instance Try.S4ok : Try.S4.Ok := ⟨Try.ttOk, Try.func4, rfl⟩
noncomputable def Try.S5 : Setting := { P := Try.prog, tt := Try.tt, f := 5, fn := Try.f5, live := [0, 1, 2, 3, 6, 7, 8, 9, 10, 11, 12, 13, 14, 15, 16, 17], res := [.tmp 6] }
instance Try.S5ok : Try.S5.Ok := ⟨Try.ttOk, Try.func5, rfl⟩
noncomputable def Try.S6 : Setting := { P := Try.prog, tt := Try.tt, f := 6, fn := Try.f6, live := [0, 1, 2, 3, 6, 7, 8, 9, 10, 11, 12, 13, 14, 15, 16, 17, 18, 19], res := [.tmp 6] }
instance Try.S6ok : Try.S6.Ok := ⟨Try.ttOk, Try.func6, rfl⟩
noncomputable def Try.S7 : Setting := { P := Try.prog, tt := Try.tt, f := 7, fn := Try.f7, live := [0, 1, 2, 4, 5, 6, 7, 8, 9, 10, 11, 12], res := [.tmp 4] }
instance Try.S7ok : Try.S7.Ok := ⟨Try.ttOk, Try.func7, rfl⟩
noncomputable def Try.S8 : Setting := { P := Try.prog, tt := Try.tt, f := 8, fn := Try.f8, live := [0, 1, 2, 4, 5, 6, 7, 8, 9, 10, 11, 12, 13, 14, 15], res := [.tmp 4] }
instance Try.S8ok : Try.S8.Ok := ⟨Try.ttOk, Try.func8, rfl⟩
noncomputable def Try.S9 : Setting := { P := Try.prog, tt := Try.tt, f := 9, fn := Try.f9, live := [0, 2, 3, 4, 5, 6, 8, 9, 10], res := [.tmp 2] }
instance Try.S9ok : Try.S9.Ok := ⟨Try.ttOk, Try.func9, rfl⟩
noncomputable def Try.S10 : Setting := { P := Try.prog, tt := Try.tt, f := 10, fn := Try.f10, live := [0, 1, 2, 4, 5, 6, 7, 8, 9, 10, 11, 12, 13, 14, 15], res := [.tmp 4] }
instance Try.S10ok : Try.S10.Ok := ⟨Try.ttOk, Try.func10, rfl⟩
noncomputable def Try.S11 : Setting := { P := Try.prog, tt := Try.tt, f := 11, fn := Try.f11, live := [0, 2, 3, 4, 5, 6, 8, 9, 10], res := [.tmp 2] }
instance Try.S11ok : Try.S11.Ok := ⟨Try.ttOk, Try.func11, rfl⟩
noncomputable def Try.S12 : Setting := { P := Try.prog, tt := Try.tt, f := 12, fn := Try.f12, live := [0, 2, 3, 5, 6, 7], res := [.tmp 2] }
instance Try.S12ok : Try.S12.Ok := ⟨Try.ttOk, Try.func12, rfl⟩
noncomputable def Try.S13 : Setting := { P := Try.prog, tt := Try.tt, f := 13, fn := Try.f13, live := [0, 1, 2, 3, 4, 5, 6, 7, 8, 9, 10], res := [.tmp 2] }
instance Try.S13ok : Try.S13.Ok := ⟨Try.ttOk, Try.func13, rfl⟩
noncomputable def Try.S14 : Setting := { P := Try.prog, tt := Try.tt, f := 14, fn := Try.f14, live := [0, 1, 2, 3, 4, 5, 6, 7, 8, 9, 10], res := [.tmp 2] }
instance Try.S14ok : Try.S14.Ok := ⟨Try.ttOk, Try.func14, rfl⟩
noncomputable def Try.S15 : Setting := { P := Try.prog, tt := Try.tt, f := 15, fn := Try.f15, live := [0, 1, 2, 4], res := [.tmp 4] }
instance Try.S15ok : Try.S15.Ok := ⟨Try.ttOk, Try.func15, rfl⟩
noncomputable def Try.S16 : Setting := { P := Try.prog, tt := Try.tt, f := 16, fn := Try.f16, live := [0, 1, 2, 4, 5, 6], res := [.tmp 4] }
instance Try.S16ok : Try.S16.Ok := ⟨Try.ttOk, Try.func16, rfl⟩
noncomputable def Try.S17 : Setting := { P := Try.prog, tt := Try.tt, f := 17, fn := Try.f17, live := [0, 1, 2, 3], res := [.cell 2 32] }
instance Try.S17ok : Try.S17.Ok := ⟨Try.ttOk, Try.func17, rfl⟩
noncomputable def Try.S18 : Setting := { P := Try.prog, tt := Try.tt, f := 18, fn := Try.f18, live := [0, 1, 2, 4, 5, 6], res := [.tmp 4] }
instance Try.S18ok : Try.S18.Ok := ⟨Try.ttOk, Try.func18, rfl⟩
noncomputable def Try.S19 : Setting := { P := Try.prog, tt := Try.tt, f := 19, fn := Try.f19, live := [0, 1, 4, 5], res := [.tmp 4] }
instance Try.S19ok : Try.S19.Ok := ⟨Try.ttOk, Try.func19, rfl⟩
noncomputable def Try.S20 : Setting := { P := Try.prog, tt := Try.tt, f := 20, fn := Try.f20, live := [0, 1, 2, 3, 4], res := [.tmp 4] }
instance Try.S20ok : Try.S20.Ok := ⟨Try.ttOk, Try.func20, rfl⟩
noncomputable def Try.S21 : Setting := { P := Try.prog, tt := Try.tt, f := 21, fn := Try.f21, live := [0, 1, 2, 4], res := [.tmp 4] }
instance Try.S21ok : Try.S21.Ok := ⟨Try.ttOk, Try.func21, rfl⟩
noncomputable def Try.S22 : Setting := { P := Try.prog, tt := Try.tt, f := 22, fn := Try.f22, live := [0, 1, 4, 5], res := [.tmp 4] }
instance Try.S22ok : Try.S22.Ok := ⟨Try.ttOk, Try.func22, rfl⟩
noncomputable def Try.S23 : Setting := { P := Try.prog, tt := Try.tt, f := 23, fn := Try.f23, live := [0, 1, 4, 5], res := [.tmp 4] }
instance Try.S23ok : Try.S23.Ok := ⟨Try.ttOk, Try.func23, rfl⟩
noncomputable def Try.S24 : Setting := { P := Try.prog, tt := Try.tt, f := 24, fn := Try.f24, live := [0, 2], res := [.tmp 2] }
instance Try.S24ok : Try.S24.Ok := ⟨Try.ttOk, Try.func24, rfl⟩
noncomputable def Try.S25 : Setting := { P := Try.prog, tt := Try.tt, f := 25, fn := Try.f25, live := [0, 2, 3], res := [.cell 2 32] }
instance Try.S25ok : Try.S25.Ok := ⟨Try.ttOk, Try.func25, rfl⟩
noncomputable def Try.S26 : Setting := { P := Try.prog, tt := Try.tt, f := 26, fn := Try.f26, live := [0, 2, 3], res := [.tmp 2] }
instance Try.S26ok : Try.S26.Ok := ⟨Try.ttOk, Try.func26, rfl⟩
noncomputable def Try.S27 : Setting := { P := Try.prog, tt := Try.tt, f := 27, fn := Try.f27, live := [0, 1, 2, 3, 4, 5, 6, 7, 8, 10, 11, 44, 45, 46], res := [.cell 2 32] }
instance Try.S27ok : Try.S27.Ok := ⟨Try.ttOk, Try.func27, rfl⟩
noncomputable def Try.S28 : Setting := { P := Try.prog, tt := Try.tt, f := 28, fn := Try.f28, live := [0, 1, 4, 5], res := [.tmp 4] }
instance Try.S28ok : Try.S28.Ok := ⟨Try.ttOk, Try.func28, rfl⟩
noncomputable def Try.S29 : Setting := { P := Try.prog, tt := Try.tt, f := 29, fn := Try.f29, live := [0, 1, 2, 4, 5, 6, 8, 9, 10, 21, 22, 23], res := [.tmp 4] }
instance Try.S29ok : Try.S29.Ok := ⟨Try.ttOk, Try.func29, rfl⟩
noncomputable def Try.S30 : Setting := { P := Try.prog, tt := Try.tt, f := 30, fn := Try.f30, live := [0, 1, 2, 4, 5, 6, 7, 8, 9], res := [.tmp 4] }
instance Try.S30ok : Try.S30.Ok := ⟨Try.ttOk, Try.func30, rfl⟩
noncomputable def Try.S31 : Setting := { P := Try.prog, tt := Try.tt, f := 31, fn := Try.f31, live := [0, 1, 2, 3, 4, 6, 13, 14, 15], res := [.tmp 2] }
instance Try.S31ok : Try.S31.Ok := ⟨Try.ttOk, Try.func31, rfl⟩
noncomputable def Try.S32 : Setting := { P := Try.prog, tt := Try.tt, f := 32, fn := Try.f32, live := [0, 1, 2, 3, 4, 5, 6], res := [.tmp 2] }
instance Try.S32ok : Try.S32.Ok := ⟨Try.ttOk, Try.func32, rfl⟩
noncomputable def Try.S33 : Setting := { P := Try.prog, tt := Try.tt, f := 33, fn := Try.f33, live := [0, 1, 2, 3, 5, 7, 8, 9, 10, 16, 17, 18, 27, 28, 29, 41, 42, 43], res := [.tmp 2] }
instance Try.S33ok : Try.S33.Ok := ⟨Try.ttOk, Try.func33, rfl⟩
noncomputable def Try.S34 : Setting := { P := Try.prog, tt := Try.tt, f := 34, fn := Try.f34, live := [0, 1, 2, 3, 6, 7, 8, 9], res := [.tmp 6, .tmp 7] }
instance Try.S34ok : Try.S34.Ok := ⟨Try.ttOk, Try.func34, rfl⟩
noncomputable def Try.S35 : Setting := { P := Try.prog, tt := Try.tt, f := 35, fn := Try.f35, live := [0, 1, 2, 3, 6, 7, 8, 9], res := [.tmp 6, .tmp 7] }
instance Try.S35ok : Try.S35.Ok := ⟨Try.ttOk, Try.func35, rfl⟩
noncomputable def Try.S36 : Setting := { P := Try.prog, tt := Try.tt, f := 36, fn := Try.f36, live := [0, 1, 4], res := [.tmp 4] }
instance Try.S36ok : Try.S36.Ok := ⟨Try.ttOk, Try.func36, rfl⟩
noncomputable def Try.S37 : Setting := { P := Try.prog, tt := Try.tt, f := 37, fn := Try.f37, live := [0, 1, 2, 3, 6, 7, 8, 9, 10, 11, 12, 13, 14, 15, 16, 17], res := [.cell 6 32, .tmp 7] }
instance Try.S37ok : Try.S37.Ok := ⟨Try.ttOk, Try.func37, rfl⟩
noncomputable def Try.S38 : Setting := { P := Try.prog, tt := Try.tt, f := 38, fn := Try.f38, live := [0, 2, 3, 4], res := [.tmp 2] }
instance Try.S38ok : Try.S38.Ok := ⟨Try.ttOk, Try.func38, rfl⟩
noncomputable def Try.S39 : Setting := { P := Try.prog, tt := Try.tt, f := 39, fn := Try.f39, live := [0, 2, 3, 4], res := [.tmp 2] }
instance Try.S39ok : Try.S39.Ok := ⟨Try.ttOk, Try.func39, rfl⟩
noncomputable def Try.S40 : Setting := { P := Try.prog, tt := Try.tt, f := 40, fn := Try.f40, live := [0, 1, 2, 3, 4, 5, 6, 7], res := [.cell 6 32, .tmp 7] }
instance Try.S40ok : Try.S40.Ok := ⟨Try.ttOk, Try.func40, rfl⟩
noncomputable def Try.S41 : Setting := { P := Try.prog, tt := Try.tt, f := 41, fn := Try.f41, live := [0, 1, 4, 5], res := [.tmp 4] }
instance Try.S41ok : Try.S41.Ok := ⟨Try.ttOk, Try.func41, rfl⟩
noncomputable def Try.S42 : Setting := { P := Try.prog, tt := Try.tt, f := 42, fn := Try.f42, live := [0, 1, 4, 5], res := [.tmp 4] }
instance Try.S42ok : Try.S42.Ok := ⟨Try.ttOk, Try.func42, rfl⟩
noncomputable def Try.S43 : Setting := { P := Try.prog, tt := Try.tt, f := 43, fn := Try.f43, live := [0, 1, 2, 4], res := [.tmp 4] }
instance Try.S43ok : Try.S43.Ok := ⟨Try.ttOk, Try.func43, rfl⟩
noncomputable def Try.S44 : Setting := { P := Try.prog, tt := Try.tt, f := 44, fn := Try.f44, live := [0, 1, 2, 4, 5, 6, 7], res := [.tmp 4] }
instance Try.S44ok : Try.S44.Ok := ⟨Try.ttOk, Try.func44, rfl⟩
noncomputable def Try.S45 : Setting := { P := Try.prog, tt := Try.tt, f := 45, fn := Try.f45, live := [0, 1, 2, 4], res := [.tmp 4] }
instance Try.S45ok : Try.S45.Ok := ⟨Try.ttOk, Try.func45, rfl⟩
noncomputable def Try.S46 : Setting := { P := Try.prog, tt := Try.tt, f := 46, fn := Try.f46, live := [0, 1, 4, 5], res := [.tmp 4] }
instance Try.S46ok : Try.S46.Ok := ⟨Try.ttOk, Try.func46, rfl⟩
noncomputable def Try.S47 : Setting := { P := Try.prog, tt := Try.tt, f := 47, fn := Try.f47, live := [0, 1, 4, 5], res := [.tmp 4] }
instance Try.S47ok : Try.S47.Ok := ⟨Try.ttOk, Try.func47, rfl⟩
noncomputable def Try.S48 : Setting := { P := Try.prog, tt := Try.tt, f := 48, fn := Try.f48, live := [0, 1, 4, 5], res := [.tmp 4] }
instance Try.S48ok : Try.S48.Ok := ⟨Try.ttOk, Try.func48, rfl⟩
noncomputable def Try.S49 : Setting := { P := Try.prog, tt := Try.tt, f := 49, fn := Try.f49, live := [0, 1, 2, 4, 5, 6, 7, 8, 9, 10, 11, 12, 13, 14, 15], res := [.cell 4 32, .tmp 5] }
instance Try.S49ok : Try.S49.Ok := ⟨Try.ttOk, Try.func49, rfl⟩
noncomputable def Try.S50 : Setting := { P := Try.prog, tt := Try.tt, f := 50, fn := Try.f50, live := [0, 1, 2, 4, 5, 6, 7, 8, 9, 10, 11, 12, 13, 14, 15, 111, 112, 113], res := [.cell 4 32, .tmp 5] }
instance Try.S50ok : Try.S50.Ok := ⟨Try.ttOk, Try.func50, rfl⟩
noncomputable def Try.S51 : Setting := { P := Try.prog, tt := Try.tt, f := 51, fn := Try.f51, live := [0, 2], res := [.cell 2 32] }
instance Try.S51ok : Try.S51.Ok := ⟨Try.ttOk, Try.func51, rfl⟩
noncomputable def Try.S52 : Setting := { P := Try.prog, tt := Try.tt, f := 52, fn := Try.f52, live := [0, 1, 2, 4, 5, 6, 7], res := [.cell 4 32, .tmp 5] }
instance Try.S52ok : Try.S52.Ok := ⟨Try.ttOk, Try.func52, rfl⟩
noncomputable def Try.S53 : Setting := { P := Try.prog, tt := Try.tt, f := 53, fn := Try.f53, live := [0, 1, 2, 4, 5, 6, 7], res := [.cell 4 32, .tmp 5] }
instance Try.S53ok : Try.S53.Ok := ⟨Try.ttOk, Try.func53, rfl⟩
noncomputable def Try.S54 : Setting := { P := Try.prog, tt := Try.tt, f := 54, fn := Try.f54, live := [0, 2, 3, 4, 5, 6], res := [.cell 2 32, .tmp 3] }
instance Try.S54ok : Try.S54.Ok := ⟨Try.ttOk, Try.func54, rfl⟩
noncomputable def Try.S55 : Setting := { P := Try.prog, tt := Try.tt, f := 55, fn := Try.f55, live := [0, 1, 2, 3, 4, 5, 6, 7, 9, 18, 19, 29, 30, 31, 51, 52, 53], res := [.cell 2 32] }
instance Try.S55ok : Try.S55.Ok := ⟨Try.ttOk, Try.func55, rfl⟩
noncomputable def Try.S56 : Setting := { P := Try.prog, tt := Try.tt, f := 56, fn := Try.f56, live := [0, 1, 2, 3, 4, 5, 6, 7, 8, 9, 10, 11, 12, 13, 14, 15, 16, 17, 18, 19], res := [.cell 2 32] }
instance Try.S56ok : Try.S56.Ok := ⟨Try.ttOk, Try.func56, rfl⟩
noncomputable def Try.S57 : Setting := { P := Try.prog, tt := Try.tt, f := 57, fn := Try.f57, live := [0, 1, 2, 3, 4, 5, 6, 7, 8], res := [.cell 2 32] }
instance Try.S57ok : Try.S57.Ok := ⟨Try.ttOk, Try.func57, rfl⟩
noncomputable def Try.S58 : Setting := { P := Try.prog, tt := Try.tt, f := 58, fn := Try.f58, live := [0, 1, 2, 3, 4, 5, 6, 7, 8], res := [.cell 2 32] }
instance Try.S58ok : Try.S58.Ok := ⟨Try.ttOk, Try.func58, rfl⟩
noncomputable def Try.S59 : Setting := { P := Try.prog, tt := Try.tt, f := 59, fn := Try.f59, live := [0, 1, 4, 5], res := [.tmp 4] }
instance Try.S59ok : Try.S59.Ok := ⟨Try.ttOk, Try.func59, rfl⟩
noncomputable def Try.S60 : Setting := { P := Try.prog, tt := Try.tt, f := 60, fn := Try.f60, live := [0, 1, 4], res := [.tmp 4] }
instance Try.S60ok : Try.S60.Ok := ⟨Try.ttOk, Try.func60, rfl⟩
noncomputable def Try.S61 : Setting := { P := Try.prog, tt := Try.tt, f := 61, fn := Try.f61, live := [0, 1, 4], res := [.tmp 4] }
instance Try.S61ok : Try.S61.Ok := ⟨Try.ttOk, Try.func61, rfl⟩
noncomputable def Try.S62 : Setting := { P := Try.prog, tt := Try.tt, f := 62, fn := Try.f62, live := [0, 1, 2, 3, 4, 5, 6, 7, 8], res := [.tmp 2] }
instance Try.S62ok : Try.S62.Ok := ⟨Try.ttOk, Try.func62, rfl⟩
noncomputable def Try.S63 : Setting := { P := Try.prog, tt := Try.tt, f := 63, fn := Try.f63, live := [0, 1, 2], res := [.tmp 2] }
instance Try.S63ok : Try.S63.Ok := ⟨Try.ttOk, Try.func63, rfl⟩
noncomputable def Try.S64 : Setting := { P := Try.prog, tt := Try.tt, f := 64, fn := Try.f64, live := [0, 1, 2], res := [.tmp 2] }
instance Try.S64ok : Try.S64.Ok := ⟨Try.ttOk, Try.func64, rfl⟩
noncomputable def Try.S65 : Setting := { P := Try.prog, tt := Try.tt, f := 65, fn := Try.f65, live := [0, 1, 2, 3, 4, 5, 6, 8], res := [.tmp 2] }
instance Try.S65ok : Try.S65.Ok := ⟨Try.ttOk, Try.func65, rfl⟩
noncomputable def Try.S66 : Setting := { P := Try.prog, tt := Try.tt, f := 66, fn := Try.f66, live := [0, 1, 2, 3, 4, 8, 9, 10, 11, 12, 13, 14, 15, 16, 17, 18, 19, 20, 21, 22], res := [.tmp 8, .tmp 9] }
instance Try.S66ok : Try.S66.Ok := ⟨Try.ttOk, Try.func66, rfl⟩
noncomputable def Try.S67 : Setting := { P := Try.prog, tt := Try.tt, f := 67, fn := Try.f67, live := [0, 2, 3, 4], res := [.tmp 2] }
instance Try.S67ok : Try.S67.Ok := ⟨Try.ttOk, Try.func67, rfl⟩
noncomputable def Try.S68 : Setting := { P := Try.prog, tt := Try.tt, f := 68, fn := Try.f68, live := [0, 2, 3, 4], res := [.tmp 2] }
instance Try.S68ok : Try.S68.Ok := ⟨Try.ttOk, Try.func68, rfl⟩
noncomputable def Try.S69 : Setting := { P := Try.prog, tt := Try.tt, f := 69, fn := Try.f69, live := [0, 1, 2, 4], res := [.tmp 4] }
instance Try.S69ok : Try.S69.Ok := ⟨Try.ttOk, Try.func69, rfl⟩
noncomputable def Try.S70 : Setting := { P := Try.prog, tt := Try.tt, f := 70, fn := Try.f70, live := [0, 1, 2, 3, 4, 5, 7, 9, 23, 24, 25], res := [.tmp 2] }
instance Try.S70ok : Try.S70.Ok := ⟨Try.ttOk, Try.func70, rfl⟩
noncomputable def Try.S71 : Setting := { P := Try.prog, tt := Try.tt, f := 71, fn := Try.f71, live := [0, 1, 2, 3, 4, 8, 9, 10, 11, 12, 13, 14, 15, 16, 18, 20, 46, 47, 90, 91], res := [.tmp 8, .tmp 9] }
instance Try.S71ok : Try.S71.Ok := ⟨Try.ttOk, Try.func71, rfl⟩
noncomputable def Try.S72 : Setting := { P := Try.prog, tt := Try.tt, f := 72, fn := Try.f72, live := [0, 1, 4, 5], res := [.tmp 4] }
instance Try.S72ok : Try.S72.Ok := ⟨Try.ttOk, Try.func72, rfl⟩
noncomputable def Try.S73 : Setting := { P := Try.prog, tt := Try.tt, f := 73, fn := Try.f73, live := [0, 1, 4, 5], res := [.tmp 4] }
instance Try.S73ok : Try.S73.Ok := ⟨Try.ttOk, Try.func73, rfl⟩
noncomputable def Try.S74 : Setting := { P := Try.prog, tt := Try.tt, f := 74, fn := Try.f74, live := [0, 1, 4, 5], res := [.tmp 4] }
instance Try.S74ok : Try.S74.Ok := ⟨Try.ttOk, Try.func74, rfl⟩
noncomputable def Try.S75 : Setting := { P := Try.prog, tt := Try.tt, f := 75, fn := Try.f75, live := [0, 1, 4, 5], res := [.tmp 4] }
instance Try.S75ok : Try.S75.Ok := ⟨Try.ttOk, Try.func75, rfl⟩
noncomputable def Try.S76 : Setting := { P := Try.prog, tt := Try.tt, f := 76, fn := Try.f76, live := [0, 2, 3, 4], res := [.tmp 2] }
instance Try.S76ok : Try.S76.Ok := ⟨Try.ttOk, Try.func76, rfl⟩
noncomputable def Try.S77 : Setting := { P := Try.prog, tt := Try.tt, f := 77, fn := Try.f77, live := [0, 1, 4], res := [.tmp 4] }
instance Try.S77ok : Try.S77.Ok := ⟨Try.ttOk, Try.func77, rfl⟩
noncomputable def Try.S78 : Setting := { P := Try.prog, tt := Try.tt, f := 78, fn := Try.f78, live := [0, 2, 3, 4, 5], res := [.cell 2 32] }
instance Try.S78ok : Try.S78.Ok := ⟨Try.ttOk, Try.func78, rfl⟩
noncomputable def Try.S79 : Setting := { P := Try.prog, tt := Try.tt, f := 79, fn := Try.f79, live := [0, 2], res := [.cell 2 32] }
instance Try.S79ok : Try.S79.Ok := ⟨Try.ttOk, Try.func79, rfl⟩
noncomputable def Try.S80 : Setting := { P := Try.prog, tt := Try.tt, f := 80, fn := Try.f80, live := [0, 1, 4, 5, 6, 7], res := [.tmp 4] }
instance Try.S80ok : Try.S80.Ok := ⟨Try.ttOk, Try.func80, rfl⟩
noncomputable def Try.S81 : Setting := { P := Try.prog, tt := Try.tt, f := 81, fn := Try.f81, live := [0, 1, 4, 5, 6, 7, 8], res := [.tmp 4] }
instance Try.S81ok : Try.S81.Ok := ⟨Try.ttOk, Try.func81, rfl⟩
noncomputable def Try.S82 : Setting := { P := Try.prog, tt := Try.tt, f := 82, fn := Try.f82, live := [0, 1, 2, 3, 4, 5, 6, 12, 13, 14], res := [.cell 2 32] }
instance Try.S82ok : Try.S82.Ok := ⟨Try.ttOk, Try.func82, rfl⟩
noncomputable def Try.S83 : Setting := { P := Try.prog, tt := Try.tt, f := 83, fn := Try.f83, live := [0, 1, 2, 3, 5, 6, 8, 13, 14, 15, 40, 41, 42], res := [.tmp 2] }
instance Try.S83ok : Try.S83.Ok := ⟨Try.ttOk, Try.func83, rfl⟩
noncomputable def Try.S84 : Setting := { P := Try.prog, tt := Try.tt, f := 84, fn := Try.f84, live := [0, 1, 2, 3, 5, 10, 11, 12], res := [.cell 2 32] }
instance Try.S84ok : Try.S84.Ok := ⟨Try.ttOk, Try.func84, rfl⟩
noncomputable def Try.S85 : Setting := { P := Try.prog, tt := Try.tt, f := 85, fn := Try.f85, live := [0, 1, 2], res := [.tmp 2] }
instance Try.S85ok : Try.S85.Ok := ⟨Try.ttOk, Try.func85, rfl⟩
noncomputable def Try.S86 : Setting := { P := Try.prog, tt := Try.tt, f := 86, fn := Try.f86, live := [0, 1, 2, 3, 4], res := [.tmp 2] }
instance Try.S86ok : Try.S86.Ok := ⟨Try.ttOk, Try.func86, rfl⟩
noncomputable def Try.S87 : Setting := { P := Try.prog, tt := Try.tt, f := 87, fn := Try.f87, live := [0, 1, 2], res := [.tmp 2] }
instance Try.S87ok : Try.S87.Ok := ⟨Try.ttOk, Try.func87, rfl⟩
noncomputable def Try.S88 : Setting := { P := Try.prog, tt := Try.tt, f := 88, fn := Try.f88, live := [0, 1, 2, 4, 5, 6, 7, 8, 9, 10, 11, 26, 27, 28], res := [.tmp 4] }
instance Try.S88ok : Try.S88.Ok := ⟨Try.ttOk, Try.func88, rfl⟩
noncomputable def Try.S89 : Setting := { P := Try.prog, tt := Try.tt, f := 89, fn := Try.f89, live := [0, 1, 2, 6, 7, 8], res := [.tmp 6] }
instance Try.S89ok : Try.S89.Ok := ⟨Try.ttOk, Try.func89, rfl⟩
noncomputable def Try.S90 : Setting := { P := Try.prog, tt := Try.tt, f := 90, fn := Try.f90, live := [0, 1, 4], res := [.tmp 4] }
instance Try.S90ok : Try.S90.Ok := ⟨Try.ttOk, Try.func90, rfl⟩
noncomputable def Try.S91 : Setting := { P := Try.prog, tt := Try.tt, f := 91, fn := Try.f91, live := [0, 1, 2, 6, 7, 8], res := [.tmp 6] }
instance Try.S91ok : Try.S91.Ok := ⟨Try.ttOk, Try.func91, rfl⟩
noncomputable def Try.S92 : Setting := { P := Try.prog, tt := Try.tt, f := 92, fn := Try.f92, live := [0, 1, 2, 4, 6, 7, 9, 10, 11], res := [] }
instance Try.S92ok : Try.S92.Ok := ⟨Try.ttOk, Try.func92, rfl⟩
noncomputable def Try.S93 : Setting := { P := Try.prog, tt := Try.tt, f := 93, fn := Try.f93, live := [0, 1, 2, 3, 4, 5, 6, 7, 8, 16, 17, 18], res := [.cell 2 32] }
instance Try.S93ok : Try.S93.Ok := ⟨Try.ttOk, Try.func93, rfl⟩
noncomputable def Try.S94 : Setting := { P := Try.prog, tt := Try.tt, f := 94, fn := Try.f94, live := [0, 1, 2, 3, 5, 7, 8, 9], res := [.tmp 2] }
instance Try.S94ok : Try.S94.Ok := ⟨Try.ttOk, Try.func94, rfl⟩
noncomputable def Try.S95 : Setting := { P := Try.prog, tt := Try.tt, f := 95, fn := Try.f95, live := [0, 1, 2, 3, 6, 7, 8, 9, 10, 11, 17, 18, 19], res := [.tmp 6, .tmp 7] }
instance Try.S95ok : Try.S95.Ok := ⟨Try.ttOk, Try.func95, rfl⟩
noncomputable def Try.S96 : Setting := { P := Try.prog, tt := Try.tt, f := 96, fn := Try.f96, live := [0, 1, 2, 3, 4], res := [.tmp 2] }
instance Try.S96ok : Try.S96.Ok := ⟨Try.ttOk, Try.func96, rfl⟩
noncomputable def Try.S97 : Setting := { P := Try.prog, tt := Try.tt, f := 97, fn := Try.f97, live := [0, 1, 2, 3, 6, 7, 8, 9, 10], res := [.tmp 6, .tmp 7] }
instance Try.S97ok : Try.S97.Ok := ⟨Try.ttOk, Try.func97, rfl⟩
noncomputable def Try.S98 : Setting := { P := Try.prog, tt := Try.tt, f := 98, fn := Try.f98, live := [0, 1, 2, 3, 4, 5, 10, 11, 12], res := [.tmp 2] }
instance Try.S98ok : Try.S98.Ok := ⟨Try.ttOk, Try.func98, rfl⟩
noncomputable def Try.S99 : Setting := { P := Try.prog, tt := Try.tt, f := 99, fn := Try.f99, live := [0, 1, 2, 3, 5, 10, 11, 12], res := [.tmp 2] }
instance Try.S99ok : Try.S99.Ok := ⟨Try.ttOk, Try.func99, rfl⟩
noncomputable def Try.S100 : Setting := { P := Try.prog, tt := Try.tt, f := 100, fn := Try.f100, live := [0, 1, 2, 3, 4], res := [.tmp 2] }
instance Try.S100ok : Try.S100.Ok := ⟨Try.ttOk, Try.func100, rfl⟩
noncomputable def Try.S101 : Setting := { P := Try.prog, tt := Try.tt, f := 101, fn := Try.f101, live := [0, 1, 2, 3, 4], res := [.tmp 2] }
instance Try.S101ok : Try.S101.Ok := ⟨Try.ttOk, Try.func101, rfl⟩
noncomputable def Try.S102 : Setting := { P := Try.prog, tt := Try.tt, f := 102, fn := Try.f102, live := [0, 1, 2], res := [.tmp 2] }
instance Try.S102ok : Try.S102.Ok := ⟨Try.ttOk, Try.func102, rfl⟩
noncomputable def Try.S103 : Setting := { P := Try.prog, tt := Try.tt, f := 103, fn := Try.f103, live := [0, 1, 2, 4], res := [.tmp 2] }
instance Try.S103ok : Try.S103.Ok := ⟨Try.ttOk, Try.func103, rfl⟩
noncomputable def Try.S104 : Setting := { P := Try.prog, tt := Try.tt, f := 104, fn := Try.f104, live := [0, 1, 2, 6], res := [.tmp 6] }
instance Try.S104ok : Try.S104.Ok := ⟨Try.ttOk, Try.func104, rfl⟩
noncomputable def Try.S105 : Setting := { P := Try.prog, tt := Try.tt, f := 105, fn := Try.f105, live := [0, 1, 4, 5], res := [.tmp 4] }
instance Try.S105ok : Try.S105.Ok := ⟨Try.ttOk, Try.func105, rfl⟩
noncomputable def Try.S106 : Setting := { P := Try.prog, tt := Try.tt, f := 106, fn := Try.f106, live := [0, 1, 2], res := [.cell 2 32] }
instance Try.S106ok : Try.S106.Ok := ⟨Try.ttOk, Try.func106, rfl⟩
noncomputable def Try.S107 : Setting := { P := Try.prog, tt := Try.tt, f := 107, fn := Try.f107, live := [0, 1, 4], res := [.tmp 4] }
instance Try.S107ok : Try.S107.Ok := ⟨Try.ttOk, Try.func107, rfl⟩
noncomputable def Try.S108 : Setting := { P := Try.prog, tt := Try.tt, f := 108, fn := Try.f108, live := [0, 1, 2, 3, 6, 7, 8, 9, 10, 11], res := [.cell 6 32, .tmp 7] }
instance Try.S108ok : Try.S108.Ok := ⟨Try.ttOk, Try.func108, rfl⟩
noncomputable def Try.S109 : Setting := { P := Try.prog, tt := Try.tt, f := 109, fn := Try.f109, live := [0, 1, 2, 3, 6, 7, 8, 9], res := [.cell 6 32, .tmp 7] }
instance Try.S109ok : Try.S109.Ok := ⟨Try.ttOk, Try.func109, rfl⟩
noncomputable def Try.S110 : Setting := { P := Try.prog, tt := Try.tt, f := 110, fn := Try.f110, live := [0, 1, 2, 3], res := [.cell 2 107] }
instance Try.S110ok : Try.S110.Ok := ⟨Try.ttOk, Try.func110, rfl⟩
noncomputable def Try.S111 : Setting := { P := Try.prog, tt := Try.tt, f := 111, fn := Try.f111, live := [0, 1, 4, 6, 15, 16, 17], res := [.tmp 4] }
instance Try.S111ok : Try.S111.Ok := ⟨Try.ttOk, Try.func111, rfl⟩
noncomputable def Try.S112 : Setting := { P := Try.prog, tt := Try.tt, f := 112, fn := Try.f112, live := [0, 1, 2], res := [.cell 2 32] }
instance Try.S112ok : Try.S112.Ok := ⟨Try.ttOk, Try.func112, rfl⟩
noncomputable def Try.S113 : Setting := { P := Try.prog, tt := Try.tt, f := 113, fn := Try.f113, live := [0, 1, 2, 3, 6, 7, 9, 10, 11, 17, 18, 19], res := [.cell 6 32, .tmp 7] }
instance Try.S113ok : Try.S113.Ok := ⟨Try.ttOk, Try.func113, rfl⟩
noncomputable def Try.S114 : Setting := { P := Try.prog, tt := Try.tt, f := 114, fn := Try.f114, live := [0, 1, 2, 4], res := [.tmp 4] }
instance Try.S114ok : Try.S114.Ok := ⟨Try.ttOk, Try.func114, rfl⟩
noncomputable def Try.S115 : Setting := { P := Try.prog, tt := Try.tt, f := 115, fn := Try.f115, live := [0, 1, 2, 6, 7, 9, 10, 11, 12, 13, 14, 15, 19, 20, 21], res := [.tmp 6] }
instance Try.S115ok : Try.S115.Ok := ⟨Try.ttOk, Try.func115, rfl⟩
noncomputable def Try.S116 : Setting := { P := Try.prog, tt := Try.tt, f := 116, fn := Try.f116, live := [0, 1, 2, 3, 4], res := [.tmp 4] }
instance Try.S116ok : Try.S116.Ok := ⟨Try.ttOk, Try.func116, rfl⟩
noncomputable def Try.S117 : Setting := { P := Try.prog, tt := Try.tt, f := 117, fn := Try.f117, live := [0, 1, 4, 5], res := [.tmp 4] }
instance Try.S117ok : Try.S117.Ok := ⟨Try.ttOk, Try.func117, rfl⟩
noncomputable def Try.S118 : Setting := { P := Try.prog, tt := Try.tt, f := 118, fn := Try.f118, live := [0, 1, 4, 5], res := [.tmp 4] }
instance Try.S118ok : Try.S118.Ok := ⟨Try.ttOk, Try.func118, rfl⟩
noncomputable def Try.S119 : Setting := { P := Try.prog, tt := Try.tt, f := 119, fn := Try.f119, live := [0, 1, 2, 4, 5, 6, 7, 8], res := [.tmp 4] }
instance Try.S119ok : Try.S119.Ok := ⟨Try.ttOk, Try.func119, rfl⟩
noncomputable def Try.S120 : Setting := { P := Try.prog, tt := Try.tt, f := 120, fn := Try.f120, live := [0, 2, 3, 5, 6, 7, 8], res := [.tmp 2] }
instance Try.S120ok : Try.S120.Ok := ⟨Try.ttOk, Try.func120, rfl⟩
noncomputable def Try.S121 : Setting := { P := Try.prog, tt := Try.tt, f := 121, fn := Try.f121, live := [0, 1, 2, 4, 5, 6, 7, 8], res := [.tmp 4] }
instance Try.S121ok : Try.S121.Ok := ⟨Try.ttOk, Try.func121, rfl⟩
noncomputable def Try.S122 : Setting := { P := Try.prog, tt := Try.tt, f := 122, fn := Try.f122, live := [0, 1, 2, 4, 5, 6, 7, 8], res := [.cell 4 32, .tmp 5] }
instance Try.S122ok : Try.S122.Ok := ⟨Try.ttOk, Try.func122, rfl⟩
noncomputable def Try.S123 : Setting := { P := Try.prog, tt := Try.tt, f := 123, fn := Try.f123, live := [0, 1, 2, 3, 4, 5, 7, 10, 11, 12, 13, 14, 15, 16], res := [.cell 10 32, .tmp 11, .tmp 12] }
instance Try.S123ok : Try.S123.Ok := ⟨Try.ttOk, Try.func123, rfl⟩
noncomputable def Try.S124 : Setting := { P := Try.prog, tt := Try.tt, f := 124, fn := Try.f124, live := [0, 1, 4, 5, 6], res := [.tmp 4] }
instance Try.S124ok : Try.S124.Ok := ⟨Try.ttOk, Try.func124, rfl⟩
noncomputable def Try.S125 : Setting := { P := Try.prog, tt := Try.tt, f := 125, fn := Try.f125, live := [0, 1, 2, 3, 4, 5, 6, 7, 8, 9, 10], res := [.cell 2 32] }
instance Try.S125ok : Try.S125.Ok := ⟨Try.ttOk, Try.func125, rfl⟩
noncomputable def Try.S126 : Setting := { P := Try.prog, tt := Try.tt, f := 126, fn := Try.f126, live := [0, 1, 2, 6, 7, 8, 9, 46, 47, 48], res := [.tmp 6] }
instance Try.S126ok : Try.S126.Ok := ⟨Try.ttOk, Try.func126, rfl⟩
noncomputable def Try.S127 : Setting := { P := Try.prog, tt := Try.tt, f := 127, fn := Try.f127, live := [0, 1, 2], res := [.tmp 2] }
instance Try.S127ok : Try.S127.Ok := ⟨Try.ttOk, Try.func127, rfl⟩
noncomputable def Try.S128 : Setting := { P := Try.prog, tt := Try.tt, f := 128, fn := Try.f128, live := [0, 1, 2, 3, 4, 5, 6, 7, 8, 9, 10, 11, 12, 13, 14, 35, 36, 37, 79, 80, 81, 116, 117, 118], res := [.cell 2 32] }
instance Try.S128ok : Try.S128.Ok := ⟨Try.ttOk, Try.func128, rfl⟩
noncomputable def Try.S129 : Setting := { P := Try.prog, tt := Try.tt, f := 129, fn := Try.f129, live := [0, 2, 3, 4, 5], res := [.cell 2 32] }
instance Try.S129ok : Try.S129.Ok := ⟨Try.ttOk, Try.func129, rfl⟩
noncomputable def Try.S130 : Setting := { P := Try.prog, tt := Try.tt, f := 130, fn := Try.f130, live := [0, 1, 2, 4, 5, 6, 7, 8, 9, 10, 11, 12, 13, 14, 15], res := [.cell 4 32, .tmp 5] }
instance Try.S130ok : Try.S130.Ok := ⟨Try.ttOk, Try.func130, rfl⟩
noncomputable def Try.S131 : Setting := { P := Try.prog, tt := Try.tt, f := 131, fn := Try.f131, live := [0, 1, 2, 4, 5, 6, 7, 8, 9, 10, 11, 12, 13, 14, 15, 16, 17, 94, 95, 96], res := [.cell 4 32, .tmp 5] }
instance Try.S131ok : Try.S131.Ok := ⟨Try.ttOk, Try.func131, rfl⟩
noncomputable def Try.S132 : Setting := { P := Try.prog, tt := Try.tt, f := 132, fn := Try.f132, live := [0, 2, 3, 4], res := [.cell 2 32] }
instance Try.S132ok : Try.S132.Ok := ⟨Try.ttOk, Try.func132, rfl⟩
noncomputable def Try.S133 : Setting := { P := Try.prog, tt := Try.tt, f := 133, fn := Try.f133, live := [0, 1, 3, 4, 5, 6, 7], res := [.tmp 4] }
instance Try.S133ok : Try.S133.Ok := ⟨Try.ttOk, Try.func133, rfl⟩
noncomputable def Try.S134 : Setting := { P := Try.prog, tt := Try.tt, f := 134, fn := Try.f134, live := [0, 1, 2, 3, 4, 5, 6, 7, 8, 10, 11, 12], res := [.tmp 2] }
instance Try.S134ok : Try.S134.Ok := ⟨Try.ttOk, Try.func134, rfl⟩
noncomputable def Try.S135 : Setting := { P := Try.prog, tt := Try.tt, f := 135, fn := Try.f135, live := [0, 1, 2, 3, 4, 5, 6, 7], res := [.cell 2 32] }
instance Try.S135ok : Try.S135.Ok := ⟨Try.ttOk, Try.func135, rfl⟩
noncomputable def Try.S136 : Setting := { P := Try.prog, tt := Try.tt, f := 136, fn := Try.f136, live := [0, 1, 2, 4, 5, 6, 7, 8, 9], res := [.tmp 4] }
instance Try.S136ok : Try.S136.Ok := ⟨Try.ttOk, Try.func136, rfl⟩
noncomputable def Try.S137 : Setting := { P := Try.prog, tt := Try.tt, f := 137, fn := Try.f137, live := [0, 1, 2, 3, 4, 5, 6, 7], res := [.cell 2 32, .tmp 3] }
instance Try.S137ok : Try.S137.Ok := ⟨Try.ttOk, Try.func137, rfl⟩
noncomputable def Try.S138 : Setting := { P := Try.prog, tt := Try.tt, f := 138, fn := Try.f138, live := [0, 1, 2, 6, 7, 8, 9, 10, 11], res := [.tmp 6] }
instance Try.S138ok : Try.S138.Ok := ⟨Try.ttOk, Try.func138, rfl⟩
noncomputable def Try.S139 : Setting := { P := Try.prog, tt := Try.tt, f := 139, fn := Try.f139, live := [0, 1, 2, 3, 4, 6, 7], res := [.cell 6 32] }
instance Try.S139ok : Try.S139.Ok := ⟨Try.ttOk, Try.func139, rfl⟩
noncomputable def Try.S140 : Setting := { P := Try.prog, tt := Try.tt, f := 140, fn := Try.f140, live := [0, 1, 2, 4], res := [.tmp 4] }
instance Try.S140ok : Try.S140.Ok := ⟨Try.ttOk, Try.func140, rfl⟩
noncomputable def Try.S141 : Setting := { P := Try.prog, tt := Try.tt, f := 141, fn := Try.f141, live := [0, 1, 2, 6], res := [.tmp 6] }
instance Try.S141ok : Try.S141.Ok := ⟨Try.ttOk, Try.func141, rfl⟩
noncomputable def Try.S142 : Setting := { P := Try.prog, tt := Try.tt, f := 142, fn := Try.f142, live := [0, 1, 2, 4, 5, 6, 7], res := [.tmp 4] }
instance Try.S142ok : Try.S142.Ok := ⟨Try.ttOk, Try.func142, rfl⟩
noncomputable def Try.S143 : Setting := { P := Try.prog, tt := Try.tt, f := 143, fn := Try.f143, live := [0, 1, 2, 3, 4, 8, 9, 10, 11, 12, 13, 14, 15, 16, 17, 18, 19, 20, 21], res := [.tmp 8, .tmp 9] }
instance Try.S143ok : Try.S143.Ok := ⟨Try.ttOk, Try.func143, rfl⟩
noncomputable def Try.S144 : Setting := { P := Try.prog, tt := Try.tt, f := 144, fn := Try.f144, live := [0, 1, 2, 3], res := [.cell 2 99] }
instance Try.S144ok : Try.S144.Ok := ⟨Try.ttOk, Try.func144, rfl⟩
noncomputable def Try.S145 : Setting := { P := Try.prog, tt := Try.tt, f := 145, fn := Try.f145, live := [0, 1, 2, 3], res := [.cell 2 103] }
instance Try.S145ok : Try.S145.Ok := ⟨Try.ttOk, Try.func145, rfl⟩
noncomputable def Try.S146 : Setting := { P := Try.prog, tt := Try.tt, f := 146, fn := Try.f146, live := [0, 1, 2, 4, 5], res := [.tmp 4] }
instance Try.S146ok : Try.S146.Ok := ⟨Try.ttOk, Try.func146, rfl⟩
noncomputable def Try.S147 : Setting := { P := Try.prog, tt := Try.tt, f := 147, fn := Try.f147, live := [0, 1, 2, 3, 6], res := [] }
instance Try.S147ok : Try.S147.Ok := ⟨Try.ttOk, Try.func147, rfl⟩
noncomputable def Try.S148 : Setting := { P := Try.prog, tt := Try.tt, f := 148, fn := Try.f148, live := [0, 2, 3, 4, 5, 6, 7, 8, 9, 10, 12, 63, 64, 94, 95, 96], res := [.tmp 2, .tmp 3] }
instance Try.S148ok : Try.S148.Ok := ⟨Try.ttOk, Try.func148, rfl⟩
noncomputable def Try.S149 : Setting := { P := Try.prog, tt := Try.tt, f := 149, fn := Try.f149, live := [0, 1, 2, 5, 6, 7, 81], res := [] }
instance Try.S149ok : Try.S149.Ok := ⟨Try.ttOk, Try.func149, rfl⟩
noncomputable def Try.S150 : Setting := { P := Try.prog, tt := Try.tt, f := 150, fn := Try.f150, live := [0, 1, 2, 3, 4], res := [.tmp 4] }
instance Try.S150ok : Try.S150.Ok := ⟨Try.ttOk, Try.func150, rfl⟩
noncomputable def Try.S151 : Setting := { P := Try.prog, tt := Try.tt, f := 151, fn := Try.f151, live := [0, 1, 2, 3, 4], res := [.tmp 4] }
instance Try.S151ok : Try.S151.Ok := ⟨Try.ttOk, Try.func151, rfl⟩
noncomputable def Try.S152 : Setting := { P := Try.prog, tt := Try.tt, f := 152, fn := Try.f152, live := [0, 1, 2, 3, 8, 9, 10, 11, 12, 13, 14, 15, 16, 17, 18], res := [.cell 8 32] }
instance Try.S152ok : Try.S152.Ok := ⟨Try.ttOk, Try.func152, rfl⟩
noncomputable def Try.S153 : Setting := { P := Try.prog, tt := Try.tt, f := 153, fn := Try.f153, live := [0, 1, 4], res := [.tmp 4] }
instance Try.S153ok : Try.S153.Ok := ⟨Try.ttOk, Try.func153, rfl⟩
noncomputable def Try.S154 : Setting := { P := Try.prog, tt := Try.tt, f := 154, fn := Try.f154, live := [0, 2, 3], res := [.tmp 2] }
instance Try.S154ok : Try.S154.Ok := ⟨Try.ttOk, Try.func154, rfl⟩
noncomputable def Try.S155 : Setting := { P := Try.prog, tt := Try.tt, f := 155, fn := Try.f155, live := [0, 1, 4, 5, 6], res := [.tmp 4] }
instance Try.S155ok : Try.S155.Ok := ⟨Try.ttOk, Try.func155, rfl⟩
noncomputable def Try.S156 : Setting := { P := Try.prog, tt := Try.tt, f := 156, fn := Try.f156, live := [0, 1, 2, 6], res := [.tmp 6] }
instance Try.S156ok : Try.S156.Ok := ⟨Try.ttOk, Try.func156, rfl⟩
noncomputable def Try.S157 : Setting := { P := Try.prog, tt := Try.tt, f := 157, fn := Try.f157, live := [0, 1, 4, 5, 7, 8, 9, 10], res := [.tmp 4] }
instance Try.S157ok : Try.S157.Ok := ⟨Try.ttOk, Try.func157, rfl⟩
noncomputable def Try.S158 : Setting := { P := Try.prog, tt := Try.tt, f := 158, fn := Try.f158, live := [0, 1, 2, 3, 5, 10, 11, 12], res := [.tmp 2] }
instance Try.S158ok : Try.S158.Ok := ⟨Try.ttOk, Try.func158, rfl⟩
noncomputable def Try.S159 : Setting := { P := Try.prog, tt := Try.tt, f := 159, fn := Try.f159, live := [0, 1, 2, 3, 6, 7, 8, 9, 10, 11, 12, 31, 32, 33, 48, 49, 50], res := [.tmp 6] }
instance Try.S159ok : Try.S159.Ok := ⟨Try.ttOk, Try.func159, rfl⟩
noncomputable def Try.S160 : Setting := { P := Try.prog, tt := Try.tt, f := 160, fn := Try.f160, live := [0, 1, 2, 6, 7, 8], res := [.tmp 6] }
instance Try.S160ok : Try.S160.Ok := ⟨Try.ttOk, Try.func160, rfl⟩
noncomputable def Try.S161 : Setting := { P := Try.prog, tt := Try.tt, f := 161, fn := Try.f161, live := [0, 1, 4, 5, 6, 7, 8, 9, 10], res := [.tmp 4] }
instance Try.S161ok : Try.S161.Ok := ⟨Try.ttOk, Try.func161, rfl⟩
noncomputable def Try.S162 : Setting := { P := Try.prog, tt := Try.tt, f := 162, fn := Try.f162, live := [0, 1, 2, 4, 5], res := [.tmp 4] }
instance Try.S162ok : Try.S162.Ok := ⟨Try.ttOk, Try.func162, rfl⟩
noncomputable def Try.S163 : Setting := { P := Try.prog, tt := Try.tt, f := 163, fn := Try.f163, live := [0, 1, 2, 3, 6, 7, 8, 9, 10], res := [.tmp 6] }
instance Try.S163ok : Try.S163.Ok := ⟨Try.ttOk, Try.func163, rfl⟩
noncomputable def Try.S164 : Setting := { P := Try.prog, tt := Try.tt, f := 164, fn := Try.f164, live := [0, 1, 2, 6, 7, 8], res := [.tmp 6] }
instance Try.S164ok : Try.S164.Ok := ⟨Try.ttOk, Try.func164, rfl⟩
noncomputable def Try.S165 : Setting := { P := Try.prog, tt := Try.tt, f := 165, fn := Try.f165, live := [0, 1, 4, 5, 6], res := [.tmp 4] }
instance Try.S165ok : Try.S165.Ok := ⟨Try.ttOk, Try.func165, rfl⟩
noncomputable def Try.S166 : Setting := { P := Try.prog, tt := Try.tt, f := 166, fn := Try.f166, live := [0, 2], res := [.tmp 2] }
instance Try.S166ok : Try.S166.Ok := ⟨Try.ttOk, Try.func166, rfl⟩
noncomputable def Try.S167 : Setting := { P := Try.prog, tt := Try.tt, f := 167, fn := Try.f167, live := [0, 1, 3, 4], res := [.tmp 4] }
instance Try.S167ok : Try.S167.Ok := ⟨Try.ttOk, Try.func167, rfl⟩
noncomputable def Try.S168 : Setting := { P := Try.prog, tt := Try.tt, f := 168, fn := Try.f168, live := [0, 2, 3, 4], res := [.tmp 2] }
instance Try.S168ok : Try.S168.Ok := ⟨Try.ttOk, Try.func168, rfl⟩
noncomputable def Try.S169 : Setting := { P := Try.prog, tt := Try.tt, f := 169, fn := Try.f169, live := [0, 2], res := [.tmp 2] }
instance Try.S169ok : Try.S169.Ok := ⟨Try.ttOk, Try.func169, rfl⟩
noncomputable def Try.S170 : Setting := { P := Try.prog, tt := Try.tt, f := 170, fn := Try.f170, live := [0, 1, 3, 4], res := [.tmp 4] }
instance Try.S170ok : Try.S170.Ok := ⟨Try.ttOk, Try.func170, rfl⟩
noncomputable def Try.S171 : Setting := { P := Try.prog, tt := Try.tt, f := 171, fn := Try.f171, live := [0, 2, 3, 5, 6, 7, 8], res := [.tmp 2] }
instance Try.S171ok : Try.S171.Ok := ⟨Try.ttOk, Try.func171, rfl⟩
noncomputable def Try.S172 : Setting := { P := Try.prog, tt := Try.tt, f := 172, fn := Try.f172, live := [0, 1, 2, 6, 7], res := [.tmp 6] }
instance Try.S172ok : Try.S172.Ok := ⟨Try.ttOk, Try.func172, rfl⟩
noncomputable def Try.S173 : Setting := { P := Try.prog, tt := Try.tt, f := 173, fn := Try.f173, live := [0, 1, 4, 5, 6, 7, 8, 9, 10, 11, 12, 13], res := [.tmp 4] }
instance Try.S173ok : Try.S173.Ok := ⟨Try.ttOk, Try.func173, rfl⟩
noncomputable def Try.S174 : Setting := { P := Try.prog, tt := Try.tt, f := 174, fn := Try.f174, live := [0, 1, 4, 5, 7, 9, 10, 11, 12, 13, 15, 16, 18, 19, 20, 21, 25, 26, 27, 82, 83, 84, 88, 89, 90], res := [.tmp 4] }
instance Try.S174ok : Try.S174.Ok := ⟨Try.ttOk, Try.func174, rfl⟩
noncomputable def Try.S175 : Setting := { P := Try.prog, tt := Try.tt, f := 175, fn := Try.f175, live := [0, 1, 2, 3, 4, 5, 6, 7], res := [.tmp 2] }
instance Try.S175ok : Try.S175.Ok := ⟨Try.ttOk, Try.func175, rfl⟩
noncomputable def Try.S176 : Setting := { P := Try.prog, tt := Try.tt, f := 176, fn := Try.f176, live := [0, 1, 2, 3, 4, 5, 7, 8, 9, 11, 17, 18, 19, 74, 75, 76], res := [.tmp 2] }
instance Try.S176ok : Try.S176.Ok := ⟨Try.ttOk, Try.func176, rfl⟩
noncomputable def Try.S177 : Setting := { P := Try.prog, tt := Try.tt, f := 177, fn := Try.f177, live := [0, 1, 2, 4, 5], res := [.tmp 4] }
instance Try.S177ok : Try.S177.Ok := ⟨Try.ttOk, Try.func177, rfl⟩
noncomputable def Try.S178 : Setting := { P := Try.prog, tt := Try.tt, f := 178, fn := Try.f178, live := [0, 1, 2, 4, 5], res := [.tmp 4] }
instance Try.S178ok : Try.S178.Ok := ⟨Try.ttOk, Try.func178, rfl⟩
noncomputable def Try.S179 : Setting := { P := Try.prog, tt := Try.tt, f := 179, fn := Try.f179, live := [0, 1, 2, 3, 4, 5, 6, 7, 8], res := [.tmp 2] }
instance Try.S179ok : Try.S179.Ok := ⟨Try.ttOk, Try.func179, rfl⟩
noncomputable def Try.S180 : Setting := { P := Try.prog, tt := Try.tt, f := 180, fn := Try.f180, live := [0, 1, 4], res := [.tmp 4] }
instance Try.S180ok : Try.S180.Ok := ⟨Try.ttOk, Try.func180, rfl⟩
noncomputable def Try.S181 : Setting := { P := Try.prog, tt := Try.tt, f := 181, fn := Try.f181, live := [0, 2, 3, 4, 5, 6, 7, 8], res := [.tmp 2] }
instance Try.S181ok : Try.S181.Ok := ⟨Try.ttOk, Try.func181, rfl⟩
noncomputable def Try.S182 : Setting := { P := Try.prog, tt := Try.tt, f := 182, fn := Try.f182, live := [0, 1, 2, 3, 4, 7, 8], res := [.tmp 2] }
instance Try.S182ok : Try.S182.Ok := ⟨Try.ttOk, Try.func182, rfl⟩
noncomputable def Try.S183 : Setting := { P := Try.prog, tt := Try.tt, f := 183, fn := Try.f183, live := [0, 1, 4, 5, 6, 7, 8, 10, 11], res := [.tmp 4] }
instance Try.S183ok : Try.S183.Ok := ⟨Try.ttOk, Try.func183, rfl⟩
noncomputable def Try.S184 : Setting := { P := Try.prog, tt := Try.tt, f := 184, fn := Try.f184, live := [0, 1, 2, 4, 5, 6, 7, 8, 9, 10, 11, 12, 13, 14, 15, 17, 40, 41, 42, 73, 74, 75, 97, 98, 99], res := [.tmp 4] }
instance Try.S184ok : Try.S184.Ok := ⟨Try.ttOk, Try.func184, rfl⟩
noncomputable def Try.S185 : Setting := { P := Try.prog, tt := Try.tt, f := 185, fn := Try.f185, live := [0, 1, 4, 5, 12, 13], res := [.tmp 4] }
instance Try.S185ok : Try.S185.Ok := ⟨Try.ttOk, Try.func185, rfl⟩
noncomputable def Try.S186 : Setting := { P := Try.prog, tt := Try.tt, f := 186, fn := Try.f186, live := [0, 1, 2, 3, 4, 5, 6, 7, 8, 9], res := [.cell 2 32] }
instance Try.S186ok : Try.S186.Ok := ⟨Try.ttOk, Try.func186, rfl⟩
noncomputable def Try.S187 : Setting := { P := Try.prog, tt := Try.tt, f := 187, fn := Try.f187, live := [0, 1, 2, 4, 5, 6], res := [.tmp 4] }
instance Try.S187ok : Try.S187.Ok := ⟨Try.ttOk, Try.func187, rfl⟩
noncomputable def Try.S188 : Setting := { P := Try.prog, tt := Try.tt, f := 188, fn := Try.f188, live := [0, 1, 2, 4, 5, 6], res := [.tmp 4] }
instance Try.S188ok : Try.S188.Ok := ⟨Try.ttOk, Try.func188, rfl⟩
noncomputable def Try.S189 : Setting := { P := Try.prog, tt := Try.tt, f := 189, fn := Try.f189, live := [0, 1, 2, 3, 4, 5, 7], res := [] }
instance Try.S189ok : Try.S189.Ok := ⟨Try.ttOk, Try.func189, rfl⟩
noncomputable def Try.S190 : Setting := { P := Try.prog, tt := Try.tt, f := 190, fn := Try.f190, live := [0, 1, 2, 4], res := [.tmp 4] }
instance Try.S190ok : Try.S190.Ok := ⟨Try.ttOk, Try.func190, rfl⟩
noncomputable def Try.S191 : Setting := { P := Try.prog, tt := Try.tt, f := 191, fn := Try.f191, live := [0, 1, 4], res := [.tmp 4] }
instance Try.S191ok : Try.S191.Ok := ⟨Try.ttOk, Try.func191, rfl⟩
noncomputable def Try.S192 : Setting := { P := Try.prog, tt := Try.tt, f := 192, fn := Try.f192, live := [0, 2, 3], res := [.tmp 2] }
instance Try.S192ok : Try.S192.Ok := ⟨Try.ttOk, Try.func192, rfl⟩
noncomputable def Try.S193 : Setting := { P := Try.prog, tt := Try.tt, f := 193, fn := Try.f193, live := [0, 1, 4], res := [.tmp 4] }
instance Try.S193ok : Try.S193.Ok := ⟨Try.ttOk, Try.func193, rfl⟩
noncomputable def Try.S194 : Setting := { P := Try.prog, tt := Try.tt, f := 194, fn := Try.f194, live := [0, 1, 4, 5, 6, 7, 8], res := [.tmp 4, .tmp 5] }
instance Try.S194ok : Try.S194.Ok := ⟨Try.ttOk, Try.func194, rfl⟩
noncomputable def Try.S195 : Setting := { P := Try.prog, tt := Try.tt, f := 195, fn := Try.f195, live := [0, 1, 4, 5, 6, 7], res := [.tmp 4] }
instance Try.S195ok : Try.S195.Ok := ⟨Try.ttOk, Try.func195, rfl⟩
noncomputable def Try.S196 : Setting := { P := Try.prog, tt := Try.tt, f := 196, fn := Try.f196, live := [0, 1, 4, 5], res := [.tmp 4] }
instance Try.S196ok : Try.S196.Ok := ⟨Try.ttOk, Try.func196, rfl⟩
noncomputable def Try.S197 : Setting := { P := Try.prog, tt := Try.tt, f := 197, fn := Try.f197, live := [0, 1, 4, 5, 6, 8, 41, 42, 43], res := [.tmp 4, .tmp 5] }
instance Try.S197ok : Try.S197.Ok := ⟨Try.ttOk, Try.func197, rfl⟩
noncomputable def Try.S198 : Setting := { P := Try.prog, tt := Try.tt, f := 198, fn := Try.f198, live := [0, 1, 4, 5, 17, 18], res := [.tmp 4] }
instance Try.S198ok : Try.S198.Ok := ⟨Try.ttOk, Try.func198, rfl⟩
noncomputable def Try.S199 : Setting := { P := Try.prog, tt := Try.tt, f := 199, fn := Try.f199, live := [0, 1, 4, 6, 7, 8, 9], res := [.tmp 4] }
instance Try.S199ok : Try.S199.Ok := ⟨Try.ttOk, Try.func199, rfl⟩
noncomputable def Try.S200 : Setting := { P := Try.prog, tt := Try.tt, f := 200, fn := Try.f200, live := [0, 1, 2], res := [] }
instance Try.S200ok : Try.S200.Ok := ⟨Try.ttOk, Try.func200, rfl⟩
noncomputable def Try.S201 : Setting := { P := Try.prog, tt := Try.tt, f := 201, fn := Try.f201, live := [0, 2, 3, 4], res := [.tmp 2] }
instance Try.S201ok : Try.S201.Ok := ⟨Try.ttOk, Try.func201, rfl⟩
noncomputable def Try.S202 : Setting := { P := Try.prog, tt := Try.tt, f := 202, fn := Try.f202, live := [0, 1, 2, 4, 5, 6, 7, 8, 9, 10, 11, 12, 13, 14, 15, 16, 17, 18], res := [.tmp 4] }
instance Try.S202ok : Try.S202.Ok := ⟨Try.ttOk, Try.func202, rfl⟩
noncomputable def Try.S203 : Setting := { P := Try.prog, tt := Try.tt, f := 203, fn := Try.f203, live := [0, 1, 4, 5], res := [.tmp 4] }
instance Try.S203ok : Try.S203.Ok := ⟨Try.ttOk, Try.func203, rfl⟩
noncomputable def Try.S204 : Setting := { P := Try.prog, tt := Try.tt, f := 204, fn := Try.f204, live := [0, 1, 2, 3, 4, 5], res := [.tmp 2] }
instance Try.S204ok : Try.S204.Ok := ⟨Try.ttOk, Try.func204, rfl⟩
noncomputable def Try.S205 : Setting := { P := Try.prog, tt := Try.tt, f := 205, fn := Try.f205, live := [0, 2, 3], res := [.tmp 2] }
instance Try.S205ok : Try.S205.Ok := ⟨Try.ttOk, Try.func205, rfl⟩
noncomputable def Try.S206 : Setting := { P := Try.prog, tt := Try.tt, f := 206, fn := Try.f206, live := [0, 1, 4, 5], res := [.tmp 4] }
instance Try.S206ok : Try.S206.Ok := ⟨Try.ttOk, Try.func206, rfl⟩
noncomputable def Try.S207 : Setting := { P := Try.prog, tt := Try.tt, f := 207, fn := Try.f207, live := [0, 1, 4, 5], res := [.tmp 4] }
instance Try.S207ok : Try.S207.Ok := ⟨Try.ttOk, Try.func207, rfl⟩
noncomputable def Try.S208 : Setting := { P := Try.prog, tt := Try.tt, f := 208, fn := Try.f208, live := [0, 2, 3], res := [.tmp 2] }
instance Try.S208ok : Try.S208.Ok := ⟨Try.ttOk, Try.func208, rfl⟩
noncomputable def Try.S209 : Setting := { P := Try.prog, tt := Try.tt, f := 209, fn := Try.f209, live := [0, 1, 4, 6, 7, 8, 9], res := [.tmp 4] }
instance Try.S209ok : Try.S209.Ok := ⟨Try.ttOk, Try.func209, rfl⟩
noncomputable def Try.S210 : Setting := { P := Try.prog, tt := Try.tt, f := 210, fn := Try.f210, live := [0, 2], res := [.tmp 2] }
instance Try.S210ok : Try.S210.Ok := ⟨Try.ttOk, Try.func210, rfl⟩
end Go.Proofs
