/- The table of the types and the settings of the functions, by program (fill.py); no condition. -/
import Derived.Test.YtiepmliokblkjaaGreatProg
import Derived.Test.YtiepmliokblkjaaGreatCore
import Derived.KernelRfl
set_option linter.all false
namespace Go.Proofs
open Go.Xw
set_option maxRecDepth 100000
noncomputable def Tryz.ti2:TI:={desc:= .int .i64,size:=1,bytes:=8,zero:= .int .i64 0,plain:=false}
theorem Tryz.Uf:dq Tryz.prog 2 Tryz.ti2:=by
 refine⟨_,_,rfl,?_,?_,?_,Tryz.underlying2,?_,fun h=>by cases h⟩<;>kernel_rfl
noncomputable def Tryz.ti3:TI:={desc:= .int .i64,size:=1,bytes:=8,zero:= .int .i64 0,plain:=false}
theorem Tryz.Ug:dq Tryz.prog 3 Tryz.ti3:=by
 refine⟨_,_,rfl,?_,?_,?_,Tryz.underlying3,?_,fun h=>by cases h⟩<;>kernel_rfl
noncomputable def Tryz.ti4:TI:={desc:= .bool,size:=1,bytes:=1,zero:= .bool false,plain:=false}
theorem Tryz.Uh:dq Tryz.prog 4 Tryz.ti4:=by
 refine⟨_,_,rfl,?_,?_,?_,Tryz.underlying4,?_,fun h=>by cases h⟩<;>kernel_rfl
noncomputable def Tryz.ti5:TI:={desc:= .int .u8,size:=1,bytes:=1,zero:= .int .u8 0,plain:=false}
theorem Tryz.Ui:dq Tryz.prog 5 Tryz.ti5:=by
 refine⟨_,_,rfl,?_,?_,?_,Tryz.underlying5,?_,fun h=>by cases h⟩<;>kernel_rfl
noncomputable def Tryz.ti9:TI:={desc:= .string,size:=1,bytes:=16,zero:= .string ByteArray.empty,plain:=false}
theorem Tryz.Uj:dq Tryz.prog 9 Tryz.ti9:=by
 refine⟨_,_,rfl,?_,?_,?_,Tryz.underlying9,?_,fun h=>by cases h⟩<;>kernel_rfl
noncomputable def Tryz.Uk:TI:={desc:= .int .u64,size:=1,bytes:=8,zero:= .int .u64 0,plain:=false}
theorem Tryz.PB:dq Tryz.prog 12 Tryz.Uk:=by
 refine⟨_,_,rfl,?_,?_,?_,Tryz.underlying12,?_,fun h=>by cases h⟩<;>kernel_rfl
noncomputable def Tryz.Ul:TI:={desc:= .int .i32,size:=1,bytes:=4,zero:= .int .i32 0,plain:=false}
theorem Tryz.PC:dq Tryz.prog 21 Tryz.Ul:=by
 refine⟨_,_,rfl,?_,?_,?_,Tryz.underlying21,?_,fun h=>by cases h⟩<;>kernel_rfl
noncomputable def Tryz.Um:TI:={desc:= .slice 148,size:=1,bytes:=24,zero:= .slice none 0 0,plain:=false}
theorem Tryz.PD:dq Tryz.prog 22 Tryz.Um:=by
 refine⟨_,_,rfl,?_,?_,?_,Tryz.underlying22,?_,fun h=>by cases h⟩<;>kernel_rfl
noncomputable def Tryz.Un:TI:={desc:= .slice 127,size:=1,bytes:=24,zero:= .slice none 0 0,plain:=false}
theorem Tryz.PE:dq Tryz.prog 23 Tryz.Un:=by
 refine⟨_,_,rfl,?_,?_,?_,Tryz.underlying23,?_,fun h=>by cases h⟩<;>kernel_rfl
noncomputable def Tryz.Uo:TI:={desc:= .slice 130,size:=1,bytes:=24,zero:= .slice none 0 0,plain:=false}
theorem Tryz.PG:dq Tryz.prog 24 Tryz.Uo:=by
 refine⟨_,_,rfl,?_,?_,?_,Tryz.underlying24,?_,fun h=>by cases h⟩<;>kernel_rfl
noncomputable def Tryz.Up:TI:={desc:= .slice 153,size:=1,bytes:=24,zero:= .slice none 0 0,plain:=false}
theorem Tryz.PH:dq Tryz.prog 25 Tryz.Up:=by
 refine⟨_,_,rfl,?_,?_,?_,Tryz.underlying25,?_,fun h=>by cases h⟩<;>kernel_rfl
noncomputable def Tryz.Uq:TI:={desc:= .struct [(0,22),(1,23),(2,24),(3,25)],size:=4,bytes:=96,zero:= .agg #[.slice none 0 0,.slice none 0 0,.slice none 0 0,.slice none 0 0],plain:=false}
theorem Tryz.PI:dq Tryz.prog 26 Tryz.Uq:=by
 refine⟨_,_,rfl,?_,?_,?_,Tryz.underlying26,?_,fun h=>by cases h⟩<;>kernel_rfl
noncomputable def Tryz.Ur:TI:={desc:= .struct [(0,22),(1,23),(2,24),(3,25)],size:=4,bytes:=96,zero:= .agg #[.slice none 0 0,.slice none 0 0,.slice none 0 0,.slice none 0 0],plain:=false}
theorem Tryz.PJ:dq Tryz.prog 27 Tryz.Ur:=by
 refine⟨_,_,rfl,?_,?_,?_,Tryz.underlying27,?_,fun h=>by cases h⟩<;>kernel_rfl
noncomputable def Tryz.Us:TI:={desc:= .slice 68,size:=1,bytes:=24,zero:= .slice none 0 0,plain:=false}
theorem Tryz.PK:dq Tryz.prog 29 Tryz.Us:=by
 refine⟨_,_,rfl,?_,?_,?_,Tryz.underlying29,?_,fun h=>by cases h⟩<;>kernel_rfl
noncomputable def Tryz.Ut:TI:={desc:= .slice 120,size:=1,bytes:=24,zero:= .slice none 0 0,plain:=false}
theorem Tryz.PL:dq Tryz.prog 30 Tryz.Ut:=by
 refine⟨_,_,rfl,?_,?_,?_,Tryz.underlying30,?_,fun h=>by cases h⟩<;>kernel_rfl
noncomputable def Tryz.Uu:TI:={desc:= .slice 3,size:=1,bytes:=24,zero:= .slice none 0 0,plain:=false}
theorem Tryz.PM:dq Tryz.prog 31 Tryz.Uu:=by
 refine⟨_,_,rfl,?_,?_,?_,Tryz.underlying31,?_,fun h=>by cases h⟩<;>kernel_rfl
noncomputable def Tryz.Uv:TI:={desc:= .struct [(0,3),(1,29),(2,30),(3,31)],size:=4,bytes:=80,zero:= .agg #[.int .i64 0,.slice none 0 0,.slice none 0 0,.slice none 0 0],plain:=false}
theorem Tryz.PN:dq Tryz.prog 32 Tryz.Uv:=by
 refine⟨_,_,rfl,?_,?_,?_,Tryz.underlying32,?_,fun h=>by cases h⟩<;>kernel_rfl
noncomputable def Tryz.dY:TI:={desc:= .struct [(0,3),(1,29),(2,30),(3,31)],size:=4,bytes:=80,zero:= .agg #[.int .i64 0,.slice none 0 0,.slice none 0 0,.slice none 0 0],plain:=false}
theorem Tryz.PO:dq Tryz.prog 33 Tryz.dY:=by
 refine⟨_,_,rfl,?_,?_,?_,Tryz.underlying33,?_,fun h=>by cases h⟩<;>kernel_rfl
noncomputable def Tryz.Uw:TI:={desc:= .slice 66,size:=1,bytes:=24,zero:= .slice none 0 0,plain:=false}
theorem Tryz.PQ:dq Tryz.prog 36 Tryz.Uw:=by
 refine⟨_,_,rfl,?_,?_,?_,Tryz.underlying36,?_,fun h=>by cases h⟩<;>kernel_rfl
noncomputable def Tryz.Ux:TI:={desc:= .slice 75,size:=1,bytes:=24,zero:= .slice none 0 0,plain:=false}
theorem Tryz.PR:dq Tryz.prog 37 Tryz.Ux:=by
 refine⟨_,_,rfl,?_,?_,?_,Tryz.underlying37,?_,fun h=>by cases h⟩<;>kernel_rfl
noncomputable def Tryz.Uy:TI:={desc:= .slice 150,size:=1,bytes:=24,zero:= .slice none 0 0,plain:=false}
theorem Tryz.PS:dq Tryz.prog 38 Tryz.Uy:=by
 refine⟨_,_,rfl,?_,?_,?_,Tryz.underlying38,?_,fun h=>by cases h⟩<;>kernel_rfl
noncomputable def Tryz.Uz:TI:={desc:= .slice 70,size:=1,bytes:=24,zero:= .slice none 0 0,plain:=false}
theorem Tryz.PT:dq Tryz.prog 39 Tryz.Uz:=by
 refine⟨_,_,rfl,?_,?_,?_,Tryz.underlying39,?_,fun h=>by cases h⟩<;>kernel_rfl
noncomputable def Tryz.UA:TI:={desc:= .struct [(0,36),(1,37),(2,38),(3,39)],size:=4,bytes:=96,zero:= .agg #[.slice none 0 0,.slice none 0 0,.slice none 0 0,.slice none 0 0],plain:=false}
theorem Tryz.PU:dq Tryz.prog 40 Tryz.UA:=by
 refine⟨_,_,rfl,?_,?_,?_,Tryz.underlying40,?_,fun h=>by cases h⟩<;>kernel_rfl
noncomputable def Tryz.np:TI:={desc:= .struct [(0,36),(1,37),(2,38),(3,39)],size:=4,bytes:=96,zero:= .agg #[.slice none 0 0,.slice none 0 0,.slice none 0 0,.slice none 0 0],plain:=false}
theorem Tryz.PV:dq Tryz.prog 41 Tryz.np:=by
 refine⟨_,_,rfl,?_,?_,?_,Tryz.underlying41,?_,fun h=>by cases h⟩<;>kernel_rfl
noncomputable def Tryz.UB:TI:={desc:= .slice 5,size:=1,bytes:=24,zero:= .slice none 0 0,plain:=false}
theorem Tryz.PW:dq Tryz.prog 48 Tryz.UB:=by
 refine⟨_,_,rfl,?_,?_,?_,Tryz.underlying48,?_,fun h=>by cases h⟩<;>kernel_rfl
noncomputable def Tryz.UC:TI:={desc:= .slice 31,size:=1,bytes:=24,zero:= .slice none 0 0,plain:=false}
theorem Tryz.PX:dq Tryz.prog 50 Tryz.UC:=by
 refine⟨_,_,rfl,?_,?_,?_,Tryz.underlying50,?_,fun h=>by cases h⟩<;>kernel_rfl
noncomputable def Tryz.UD:TI:={desc:= .struct [(0,3),(1,3),(2,3)],size:=3,bytes:=24,zero:= .agg #[.int .i64 0,.int .i64 0,.int .i64 0],plain:=true}
theorem Tryz.PY:dq Tryz.prog 65 Tryz.UD:=by
 refine⟨_,_,rfl,?_,?_,?_,Tryz.underlying65,?_,fun _=>⟨by kernel_rfl,by kernel_rfl,by intro f hf;simp at hf;(repeat(first|(rcases hf with rfl|hf; · decide)|(subst hf;decide)))⟩⟩<;>kernel_rfl
noncomputable def Tryz.UE:TI:={desc:= .struct [(0,3),(1,3),(2,3)],size:=3,bytes:=24,zero:= .agg #[.int .i64 0,.int .i64 0,.int .i64 0],plain:=true}
theorem Tryz.PZ:dq Tryz.prog 66 Tryz.UE:=by
 refine⟨_,_,rfl,?_,?_,?_,Tryz.underlying66,?_,fun _=>⟨by kernel_rfl,by kernel_rfl,by intro f hf;simp at hf;(repeat(first|(rcases hf with rfl|hf; · decide)|(subst hf;decide)))⟩⟩<;>kernel_rfl
noncomputable def Tryz.UF:TI:={desc:= .struct [(0,3),(1,3),(2,31)],size:=3,bytes:=40,zero:= .agg #[.int .i64 0,.int .i64 0,.slice none 0 0],plain:=false}
theorem Tryz.P0:dq Tryz.prog 67 Tryz.UF:=by
 refine⟨_,_,rfl,?_,?_,?_,Tryz.underlying67,?_,fun h=>by cases h⟩<;>kernel_rfl
noncomputable def Tryz.UG:TI:={desc:= .struct [(0,3),(1,3),(2,31)],size:=3,bytes:=40,zero:= .agg #[.int .i64 0,.int .i64 0,.slice none 0 0],plain:=false}
theorem Tryz.P1:dq Tryz.prog 68 Tryz.UG:=by
 refine⟨_,_,rfl,?_,?_,?_,Tryz.underlying68,?_,fun h=>by cases h⟩<;>kernel_rfl
noncomputable def Tryz.UH:TI:={desc:= .struct [(0,3),(1,3),(2,3),(3,3)],size:=4,bytes:=32,zero:= .agg #[.int .i64 0,.int .i64 0,.int .i64 0,.int .i64 0],plain:=true}
theorem Tryz.P2:dq Tryz.prog 69 Tryz.UH:=by
 refine⟨_,_,rfl,?_,?_,?_,Tryz.underlying69,?_,fun _=>⟨by kernel_rfl,by kernel_rfl,by intro f hf;simp at hf;(repeat(first|(rcases hf with rfl|hf; · decide)|(subst hf;decide)))⟩⟩<;>kernel_rfl
noncomputable def Tryz.UI:TI:={desc:= .struct [(0,3),(1,3),(2,3),(3,3)],size:=4,bytes:=32,zero:= .agg #[.int .i64 0,.int .i64 0,.int .i64 0,.int .i64 0],plain:=true}
theorem Tryz.P3:dq Tryz.prog 70 Tryz.UI:=by
 refine⟨_,_,rfl,?_,?_,?_,Tryz.underlying70,?_,fun _=>⟨by kernel_rfl,by kernel_rfl,by intro f hf;simp at hf;(repeat(first|(rcases hf with rfl|hf; · decide)|(subst hf;decide)))⟩⟩<;>kernel_rfl
noncomputable def Tryz.UJ:TI:={desc:= .slice 132,size:=1,bytes:=24,zero:= .slice none 0 0,plain:=false}
theorem Tryz.P4:dq Tryz.prog 73 Tryz.UJ:=by
 refine⟨_,_,rfl,?_,?_,?_,Tryz.underlying73,?_,fun h=>by cases h⟩<;>kernel_rfl
noncomputable def Tryz.UK:TI:={desc:= .struct [(0,3),(1,73)],size:=2,bytes:=32,zero:= .agg #[.int .i64 0,.slice none 0 0],plain:=false}
theorem Tryz.P5:dq Tryz.prog 74 Tryz.UK:=by
 refine⟨_,_,rfl,?_,?_,?_,Tryz.underlying74,?_,fun h=>by cases h⟩<;>kernel_rfl
noncomputable def Tryz.UL:TI:={desc:= .struct [(0,3),(1,73)],size:=2,bytes:=32,zero:= .agg #[.int .i64 0,.slice none 0 0],plain:=false}
theorem Tryz.P6:dq Tryz.prog 75 Tryz.UL:=by
 refine⟨_,_,rfl,?_,?_,?_,Tryz.underlying75,?_,fun h=>by cases h⟩<;>kernel_rfl
noncomputable def Tryz.UM:TI:={desc:= .int .u64,size:=1,bytes:=8,zero:= .int .u64 0,plain:=false}
theorem Tryz.P7:dq Tryz.prog 84 Tryz.UM:=by
 refine⟨_,_,rfl,?_,?_,?_,Tryz.underlying84,?_,fun h=>by cases h⟩<;>kernel_rfl
noncomputable def Tryz.UN:TI:={desc:= .pointer 88,size:=1,bytes:=8,zero:= .pointer none,plain:=false}
theorem Tryz.P8:dq Tryz.prog 85 Tryz.UN:=by
 refine⟨_,_,rfl,?_,?_,?_,Tryz.underlying85,?_,fun h=>by cases h⟩<;>kernel_rfl
noncomputable def Tryz.UO:TI:={desc:= .pointer 33,size:=1,bytes:=8,zero:= .pointer none,plain:=false}
theorem Tryz.P9:dq Tryz.prog 86 Tryz.UO:=by
 refine⟨_,_,rfl,?_,?_,?_,Tryz.underlying86,?_,fun h=>by cases h⟩<;>kernel_rfl
noncomputable def Tryz.UP:TI:={desc:= .struct [(0,86),(1,50),(2,3),(3,4)],size:=4,bytes:=48,zero:= .agg #[.pointer none,.slice none 0 0,.int .i64 0,.bool false],plain:=false}
theorem Tryz.P':dq Tryz.prog 87 Tryz.UP:=by
 refine⟨_,_,rfl,?_,?_,?_,Tryz.underlying87,?_,fun h=>by cases h⟩<;>kernel_rfl
noncomputable def Tryz.UQ:TI:={desc:= .struct [(0,86),(1,50),(2,3),(3,4)],size:=4,bytes:=48,zero:= .agg #[.pointer none,.slice none 0 0,.int .i64 0,.bool false],plain:=false}
theorem Tryz.Qa:dq Tryz.prog 88 Tryz.UQ:=by
 refine⟨_,_,rfl,?_,?_,?_,Tryz.underlying88,?_,fun h=>by cases h⟩<;>kernel_rfl
noncomputable def Tryz.NU:TI:={desc:= .pointer 171,size:=1,bytes:=8,zero:= .pointer none,plain:=false}
theorem Tryz.LO:dq Tryz.prog 104 Tryz.NU:=by
 refine⟨_,_,rfl,?_,?_,?_,Tryz.underlying104,?_,fun h=>by cases h⟩<;>kernel_rfl
noncomputable def Tryz.NV:TI:={desc:= .struct [(0,31),(1,31)],size:=2,bytes:=48,zero:= .agg #[.slice none 0 0,.slice none 0 0],plain:=false}
theorem Tryz.LP:dq Tryz.prog 110 Tryz.NV:=by
 refine⟨_,_,rfl,?_,?_,?_,Tryz.underlying110,?_,fun h=>by cases h⟩<;>kernel_rfl
noncomputable def Tryz.Ak:TI:={desc:= .struct [(0,31),(1,31)],size:=2,bytes:=48,zero:= .agg #[.slice none 0 0,.slice none 0 0],plain:=false}
theorem Tryz.LQ:dq Tryz.prog 111 Tryz.Ak:=by
 refine⟨_,_,rfl,?_,?_,?_,Tryz.underlying111,?_,fun h=>by cases h⟩<;>kernel_rfl
noncomputable def Tryz.NW:TI:={desc:= .slice 4,size:=1,bytes:=24,zero:= .slice none 0 0,plain:=false}
theorem Tryz.LR:dq Tryz.prog 117 Tryz.NW:=by
 refine⟨_,_,rfl,?_,?_,?_,Tryz.underlying117,?_,fun h=>by cases h⟩<;>kernel_rfl
noncomputable def Tryz.NX:TI:={desc:= .struct [(0,3),(1,3)],size:=2,bytes:=16,zero:= .agg #[.int .i64 0,.int .i64 0],plain:=true}
theorem Tryz.LS:dq Tryz.prog 119 Tryz.NX:=by
 refine⟨_,_,rfl,?_,?_,?_,Tryz.underlying119,?_,fun _=>⟨by kernel_rfl,by kernel_rfl,by intro f hf;simp at hf;(repeat(first|(rcases hf with rfl|hf; · decide)|(subst hf;decide)))⟩⟩<;>kernel_rfl
noncomputable def Tryz.NY:TI:={desc:= .struct [(0,3),(1,3)],size:=2,bytes:=16,zero:= .agg #[.int .i64 0,.int .i64 0],plain:=true}
theorem Tryz.LU:dq Tryz.prog 120 Tryz.NY:=by
 refine⟨_,_,rfl,?_,?_,?_,Tryz.underlying120,?_,fun _=>⟨by kernel_rfl,by kernel_rfl,by intro f hf;simp at hf;(repeat(first|(rcases hf with rfl|hf; · decide)|(subst hf;decide)))⟩⟩<;>kernel_rfl
noncomputable def Tryz.NZ:TI:={desc:= .slice 205,size:=1,bytes:=24,zero:= .slice none 0 0,plain:=false}
theorem Tryz.LV:dq Tryz.prog 125 Tryz.NZ:=by
 refine⟨_,_,rfl,?_,?_,?_,Tryz.underlying125,?_,fun h=>by cases h⟩<;>kernel_rfl
noncomputable def Tryz.N1:TI:={desc:= .struct [(0,3),(1,125)],size:=2,bytes:=32,zero:= .agg #[.int .i64 0,.slice none 0 0],plain:=false}
theorem Tryz.LW:dq Tryz.prog 126 Tryz.N1:=by
 refine⟨_,_,rfl,?_,?_,?_,Tryz.underlying126,?_,fun h=>by cases h⟩<;>kernel_rfl
noncomputable def Tryz.N2:TI:={desc:= .struct [(0,3),(1,125)],size:=2,bytes:=32,zero:= .agg #[.int .i64 0,.slice none 0 0],plain:=false}
theorem Tryz.LX:dq Tryz.prog 127 Tryz.N2:=by
 refine⟨_,_,rfl,?_,?_,?_,Tryz.underlying127,?_,fun h=>by cases h⟩<;>kernel_rfl
noncomputable def Tryz.N3:TI:={desc:= .struct [(0,3),(1,3),(2,31)],size:=3,bytes:=40,zero:= .agg #[.int .i64 0,.int .i64 0,.slice none 0 0],plain:=false}
theorem Tryz.LY:dq Tryz.prog 129 Tryz.N3:=by
 refine⟨_,_,rfl,?_,?_,?_,Tryz.underlying129,?_,fun h=>by cases h⟩<;>kernel_rfl
noncomputable def Tryz.N4:TI:={desc:= .struct [(0,3),(1,3),(2,31)],size:=3,bytes:=40,zero:= .agg #[.int .i64 0,.int .i64 0,.slice none 0 0],plain:=false}
theorem Tryz.LZ:dq Tryz.prog 130 Tryz.N4:=by
 refine⟨_,_,rfl,?_,?_,?_,Tryz.underlying130,?_,fun h=>by cases h⟩<;>kernel_rfl
noncomputable def Tryz.N5:TI:={desc:= .struct [(0,3),(1,3),(2,3)],size:=3,bytes:=24,zero:= .agg #[.int .i64 0,.int .i64 0,.int .i64 0],plain:=true}
theorem Tryz.L4:dq Tryz.prog 131 Tryz.N5:=by
 refine⟨_,_,rfl,?_,?_,?_,Tryz.underlying131,?_,fun _=>⟨by kernel_rfl,by kernel_rfl,by intro f hf;simp at hf;(repeat(first|(rcases hf with rfl|hf; · decide)|(subst hf;decide)))⟩⟩<;>kernel_rfl
noncomputable def Tryz.N6:TI:={desc:= .struct [(0,3),(1,3),(2,3)],size:=3,bytes:=24,zero:= .agg #[.int .i64 0,.int .i64 0,.int .i64 0],plain:=true}
theorem Tryz.L5:dq Tryz.prog 132 Tryz.N6:=by
 refine⟨_,_,rfl,?_,?_,?_,Tryz.underlying132,?_,fun _=>⟨by kernel_rfl,by kernel_rfl,by intro f hf;simp at hf;(repeat(first|(rcases hf with rfl|hf; · decide)|(subst hf;decide)))⟩⟩<;>kernel_rfl
noncomputable def Tryz.N7:TI:={desc:= .slice 41,size:=1,bytes:=24,zero:= .slice none 0 0,plain:=false}
theorem Tryz.L6:dq Tryz.prog 134 Tryz.N7:=by
 refine⟨_,_,rfl,?_,?_,?_,Tryz.underlying134,?_,fun h=>by cases h⟩<;>kernel_rfl
noncomputable def Tryz.N8:TI:={desc:= .struct [(0,134)],size:=1,bytes:=24,zero:= .agg #[.slice none 0 0],plain:=false}
theorem Tryz.L7:dq Tryz.prog 135 Tryz.N8:=by
 refine⟨_,_,rfl,?_,?_,?_,Tryz.underlying135,?_,fun h=>by cases h⟩<;>kernel_rfl
noncomputable def Tryz.Jr:TI:={desc:= .struct [(0,134)],size:=1,bytes:=24,zero:= .agg #[.slice none 0 0],plain:=false}
theorem Tryz.L8:dq Tryz.prog 136 Tryz.Jr:=by
 refine⟨_,_,rfl,?_,?_,?_,Tryz.underlying136,?_,fun h=>by cases h⟩<;>kernel_rfl
noncomputable def Tryz.N9:TI:={desc:= .struct [(0,3),(1,3),(2,3)],size:=3,bytes:=24,zero:= .agg #[.int .i64 0,.int .i64 0,.int .i64 0],plain:=true}
theorem Tryz.L9:dq Tryz.prog 148 Tryz.N9:=by
 refine⟨_,_,rfl,?_,?_,?_,Tryz.underlying148,?_,fun _=>⟨by kernel_rfl,by kernel_rfl,by intro f hf;simp at hf;(repeat(first|(rcases hf with rfl|hf; · decide)|(subst hf;decide)))⟩⟩<;>kernel_rfl
noncomputable def Tryz.Oa:TI:={desc:= .struct [(0,3),(1,3),(2,31)],size:=3,bytes:=40,zero:= .agg #[.int .i64 0,.int .i64 0,.slice none 0 0],plain:=false}
theorem Tryz.Ma:dq Tryz.prog 150 Tryz.Oa:=by
 refine⟨_,_,rfl,?_,?_,?_,Tryz.underlying150,?_,fun h=>by cases h⟩<;>kernel_rfl
noncomputable def Tryz.Oc:TI:={desc:= .struct [(0,3),(1,3),(2,3),(3,3)],size:=4,bytes:=32,zero:= .agg #[.int .i64 0,.int .i64 0,.int .i64 0,.int .i64 0],plain:=true}
theorem Tryz.Mb:dq Tryz.prog 153 Tryz.Oc:=by
 refine⟨_,_,rfl,?_,?_,?_,Tryz.underlying153,?_,fun _=>⟨by kernel_rfl,by kernel_rfl,by intro f hf;simp at hf;(repeat(first|(rcases hf with rfl|hf; · decide)|(subst hf;decide)))⟩⟩<;>kernel_rfl
noncomputable def Tryz.Od:TI:={desc:= .struct [(0,48),(1,3),(2,3)],size:=3,bytes:=40,zero:= .agg #[.slice none 0 0,.int .i64 0,.int .i64 0],plain:=false}
theorem Tryz.Mc:dq Tryz.prog 170 Tryz.Od:=by
 refine⟨_,_,rfl,?_,?_,?_,Tryz.underlying170,?_,fun h=>by cases h⟩<;>kernel_rfl
noncomputable def Tryz.Oe:TI:={desc:= .struct [(0,48),(1,3),(2,3)],size:=3,bytes:=40,zero:= .agg #[.slice none 0 0,.int .i64 0,.int .i64 0],plain:=false}
theorem Tryz.Md:dq Tryz.prog 171 Tryz.Oe:=by
 refine⟨_,_,rfl,?_,?_,?_,Tryz.underlying171,?_,fun h=>by cases h⟩<;>kernel_rfl
noncomputable def Tryz.Of:TI:={desc:= .struct [(0,3),(1,3),(2,3)],size:=3,bytes:=24,zero:= .agg #[.int .i64 0,.int .i64 0,.int .i64 0],plain:=true}
theorem Tryz.Me:dq Tryz.prog 205 Tryz.Of:=by
 refine⟨_,_,rfl,?_,?_,?_,Tryz.underlying205,?_,fun _=>⟨by kernel_rfl,by kernel_rfl,by intro f hf;simp at hf;(repeat(first|(rcases hf with rfl|hf; · decide)|(subst hf;decide)))⟩⟩<;>kernel_rfl
noncomputable def Tryz.Og:TI:={desc:= .int .u32,size:=1,bytes:=4,zero:= .int .u32 0,plain:=false}
theorem Tryz.Mf:dq Tryz.prog 223 Tryz.Og:=by
 refine⟨_,_,rfl,?_,?_,?_,Tryz.underlying223,?_,fun h=>by cases h⟩<;>kernel_rfl
noncomputable def Tryz.Oh:TI:={desc:= .pointer 5,size:=1,bytes:=8,zero:= .pointer none,plain:=false}
theorem Tryz.Mg:dq Tryz.prog 227 Tryz.Oh:=by
 refine⟨_,_,rfl,?_,?_,?_,Tryz.underlying227,?_,fun h=>by cases h⟩<;>kernel_rfl
noncomputable def Tryz.tt:TT:=[(3,Tryz.ti3),(31,Tryz.Uu),(4,Tryz.ti4),(2,Tryz.ti2),(5,Tryz.ti5),(9,Tryz.ti9),(12,Tryz.Uk),(21,Tryz.Ul),(22,Tryz.Um),(23,Tryz.Un),(24,Tryz.Uo),(25,Tryz.Up),(26,Tryz.Uq),(27,Tryz.Ur),(29,Tryz.Us),(30,Tryz.Ut),(32,Tryz.Uv),(33,Tryz.dY),(36,Tryz.Uw),(37,Tryz.Ux),(38,Tryz.Uy),(39,Tryz.Uz),(40,Tryz.UA),(41,Tryz.np),(48,Tryz.UB),(50,Tryz.UC),(65,Tryz.UD),(66,Tryz.UE),(67,Tryz.UF),(68,Tryz.UG),(69,Tryz.UH),(70,Tryz.UI),(73,Tryz.UJ),(74,Tryz.UK),(75,Tryz.UL),(84,Tryz.UM),(85,Tryz.UN),(86,Tryz.UO),(87,Tryz.UP),(88,Tryz.UQ),(104,Tryz.NU),(110,Tryz.NV),(111,Tryz.Ak),(117,Tryz.NW),(119,Tryz.NX),(120,Tryz.NY),(125,Tryz.NZ),(126,Tryz.N1),(127,Tryz.N2),(129,Tryz.N3),(130,Tryz.N4),(131,Tryz.N5),(132,Tryz.N6),(134,Tryz.N7),(135,Tryz.N8),(136,Tryz.Jr),(148,Tryz.N9),(150,Tryz.Oa),(153,Tryz.Oc),(170,Tryz.Od),(171,Tryz.Oe),(205,Tryz.Of),(223,Tryz.Og),(227,Tryz.Oh)]
theorem Tryz.aZ:gJ Tryz.prog Tryz.tt:=⟨Tryz.Ug,Tryz.PM,Tryz.Uh,Tryz.Uf,Tryz.Ui,Tryz.Uj,Tryz.PB,Tryz.PC,Tryz.PD,Tryz.PE,Tryz.PG,Tryz.PH,Tryz.PI,Tryz.PJ,Tryz.PK,Tryz.PL,Tryz.PN,Tryz.PO,Tryz.PQ,Tryz.PR,Tryz.PS,Tryz.PT,Tryz.PU,Tryz.PV,Tryz.PW,Tryz.PX,Tryz.PY,Tryz.PZ,Tryz.P0,Tryz.P1,Tryz.P2,Tryz.P3,Tryz.P4,Tryz.P5,Tryz.P6,Tryz.P7,Tryz.P8,Tryz.P9,Tryz.P',Tryz.Qa,Tryz.LO,Tryz.LP,Tryz.LQ,Tryz.LR,Tryz.LS,Tryz.LU,Tryz.LV,Tryz.LW,Tryz.LX,Tryz.LY,Tryz.LZ,Tryz.L4,Tryz.L5,Tryz.L6,Tryz.L7,Tryz.L8,Tryz.L9,Tryz.Ma,Tryz.Mb,Tryz.Mc,Tryz.Md,Tryz.Me,Tryz.Mf,Tryz.Mg,trivial⟩
noncomputable def Tryz.S3:ak:={P:=Tryz.prog,tt:=Tryz.tt,f:=3,fn:=Tryz.f3,live:=[0,1,2,3,4,5,6,7,8,9,10,11,12,13],res:=[.tmp 2]}
instance Tryz.S3ok:Tryz.S3.Ok:=⟨Tryz.aZ,Tryz.func3,rfl⟩
noncomputable def Tryz.S4:ak:={P:=Tryz.prog,tt:=Tryz.tt,f:=4,fn:=Tryz.f4,live:=[0,2,3,4,6,7,8,9,10,11,12],res:=[.tmp 2]}
instance Tryz.X9:Tryz.S4.Ok:=⟨Tryz.aZ,Tryz.func4,rfl⟩
noncomputable def Tryz.S5:ak:={P:=Tryz.prog,tt:=Tryz.tt,f:=5,fn:=Tryz.f5,live:=[0,1,2,4],res:=[.tmp 4]}
instance Tryz.S5ok:Tryz.S5.Ok:=⟨Tryz.aZ,Tryz.func5,rfl⟩
noncomputable def Tryz.S6:ak:={P:=Tryz.prog,tt:=Tryz.tt,f:=6,fn:=Tryz.f6,live:=[0,1,2,3,4,5,6,7,8,9,10,11,12,13,15,16,17,18,19,20,21,22,23,24,25,26,27,28],res:=[.cell 2 33,.tmp 3]}
instance Tryz.Ya:Tryz.S6.Ok:=⟨Tryz.aZ,Tryz.func6,rfl⟩
noncomputable def Tryz.S7:ak:={P:=Tryz.prog,tt:=Tryz.tt,f:=7,fn:=Tryz.f7,live:=[0,1,2,3],res:=[.cell 2 41]}
instance Tryz.S7ok:Tryz.S7.Ok:=⟨Tryz.aZ,Tryz.func7,rfl⟩
noncomputable def Tryz.S8:ak:={P:=Tryz.prog,tt:=Tryz.tt,f:=8,fn:=Tryz.f8,live:=[0,1,2,3,4,5,6,7,8,9,10,11,12,14,15,16,17,20,21,22,23,24,26,27,30,32,33,34,35,50,51,52,65,66,67,98,99,100,134,135,136,168,169,170,179,180,181,201,202,203,225,226,227,281,282,283],res:=[.cell 2 33,.tmp 3]}
instance Tryz.Yb:Tryz.S8.Ok:=⟨Tryz.aZ,Tryz.func8,rfl⟩
noncomputable def Tryz.S9:ak:={P:=Tryz.prog,tt:=Tryz.tt,f:=9,fn:=Tryz.f9,live:=[0,1,2,3,4],res:=[.tmp 4]}
instance Tryz.S9ok:Tryz.S9.Ok:=⟨Tryz.aZ,Tryz.func9,rfl⟩
noncomputable def Tryz.S10:ak:={P:=Tryz.prog,tt:=Tryz.tt,f:=10,fn:=Tryz.f10,live:=[0,1,2,3,4],res:=[.tmp 4]}
instance Tryz.S10ok:Tryz.S10.Ok:=⟨Tryz.aZ,Tryz.func10,rfl⟩
noncomputable def Tryz.S11:ak:={P:=Tryz.prog,tt:=Tryz.tt,f:=11,fn:=Tryz.f11,live:=[0,1,2,4],res:=[.tmp 4]}
instance Tryz.S11ok:Tryz.S11.Ok:=⟨Tryz.aZ,Tryz.func11,rfl⟩
noncomputable def Tryz.S12:ak:={P:=Tryz.prog,tt:=Tryz.tt,f:=12,fn:=Tryz.f12,live:=[0,1,2,4],res:=[.tmp 4]}
instance Tryz.S12ok:Tryz.S12.Ok:=⟨Tryz.aZ,Tryz.func12,rfl⟩
noncomputable def Tryz.S13:ak:={P:=Tryz.prog,tt:=Tryz.tt,f:=13,fn:=Tryz.f13,live:=[0,1,2,4],res:=[.tmp 4]}
instance Tryz.S13ok:Tryz.S13.Ok:=⟨Tryz.aZ,Tryz.func13,rfl⟩
noncomputable def Tryz.S14:ak:={P:=Tryz.prog,tt:=Tryz.tt,f:=14,fn:=Tryz.f14,live:=[0,2],res:=[.tmp 2]}
instance Tryz.UR:Tryz.S14.Ok:=⟨Tryz.aZ,Tryz.func14,rfl⟩
noncomputable def Tryz.S15:ak:={P:=Tryz.prog,tt:=Tryz.tt,f:=15,fn:=Tryz.f15,live:=[0,2,3,4,5],res:=[.cell 2 41,.tmp 3]}
instance Tryz.US:Tryz.S15.Ok:=⟨Tryz.aZ,Tryz.func15,rfl⟩
noncomputable def Tryz.S16:ak:={P:=Tryz.prog,tt:=Tryz.tt,f:=16,fn:=Tryz.f16,live:=[0,1,2,4,5,6,7,8,9],res:=[.tmp 4]}
instance Tryz.UT:Tryz.S16.Ok:=⟨Tryz.aZ,Tryz.func16,rfl⟩
noncomputable def Tryz.S17:ak:={P:=Tryz.prog,tt:=Tryz.tt,f:=17,fn:=Tryz.f17,live:=[0,1,4,5,6,7,8,19,20,21],res:=[.tmp 4]}
instance Tryz.UU:Tryz.S17.Ok:=⟨Tryz.aZ,Tryz.func17,rfl⟩
noncomputable def Tryz.S18:ak:={P:=Tryz.prog,tt:=Tryz.tt,f:=18,fn:=Tryz.f18,live:=[0,1,2,4,5,7,13,14,15],res:=[.tmp 4]}
instance Tryz.UW:Tryz.S18.Ok:=⟨Tryz.aZ,Tryz.func18,rfl⟩
noncomputable def Tryz.S19:ak:={P:=Tryz.prog,tt:=Tryz.tt,f:=19,fn:=Tryz.f19,live:=[0,1,2,3,4,5,7,14,15,16,58,59,60],res:=[.tmp 2]}
instance Tryz.UX:Tryz.S19.Ok:=⟨Tryz.aZ,Tryz.func19,rfl⟩
noncomputable def Tryz.S20:ak:={P:=Tryz.prog,tt:=Tryz.tt,f:=20,fn:=Tryz.f20,live:=[0,1,4,5],res:=[.tmp 4]}
instance Tryz.UY:Tryz.S20.Ok:=⟨Tryz.aZ,Tryz.func20,rfl⟩
noncomputable def Tryz.S21:ak:={P:=Tryz.prog,tt:=Tryz.tt,f:=21,fn:=Tryz.f21,live:=[0,1,2,4,5,6,8,9,10,21,22,23],res:=[.tmp 4]}
instance Tryz.Js:Tryz.S21.Ok:=⟨Tryz.aZ,Tryz.func21,rfl⟩
noncomputable def Tryz.S22:ak:={P:=Tryz.prog,tt:=Tryz.tt,f:=22,fn:=Tryz.f22,live:=[0,1,4],res:=[.tmp 4]}
instance Tryz.S22ok:Tryz.S22.Ok:=⟨Tryz.aZ,Tryz.func22,rfl⟩
noncomputable def Tryz.S23:ak:={P:=Tryz.prog,tt:=Tryz.tt,f:=23,fn:=Tryz.f23,live:=[0,1,4,5],res:=[.tmp 4]}
instance Tryz.S23ok:Tryz.S23.Ok:=⟨Tryz.aZ,Tryz.func23,rfl⟩
noncomputable def Tryz.S24:ak:={P:=Tryz.prog,tt:=Tryz.tt,f:=24,fn:=Tryz.f24,live:=[0,1,4,5],res:=[.tmp 4]}
instance Tryz.S24ok:Tryz.S24.Ok:=⟨Tryz.aZ,Tryz.func24,rfl⟩
noncomputable def Tryz.S25:ak:={P:=Tryz.prog,tt:=Tryz.tt,f:=25,fn:=Tryz.f25,live:=[0,1,4],res:=[.tmp 4]}
instance Tryz.S25ok:Tryz.S25.Ok:=⟨Tryz.aZ,Tryz.func25,rfl⟩
noncomputable def Tryz.S26:ak:={P:=Tryz.prog,tt:=Tryz.tt,f:=26,fn:=Tryz.f26,live:=[0,1,2,4,5,6,7,8,9,10],res:=[.tmp 2]}
instance Tryz.UZ:Tryz.S26.Ok:=⟨Tryz.aZ,Tryz.func26,rfl⟩
noncomputable def Tryz.S27:ak:={P:=Tryz.prog,tt:=Tryz.tt,f:=27,fn:=Tryz.f27,live:=[0,2,3,4],res:=[.tmp 2]}
instance Tryz.U0:Tryz.S27.Ok:=⟨Tryz.aZ,Tryz.func27,rfl⟩
noncomputable def Tryz.S28:ak:={P:=Tryz.prog,tt:=Tryz.tt,f:=28,fn:=Tryz.f28,live:=[0,1,2,4,5,6],res:=[.tmp 4]}
instance Tryz.U1:Tryz.S28.Ok:=⟨Tryz.aZ,Tryz.func28,rfl⟩
noncomputable def Tryz.S29:ak:={P:=Tryz.prog,tt:=Tryz.tt,f:=29,fn:=Tryz.f29,live:=[0,1,2,3,4,5,6,7,8,9],res:=[.tmp 2,.tmp 3]}
instance Tryz.U2:Tryz.S29.Ok:=⟨Tryz.aZ,Tryz.func29,rfl⟩
noncomputable def Tryz.S30:ak:={P:=Tryz.prog,tt:=Tryz.tt,f:=30,fn:=Tryz.f30,live:=[0,1,2,3,4,8,9,10,11,12,13,14,15],res:=[.cell 8 33,.tmp 9]}
instance Tryz.U3:Tryz.S30.Ok:=⟨Tryz.aZ,Tryz.func30,rfl⟩
noncomputable def Tryz.S31:ak:={P:=Tryz.prog,tt:=Tryz.tt,f:=31,fn:=Tryz.f31,live:=[0,1,2,3,4,5,6,7],res:=[.cell 2 33]}
instance Tryz.U4:Tryz.S31.Ok:=⟨Tryz.aZ,Tryz.func31,rfl⟩
noncomputable def Tryz.S32:ak:={P:=Tryz.prog,tt:=Tryz.tt,f:=32,fn:=Tryz.f32,live:=[0,2,3,4],res:=[.tmp 2]}
instance Tryz.S32ok:Tryz.S32.Ok:=⟨Tryz.aZ,Tryz.func32,rfl⟩
noncomputable def Tryz.S33:ak:={P:=Tryz.prog,tt:=Tryz.tt,f:=33,fn:=Tryz.f33,live:=[0,2,3,4],res:=[.tmp 2]}
instance Tryz.S33ok:Tryz.S33.Ok:=⟨Tryz.aZ,Tryz.func33,rfl⟩
noncomputable def Tryz.S34:ak:={P:=Tryz.prog,tt:=Tryz.tt,f:=34,fn:=Tryz.f34,live:=[0,2,3,4],res:=[.tmp 2]}
instance Tryz.S34ok:Tryz.S34.Ok:=⟨Tryz.aZ,Tryz.func34,rfl⟩
noncomputable def Tryz.S35:ak:={P:=Tryz.prog,tt:=Tryz.tt,f:=35,fn:=Tryz.f35,live:=[0,2,3,4],res:=[.tmp 2]}
instance Tryz.S35ok:Tryz.S35.Ok:=⟨Tryz.aZ,Tryz.func35,rfl⟩
noncomputable def Tryz.S36:ak:={P:=Tryz.prog,tt:=Tryz.tt,f:=36,fn:=Tryz.f36,live:=[0,1,2,4,6,8,9,11,20,21,22,31,32,33,45,46,47],res:=[.tmp 2]}
instance Tryz.U5:Tryz.S36.Ok:=⟨Tryz.aZ,Tryz.func36,rfl⟩
noncomputable def Tryz.S37:ak:={P:=Tryz.prog,tt:=Tryz.tt,f:=37,fn:=Tryz.f37,live:=[0,2,3,5,6,7,8],res:=[.tmp 2]}
instance Tryz.U6:Tryz.S37.Ok:=⟨Tryz.aZ,Tryz.func37,rfl⟩
noncomputable def Tryz.S38:ak:={P:=Tryz.prog,tt:=Tryz.tt,f:=38,fn:=Tryz.f38,live:=[0,1,2,3,5],res:=[]}
instance Tryz.U7:Tryz.S38.Ok:=⟨Tryz.aZ,Tryz.func38,rfl⟩
noncomputable def Tryz.S39:ak:={P:=Tryz.prog,tt:=Tryz.tt,f:=39,fn:=Tryz.f39,live:=[0,1,2,3,4,5,6,7,8,9,10,11,13,26,27,28,49,50,51,56,57,58],res:=[.tmp 2,.tmp 3]}
instance Tryz.U8:Tryz.S39.Ok:=⟨Tryz.aZ,Tryz.func39,rfl⟩
noncomputable def Tryz.S40:ak:={P:=Tryz.prog,tt:=Tryz.tt,f:=40,fn:=Tryz.f40,live:=[0,1,2,6,7,8,9,10,11,12,13,14,15,17,18,52,55,56,57,69,70,105,106,110],res:=[.tmp 6,.tmp 7]}
instance Tryz.U9:Tryz.S40.Ok:=⟨Tryz.aZ,Tryz.func40,rfl⟩
noncomputable def Tryz.S41:ak:={P:=Tryz.prog,tt:=Tryz.tt,f:=41,fn:=Tryz.f41,live:=[0,1,2,3,4,5,6,12,13,14],res:=[.cell 2 33]}
instance Tryz.Va:Tryz.S41.Ok:=⟨Tryz.aZ,Tryz.func41,rfl⟩
noncomputable def Tryz.S42:ak:={P:=Tryz.prog,tt:=Tryz.tt,f:=42,fn:=Tryz.f42,live:=[0,1,4,5],res:=[.tmp 4]}
instance Tryz.S42ok:Tryz.S42.Ok:=⟨Tryz.aZ,Tryz.func42,rfl⟩
noncomputable def Tryz.S43:ak:={P:=Tryz.prog,tt:=Tryz.tt,f:=43,fn:=Tryz.f43,live:=[0,1,4,5],res:=[.tmp 4]}
instance Tryz.S43ok:Tryz.S43.Ok:=⟨Tryz.aZ,Tryz.func43,rfl⟩
noncomputable def Tryz.S44:ak:={P:=Tryz.prog,tt:=Tryz.tt,f:=44,fn:=Tryz.f44,live:=[0,1,4,5],res:=[.tmp 4]}
instance Tryz.S44ok:Tryz.S44.Ok:=⟨Tryz.aZ,Tryz.func44,rfl⟩
noncomputable def Tryz.S45:ak:={P:=Tryz.prog,tt:=Tryz.tt,f:=45,fn:=Tryz.f45,live:=[0,1,4,5],res:=[.tmp 4]}
instance Tryz.S45ok:Tryz.S45.Ok:=⟨Tryz.aZ,Tryz.func45,rfl⟩
noncomputable def Tryz.S46:ak:={P:=Tryz.prog,tt:=Tryz.tt,f:=46,fn:=Tryz.f46,live:=[0,1,4,5],res:=[.tmp 4]}
instance Tryz.S46ok:Tryz.S46.Ok:=⟨Tryz.aZ,Tryz.func46,rfl⟩
noncomputable def Tryz.S47:ak:={P:=Tryz.prog,tt:=Tryz.tt,f:=47,fn:=Tryz.f47,live:=[0,1,4,5],res:=[.tmp 4]}
instance Tryz.S47ok:Tryz.S47.Ok:=⟨Tryz.aZ,Tryz.func47,rfl⟩
noncomputable def Tryz.S48:ak:={P:=Tryz.prog,tt:=Tryz.tt,f:=48,fn:=Tryz.f48,live:=[0,1,4,5],res:=[.tmp 4]}
instance Tryz.S48ok:Tryz.S48.Ok:=⟨Tryz.aZ,Tryz.func48,rfl⟩
noncomputable def Tryz.S49:ak:={P:=Tryz.prog,tt:=Tryz.tt,f:=49,fn:=Tryz.f49,live:=[0,1,4,5],res:=[.tmp 4]}
instance Tryz.S49ok:Tryz.S49.Ok:=⟨Tryz.aZ,Tryz.func49,rfl⟩
noncomputable def Tryz.S50:ak:={P:=Tryz.prog,tt:=Tryz.tt,f:=50,fn:=Tryz.f50,live:=[0,1,4,5],res:=[.tmp 4]}
instance Tryz.S50ok:Tryz.S50.Ok:=⟨Tryz.aZ,Tryz.func50,rfl⟩
noncomputable def Tryz.S51:ak:={P:=Tryz.prog,tt:=Tryz.tt,f:=51,fn:=Tryz.f51,live:=[0,1,4,5],res:=[.tmp 4]}
instance Tryz.S51ok:Tryz.S51.Ok:=⟨Tryz.aZ,Tryz.func51,rfl⟩
noncomputable def Tryz.S52:ak:={P:=Tryz.prog,tt:=Tryz.tt,f:=52,fn:=Tryz.f52,live:=[0,1,4,5],res:=[.tmp 4]}
instance Tryz.S52ok:Tryz.S52.Ok:=⟨Tryz.aZ,Tryz.func52,rfl⟩
noncomputable def Tryz.S53:ak:={P:=Tryz.prog,tt:=Tryz.tt,f:=53,fn:=Tryz.f53,live:=[0,1,4,5],res:=[.tmp 4]}
instance Tryz.S53ok:Tryz.S53.Ok:=⟨Tryz.aZ,Tryz.func53,rfl⟩
noncomputable def Tryz.S54:ak:={P:=Tryz.prog,tt:=Tryz.tt,f:=54,fn:=Tryz.f54,live:=[0,1,4,5],res:=[.tmp 4]}
instance Tryz.S54ok:Tryz.S54.Ok:=⟨Tryz.aZ,Tryz.func54,rfl⟩
noncomputable def Tryz.S55:ak:={P:=Tryz.prog,tt:=Tryz.tt,f:=55,fn:=Tryz.f55,live:=[0,1,4,5],res:=[.tmp 4]}
instance Tryz.S55ok:Tryz.S55.Ok:=⟨Tryz.aZ,Tryz.func55,rfl⟩
noncomputable def Tryz.S56:ak:={P:=Tryz.prog,tt:=Tryz.tt,f:=56,fn:=Tryz.f56,live:=[0,1,4,5],res:=[.tmp 4]}
instance Tryz.S56ok:Tryz.S56.Ok:=⟨Tryz.aZ,Tryz.func56,rfl⟩
noncomputable def Tryz.S57:ak:={P:=Tryz.prog,tt:=Tryz.tt,f:=57,fn:=Tryz.f57,live:=[0,1,4,5],res:=[.tmp 4]}
instance Tryz.S57ok:Tryz.S57.Ok:=⟨Tryz.aZ,Tryz.func57,rfl⟩
noncomputable def Tryz.S58:ak:={P:=Tryz.prog,tt:=Tryz.tt,f:=58,fn:=Tryz.f58,live:=[0,1,4,5],res:=[.tmp 4]}
instance Tryz.S58ok:Tryz.S58.Ok:=⟨Tryz.aZ,Tryz.func58,rfl⟩
noncomputable def Tryz.S59:ak:={P:=Tryz.prog,tt:=Tryz.tt,f:=59,fn:=Tryz.f59,live:=[0,2,3,4],res:=[.tmp 2]}
instance Tryz.Vb:Tryz.S59.Ok:=⟨Tryz.aZ,Tryz.func59,rfl⟩
noncomputable def Tryz.S60:ak:={P:=Tryz.prog,tt:=Tryz.tt,f:=60,fn:=Tryz.f60,live:=[0,2,3,4,5,6],res:=[.cell 2 41]}
instance Tryz.Vc:Tryz.S60.Ok:=⟨Tryz.aZ,Tryz.func60,rfl⟩
noncomputable def Tryz.S61:ak:={P:=Tryz.prog,tt:=Tryz.tt,f:=61,fn:=Tryz.f61,live:=[0,1,2,4,6,7,8,9,10,11],res:=[.tmp 6]}
instance Tryz.Vd:Tryz.S61.Ok:=⟨Tryz.aZ,Tryz.func61,rfl⟩
noncomputable def Tryz.S62:ak:={P:=Tryz.prog,tt:=Tryz.tt,f:=62,fn:=Tryz.f62,live:=[0,1,4,5,6,7,8],res:=[.tmp 4]}
instance Tryz.Ve:Tryz.S62.Ok:=⟨Tryz.aZ,Tryz.func62,rfl⟩
noncomputable def Tryz.S63:ak:={P:=Tryz.prog,tt:=Tryz.tt,f:=63,fn:=Tryz.f63,live:=[0,1,2,4,5,6],res:=[.tmp 4]}
instance Tryz.Vf:Tryz.S63.Ok:=⟨Tryz.aZ,Tryz.func63,rfl⟩
noncomputable def Tryz.S64:ak:={P:=Tryz.prog,tt:=Tryz.tt,f:=64,fn:=Tryz.f64,live:=[0,1,2,3,4],res:=[.cell 2 111]}
instance Tryz.Vg:Tryz.S64.Ok:=⟨Tryz.aZ,Tryz.func64,rfl⟩
noncomputable def Tryz.S65:ak:={P:=Tryz.prog,tt:=Tryz.tt,f:=65,fn:=Tryz.f65,live:=[0,1,2,3,4,6,7,8,9,10,11,12,13,15,16,17],res:=[.cell 6 111,.tmp 7]}
instance Tryz.Vh:Tryz.S65.Ok:=⟨Tryz.aZ,Tryz.func65,rfl⟩
noncomputable def Tryz.S66:ak:={P:=Tryz.prog,tt:=Tryz.tt,f:=66,fn:=Tryz.f66,live:=[0,2,3,5,6,7,8],res:=[.tmp 2]}
instance Tryz.Vi:Tryz.S66.Ok:=⟨Tryz.aZ,Tryz.func66,rfl⟩
noncomputable def Tryz.S67:ak:={P:=Tryz.prog,tt:=Tryz.tt,f:=67,fn:=Tryz.f67,live:=[0,2],res:=[.tmp 2]}
instance Tryz.Vj:Tryz.S67.Ok:=⟨Tryz.aZ,Tryz.func67,rfl⟩
noncomputable def Tryz.S68:ak:={P:=Tryz.prog,tt:=Tryz.tt,f:=68,fn:=Tryz.f68,live:=[0,1,2,3,5,7,8,9,10,16,17,18,27,28,29,41,42,43],res:=[.tmp 2]}
instance Tryz.Vk:Tryz.S68.Ok:=⟨Tryz.aZ,Tryz.func68,rfl⟩
noncomputable def Tryz.S69:ak:={P:=Tryz.prog,tt:=Tryz.tt,f:=69,fn:=Tryz.f69,live:=[0,1,2,3,5,10,11,12],res:=[.tmp 2]}
instance Tryz.Vl:Tryz.S69.Ok:=⟨Tryz.aZ,Tryz.func69,rfl⟩
noncomputable def Tryz.S70:ak:={P:=Tryz.prog,tt:=Tryz.tt,f:=70,fn:=Tryz.f70,live:=[0,1,2],res:=[.tmp 2]}
instance Tryz.Vm:Tryz.S70.Ok:=⟨Tryz.aZ,Tryz.func70,rfl⟩
noncomputable def Tryz.S71:ak:={P:=Tryz.prog,tt:=Tryz.tt,f:=71,fn:=Tryz.f71,live:=[0,1,2,3,5,7,8,9],res:=[.tmp 2]}
instance Tryz.Vn:Tryz.S71.Ok:=⟨Tryz.aZ,Tryz.func71,rfl⟩
noncomputable def Tryz.S72:ak:={P:=Tryz.prog,tt:=Tryz.tt,f:=72,fn:=Tryz.f72,live:=[0,1,2,3,6,7,8,9,10,11,17,18,19],res:=[.tmp 6,.tmp 7]}
instance Tryz.Vo:Tryz.S72.Ok:=⟨Tryz.aZ,Tryz.func72,rfl⟩
noncomputable def Tryz.S73:ak:={P:=Tryz.prog,tt:=Tryz.tt,f:=73,fn:=Tryz.f73,live:=[0,1,2,4],res:=[.tmp 4]}
instance Tryz.S73ok:Tryz.S73.Ok:=⟨Tryz.aZ,Tryz.func73,rfl⟩
noncomputable def Tryz.S74:ak:={P:=Tryz.prog,tt:=Tryz.tt,f:=74,fn:=Tryz.f74,live:=[0,1,2,4],res:=[.tmp 4]}
instance Tryz.S74ok:Tryz.S74.Ok:=⟨Tryz.aZ,Tryz.func74,rfl⟩
noncomputable def Tryz.S75:ak:={P:=Tryz.prog,tt:=Tryz.tt,f:=75,fn:=Tryz.f75,live:=[0,1,2,3],res:=[.tmp 2]}
instance Tryz.Oi:Tryz.S75.Ok:=⟨Tryz.aZ,Tryz.func75,rfl⟩
noncomputable def Tryz.S76:ak:={P:=Tryz.prog,tt:=Tryz.tt,f:=76,fn:=Tryz.f76,live:=[0,1,4,5],res:=[.tmp 4]}
instance Tryz.Vp:Tryz.S76.Ok:=⟨Tryz.aZ,Tryz.func76,rfl⟩
noncomputable def Tryz.S77:ak:={P:=Tryz.prog,tt:=Tryz.tt,f:=77,fn:=Tryz.f77,live:=[0,1,2,3,4,5,6,7,8],res:=[.tmp 2]}
instance Tryz.Vq:Tryz.S77.Ok:=⟨Tryz.aZ,Tryz.func77,rfl⟩
noncomputable def Tryz.S78:ak:={P:=Tryz.prog,tt:=Tryz.tt,f:=78,fn:=Tryz.f78,live:=[0,1,4,5,6],res:=[.tmp 4]}
instance Tryz.Vr:Tryz.S78.Ok:=⟨Tryz.aZ,Tryz.func78,rfl⟩
noncomputable def Tryz.S79:ak:={P:=Tryz.prog,tt:=Tryz.tt,f:=79,fn:=Tryz.f79,live:=[0,1,2,6],res:=[.tmp 6]}
instance Tryz.Vs:Tryz.S79.Ok:=⟨Tryz.aZ,Tryz.func79,rfl⟩
noncomputable def Tryz.S80:ak:={P:=Tryz.prog,tt:=Tryz.tt,f:=80,fn:=Tryz.f80,live:=[0,1,2],res:=[.cell 2 33]}
instance Tryz.Vt:Tryz.S80.Ok:=⟨Tryz.aZ,Tryz.func80,rfl⟩
noncomputable def Tryz.S81:ak:={P:=Tryz.prog,tt:=Tryz.tt,f:=81,fn:=Tryz.f81,live:=[0,1,4],res:=[.tmp 4]}
instance Tryz.Vu:Tryz.S81.Ok:=⟨Tryz.aZ,Tryz.func81,rfl⟩
noncomputable def Tryz.S82:ak:={P:=Tryz.prog,tt:=Tryz.tt,f:=82,fn:=Tryz.f82,live:=[0,1,2],res:=[.tmp 2]}
instance Tryz.Vv:Tryz.S82.Ok:=⟨Tryz.aZ,Tryz.func82,rfl⟩
noncomputable def Tryz.S83:ak:={P:=Tryz.prog,tt:=Tryz.tt,f:=83,fn:=Tryz.f83,live:=[0,1,2,3,4,5,10,11,12,13,14,15,16,17,18,19,20,21,22,23],res:=[.cell 10 33,.tmp 11,.tmp 12]}
instance Tryz.Gn:Tryz.S83.Ok:=⟨Tryz.aZ,Tryz.func83,rfl⟩
noncomputable def Tryz.S84:ak:={P:=Tryz.prog,tt:=Tryz.tt,f:=84,fn:=Tryz.f84,live:=[0,2,3],res:=[.tmp 2]}
instance Tryz.Vw:Tryz.S84.Ok:=⟨Tryz.aZ,Tryz.func84,rfl⟩
noncomputable def Tryz.S85:ak:={P:=Tryz.prog,tt:=Tryz.tt,f:=85,fn:=Tryz.f85,live:=[0,1,2,3,4,5,6,7],res:=[.cell 2 33,.tmp 3]}
instance Tryz.Vx:Tryz.S85.Ok:=⟨Tryz.aZ,Tryz.func85,rfl⟩
noncomputable def Tryz.S86:ak:={P:=Tryz.prog,tt:=Tryz.tt,f:=86,fn:=Tryz.f86,live:=[0,1,2,3,6,7,8,9,10,11],res:=[.cell 6 33,.tmp 7]}
instance Tryz.Vy:Tryz.S86.Ok:=⟨Tryz.aZ,Tryz.func86,rfl⟩
noncomputable def Tryz.S87:ak:={P:=Tryz.prog,tt:=Tryz.tt,f:=87,fn:=Tryz.f87,live:=[0,1,2,3,4,6,7],res:=[.cell 6 33]}
instance Tryz.Vz:Tryz.S87.Ok:=⟨Tryz.aZ,Tryz.func87,rfl⟩
noncomputable def Tryz.S88:ak:={P:=Tryz.prog,tt:=Tryz.tt,f:=88,fn:=Tryz.f88,live:=[0,1,2,3],res:=[.cell 2 66]}
instance Tryz.S88ok:Tryz.S88.Ok:=⟨Tryz.aZ,Tryz.func88,rfl⟩
noncomputable def Tryz.S89:ak:={P:=Tryz.prog,tt:=Tryz.tt,f:=89,fn:=Tryz.f89,live:=[0,1,2,3],res:=[.cell 2 75]}
instance Tryz.S89ok:Tryz.S89.Ok:=⟨Tryz.aZ,Tryz.func89,rfl⟩
noncomputable def Tryz.S90:ak:={P:=Tryz.prog,tt:=Tryz.tt,f:=90,fn:=Tryz.f90,live:=[0,1,2,3],res:=[.cell 2 150]}
instance Tryz.S90ok:Tryz.S90.Ok:=⟨Tryz.aZ,Tryz.func90,rfl⟩
noncomputable def Tryz.S91:ak:={P:=Tryz.prog,tt:=Tryz.tt,f:=91,fn:=Tryz.f91,live:=[0,1,2,3],res:=[.cell 2 70]}
instance Tryz.S91ok:Tryz.S91.Ok:=⟨Tryz.aZ,Tryz.func91,rfl⟩
noncomputable def Tryz.S92:ak:={P:=Tryz.prog,tt:=Tryz.tt,f:=92,fn:=Tryz.f92,live:=[0,2,4,5,6,7],res:=[.tmp 2]}
instance Tryz.VA:Tryz.S92.Ok:=⟨Tryz.aZ,Tryz.func92,rfl⟩
noncomputable def Tryz.S93:ak:={P:=Tryz.prog,tt:=Tryz.tt,f:=93,fn:=Tryz.f93,live:=[0,1,2,3,6,7],res:=[.tmp 2]}
instance Tryz.VB:Tryz.S93.Ok:=⟨Tryz.aZ,Tryz.func93,rfl⟩
noncomputable def Tryz.S94:ak:={P:=Tryz.prog,tt:=Tryz.tt,f:=94,fn:=Tryz.f94,live:=[0,1,4,6,7,8,9],res:=[.tmp 4]}
instance Tryz.VC:Tryz.S94.Ok:=⟨Tryz.aZ,Tryz.func94,rfl⟩
noncomputable def Tryz.S95:ak:={P:=Tryz.prog,tt:=Tryz.tt,f:=95,fn:=Tryz.f95,live:=[0,2],res:=[.tmp 2]}
instance Tryz.VD:Tryz.S95.Ok:=⟨Tryz.aZ,Tryz.func95,rfl⟩
noncomputable def Tryz.S96:ak:={P:=Tryz.prog,tt:=Tryz.tt,f:=96,fn:=Tryz.f96,live:=[0,1,3,4,5,6,7,14,18,19,35,36],res:=[.tmp 4]}
instance Tryz.VE:Tryz.S96.Ok:=⟨Tryz.aZ,Tryz.func96,rfl⟩
noncomputable def Tryz.S97:ak:={P:=Tryz.prog,tt:=Tryz.tt,f:=97,fn:=Tryz.f97,live:=[0,2,3,5,6,7,8],res:=[.tmp 2]}
instance Tryz.VF:Tryz.S97.Ok:=⟨Tryz.aZ,Tryz.func97,rfl⟩
noncomputable def Tryz.S98:ak:={P:=Tryz.prog,tt:=Tryz.tt,f:=98,fn:=Tryz.f98,live:=[0,1,2,6],res:=[.tmp 6]}
instance Tryz.VG:Tryz.S98.Ok:=⟨Tryz.aZ,Tryz.func98,rfl⟩
noncomputable def Tryz.S99:ak:={P:=Tryz.prog,tt:=Tryz.tt,f:=99,fn:=Tryz.f99,live:=[0,1,2,6],res:=[.tmp 6]}
instance Tryz.VH:Tryz.S99.Ok:=⟨Tryz.aZ,Tryz.func99,rfl⟩
noncomputable def Tryz.Yc:ak:={P:=Tryz.prog,tt:=Tryz.tt,f:=100,fn:=Tryz.f100,live:=[0,1,2,6],res:=[.tmp 6]}
instance Tryz.Qb:Tryz.Yc.Ok:=⟨Tryz.aZ,Tryz.func100,rfl⟩
noncomputable def Tryz.Yd:ak:={P:=Tryz.prog,tt:=Tryz.tt,f:=101,fn:=Tryz.f101,live:=[0,1,2,3,8,9,10,11,12,13,15,16],res:=[.tmp 8]}
instance Tryz.Qc:Tryz.Yd.Ok:=⟨Tryz.aZ,Tryz.func101,rfl⟩
noncomputable def Tryz.Ye:ak:={P:=Tryz.prog,tt:=Tryz.tt,f:=102,fn:=Tryz.f102,live:=[0,1,2,3,8,9,10,11,15,16],res:=[.tmp 8]}
instance Tryz.Qd:Tryz.Ye.Ok:=⟨Tryz.aZ,Tryz.func102,rfl⟩
noncomputable def Tryz.Yf:ak:={P:=Tryz.prog,tt:=Tryz.tt,f:=103,fn:=Tryz.f103,live:=[0,1,2,3,8],res:=[.tmp 8]}
instance Tryz.Qe:Tryz.Yf.Ok:=⟨Tryz.aZ,Tryz.func103,rfl⟩
noncomputable def Tryz.Yg:ak:={P:=Tryz.prog,tt:=Tryz.tt,f:=104,fn:=Tryz.f104,live:=[0,1,2,3,5,10,11,12],res:=[.cell 2 33]}
instance Tryz.Qf:Tryz.Yg.Ok:=⟨Tryz.aZ,Tryz.func104,rfl⟩
noncomputable def Tryz.Yh:ak:={P:=Tryz.prog,tt:=Tryz.tt,f:=105,fn:=Tryz.f105,live:=[0,1,2,3,4],res:=[.tmp 2]}
instance Tryz.Qg:Tryz.Yh.Ok:=⟨Tryz.aZ,Tryz.func105,rfl⟩
noncomputable def Tryz.Yi:ak:={P:=Tryz.prog,tt:=Tryz.tt,f:=106,fn:=Tryz.f106,live:=[0,1,2,6,7,8,9,46,47,48],res:=[.tmp 6]}
instance Tryz.Qh:Tryz.Yi.Ok:=⟨Tryz.aZ,Tryz.func106,rfl⟩
noncomputable def Tryz.Yj:ak:={P:=Tryz.prog,tt:=Tryz.tt,f:=107,fn:=Tryz.f107,live:=[0,1,4],res:=[.tmp 4]}
instance Tryz.Qi:Tryz.Yj.Ok:=⟨Tryz.aZ,Tryz.func107,rfl⟩
noncomputable def Tryz.Yk:ak:={P:=Tryz.prog,tt:=Tryz.tt,f:=108,fn:=Tryz.f108,live:=[0,1,2,4,6,7,9,10,11],res:=[]}
instance Tryz.Qj:Tryz.Yk.Ok:=⟨Tryz.aZ,Tryz.func108,rfl⟩
noncomputable def Tryz.Yl:ak:={P:=Tryz.prog,tt:=Tryz.tt,f:=109,fn:=Tryz.f109,live:=[0,1,2,3,4,5,6,7,8,16,17,18],res:=[.cell 2 33]}
instance Tryz.Qk:Tryz.Yl.Ok:=⟨Tryz.aZ,Tryz.func109,rfl⟩
noncomputable def Tryz.Ym:ak:={P:=Tryz.prog,tt:=Tryz.tt,f:=110,fn:=Tryz.f110,live:=[0,1,2,3,4],res:=[.tmp 4]}
instance Tryz.Yn:Tryz.Ym.Ok:=⟨Tryz.aZ,Tryz.func110,rfl⟩
noncomputable def Tryz.Yo:ak:={P:=Tryz.prog,tt:=Tryz.tt,f:=111,fn:=Tryz.f111,live:=[0,1,2,3,4],res:=[.tmp 4]}
instance Tryz.Yp:Tryz.Yo.Ok:=⟨Tryz.aZ,Tryz.func111,rfl⟩
noncomputable def Tryz.Yq:ak:={P:=Tryz.prog,tt:=Tryz.tt,f:=112,fn:=Tryz.f112,live:=[0,1,2,3,4],res:=[.tmp 4]}
instance Tryz.Yr:Tryz.Yq.Ok:=⟨Tryz.aZ,Tryz.func112,rfl⟩
noncomputable def Tryz.Ys:ak:={P:=Tryz.prog,tt:=Tryz.tt,f:=113,fn:=Tryz.f113,live:=[0,1,2,3,4],res:=[.tmp 4]}
instance Tryz.Yt:Tryz.Ys.Ok:=⟨Tryz.aZ,Tryz.func113,rfl⟩
noncomputable def Tryz.Yu:ak:={P:=Tryz.prog,tt:=Tryz.tt,f:=114,fn:=Tryz.f114,live:=[0,1,2,3,4],res:=[.tmp 4]}
instance Tryz.Yw:Tryz.Yu.Ok:=⟨Tryz.aZ,Tryz.func114,rfl⟩
noncomputable def Tryz.Yx:ak:={P:=Tryz.prog,tt:=Tryz.tt,f:=115,fn:=Tryz.f115,live:=[0,1,2,3,4],res:=[.tmp 4]}
instance Tryz.Yy:Tryz.Yx.Ok:=⟨Tryz.aZ,Tryz.func115,rfl⟩
noncomputable def Tryz.Yz:ak:={P:=Tryz.prog,tt:=Tryz.tt,f:=116,fn:=Tryz.f116,live:=[0,1,4,5],res:=[.tmp 4]}
instance Tryz.YA:Tryz.Yz.Ok:=⟨Tryz.aZ,Tryz.func116,rfl⟩
noncomputable def Tryz.YB:ak:={P:=Tryz.prog,tt:=Tryz.tt,f:=117,fn:=Tryz.f117,live:=[0,1,2,4,5,6,7],res:=[.cell 4 41,.tmp 5]}
instance Tryz.Ql:Tryz.YB.Ok:=⟨Tryz.aZ,Tryz.func117,rfl⟩
noncomputable def Tryz.YC:ak:={P:=Tryz.prog,tt:=Tryz.tt,f:=118,fn:=Tryz.f118,live:=[0,2,3,4,5],res:=[.cell 2 136]}
instance Tryz.Qn:Tryz.YC.Ok:=⟨Tryz.aZ,Tryz.func118,rfl⟩
noncomputable def Tryz.YD:ak:={P:=Tryz.prog,tt:=Tryz.tt,f:=119,fn:=Tryz.f119,live:=[0,1,2,3],res:=[.cell 0 136]}
instance Tryz.Qo:Tryz.YD.Ok:=⟨Tryz.aZ,Tryz.func119,rfl⟩
noncomputable def Tryz.VI:ak:={P:=Tryz.prog,tt:=Tryz.tt,f:=120,fn:=Tryz.f120,live:=[0,2,3],res:=[.tmp 2]}
instance Tryz.YE:Tryz.VI.Ok:=⟨Tryz.aZ,Tryz.func120,rfl⟩
noncomputable def Tryz.YF:ak:={P:=Tryz.prog,tt:=Tryz.tt,f:=121,fn:=Tryz.f121,live:=[0,1,2,3,4,5,6,7,8],res:=[.tmp 4]}
instance Tryz.Qp:Tryz.YF.Ok:=⟨Tryz.aZ,Tryz.func121,rfl⟩
noncomputable def Tryz.YG:ak:={P:=Tryz.prog,tt:=Tryz.tt,f:=122,fn:=Tryz.f122,live:=[0,1,2,3,4,6,7,8,9,10,12,13,14],res:=[.tmp 6]}
instance Tryz.Qq:Tryz.YG.Ok:=⟨Tryz.aZ,Tryz.func122,rfl⟩
noncomputable def Tryz.YH:ak:={P:=Tryz.prog,tt:=Tryz.tt,f:=123,fn:=Tryz.f123,live:=[0,1,2,3,8,9,10,11,12,13,21,78],res:=[.tmp 8,.tmp 9]}
instance Tryz.Bu:Tryz.YH.Ok:=⟨Tryz.aZ,Tryz.func123,rfl⟩
noncomputable def Tryz.YI:ak:={P:=Tryz.prog,tt:=Tryz.tt,f:=124,fn:=Tryz.f124,live:=[0,1,2,6],res:=[.tmp 6]}
instance Tryz.Qs:Tryz.YI.Ok:=⟨Tryz.aZ,Tryz.func124,rfl⟩
noncomputable def Tryz.YJ:ak:={P:=Tryz.prog,tt:=Tryz.tt,f:=125,fn:=Tryz.f125,live:=[0,1,2],res:=[.tmp 2]}
instance Tryz.Qt:Tryz.YJ.Ok:=⟨Tryz.aZ,Tryz.func125,rfl⟩
noncomputable def Tryz.YK:ak:={P:=Tryz.prog,tt:=Tryz.tt,f:=126,fn:=Tryz.f126,live:=[0,1,2,4],res:=[.tmp 2]}
instance Tryz.Qu:Tryz.YK.Ok:=⟨Tryz.aZ,Tryz.func126,rfl⟩
noncomputable def Tryz.YL:ak:={P:=Tryz.prog,tt:=Tryz.tt,f:=127,fn:=Tryz.f127,live:=[0,1,2,3,5,10,11,12],res:=[.tmp 2]}
instance Tryz.Qv:Tryz.YL.Ok:=⟨Tryz.aZ,Tryz.func127,rfl⟩
noncomputable def Tryz.YM:ak:={P:=Tryz.prog,tt:=Tryz.tt,f:=128,fn:=Tryz.f128,live:=[0,1,2],res:=[.tmp 2]}
instance Tryz.Qw:Tryz.YM.Ok:=⟨Tryz.aZ,Tryz.func128,rfl⟩
noncomputable def Tryz.YN:ak:={P:=Tryz.prog,tt:=Tryz.tt,f:=129,fn:=Tryz.f129,live:=[0,1,2,3,6],res:=[]}
instance Tryz.Qx:Tryz.YN.Ok:=⟨Tryz.aZ,Tryz.func129,rfl⟩
noncomputable def Tryz.YO:ak:={P:=Tryz.prog,tt:=Tryz.tt,f:=130,fn:=Tryz.f130,live:=[0,1,2,3,6,7,8,9,10,11,12,31,32,33,48,49,50],res:=[.tmp 6]}
instance Tryz.Qy:Tryz.YO.Ok:=⟨Tryz.aZ,Tryz.func130,rfl⟩
noncomputable def Tryz.YP:ak:={P:=Tryz.prog,tt:=Tryz.tt,f:=131,fn:=Tryz.f131,live:=[0,1,2,6,7,8],res:=[.tmp 6]}
instance Tryz.Qz:Tryz.YP.Ok:=⟨Tryz.aZ,Tryz.func131,rfl⟩
noncomputable def Tryz.YQ:ak:={P:=Tryz.prog,tt:=Tryz.tt,f:=132,fn:=Tryz.f132,live:=[0,1,4,5,6,7,8,9,10],res:=[.tmp 4]}
instance Tryz.QA:Tryz.YQ.Ok:=⟨Tryz.aZ,Tryz.func132,rfl⟩
noncomputable def Tryz.YR:ak:={P:=Tryz.prog,tt:=Tryz.tt,f:=133,fn:=Tryz.f133,live:=[0,1,4],res:=[.tmp 4]}
instance Tryz.YS:Tryz.YR.Ok:=⟨Tryz.aZ,Tryz.func133,rfl⟩
noncomputable def Tryz.YT:ak:={P:=Tryz.prog,tt:=Tryz.tt,f:=134,fn:=Tryz.f134,live:=[0,1,4],res:=[.tmp 4]}
instance Tryz.YU:Tryz.YT.Ok:=⟨Tryz.aZ,Tryz.func134,rfl⟩
noncomputable def Tryz.YV:ak:={P:=Tryz.prog,tt:=Tryz.tt,f:=135,fn:=Tryz.f135,live:=[0,1,2,4,5,6,7,8,9,10,11,12,13,14,15,16],res:=[.tmp 4]}
instance Tryz.Jt:Tryz.YV.Ok:=⟨Tryz.aZ,Tryz.func135,rfl⟩
noncomputable def Tryz.YW:ak:={P:=Tryz.prog,tt:=Tryz.tt,f:=136,fn:=Tryz.f136,live:=[0,1,2,3,4],res:=[.tmp 2]}
instance Tryz.QB:Tryz.YW.Ok:=⟨Tryz.aZ,Tryz.func136,rfl⟩
noncomputable def Tryz.YX:ak:={P:=Tryz.prog,tt:=Tryz.tt,f:=137,fn:=Tryz.f137,live:=[0,1,2],res:=[.tmp 2]}
instance Tryz.QC:Tryz.YX.Ok:=⟨Tryz.aZ,Tryz.func137,rfl⟩
noncomputable def Tryz.YY:ak:={P:=Tryz.prog,tt:=Tryz.tt,f:=138,fn:=Tryz.f138,live:=[0,1,2,4,6],res:=[.tmp 4]}
instance Tryz.QD:Tryz.YY.Ok:=⟨Tryz.aZ,Tryz.func138,rfl⟩
noncomputable def Tryz.YZ:ak:={P:=Tryz.prog,tt:=Tryz.tt,f:=139,fn:=Tryz.f139,live:=[0,2],res:=[.tmp 2]}
instance Tryz.QE:Tryz.YZ.Ok:=⟨Tryz.aZ,Tryz.func139,rfl⟩
noncomputable def Tryz.Y0:ak:={P:=Tryz.prog,tt:=Tryz.tt,f:=140,fn:=Tryz.f140,live:=[0,2,3,4],res:=[.tmp 2]}
instance Tryz.QF:Tryz.Y0.Ok:=⟨Tryz.aZ,Tryz.func140,rfl⟩
noncomputable def Tryz.Y1:ak:={P:=Tryz.prog,tt:=Tryz.tt,f:=141,fn:=Tryz.f141,live:=[0,1,4],res:=[.tmp 4]}
instance Tryz.QG:Tryz.Y1.Ok:=⟨Tryz.aZ,Tryz.func141,rfl⟩
noncomputable def Tryz.Y2:ak:={P:=Tryz.prog,tt:=Tryz.tt,f:=142,fn:=Tryz.f142,live:=[0,2,3,4],res:=[.tmp 2]}
instance Tryz.QH:Tryz.Y2.Ok:=⟨Tryz.aZ,Tryz.func142,rfl⟩
noncomputable def Tryz.Y3:ak:={P:=Tryz.prog,tt:=Tryz.tt,f:=143,fn:=Tryz.f143,live:=[0,1,2,3,4,8,9,10,11,12,13,14,15,16,17,18,102],res:=[.cell 8 33,.tmp 9]}
instance Tryz.QI:Tryz.Y3.Ok:=⟨Tryz.aZ,Tryz.func143,rfl⟩
noncomputable def Tryz.Y4:ak:={P:=Tryz.prog,tt:=Tryz.tt,f:=144,fn:=Tryz.f144,live:=[0,1,2,3,6,7,8,9],res:=[.cell 6 33,.tmp 7]}
instance Tryz.QJ:Tryz.Y4.Ok:=⟨Tryz.aZ,Tryz.func144,rfl⟩
noncomputable def Tryz.Y5:ak:={P:=Tryz.prog,tt:=Tryz.tt,f:=145,fn:=Tryz.f145,live:=[0,1,2,3,4,8,9,10,11,12,13],res:=[.cell 8 33,.tmp 9]}
instance Tryz.QK:Tryz.Y5.Ok:=⟨Tryz.aZ,Tryz.func145,rfl⟩
noncomputable def Tryz.Y6:ak:={P:=Tryz.prog,tt:=Tryz.tt,f:=146,fn:=Tryz.f146,live:=[0,1,4,5,6],res:=[.tmp 4]}
instance Tryz.QL:Tryz.Y6.Ok:=⟨Tryz.aZ,Tryz.func146,rfl⟩
noncomputable def Tryz.Y7:ak:={P:=Tryz.prog,tt:=Tryz.tt,f:=147,fn:=Tryz.f147,live:=[0,1,2,3,4,5,6,7,8,9],res:=[.cell 2 33]}
instance Tryz.QM:Tryz.Y7.Ok:=⟨Tryz.aZ,Tryz.func147,rfl⟩
noncomputable def Tryz.Y8:ak:={P:=Tryz.prog,tt:=Tryz.tt,f:=148,fn:=Tryz.f148,live:=[0,2,3,4],res:=[.tmp 2]}
instance Tryz.Y9:Tryz.Y8.Ok:=⟨Tryz.aZ,Tryz.func148,rfl⟩
noncomputable def Tryz.Y':ak:={P:=Tryz.prog,tt:=Tryz.tt,f:=149,fn:=Tryz.f149,live:=[0,2,3,4],res:=[.tmp 2]}
instance Tryz.Za:Tryz.Y'.Ok:=⟨Tryz.aZ,Tryz.func149,rfl⟩
noncomputable def Tryz.Zb:ak:={P:=Tryz.prog,tt:=Tryz.tt,f:=150,fn:=Tryz.f150,live:=[0,1,2,4,5,6,8,10,12,14,15,16,44,45,46,55,56,57,87,88,89,100,101,102,138,139,140],res:=[.tmp 4]}
instance Tryz.QN:Tryz.Zb.Ok:=⟨Tryz.aZ,Tryz.func150,rfl⟩
noncomputable def Tryz.Zc:ak:={P:=Tryz.prog,tt:=Tryz.tt,f:=151,fn:=Tryz.f151,live:=[0,1,2,6],res:=[.tmp 6]}
instance Tryz.QO:Tryz.Zc.Ok:=⟨Tryz.aZ,Tryz.func151,rfl⟩
noncomputable def Tryz.Zd:ak:={P:=Tryz.prog,tt:=Tryz.tt,f:=152,fn:=Tryz.f152,live:=[0,1,4],res:=[.tmp 4]}
instance Tryz.QP:Tryz.Zd.Ok:=⟨Tryz.aZ,Tryz.func152,rfl⟩
noncomputable def Tryz.Ze:ak:={P:=Tryz.prog,tt:=Tryz.tt,f:=153,fn:=Tryz.f153,live:=[0,1,2,6,7],res:=[.tmp 6]}
instance Tryz.QQ:Tryz.Ze.Ok:=⟨Tryz.aZ,Tryz.func153,rfl⟩
noncomputable def Tryz.Zf:ak:={P:=Tryz.prog,tt:=Tryz.tt,f:=154,fn:=Tryz.f154,live:=[0,1,2,6,7,8],res:=[.tmp 6]}
instance Tryz.QR:Tryz.Zf.Ok:=⟨Tryz.aZ,Tryz.func154,rfl⟩
noncomputable def Tryz.Zg:ak:={P:=Tryz.prog,tt:=Tryz.tt,f:=155,fn:=Tryz.f155,live:=[0,1,4,5],res:=[.tmp 4]}
instance Tryz.QS:Tryz.Zg.Ok:=⟨Tryz.aZ,Tryz.func155,rfl⟩
noncomputable def Tryz.Zh:ak:={P:=Tryz.prog,tt:=Tryz.tt,f:=156,fn:=Tryz.f156,live:=[0,1,2,3,8,9,10],res:=[.tmp 8]}
instance Tryz.QT:Tryz.Zh.Ok:=⟨Tryz.aZ,Tryz.func156,rfl⟩
noncomputable def Tryz.Zi:ak:={P:=Tryz.prog,tt:=Tryz.tt,f:=157,fn:=Tryz.f157,live:=[0,1,4,5,7,8,9,10],res:=[.tmp 4]}
instance Tryz.QU:Tryz.Zi.Ok:=⟨Tryz.aZ,Tryz.func157,rfl⟩
noncomputable def Tryz.Zj:ak:={P:=Tryz.prog,tt:=Tryz.tt,f:=158,fn:=Tryz.f158,live:=[0,1,4,5],res:=[.tmp 4]}
instance Tryz.Zk:Tryz.Zj.Ok:=⟨Tryz.aZ,Tryz.func158,rfl⟩
noncomputable def Tryz.Zl:ak:={P:=Tryz.prog,tt:=Tryz.tt,f:=159,fn:=Tryz.f159,live:=[0,1,2,3,4,5,6,11,12,13,14,15,16,17,18,19,20,21,22,23,24,25,26,27,28,29,30,31,138],res:=[.cell 12 41,.tmp 13]}
instance Tryz.QV:Tryz.Zl.Ok:=⟨Tryz.aZ,Tryz.func159,rfl⟩
noncomputable def Tryz.Zm:ak:={P:=Tryz.prog,tt:=Tryz.tt,f:=160,fn:=Tryz.f160,live:=[0,1,3,4,5,6,7,8,9,10,11,12,13,14,15,16,17,18,19,20,21,22,23,24],res:=[.cell 4 41]}
instance Tryz.QW:Tryz.Zm.Ok:=⟨Tryz.aZ,Tryz.func160,rfl⟩
noncomputable def Tryz.Zn:ak:={P:=Tryz.prog,tt:=Tryz.tt,f:=161,fn:=Tryz.f161,live:=[0,1,2,3,4,5],res:=[.tmp 2]}
instance Tryz.QX:Tryz.Zn.Ok:=⟨Tryz.aZ,Tryz.func161,rfl⟩
noncomputable def Tryz.Zo:ak:={P:=Tryz.prog,tt:=Tryz.tt,f:=162,fn:=Tryz.f162,live:=[0,2],res:=[.tmp 2]}
instance Tryz.QY:Tryz.Zo.Ok:=⟨Tryz.aZ,Tryz.func162,rfl⟩
noncomputable def Tryz.Zp:ak:={P:=Tryz.prog,tt:=Tryz.tt,f:=163,fn:=Tryz.f163,live:=[0,2],res:=[.tmp 2]}
instance Tryz.QZ:Tryz.Zp.Ok:=⟨Tryz.aZ,Tryz.func163,rfl⟩
noncomputable def Tryz.Zq:ak:={P:=Tryz.prog,tt:=Tryz.tt,f:=164,fn:=Tryz.f164,live:=[0,1,2],res:=[.tmp 2]}
instance Tryz.Q5:Tryz.Zq.Ok:=⟨Tryz.aZ,Tryz.func164,rfl⟩
noncomputable def Tryz.Zr:ak:={P:=Tryz.prog,tt:=Tryz.tt,f:=165,fn:=Tryz.f165,live:=[0,1,4],res:=[.tmp 4]}
instance Tryz.Q6:Tryz.Zr.Ok:=⟨Tryz.aZ,Tryz.func165,rfl⟩
noncomputable def Tryz.Zs:ak:={P:=Tryz.prog,tt:=Tryz.tt,f:=166,fn:=Tryz.f166,live:=[0,2,3],res:=[.tmp 2]}
instance Tryz.Q7:Tryz.Zs.Ok:=⟨Tryz.aZ,Tryz.func166,rfl⟩
noncomputable def Tryz.Zt:ak:={P:=Tryz.prog,tt:=Tryz.tt,f:=167,fn:=Tryz.f167,live:=[0,1,2,4,5,6,7,8],res:=[.tmp 4]}
instance Tryz.Ju:Tryz.Zt.Ok:=⟨Tryz.aZ,Tryz.func167,rfl⟩
noncomputable def Tryz.Zu:ak:={P:=Tryz.prog,tt:=Tryz.tt,f:=168,fn:=Tryz.f168,live:=[0,1,2,3,6,7,8,9,10,11,12,13,14],res:=[.tmp 6]}
instance Tryz.Jv:Tryz.Zu.Ok:=⟨Tryz.aZ,Tryz.func168,rfl⟩
noncomputable def Tryz.Zv:ak:={P:=Tryz.prog,tt:=Tryz.tt,f:=169,fn:=Tryz.f169,live:=[0,1,2,4,5],res:=[.tmp 4]}
instance Tryz.Q8:Tryz.Zv.Ok:=⟨Tryz.aZ,Tryz.func169,rfl⟩
noncomputable def Tryz.Zw:ak:={P:=Tryz.prog,tt:=Tryz.tt,f:=170,fn:=Tryz.f170,live:=[0,1,2,4],res:=[.tmp 4]}
instance Tryz.Q9:Tryz.Zw.Ok:=⟨Tryz.aZ,Tryz.func170,rfl⟩
noncomputable def Tryz.Zx:ak:={P:=Tryz.prog,tt:=Tryz.tt,f:=171,fn:=Tryz.f171,live:=[0,1,2,3,4],res:=[.tmp 2]}
instance Tryz.Ra:Tryz.Zx.Ok:=⟨Tryz.aZ,Tryz.func171,rfl⟩
noncomputable def Tryz.Zy:ak:={P:=Tryz.prog,tt:=Tryz.tt,f:=172,fn:=Tryz.f172,live:=[0,2],res:=[.tmp 2]}
instance Tryz.Rb:Tryz.Zy.Ok:=⟨Tryz.aZ,Tryz.func172,rfl⟩
noncomputable def Tryz.Zz:ak:={P:=Tryz.prog,tt:=Tryz.tt,f:=173,fn:=Tryz.f173,live:=[0,1,2,3,4,8,9,10,11,12,13,14,15,16],res:=[.cell 8 33,.tmp 9]}
instance Tryz.Rc:Tryz.Zz.Ok:=⟨Tryz.aZ,Tryz.func173,rfl⟩
noncomputable def Tryz.ZA:ak:={P:=Tryz.prog,tt:=Tryz.tt,f:=174,fn:=Tryz.f174,live:=[0,1,2,3,6,7,8,9,10],res:=[.cell 6 33,.tmp 7]}
instance Tryz.Re:Tryz.ZA.Ok:=⟨Tryz.aZ,Tryz.func174,rfl⟩
noncomputable def Tryz.ZB:ak:={P:=Tryz.prog,tt:=Tryz.tt,f:=175,fn:=Tryz.f175,live:=[0,1,2,3,4,5,8,9,10,11],res:=[.cell 8 33,.tmp 9]}
instance Tryz.Rf:Tryz.ZB.Ok:=⟨Tryz.aZ,Tryz.func175,rfl⟩
noncomputable def Tryz.ZC:ak:={P:=Tryz.prog,tt:=Tryz.tt,f:=176,fn:=Tryz.f176,live:=[0,1,2,3,4,5],res:=[.tmp 2]}
instance Tryz.Rg:Tryz.ZC.Ok:=⟨Tryz.aZ,Tryz.func176,rfl⟩
noncomputable def Tryz.ZD:ak:={P:=Tryz.prog,tt:=Tryz.tt,f:=177,fn:=Tryz.f177,live:=[0,1,2,3],res:=[.cell 2 132]}
instance Tryz.ZE:Tryz.ZD.Ok:=⟨Tryz.aZ,Tryz.func177,rfl⟩
noncomputable def Tryz.ZF:ak:={P:=Tryz.prog,tt:=Tryz.tt,f:=178,fn:=Tryz.f178,live:=[0,1,2,4,10,11,12],res:=[.tmp 2]}
instance Tryz.Rh:Tryz.ZF.Ok:=⟨Tryz.aZ,Tryz.func178,rfl⟩
noncomputable def Tryz.ZG:ak:={P:=Tryz.prog,tt:=Tryz.tt,f:=179,fn:=Tryz.f179,live:=[0,1,2,4,6,12,13,14],res:=[.tmp 4]}
instance Tryz.Ri:Tryz.ZG.Ok:=⟨Tryz.aZ,Tryz.func179,rfl⟩
noncomputable def Tryz.ZH:ak:={P:=Tryz.prog,tt:=Tryz.tt,f:=180,fn:=Tryz.f180,live:=[0,1,2],res:=[.tmp 2]}
instance Tryz.Rj:Tryz.ZH.Ok:=⟨Tryz.aZ,Tryz.func180,rfl⟩
noncomputable def Tryz.ZI:ak:={P:=Tryz.prog,tt:=Tryz.tt,f:=181,fn:=Tryz.f181,live:=[0,2],res:=[.tmp 2]}
instance Tryz.Rk:Tryz.ZI.Ok:=⟨Tryz.aZ,Tryz.func181,rfl⟩
noncomputable def Tryz.ZJ:ak:={P:=Tryz.prog,tt:=Tryz.tt,f:=182,fn:=Tryz.f182,live:=[0,1,4,5,7,16,17,18],res:=[.tmp 4]}
instance Tryz.Rl:Tryz.ZJ.Ok:=⟨Tryz.aZ,Tryz.func182,rfl⟩
noncomputable def Tryz.ZK:ak:={P:=Tryz.prog,tt:=Tryz.tt,f:=183,fn:=Tryz.f183,live:=[0,1,2,3,4,5,6,7,8,9,21,22,23],res:=[.tmp 6]}
instance Tryz.ZL:Tryz.ZK.Ok:=⟨Tryz.aZ,Tryz.func183,rfl⟩
noncomputable def Tryz.ZM:ak:={P:=Tryz.prog,tt:=Tryz.tt,f:=184,fn:=Tryz.f184,live:=[0,1,2,4],res:=[.tmp 4]}
instance Tryz.Rm:Tryz.ZM.Ok:=⟨Tryz.aZ,Tryz.func184,rfl⟩
noncomputable def Tryz.ZN:ak:={P:=Tryz.prog,tt:=Tryz.tt,f:=185,fn:=Tryz.f185,live:=[0,1,2,4,5,6,7,9,11,13,14,15,16,28,29,30,40,41,42,52,53,54,65,66,67],res:=[.tmp 4]}
instance Tryz.Rn:Tryz.ZN.Ok:=⟨Tryz.aZ,Tryz.func185,rfl⟩
noncomputable def Tryz.ZO:ak:={P:=Tryz.prog,tt:=Tryz.tt,f:=186,fn:=Tryz.f186,live:=[0,1,2,3,4],res:=[.tmp 4]}
instance Tryz.ZP:Tryz.ZO.Ok:=⟨Tryz.aZ,Tryz.func186,rfl⟩
noncomputable def Tryz.ZQ:ak:={P:=Tryz.prog,tt:=Tryz.tt,f:=187,fn:=Tryz.f187,live:=[0,1,4],res:=[.tmp 4]}
instance Tryz.Ro:Tryz.ZQ.Ok:=⟨Tryz.aZ,Tryz.func187,rfl⟩
noncomputable def Tryz.ZR:ak:={P:=Tryz.prog,tt:=Tryz.tt,f:=188,fn:=Tryz.f188,live:=[0,1,4],res:=[.tmp 4]}
instance Tryz.Rp:Tryz.ZR.Ok:=⟨Tryz.aZ,Tryz.func188,rfl⟩
noncomputable def Tryz.ZS:ak:={P:=Tryz.prog,tt:=Tryz.tt,f:=189,fn:=Tryz.f189,live:=[0,1,2,3,5,8],res:=[.cell 8 41]}
instance Tryz.Rq:Tryz.ZS.Ok:=⟨Tryz.aZ,Tryz.func189,rfl⟩
noncomputable def Tryz.ZT:ak:={P:=Tryz.prog,tt:=Tryz.tt,f:=190,fn:=Tryz.f190,live:=[0,1,2,4,5,6],res:=[.tmp 4]}
instance Tryz.Rr:Tryz.ZT.Ok:=⟨Tryz.aZ,Tryz.func190,rfl⟩
noncomputable def Tryz.ZU:ak:={P:=Tryz.prog,tt:=Tryz.tt,f:=191,fn:=Tryz.f191,live:=[0,1,2,3,4,5,11,12,13],res:=[.tmp 2]}
instance Tryz.ZV:Tryz.ZU.Ok:=⟨Tryz.aZ,Tryz.func191,rfl⟩
noncomputable def Tryz.ZW:ak:={P:=Tryz.prog,tt:=Tryz.tt,f:=192,fn:=Tryz.f192,live:=[0,1,2,4],res:=[.tmp 4]}
instance Tryz.Rt:Tryz.ZW.Ok:=⟨Tryz.aZ,Tryz.func192,rfl⟩
noncomputable def Tryz.ZX:ak:={P:=Tryz.prog,tt:=Tryz.tt,f:=193,fn:=Tryz.f193,live:=[0,1],res:=[]}
instance Tryz.Ru:Tryz.ZX.Ok:=⟨Tryz.aZ,Tryz.func193,rfl⟩
noncomputable def Tryz.ZY:ak:={P:=Tryz.prog,tt:=Tryz.tt,f:=194,fn:=Tryz.f194,live:=[0,1,2,6,7,8,9,10,18],res:=[.tmp 6]}
instance Tryz.Rv:Tryz.ZY.Ok:=⟨Tryz.aZ,Tryz.func194,rfl⟩
end Go.Proofs
